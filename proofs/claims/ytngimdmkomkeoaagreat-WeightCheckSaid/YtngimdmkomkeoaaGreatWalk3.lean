/- Each function computes what its plain form says. -/
import Derived.Test.YtngimdmkomkeoaaGreatWalk2
set_option linter.unusedVariables false
set_option linter.unusedSimpArgs false
namespace Go.Proofs.YtngimdmkomkeoaaGreat.K
open Go.RowKit Go.Proofs
set_option maxHeartbeats 4000000
set_option maxRecDepth 100000
theorem k_ref21_occurs (t0 : z0q) (t1 : Int) (r : Bool) (hr : ref21_occurs t0 t1 = some r) : FnP PP 117 [z0w (z0a t0), I_ t1] (z00 r) := by
  refine Fo (fun (r : Bool) => z00 r) Tryz.func117 q (n := 22) q q hr fun X hΨ => ?_
  refine Jq q <| z17 (z0w (z0a t0)) q q <| Ra (z00 false) q q <| R0 <| Js <| Jq q <| Ra (I_ 0) q q <| R0 ?_
  refine z0n <| Jl (fun x1 => [(1, I_ t1), (2, z1r (z0a t0)), (5, I_ x1)]) (.c3 q q q .nil) (fun E2 hE2 x1 => ?_)
  refine Js <| Jq q <| Rm (I_ x1) q q <| z0f ((cL 4 z0l) t0.Slots) z55 q q q <| z11 (AL 4 z0l t0.Slots) sc_30 q q q <| z1a (cc := z0l) il_30 q q <| z1o q q q <| R0 <| z09 q (fun h6 => ?_) (fun h6 => ?_)
  rotate_left
  · exact z1j q <| z0x <| Jq q <| Ra (z00 false) q q <| Rt hΨ q q q
  refine z0e <| Js <| z0n <| Jq q <| z0f ((cL 4 z0l) t0.Slots) z55 q q q <| z11 (AL 4 z0l t0.Slots) sc_30 q q q <| Rm (I_ x1) q q <| z1b (fun h7 => ?_) (fun _ => z0u)
  refine z2k (cc := z0l) el_30 q q h7.1 h7.2 q <| z0f (z2s ((nth t0.Slots x1).Term)) z6b q q q <| z0f (z01 (((nth t0.Slots x1).Term).Var)) z5l q q q <| z11 (I_ (((nth t0.Slots x1).Term).Var)) z1t q q q <| Rm (I_ t1) q q <| z2y q q q <| R0 <| z09 q (fun h8 => ?_) (fun h8 => ?_)
  · exact Jq q <| Ra (z00 true) q q <| R0 <| z0x <| Jt hΨ (z18 q) q q
  exact z0e <| z0s <| z0o 9 (m := (t0.Slots.length : Int)) q fun q9 => z0o 5 (m := x1) q fun q10 => Jr q <| Rm (I_ x1) q q <| z1l (x1 + 1) q q (z0z (by omega) (by omega)) q <| Ra (I_ (x1 + 1)) q q <| R0 <| z41 <| Jk (hE2 (x1 + 1)) (.c3 q q q .nil)
theorem k_ref21_Valid (t0 : z06) (t1 : z0q) (r : Int) (hr : ref21_Valid t0 t1 = some r) : FnP PP 68 [z0w (z02 t0), z0w (z0a t1)] (I_ r) := by
  refine Fo (fun (r : Int) => I_ r) Tryz.func68 q (n := 114) q q hr fun X hΨ => ?_
  refine Jq q <| z17 (z0w (z02 t0)) q q <| z17 (z0w (z0a t1)) q q <| Ra (I_ 0) q q <| R0 <| Js <| Jq q <| z14 (z02 t0) z2j q q q q ?_
  refine z0d fun b1 h2 => z0j _ fn_33 (zaa _ _ h2) q q <| Rm (z35 [z1h b1.1, I_ b1.2]) q q <| z20 (z1h b1.1) q q q <| z20 (I_ b1.2) q q q <| Ra (z1h b1.1) q q <| Ra (I_ b1.2) q q <| R0 <| Jq q ?_
  refine Rm (I_ b1.2) q q <| z2a q q q <| R0 <| z09 q (fun h3 => ?_) (fun h3 => ?_)
  · exact Jq q <| Rm (I_ b1.2) q q <| Ra (I_ b1.2) q q <| Rt hΨ q q q
  refine z0e <| Js <| Jq q <| z0f (z07 t1.Graph) z27 q q q <| z14 (z07 t1.Graph) z4d q q q q <| z0d fun b4 h5 => z0j _ fn_88 (za9 _ _ h5) q q <| Ra (I_ b4) q q <| R0 ?_
  refine Jq q <| Rm (I_ b4) q q <| z2a q q q <| R0 <| z09 q (fun h6 => ?_) (fun h6 => ?_)
  · exact Jq q <| Rm (I_ b4) q q <| Ra (I_ b4) q q <| Rt hΨ q q q
  refine z0e <| Js <| Jq q <| z14 (z02 t0) z2j q q q q <| z0f (z07 t1.Graph) z27 q q q <| z14 (z07 t1.Graph) z4d q q q q <| z0d fun b7 h8 => z0j _ fn_113 (k_ref17_Typed _ _ _ h8) q q <| z2x q q ?_
  refine R0 <| z1v q (fun h9 => ?_) (fun h9 => ?_)
  · exact Jq q <| Ra (I_ 13) q q <| Rt hΨ q q q
  refine z0e <| Js <| Jq q <| z0f (z01 t1.Vars) z4q q q q <| z11 (I_ t1.Vars) z1t q q q <| z1o q q q <| Rm (z00 (decide (t1.Vars < 0))) q q <| z1b (fun h10 => ?_) (fun h10 => ?_)
  · refine Rk (z0v q q (dt h10)) <| Rk (z0v q q (dt h10)) <| Rk (z0v q q (dt h10)) <| z0k (z00 true) q (dt h10) q q <| R0 <| z1d q q <| Jq q <| Ra (I_ 6) q q <| R0 ?_
    exact Jt hΨ (z18 q) q q
  refine z0f (z01 t1.Vars) z4q q q (g_f q q (df h10)) <| z11 (I_ t1.Vars) z1t q q (g_f q q (df h10)) <| z3a q q (g_f q q (df h10)) <| z0h (z00 (decide (12 < t1.Vars))) q (df h10) q q <| R0 <| z09 q (fun h11 => ?_) (fun h11 => ?_)
  · exact Jq q <| Ra (I_ 6) q q <| Rt hΨ q q q
  refine z0e <| Js <| Jq q <| z0f ((cL 4 z0l) t1.Slots) z55 q q q <| z11 (AL 4 z0l t1.Slots) sc_30 q q q <| z1a (cc := z0l) il_30 q q <| z3a q q q <| Rm (z00 (decide (10 < (t1.Slots.length : Int)))) q q <| z1b (fun h12 => ?_) (fun h12 => ?_)
  · refine Rk (z0v q q (dt h12)) <| Rk (z0v q q (dt h12)) <| Rk (z0v q q (dt h12)) <| Rk (z0v q q (dt h12)) <| z0k (z00 true) q (dt h12) q q <| R0 <| z1d q q <| Jq q <| Ra (I_ 3) q q ?_
    exact Rt hΨ q q q
  refine z0f ((cL 5 z13) t1.Tests) fo_33_3 q q (g_f q q (df h12)) <| z11 (AL 5 z13 t1.Tests) sc_31 q q (g_f q q (df h12)) <| z1a (cc := z13) il_31 q (g_f q q (df h12)) <| z3a q q (g_f q q (df h12)) <| z0h (z00 (decide (10 < (t1.Tests.length : Int)))) q (df h12) q q <| R0 <| z09 q (fun h13 => ?_) (fun h13 => ?_)
  · exact Jq q <| Ra (I_ 3) q q <| Rt hΨ q q q
  refine z0e <| Js <| Jq q <| Ra (I_ 0) q q <| R0 <| z0n <| Jn (fun x14 => ⟨fr [(2, z1r (z02 t0)), (3, z1r (z0a t1)), (4, I_ 0), (6, I_ b1.2), (7, I_ b4), (8, I_ x14), (18, I_ b1.2), (19, I_ b1.2), (24, I_ b4), (25, I_ b4), (34, I_ t1.Vars), (38, I_ t1.Vars), (43, I_ (t1.Slots.length : Int)), (48, I_ (t1.Tests.length : Int))], hp [], 0⟩) [] [] [] q (.s2 q q (.s6 q q q q q q (.s6 q q q q q q .nil))) .nil q q (fun E15 hE15 x14 => ?_)
  refine Js <| Jq q <| Rm (I_ x14) q q <| z0f ((cL 4 z0l) t1.Slots) z55 q q q <| z11 (AL 4 z0l t1.Slots) sc_30 q q q <| z1a (cc := z0l) il_30 q q <| z1o q q q <| R0 <| z09 q (fun h26 => ?_) (fun h26 => ?_)
  rotate_left
  · refine z1j q <| z7w <| Js <| Jq q <| z0f (z01 t1.Vars) z4q q q q <| z11 (I_ t1.Vars) z1t q q q <| z0f ((cL 5 z13) t1.Tests) fo_33_3 q q q <| z11 (AL 5 z13 t1.Tests) sc_31 q q q <| z0d fun b38 h39 => ?_
    refine z0j _ fn_116 (k_ref03_Valid _ _ _ h39) q q <| Ra (I_ b38) q q <| R0 <| Jq q <| Rm (I_ b38) q q <| z2a q q q <| R0 <| z09 q (fun h40 => ?_) (fun h40 => ?_)
    · exact Jq q <| Rm (I_ b38) q q <| Ra (I_ b38) q q <| Rt hΨ q q q
    refine z0e <| Js <| Jq q <| Ra (I_ 0) q q <| R0 <| z0n <| Jn (fun x41 => ⟨fr [(3, z1r (z0a t1)), (4, I_ 0), (6, I_ b1.2), (7, I_ b4), (8, I_ x14), (12, I_ b38), (13, I_ x41), (18, I_ b1.2), (19, I_ b1.2), (24, I_ b4), (25, I_ b4), (34, I_ t1.Vars), (38, I_ t1.Vars), (43, I_ (t1.Slots.length : Int)), (48, I_ (t1.Tests.length : Int)), (51, I_ x14), (54, I_ (t1.Slots.length : Int)), (97, I_ t1.Vars), (100, I_ b38), (101, I_ b38)], hp [], 0⟩) [] [] [] q (.s2 q q (.s6 q q q q q q (.s6 q q q q q q (.s6 q q q q q q .nil)))) .nil q q (fun E42 hE42 x41 => ?_)
    refine Js <| Jq q <| Rm (I_ x41) q q <| z0f (z01 t1.Vars) z4q q q q <| z11 (I_ t1.Vars) z1t q q q <| z1o q q q <| R0 <| z09 q (fun h47 => ?_) (fun h47 => ?_)
    rotate_left
    · exact z1j q <| z0x <| Jq q <| Ra (I_ 0) q q <| Rt hΨ q q q
    refine z0e <| Js <| z0n <| Jq q <| z14 (z0a t1) ag_33 q q q q <| Rm (I_ x41) q q <| z0d fun b48 h49 => z0j _ fn_117 (k_ref21_occurs _ _ _ h49) q q <| z2x q q ?_
    refine R0 <| z1v q (fun h50 => ?_) (fun h50 => ?_)
    · exact Jq q <| Ra (I_ 9) q q <| R0 <| z0x <| Jt hΨ (z18 q) q q
    exact z0e <| z0s <| z0o 34 (m := t1.Vars) q fun q51 => z0o 13 (m := x41) q fun q52 => Jr q <| Rm (I_ x41) q q <| z1l (x41 + 1) q q (z0z (by omega) (by omega)) q <| Ra (I_ (x41 + 1)) q q <| R0 <| z41 <| Jc [] [] [] (hE42 (x41 + 1)) (.s2 q q (.s6 q q q q q q (.s6 q q q q q q (.s6 q q q q q q .nil)))) .nil q q
  refine z0e <| Js <| z0n <| Jq q <| z0f ((cL 4 z0l) t1.Slots) z55 q q q <| z11 (AL 4 z0l t1.Slots) sc_30 q q q <| Rm (I_ x14) q q <| z1b (fun h27 => ?_) (fun _ => z0u)
  refine z2k (cc := z0l) el_30 q q h27.1 h27.2 q <| z14 (z0l (nth t1.Slots x14)) ag_156 q q q q <| z1x 0 _ z_156 q q <| z2p (z0i 0) (z0w (z0l (nth t1.Slots x14))) (z0l (nth t1.Slots x14)) sz_156 q .obj q q q q q q <| R0 <| Jq q <| z14 (z02 t0) z2j q q q q <| z14 (z0a t1) ag_33 q q q q <| z24 (z0i 0) 0 z7s q .obj q q q ?_
  refine z2b (z1f 0 0) (I_ ((nth t1.Slots x14).Node)) z1t q .at q q q <| z24 (z0i 0) 1 zag q .obj q q q <| z2b (z1f 0 1) (I_ ((nth t1.Slots x14).Attr)) z1t q .at q q q <| z0d fun b28 h29 => z0j _ fn_114 (k_ref21_attr _ _ _ _ _ h29) q q <| Rm (z35 [z0w (z08 b28.1), z00 b28.2]) q q <| z20 (z0w (z08 b28.1)) q q q <| z20 (z00 b28.2) q q q <| z1x 1 _ z_100 q q <| z2p (z0i 1) (z0w (z08 b28.1)) (z08 b28.1) sz_100 q .obj q q q q q q ?_
  refine Ra (z00 b28.2) q q <| R0 <| Jq q <| Rm (z00 b28.2) q q <| z2x q q <| Rm (z00 (!b28.2)) q q <| z1b (fun h30 => ?_) (fun h30 => ?_)
  · refine Rk (z0v q q h30) <| Rk (z0v q q h30) <| Rk (z0v q q h30) <| Rk (z0v q q h30) <| z0k (z00 true) q h30 q q <| Rm (z00 true) q q <| Rk (z0v q q q) <| Rk (z0v q q q) <| Rk (z0v q q q) <| Rk (z0v q q q) ?_
    refine Rk (z0v q q q) <| Rk (z0v q q q) <| z0k (z00 true) q q q q <| Rm (z00 true) q q <| Rk (z0v q q q) <| Rk (z0v q q q) <| Rk (z0v q q q) <| Rk (z0v q q q) <| Rk (z0v q q q) <| z0k (z00 true) q q q q ?_
    exact R0 <| z1d q q <| Jq q <| Ra (I_ 6) q q <| R0 <| z0x <| Jt hΨ (z18 q) q q
  refine z24 (z0i 0) 2 z6b q .obj q q (g_f q q (bf h30)) <| z24 (z1f 0 2) 2 z5l q .at q q (g_f q q (bf h30)) <| z2b (z1f 0 2) (I_ (((nth t1.Slots x14).Term).Var)) z1t q .at q q (g_f q q (bf h30)) <| z1o q q (g_f q q (bf h30)) <| z0h (z00 (decide (((nth t1.Slots x14).Term).Var < (-1)))) q (bf h30) q q <| Rm (z00 (decide (((nth t1.Slots x14).Term).Var < (-1)))) q q <| z1b (fun h31 => ?_) (fun h31 => ?_)
  · refine Rk (z0v q q (dt h31)) <| Rk (z0v q q (dt h31)) <| Rk (z0v q q (dt h31)) <| Rk (z0v q q (dt h31)) <| Rk (z0v q q (dt h31)) <| Rk (z0v q q (dt h31)) <| z0k (z00 true) q (dt h31) q q <| Rm (z00 true) q q <| Rk (z0v q q q) <| Rk (z0v q q q) ?_
    refine Rk (z0v q q q) <| Rk (z0v q q q) <| Rk (z0v q q q) <| z0k (z00 true) q q q q <| R0 <| z1d q q <| Jq q <| Ra (I_ 6) q q <| R0 ?_
    exact z0x <| Jt hΨ (z18 q) q q
  refine z24 (z0i 0) 2 z6b q .obj q q (g_f q q (df h31)) <| z24 (z1f 0 2) 2 z5l q .at q q (g_f q q (df h31)) <| z2b (z1f 0 2) (I_ (((nth t1.Slots x14).Term).Var)) z1t q .at q q (g_f q q (df h31)) <| z0f (z01 t1.Vars) z4q q q (g_f q q (df h31)) <| z11 (I_ t1.Vars) z1t q q (g_f q q (df h31)) <| z3c q q (g_f q q (df h31)) <| z0h (z00 (decide (t1.Vars ≤ ((nth t1.Slots x14).Term).Var))) q (df h31) q q <| Rm (z00 (decide (t1.Vars ≤ ((nth t1.Slots x14).Term).Var))) q q <| z1b (fun h32 => ?_) (fun h32 => ?_)
  · refine Rk (z0v q q (dt h32)) <| Rk (z0v q q (dt h32)) <| Rk (z0v q q (dt h32)) <| Rk (z0v q q (dt h32)) <| Rk (z0v q q (dt h32)) <| z0k (z00 true) q (dt h32) q q <| R0 <| z1d q q <| Jq q ?_
    exact Ra (I_ 6) q q <| R0 <| z0x <| Jt hΨ (z18 q) q q
  refine z24 (z0i 0) 2 z6b q .obj q q (g_f q q (df h32)) <| z24 (z1f 0 2) 3 fo_154_1 q .at q q (g_f q q (df h32)) <| z2b (z1f 0 3) (I_ (((nth t1.Slots x14).Term).Add)) z1t q .at q q (g_f q q (df h32)) <| z0d fun b33 h34 => z0j _ fn_115 (k_ref21_bounded _ _ h34) q (g_f q q (df h32)) <| z2x q (g_f q q (df h32)) <| z0h (z00 (!b33)) q (df h32) q q <| R0 <| z1v q (fun h35 => ?_) (fun h35 => ?_)
  · exact Jq q <| Ra (I_ 6) q q <| R0 <| z0x <| Jt hΨ (z18 q) q q
  exact z0e <| z0s <| z0o 43 (m := (t1.Slots.length : Int)) q fun q36 => z0o 8 (m := x14) q fun q37 => Jr q <| Rm (I_ x14) q q <| z1l (x14 + 1) q q (z0z (by omega) (by omega)) q <| Ra (I_ (x14 + 1)) q q <| R0 <| z41 <| Jc [] [] [] (hE15 (x14 + 1)) (.s2 q q (.s6 q q q q q q (.s6 q q q q q q .nil))) .nil q q
theorem k_ref24_slot (t0 : z06) (t1 : z0q) (t2 : Int) (r : Int) (hr : ref24_slot t0 t1 t2 = some r) : FnP PP 118 [z0w (z02 t0), z0w (z0a t1), I_ t2] (I_ r) := by
  refine Fo (fun (r : Int) => I_ r) Tryz.func118 q (n := 101) q q hr fun X hΨ => ?_
  refine Jq q <| z17 (z0w (z02 t0)) q q <| z17 (z0w (z0a t1)) q q <| Ra (I_ 0) q q <| R0 <| Jq q <| z0f ((cL 4 z0l) t1.Slots) z55 q q q <| z11 (AL 4 z0l t1.Slots) sc_30 q q q ?_
  refine Rm (I_ t2) q q <| z1b (fun h1 => ?_) (fun _ => z0u)
  refine z2k (cc := z0l) el_30 q q h1.1 h1.2 q <| z14 (z0l (nth t1.Slots t2)) ag_156 q q q q <| z1x 0 _ z_156 q q <| z2p (z0i 0) (z0w (z0l (nth t1.Slots t2))) (z0l (nth t1.Slots t2)) sz_156 q .obj q q q q q q <| R0 <| Js <| Jq q <| z24 (z0i 0) 0 z7s q .obj q q q <| z2b (z1f 0 0) (I_ ((nth t1.Slots t2).Node)) z1t q .at q q q ?_
  refine z1o q q q <| Rm (z00 (decide ((nth t1.Slots t2).Node < 0))) q q <| z1b (fun h2 => ?_) (fun h2 => ?_)
  · refine Rk (z0v q q (dt h2)) <| Rk (z0v q q (dt h2)) <| Rk (z0v q q (dt h2)) <| Rk (z0v q q (dt h2)) <| Rk (z0v q q (dt h2)) <| Rk (z0v q q (dt h2)) <| Rk (z0v q q (dt h2)) <| z0k (z00 true) q (dt h2) q q <| R0 <| z1d q q ?_
    exact Jq q <| Ra (I_ 6) q q <| Rt hΨ q q q
  refine z24 (z0i 0) 0 z7s q .obj q q (g_f q q (df h2)) <| z2b (z1f 0 0) (I_ ((nth t1.Slots t2).Node)) z1t q .at q q (g_f q q (df h2)) <| z0f (z07 t1.Graph) z27 q q (g_f q q (df h2)) <| z0f ((cL 1 z01) t1.Graph.Nodes) z29 q q (g_f q q (df h2)) <| z11 (AL 1 z01 t1.Graph.Nodes) z1s q q (g_f q q (df h2)) <| z1a (cc := z01) z2m q (g_f q q (df h2)) <| z3c q q (g_f q q (df h2)) <| z0h (z00 (decide ((t1.Graph.Nodes.length : Int) ≤ (nth t1.Slots t2).Node))) q (df h2) q q <| R0 <| z09 q (fun h3 => ?_) (fun h3 => ?_)
  · exact Jq q <| Ra (I_ 6) q q <| Rt hΨ q q q
  refine z0e <| Js <| z2g <| z14 (z02 t0) z2j q q q q <| z0f (z07 t1.Graph) z27 q q q <| z0f ((cL 1 z01) t1.Graph.Nodes) z29 q q q <| z11 (AL 1 z01 t1.Graph.Nodes) z1s q q q <| z24 (z0i 0) 0 z7s q .obj q q q <| z2b (z1f 0 0) (I_ ((nth t1.Slots t2).Node)) z1t q .at q q q <| z1b (fun h4 => ?_) (fun _ => z0u)
  refine z2k (cc := z01) z1w q q h4.1 h4.2 q <| z11 (I_ (nth t1.Graph.Nodes ((nth t1.Slots t2).Node))) z1t q q q <| z0d fun b5 h6 => z0j _ fn_163 (k_ref04_Attrs _ _ _ h6) q q <| Rm (z35 [AL 4 z08 b5.1, I_ b5.2]) q q <| z20 (AL 4 z08 b5.1) q q q <| z20 (I_ b5.2) q q q <| Ra (AL 4 z08 b5.1) q q <| Ra (I_ b5.2) q q <| z1y (by kernel_rfl) ?_
  refine Js <| Jq q <| z24 (z0i 0) 1 zag q .obj q q q <| z2b (z1f 0 1) (I_ ((nth t1.Slots t2).Attr)) z1t q .at q q q <| z1o q q q <| Rm (z00 (decide ((nth t1.Slots t2).Attr < 0))) q q <| z1b (fun h7 => ?_) (fun h7 => ?_)
  · refine Rk (z0v q q (dt h7)) <| Rk (z0v q q (dt h7)) <| Rk (z0v q q (dt h7)) <| Rk (z0v q q (dt h7)) <| Rk (z0v q q (dt h7)) <| z0k (z00 true) q (dt h7) q q <| Rm (z00 true) q q <| Rk (z0v q q q) <| Rk (z0v q q q) <| Rk (z0v q q q) ?_
    refine Rk (z0v q q q) <| z0k (z00 true) q q q q <| Rm (z00 true) q q <| Rk (z0v q q q) <| Rk (z0v q q q) <| Rk (z0v q q q) <| Rk (z0v q q q) <| Rk (z0v q q q) <| Rk (z0v q q q) <| z0k (z00 true) q q q q ?_
    refine Rm (z00 true) q q <| Rk (z0v q q q) <| Rk (z0v q q q) <| Rk (z0v q q q) <| Rk (z0v q q q) <| z0k (z00 true) q q q q <| Rm (z00 true) q q <| Rk (z0v q q q) <| Rk (z0v q q q) <| Rk (z0v q q q) ?_
    exact Rk (z0v q q q) <| z0k (z00 true) q q q q <| R0 <| z1d q q <| Jq q <| Ra (I_ 6) q q <| Rt hΨ q q q
  refine z24 (z0i 0) 1 zag q .obj q q (g_f q q (df h7)) <| z2b (z1f 0 1) (I_ ((nth t1.Slots t2).Attr)) z1t q .at q q (g_f q q (df h7)) <| Rm (AL 4 z08 b5.1) q (g_f q q (df h7)) <| z1a (cc := z08) il_95 q (g_f q q (df h7)) <| z3c q q (g_f q q (df h7)) <| z0h (z00 (decide ((b5.1.length : Int) ≤ (nth t1.Slots t2).Attr))) q (df h7) q q <| Rm (z00 (decide ((b5.1.length : Int) ≤ (nth t1.Slots t2).Attr))) q q <| z1b (fun h8 => ?_) (fun h8 => ?_)
  · refine Rk (z0v q q (dt h8)) <| Rk (z0v q q (dt h8)) <| Rk (z0v q q (dt h8)) <| Rk (z0v q q (dt h8)) <| z0k (z00 true) q (dt h8) q q <| Rm (z00 true) q q <| Rk (z0v q q q) <| Rk (z0v q q q) <| Rk (z0v q q q) <| Rk (z0v q q q) ?_
    refine Rk (z0v q q q) <| Rk (z0v q q q) <| z0k (z00 true) q q q q <| Rm (z00 true) q q <| Rk (z0v q q q) <| Rk (z0v q q q) <| Rk (z0v q q q) <| Rk (z0v q q q) <| z0k (z00 true) q q q q <| Rm (z00 true) q q ?_
    refine Rk (z0v q q q) <| Rk (z0v q q q) <| Rk (z0v q q q) <| Rk (z0v q q q) <| z0k (z00 true) q q q q <| R0 <| z1d q q <| Jq q <| Ra (I_ 6) q q ?_
    exact Rt hΨ q q q
  refine z24 (z0i 0) 2 z6b q .obj q q (g_f q q (df h8)) <| z24 (z1f 0 2) 2 z5l q .at q q (g_f q q (df h8)) <| z2b (z1f 0 2) (I_ (((nth t1.Slots t2).Term).Var)) z1t q .at q q (g_f q q (df h8)) <| z1o q q (g_f q q (df h8)) <| z0h (z00 (decide (((nth t1.Slots t2).Term).Var < (-1)))) q (df h8) q q <| Rm (z00 (decide (((nth t1.Slots t2).Term).Var < (-1)))) q q <| z1b (fun h9 => ?_) (fun h9 => ?_)
  · refine Rk (z0v q q (dt h9)) <| Rk (z0v q q (dt h9)) <| Rk (z0v q q (dt h9)) <| Rk (z0v q q (dt h9)) <| Rk (z0v q q (dt h9)) <| Rk (z0v q q (dt h9)) <| z0k (z00 true) q (dt h9) q q <| Rm (z00 true) q q <| Rk (z0v q q q) <| Rk (z0v q q q) ?_
    refine Rk (z0v q q q) <| Rk (z0v q q q) <| z0k (z00 true) q q q q <| Rm (z00 true) q q <| Rk (z0v q q q) <| Rk (z0v q q q) <| Rk (z0v q q q) <| Rk (z0v q q q) <| z0k (z00 true) q q q q <| R0 ?_
    exact z1d q q <| Jq q <| Ra (I_ 6) q q <| Rt hΨ q q q
  refine z24 (z0i 0) 2 z6b q .obj q q (g_f q q (df h9)) <| z24 (z1f 0 2) 2 z5l q .at q q (g_f q q (df h9)) <| z2b (z1f 0 2) (I_ (((nth t1.Slots t2).Term).Var)) z1t q .at q q (g_f q q (df h9)) <| z0f (z01 t1.Vars) z4q q q (g_f q q (df h9)) <| z11 (I_ t1.Vars) z1t q q (g_f q q (df h9)) <| z3c q q (g_f q q (df h9)) <| z0h (z00 (decide (t1.Vars ≤ ((nth t1.Slots t2).Term).Var))) q (df h9) q q <| Rm (z00 (decide (t1.Vars ≤ ((nth t1.Slots t2).Term).Var))) q q <| z1b (fun h10 => ?_) (fun h10 => ?_)
  · refine Rk (z0v q q (dt h10)) <| Rk (z0v q q (dt h10)) <| Rk (z0v q q (dt h10)) <| Rk (z0v q q (dt h10)) <| z0k (z00 true) q (dt h10) q q <| Rm (z00 true) q q <| Rk (z0v q q q) <| Rk (z0v q q q) <| Rk (z0v q q q) <| Rk (z0v q q q) ?_
    exact z0k (z00 true) q q q q <| R0 <| z1d q q <| Jq q <| Ra (I_ 6) q q <| Rt hΨ q q q
  refine z24 (z0i 0) 2 z6b q .obj q q (g_f q q (df h10)) <| z24 (z1f 0 2) 3 fo_154_1 q .at q q (g_f q q (df h10)) <| z2b (z1f 0 3) (I_ (((nth t1.Slots t2).Term).Add)) z1t q .at q q (g_f q q (df h10)) <| z1o q q (g_f q q (df h10)) <| z0h (z00 (decide (((nth t1.Slots t2).Term).Add < (-1000000)))) q (df h10) q q <| Rm (z00 (decide (((nth t1.Slots t2).Term).Add < (-1000000)))) q q <| z1b (fun h11 => ?_) (fun h11 => ?_)
  · refine Rk (z0v q q (dt h11)) <| Rk (z0v q q (dt h11)) <| Rk (z0v q q (dt h11)) <| Rk (z0v q q (dt h11)) <| z0k (z00 true) q (dt h11) q q <| R0 <| z1d q q <| Jq q <| Ra (I_ 6) q q ?_
    exact Rt hΨ q q q
  refine z24 (z0i 0) 2 z6b q .obj q q (g_f q q (df h11)) <| z24 (z1f 0 2) 3 fo_154_1 q .at q q (g_f q q (df h11)) <| z2b (z1f 0 3) (I_ (((nth t1.Slots t2).Term).Add)) z1t q .at q q (g_f q q (df h11)) <| z3a q q (g_f q q (df h11)) <| z0h (z00 (decide (1000000 < ((nth t1.Slots t2).Term).Add))) q (df h11) q q <| R0 <| z09 q (fun h12 => ?_) (fun h12 => ?_)
  · exact Jq q <| Ra (I_ 6) q q <| Rt hΨ q q q
  refine z0e <| Js <| Jq q <| Ra (I_ 0) q q <| R0 <| z0n <| Jn (fun x13 => ⟨fr [(2, I_ t2), (4, z1r (z0a t1)), (6, I_ 0), (7, z0i 0), (10, I_ x13), (13, I_ t2), (17, I_ ((nth t1.Slots t2).Node)), (21, I_ ((nth t1.Slots t2).Node)), (25, I_ (t1.Graph.Nodes.length : Int)), (34, I_ ((nth t1.Slots t2).Node)), (41, I_ ((nth t1.Slots t2).Attr)), (45, I_ ((nth t1.Slots t2).Attr)), (47, I_ (b5.1.length : Int)), (53, I_ (((nth t1.Slots t2).Term).Var)), (59, I_ (((nth t1.Slots t2).Term).Var)), (61, I_ t1.Vars), (67, I_ (((nth t1.Slots t2).Term).Add)), (73, I_ (((nth t1.Slots t2).Term).Add))], hp [(0, .box 156 (z0l (nth t1.Slots t2)))], 1⟩) [] [] [] q (.s3 q q q (.cons (A := z0i 0) q (.obj q q q) (.s2 q q (.s6 q q q q q q (.s6 q q q q q q .nil))))) (.cons q q q q (.box (CvL.sames)) q q .nil) q q (fun E14 hE14 x13 => ?_)
  refine Js <| Jq q <| Rm (I_ x13) q q <| Rm (I_ t2) q q <| z1o q q q <| R0 <| z09 q (fun h21 => ?_) (fun h21 => ?_)
  rotate_left
  · exact z1j q <| z0x <| Jq q <| Ra (I_ 0) q q <| Rt hΨ q q q
  refine z0e <| Js <| z0n <| Js ?_
  apply z2w (fun v25 => ⟨fr [(2, I_ t2), (4, z1r (z0a t1)), (6, I_ 0), (7, z0i 0), (10, I_ x13), (13, I_ t2), (17, I_ ((nth t1.Slots t2).Node)), (21, I_ ((nth t1.Slots t2).Node)), (25, I_ (t1.Graph.Nodes.length : Int)), (34, I_ ((nth t1.Slots t2).Node)), (41, I_ ((nth t1.Slots t2).Attr)), (45, I_ ((nth t1.Slots t2).Attr)), (47, I_ (b5.1.length : Int)), (53, I_ (((nth t1.Slots t2).Term).Var)), (59, I_ (((nth t1.Slots t2).Term).Var)), (61, I_ t1.Vars), (67, I_ (((nth t1.Slots t2).Term).Add)), (73, I_ (((nth t1.Slots t2).Term).Add)), (76, I_ x13), (77, I_ t2), (83, I_ x13), (86, I_ ((nth t1.Slots x13).Node)), (88, I_ ((nth t1.Slots t2).Node))], hp [(0, .box 156 (z0l (nth t1.Slots t2)))], 1⟩) (fun v25 => ref24_slot_j25 x13 v25)
  · intro K26
    refine z2g <| z0f ((cL 4 z0l) t1.Slots) z55 q q q <| z11 (AL 4 z0l t1.Slots) sc_30 q q q <| Rm (I_ x13) q q <| z1b (fun h22 => ?_) (fun _ => z0u)
    refine z2k (cc := z0l) el_30 q q h22.1 h22.2 q <| z0f (z01 ((nth t1.Slots x13).Node)) z7s q q q <| z11 (I_ ((nth t1.Slots x13).Node)) z1t q q q <| z24 (z0i 0) 0 z7s q .obj q q q <| z2b (z1f 0 0) (I_ ((nth t1.Slots t2).Node)) z1t q .at q q q <| z2y q q q <| Rm (z00 (decide ((nth t1.Slots x13).Node = (nth t1.Slots t2).Node))) q q <| z1b (fun h23 => ?_) (fun h23 => ?_)
    rotate_left
    · refine Rk (z0y q q (df h23)) <| Rk (z0y q q (df h23)) <| Rk (z0y q q (df h23)) <| Rk (z0y q q (df h23)) <| Rk (z0y q q (df h23)) <| Rk (z0y q q (df h23)) <| Rk (z0y q q (df h23)) <| Rk (z0y q q (df h23)) <| Rk (z0y q q (df h23)) <| z0h (z00 false) q (df h23) q q ?_
      exact z1y (by kernel_rfl) <| J_cond_F q q <| Jc [] [] [] (K26 ()) (.s3 q q q (.cons (A := z0i 0) q (.obj q q q) (.same q (.s6 q q q q q q (.s6 q q q q q q (.s6 q q q q q q .nil)))))) (.cons q q q q (.box (CvL.sames)) q q .nil) q q
    refine z0f ((cL 4 z0l) t1.Slots) z55 q q (g_t q q (dt h23)) <| z11 (AL 4 z0l t1.Slots) sc_30 q q (g_t q q (dt h23)) <| Rm (I_ x13) q (g_t q q (dt h23)) <| z2k (cc := z0l) el_30 q q h22.1 h22.2 (g_t q q (dt h23)) <| z0f (z01 ((nth t1.Slots x13).Attr)) zag q q (g_t q q (dt h23)) <| z11 (I_ ((nth t1.Slots x13).Attr)) z1t q q (g_t q q (dt h23)) <| z24 (z0i 0) 1 zag q .obj q q (g_t q q (dt h23)) <| z2b (z1f 0 1) (I_ ((nth t1.Slots t2).Attr)) z1t q .at q q (g_t q q (dt h23)) <| z2y q q (g_t q q (dt h23)) <| z0k (z00 (decide ((nth t1.Slots x13).Attr = (nth t1.Slots t2).Attr))) q (dt h23) q q ?_
    refine z1y (by kernel_rfl) <| z09 q (fun h24 => ?_) (fun h24 => ?_)
    rotate_left
    · exact Jc [] [] [] (K26 ()) (.s3 q q q (.cons (A := z0i 0) q (.obj q q q) (.same q (.s6 q q q q q q (.s6 q q q q q q (.s6 q q q q q q .nil)))))) (.cons q q q q (.box (CvL.sames)) q q .nil) q q
    exact Jq q <| Ra (I_ 5) q q <| R0 <| z0x <| Jt hΨ (z18 q) q q
  intro v25
  exact z0e <| z0s <| z0o 2 (m := t2) q fun q27 => z0o 10 (m := x13) q fun q28 => Jr q <| Rm (I_ x13) q q <| z1l (x13 + 1) q q (z0z (by omega) (by omega)) q <| Ra (I_ (x13 + 1)) q q <| R0 <| z41 <| Jc [] [] [] (hE14 (x13 + 1)) (.s3 q q q (.cons (A := z0i 0) q (.obj q q q) (.s2 q q (.s6 q q q q q q (.s6 q q q q q q .nil))))) (.cons q q q q (.box (CvL.sames)) q q .nil) q q
theorem k_ref24_right (t0 : z06) (t1 : z10) (r : Int) (hr : ref24_right t0 t1 = some r) : FnP PP 69 [z0w (z02 t0), z0w (z0g t1)] (I_ r) := by
  refine Fo (fun (r : Int) => I_ r) Tryz.func69 q (n := 56) q q hr fun X hΨ => ?_
  refine Jq q <| z17 (z0w (z02 t0)) q q <| z17 (z0w (z0g t1)) q q <| Ra (I_ 0) q q <| R0 <| Js <| Jq q <| z0f (z0a t1.Right) z3e q q q ?_
  refine z0f (z07 t1.Right.Graph) z27 q q q <| z14 (z07 t1.Right.Graph) z4d q q q q <| z0d fun b1 h2 => z0j _ fn_88 (za9 _ _ h2) q q <| Ra (I_ b1) q q <| R0 <| Jq q <| Rm (I_ b1) q q <| z2a q q q ?_
  refine R0 <| z09 q (fun h3 => ?_) (fun h3 => ?_)
  · exact Jq q <| Rm (I_ b1) q q <| Ra (I_ b1) q q <| Rt hΨ q q q
  refine z0e <| Js <| Jq q <| z14 (z02 t0) z2j q q q q <| z0f (z0a t1.Right) z3e q q q <| z0f (z07 t1.Right.Graph) z27 q q q <| z14 (z07 t1.Right.Graph) z4d q q q q <| z0d fun b4 h5 => z0j _ fn_113 (k_ref17_Typed _ _ _ h5) q q ?_
  refine z2x q q <| R0 <| z1v q (fun h6 => ?_) (fun h6 => ?_)
  · exact Jq q <| Ra (I_ 13) q q <| Rt hΨ q q q
  refine z0e <| Js <| Jq q <| z0f (z0a t1.Right) z3e q q q <| z0f (z01 t1.Right.Vars) z4q q q q <| z11 (I_ t1.Right.Vars) z1t q q q <| z0f (z0a t1.Left) z6q q q q <| z0f (z01 t1.Left.Vars) z4q q q q <| z11 (I_ t1.Left.Vars) z1t q q q ?_
  refine z2a q q q <| Rm (z00 (decide (¬ (t1.Right.Vars = t1.Left.Vars)))) q q <| z1b (fun h7 => ?_) (fun h7 => ?_)
  · refine Rk (z0v q q (dt h7)) <| Rk (z0v q q (dt h7)) <| Rk (z0v q q (dt h7)) <| Rk (z0v q q (dt h7)) <| Rk (z0v q q (dt h7)) <| z0k (z00 true) q (dt h7) q q <| R0 <| z1d q q <| Jq q ?_
    exact Ra (I_ 1) q q <| Rt hΨ q q q
  refine z0f (z0a t1.Right) z3e q q (g_f q q (df h7)) <| z0f ((cL 5 z13) t1.Right.Tests) fo_33_3 q q (g_f q q (df h7)) <| z11 (AL 5 z13 t1.Right.Tests) sc_31 q q (g_f q q (df h7)) <| z1a (cc := z13) il_31 q (g_f q q (df h7)) <| z3a q q (g_f q q (df h7)) <| z0h (z00 (decide (0 < (t1.Right.Tests.length : Int)))) q (df h7) q q <| R0 <| z09 q (fun h8 => ?_) (fun h8 => ?_)
  · exact Jq q <| Ra (I_ 1) q q <| Rt hΨ q q q
  refine z0e <| Js <| Jq q <| z0f (z0a t1.Right) z3e q q q <| z0f ((cL 4 z0l) t1.Right.Slots) z55 q q q <| z11 (AL 4 z0l t1.Right.Slots) sc_30 q q q <| z1a (cc := z0l) il_30 q q <| z3a q q q <| R0 ?_
  refine z09 q (fun h9 => ?_) (fun h9 => ?_)
  · exact Jq q <| Ra (I_ 3) q q <| Rt hΨ q q q
  refine z0e <| Js <| Jq q <| Ra (I_ 0) q q <| R0 <| z0n <| Jl (fun x10 => [(2, z1r (z02 t0)), (3, z1r (z0g t1)), (4, I_ 0), (5, I_ b1), (6, I_ x10), (11, I_ b1), (12, I_ b1), (23, I_ t1.Right.Vars), (26, I_ t1.Left.Vars), (32, I_ (t1.Right.Tests.length : Int)), (38, I_ (t1.Right.Slots.length : Int))]) (.c2 q q (.c3 q q q (.c6 q q q q q q .nil))) (fun E11 hE11 x10 => ?_)
  refine Js <| Jq q <| Rm (I_ x10) q q <| z0f (z0a t1.Right) z3e q q q <| z0f ((cL 4 z0l) t1.Right.Slots) z55 q q q <| z11 (AL 4 z0l t1.Right.Slots) sc_30 q q q <| z1a (cc := z0l) il_30 q q <| z1o q q q <| R0 ?_
  refine z09 q (fun h16 => ?_) (fun h16 => ?_)
  rotate_left
  · exact z1j q <| z0x <| Jq q <| Ra (I_ 0) q q <| Rt hΨ q q q
  refine z0e <| Js <| z0n <| Jq q <| z14 (z02 t0) z2j q q q q <| z0f (z0a t1.Right) z3e q q q <| z14 (z0a t1.Right) ag_33 q q q q <| Rm (I_ x10) q q <| z0d fun b17 h18 => ?_
  refine z0j _ fn_118 (k_ref24_slot _ _ _ _ h18) q q <| Ra (I_ b17) q q <| R0 <| Jq q <| Rm (I_ b17) q q <| z2a q q q <| R0 <| z09 q (fun h19 => ?_) (fun h19 => ?_)
  · exact Jq q <| Rm (I_ b17) q q <| Ra (I_ b17) q q <| R0 <| z0x <| Jt hΨ (z18 q) q q
  exact z0e <| z0s <| z0o 38 (m := (t1.Right.Slots.length : Int)) q fun q20 => z0o 6 (m := x10) q fun q21 => Jr q <| Rm (I_ x10) q q <| z1l (x10 + 1) q q (z0z (by omega) (by omega)) q <| Ra (I_ (x10 + 1)) q q <| R0 <| z41 <| Jk (hE11 (x10 + 1)) (.c2 q q (.c3 q q q (.c6 q q q q q q .nil)))
theorem k_ref07_ascending (t0 : (List Int)) (t1 : Int) (r : Int) (hr : z9y t0 t1 = some r) : FnP PP 207 [AL 1 z01 t0, I_ t1] (I_ r) := by
  refine Fo (fun (r : Int) => I_ r) Tryz.func207 q (n := 39) q q hr fun X hΨ => ?_
  refine Jq q <| Ra (I_ 0) q q <| R0 <| Js <| Jq q <| Ra (I_ 0) q q <| R0 <| z0n ?_
  refine Jl (fun x1 => [(0, AL 1 z01 t0), (1, I_ t1), (5, I_ x1)]) (.c3 q q q .nil) (fun E2 hE2 x1 => ?_)
  refine Js <| Jq q <| Rm (I_ x1) q q <| Rm (AL 1 z01 t0) q q <| z1a (cc := z01) z2m q q <| z1o q q q <| R0 <| z09 q (fun h12 => ?_) (fun h12 => ?_)
  rotate_left
  · exact z1j q <| z0x <| Jq q <| Ra (I_ 0) q q <| Rt hΨ q q q
  refine z0e <| Js <| z0n <| Js <| Jq q <| Rm (AL 1 z01 t0) q q <| Rm (I_ x1) q q <| z1b (fun h13 => ?_) (fun _ => z0u)
  refine z2k (cc := z01) z1w q q h13.1 h13.2 q <| z11 (I_ (nth t0 x1)) z1t q q q <| z1o q q q <| Rm (z00 (decide ((nth t0 x1) < 0))) q q <| z1b (fun h14 => ?_) (fun h14 => ?_)
  · refine Rk (z0v q q (dt h14)) <| Rk (z0v q q (dt h14)) <| Rk (z0v q q (dt h14)) <| Rk (z0v q q (dt h14)) <| Rk (z0v q q (dt h14)) <| Rk (z0v q q (dt h14)) <| z0k (z00 true) q (dt h14) q q <| R0 <| z1d q q <| Js ?_
    exact Jr q <| Ra (I_ 6) q q <| R0 <| z0x <| Jt hΨ (z18 q) q q
  refine Rm (AL 1 z01 t0) q (g_f q q (df h14)) <| Rm (I_ x1) q (g_f q q (df h14)) <| z2k (cc := z01) z1w q q h13.1 h13.2 (g_f q q (df h14)) <| z11 (I_ (nth t0 x1)) z1t q q (g_f q q (df h14)) <| Rm (I_ t1) q (g_f q q (df h14)) <| z3c q q (g_f q q (df h14)) <| z0h (z00 (decide (t1 ≤ (nth t0 x1)))) q (df h14) q q <| R0 <| z09 q (fun h15 => ?_) (fun h15 => ?_)
  · exact Jq q <| Ra (I_ 6) q q <| R0 <| z0x <| Jt hΨ (z18 q) q q
  refine z0e <| Js ?_
  apply z2w (fun v20 => ⟨fr [(0, AL 1 z01 t0), (1, I_ t1), (5, I_ x1), (6, I_ x1), (8, I_ (t0.length : Int)), (13, I_ x1), (15, I_ (nth t0 x1)), (19, I_ x1), (21, I_ (nth t0 x1)), (22, I_ t1), (25, I_ x1)], fun _ => none, 0⟩) (fun v20 => z90 x1 v20)
  · intro K21
    refine z0o 5 (m := x1) q fun q17 => z2g <| Rm (I_ x1) q q <| z3a q q q <| Rm (z00 (decide (0 < x1))) q q <| z1b (fun h16 => ?_) (fun h16 => ?_)
    rotate_left
    · refine Rk (z0y q q (df h16)) <| Rk (z0y q q (df h16)) <| Rk (z0y q q (df h16)) <| Rk (z0y q q (df h16)) <| Rk (z0y q q (df h16)) <| Rk (z0y q q (df h16)) <| Rk (z0y q q (df h16)) <| Rk (z0y q q (df h16)) <| Rk (z0y q q (df h16)) <| Rk (z0y q q (df h16)) ?_
      exact z0h (z00 false) q (df h16) q q <| z1y (by kernel_rfl) <| J_cond_F q q <| Jk (K21 ()) (.c2 q q (.c3 q q q (.c6 q q q q q q .nil)))
    refine Rm (AL 1 z01 t0) q (g_t q q (dt h16)) <| Rm (I_ x1) q (g_t q q (dt h16)) <| z2k (cc := z01) z1w q q h13.1 h13.2 (g_t q q (dt h16)) <| z11 (I_ (nth t0 x1)) z1t q q (g_t q q (dt h16)) <| Rm (AL 1 z01 t0) q (g_t q q (dt h16)) <| Rm (I_ x1) q (g_t q q (dt h16)) <| z7z (x1 - 1) q q (z0z (by omega) (by omega)) (g_t q q (dt h16)) <| z1b (fun h18 => ?_) (fun _ => z0u)
    refine z2k (cc := z01) z1w q q h18.1 h18.2 (g_t q q (dt h16)) <| z11 (I_ (nth t0 (x1 - 1))) z1t q q (g_t q q (dt h16)) <| z8c q q (g_t q q (dt h16)) <| z0k (z00 (decide ((nth t0 x1) ≤ (nth t0 (x1 - 1))))) q (dt h16) q q <| z1y (by kernel_rfl) <| z09 q (fun h19 => ?_) (fun h19 => ?_)
    rotate_left
    · exact Jk (K21 ()) (.c2 q q (.c3 q q q (.c6 q q q q q q .nil)))
    exact Jq q <| Ra (I_ 12) q q <| R0 <| z0x <| Jt hΨ (z18 q) q q
  intro v20
  exact z0e <| z0s <| z0o 8 (m := (t0.length : Int)) q fun q22 => z0o 5 (m := x1) q fun q23 => Jr q <| Rm (I_ x1) q q <| z1l (x1 + 1) q q (z0z (by omega) (by omega)) q <| Ra (I_ (x1 + 1)) q q <| R0 <| z41 <| Jk (hE2 (x1 + 1)) (.c3 q q q .nil)
theorem k_ref07_has (t0 : (List Int)) (t1 : Int) (r : Bool) (hr : ref07_has t0 t1 = some r) : FnP PP 208 [AL 1 z01 t0, I_ t1] (z00 r) := by
  refine Fo (fun (r : Bool) => z00 r) Tryz.func208 q (n := 18) q q hr fun X hΨ => ?_
  refine Jq q <| Ra (z00 false) q q <| R0 <| Js <| Jq q <| Ra (I_ 0) q q <| R0 <| z0n ?_
  refine Jl (fun x1 => [(0, AL 1 z01 t0), (1, I_ t1), (5, I_ x1)]) (.c3 q q q .nil) (fun E2 hE2 x1 => ?_)
  refine Js <| Jq q <| Rm (I_ x1) q q <| Rm (AL 1 z01 t0) q q <| z1a (cc := z01) z2m q q <| z1o q q q <| R0 <| z09 q (fun h6 => ?_) (fun h6 => ?_)
  rotate_left
  · exact z1j q <| z0x <| Jq q <| Ra (z00 false) q q <| Rt hΨ q q q
  refine z0e <| Js <| z0n <| Jq q <| Rm (AL 1 z01 t0) q q <| Rm (I_ x1) q q <| z1b (fun h7 => ?_) (fun _ => z0u)
  refine z2k (cc := z01) z1w q q h7.1 h7.2 q <| z11 (I_ (nth t0 x1)) z1t q q q <| Rm (I_ t1) q q <| z2y q q q <| R0 <| z09 q (fun h8 => ?_) (fun h8 => ?_)
  · exact Jq q <| Ra (z00 true) q q <| R0 <| z0x <| Jt hΨ (z18 q) q q
  exact z0e <| z0s <| z0o 8 (m := (t0.length : Int)) q fun q9 => z0o 5 (m := x1) q fun q10 => Jr q <| Rm (I_ x1) q q <| z1l (x1 + 1) q q (z0z (by omega) (by omega)) q <| Ra (I_ (x1 + 1)) q q <| R0 <| z41 <| Jk (hE2 (x1 + 1)) (.c3 q q q .nil)
theorem k_ref07_Right (t0 : z0p) (t1 : z2d) (r : Int) (hr : ref07_Right t0 t1 = some r) : FnP PP 165 [z0w (z07 t0), z0w (z1i t1)] (I_ r) := by
  refine Fo (fun (r : Int) => I_ r) Tryz.func165 q (n := 57) q q hr fun X hΨ => ?_
  refine Jq q <| z17 (z0w (z07 t0)) q q <| z17 (z0w (z1i t1)) q q <| Ra (I_ 0) q q <| R0 <| Js <| Jq q <| z0f ((cL 1 z01) t1.Nodes) z6r q q q ?_
  refine z11 (AL 1 z01 t1.Nodes) z1s q q q <| z0f ((cL 1 z01) t0.Nodes) z29 q q q <| z11 (AL 1 z01 t0.Nodes) z1s q q q <| z1a (cc := z01) z2m q q <| z0d fun b1 h2 => z0j _ fn_207 (k_ref07_ascending _ _ _ h2) q q <| Ra (I_ b1) q q <| R0 <| Jq q ?_
  refine Rm (I_ b1) q q <| z2a q q q <| R0 <| z09 q (fun h3 => ?_) (fun h3 => ?_)
  · exact Jq q <| Rm (I_ b1) q q <| Ra (I_ b1) q q <| Rt hΨ q q q
  refine z0e <| Js <| Jq q <| z0f ((cL 1 z01) t1.Edges) fo_35_1 q q q <| z11 (AL 1 z01 t1.Edges) z1s q q q <| z0f ((cL 3 z0b) t0.Edges) z2r q q q <| z11 (AL 3 z0b t0.Edges) z5o q q q <| z1a (cc := z0b) il_27 q q <| z0d fun b4 h5 => ?_
  refine z0j _ fn_207 (k_ref07_ascending _ _ _ h5) q q <| Ra (I_ b4) q q <| R0 <| Jq q <| Rm (I_ b4) q q <| z2a q q q <| R0 <| z09 q (fun h6 => ?_) (fun h6 => ?_)
  · exact Jq q <| Rm (I_ b4) q q <| Ra (I_ b4) q q <| Rt hΨ q q q
  refine z0e <| Js <| Jq q <| Ra (I_ 0) q q <| R0 <| z0n <| Jn (fun x7 => ⟨fr [(2, z1r (z07 t0)), (3, z1r (z1i t1)), (4, I_ 0), (5, I_ b1), (6, I_ b4), (7, I_ x7), (14, I_ b1), (15, I_ b1), (23, I_ b4), (24, I_ b4)], hp [], 0⟩) [] [] [] q (.same q (.s3 q q q (.s6 q q q q q q .nil))) .nil q q (fun E8 hE8 x7 => ?_)
  refine Js <| Jq q <| Rm (I_ x7) q q <| z0f ((cL 1 z01) t1.Edges) fo_35_1 q q q <| z11 (AL 1 z01 t1.Edges) z1s q q q <| z1a (cc := z01) z2m q q <| z1o q q q <| R0 <| z09 q (fun h18 => ?_) (fun h18 => ?_)
  rotate_left
  · exact z1j q <| z0x <| Jq q <| Ra (I_ 0) q q <| Rt hΨ q q q
  refine z0e <| Js <| z0n <| Js <| z2g <| z0f ((cL 3 z0b) t0.Edges) z2r q q q <| z11 (AL 3 z0b t0.Edges) z5o q q q <| z0f ((cL 1 z01) t1.Edges) fo_35_1 q q q <| z11 (AL 1 z01 t1.Edges) z1s q q q <| Rm (I_ x7) q q ?_
  refine z1b (fun h19 => ?_) (fun _ => z0u)
  refine z2k (cc := z01) z1w q q h19.1 h19.2 q <| z11 (I_ (nth t1.Edges x7)) z1t q q q <| z1b (fun h20 => ?_) (fun _ => z0u)
  refine z2k (cc := z0b) el_27 q q h20.1 h20.2 q <| z14 (z0b (nth t0.Edges (nth t1.Edges x7))) ag_77 q q q q <| z1x 0 _ z_77 q q <| z2p (z0i 0) (z0w (z0b (nth t0.Edges (nth t1.Edges x7)))) (z0b (nth t0.Edges (nth t1.Edges x7))) sz_77 q .obj q q q q q q <| z1y (by kernel_rfl) <| Jq q <| z0f ((cL 1 z01) t1.Nodes) z6r q q q <| z11 (AL 1 z01 t1.Nodes) z1s q q q <| z24 (z0i 0) 1 zaf q .obj q q q ?_
  refine z2b (z1f 0 1) (I_ ((nth t0.Edges (nth t1.Edges x7)).From)) z1t q .at q q q <| z0d fun b21 h22 => z0j _ fn_208 (k_ref07_has _ _ _ h22) q q <| z2x q q <| Rm (z00 (!b21)) q q <| z1b (fun h23 => ?_) (fun h23 => ?_)
  · refine Rk (z0v q q h23) <| Rk (z0v q q h23) <| Rk (z0v q q h23) <| Rk (z0v q q h23) <| Rk (z0v q q h23) <| Rk (z0v q q h23) <| z0k (z00 true) q h23 q q <| R0 <| z1d q q <| Js ?_
    exact Jr q <| Ra (I_ 14) q q <| R0 <| z0x <| Jt hΨ (z18 q) q q
  refine z0f ((cL 1 z01) t1.Nodes) z6r q q (g_f q q (bf h23)) <| z11 (AL 1 z01 t1.Nodes) z1s q q (g_f q q (bf h23)) <| z24 (z0i 0) 2 zae q .obj q q (g_f q q (bf h23)) <| z2b (z1f 0 2) (I_ ((nth t0.Edges (nth t1.Edges x7)).To)) z1t q .at q q (g_f q q (bf h23)) <| z0d fun b24 h25 => z0j _ fn_208 (k_ref07_has _ _ _ h25) q (g_f q q (bf h23)) <| z2x q (g_f q q (bf h23)) <| z0h (z00 (!b24)) q (bf h23) q q <| R0 <| z1v q (fun h26 => ?_) (fun h26 => ?_)
  · exact Jq q <| Ra (I_ 14) q q <| R0 <| z0x <| Jt hΨ (z18 q) q q
  exact z0e <| z0s <| z0o 30 (m := (t1.Edges.length : Int)) q fun q27 => z0o 7 (m := x7) q fun q28 => Jr q <| Rm (I_ x7) q q <| z1l (x7 + 1) q q (z0z (by omega) (by omega)) q <| Ra (I_ (x7 + 1)) q q <| R0 <| z41 <| Jc [] [] [] (hE8 (x7 + 1)) (.same q (.s3 q q q (.s6 q q q q q q .nil))) .nil q q
theorem k_ref07_Valid (t0 : z0p) (t1 : z2d) (r : Int) (hr : ref07_Valid t0 t1 = some r) : FnP PP 119 [z0w (z07 t0), z0w (z1i t1)] (I_ r) := by
  refine Fo (fun (r : Int) => I_ r) Tryz.func119 q (n := 14) q q hr fun X hΨ => ?_
  refine Jq q <| z17 (z0w (z07 t0)) q q <| z17 (z0w (z1i t1)) q q <| Ra (I_ 0) q q <| R0 <| Js <| Jq q <| z14 (z07 t0) z4d q q q q ?_
  refine z0d fun b1 h2 => z0j _ fn_88 (za9 _ _ h2) q q <| Ra (I_ b1) q q <| R0 <| Jq q <| Rm (I_ b1) q q <| z2a q q q <| R0 <| z09 q (fun h3 => ?_) (fun h3 => ?_)
  · exact Jq q <| Rm (I_ b1) q q <| Ra (I_ b1) q q <| Rt hΨ q q q
  exact z0e <| Jq q <| z14 (z07 t0) z4d q q q q <| z14 (z1i t1) ag_35 q q q q <| z0d fun b4 h5 => z0j _ fn_165 (k_ref07_Right _ _ _ h5) q q <| Ra (I_ b4) q q <| Rt hΨ q q q
theorem k_ref07_index (t0 : (List Int)) (t1 : Int) (r : Int) (hr : ref07_index t0 t1 = some r) : FnP PP 166 [AL 1 z01 t0, I_ t1] (I_ r) := by
  refine Fo (fun (r : Int) => I_ r) Tryz.func166 q (n := 19) q q hr fun X hΨ => ?_
  refine Jq q <| Ra (I_ 0) q q <| R0 <| Js <| Jq q <| Ra (I_ 0) q q <| R0 <| z0n ?_
  refine Jl (fun x1 => [(0, AL 1 z01 t0), (1, I_ t1), (5, I_ x1)]) (.c3 q q q .nil) (fun E2 hE2 x1 => ?_)
  refine Js <| Jq q <| Rm (I_ x1) q q <| Rm (AL 1 z01 t0) q q <| z1a (cc := z01) z2m q q <| z1o q q q <| R0 <| z09 q (fun h6 => ?_) (fun h6 => ?_)
  rotate_left
  · exact z1j q <| z0x <| Jq q <| Ra (I_ (-1)) q q <| Rt hΨ q q q
  refine z0e <| Js <| z0n <| Jq q <| Rm (AL 1 z01 t0) q q <| Rm (I_ x1) q q <| z1b (fun h7 => ?_) (fun _ => z0u)
  refine z2k (cc := z01) z1w q q h7.1 h7.2 q <| z11 (I_ (nth t0 x1)) z1t q q q <| Rm (I_ t1) q q <| z2y q q q <| R0 <| z09 q (fun h8 => ?_) (fun h8 => ?_)
  · exact Jq q <| Rm (I_ x1) q q <| Ra (I_ x1) q q <| R0 <| z0x <| Jt hΨ (z18 q) q q
  exact z0e <| z0s <| z0o 8 (m := (t0.length : Int)) q fun q9 => z0o 5 (m := x1) q fun q10 => Jr q <| Rm (I_ x1) q q <| z1l (x1 + 1) q q (z0z (by omega) (by omega)) q <| Ra (I_ (x1 + 1)) q q <| R0 <| z41 <| Jk (hE2 (x1 + 1)) (.c3 q q q .nil)
theorem k_ref07_Extract (t0 : z0p) (t1 : z2d) (r : z0p × z0t × Int) (hr : ref07_Extract t0 t1 = some r) : FnP PP 120 [z0w (z07 t0), z0w (z1i t1)] (z35 [z0w (z07 r.1), z0w (z0m r.2.1), I_ r.2.2]) := by
  refine Fo (fun (r : z0p × z0t × Int) => z35 [z0w (z07 r.1), z0w (z0m r.2.1), I_ r.2.2]) Tryz.func120 q (n := 85) q q hr fun X hΨ => ?_
  refine Jq q <| z17 (z0w (z07 t0)) q q <| z17 (z0w (z1i t1)) q q <| z1x 0 _ z_29 q q <| z1x 1 _ z_36 q q <| Ra (I_ 0) q q <| R0 <| Js <| Js ?_
  refine Jr q <| z14 (z07 t0) z4d q q q q <| z14 (z1i t1) ag_35 q q q q <| z0d fun b1 h2 => z0j _ fn_119 (k_ref07_Valid _ _ _ h2) q q <| Ra (I_ b1) q q <| R0 <| Jq q <| Rm (I_ b1) q q ?_
  refine z2a q q q <| R0 <| z09 q (fun h3 => ?_) (fun h3 => ?_)
  · exact Jq q <| z4p (Cs := [z1m, z1m]) (z07 (z0p.mk [] [])) pl_29 z_29 .nil q (.nl (.nl .nil)) q <| z4p (Cs := [z1m, z1m]) (z0m (z0t.mk [] [])) pl_36 z_36 .nil q (.nl (.nl .nil)) q <| Rm (I_ b1) q q <| z2p (z0i 0) (z0w (z07 (z0p.mk [] []))) (z07 (z0p.mk [] [])) sz_29 q .obj q q q q q q <| z2p (z0i 1) (z0w (z0m (z0t.mk [] []))) (z0m (z0t.mk [] [])) sz_36 q .obj q q q q q q <| Ra (I_ b1) q q <| R0 <| Jt hΨ (z16 (As := [z0w (z07 (z0p.mk [] [])), z0w (z0m (z0t.mk [] [])), I_ b1]) q q (.cons (.boxA (cs := (z07 (z0p.mk [] []))) z4d q q q) (.cons (.boxA (cs := (z0m (z0t.mk [] []))) ag_36 q q q) (.cons (.tmp (A := I_ b1) q) .nil)))) q q
  refine z0e <| Jq q <| z1x 2 _ z_29 q q <| R0 <| Js <| Jq q <| Ra (I_ 0) q q <| R0 ?_
  refine z0n <| Jn (fun x4 => ⟨fr [(2, z1r (z07 t0)), (3, z1r (z1i t1)), (4, z0i 0), (5, z0i 1), (6, I_ 0), (7, I_ b1), (8, z0i 2), (9, I_ x4.2), (14, I_ b1), (15, I_ b1)], hp [(0, .box 29 [z1m, z1m]), (1, .box 36 [z1m, z1m]), (2, .box 29 [z0i 3, z1m]), (3, .row 3 1 (x4.1.map z01))], 4⟩) [] [] [3] q (.s2 q q (.cons (A := z0i 0) q (.obj q q q) (.cons (A := z0i 1) q (.obj q q q) (.s2 q q (.cons (A := z0i 2) q (.obj q q q) (.s3 q q q .nil)))))) (.cons q q q q (.box (.cons .same (.cons .same .nil))) q q (.cons q q q q (.box (.cons .same (.cons .same .nil))) q q (.cons q q q q (.box (.cons (.nilobj q q) (.cons .same .nil))) q q (.new q q .nil)))) q q (fun E5 hE5 x4 => ?_)
  refine Js <| Jq q <| Rm (I_ x4.2) q q <| z0f ((cL 1 z01) t1.Nodes) z6r q q q <| z11 (AL 1 z01 t1.Nodes) z1s q q q <| z1a (cc := z01) z2m q q <| z1o q q q <| R0 <| z09 q (fun h9 => ?_) (fun h9 => ?_)
  · refine z0e <| Js <| z0n <| z2g <| z24 (z0i 2) 0 z29 q .obj q q q <| z2b (z1f 2 0) (z0i 3) z1s q .at q q q <| z0f ((cL 1 z01) t0.Nodes) z29 q q q <| z11 (AL 1 z01 t0.Nodes) z1s q q q <| z0f ((cL 1 z01) t1.Nodes) z6r q q q <| z11 (AL 1 z01 t1.Nodes) z1s q q q ?_
    refine Rm (I_ x4.2) q q <| z1b (fun h10 => ?_) (fun _ => z0u)
    refine z2k (cc := z01) z1w q q h10.1 h10.2 q <| z11 (I_ (nth t1.Nodes x4.2)) z1t q q q <| z1b (fun h11 => ?_) (fun _ => z0u)
    refine z2k (cc := z01) z1w q q h11.1 h11.2 q <| z11 (I_ (nth t0.Nodes (nth t1.Nodes x4.2))) z1t q q q <| r_bs (cc := z01) [(nth t0.Nodes (nth t1.Nodes x4.2))] z1w zr_3_1 (.cons (A := I_ (nth t0.Nodes (nth t1.Nodes x4.2))) q q q .nil) q q q <| z1b (fun h12 => ?_) (fun _ => z0u)
    refine r_app (cc := z01) (xs := x4.1) (ys := [(nth t0.Nodes (nth t1.Nodes x4.2))]) 4 ap_26 q q q h12 q q q <| z24 (z0i 2) 0 z29 q .obj q q q <| z2p (z1f 2 0) (z0i 4) [z0i 4, z1m] sz_26 q .at q q q q q q <| z1y (by kernel_rfl) <| z0s <| z0o 23 (m := (t1.Nodes.length : Int)) q fun q13 => z0o 9 (m := x4.2) q fun q14 => Jr q <| Rm (I_ x4.2) q q <| z1l (x4.2 + 1) q q (z0z (by omega) (by omega)) q ?_
    exact Ra (I_ (x4.2 + 1)) q q <| R0 <| z41 <| Jc [] [(3, 4)] [] (hE5 ((x4.1 ++ [(nth t0.Nodes (nth t1.Nodes x4.2))]), x4.2 + 1)) (.s2 q q (.cons (A := z0i 0) q (.obj q q q) (.cons (A := z0i 1) q (.obj q q q) (.s2 q q (.cons (A := z0i 2) q (.obj q q q) (.s3 q q q .nil)))))) (.cons q q q q (.box (.cons .same (.cons .same .nil))) q q (.cons q q q q (.box (.cons .same (.cons .same .nil))) q q (.cons q q q q (.box (.cons (.obj q q q) (.cons .same .nil))) q q (.cons q q q q (.row (NKC.flat _ _)) q q .nil)))) q q
  refine z1j q <| z7w <| Js <| Jq q <| Ra (I_ 0) q q <| R0 <| z0n <| Jn (fun x15 => ⟨fr [(2, z1r (z07 t0)), (3, z1r (z1i t1)), (4, z0i 0), (5, z0i 1), (6, I_ 0), (7, I_ b1), (8, z0i 2), (9, I_ x4.2), (10, I_ x15.2), (14, I_ b1), (15, I_ b1), (20, I_ x4.2), (23, I_ (t1.Nodes.length : Int))], hp [(0, .box 29 [z1m, z1m]), (1, .box 36 [z1m, z1m]), (2, .box 29 [z0i 3, z0i 4]), (3, .row 3 1 (x4.1.map z01)), (4, .row 77 3 (x15.1.map z0b))], 5⟩) [] [] [4] q (.s2 q q (.cons (A := z0i 0) q (.obj q q q) (.cons (A := z0i 1) q (.obj q q q) (.s2 q q (.cons (A := z0i 2) q (.obj q q q) (.s6 q q q q q q .nil)))))) (.cons q q q q (.box (.cons .same (.cons .same .nil))) q q (.cons q q q q (.box (.cons .same (.cons .same .nil))) q q (.cons q q q q (.box (.cons (.obj q q q) (.cons (.nilobj q q) .nil))) q q (.cons q q q q (.row (NKC.flat _ _)) q q (.new q q .nil))))) q q (fun E16 hE16 x15 => ?_)
  refine Js <| Jq q <| Rm (I_ x15.2) q q <| z0f ((cL 1 z01) t1.Edges) fo_35_1 q q q <| z11 (AL 1 z01 t1.Edges) z1s q q q <| z1a (cc := z01) z2m q q <| z1o q q q <| R0 <| z09 q (fun h24 => ?_) (fun h24 => ?_)
  rotate_left
  · refine z1j q <| z7w <| Js <| z2g <| z50 (z0i 2) [z0i 3, z0i 4] z4d q .obj q q q q <| r_bs0 5 z1w q q <| z0f ((cL 1 z01) t1.Nodes) z6r q q q <| z11 (AL 1 z01 t1.Nodes) z1s q q q <| z1b (fun h34 => ?_) (fun _ => z0u)
    refine r_app0 (cc := z01) (ys := t1.Nodes) 6 ap_26 q q q h34 q q q <| r_bs0 7 z1w q q <| z0f ((cL 1 z01) t1.Edges) fo_35_1 q q q <| z11 (AL 1 z01 t1.Edges) z1s q q q <| z1b (fun h35 => ?_) (fun _ => z0u)
    exact r_app0 (cc := z01) (ys := t1.Edges) 8 ap_26 q q q h35 q q q <| z52 [z0i 6, z0i 8] pl_36 z_36 (.cons (A := z0i 6) q po_36_0 q (.cons (A := z0i 8) q po_36_1 q .nil)) q q <| z2p (z0i 0) (z0w [z0i 3, z0i 4]) [z0i 3, z0i 4] sz_29 q .obj q q q q q q <| z2p (z0i 1) (z0w [z0i 6, z0i 8]) [z0i 6, z0i 8] sz_36 q .obj q q q q q q <| Ra (I_ 0) q q <| z1y (by kernel_rfl) <| z3g hΨ (z16 (As := [z0w [z0i 3, z0i 4], z0w [z0i 6, z0i 8], I_ 0]) q q (.cons (.boxA (cs := [z0i 3, z0i 4]) z4d q q q) (.cons (.boxA (cs := [z0i 6, z0i 8]) ag_36 q q q) (.cons (.tmp (A := I_ 0) q) .nil)))) (fun y hy => by cases hy; exact (.tup (.cons (.agg (.cons (.frow q q (NKC.flat _ _)) (.cons (.frow q q (NKC.flat _ _)) .nil))) (.cons (.agg (.cons (.frow q q (NKC.flat _ _)) (.cons (.frow q q (NKC.flat _ _)) .nil))) (.cons .same .nil)))))
  refine z0e <| Js <| z0n <| Js <| z2g <| z0f ((cL 3 z0b) t0.Edges) z2r q q q <| z11 (AL 3 z0b t0.Edges) z5o q q q <| z0f ((cL 1 z01) t1.Edges) fo_35_1 q q q <| z11 (AL 1 z01 t1.Edges) z1s q q q <| Rm (I_ x15.2) q q ?_
  refine z1b (fun h25 => ?_) (fun _ => z0u)
  refine z2k (cc := z01) z1w q q h25.1 h25.2 q <| z11 (I_ (nth t1.Edges x15.2)) z1t q q q <| z1b (fun h26 => ?_) (fun _ => z0u)
  refine z2k (cc := z0b) el_27 q q h26.1 h26.2 q <| z14 (z0b (nth t0.Edges (nth t1.Edges x15.2))) ag_77 q q q q <| z1x 5 _ z_77 q q <| z2p (z0i 5) (z0w (z0b (nth t0.Edges (nth t1.Edges x15.2)))) (z0b (nth t0.Edges (nth t1.Edges x15.2))) sz_77 q .obj q q q q q q <| z1y (by kernel_rfl) <| z2g <| z24 (z0i 2) 1 z2r q .obj q q q <| z2b (z1f 2 1) (z0i 4) z5o q .at q q q <| z24 (z0i 5) 0 z77 q .obj q q q <| z2b (z1f 5 0) (I_ ((nth t0.Edges (nth t1.Edges x15.2)).Type_)) z1t q .at q q q ?_
  refine z0f ((cL 1 z01) t1.Nodes) z6r q q q <| z11 (AL 1 z01 t1.Nodes) z1s q q q <| z24 (z0i 5) 1 zaf q .obj q q q <| z2b (z1f 5 1) (I_ ((nth t0.Edges (nth t1.Edges x15.2)).From)) z1t q .at q q q <| z0d fun b27 h28 => z0j _ fn_166 (k_ref07_index _ _ _ h28) q q <| z0f ((cL 1 z01) t1.Nodes) z6r q q q <| z11 (AL 1 z01 t1.Nodes) z1s q q q <| z24 (z0i 5) 2 zae q .obj q q q <| z2b (z1f 5 2) (I_ ((nth t0.Edges (nth t1.Edges x15.2)).To)) z1t q .at q q q ?_
  refine z0d fun b29 h30 => z0j _ fn_166 (k_ref07_index _ _ _ h30) q q <| z52 (z0b (z1e.mk ((nth t0.Edges (nth t1.Edges x15.2)).Type_) b27 b29)) pl_77 z_77 (.cons (A := I_ ((nth t0.Edges (nth t1.Edges x15.2)).Type_)) q po_77_0 q (.cons (A := I_ b27) q po_77_1 q (.cons (A := I_ b29) q po_77_2 q .nil))) q q <| r_bs (cc := z0b) [(z1e.mk ((nth t0.Edges (nth t1.Edges x15.2)).Type_) b27 b29)] el_27 zr_77_1 (.cons (A := z0w (z0b (z1e.mk ((nth t0.Edges (nth t1.Edges x15.2)).Type_) b27 b29))) q q q .nil) q q q <| z1b (fun h31 => ?_) (fun _ => z0u)
  refine r_app (cc := z0b) (xs := x15.1) (ys := [(z1e.mk ((nth t0.Edges (nth t1.Edges x15.2)).Type_) b27 b29)]) 6 ap_27 q q q h31 q q q <| z24 (z0i 2) 1 z2r q .obj q q q <| z2p (z1f 2 1) (z0i 6) [z0i 3, z0i 6] sz_27 q .at q q q q q q <| z1y (by kernel_rfl) <| z0s <| z0o 44 (m := (t1.Edges.length : Int)) q fun q32 => z0o 10 (m := x15.2) q fun q33 => Jr q <| Rm (I_ x15.2) q q <| z1l (x15.2 + 1) q q (z0z (by omega) (by omega)) q ?_
  exact Ra (I_ (x15.2 + 1)) q q <| R0 <| z41 <| Jc [] [(4, 6)] [] (hE16 ((x15.1 ++ [(z1e.mk ((nth t0.Edges (nth t1.Edges x15.2)).Type_) b27 b29)]), x15.2 + 1)) (.s2 q q (.cons (A := z0i 0) q (.obj q q q) (.cons (A := z0i 1) q (.obj q q q) (.s2 q q (.cons (A := z0i 2) q (.obj q q q) (.s6 q q q q q q .nil)))))) (.cons q q q q (.box (.cons .same (.cons .same .nil))) q q (.cons q q q q (.box (.cons .same (.cons .same .nil))) q q (.cons q q q q (.box (.cons (.obj q q q) (.cons (.obj q q q) .nil))) q q (.cons q q q q (.row (NKC.flat _ _)) q q (.cons q q q q (.row (NKC.flat _ _)) q q .nil))))) q q
theorem k_ref06_Valid (t0 : z0p) (t1 : z0p) (t2 : z0t) (r : Int) (hr : ref06_Valid t0 t1 t2 = some r) : FnP PP 121 [z0w (z07 t0), z0w (z07 t1), z0w (z0m t2)] (I_ r) := by
  refine Fo (fun (r : Int) => I_ r) Tryz.func121 q (n := 141) q q hr fun X hΨ => ?_
  refine Jq q <| z17 (z0w (z07 t0)) q q <| z17 (z0w (z07 t1)) q q <| z17 (z0w (z0m t2)) q q <| Ra (I_ 0) q q <| R0 <| Js <| Jq q ?_
  refine z14 (z07 t0) z4d q q q q <| z0d fun b1 h2 => z0j _ fn_88 (za9 _ _ h2) q q <| Ra (I_ b1) q q <| R0 <| Jq q <| Rm (I_ b1) q q <| z2a q q q <| R0 ?_
  refine z09 q (fun h3 => ?_) (fun h3 => ?_)
  · exact Jq q <| Rm (I_ b1) q q <| Ra (I_ b1) q q <| Rt hΨ q q q
  refine z0e <| Js <| Jq q <| z14 (z07 t1) z4d q q q q <| z0d fun b4 h5 => z0j _ fn_88 (za9 _ _ h5) q q <| Ra (I_ b4) q q <| R0 <| Js ?_
  refine Jr q <| Rm (I_ b4) q q <| z2a q q q <| R0 <| z09 q (fun h6 => ?_) (fun h6 => ?_)
  · exact Jq q <| Rm (I_ b4) q q <| Ra (I_ b4) q q <| Rt hΨ q q q
  refine z0e <| Js <| Jq q <| z0f ((cL 1 z01) t2.Nodes) z6a q q q <| z11 (AL 1 z01 t2.Nodes) z1s q q q <| z1a (cc := z01) z2m q q <| z0f ((cL 1 z01) t0.Nodes) z29 q q q <| z11 (AL 1 z01 t0.Nodes) z1s q q q <| z1a (cc := z01) z2m q q ?_
  refine z2a q q q <| Rm (z00 (decide (¬ ((t2.Nodes.length : Int) = (t0.Nodes.length : Int))))) q q <| z1b (fun h7 => ?_) (fun h7 => ?_)
  · refine Rk (z0v q q (dt h7)) <| Rk (z0v q q (dt h7)) <| Rk (z0v q q (dt h7)) <| Rk (z0v q q (dt h7)) <| Rk (z0v q q (dt h7)) <| Rk (z0v q q (dt h7)) <| Rk (z0v q q (dt h7)) <| z0k (z00 true) q (dt h7) q q <| R0 <| z1d q q ?_
    exact Jq q <| Ra (I_ 20) q q <| Rt hΨ q q q
  refine z0f ((cL 1 z01) t2.Edges) z92 q q (g_f q q (df h7)) <| z11 (AL 1 z01 t2.Edges) z1s q q (g_f q q (df h7)) <| z1a (cc := z01) z2m q (g_f q q (df h7)) <| z0f ((cL 3 z0b) t0.Edges) z2r q q (g_f q q (df h7)) <| z11 (AL 3 z0b t0.Edges) z5o q q (g_f q q (df h7)) <| z1a (cc := z0b) il_27 q (g_f q q (df h7)) <| z2a q q (g_f q q (df h7)) <| z0h (z00 (decide (¬ ((t2.Edges.length : Int) = (t0.Edges.length : Int))))) q (df h7) q q <| R0 <| z09 q (fun h8 => ?_) (fun h8 => ?_)
  · exact Jq q <| Ra (I_ 20) q q <| Rt hΨ q q q
  refine z0e <| Js <| Jq q <| Ra (I_ 0) q q <| R0 <| z0n <| Jn (fun x9 => ⟨fr [(3, z1r (z07 t0)), (4, z1r (z07 t1)), (5, z1r (z0m t2)), (6, I_ 0), (7, I_ b1), (8, I_ b4), (9, I_ x9), (14, I_ b1), (15, I_ b1), (19, I_ b4), (20, I_ b4), (25, I_ (t2.Nodes.length : Int)), (28, I_ (t0.Nodes.length : Int)), (33, I_ (t2.Edges.length : Int)), (36, I_ (t0.Edges.length : Int))], hp [], 0⟩) [] [] [] q (.s3 q q q (.s6 q q q q q q (.s6 q q q q q q .nil))) .nil q q (fun E10 hE10 x9 => ?_)
  refine Js <| Jq q <| Rm (I_ x9) q q <| z0f ((cL 1 z01) t0.Nodes) z29 q q q <| z11 (AL 1 z01 t0.Nodes) z1s q q q <| z1a (cc := z01) z2m q q <| z1o q q q <| R0 <| z09 q (fun h18 => ?_) (fun h18 => ?_)
  · refine z0e <| Js <| z0n <| Js <| Js <| z2g <| z0f ((cL 1 z01) t2.Nodes) z6a q q q <| z11 (AL 1 z01 t2.Nodes) z1s q q q <| Rm (I_ x9) q q <| z1b (fun h19 => ?_) (fun _ => z0u)
    refine z2k (cc := z01) z1w q q h19.1 h19.2 q <| z11 (I_ (nth t2.Nodes x9)) z1t q q q <| z1o q q q <| Rm (z00 (decide ((nth t2.Nodes x9) < 0))) q q <| z1b (fun h20 => ?_) (fun h20 => ?_)
    · refine Rk (z0v q q (dt h20)) <| Rk (z0v q q (dt h20)) <| Rk (z0v q q (dt h20)) <| Rk (z0v q q (dt h20)) <| Rk (z0v q q (dt h20)) <| Rk (z0v q q (dt h20)) <| Rk (z0v q q (dt h20)) <| Rk (z0v q q (dt h20)) <| Rk (z0v q q (dt h20)) <| z0k (z00 true) q (dt h20) q q ?_
      exact z1y (by kernel_rfl) <| z1d q q <| Jq q <| Ra (I_ 6) q q <| R0 <| z0x <| Jt hΨ (z18 q) q q
    refine z0f ((cL 1 z01) t2.Nodes) z6a q q (g_f q q (df h20)) <| z11 (AL 1 z01 t2.Nodes) z1s q q (g_f q q (df h20)) <| Rm (I_ x9) q (g_f q q (df h20)) <| z2k (cc := z01) z1w q q h19.1 h19.2 (g_f q q (df h20)) <| z11 (I_ (nth t2.Nodes x9)) z1t q q (g_f q q (df h20)) <| z0f ((cL 1 z01) t1.Nodes) z29 q q (g_f q q (df h20)) <| z11 (AL 1 z01 t1.Nodes) z1s q q (g_f q q (df h20)) <| z1a (cc := z01) z2m q (g_f q q (df h20)) <| z3c q q (g_f q q (df h20)) <| z0h (z00 (decide ((t1.Nodes.length : Int) ≤ (nth t2.Nodes x9)))) q (df h20) q q ?_
    refine z1y (by kernel_rfl) <| z09 q (fun h21 => ?_) (fun h21 => ?_)
    · exact Jq q <| Ra (I_ 6) q q <| R0 <| z0x <| Jt hΨ (z18 q) q q
    refine z0e <| Js <| z2g <| z0f ((cL 1 z01) t1.Nodes) z29 q q q <| z11 (AL 1 z01 t1.Nodes) z1s q q q <| z0f ((cL 1 z01) t2.Nodes) z6a q q q <| z11 (AL 1 z01 t2.Nodes) z1s q q q <| Rm (I_ x9) q q <| z2k (cc := z01) z1w q q h19.1 h19.2 q <| z11 (I_ (nth t2.Nodes x9)) z1t q q q ?_
    refine z1b (fun h22 => ?_) (fun _ => z0u)
    refine z2k (cc := z01) z1w q q h22.1 h22.2 q <| z11 (I_ (nth t1.Nodes (nth t2.Nodes x9))) z1t q q q <| z0f ((cL 1 z01) t0.Nodes) z29 q q q <| z11 (AL 1 z01 t0.Nodes) z1s q q q <| Rm (I_ x9) q q <| z1b (fun h23 => ?_) (fun _ => z0u)
    refine z2k (cc := z01) z1w q q h23.1 h23.2 q <| z11 (I_ (nth t0.Nodes x9)) z1t q q q <| z2a q q q <| z1y (by kernel_rfl) <| z09 q (fun h24 => ?_) (fun h24 => ?_)
    · exact Jq q <| Ra (I_ 13) q q <| R0 <| z0x <| Jt hΨ (z18 q) q q
    exact z0e <| z0s <| z0o 28 (m := (t0.Nodes.length : Int)) q fun q25 => z0o 9 (m := x9) q fun q26 => Jr q <| Rm (I_ x9) q q <| z1l (x9 + 1) q q (z0z (by omega) (by omega)) q <| Ra (I_ (x9 + 1)) q q <| R0 <| z41 <| Jc [] [] [] (hE10 (x9 + 1)) (.s3 q q q (.s6 q q q q q q (.s6 q q q q q q .nil))) .nil q q
  refine z1j q <| z7w <| Js <| Jq q <| Ra (I_ 0) q q <| R0 <| z0n <| Jn (fun x27 => ⟨fr [(3, z1r (z07 t0)), (4, z1r (z07 t1)), (5, z1r (z0m t2)), (6, I_ 0), (7, I_ b1), (8, I_ b4), (9, I_ x9), (10, I_ x27), (14, I_ b1), (15, I_ b1), (19, I_ b4), (20, I_ b4), (25, I_ (t2.Nodes.length : Int)), (28, I_ (t0.Nodes.length : Int)), (33, I_ (t2.Edges.length : Int)), (36, I_ (t0.Edges.length : Int)), (39, I_ x9), (42, I_ (t0.Nodes.length : Int))], hp [], 0⟩) [] [] [] q (.s6 q q q q q q (.s6 q q q q q q (.s6 q q q q q q .nil))) .nil q q (fun E28 hE28 x27 => ?_)
  refine Js <| Jq q <| Rm (I_ x27) q q <| z0f ((cL 3 z0b) t0.Edges) z2r q q q <| z11 (AL 3 z0b t0.Edges) z5o q q q <| z1a (cc := z0b) il_27 q q <| z1o q q q <| R0 <| z09 q (fun h40 => ?_) (fun h40 => ?_)
  rotate_left
  · exact z1j q <| z0x <| Jq q <| Ra (I_ 0) q q <| Rt hΨ q q q
  refine z0e <| Js <| z0n <| Js <| Js <| z2g <| z0f ((cL 1 z01) t2.Edges) z92 q q q <| z11 (AL 1 z01 t2.Edges) z1s q q q <| Rm (I_ x27) q q <| z1b (fun h41 => ?_) (fun _ => z0u)
  refine z2k (cc := z01) z1w q q h41.1 h41.2 q <| z11 (I_ (nth t2.Edges x27)) z1t q q q <| z1o q q q <| Rm (z00 (decide ((nth t2.Edges x27) < 0))) q q <| z1b (fun h42 => ?_) (fun h42 => ?_)
  · refine Rk (z0v q q (dt h42)) <| Rk (z0v q q (dt h42)) <| Rk (z0v q q (dt h42)) <| Rk (z0v q q (dt h42)) <| Rk (z0v q q (dt h42)) <| Rk (z0v q q (dt h42)) <| Rk (z0v q q (dt h42)) <| Rk (z0v q q (dt h42)) <| Rk (z0v q q (dt h42)) <| z0k (z00 true) q (dt h42) q q ?_
    exact z1y (by kernel_rfl) <| z1d q q <| Jq q <| Ra (I_ 6) q q <| R0 <| z0x <| Jt hΨ (z18 q) q q
  refine z0f ((cL 1 z01) t2.Edges) z92 q q (g_f q q (df h42)) <| z11 (AL 1 z01 t2.Edges) z1s q q (g_f q q (df h42)) <| Rm (I_ x27) q (g_f q q (df h42)) <| z2k (cc := z01) z1w q q h41.1 h41.2 (g_f q q (df h42)) <| z11 (I_ (nth t2.Edges x27)) z1t q q (g_f q q (df h42)) <| z0f ((cL 3 z0b) t1.Edges) z2r q q (g_f q q (df h42)) <| z11 (AL 3 z0b t1.Edges) z5o q q (g_f q q (df h42)) <| z1a (cc := z0b) il_27 q (g_f q q (df h42)) <| z3c q q (g_f q q (df h42)) <| z0h (z00 (decide ((t1.Edges.length : Int) ≤ (nth t2.Edges x27)))) q (df h42) q q ?_
  refine z1y (by kernel_rfl) <| z09 q (fun h43 => ?_) (fun h43 => ?_)
  · exact Jq q <| Ra (I_ 6) q q <| R0 <| z0x <| Jt hΨ (z18 q) q q
  refine z0e <| Js <| z2g <| z0f ((cL 3 z0b) t0.Edges) z2r q q q <| z11 (AL 3 z0b t0.Edges) z5o q q q <| Rm (I_ x27) q q <| z1b (fun h44 => ?_) (fun _ => z0u)
  refine z2k (cc := z0b) el_27 q q h44.1 h44.2 q <| z14 (z0b (nth t0.Edges x27)) ag_77 q q q q <| z0f ((cL 3 z0b) t1.Edges) z2r q q q <| z11 (AL 3 z0b t1.Edges) z5o q q q <| z0f ((cL 1 z01) t2.Edges) z92 q q q <| z11 (AL 1 z01 t2.Edges) z1s q q q <| Rm (I_ x27) q q <| z2k (cc := z01) z1w q q h41.1 h41.2 q <| z11 (I_ (nth t2.Edges x27)) z1t q q q <| z1b (fun h45 => ?_) (fun _ => z0u)
  refine z2k (cc := z0b) el_27 q q h45.1 h45.2 q <| z14 (z0b (nth t1.Edges (nth t2.Edges x27))) ag_77 q q q q <| z1x 0 _ z_77 q q <| z1x 1 _ z_77 q q <| z2p (z0i 0) (z0w (z0b (nth t0.Edges x27))) (z0b (nth t0.Edges x27)) sz_77 q .obj q q q q q q <| z2p (z0i 1) (z0w (z0b (nth t1.Edges (nth t2.Edges x27)))) (z0b (nth t1.Edges (nth t2.Edges x27))) sz_77 q .obj q q q q q q <| z1y (by kernel_rfl) <| Js <| Jq q ?_
  refine z24 (z0i 0) 0 z77 q .obj q q q <| z2b (z1f 0 0) (I_ ((nth t0.Edges x27).Type_)) z1t q .at q q q <| z24 (z0i 1) 0 z77 q .obj q q q <| z2b (z1f 1 0) (I_ ((nth t1.Edges (nth t2.Edges x27)).Type_)) z1t q .at q q q <| z2a q q q <| R0 <| z09 q (fun h46 => ?_) (fun h46 => ?_)
  · exact Jq q <| Ra (I_ 13) q q <| R0 <| z0x <| Jt hΨ (z18 q) q q
  refine z0e <| Js <| z2g <| z0f ((cL 1 z01) t2.Nodes) z6a q q q <| z11 (AL 1 z01 t2.Nodes) z1s q q q <| z24 (z0i 0) 1 zaf q .obj q q q <| z2b (z1f 0 1) (I_ ((nth t0.Edges x27).From)) z1t q .at q q q <| z1b (fun h47 => ?_) (fun _ => z0u)
  refine z2k (cc := z01) z1w q q h47.1 h47.2 q <| z11 (I_ (nth t2.Nodes ((nth t0.Edges x27).From))) z1t q q q <| z24 (z0i 1) 1 zaf q .obj q q q <| z2b (z1f 1 1) (I_ ((nth t1.Edges (nth t2.Edges x27)).From)) z1t q .at q q q <| z2a q q q <| Rm (z00 (decide (¬ ((nth t2.Nodes ((nth t0.Edges x27).From)) = (nth t1.Edges (nth t2.Edges x27)).From)))) q q <| z1b (fun h48 => ?_) (fun h48 => ?_)
  · refine Rk (z0v q q (dt h48)) <| Rk (z0v q q (dt h48)) <| Rk (z0v q q (dt h48)) <| Rk (z0v q q (dt h48)) <| Rk (z0v q q (dt h48)) <| Rk (z0v q q (dt h48)) <| Rk (z0v q q (dt h48)) <| Rk (z0v q q (dt h48)) <| Rk (z0v q q (dt h48)) <| z0k (z00 true) q (dt h48) q q ?_
    exact z1y (by kernel_rfl) <| z1d q q <| Jq q <| Ra (I_ 11) q q <| R0 <| z0x <| Jt hΨ (z18 q) q q
  refine z0f ((cL 1 z01) t2.Nodes) z6a q q (g_f q q (df h48)) <| z11 (AL 1 z01 t2.Nodes) z1s q q (g_f q q (df h48)) <| z24 (z0i 0) 2 zae q .obj q q (g_f q q (df h48)) <| z2b (z1f 0 2) (I_ ((nth t0.Edges x27).To)) z1t q .at q q (g_f q q (df h48)) <| z1b (fun h49 => ?_) (fun _ => z0u)
  refine z2k (cc := z01) z1w q q h49.1 h49.2 (g_f q q (df h48)) <| z11 (I_ (nth t2.Nodes ((nth t0.Edges x27).To))) z1t q q (g_f q q (df h48)) <| z24 (z0i 1) 2 zae q .obj q q (g_f q q (df h48)) <| z2b (z1f 1 2) (I_ ((nth t1.Edges (nth t2.Edges x27)).To)) z1t q .at q q (g_f q q (df h48)) <| z2a q q (g_f q q (df h48)) <| z0h (z00 (decide (¬ ((nth t2.Nodes ((nth t0.Edges x27).To)) = (nth t1.Edges (nth t2.Edges x27)).To)))) q (df h48) q q <| z1y (by kernel_rfl) <| z09 q (fun h50 => ?_) (fun h50 => ?_)
  · exact Jq q <| Ra (I_ 11) q q <| R0 <| z0x <| Jt hΨ (z18 q) q q
  exact z0e <| z0s <| z0o 36 (m := (t0.Edges.length : Int)) q fun q51 => z0o 10 (m := x27) q fun q52 => Jr q <| Rm (I_ x27) q q <| z1l (x27 + 1) q q (z0z (by omega) (by omega)) q <| Ra (I_ (x27 + 1)) q q <| R0 <| z41 <| Jc [] [] [] (hE28 (x27 + 1)) (.s6 q q q q q q (.s6 q q q q q q (.s6 q q q q q q .nil))) .nil q q
theorem k_ref24_span (t0 : z10) (r : Int) (hr : ref24_span t0 = some r) : FnP PP 70 [z0w (z0g t0)] (I_ r) := by
  refine Fo (fun (r : Int) => I_ r) Tryz.func70 q (n := 33) q q hr fun X hΨ => ?_
  refine Jq q <| z17 (z0w (z0g t0)) q q <| Ra (I_ 0) q q <| R0 <| Js <| Jq q <| z0f (z0a t0.Left) z6q q q q <| z0f (z07 t0.Left.Graph) z27 q q q ?_
  refine z14 (z07 t0.Left.Graph) z4d q q q q <| z0f (z1i t0.Keep) fo_41_3 q q q <| z14 (z1i t0.Keep) ag_35 q q q q <| z0d fun b1 h2 => z0j _ fn_119 (k_ref07_Valid _ _ _ h2) q q <| Ra (I_ b1) q q <| R0 <| Jq q <| Rm (I_ b1) q q ?_
  refine z2a q q q <| R0 <| z09 q (fun h3 => ?_) (fun h3 => ?_)
  · exact Jq q <| Rm (I_ b1) q q <| Ra (I_ b1) q q <| Rt hΨ q q q
  refine z0e <| Jq q <| z0f (z0a t0.Left) z6q q q q <| z0f (z07 t0.Left.Graph) z27 q q q <| z14 (z07 t0.Left.Graph) z4d q q q q <| z0f (z1i t0.Keep) fo_41_3 q q q <| z14 (z1i t0.Keep) ag_35 q q q q <| z0d fun b4 h5 => z0j _ fn_120 (k_ref07_Extract _ _ _ h5) q q ?_
  refine Rm (z35 [z0w (z07 b4.1), z0w (z0m b4.2.1), I_ b4.2.2]) q q <| z20 (z0w (z07 b4.1)) q q q <| z20 (z0w (z0m b4.2.1)) q q q <| z20 (I_ b4.2.2) q q q <| z1x 0 _ z_29 q q <| z1x 1 _ z_36 q q <| z2p (z0i 0) (z0w (z07 b4.1)) (z07 b4.1) sz_29 q .obj q q q q q q <| z2p (z0i 1) (z0w (z0m b4.2.1)) (z0m b4.2.1) sz_36 q .obj q q q q q q <| Ra (I_ b4.2.2) q q <| R0 ?_
  refine Jq q <| z50 (z0i 0) (z07 b4.1) z4d q .obj q q q q <| z0f (z0a t0.Right) z3e q q q <| z0f (z07 t0.Right.Graph) z27 q q q <| z14 (z07 t0.Right.Graph) z4d q q q q <| z0f (z0m t0.Into) fo_41_4 q q q <| z14 (z0m t0.Into) ag_36 q q q q <| z0d fun b6 h7 => z0j _ fn_121 (k_ref06_Valid _ _ _ _ h7) q q ?_
  exact Ra (I_ b6) q q <| Rt hΨ q q q
theorem z8s (t0 : (List Int)) (r : Bool) (hr : z5d t0 = some r) : FnP PP 71 [AL 1 z01 t0] (z00 r) := by
  refine Fo (fun (r : Bool) => z00 r) Tryz.func71 q (n := 25) q q hr fun X hΨ => ?_
  refine Jq q <| Ra (z00 false) q q <| R0 <| Js <| Jq q <| Ra (I_ 0) q q <| R0 <| z0n ?_
  refine Jl (fun x1 => [(0, AL 1 z01 t0), (3, I_ x1)]) (.c2 q q .nil) (fun E2 hE2 x1 => ?_)
  refine Js <| Jq q <| Rm (I_ x1) q q <| Rm (AL 1 z01 t0) q q <| z1a (cc := z01) z2m q q <| z1o q q q <| R0 <| z09 q (fun h14 => ?_) (fun h14 => ?_)
  rotate_left
  · exact z1j q <| z0x <| Jq q <| Ra (z00 true) q q <| Rt hΨ q q q
  refine z0e <| Js <| z0n <| Jq q <| Ra (I_ 0) q q <| R0 <| z0n <| Jl (fun x15 => [(0, AL 1 z01 t0), (3, I_ x1), (4, I_ x15), (5, I_ x1), (7, I_ (t0.length : Int))]) (.c2 q q (.c3 q q q .nil)) (fun E16 hE16 x15 => ?_)
  refine Js <| Jq q <| Rm (I_ x15) q q <| Rm (I_ x1) q q <| z1o q q q <| R0 <| z09 q (fun h21 => ?_) (fun h21 => ?_)
  rotate_left
  · refine z1j q <| z0x <| z0s <| z0o 7 (m := (t0.length : Int)) q fun q27 => z0o 3 (m := x1) q fun q28 => Jr q <| Rm (I_ x1) q q <| z1l (x1 + 1) q q (z0z (by omega) (by omega)) q <| Ra (I_ (x1 + 1)) q q <| R0 ?_
    exact z41 <| Jk (hE2 (x1 + 1)) (.c2 q q .nil)
  refine z0e <| Js <| z0n <| Js <| z2g <| Rm (AL 1 z01 t0) q q <| Rm (I_ x1) q q <| z1b (fun h22 => ?_) (fun _ => z0u)
  refine z2k (cc := z01) z1w q q h22.1 h22.2 q <| z11 (I_ (nth t0 x1)) z1t q q q <| Rm (AL 1 z01 t0) q q <| Rm (I_ x15) q q <| z1b (fun h23 => ?_) (fun _ => z0u)
  refine z2k (cc := z01) z1w q q h23.1 h23.2 q <| z11 (I_ (nth t0 x15)) z1t q q q <| z2y q q q <| z1y (by kernel_rfl) <| z09 q (fun h24 => ?_) (fun h24 => ?_)
  · exact Jq q <| Ra (z00 false) q q <| R0 <| z0x <| z0x <| Jt hΨ (z18 q) q q
  exact z0e <| z0s <| z0o 3 (m := x1) q fun q25 => z0o 4 (m := x15) q fun q26 => Jr q <| Rm (I_ x15) q q <| z1l (x15 + 1) q q (z0z (by omega) (by omega)) q <| Ra (I_ (x15 + 1)) q q <| R0 <| z41 <| Jk (hE16 (x15 + 1)) (.c2 q q (.c3 q q q .nil))
theorem k_ref24_has (t0 : (List Int)) (t1 : Int) (r : Bool) (hr : ref24_has t0 t1 = some r) : FnP PP 167 [AL 1 z01 t0, I_ t1] (z00 r) := by
  refine Fo (fun (r : Bool) => z00 r) Tryz.func167 q (n := 18) q q hr fun X hΨ => ?_
  refine Jq q <| Ra (z00 false) q q <| R0 <| Js <| Jq q <| Ra (I_ 0) q q <| R0 <| z0n ?_
  refine Jl (fun x1 => [(0, AL 1 z01 t0), (1, I_ t1), (5, I_ x1)]) (.c3 q q q .nil) (fun E2 hE2 x1 => ?_)
  refine Js <| Jq q <| Rm (I_ x1) q q <| Rm (AL 1 z01 t0) q q <| z1a (cc := z01) z2m q q <| z1o q q q <| R0 <| z09 q (fun h6 => ?_) (fun h6 => ?_)
  rotate_left
  · exact z1j q <| z0x <| Jq q <| Ra (z00 false) q q <| Rt hΨ q q q
  refine z0e <| Js <| z0n <| Jq q <| Rm (AL 1 z01 t0) q q <| Rm (I_ x1) q q <| z1b (fun h7 => ?_) (fun _ => z0u)
  refine z2k (cc := z01) z1w q q h7.1 h7.2 q <| z11 (I_ (nth t0 x1)) z1t q q q <| Rm (I_ t1) q q <| z2y q q q <| R0 <| z09 q (fun h8 => ?_) (fun h8 => ?_)
  · exact Jq q <| Ra (z00 true) q q <| R0 <| z0x <| Jt hΨ (z18 q) q q
  exact z0e <| z0s <| z0o 8 (m := (t0.length : Int)) q fun q9 => z0o 5 (m := x1) q fun q10 => Jr q <| Rm (I_ x1) q q <| z1l (x1 + 1) q q (z0z (by omega) (by omega)) q <| Ra (I_ (x1 + 1)) q q <| R0 <| z41 <| Jk (hE2 (x1 + 1)) (.c3 q q q .nil)
theorem k_ref24_rest (t0 : Int) (t1 : (List Int)) (r : (List Int)) (hr : ref24_rest t0 t1 = some r) : FnP PP 122 [I_ t0, AL 1 z01 t1] (AL 1 z01 r) := by
  refine Fo (fun (r : (List Int)) => AL 1 z01 r) Tryz.func122 q (n := 21) q q hr fun X hΨ => ?_
  refine Jq q <| Ra (z1m) q q <| R0 <| Jq q <| Ra (z1m) q q <| R0 <| Js <| Js ?_
  refine Jr q <| Ra (I_ 0) q q <| R0 <| z0n <| Jn (fun x1 => ⟨fr [(0, I_ t0), (1, AL 1 z01 t1), (5, z0i 0), (6, I_ x1.2)], hp [(0, .row 3 1 (x1.1.map z01))], 1⟩) [] [] [0] q (.s2 q q (.cons (A := z1m) q (.nilobj q q) (.same q .nil))) (.new q q .nil) q q (fun E2 hE2 x1 => ?_)
  refine Js <| Jq q <| Rm (I_ x1.2) q q <| Rm (I_ t0) q q <| z1o q q q <| R0 <| z09 q (fun h9 => ?_) (fun h9 => ?_)
  rotate_left
  · exact z1j q <| z0x <| Jq q <| Rm (z0i 0) q q <| Ra (z0i 0) q q <| R0 <| z3g hΨ (z4r q (.tmp (A := z0i 0) q)) (fun y hy => by cases hy; exact (.frow q q (NKC.flat _ _)))
  refine z0e <| Js <| z0n <| Jq q <| Rm (AL 1 z01 t1) q q <| Rm (I_ x1.2) q q <| z0d fun b10 h11 => z0j _ fn_167 (k_ref24_has _ _ _ h11) q q <| z2x q q ?_
  refine R0 ?_
  apply z2w (fun v14 => ⟨fr [(0, I_ t0), (1, AL 1 z01 t1), (5, z0i 0), (6, I_ x1.2), (7, I_ x1.2), (8, I_ t0), (13, I_ x1.2)], hp [(0, .row 3 1 (v14.map z01))], 1⟩) (fun v14 => ref24_rest_j14 x1 v14)
  · intro K15
    refine z1v q (fun h12 => ?_) (fun h12 => ?_)
    rotate_left
    · exact z0e <| Jc [] [] [] (K15 x1.1) (.s2 q q (.cons (A := z0i 0) q (.obj q q q) (.same q (.s3 q q q .nil)))) (.cons q q q q (.row (NKC.flat _ _)) q q .nil) q q
    refine Jr q <| Rm (z0i 0) q q <| Rm (I_ x1.2) q q <| r_bs (cc := z01) [x1.2] z1w zr_3_1 (.cons (A := I_ x1.2) q q q .nil) q q q <| z1b (fun h13 => ?_) (fun _ => z0u)
    exact r_app (cc := z01) (xs := x1.1) (ys := [x1.2]) 1 ap_26 q q q h13 q q q <| Ra (z0i 1) q q <| R0 <| Jc [] [(0, 1)] [] (K15 (x1.1 ++ [x1.2])) (.s2 q q (.cons (A := z0i 1) q (.obj q q q) (.same q (.s3 q q q .nil)))) (.cons q q q q (.row (NKC.flat _ _)) q q .nil) q q
  intro v14
  exact z0s <| z0o 0 (m := t0) q fun q16 => z0o 6 (m := x1.2) q fun q17 => Jr q <| Rm (I_ x1.2) q q <| z1l (x1.2 + 1) q q (z0z (by omega) (by omega)) q <| Ra (I_ (x1.2 + 1)) q q <| R0 <| z41 <| Jc [] [] [] (hE2 (v14, x1.2 + 1)) (.s2 q q (.cons (A := z0i 0) q (.obj q q q) (.same q .nil))) (.cons q q q q (.row (NKC.flat _ _)) q q .nil) q q
theorem k_ref24_created (t0 : z10) (r : (List Int) × (List Int)) (hr : z9t t0 = some r) : FnP PP 72 [z0w (z0g t0)] (z35 [AL 1 z01 r.1, AL 1 z01 r.2]) := by
  refine Fo (fun (r : (List Int) × (List Int)) => z35 [AL 1 z01 r.1, AL 1 z01 r.2]) Tryz.func72 q (n := 22) q q hr fun X hΨ => ?_
  refine Jq q <| z17 (z0w (z0g t0)) q q <| Ra (z1m) q q <| Ra (z1m) q q <| R0 <| Js <| z2g <| z0f (z0a t0.Right) z3e q q q <| z0f (z07 t0.Right.Graph) z27 q q q ?_
  refine z0f ((cL 1 z01) t0.Right.Graph.Nodes) z29 q q q <| z11 (AL 1 z01 t0.Right.Graph.Nodes) z1s q q q <| z1a (cc := z01) z2m q q <| z0f (z0m t0.Into) fo_41_4 q q q <| z0f ((cL 1 z01) t0.Into.Nodes) z6a q q q <| z11 (AL 1 z01 t0.Into.Nodes) z1s q q q <| z0d fun b1 h2 => z0j _ fn_122 (k_ref24_rest _ _ _ h2) q q <| z0f (z0a t0.Right) z3e q q q <| z0f (z07 t0.Right.Graph) z27 q q q ?_
  refine z0f ((cL 3 z0b) t0.Right.Graph.Edges) z2r q q q <| z11 (AL 3 z0b t0.Right.Graph.Edges) z5o q q q <| z1a (cc := z0b) il_27 q q <| z0f (z0m t0.Into) fo_41_4 q q q <| z0f ((cL 1 z01) t0.Into.Edges) z92 q q q <| z11 (AL 1 z01 t0.Into.Edges) z1s q q q <| z0d fun b3 h4 => z0j _ fn_122 (k_ref24_rest _ _ _ h4) q q <| Ra (AL 1 z01 b1) q q <| Ra (AL 1 z01 b3) q q ?_
  exact z1y (by kernel_rfl) <| Jt hΨ (z16 (As := [AL 1 z01 b1, AL 1 z01 b3]) q q (.cons (.tmp (A := AL 1 z01 b1) q) (.cons (.tmp (A := AL 1 z01 b3) q) .nil))) q q
theorem k_ref04_Below1_b (q_ref04_Below1 : z06 → Int → Int → Option Bool) (hq_ref04_Below1 : ∀ (t0 : z06) (t1 : Int) (t2 : Int) (r : Bool), q_ref04_Below1 t0 t1 t2 = some r → FnP PP 143 [z0w (z02 t0), I_ t1, I_ t2] (z00 r)) (t0 : z06) (t1 : Int) (t2 : Int) (r : Bool) (hr : z8b q_ref04_Below1 t0 t1 t2 = some r) : FnP PP 143 [z0w (z02 t0), I_ t1, I_ t2] (z00 r) := by
  refine Fo (fun (r : Bool) => z00 r) Tryz.func143 q (n := 25) q q hr fun X hΨ => ?_
  refine Jq q <| z17 (z0w (z02 t0)) q q <| Ra (z00 false) q q <| R0 <| Js <| z2g <| Rm (I_ t1) q q <| Rm (I_ t2) q q <| z2y q q q ?_
  refine Rm (z00 (decide (t1 = t2))) q q <| z1b (fun h1 => ?_) (fun h1 => ?_)
  · refine Rk (z0v q q (dt h1)) <| Rk (z0v q q (dt h1)) <| Rk (z0v q q (dt h1)) <| Rk (g_u q q) <| Rk (g_u q q) <| Rk (g_u q q) <| Rk (g_u q q) <| Rk (g_u q q) <| Rk (g_u q q) <| Rk (g_u q q) ?_
    exact Rk (g_u q q) <| Rk (g_u q q) <| Rk (z0v q q (dt h1)) <| z0k (z00 true) q (dt h1) q q <| Ra (z00 true) q q <| z1y (by kernel_rfl) <| Jt hΨ (z18 q) q q
  refine Rm (I_ t1) q (g_f q q (df h1)) <| z3c q q (g_f q q (df h1)) <| Rm (z00 (decide (0 ≤ t1))) q (g_f q q (df h1)) <| z1b (fun h2 => ?_) (fun h2 => ?_)
  rotate_left
  · refine Rk (z0y q q (df h2)) <| Rk (z0y q q (df h2)) <| Rk (z0y q q (df h2)) <| Rk (z0y q q (df h2)) <| Rk (z0y q q (df h2)) <| Rk (z0y q q (df h2)) <| Rk (z0y q q (df h2)) <| Rk (z0y q q (df h2)) <| Rk (z0y q q (df h2)) <| z0h (z00 false) q (df h2) q (g_f q q (df h1)) ?_
    exact z0h (z00 false) q (df h1) q q <| Ra (z00 false) q q <| z1y (by kernel_rfl) <| Jt hΨ (z18 q) q q
  refine z14 (z02 t0) z2j q q q (g_t q q (dt h2)) <| z0f ((cL 4 z03) t0.Nodes) z2i q q (g_t q q (dt h2)) <| z11 (AL 4 z03 t0.Nodes) z4z q q (g_t q q (dt h2)) <| Rm (I_ t1) q (g_t q q (dt h2)) <| z1b (fun h3 => ?_) (fun _ => z0u)
  refine z2k (cc := z03) el_22 q q h3.1 h3.2 (g_t q q (dt h2)) <| z0f (z01 ((nth t0.Nodes t1).Parent)) fo_97_1 q q (g_t q q (dt h2)) <| z11 (I_ ((nth t0.Nodes t1).Parent)) z1t q q (g_t q q (dt h2)) <| Rm (I_ t2) q (g_t q q (dt h2)) <| z0d fun b4 h5 => z0j _ fn_143 (hq_ref04_Below1 _ _ _ _ h5) q (g_t q q (dt h2)) <| z0k (z00 b4) q (dt h2) q (g_f q q (df h1)) <| z0h (z00 b4) q (df h1) q q <| Ra (z00 b4) q q <| z1y (by kernel_rfl) ?_
  exact Jt hΨ (z18 q) q q
theorem ref04_Below1_n_ok : ∀ n, (∀ (t0 : z06) (t1 : Int) (t2 : Int) (r : Bool), (z45 n) t0 t1 t2 = some r → FnP PP 143 [z0w (z02 t0), I_ t1, I_ t2] (z00 r)) := by
  intro n
  induction n with
  | zero => exact (fun _ _ _ _ h => by cases h)
  | succ n ih => exact (fun a0 a1 a2 r h => k_ref04_Below1_b _ ih a0 a1 a2 r h)
theorem k_ref04_Below1 (t0 : z06) (t1 : Int) (t2 : Int) (r : Bool) (hr : ref04_Below1 t0 t1 t2 = some r) : FnP PP 143 [z0w (z02 t0), I_ t1, I_ t2] (z00 r) := by
  obtain ⟨n, hn⟩ := Ev_some hr
  exact (ref04_Below1_n_ok n) t0 t1 t2 r hn
theorem k_ref04_Fits (t0 : z06) (t1 : Int) (t2 : Int) (t3 : Int) (r : Bool) (hr : ref04_Fits t0 t1 t2 t3 = some r) : FnP PP 89 [z0w (z02 t0), I_ t1, I_ t2, I_ t3] (z00 r) := by
  refine Fo (fun (r : Bool) => z00 r) Tryz.func89 q (n := 43) q q hr fun X hΨ => ?_
  refine Jq q <| z17 (z0w (z02 t0)) q q <| Ra (z00 false) q q <| R0 <| Js <| Jq q <| z14 (z02 t0) z2j q q q q <| Rm (I_ t2) q q ?_
  refine Rm (I_ t3) q q <| z0d fun b1 h2 => z0j _ fn_142 (k_ref04_given _ _ _ _ h2) q q <| z2a q q q <| Rm (z00 (decide (¬ (b1 = 0)))) q q <| z1b (fun h3 => ?_) (fun h3 => ?_)
  · refine Rk (z0v q q (dt h3)) <| Rk (z0v q q (dt h3)) <| Rk (z0v q q (dt h3)) <| Rk (z0v q q (dt h3)) <| Rk (z0v q q (dt h3)) <| Rk (z0v q q (dt h3)) <| Rk (z0v q q (dt h3)) <| z0k (z00 true) q (dt h3) q q <| R0 <| z1d q q ?_
    exact Jq q <| Ra (z00 false) q q <| Rt hΨ q q q
  refine Rm (I_ t1) q (g_f q q (df h3)) <| z0f ((cL 7 z0c) t0.Edges) z3w q q (g_f q q (df h3)) <| z11 (AL 7 z0c t0.Edges) sc_23 q q (g_f q q (df h3)) <| z1a (cc := z0c) il_23 q (g_f q q (df h3)) <| z0d fun b4 h5 => z7z b4 q q (Option.some.inj h5) (g_f q q (df h3)) <| z0d fun b6 h7 => z0j _ fn_108 (z6l _ _ _ _ h7) q (g_f q q (df h3)) <| z2x q (g_f q q (df h3)) <| z0h (z00 (!b6)) q (df h3) q q ?_
  refine R0 <| z1v q (fun h8 => ?_) (fun h8 => ?_)
  · exact Jq q <| Ra (z00 false) q q <| Rt hΨ q q q
  refine z0e <| Js <| z2g <| z14 (z02 t0) z2j q q q q <| Rm (I_ t2) q q <| z0f ((cL 7 z0c) t0.Edges) z3w q q q <| z11 (AL 7 z0c t0.Edges) sc_23 q q q <| Rm (I_ t1) q q <| z1b (fun h9 => ?_) (fun _ => z0u)
  refine z2k (cc := z0c) el_23 q q h9.1 h9.2 q <| z0f (z01 ((nth t0.Edges t1).From)) fo_102_1 q q q <| z11 (I_ ((nth t0.Edges t1).From)) z1t q q q <| z0d fun b10 h11 => z0j _ fn_143 (k_ref04_Below1 _ _ _ _ h11) q q <| Rm (z00 b10) q q <| z1b (fun h12 => ?_) (fun h12 => ?_)
  rotate_left
  · refine Rk (z0y q q (bf h12)) <| Rk (z0y q q (bf h12)) <| Rk (z0y q q (bf h12)) <| Rk (z0y q q (bf h12)) <| Rk (z0y q q (bf h12)) <| Rk (z0y q q (bf h12)) <| Rk (z0y q q (bf h12)) <| Rk (z0y q q (bf h12)) <| Rk (z0y q q (bf h12)) <| z0h (z00 false) q (bf h12) q q ?_
    exact Ra (z00 false) q q <| z1y (by kernel_rfl) <| Jt hΨ (z18 q) q q
  refine z14 (z02 t0) z2j q q q (g_t q q h12) <| Rm (I_ t3) q (g_t q q h12) <| z0f ((cL 7 z0c) t0.Edges) z3w q q (g_t q q h12) <| z11 (AL 7 z0c t0.Edges) sc_23 q q (g_t q q h12) <| Rm (I_ t1) q (g_t q q h12) <| z2k (cc := z0c) el_23 q q h9.1 h9.2 (g_t q q h12) <| z0f (z01 ((nth t0.Edges t1).To)) fo_102_2 q q (g_t q q h12) <| z11 (I_ ((nth t0.Edges t1).To)) z1t q q (g_t q q h12) <| z0d fun b13 h14 => z0j _ fn_143 (k_ref04_Below1 _ _ _ _ h14) q (g_t q q h12) ?_
  exact z0k (z00 b13) q h12 q q <| Ra (z00 b13) q q <| z1y (by kernel_rfl) <| Jt hΨ (z18 q) q q
theorem k_ref24_proper (t0 : z06) (t1 : z0p) (t2 : (List Int)) (t3 : (List Int)) (r : Bool) (hr : ref24_proper t0 t1 t2 t3 = some r) : FnP PP 73 [z0w (z02 t0), z0w (z07 t1), AL 1 z01 t2, AL 1 z01 t3] (z00 r) := by
  refine Fo (fun (r : Bool) => z00 r) Tryz.func73 q (n := 62) q q hr fun X hΨ => ?_
  refine Jq q <| z17 (z0w (z02 t0)) q q <| z17 (z0w (z07 t1)) q q <| Ra (z00 false) q q <| R0 <| Js <| Jq q <| Ra (I_ 0) q q ?_
  refine R0 <| z0n <| Jn (fun x1 => ⟨fr [(2, AL 1 z01 t2), (3, AL 1 z01 t3), (4, z1r (z02 t0)), (5, z1r (z07 t1)), (9, I_ x1)], hp [], 0⟩) [] [] [] q (.s2 q q (.s3 q q q .nil)) .nil q q (fun E2 hE2 x1 => ?_)
  refine Js <| Jq q <| Rm (I_ x1) q q <| Rm (AL 1 z01 t2) q q <| z1a (cc := z01) z2m q q <| z1o q q q <| R0 <| z09 q (fun h8 => ?_) (fun h8 => ?_)
  · refine z0e <| Js <| z0n <| Js <| z2g <| z0f ((cL 4 z03) t0.Nodes) z2i q q q <| z11 (AL 4 z03 t0.Nodes) z4z q q q <| z0f ((cL 1 z01) t1.Nodes) z29 q q q <| z11 (AL 1 z01 t1.Nodes) z1s q q q <| Rm (AL 1 z01 t2) q q ?_
    refine Rm (I_ x1) q q <| z1b (fun h9 => ?_) (fun _ => z0u)
    refine z2k (cc := z01) z1w q q h9.1 h9.2 q <| z11 (I_ (nth t2 x1)) z1t q q q <| z1b (fun h10 => ?_) (fun _ => z0u)
    refine z2k (cc := z01) z1w q q h10.1 h10.2 q <| z11 (I_ (nth t1.Nodes (nth t2 x1))) z1t q q q <| z1b (fun h11 => ?_) (fun _ => z0u)
    refine z2k (cc := z03) el_22 q q h11.1 h11.2 q <| z0f (z9e ((nth t0.Nodes (nth t1.Nodes (nth t2 x1))).Abstract)) fo_97_2 q q q <| z11 (z00 ((nth t0.Nodes (nth t1.Nodes (nth t2 x1))).Abstract)) sc_4 q q q <| z1y (by kernel_rfl) <| z1v q (fun h12 => ?_) (fun h12 => ?_)
    · exact Jq q <| Ra (z00 false) q q <| R0 <| z0x <| Jt hΨ (z18 q) q q
    exact z0e <| z0s <| z0o 14 (m := (t2.length : Int)) q fun q13 => z0o 9 (m := x1) q fun q14 => Jr q <| Rm (I_ x1) q q <| z1l (x1 + 1) q q (z0z (by omega) (by omega)) q <| Ra (I_ (x1 + 1)) q q <| R0 <| z41 <| Jc [] [] [] (hE2 (x1 + 1)) (.s2 q q (.s3 q q q .nil)) .nil q q
  refine z1j q <| z7w <| Js <| Jq q <| Ra (I_ 0) q q <| R0 <| z0n <| Jn (fun x15 => ⟨fr [(3, AL 1 z01 t3), (4, z1r (z02 t0)), (5, z1r (z07 t1)), (9, I_ x1), (10, I_ x15), (12, I_ x1), (14, I_ (t2.length : Int))], hp [], 0⟩) [] [] [] q (.same q (.s6 q q q q q q .nil)) .nil q q (fun E16 hE16 x15 => ?_)
  refine Js <| Jq q <| Rm (I_ x15) q q <| Rm (AL 1 z01 t3) q q <| z1a (cc := z01) z2m q q <| z1o q q q <| R0 <| z09 q (fun h25 => ?_) (fun h25 => ?_)
  rotate_left
  · exact z1j q <| z0x <| Jq q <| Ra (z00 true) q q <| Rt hΨ q q q
  refine z0e <| Js <| z0n <| Js <| z2g <| z0f ((cL 3 z0b) t1.Edges) z2r q q q <| z11 (AL 3 z0b t1.Edges) z5o q q q <| Rm (AL 1 z01 t3) q q <| Rm (I_ x15) q q <| z1b (fun h26 => ?_) (fun _ => z0u)
  refine z2k (cc := z01) z1w q q h26.1 h26.2 q <| z11 (I_ (nth t3 x15)) z1t q q q <| z1b (fun h27 => ?_) (fun _ => z0u)
  refine z2k (cc := z0b) el_27 q q h27.1 h27.2 q <| z14 (z0b (nth t1.Edges (nth t3 x15))) ag_77 q q q q <| z1x 0 _ z_77 q q <| z2p (z0i 0) (z0w (z0b (nth t1.Edges (nth t3 x15)))) (z0b (nth t1.Edges (nth t3 x15))) sz_77 q .obj q q q q q q <| z1y (by kernel_rfl) <| Js <| z2g <| z14 (z02 t0) z2j q q q q <| z24 (z0i 0) 0 z77 q .obj q q q <| z2b (z1f 0 0) (I_ ((nth t1.Edges (nth t3 x15)).Type_)) z1t q .at q q q ?_
  refine z0f ((cL 1 z01) t1.Nodes) z29 q q q <| z11 (AL 1 z01 t1.Nodes) z1s q q q <| z24 (z0i 0) 1 zaf q .obj q q q <| z2b (z1f 0 1) (I_ ((nth t1.Edges (nth t3 x15)).From)) z1t q .at q q q <| z1b (fun h28 => ?_) (fun _ => z0u)
  refine z2k (cc := z01) z1w q q h28.1 h28.2 q <| z11 (I_ (nth t1.Nodes ((nth t1.Edges (nth t3 x15)).From))) z1t q q q <| z0f ((cL 1 z01) t1.Nodes) z29 q q q <| z11 (AL 1 z01 t1.Nodes) z1s q q q <| z24 (z0i 0) 2 zae q .obj q q q <| z2b (z1f 0 2) (I_ ((nth t1.Edges (nth t3 x15)).To)) z1t q .at q q q <| z1b (fun h29 => ?_) (fun _ => z0u)
  refine z2k (cc := z01) z1w q q h29.1 h29.2 q <| z11 (I_ (nth t1.Nodes ((nth t1.Edges (nth t3 x15)).To))) z1t q q q <| z0d fun b30 h31 => z0j _ fn_89 (k_ref04_Fits _ _ _ _ _ h31) q q <| z2x q q <| z1y (by kernel_rfl) <| z1v q (fun h32 => ?_) (fun h32 => ?_)
  · exact Jq q <| Ra (z00 false) q q <| R0 <| z0x <| Jt hΨ (z18 q) q q
  exact z0e <| z0s <| z0o 33 (m := (t3.length : Int)) q fun q33 => z0o 10 (m := x15) q fun q34 => Jr q <| Rm (I_ x15) q q <| z1l (x15 + 1) q q (z0z (by omega) (by omega)) q <| Ra (I_ (x15 + 1)) q q <| R0 <| z41 <| Jc [] [] [] (hE16 (x15 + 1)) (.same q (.s6 q q q q q q .nil)) .nil q q
theorem k_ref22_unused (t0 : z05) (r : Bool) (hr : z99 t0 = some r) : FnP PP 236 [z0w (z04 t0)] (z00 r) := by
  refine Fo (fun (r : Bool) => z00 r) Tryz.func236 q (n := 45) q q hr fun X hΨ => ?_
  refine Jq q <| z17 (z0w (z04 t0)) q q <| Ra (z00 false) q q <| R0 <| Jq q <| z0f (z0m t0.Map) fo_39_2 q q q <| z0f ((cL 1 z01) t0.Map.Nodes) z6a q q q <| z11 (AL 1 z01 t0.Map.Nodes) z1s q q q ?_
  refine z1a (cc := z01) z2m q q <| z0f (z0m t0.Map) fo_39_2 q q q <| z0f ((cL 1 z01) t0.Map.Edges) z92 q q q <| z11 (AL 1 z01 t0.Map.Edges) z1s q q q <| z1a (cc := z01) z2m q q <| z0d fun b1 h2 => z1l b1 q q (Option.some.inj h2) q <| z0f (z0a t0.Pattern) fo_39_3 q q q <| z0f (z07 t0.Pattern.Graph) z27 q q q <| z0f ((cL 1 z01) t0.Pattern.Graph.Nodes) z29 q q q ?_
  refine z11 (AL 1 z01 t0.Pattern.Graph.Nodes) z1s q q q <| z1a (cc := z01) z2m q q <| z0d fun b3 h4 => z1l b3 q q (Option.some.inj h4) q <| z0f (z0a t0.Pattern) fo_39_3 q q q <| z0f (z07 t0.Pattern.Graph) z27 q q q <| z0f ((cL 3 z0b) t0.Pattern.Graph.Edges) z2r q q q <| z11 (AL 3 z0b t0.Pattern.Graph.Edges) z5o q q q <| z1a (cc := z0b) il_27 q q <| z0d fun b5 h6 => ?_
  refine z1l b5 q q (Option.some.inj h6) q <| z2y q q q <| Ra (z00 (decide (b5 = 0))) q q <| R0 <| Jq q <| Rm (z00 (decide (b5 = 0))) q q <| Rm (z00 (decide (b5 = 0))) q q <| z1b (fun h7 => ?_) (fun h7 => ?_)
  rotate_left
  · refine Rk (z0y q q (df h7)) <| Rk (z0y q q (df h7)) <| Rk (z0y q q (df h7)) <| Rk (z0y q q (df h7)) <| Rk (z0y q q (df h7)) <| Rk (z0y q q (df h7)) <| Rk (z0y q q (df h7)) <| Rk (z0y q q (df h7)) <| Rk (z0y q q (df h7)) <| Rk (z0y q q (df h7)) ?_
    exact z0h (z00 false) q (df h7) q q <| Rm (z00 false) q q <| Rk (z0y q q q) <| Rk (z0y q q q) <| Rk (z0y q q q) <| Rk (z0y q q q) <| z0h (z00 false) q q q q <| Ra (z00 false) q q <| Rt hΨ q q q
  refine z0f (z0a t0.Pattern) fo_39_3 q q (g_t q q (dt h7)) <| z0f ((cL 4 z0l) t0.Pattern.Slots) z55 q q (g_t q q (dt h7)) <| z11 (AL 4 z0l t0.Pattern.Slots) sc_30 q q (g_t q q (dt h7)) <| z1a (cc := z0l) il_30 q (g_t q q (dt h7)) <| z0f (z0a t0.Pattern) fo_39_3 q q (g_t q q (dt h7)) <| z0f ((cL 5 z13) t0.Pattern.Tests) fo_33_3 q q (g_t q q (dt h7)) <| z11 (AL 5 z13 t0.Pattern.Tests) sc_31 q q (g_t q q (dt h7)) <| z1a (cc := z13) il_31 q (g_t q q (dt h7)) <| z0d fun b8 h9 => z1l b8 q q (Option.some.inj h9) (g_t q q (dt h7)) ?_
  refine z2y q q (g_t q q (dt h7)) <| z0k (z00 (decide (b8 = 0))) q (dt h7) q q <| Rm (z00 (decide (b8 = 0))) q q <| z1b (fun h10 => ?_) (fun h10 => ?_)
  · exact z0f (z0a t0.Pattern) fo_39_3 q q (g_t q q (dt h10)) <| z0f (z01 t0.Pattern.Vars) z4q q q (g_t q q (dt h10)) <| z11 (I_ t0.Pattern.Vars) z1t q q (g_t q q (dt h10)) <| z2y q q (g_t q q (dt h10)) <| z0k (z00 (decide (t0.Pattern.Vars = 0))) q (dt h10) q q <| Ra (z00 (decide (t0.Pattern.Vars = 0))) q q <| Rt hΨ q q q
  exact Rk (z0y q q (df h10)) <| Rk (z0y q q (df h10)) <| Rk (z0y q q (df h10)) <| Rk (z0y q q (df h10)) <| z0h (z00 false) q (df h10) q q <| Ra (z00 false) q q <| Rt hΨ q q q
theorem k_ref22_right (t0 : z05) (r : Bool) (hr : ref22_right t0 = some r) : FnP PP 209 [z0w (z04 t0)] (z00 r) := by
  refine Fo (fun (r : Bool) => z00 r) Tryz.func209 q (n := 42) q q hr fun X hΨ => ?_
  refine Jq q <| z17 (z0w (z04 t0)) q q <| Ra (z00 false) q q <| R0 <| Js <| Jq q <| z0f (z01 t0.Kind) fo_39_0 q q q <| z11 (I_ t0.Kind) z1t q q q ?_
  refine R0 <| z0n <| Jq q <| z2y q q q <| Ra (z00 (decide (t0.Kind = 1))) q q <| R0 <| z09 q (fun h1 => ?_) (fun h1 => ?_)
  · refine Jq q <| z0f (z25 t0.Kids) z81 q q q <| z11 (AL 9 z04 t0.Kids) sc_37 q (z21 _) q <| z1a (cc := z04) il_37 q q <| z2y q q q <| Rm (z00 (decide ((t0.Kids.length : Int) = 0))) q q <| z1b (fun h2 => ?_) (fun h2 => ?_)
    rotate_left
    · exact Rk (z0y q q (df h2)) <| Rk (z0y q q (df h2)) <| z0h (z00 false) q (df h2) q q <| Ra (z00 false) q q <| Rt hΨ q q q
    exact z14 (z04 t0) zaj q q q (g_t q q (dt h2)) <| z0d fun b3 h4 => z0j _ fn_236 (k_ref22_unused _ _ h4) q (g_t q q (dt h2)) <| z0k (z00 b3) q (dt h2) q q <| Ra (z00 b3) q q <| Rt hΨ q q q
  refine Jq q <| z2y q q q <| Ra (z00 (decide (t0.Kind = 2))) q q <| R0 <| z09 q (fun h5 => ?_) (fun h5 => ?_)
  · refine Jq q <| z0f (z25 t0.Kids) z81 q q q <| z11 (AL 9 z04 t0.Kids) sc_37 q (z21 _) q <| z1a (cc := z04) il_37 q q <| z2y q q q <| Rm (z00 (decide ((t0.Kids.length : Int) = 1))) q q <| z1b (fun h6 => ?_) (fun h6 => ?_)
    rotate_left
    · exact Rk (z0y q q (df h6)) <| Rk (z0y q q (df h6)) <| z0h (z00 false) q (df h6) q q <| Ra (z00 false) q q <| Rt hΨ q q q
    exact z14 (z04 t0) zaj q q q (g_t q q (dt h6)) <| z0d fun b7 h8 => z0j _ fn_236 (k_ref22_unused _ _ h8) q (g_t q q (dt h6)) <| z0k (z00 b7) q (dt h6) q q <| Ra (z00 b7) q q <| Rt hΨ q q q
  refine Js <| Jq q <| z2y q q q <| Ra (z00 (decide (t0.Kind = 3))) q q <| R0 ?_
  apply z2w (fun v13 => ⟨fr [(1, z1r (z04 t0)), (4, I_ t0.Kind), (25, z00 v13)], fun _ => none, 0⟩) (fun v13 => z9u t0 v13)
  · intro K19
    refine z09 q (fun h9 => ?_) (fun h9 => ?_)
    · exact z0e <| Jk (K19 (decide (t0.Kind = 3))) (.c3 q q q .nil)
    exact Jr q <| z2y q q q <| Ra (z00 (decide (t0.Kind = 4))) q q <| R0 <| Jk (K19 (decide (t0.Kind = 4))) (.c3 q q q .nil)
  intro v13
  refine z1v q (fun h14 => ?_) (fun h14 => ?_)
  · refine Jq q <| z0f (z25 t0.Kids) z81 q q q <| z11 (AL 9 z04 t0.Kids) sc_37 q (z21 _) q <| z1a (cc := z04) il_37 q q <| z3a q q q <| Rm (z00 (decide (0 < (t0.Kids.length : Int)))) q q <| z1b (fun h15 => ?_) (fun h15 => ?_)
    rotate_left
    · exact Rk (z0y q q (df h15)) <| Rk (z0y q q (df h15)) <| z0h (z00 false) q (df h15) q q <| Ra (z00 false) q q <| Rt hΨ q q q
    exact z14 (z04 t0) zaj q q q (g_t q q (dt h15)) <| z0d fun b16 h17 => z0j _ fn_236 (k_ref22_unused _ _ h17) q (g_t q q (dt h15)) <| z0k (z00 b16) q (dt h15) q q <| Ra (z00 b16) q q <| Rt hΨ q q q
  refine Jq q <| z2y q q q <| Ra (z00 (decide (t0.Kind = 5))) q q <| R0 <| z09 q (fun h18 => ?_) (fun h18 => ?_)
  rotate_left
  · exact z0e <| z0s <| Jq q <| Ra (z00 false) q q <| Rt hΨ q q q
  exact Jq q <| z0f (z25 t0.Kids) z81 q q q <| z11 (AL 9 z04 t0.Kids) sc_37 q (z21 _) q <| z1a (cc := z04) il_37 q q <| z2y q q q <| Ra (z00 (decide ((t0.Kids.length : Int) = 1))) q q <| Rt hΨ q q q
theorem k_ref22_allRight_b (q_ref22_allRight : z05 → Option Bool) (hq_ref22_allRight : ∀ (t0 : z05) (r : Bool), q_ref22_allRight t0 = some r → FnP PP 168 [z0w (z04 t0)] (z00 r)) (t0 : z05) (r : Bool) (hr : z4k q_ref22_allRight t0 = some r) : FnP PP 168 [z0w (z04 t0)] (z00 r) := by
  refine Fo (fun (r : Bool) => z00 r) Tryz.func168 q (n := 21) q q hr fun X hΨ => ?_
  refine Jq q <| z17 (z0w (z04 t0)) q q <| Ra (z00 false) q q <| R0 <| Js <| Jq q <| z14 (z04 t0) zaj q q q q <| z0d fun b1 h2 => ?_
  refine z0j _ fn_209 (k_ref22_right _ _ h2) q q <| z2x q q <| R0 <| z1v q (fun h3 => ?_) (fun h3 => ?_)
  · exact Jq q <| Ra (z00 false) q q <| Rt hΨ q q q
  refine z0e <| Js <| Jq q <| Ra (I_ 0) q q <| R0 <| z0n <| Jl (fun x4 => [(1, z1r (z04 t0)), (3, I_ x4)]) (.c2 q q .nil) (fun E5 hE5 x4 => ?_)
  refine Js <| Jq q <| Rm (I_ x4) q q <| z0f (z25 t0.Kids) z81 q q q <| z11 (AL 9 z04 t0.Kids) sc_37 q (z21 _) q <| z1a (cc := z04) il_37 q q <| z1o q q q <| R0 <| z09 q (fun h11 => ?_) (fun h11 => ?_)
  rotate_left
  · exact z1j q <| z0x <| Jq q <| Ra (z00 true) q q <| Rt hΨ q q q
  refine z0e <| Js <| z0n <| Jq q <| z0f (z25 t0.Kids) z81 q q q <| z11 (AL 9 z04 t0.Kids) sc_37 q (z21 _) q <| Rm (I_ x4) q q <| z1b (fun h12 => ?_) (fun _ => z0u)
  refine z2k (cc := z04) el_37 q q h12.1 h12.2 q <| z14 (z04 (nth t0.Kids x4)) zaj q q q q <| z0d fun b13 h14 => z0j _ fn_168 (hq_ref22_allRight _ _ h14) q q <| z2x q q <| R0 <| z1v q (fun h15 => ?_) (fun h15 => ?_)
  · exact Jq q <| Ra (z00 false) q q <| R0 <| z0x <| Jt hΨ (z18 q) q q
  exact z0e <| z0s <| z0o 10 (m := (t0.Kids.length : Int)) q fun q16 => z0o 3 (m := x4) q fun q17 => Jr q <| Rm (I_ x4) q q <| z1l (x4 + 1) q q (z0z (by omega) (by omega)) q <| Ra (I_ (x4 + 1)) q q <| R0 <| z41 <| Jk (hE5 (x4 + 1)) (.c2 q q .nil)
theorem ref22_allRight_n_ok : ∀ n, (∀ (t0 : z05) (r : Bool), (z2e n) t0 = some r → FnP PP 168 [z0w (z04 t0)] (z00 r)) := by
  intro n
  induction n with
  | zero => exact (fun _ _ h => by cases h)
  | succ n ih => exact (fun a0 r h => k_ref22_allRight_b _ ih a0 r h)
theorem k_ref22_allRight (t0 : z05) (r : Bool) (hr : ref22_allRight t0 = some r) : FnP PP 168 [z0w (z04 t0)] (z00 r) := by
  obtain ⟨n, hn⟩ := Ev_some hr
  exact (ref22_allRight_n_ok n) t0 r hn
theorem k_ref22_Measure_b (q_ref22_Measure : z05 → Option (Int × Int)) (hq_ref22_Measure : ∀ (t0 : z05) (r : Int × Int), q_ref22_Measure t0 = some r → FnP PP 169 [z0w (z04 t0)] (z35 [I_ r.1, I_ r.2])) (t0 : z05) (r : Int × Int) (hr : z4a q_ref22_Measure t0 = some r) : FnP PP 169 [z0w (z04 t0)] (z35 [I_ r.1, I_ r.2]) := by
  refine Fo (fun (r : Int × Int) => z35 [I_ r.1, I_ r.2]) Tryz.func169 q (n := 38) q q hr fun X hΨ => ?_
  refine Jq q <| z17 (z0w (z04 t0)) q q <| Ra (I_ 0) q q <| Ra (I_ 0) q q <| R0 <| Jq q <| Ra (I_ 1) q q <| Ra (I_ 0) q q ?_
  refine R0 <| Js <| Jq q <| Ra (I_ 0) q q <| R0 <| z0n <| Jl (fun x1 => [(1, z1r (z04 t0)), (4, I_ x1.1), (5, I_ x1.2.1), (6, I_ x1.2.2)]) (.cons q (.c3 q q q .nil)) (fun E2 hE2 x1 => ?_)
  refine Js <| Jq q <| Rm (I_ x1.2.2) q q <| z0f (z25 t0.Kids) z81 q q q <| z11 (AL 9 z04 t0.Kids) sc_37 q (z21 _) q <| z1a (cc := z04) il_37 q q <| z1o q q q <| R0 <| z09 q (fun h9 => ?_) (fun h9 => ?_)
  rotate_left
  · refine z1j q <| z7w <| Js <| Jq q <| z0f (z01 t0.Kind) fo_39_0 q q q <| z11 (I_ t0.Kind) z1t q q q <| z2y q q q <| R0 ?_
    apply z2w (fun v20 => ⟨fr [(4, I_ x1.1), (5, I_ v20), (6, I_ x1.2.2), (9, I_ x1.2.2), (12, I_ (t0.Kids.length : Int)), (32, I_ t0.Kind)], fun _ => none, 0⟩) (fun v20 => ref22_Measure_j20 x1 v20)
    · intro K21
      refine z09 q (fun h17 => ?_) (fun h17 => ?_)
      rotate_left
      · exact z0e <| Jk (K21 x1.2.1) (.c6 q q q q q q .nil)
      exact Jr q <| Rm (I_ x1.2.1) q q <| z0d fun b18 h19 => z1l b18 q q (Option.some.inj h19) q <| Ra (I_ b18) q q <| R0 <| Jk (K21 b18) (.c6 q q q q q q .nil)
    intro v20
    exact Jq q <| Rm (I_ x1.1) q q <| Rm (I_ v20) q q <| Ra (I_ x1.1) q q <| Ra (I_ v20) q q <| R0 <| Jt hΨ (z16 (As := [I_ x1.1, I_ v20]) q q (.cons (.tmp (A := I_ x1.1) q) (.cons (.tmp (A := I_ v20) q) .nil))) q q
  refine z0e <| Js <| z0n <| Jq q <| z0f (z25 t0.Kids) z81 q q q <| z11 (AL 9 z04 t0.Kids) sc_37 q (z21 _) q <| Rm (I_ x1.2.2) q q <| z1b (fun h10 => ?_) (fun _ => z0u)
  refine z2k (cc := z04) el_37 q q h10.1 h10.2 q <| z14 (z04 (nth t0.Kids x1.2.2)) zaj q q q q <| z0d fun b11 h12 => z0j _ fn_169 (hq_ref22_Measure _ _ h12) q q <| Rm (z35 [I_ b11.1, I_ b11.2]) q q <| z20 (I_ b11.1) q q q <| z20 (I_ b11.2) q q q <| Ra (I_ b11.1) q q <| Ra (I_ b11.2) q q <| R0 ?_
  refine Jr q <| Rm (I_ x1.1) q q <| Rm (I_ b11.1) q q <| z0d fun b13 h14 => z1l b13 q q (Option.some.inj h14) q <| Rm (I_ x1.2.1) q q <| Rm (I_ b11.2) q q <| r_max q q q <| Ra (I_ b13) q q <| Ra (I_ (if x1.2.1 < b11.2 then b11.2 else x1.2.1)) q q ?_
  exact R0 <| z0s <| z0o 12 (m := (t0.Kids.length : Int)) q fun q15 => z0o 6 (m := x1.2.2) q fun q16 => Jr q <| Rm (I_ x1.2.2) q q <| z1l (x1.2.2 + 1) q q (z0z (by omega) (by omega)) q <| Ra (I_ (x1.2.2 + 1)) q q <| R0 <| z41 <| Jk (hE2 (b13, (if x1.2.1 < b11.2 then b11.2 else x1.2.1), x1.2.2 + 1)) (.cons q (.c3 q q q .nil))
theorem ref22_Measure_n_ok : ∀ n, (∀ (t0 : z05) (r : Int × Int), (z2t n) t0 = some r → FnP PP 169 [z0w (z04 t0)] (z35 [I_ r.1, I_ r.2])) := by
  intro n
  induction n with
  | zero => exact (fun _ _ h => by cases h)
  | succ n ih => exact (fun a0 r h => k_ref22_Measure_b _ ih a0 r h)
theorem k_ref22_Measure (t0 : z05) (r : Int × Int) (hr : ref22_Measure t0 = some r) : FnP PP 169 [z0w (z04 t0)] (z35 [I_ r.1, I_ r.2]) := by
  obtain ⟨n, hn⟩ := Ev_some hr
  exact (ref22_Measure_n_ok n) t0 r hn
theorem k_ref22_Shape (t0 : z05) (r : Int) (hr : ref22_Shape t0 = some r) : FnP PP 123 [z0w (z04 t0)] (I_ r) := by
  refine Fo (fun (r : Int) => I_ r) Tryz.func123 q (n := 19) q q hr fun X hΨ => ?_
  refine Jq q <| z17 (z0w (z04 t0)) q q <| Ra (I_ 0) q q <| R0 <| Js <| Jq q <| z14 (z04 t0) zaj q q q q <| z0d fun b1 h2 => ?_
  refine z0j _ fn_168 (k_ref22_allRight _ _ h2) q q <| z2x q q <| R0 <| z1v q (fun h3 => ?_) (fun h3 => ?_)
  · exact Jq q <| Ra (I_ 1) q q <| Rt hΨ q q q
  refine z0e <| Js <| Jq q <| z14 (z04 t0) zaj q q q q <| z0d fun b4 h5 => z0j _ fn_169 (k_ref22_Measure _ _ h5) q q <| Rm (z35 [I_ b4.1, I_ b4.2]) q q <| z20 (I_ b4.1) q q q <| z20 (I_ b4.2) q q q ?_
  refine Ra (I_ b4.1) q q <| Ra (I_ b4.2) q q <| R0 <| Jq q <| Rm (I_ b4.1) q q <| z3a q q q <| Rm (z00 (decide (12 < b4.1))) q q <| z1b (fun h6 => ?_) (fun h6 => ?_)
  · exact Rk (z0v q q (dt h6)) <| Rk (z0v q q (dt h6)) <| z0k (z00 true) q (dt h6) q q <| R0 <| z1d q q <| Jq q <| Ra (I_ 3) q q <| Rt hΨ q q q
  refine Rm (I_ b4.2) q (g_f q q (df h6)) <| z3a q q (g_f q q (df h6)) <| z0h (z00 (decide (3 < b4.2))) q (df h6) q q <| R0 <| z09 q (fun h7 => ?_) (fun h7 => ?_)
  · exact Jq q <| Ra (I_ 3) q q <| Rt hΨ q q q
  exact z0e <| Jq q <| Ra (I_ 0) q q <| Rt hΨ q q q
theorem k_ref22_occurs (t0 : z0q) (t1 : Int) (r : Bool) (hr : ref22_occurs t0 t1 = some r) : FnP PP 210 [z0w (z0a t0), I_ t1] (z00 r) := by
  refine Fo (fun (r : Bool) => z00 r) Tryz.func210 q (n := 22) q q hr fun X hΨ => ?_
  refine Jq q <| z17 (z0w (z0a t0)) q q <| Ra (z00 false) q q <| R0 <| Js <| Jq q <| Ra (I_ 0) q q <| R0 ?_
  refine z0n <| Jl (fun x1 => [(1, I_ t1), (2, z1r (z0a t0)), (5, I_ x1)]) (.c3 q q q .nil) (fun E2 hE2 x1 => ?_)
  refine Js <| Jq q <| Rm (I_ x1) q q <| z0f ((cL 4 z0l) t0.Slots) z55 q q q <| z11 (AL 4 z0l t0.Slots) sc_30 q q q <| z1a (cc := z0l) il_30 q q <| z1o q q q <| R0 <| z09 q (fun h6 => ?_) (fun h6 => ?_)
  rotate_left
  · exact z1j q <| z0x <| Jq q <| Ra (z00 false) q q <| Rt hΨ q q q
  refine z0e <| Js <| z0n <| Jq q <| z0f ((cL 4 z0l) t0.Slots) z55 q q q <| z11 (AL 4 z0l t0.Slots) sc_30 q q q <| Rm (I_ x1) q q <| z1b (fun h7 => ?_) (fun _ => z0u)
  refine z2k (cc := z0l) el_30 q q h7.1 h7.2 q <| z0f (z2s ((nth t0.Slots x1).Term)) z6b q q q <| z0f (z01 (((nth t0.Slots x1).Term).Var)) z5l q q q <| z11 (I_ (((nth t0.Slots x1).Term).Var)) z1t q q q <| Rm (I_ t1) q q <| z2y q q q <| R0 <| z09 q (fun h8 => ?_) (fun h8 => ?_)
  · exact Jq q <| Ra (z00 true) q q <| R0 <| z0x <| Jt hΨ (z18 q) q q
  exact z0e <| z0s <| z0o 9 (m := (t0.Slots.length : Int)) q fun q9 => z0o 5 (m := x1) q fun q10 => Jr q <| Rm (I_ x1) q q <| z1l (x1 + 1) q q (z0z (by omega) (by omega)) q <| Ra (I_ (x1 + 1)) q q <| R0 <| z41 <| Jk (hE2 (x1 + 1)) (.c3 q q q .nil)
theorem k_ref22_inner (t0 : z06) (t1 : Int) (t2 : z0q) (r : Int) (hr : ref22_inner t0 t1 t2 = some r) : FnP PP 170 [z0w (z02 t0), I_ t1, z0w (z0a t2)] (I_ r) := by
  refine Fo (fun (r : Int) => I_ r) Tryz.func170 q (n := 31) q q hr fun X hΨ => ?_
  refine Jq q <| z17 (z0w (z02 t0)) q q <| z17 (z0w (z0a t2)) q q <| Ra (I_ 0) q q <| R0 <| Js <| Jq q <| z0f (z01 t2.Vars) z4q q q q ?_
  refine z11 (I_ t2.Vars) z1t q q q <| Rm (I_ t1) q q <| z1o q q q <| R0 <| z09 q (fun h1 => ?_) (fun h1 => ?_)
  · exact Jq q <| Ra (I_ 20) q q <| Rt hΨ q q q
  refine z0e <| Jq q <| z14 (z02 t0) z2j q q q q <| z14 (z0a t2) ag_33 q q q q <| z0d fun b2 h3 => z0j _ fn_68 (k_ref21_Valid _ _ _ h3) q q <| Ra (I_ b2) q q <| R0 <| Js ?_
  refine Jq q <| Rm (I_ b2) q q <| z2a q q q <| R0 <| z09 q (fun h4 => ?_) (fun h4 => ?_)
  · exact Jq q <| Rm (I_ b2) q q <| Ra (I_ b2) q q <| Rt hΨ q q q
  refine z0e <| Js <| Jq q <| Rm (I_ t1) q q <| Ra (I_ t1) q q <| R0 <| z0n <| Jl (fun x5 => [(1, I_ t1), (5, z1r (z0a t2)), (7, I_ b2), (8, I_ x5), (10, I_ t2.Vars), (11, I_ t1), (15, I_ b2), (16, I_ b2), (19, I_ t1)]) (.c3 q q q (.c6 q q q q q q .nil)) (fun E6 hE6 x5 => ?_)
  refine Js <| Jq q <| Rm (I_ x5) q q <| z0f (z01 t2.Vars) z4q q q q <| z11 (I_ t2.Vars) z1t q q q <| z1o q q q <| R0 <| z09 q (fun h13 => ?_) (fun h13 => ?_)
  rotate_left
  · exact z1j q <| z0x <| Jq q <| Ra (I_ 0) q q <| Rt hΨ q q q
  refine z0e <| Js <| z0n <| Jq q <| z14 (z0a t2) ag_33 q q q q <| Rm (I_ x5) q q <| z0d fun b14 h15 => z0j _ fn_210 (k_ref22_occurs _ _ _ h15) q q <| z2x q q ?_
  refine R0 <| z1v q (fun h16 => ?_) (fun h16 => ?_)
  · exact Jq q <| Rm (I_ b2) q q <| Ra (I_ b2) q q <| R0 <| z0x <| Jt hΨ (z18 q) q q
  exact z0e <| z0s <| z0o 10 (m := t2.Vars) q fun q17 => z0o 8 (m := x5) q fun q18 => Jr q <| Rm (I_ x5) q q <| z1l (x5 + 1) q q (z0z (by omega) (by omega)) q <| Ra (I_ (x5 + 1)) q q <| R0 <| z41 <| Jk (hE6 (x5 + 1)) (.c3 q q q (.c6 q q q q q q .nil))
theorem k_ref06_Injective (t0 : z0p) (t1 : z0p) (t2 : z0t) (r : Bool) (hr : za0 t0 t1 t2 = some r) : FnP PP 171 [z0w (z07 t0), z0w (z07 t1), z0w (z0m t2)] (z00 r) := by
  refine Fo (fun (r : Bool) => z00 r) Tryz.func171 q (n := 22) q q hr fun X hΨ => ?_
  refine Jq q <| z17 (z0w (z07 t0)) q q <| z17 (z0w (z07 t1)) q q <| z17 (z0w (z0m t2)) q q <| Ra (z00 false) q q <| R0 <| Jq q <| z14 (z07 t0) z4d q q q q ?_
  refine z14 (z07 t1) z4d q q q q <| z14 (z0m t2) ag_36 q q q q <| z0d fun b1 h2 => z0j _ fn_121 (k_ref06_Valid _ _ _ _ h2) q q <| z2y q q q <| Rm (z00 (decide (b1 = 0))) q q <| z1b (fun h3 => ?_) (fun h3 => ?_)
  rotate_left
  · refine Rk (z0y q q (df h3)) <| Rk (z0y q q (df h3)) <| Rk (z0y q q (df h3)) <| z0h (z00 false) q (df h3) q q <| Rm (z00 false) q q <| Rk (z0y q q q) <| Rk (z0y q q q) <| Rk (z0y q q q) <| z0h (z00 false) q q q q <| Ra (z00 false) q q ?_
    exact Rt hΨ q q q
  refine z0f ((cL 1 z01) t2.Nodes) z6a q q (g_t q q (dt h3)) <| z11 (AL 1 z01 t2.Nodes) z1s q q (g_t q q (dt h3)) <| z0d fun b4 h5 => z0j _ fn_71 (z8s _ _ h5) q (g_t q q (dt h3)) <| z0k (z00 b4) q (dt h3) q q <| Rm (z00 b4) q q <| z1b (fun h6 => ?_) (fun h6 => ?_)
  rotate_left
  · exact Rk (z0y q q (bf h6)) <| Rk (z0y q q (bf h6)) <| Rk (z0y q q (bf h6)) <| z0h (z00 false) q (bf h6) q q <| Ra (z00 false) q q <| Rt hΨ q q q
  exact z0f ((cL 1 z01) t2.Edges) z92 q q (g_t q q h6) <| z11 (AL 1 z01 t2.Edges) z1s q q (g_t q q h6) <| z0d fun b7 h8 => z0j _ fn_71 (z8s _ _ h8) q (g_t q q h6) <| z0k (z00 b7) q h6 q q <| Ra (z00 b7) q q <| Rt hΨ q q q
theorem k_ref22_over_b (q_ref22_over : z06 → z0q → z05 → Option Int) (hq_ref22_over : ∀ (t0 : z06) (t1 : z0q) (t2 : z05) (r : Int), q_ref22_over t0 t1 t2 = some r → FnP PP 124 [z0w (z02 t0), z0w (z0a t1), z0w (z04 t2)] (I_ r)) (t0 : z06) (t1 : z0q) (t2 : z05) (r : Int) (hr : z71 q_ref22_over t0 t1 t2 = some r) : FnP PP 124 [z0w (z02 t0), z0w (z0a t1), z0w (z04 t2)] (I_ r) := by
  refine Fo (fun (r : Int) => I_ r) Tryz.func124 q (n := 65) q q hr fun X hΨ => ?_
  refine Jq q <| z17 (z0w (z02 t0)) q q <| z17 (z0w (z0a t1)) q q <| z17 (z0w (z04 t2)) q q <| Ra (I_ 0) q q <| R0 <| Jq q <| z14 (z0a t1) ag_33 q q q q ?_
  refine z1x 0 _ z_33 q q <| z2p (z0i 0) (z0w (z0a t1)) (z0a t1) sz_33 q .obj q q q q q q <| R0 <| Js <| Jq q <| z0f (z01 t2.Kind) fo_39_0 q q q <| z11 (I_ t2.Kind) z1t q q q <| z2y q q q <| R0 ?_
  apply z2w (fun v25 => ⟨fr [(3, z1r (z02 t0)), (5, z1r (z04 t2)), (6, I_ 0), (7, z0i 0), (14, I_ t2.Kind)], hp [(0, .box 33 (z0a v25))], 1⟩) (fun v25 => z6k q_ref22_over t0 t2 v25)
  · intro K40
    refine z09 q (fun h1 => ?_) (fun h1 => ?_)
    rotate_left
    · exact z0e <| Jc [] [] [] (K40 t1) (.s3 q q q (.cons (A := z0i 0) q (.obj q q q) (.same q .nil))) (.cons q q q q (.box (CvL.sames)) q q .nil) q q
    refine Js <| Jq q <| z14 (z02 t0) z2j q q q q <| z0f (z01 t1.Vars) z4q q q q <| z11 (I_ t1.Vars) z1t q q q <| z0f (z0a t2.Pattern) fo_39_3 q q q <| z14 (z0a t2.Pattern) ag_33 q q q q <| z0d fun b2 h3 => z0j _ fn_170 (k_ref22_inner _ _ _ _ h3) q q ?_
    refine Ra (I_ b2) q q <| R0 <| Jq q <| Rm (I_ b2) q q <| z2a q q q <| R0 <| z09 q (fun h4 => ?_) (fun h4 => ?_)
    · exact Jq q <| Rm (I_ b2) q q <| Ra (I_ b2) q q <| Rt hΨ q q q
    refine z0e <| Js <| Jq q <| z0f (z07 t1.Graph) z27 q q q <| z14 (z07 t1.Graph) z4d q q q q <| z0f (z0a t2.Pattern) fo_39_3 q q q <| z0f (z07 t2.Pattern.Graph) z27 q q q <| z14 (z07 t2.Pattern.Graph) z4d q q q q <| z0f (z0m t2.Map) fo_39_2 q q q ?_
    refine z14 (z0m t2.Map) ag_36 q q q q <| z0d fun b5 h6 => z0j _ fn_121 (k_ref06_Valid _ _ _ _ h6) q q <| Ra (I_ b5) q q <| R0 <| Jq q <| Rm (I_ b5) q q <| z2a q q q <| R0 ?_
    refine z09 q (fun h7 => ?_) (fun h7 => ?_)
    · exact Jq q <| Rm (I_ b5) q q <| Ra (I_ b5) q q <| Rt hΨ q q q
    refine z0e <| Js <| Jq q <| z0f (z07 t1.Graph) z27 q q q <| z14 (z07 t1.Graph) z4d q q q q <| z0f (z0a t2.Pattern) fo_39_3 q q q <| z0f (z07 t2.Pattern.Graph) z27 q q q <| z14 (z07 t2.Pattern.Graph) z4d q q q q <| z0f (z0m t2.Map) fo_39_2 q q q ?_
    refine z14 (z0m t2.Map) ag_36 q q q q <| z0d fun b8 h9 => z0j _ fn_171 (k_ref06_Injective _ _ _ _ h9) q q <| z2x q q <| R0 <| z1v q (fun h10 => ?_) (fun h10 => ?_)
    · exact Jq q <| Ra (I_ 1) q q <| Rt hΨ q q q
    exact z0e <| Jr q <| z0f (z0a t2.Pattern) fo_39_3 q q q <| z14 (z0a t2.Pattern) ag_33 q q q q <| z2p (z0i 0) (z0w (z0a t2.Pattern)) (z0a t2.Pattern) sz_33 q .obj q q q q q q <| R0 <| Jc [] [] [] (K40 t2.Pattern) (.s3 q q q (.cons (A := z0i 0) q (.obj q q q) (.same q .nil))) (.cons q q q q (.box (CvL.sames)) q q .nil) q q
  intro v25
  refine Js <| Jq q <| Ra (I_ 0) q q <| R0 <| z0n <| Jn (fun x26 => ⟨fr [(3, z1r (z02 t0)), (5, z1r (z04 t2)), (7, z0i 0), (10, I_ x26)], hp [(0, .box 33 (z0a v25))], 1⟩) [] [] [] q (.s2 q q (.cons (A := z0i 0) q (.obj q q q) (.same q .nil))) (.cons q q q q (.box (CvL.sames)) q q .nil) q q (fun E27 hE27 x26 => ?_)
  refine Js <| Jq q <| Rm (I_ x26) q q <| z0f (z25 t2.Kids) z81 q q q <| z11 (AL 9 z04 t2.Kids) sc_37 q (z21 _) q <| z1a (cc := z04) il_37 q q <| z1o q q q <| R0 <| z09 q (fun h33 => ?_) (fun h33 => ?_)
  rotate_left
  · exact z1j q <| z0x <| Jq q <| Ra (I_ 0) q q <| Rt hΨ q q q
  refine z0e <| Js <| z0n <| Js <| z2g <| z14 (z02 t0) z2j q q q q <| z50 (z0i 0) (z0a v25) ag_33 q .obj q q q q <| z0f (z25 t2.Kids) z81 q q q <| z11 (AL 9 z04 t2.Kids) sc_37 q (z21 _) q <| Rm (I_ x26) q q ?_
  refine z1b (fun h34 => ?_) (fun _ => z0u)
  refine z2k (cc := z04) el_37 q q h34.1 h34.2 q <| z14 (z04 (nth t2.Kids x26)) zaj q q q q <| z0d fun b35 h36 => z0j _ fn_124 (hq_ref22_over _ _ _ _ h36) q q <| Ra (I_ b35) q q <| z1y (by kernel_rfl) <| Jq q <| Rm (I_ b35) q q <| z2a q q q ?_
  refine R0 <| z09 q (fun h37 => ?_) (fun h37 => ?_)
  · exact Jq q <| Rm (I_ b35) q q <| Ra (I_ b35) q q <| R0 <| z0x <| Jt hΨ (z18 q) q q
  exact z0e <| z0s <| z0o 50 (m := (t2.Kids.length : Int)) q fun q38 => z0o 10 (m := x26) q fun q39 => Jr q <| Rm (I_ x26) q q <| z1l (x26 + 1) q q (z0z (by omega) (by omega)) q <| Ra (I_ (x26 + 1)) q q <| R0 <| z41 <| Jc [] [] [] (hE27 (x26 + 1)) (.s2 q q (.cons (A := z0i 0) q (.obj q q q) (.same q .nil))) (.cons q q q q (.box (CvL.sames)) q q .nil) q q
theorem ref22_over_n_ok : ∀ n, (∀ (t0 : z06) (t1 : z0q) (t2 : z05) (r : Int), (z49 n) t0 t1 t2 = some r → FnP PP 124 [z0w (z02 t0), z0w (z0a t1), z0w (z04 t2)] (I_ r)) := by
  intro n
  induction n with
  | zero => exact (fun _ _ _ _ h => by cases h)
  | succ n ih => exact (fun a0 a1 a2 r h => k_ref22_over_b _ ih a0 a1 a2 r h)
theorem k_ref22_over (t0 : z06) (t1 : z0q) (t2 : z05) (r : Int) (hr : ref22_over t0 t1 t2 = some r) : FnP PP 124 [z0w (z02 t0), z0w (z0a t1), z0w (z04 t2)] (I_ r) := by
  obtain ⟨n, hn⟩ := Ev_some hr
  exact (ref22_over_n_ok n) t0 t1 t2 r hn
theorem k_ref22_Valid (t0 : z06) (t1 : z0q) (t2 : z05) (r : Int) (hr : ref22_Valid t0 t1 t2 = some r) : FnP PP 74 [z0w (z02 t0), z0w (z0a t1), z0w (z04 t2)] (I_ r) := by
  refine Fo (fun (r : Int) => I_ r) Tryz.func74 q (n := 24) q q hr fun X hΨ => ?_
  refine Jq q <| z17 (z0w (z02 t0)) q q <| z17 (z0w (z0a t1)) q q <| z17 (z0w (z04 t2)) q q <| Ra (I_ 0) q q <| R0 <| Js <| Jq q ?_
  refine z14 (z02 t0) z2j q q q q <| z14 (z0a t1) ag_33 q q q q <| z0d fun b1 h2 => z0j _ fn_68 (k_ref21_Valid _ _ _ h2) q q <| Ra (I_ b1) q q <| R0 <| Jq q <| Rm (I_ b1) q q <| z2a q q q ?_
  refine R0 <| z09 q (fun h3 => ?_) (fun h3 => ?_)
  · exact Jq q <| Rm (I_ b1) q q <| Ra (I_ b1) q q <| Rt hΨ q q q
  refine z0e <| Js <| Jq q <| z14 (z04 t2) zaj q q q q <| z0d fun b4 h5 => z0j _ fn_123 (k_ref22_Shape _ _ h5) q q <| Ra (I_ b4) q q <| R0 <| Js ?_
  refine Jr q <| Rm (I_ b4) q q <| z2a q q q <| R0 <| z09 q (fun h6 => ?_) (fun h6 => ?_)
  · exact Jq q <| Rm (I_ b4) q q <| Ra (I_ b4) q q <| Rt hΨ q q q
  refine z0e <| Jq q <| z14 (z02 t0) z2j q q q q <| z14 (z0a t1) ag_33 q q q q <| z14 (z04 t2) zaj q q q q <| z0d fun b7 h8 => z0j _ fn_124 (k_ref22_over _ _ _ _ h8) q q <| Ra (I_ b7) q q <| R0 ?_
  exact Jt hΨ (z18 q) q q
theorem k_ref24_Valid (t0 : z06) (t1 : z10) (r : Int) (hr : ref24_Valid t0 t1 = some r) : FnP PP 34 [z0w (z02 t0), z0w (z0g t1)] (I_ r) := by
  refine Fo (fun (r : Int) => I_ r) Tryz.func34 q (n := 73) q q hr fun X hΨ => ?_
  refine Jq q <| z17 (z0w (z02 t0)) q q <| z17 (z0w (z0g t1)) q q <| Ra (I_ 0) q q <| R0 <| Js <| Jq q <| z14 (z02 t0) z2j q q q q ?_
  refine z0d fun b1 h2 => z0j _ fn_33 (zaa _ _ h2) q q <| Rm (z35 [z1h b1.1, I_ b1.2]) q q <| z20 (z1h b1.1) q q q <| z20 (I_ b1.2) q q q <| Ra (z1h b1.1) q q <| Ra (I_ b1.2) q q <| R0 <| Jq q ?_
  refine Rm (I_ b1.2) q q <| z2a q q q <| R0 <| z09 q (fun h3 => ?_) (fun h3 => ?_)
  · exact Jq q <| Rm (I_ b1.2) q q <| Ra (I_ b1.2) q q <| Rt hΨ q q q
  refine z0e <| Js <| Jq q <| z0f (z23 t1.Name) fo_41_0 q q q <| z11 (z1h t1.Name) sc_9 q q q <| z0d fun b4 h5 => z0j _ fn_67 (z8e _ _ h5) q q <| z2x q q <| R0 ?_
  refine z1v q (fun h6 => ?_) (fun h6 => ?_)
  · exact Jq q <| Ra (I_ 2) q q <| Rt hΨ q q q
  refine z0e <| Js <| Jq q <| z14 (z02 t0) z2j q q q q <| z0f (z0a t1.Left) z6q q q q <| z14 (z0a t1.Left) ag_33 q q q q <| z0d fun b7 h8 => z0j _ fn_68 (k_ref21_Valid _ _ _ h8) q q <| Ra (I_ b7) q q ?_
  refine R0 <| Jq q <| Rm (I_ b7) q q <| z2a q q q <| R0 <| z09 q (fun h9 => ?_) (fun h9 => ?_)
  · exact Jq q <| Rm (I_ b7) q q <| Ra (I_ b7) q q <| Rt hΨ q q q
  refine z0e <| Js <| Jq q <| z14 (z02 t0) z2j q q q q <| z14 (z0g t1) ag_41 q q q q <| z0d fun b10 h11 => z0j _ fn_69 (k_ref24_right _ _ _ h11) q q <| Ra (I_ b10) q q <| R0 ?_
  refine Jq q <| Rm (I_ b10) q q <| z2a q q q <| R0 <| z09 q (fun h12 => ?_) (fun h12 => ?_)
  · exact Jq q <| Rm (I_ b10) q q <| Ra (I_ b10) q q <| Rt hΨ q q q
  refine z0e <| Js <| Jq q <| z14 (z0g t1) ag_41 q q q q <| z0d fun b13 h14 => z0j _ fn_70 (k_ref24_span _ _ h14) q q <| Ra (I_ b13) q q <| R0 <| Js ?_
  refine Jr q <| Rm (I_ b13) q q <| z2a q q q <| R0 <| z09 q (fun h15 => ?_) (fun h15 => ?_)
  · exact Jq q <| Rm (I_ b13) q q <| Ra (I_ b13) q q <| Rt hΨ q q q
  refine z0e <| Js <| Jq q <| z0f (z0m t1.Into) fo_41_4 q q q <| z0f ((cL 1 z01) t1.Into.Nodes) z6a q q q <| z11 (AL 1 z01 t1.Into.Nodes) z1s q q q <| z0d fun b16 h17 => z0j _ fn_71 (z8s _ _ h17) q q <| z2x q q ?_
  refine Rm (z00 (!b16)) q q <| z1b (fun h18 => ?_) (fun h18 => ?_)
  · refine Rk (z0v q q h18) <| Rk (z0v q q h18) <| Rk (z0v q q h18) <| Rk (z0v q q h18) <| Rk (z0v q q h18) <| z0k (z00 true) q h18 q q <| R0 <| z1d q q <| Jq q ?_
    exact Ra (I_ 11) q q <| Rt hΨ q q q
  refine z0f (z0m t1.Into) fo_41_4 q q (g_f q q (bf h18)) <| z0f ((cL 1 z01) t1.Into.Edges) z92 q q (g_f q q (bf h18)) <| z11 (AL 1 z01 t1.Into.Edges) z1s q q (g_f q q (bf h18)) <| z0d fun b19 h20 => z0j _ fn_71 (z8s _ _ h20) q (g_f q q (bf h18)) <| z2x q (g_f q q (bf h18)) <| z0h (z00 (!b19)) q (bf h18) q q <| R0 <| z1v q (fun h21 => ?_) (fun h21 => ?_)
  · exact Jq q <| Ra (I_ 11) q q <| Rt hΨ q q q
  refine z0e <| Jq q <| z14 (z0g t1) ag_41 q q q q <| z0d fun b22 h23 => z0j _ fn_72 (k_ref24_created _ _ h23) q q <| Rm (z35 [AL 1 z01 b22.1, AL 1 z01 b22.2]) q q <| z20 (AL 1 z01 b22.1) q q q <| z20 (AL 1 z01 b22.2) q q q <| Ra (AL 1 z01 b22.1) q q ?_
  refine Ra (AL 1 z01 b22.2) q q <| R0 <| Js <| Jq q <| z14 (z02 t0) z2j q q q q <| z0f (z0a t1.Right) z3e q q q <| z0f (z07 t1.Right.Graph) z27 q q q <| z14 (z07 t1.Right.Graph) z4d q q q q <| Rm (AL 1 z01 b22.1) q q ?_
  refine Rm (AL 1 z01 b22.2) q q <| z0d fun b24 h25 => z0j _ fn_73 (k_ref24_proper _ _ _ _ _ h25) q q <| z2x q q <| R0 <| z1v q (fun h26 => ?_) (fun h26 => ?_)
  · exact Jq q <| Ra (I_ 13) q q <| Rt hΨ q q q
  refine z0e <| Jq q <| z14 (z02 t0) z2j q q q q <| z0f (z0a t1.Left) z6q q q q <| z14 (z0a t1.Left) ag_33 q q q q <| z0f (z04 t1.Condition) fo_41_6 q q q <| z14 (z04 t1.Condition) zaj q q q q <| z0d fun b27 h28 => z0j _ fn_74 (k_ref22_Valid _ _ _ _ h28) q q ?_
  exact Ra (I_ b27) q q <| Rt hΨ q q q
theorem k_ref24_deleted (t0 : z10) (r : (List Int) × (List Int)) (hr : ref24_deleted t0 = some r) : FnP PP 75 [z0w (z0g t0)] (z35 [AL 1 z01 r.1, AL 1 z01 r.2]) := by
  refine Fo (fun (r : (List Int) × (List Int)) => z35 [AL 1 z01 r.1, AL 1 z01 r.2]) Tryz.func75 q (n := 22) q q hr fun X hΨ => ?_
  refine Jq q <| z17 (z0w (z0g t0)) q q <| Ra (z1m) q q <| Ra (z1m) q q <| R0 <| Js <| z2g <| z0f (z0a t0.Left) z6q q q q <| z0f (z07 t0.Left.Graph) z27 q q q ?_
  refine z0f ((cL 1 z01) t0.Left.Graph.Nodes) z29 q q q <| z11 (AL 1 z01 t0.Left.Graph.Nodes) z1s q q q <| z1a (cc := z01) z2m q q <| z0f (z1i t0.Keep) fo_41_3 q q q <| z0f ((cL 1 z01) t0.Keep.Nodes) z6r q q q <| z11 (AL 1 z01 t0.Keep.Nodes) z1s q q q <| z0d fun b1 h2 => z0j _ fn_122 (k_ref24_rest _ _ _ h2) q q <| z0f (z0a t0.Left) z6q q q q <| z0f (z07 t0.Left.Graph) z27 q q q ?_
  refine z0f ((cL 3 z0b) t0.Left.Graph.Edges) z2r q q q <| z11 (AL 3 z0b t0.Left.Graph.Edges) z5o q q q <| z1a (cc := z0b) il_27 q q <| z0f (z1i t0.Keep) fo_41_3 q q q <| z0f ((cL 1 z01) t0.Keep.Edges) fo_35_1 q q q <| z11 (AL 1 z01 t0.Keep.Edges) z1s q q q <| z0d fun b3 h4 => z0j _ fn_122 (k_ref24_rest _ _ _ h4) q q <| Ra (AL 1 z01 b1) q q <| Ra (AL 1 z01 b3) q q ?_
  exact z1y (by kernel_rfl) <| Jt hΨ (z16 (As := [AL 1 z01 b1, AL 1 z01 b3]) q q (.cons (.tmp (A := AL 1 z01 b1) q) (.cons (.tmp (A := AL 1 z01 b3) q) .nil))) q q
theorem k_ref24_Deleted (t0 : z06) (t1 : z10) (r : (List Int) × (List Int) × Int) (hr : ref24_Deleted t0 t1 = some r) : FnP PP 35 [z0w (z02 t0), z0w (z0g t1)] (z35 [AL 1 z01 r.1, AL 1 z01 r.2.1, I_ r.2.2]) := by
  refine Fo (fun (r : (List Int) × (List Int) × Int) => z35 [AL 1 z01 r.1, AL 1 z01 r.2.1, I_ r.2.2]) Tryz.func35 q (n := 23) q q hr fun X hΨ => ?_
  refine Jq q <| z17 (z0w (z02 t0)) q q <| z17 (z0w (z0g t1)) q q <| Ra (z1m) q q <| Ra (z1m) q q <| Ra (I_ 0) q q <| R0 <| Js <| Js ?_
  refine Jr q <| z14 (z02 t0) z2j q q q q <| z14 (z0g t1) ag_41 q q q q <| z0d fun b1 h2 => z0j _ fn_34 (k_ref24_Valid _ _ _ h2) q q <| Ra (I_ b1) q q <| R0 <| Jq q <| Rm (I_ b1) q q ?_
  refine z2a q q q <| R0 <| z09 q (fun h3 => ?_) (fun h3 => ?_)
  · exact Jq q <| Rm (I_ b1) q q <| Ra (z1m) q q <| Ra (z1m) q q <| Ra (I_ b1) q q <| R0 <| z3g hΨ (z16 (As := [z1m, z1m, I_ b1]) q q (.cons (.tmp (A := z1m) q) (.cons (.tmp (A := z1m) q) (.cons (.tmp (A := I_ b1) q) .nil)))) (fun y hy => by cases hy; exact (.tup (.cons .nil (.cons .nil (.cons .same .nil)))))
  refine z0e <| Jq q <| z14 (z0g t1) ag_41 q q q q <| z0d fun b4 h5 => z0j _ fn_75 (k_ref24_deleted _ _ h5) q q <| Rm (z35 [AL 1 z01 b4.1, AL 1 z01 b4.2]) q q <| z20 (AL 1 z01 b4.1) q q q <| z20 (AL 1 z01 b4.2) q q q <| Ra (AL 1 z01 b4.1) q q ?_
  refine Ra (AL 1 z01 b4.2) q q <| R0 <| Jq q <| Rm (AL 1 z01 b4.1) q q <| Rm (AL 1 z01 b4.2) q q <| Ra (AL 1 z01 b4.1) q q <| Ra (AL 1 z01 b4.2) q q <| Ra (I_ 0) q q <| R0 ?_
  exact Jt hΨ (z16 (As := [AL 1 z01 b4.1, AL 1 z01 b4.2, I_ 0]) q q (.cons (.tmp (A := AL 1 z01 b4.1) q) (.cons (.tmp (A := AL 1 z01 b4.2) q) (.cons (.tmp (A := I_ 0) q) .nil)))) q q
theorem k_ref39_leaf (t0 : z06) (t1 : Int) (r : Bool) (hr : ref39_leaf t0 t1 = some r) : FnP PP 36 [z0w (z02 t0), I_ t1] (z00 r) := by
  refine Fo (fun (r : Bool) => z00 r) Tryz.func36 q (n := 21) q q hr fun X hΨ => ?_
  refine Jq q <| z17 (z0w (z02 t0)) q q <| Ra (z00 false) q q <| R0 <| Js <| Jq q <| Ra (I_ 0) q q <| R0 ?_
  refine z0n <| Jl (fun x1 => [(1, I_ t1), (2, z1r (z02 t0)), (5, I_ x1)]) (.c3 q q q .nil) (fun E2 hE2 x1 => ?_)
  refine Js <| Jq q <| Rm (I_ x1) q q <| z0f ((cL 4 z03) t0.Nodes) z2i q q q <| z11 (AL 4 z03 t0.Nodes) z4z q q q <| z1a (cc := z03) z9h q q <| z1o q q q <| R0 <| z09 q (fun h6 => ?_) (fun h6 => ?_)
  rotate_left
  · exact z1j q <| z0x <| Jq q <| Ra (z00 true) q q <| Rt hΨ q q q
  refine z0e <| Js <| z0n <| Jq q <| z0f ((cL 4 z03) t0.Nodes) z2i q q q <| z11 (AL 4 z03 t0.Nodes) z4z q q q <| Rm (I_ x1) q q <| z1b (fun h7 => ?_) (fun _ => z0u)
  refine z2k (cc := z03) el_22 q q h7.1 h7.2 q <| z0f (z01 ((nth t0.Nodes x1).Parent)) fo_97_1 q q q <| z11 (I_ ((nth t0.Nodes x1).Parent)) z1t q q q <| Rm (I_ t1) q q <| z2y q q q <| R0 <| z09 q (fun h8 => ?_) (fun h8 => ?_)
  · exact Jq q <| Ra (z00 false) q q <| R0 <| z0x <| Jt hΨ (z18 q) q q
  exact z0e <| z0s <| z0o 9 (m := (t0.Nodes.length : Int)) q fun q9 => z0o 5 (m := x1) q fun q10 => Jr q <| Rm (I_ x1) q q <| z1l (x1 + 1) q q (z0z (by omega) (by omega)) q <| Ra (I_ (x1 + 1)) q q <| R0 <| z41 <| Jk (hE2 (x1 + 1)) (.c3 q q q .nil)
theorem k_ref24_Created (t0 : z06) (t1 : z10) (r : (List Int) × (List Int) × Int) (hr : ref24_Created t0 t1 = some r) : FnP PP 37 [z0w (z02 t0), z0w (z0g t1)] (z35 [AL 1 z01 r.1, AL 1 z01 r.2.1, I_ r.2.2]) := by
  refine Fo (fun (r : (List Int) × (List Int) × Int) => z35 [AL 1 z01 r.1, AL 1 z01 r.2.1, I_ r.2.2]) Tryz.func37 q (n := 23) q q hr fun X hΨ => ?_
  refine Jq q <| z17 (z0w (z02 t0)) q q <| z17 (z0w (z0g t1)) q q <| Ra (z1m) q q <| Ra (z1m) q q <| Ra (I_ 0) q q <| R0 <| Js <| Js ?_
  refine Jr q <| z14 (z02 t0) z2j q q q q <| z14 (z0g t1) ag_41 q q q q <| z0d fun b1 h2 => z0j _ fn_34 (k_ref24_Valid _ _ _ h2) q q <| Ra (I_ b1) q q <| R0 <| Jq q <| Rm (I_ b1) q q ?_
  refine z2a q q q <| R0 <| z09 q (fun h3 => ?_) (fun h3 => ?_)
  · exact Jq q <| Rm (I_ b1) q q <| Ra (z1m) q q <| Ra (z1m) q q <| Ra (I_ b1) q q <| R0 <| z3g hΨ (z16 (As := [z1m, z1m, I_ b1]) q q (.cons (.tmp (A := z1m) q) (.cons (.tmp (A := z1m) q) (.cons (.tmp (A := I_ b1) q) .nil)))) (fun y hy => by cases hy; exact (.tup (.cons .nil (.cons .nil (.cons .same .nil)))))
  refine z0e <| Jq q <| z14 (z0g t1) ag_41 q q q q <| z0d fun b4 h5 => z0j _ fn_72 (k_ref24_created _ _ h5) q q <| Rm (z35 [AL 1 z01 b4.1, AL 1 z01 b4.2]) q q <| z20 (AL 1 z01 b4.1) q q q <| z20 (AL 1 z01 b4.2) q q q <| Ra (AL 1 z01 b4.1) q q ?_
  refine Ra (AL 1 z01 b4.2) q q <| R0 <| Jq q <| Rm (AL 1 z01 b4.1) q q <| Rm (AL 1 z01 b4.2) q q <| Ra (AL 1 z01 b4.1) q q <| Ra (AL 1 z01 b4.2) q q <| Ra (I_ 0) q q <| R0 ?_
  exact Jt hΨ (z16 (As := [AL 1 z01 b4.1, AL 1 z01 b4.2, I_ 0]) q q (.cons (.tmp (A := AL 1 z01 b4.1) q) (.cons (.tmp (A := AL 1 z01 b4.2) q) (.cons (.tmp (A := I_ 0) q) .nil)))) q q
theorem k_ref39_Effect (t0 : z06) (t1 : z10) (r : (List Int) × Int) (hr : ref39_Effect t0 t1 = some r) : FnP PP 12 [z0w (z02 t0), z0w (z0g t1)] (z35 [AL 1 z01 r.1, I_ r.2]) := by
  refine Fo (fun (r : (List Int) × Int) => z35 [AL 1 z01 r.1, I_ r.2]) Tryz.func12 q (n := 154) q q hr fun X hΨ => ?_
  refine Jq q <| z17 (z0w (z02 t0)) q q <| z17 (z0w (z0g t1)) q q <| Ra (z1m) q q <| Ra (I_ 0) q q <| R0 <| Js <| Jq q ?_
  refine z14 (z02 t0) z2j q q q q <| z0d fun b1 h2 => z0j _ fn_33 (zaa _ _ h2) q q <| Rm (z35 [z1h b1.1, I_ b1.2]) q q <| z20 (z1h b1.1) q q q <| z20 (I_ b1.2) q q q <| Ra (z1h b1.1) q q <| Ra (I_ b1.2) q q <| R0 <| Js ?_
  refine Jr q <| Rm (I_ b1.2) q q <| z2a q q q <| R0 <| z09 q (fun h3 => ?_) (fun h3 => ?_)
  · exact Jq q <| Rm (I_ b1.2) q q <| Ra (z1m) q q <| Ra (I_ b1.2) q q <| R0 <| z3g hΨ (z16 (As := [z1m, I_ b1.2]) q q (.cons (.tmp (A := z1m) q) (.cons (.tmp (A := I_ b1.2) q) .nil))) (fun y hy => by cases hy; exact (.tup (.cons .nil (.cons .same .nil))))
  refine z0e <| Js <| Jq q <| z14 (z02 t0) z2j q q q q <| z14 (z0g t1) ag_41 q q q q <| z0d fun b4 h5 => z0j _ fn_34 (k_ref24_Valid _ _ _ h5) q q <| Ra (I_ b4) q q <| R0 ?_
  refine Jq q <| Rm (I_ b4) q q <| z2a q q q <| R0 <| z09 q (fun h6 => ?_) (fun h6 => ?_)
  · exact Jq q <| Rm (I_ b4) q q <| Ra (z1m) q q <| Ra (I_ b4) q q <| R0 <| z3g hΨ (z16 (As := [z1m, I_ b4]) q q (.cons (.tmp (A := z1m) q) (.cons (.tmp (A := I_ b4) q) .nil))) (fun y hy => by cases hy; exact (.tup (.cons .nil (.cons .same .nil))))
  refine z0e <| Jq q <| z0f ((cL 4 z03) t0.Nodes) z2i q q q <| z11 (AL 4 z03 t0.Nodes) z4z q q q <| z1a (cc := z03) z9h q q <| z0f ((cL 7 z0c) t0.Edges) z3w q q q <| z11 (AL 7 z0c t0.Edges) sc_23 q q q <| z1a (cc := z0c) il_23 q q <| z0d fun b7 h8 => ?_
  refine z1l b7 q q (Option.some.inj h8) q <| z1b (fun h9 => ?_) (fun _ => z0u)
  refine r_make (cc := z01) 0 0 ap_26 z_3 q q h9.1 h9.2 q q <| Ra (z0i 0) q q <| R0 <| Jq q <| z14 (z02 t0) z2j q q q q <| z14 (z0g t1) ag_41 q q q q <| z0d fun b10 h11 => z0j _ fn_35 (k_ref24_Deleted _ _ _ h11) q q <| Rm (z35 [AL 1 z01 b10.1, AL 1 z01 b10.2.1, I_ b10.2.2]) q q ?_
  refine z20 (AL 1 z01 b10.1) q q q <| z20 (AL 1 z01 b10.2.1) q q q <| z20 (I_ b10.2.2) q q q <| Ra (AL 1 z01 b10.1) q q <| Ra (AL 1 z01 b10.2.1) q q <| Ra (I_ b10.2.2) q q <| R0 <| Js <| Jq q ?_
  refine Ra (I_ 0) q q <| R0 <| z0n <| Jn (fun x12 => ⟨fr [(2, z1r (z02 t0)), (3, z1r (z0g t1)), (5, I_ 0), (7, I_ b1.2), (8, I_ b4), (9, z0i 0), (10, AL 1 z01 b10.1), (11, AL 1 z01 b10.2.1), (13, I_ x12.2), (22, I_ b1.2), (23, I_ b1.2), (28, I_ b4), (29, I_ b4), (38, I_ b7)], hp [(0, .row 3 1 (x12.1.map z01))], 1⟩) [] [] [] q (.s2 q q (.s3 q q q (.cons (A := z0i 0) q (.obj q q q) (.s2 q q (.s6 q q q q q q .nil))))) (.cons q q q q (.row (NKC.flat _ _)) q q .nil) q q (fun E13 hE13 x12 => ?_)
  refine Js <| Jq q <| Rm (I_ x12.2) q q <| Rm (AL 1 z01 b10.1) q q <| z1a (cc := z01) z2m q q <| z1o q q q <| R0 <| z09 q (fun h23 => ?_) (fun h23 => ?_)
  · refine z0e <| Js <| z0n <| Js <| z2g <| z0f (z0a t1.Left) z6q q q q <| z0f (z07 t1.Left.Graph) z27 q q q <| z0f ((cL 1 z01) t1.Left.Graph.Nodes) z29 q q q <| z11 (AL 1 z01 t1.Left.Graph.Nodes) z1s q q q <| Rm (AL 1 z01 b10.1) q q ?_
    refine Rm (I_ x12.2) q q <| z1b (fun h24 => ?_) (fun _ => z0u)
    refine z2k (cc := z01) z1w q q h24.1 h24.2 q <| z11 (I_ (nth b10.1 x12.2)) z1t q q q <| z1b (fun h25 => ?_) (fun _ => z0u)
    refine z2k (cc := z01) z1w q q h25.1 h25.2 q <| z11 (I_ (nth t1.Left.Graph.Nodes (nth b10.1 x12.2))) z1t q q q <| Ra (I_ (nth t1.Left.Graph.Nodes (nth b10.1 x12.2))) q q <| z1y (by kernel_rfl) <| Js <| Jq q <| z14 (z02 t0) z2j q q q q <| Rm (I_ (nth t1.Left.Graph.Nodes (nth b10.1 x12.2))) q q <| z0d fun b26 h27 => ?_
    refine z0j _ fn_36 (k_ref39_leaf _ _ _ h27) q q <| z2x q q <| R0 <| z1v q (fun h28 => ?_) (fun h28 => ?_)
    · exact Jq q <| Ra (z1m) q q <| Ra (I_ 13) q q <| R0 <| z0x <| z3g hΨ (z16 (As := [z1m, I_ 13]) q q (.cons (.tmp (A := z1m) q) (.cons (.tmp (A := I_ 13) q) .nil))) (fun y hy => by cases hy; exact (.tup (.cons .nil (.cons .same .nil))))
    refine z0e <| Jr q <| Rm (z0i 0) q q <| Rm (I_ (nth t1.Left.Graph.Nodes (nth b10.1 x12.2))) q q <| z1b (fun h29 => ?_) (fun _ => z0u)
    refine r_ixO (cc := z01) z1w q q q h29.1 h29.2 q <| r_ldR (cc := z01) (nth t1.Left.Graph.Nodes (nth b10.1 x12.2)) 0 (I_ (nth x12.1 (nth t1.Left.Graph.Nodes (nth b10.1 x12.2)))) z1t q q h29.1 h29.2 q q <| z0d fun b30 h31 => z7z b30 q q (Option.some.inj h31) q <| r_ixO (cc := z01) z1w q q q h29.1 h29.2 q <| r_stR (cc := z01) (nth t1.Left.Graph.Nodes (nth b10.1 x12.2)) 0 (I_ b30) b30 sz_3 q q q h29.1 h29.2 q q q q <| R0 <| z0s <| z0o 49 (m := (b10.1.length : Int)) q fun q32 => z0o 13 (m := x12.2) q fun q33 => ?_
    exact Jr q <| Rm (I_ x12.2) q q <| z1l (x12.2 + 1) q q (z0z (by omega) (by omega)) q <| Ra (I_ (x12.2 + 1)) q q <| R0 <| z41 <| Jc [] [] [] (hE13 ((x12.1.set (nth t1.Left.Graph.Nodes (nth b10.1 x12.2)).toNat b30), x12.2 + 1)) (.s2 q q (.s3 q q q (.cons (A := z0i 0) q (.obj q q q) (.s2 q q (.s6 q q q q q q .nil))))) (.cons q q q q (.row (NKC.flat _ _)) q q .nil) q q
  refine z1j q <| z7w <| Js <| Jq q <| Ra (I_ 0) q q <| R0 <| z0n <| Jn (fun x34 => ⟨fr [(2, z1r (z02 t0)), (3, z1r (z0g t1)), (5, I_ 0), (7, I_ b1.2), (8, I_ b4), (9, z0i 0), (11, AL 1 z01 b10.2.1), (13, I_ x12.2), (15, I_ x34.2), (22, I_ b1.2), (23, I_ b1.2), (28, I_ b4), (29, I_ b4), (38, I_ b7), (47, I_ x12.2), (49, I_ (b10.1.length : Int))], hp [(0, .row 3 1 (x34.1.map z01))], 1⟩) [] [] [] q (.s2 q q (.s3 q q q (.cons (A := z0i 0) q (.obj q q q) (.same q (.s3 q q q (.s6 q q q q q q .nil)))))) (.cons q q q q (.row (NKC.flat _ _)) q q .nil) q q (fun E35 hE35 x34 => ?_)
  refine Js <| Jq q <| Rm (I_ x34.2) q q <| Rm (AL 1 z01 b10.2.1) q q <| z1a (cc := z01) z2m q q <| z1o q q q <| R0 <| z09 q (fun h44 => ?_) (fun h44 => ?_)
  · refine z0e <| Js <| z0n <| z2g <| Rm (z0i 0) q q <| z0f ((cL 4 z03) t0.Nodes) z2i q q q <| z11 (AL 4 z03 t0.Nodes) z4z q q q <| z1a (cc := z03) z9h q q <| z0f (z0a t1.Left) z6q q q q <| z0f (z07 t1.Left.Graph) z27 q q q ?_
    refine z0f ((cL 3 z0b) t1.Left.Graph.Edges) z2r q q q <| z11 (AL 3 z0b t1.Left.Graph.Edges) z5o q q q <| Rm (AL 1 z01 b10.2.1) q q <| Rm (I_ x34.2) q q <| z1b (fun h45 => ?_) (fun _ => z0u)
    refine z2k (cc := z01) z1w q q h45.1 h45.2 q <| z11 (I_ (nth b10.2.1 x34.2)) z1t q q q <| z1b (fun h46 => ?_) (fun _ => z0u)
    refine z2k (cc := z0b) el_27 q q h46.1 h46.2 q <| z0f (z01 ((nth t1.Left.Graph.Edges (nth b10.2.1 x34.2)).Type_)) z77 q q q <| z11 (I_ ((nth t1.Left.Graph.Edges (nth b10.2.1 x34.2)).Type_)) z1t q q q <| z0d fun b47 h48 => z1l b47 q q (Option.some.inj h48) q <| z1b (fun h49 => ?_) (fun _ => z0u)
    refine r_ixO (cc := z01) z1w q q q h49.1 h49.2 q <| r_ldR (cc := z01) b47 0 (I_ (nth x34.1 b47)) z1t q q h49.1 h49.2 q q <| z0d fun b50 h51 => z7z b50 q q (Option.some.inj h51) q <| r_ixO (cc := z01) z1w q q q h49.1 h49.2 q <| r_stR (cc := z01) b47 0 (I_ b50) b50 sz_3 q q q h49.1 h49.2 q q q q <| z1y (by kernel_rfl) <| z0s <| z0o 75 (m := (b10.2.1.length : Int)) q fun q52 => z0o 15 (m := x34.2) q fun q53 => ?_
    exact Jr q <| Rm (I_ x34.2) q q <| z1l (x34.2 + 1) q q (z0z (by omega) (by omega)) q <| Ra (I_ (x34.2 + 1)) q q <| R0 <| z41 <| Jc [] [] [] (hE35 ((x34.1.set b47.toNat b50), x34.2 + 1)) (.s2 q q (.s3 q q q (.cons (A := z0i 0) q (.obj q q q) (.same q (.s3 q q q (.s6 q q q q q q .nil)))))) (.cons q q q q (.row (NKC.flat _ _)) q q .nil) q q
  refine z1j q <| z7w <| Jq q <| z14 (z02 t0) z2j q q q q <| z14 (z0g t1) ag_41 q q q q <| z0d fun b54 h55 => z0j _ fn_37 (k_ref24_Created _ _ _ h55) q q <| Rm (z35 [AL 1 z01 b54.1, AL 1 z01 b54.2.1, I_ b54.2.2]) q q <| z20 (AL 1 z01 b54.1) q q q ?_
  refine z20 (AL 1 z01 b54.2.1) q q q <| z20 (I_ b54.2.2) q q q <| Ra (AL 1 z01 b54.1) q q <| Ra (AL 1 z01 b54.2.1) q q <| R0 <| Js <| Jq q <| Ra (I_ 0) q q <| R0 ?_
  refine z0n <| Jn (fun x56 => ⟨fr [(2, z1r (z02 t0)), (3, z1r (z0g t1)), (5, I_ 0), (7, I_ b1.2), (8, I_ b4), (9, z0i 0), (10, AL 1 z01 b54.1), (11, AL 1 z01 b54.2.1), (13, I_ x12.2), (15, I_ x34.2), (16, I_ x56.2), (22, I_ b1.2), (23, I_ b1.2), (28, I_ b4), (29, I_ b4), (38, I_ b7), (47, I_ x12.2), (49, I_ (b10.1.length : Int)), (73, I_ x34.2), (75, I_ (b10.2.1.length : Int))], hp [(0, .row 3 1 (x56.1.map z01))], 1⟩) [] [] [] q (.s2 q q (.s3 q q q (.cons (A := z0i 0) q (.obj q q q) (.s2 q q (.s6 q q q q q q (.s6 q q q q q q .nil)))))) (.cons q q q q (.row (NKC.flat _ _)) q q .nil) q q (fun E57 hE57 x56 => ?_)
  refine Js <| Jq q <| Rm (I_ x56.2) q q <| Rm (AL 1 z01 b54.1) q q <| z1a (cc := z01) z2m q q <| z1o q q q <| R0 <| z09 q (fun h64 => ?_) (fun h64 => ?_)
  · refine z0e <| Js <| z0n <| z2g <| Rm (z0i 0) q q <| z0f (z0a t1.Right) z3e q q q <| z0f (z07 t1.Right.Graph) z27 q q q <| z0f ((cL 1 z01) t1.Right.Graph.Nodes) z29 q q q <| z11 (AL 1 z01 t1.Right.Graph.Nodes) z1s q q q <| Rm (AL 1 z01 b54.1) q q ?_
    refine Rm (I_ x56.2) q q <| z1b (fun h65 => ?_) (fun _ => z0u)
    refine z2k (cc := z01) z1w q q h65.1 h65.2 q <| z11 (I_ (nth b54.1 x56.2)) z1t q q q <| z1b (fun h66 => ?_) (fun _ => z0u)
    refine z2k (cc := z01) z1w q q h66.1 h66.2 q <| z11 (I_ (nth t1.Right.Graph.Nodes (nth b54.1 x56.2))) z1t q q q <| z1b (fun h67 => ?_) (fun _ => z0u)
    refine r_ixO (cc := z01) z1w q q q h67.1 h67.2 q <| r_ldR (cc := z01) (nth t1.Right.Graph.Nodes (nth b54.1 x56.2)) 0 (I_ (nth x56.1 (nth t1.Right.Graph.Nodes (nth b54.1 x56.2)))) z1t q q h67.1 h67.2 q q <| z0d fun b68 h69 => z1l b68 q q (Option.some.inj h69) q <| r_ixO (cc := z01) z1w q q q h67.1 h67.2 q <| r_stR (cc := z01) (nth t1.Right.Graph.Nodes (nth b54.1 x56.2)) 0 (I_ b68) b68 sz_3 q q q h67.1 h67.2 q q q q <| z1y (by kernel_rfl) <| z0s <| z0o 108 (m := (b54.1.length : Int)) q fun q70 => z0o 16 (m := x56.2) q fun q71 => ?_
    exact Jr q <| Rm (I_ x56.2) q q <| z1l (x56.2 + 1) q q (z0z (by omega) (by omega)) q <| Ra (I_ (x56.2 + 1)) q q <| R0 <| z41 <| Jc [] [] [] (hE57 ((x56.1.set (nth t1.Right.Graph.Nodes (nth b54.1 x56.2)).toNat b68), x56.2 + 1)) (.s2 q q (.s3 q q q (.cons (A := z0i 0) q (.obj q q q) (.s2 q q (.s6 q q q q q q (.s6 q q q q q q .nil)))))) (.cons q q q q (.row (NKC.flat _ _)) q q .nil) q q
  refine z1j q <| z7w <| Js <| Jq q <| Ra (I_ 0) q q <| R0 <| z0n <| Jn (fun x72 => ⟨fr [(2, z1r (z02 t0)), (3, z1r (z0g t1)), (5, I_ 0), (7, I_ b1.2), (8, I_ b4), (9, z0i 0), (11, AL 1 z01 b54.2.1), (13, I_ x12.2), (15, I_ x34.2), (16, I_ x56.2), (17, I_ x72.2), (22, I_ b1.2), (23, I_ b1.2), (28, I_ b4), (29, I_ b4), (38, I_ b7), (47, I_ x12.2), (49, I_ (b10.1.length : Int)), (73, I_ x34.2), (75, I_ (b10.2.1.length : Int)), (106, I_ x56.2), (108, I_ (b54.1.length : Int))], hp [(0, .row 3 1 (x72.1.map z01))], 1⟩) [] [] [] q (.s2 q q (.s3 q q q (.cons (A := z0i 0) q (.obj q q q) (.same q (.s3 q q q (.s6 q q q q q q (.s6 q q q q q q .nil))))))) (.cons q q q q (.row (NKC.flat _ _)) q q .nil) q q (fun E73 hE73 x72 => ?_)
  refine Js <| Jq q <| Rm (I_ x72.2) q q <| Rm (AL 1 z01 b54.2.1) q q <| z1a (cc := z01) z2m q q <| z1o q q q <| R0 <| z09 q (fun h82 => ?_) (fun h82 => ?_)
  rotate_left
  · exact z1j q <| z0x <| Jq q <| Rm (z0i 0) q q <| Ra (z0i 0) q q <| Ra (I_ 0) q q <| R0 <| z3g hΨ (z16 (As := [z0i 0, I_ 0]) q q (.cons (.tmp (A := z0i 0) q) (.cons (.tmp (A := I_ 0) q) .nil))) (fun y hy => by cases hy; exact (.tup (.cons (.frow q q (NKC.flat _ _)) (.cons .same .nil))))
  refine z0e <| Js <| z0n <| z2g <| Rm (z0i 0) q q <| z0f ((cL 4 z03) t0.Nodes) z2i q q q <| z11 (AL 4 z03 t0.Nodes) z4z q q q <| z1a (cc := z03) z9h q q <| z0f (z0a t1.Right) z3e q q q <| z0f (z07 t1.Right.Graph) z27 q q q ?_
  refine z0f ((cL 3 z0b) t1.Right.Graph.Edges) z2r q q q <| z11 (AL 3 z0b t1.Right.Graph.Edges) z5o q q q <| Rm (AL 1 z01 b54.2.1) q q <| Rm (I_ x72.2) q q <| z1b (fun h83 => ?_) (fun _ => z0u)
  refine z2k (cc := z01) z1w q q h83.1 h83.2 q <| z11 (I_ (nth b54.2.1 x72.2)) z1t q q q <| z1b (fun h84 => ?_) (fun _ => z0u)
  refine z2k (cc := z0b) el_27 q q h84.1 h84.2 q <| z0f (z01 ((nth t1.Right.Graph.Edges (nth b54.2.1 x72.2)).Type_)) z77 q q q <| z11 (I_ ((nth t1.Right.Graph.Edges (nth b54.2.1 x72.2)).Type_)) z1t q q q <| z0d fun b85 h86 => z1l b85 q q (Option.some.inj h86) q <| z1b (fun h87 => ?_) (fun _ => z0u)
  refine r_ixO (cc := z01) z1w q q q h87.1 h87.2 q <| r_ldR (cc := z01) b85 0 (I_ (nth x72.1 b85)) z1t q q h87.1 h87.2 q q <| z0d fun b88 h89 => z1l b88 q q (Option.some.inj h89) q <| r_ixO (cc := z01) z1w q q q h87.1 h87.2 q <| r_stR (cc := z01) b85 0 (I_ b88) b88 sz_3 q q q h87.1 h87.2 q q q q <| z1y (by kernel_rfl) <| z0s <| z0o 129 (m := (b54.2.1.length : Int)) q fun q90 => z0o 17 (m := x72.2) q fun q91 => ?_
  exact Jr q <| Rm (I_ x72.2) q q <| z1l (x72.2 + 1) q q (z0z (by omega) (by omega)) q <| Ra (I_ (x72.2 + 1)) q q <| R0 <| z41 <| Jc [] [] [] (hE73 ((x72.1.set b85.toNat b88), x72.2 + 1)) (.s2 q q (.s3 q q q (.cons (A := z0i 0) q (.obj q q q) (.same q (.s3 q q q (.s6 q q q q q q (.s6 q q q q q q .nil))))))) (.cons q q q q (.row (NKC.flat _ _)) q q .nil) q q
theorem k_ref39_touched (t0 : Int) (t1 : (List (List Int))) (r : (List Int)) (hr : ref39_touched t0 t1 = some r) : FnP PP 43 [I_ t0, AL 1 (cL 1 z01) t1] (AL 1 z01 r) := by
  refine Fo (fun (r : (List Int)) => AL 1 z01 r) Tryz.func43 q (n := 37) q q hr fun X hΨ => ?_
  refine Jq q <| Ra (z1m) q q <| R0 <| Jq q <| Ra (z1m) q q <| R0 <| Js <| Js ?_
  refine Jr q <| Ra (I_ 0) q q <| R0 <| z0n <| Jn (fun x1 => ⟨fr [(0, I_ t0), (1, AL 1 (cL 1 z01) t1), (5, z0i 0), (6, I_ x1.2)], hp [(0, .row 3 1 (x1.1.map z01))], 1⟩) [] [] [0] q (.s2 q q (.cons (A := z1m) q (.nilobj q q) (.same q .nil))) (.new q q .nil) q q (fun E2 hE2 x1 => ?_)
  refine Js <| Jq q <| Rm (I_ x1.2) q q <| Rm (I_ t0) q q <| z1o q q q <| R0 <| z09 q (fun h20 => ?_) (fun h20 => ?_)
  rotate_left
  · exact z1j q <| z0x <| Jq q <| Rm (z0i 0) q q <| Ra (z0i 0) q q <| R0 <| z3g hΨ (z4r q (.tmp (A := z0i 0) q)) (fun y hy => by cases hy; exact (.frow q q (NKC.flat _ _)))
  refine z0e <| Js <| z0n <| Jq q <| Ra (z00 false) q q <| R0 <| Js <| Jq q ?_
  refine Ra (I_ 0) q q <| R0 <| z0n <| Jn (fun x21 => ⟨fr [(0, I_ t0), (1, AL 1 (cL 1 z01) t1), (5, z0i 0), (6, I_ x1.2), (7, z00 x21.1), (8, I_ x21.2), (9, I_ x1.2), (10, I_ t0)], hp [(0, .row 3 1 (x1.1.map z01))], 1⟩) [] [] [] q (.s2 q q (.cons (A := z0i 0) q (.obj q q q) (.s2 q q (.s3 q q q .nil)))) (.cons q q q q (.row (NKC.flat _ _)) q q .nil) q q (fun E22 hE22 x21 => ?_)
  refine Js <| Jq q <| Rm (I_ x21.2) q q <| Rm (AL 1 (cL 1 z01) t1) q q <| z1a (cc := (cL 1 z01)) il_78 q q <| z1o q q q <| R0 <| z09 q (fun h26 => ?_) (fun h26 => ?_)
  rotate_left
  · refine z1j q <| z7w <| Jq q <| Rm (z00 x21.1) q q <| R0 ?_
    apply z2w (fun v36 => ⟨fr [(0, I_ t0), (1, AL 1 (cL 1 z01) t1), (5, z0i 0), (6, I_ x1.2), (8, I_ x21.2), (9, I_ x1.2), (10, I_ t0), (14, I_ x21.2), (16, I_ (t1.length : Int))], hp [(0, .row 3 1 (v36.map z01))], 1⟩) (fun v36 => z7i x1 v36)
    · intro K37
      refine z1v q (fun h34 => ?_) (fun h34 => ?_)
      rotate_left
      · exact z0e <| Jc [] [] [] (K37 x1.1) (.s2 q q (.cons (A := z0i 0) q (.obj q q q) (.s6 q q q q q q .nil))) (.cons q q q q (.row (NKC.flat _ _)) q q .nil) q q
      refine Jr q <| Rm (z0i 0) q q <| Rm (I_ x1.2) q q <| r_bs (cc := z01) [x1.2] z1w zr_3_1 (.cons (A := I_ x1.2) q q q .nil) q q q <| z1b (fun h35 => ?_) (fun _ => z0u)
      exact r_app (cc := z01) (xs := x1.1) (ys := [x1.2]) 1 ap_26 q q q h35 q q q <| Ra (z0i 1) q q <| R0 <| Jc [] [(0, 1)] [] (K37 (x1.1 ++ [x1.2])) (.s2 q q (.cons (A := z0i 1) q (.obj q q q) (.s6 q q q q q q .nil))) (.cons q q q q (.row (NKC.flat _ _)) q q .nil) q q
    intro v36
    exact z0s <| z0o 0 (m := t0) q fun q38 => z0o 6 (m := x1.2) q fun q39 => Jr q <| Rm (I_ x1.2) q q <| z1l (x1.2 + 1) q q (z0z (by omega) (by omega)) q <| Ra (I_ (x1.2 + 1)) q q <| R0 <| z41 <| Jc [] [] [] (hE2 (v36, x1.2 + 1)) (.s2 q q (.cons (A := z0i 0) q (.obj q q q) (.same q .nil))) (.cons q q q q (.row (NKC.flat _ _)) q q .nil) q q
  refine z0e <| Js <| z0n ?_
  apply z2w (fun v30 => ⟨fr [(0, I_ t0), (1, AL 1 (cL 1 z01) t1), (5, z0i 0), (6, I_ x1.2), (7, z00 v30), (8, I_ x21.2), (9, I_ x1.2), (10, I_ t0), (14, I_ x21.2), (16, I_ (t1.length : Int))], hp [(0, .row 3 1 (x1.1.map z01))], 1⟩) (fun v30 => z7j x21 v30)
  · intro K31
    refine Jr q <| Rm (z00 x21.1) q q <| Rm (z00 x21.1) q q <| z1b (fun h27 => ?_) (fun h27 => ?_)
    · refine Rk (z0v q q h27) <| Rk (z0v q q h27) <| Rk (z0v q q h27) <| Rk (z0v q q h27) <| Rk (z0v q q h27) <| Rk (z0v q q h27) <| Rk (z0v q q h27) <| Rk (z0v q q h27) <| z0k (z00 true) q h27 q q <| Ra (z00 true) q q ?_
      exact R0 <| Jc [] [] [] (K31 true) (.s2 q q (.cons (A := z0i 0) q (.obj q q q) (.same q (.s6 q q q q q q .nil)))) (.cons q q q q (.row (NKC.flat _ _)) q q .nil) q q
    refine Rm (AL 1 (cL 1 z01) t1) q (g_f q q (bf h27)) <| Rm (I_ x21.2) q (g_f q q (bf h27)) <| z1b (fun h28 => ?_) (fun _ => z0u)
    refine z2k (cc := (cL 1 z01)) el_78 q q h28.1 h28.2 (g_f q q (bf h27)) <| z11 (AL 1 z01 (nth t1 x21.2)) z1s q q (g_f q q (bf h27)) <| Rm (I_ x1.2) q (g_f q q (bf h27)) <| z1b (fun h29 => ?_) (fun _ => z0u)
    exact z2k (cc := z01) z1w q q h29.1 h29.2 (g_f q q (bf h27)) <| z11 (I_ (nth (nth t1 x21.2) x1.2)) z1t q q (g_f q q (bf h27)) <| z2a q q (g_f q q (bf h27)) <| z0h (z00 (decide (¬ ((nth (nth t1 x21.2) x1.2) = 0)))) q (bf h27) q q <| Ra (z00 (decide (¬ ((nth (nth t1 x21.2) x1.2) = 0)))) q q <| R0 <| Jc [] [] [] (K31 (decide (¬ ((nth (nth t1 x21.2) x1.2) = 0)))) (.s2 q q (.cons (A := z0i 0) q (.obj q q q) (.same q (.s6 q q q q q q .nil)))) (.cons q q q q (.row (NKC.flat _ _)) q q .nil) q q
  intro v30
  exact z0s <| z0o 16 (m := (t1.length : Int)) q fun q32 => z0o 8 (m := x21.2) q fun q33 => Jr q <| Rm (I_ x21.2) q q <| z1l (x21.2 + 1) q q (z0z (by omega) (by omega)) q <| Ra (I_ (x21.2 + 1)) q q <| R0 <| z41 <| Jc [] [] [] (hE22 (v30, x21.2 + 1)) (.s2 q q (.cons (A := z0i 0) q (.obj q q q) (.s2 q q (.s3 q q q .nil)))) (.cons q q q q (.row (NKC.flat _ _)) q q .nil) q q
theorem k_ref39_Effects (t0 : z06) (t1 : (List z10)) (r : (List (List Int)) × Int) (hr : z7l t0 t1 = some r) : FnP PP 42 [z0w (z02 t0), AL 25 z0g t1] (z35 [AL 1 (cL 1 z01) r.1, I_ r.2]) := by
  refine Fo (fun (r : (List (List Int)) × Int) => z35 [AL 1 (cL 1 z01) r.1, I_ r.2]) Tryz.func42 q (n := 57) q q hr fun X hΨ => ?_
  refine Jq q <| z17 (z0w (z02 t0)) q q <| Ra (z1m) q q <| Ra (I_ 0) q q <| R0 <| Js <| Jq q <| z14 (z02 t0) z2j q q q q ?_
  refine z0d fun b1 h2 => z0j _ fn_33 (zaa _ _ h2) q q <| Rm (z35 [z1h b1.1, I_ b1.2]) q q <| z20 (z1h b1.1) q q q <| z20 (I_ b1.2) q q q <| Ra (z1h b1.1) q q <| Ra (I_ b1.2) q q <| R0 <| Jq q ?_
  refine Rm (I_ b1.2) q q <| z2a q q q <| R0 <| z09 q (fun h3 => ?_) (fun h3 => ?_)
  · exact Jq q <| Rm (I_ b1.2) q q <| Ra (z1m) q q <| Ra (I_ b1.2) q q <| R0 <| z3g hΨ (z16 (As := [z1m, I_ b1.2]) q q (.cons (.tmp (A := z1m) q) (.cons (.tmp (A := I_ b1.2) q) .nil))) (fun y hy => by cases hy; exact (.tup (.cons .nil (.cons .same .nil))))
  refine z0e <| Js <| Jq q <| Rm (AL 25 z0g t1) q q <| z1a (cc := z0g) il_44 q q <| z3a q q q <| R0 <| z09 q (fun h4 => ?_) (fun h4 => ?_)
  · exact Jq q <| Ra (z1m) q q <| Ra (I_ 3) q q <| R0 <| z3g hΨ (z16 (As := [z1m, I_ 3]) q q (.cons (.tmp (A := z1m) q) (.cons (.tmp (A := I_ 3) q) .nil))) (fun y hy => by cases hy; exact (.tup (.cons .nil (.cons .same .nil))))
  refine z0e <| Jq q <| Ra (z1m) q q <| R0 <| Js <| Jq q <| Ra (I_ 0) q q <| R0 ?_
  refine z0n <| Jn (fun x5 => ⟨fr [(1, AL 25 z0g t1), (2, z1r (z02 t0)), (5, I_ 0), (7, I_ b1.2), (8, z0i 0), (9, I_ x5.2), (16, I_ b1.2), (17, I_ b1.2), (21, I_ (t1.length : Int))], hp [(0, .row 26 1 (x5.1.map (cL 1 z01)))], 1⟩) [] [] [0] q (.same q (.s3 q q q (.cons (A := z1m) q (.nilobj q q) (.same q (.s3 q q q .nil))))) (.new q q .nil) q q (fun E6 hE6 x5 => ?_)
  refine Js <| Jq q <| Rm (I_ x5.2) q q <| Rm (AL 25 z0g t1) q q <| z1a (cc := z0g) il_44 q q <| z1o q q q <| R0 <| z09 q (fun h12 => ?_) (fun h12 => ?_)
  rotate_left
  · refine z1j q <| z7w <| Js <| Js <| J_cv [0] [] [] 0 [(2, z1r (z02 t0)), (5, I_ 0), (7, I_ b1.2), (8, AL 1 (cL 1 z01) x5.1), (9, I_ x5.2), (16, I_ b1.2), (17, I_ b1.2), (21, I_ (t1.length : Int)), (23, I_ x5.2), (25, I_ (t1.length : Int))] [] (.same q (.same q (.same q (.cons (A := z0i 0) q (.frow q q (NKC.flat _ _)) (.same q (.same q (.same q (.same q (.same q (.same q .nil)))))))))) .nil q q <| Jr q <| z0f ((cL 4 z03) t0.Nodes) z2i q q q <| z11 (AL 4 z03 t0.Nodes) z4z q q q <| z1a (cc := z03) z9h q q <| z0f ((cL 7 z0c) t0.Edges) z3w q q q ?_
    refine z11 (AL 7 z0c t0.Edges) sc_23 q q q <| z1a (cc := z0c) il_23 q q <| z0d fun b24 h25 => z1l b24 q q (Option.some.inj h25) q <| Rm (AL 1 (cL 1 z01) x5.1) q q <| z0d fun b26 h27 => z0j _ fn_43 (k_ref39_touched _ _ _ h27) q q <| z1a (cc := z01) z2m q q <| z3a q q q <| R0 ?_
    refine z09 q (fun h28 => ?_) (fun h28 => ?_)
    · exact Jq q <| Ra (z1m) q q <| Ra (I_ 3) q q <| R0 <| z3g hΨ (z16 (As := [z1m, I_ 3]) q q (.cons (.tmp (A := z1m) q) (.cons (.tmp (A := I_ 3) q) .nil))) (fun y hy => by cases hy; exact (.tup (.cons .nil (.cons .same .nil))))
    exact z0e <| Jq q <| Rm (AL 1 (cL 1 z01) x5.1) q q <| Ra (AL 1 (cL 1 z01) x5.1) q q <| Ra (I_ 0) q q <| R0 <| Jt hΨ (z16 (As := [AL 1 (cL 1 z01) x5.1, I_ 0]) q q (.cons (.tmp (A := AL 1 (cL 1 z01) x5.1) q) (.cons (.tmp (A := I_ 0) q) .nil))) q q
  refine z0e <| Js <| z0n <| Js <| z2g <| z14 (z02 t0) z2j q q q q <| Rm (AL 25 z0g t1) q q <| Rm (I_ x5.2) q q <| z1b (fun h13 => ?_) (fun _ => z0u)
  refine z2k (cc := z0g) el_44 q q h13.1 h13.2 q <| z14 (z0g (nth t1 x5.2)) ag_41 q q q q <| z0d fun b14 h15 => z0j _ fn_12 (k_ref39_Effect _ _ _ h15) q q <| Rm (z35 [AL 1 z01 b14.1, I_ b14.2]) q q <| z20 (AL 1 z01 b14.1) q q q <| z20 (I_ b14.2) q q q <| Ra (AL 1 z01 b14.1) q q <| Ra (I_ b14.2) q q <| z1y (by kernel_rfl) ?_
  refine Js <| Jq q <| Rm (I_ b14.2) q q <| z2a q q q <| R0 <| z09 q (fun h16 => ?_) (fun h16 => ?_)
  · exact Jq q <| Rm (I_ b14.2) q q <| Ra (z1m) q q <| Ra (I_ b14.2) q q <| R0 <| z0x <| z3g hΨ (z16 (As := [z1m, I_ b14.2]) q q (.cons (.tmp (A := z1m) q) (.cons (.tmp (A := I_ b14.2) q) .nil))) (fun y hy => by cases hy; exact (.tup (.cons .nil (.cons .same .nil))))
  refine z0e <| Jr q <| Rm (z0i 0) q q <| Rm (AL 1 z01 b14.1) q q <| r_bs (cc := (cL 1 z01)) [b14.1] el_78 zr_26_1 (.cons (A := AL 1 z01 b14.1) q q q .nil) q q q <| z1b (fun h17 => ?_) (fun _ => z0u)
  refine r_app (cc := (cL 1 z01)) (xs := x5.1) (ys := [b14.1]) 1 ap_78 q q q h17 q q q <| Ra (z0i 1) q q <| R0 <| z0s <| z0o 21 (m := (t1.length : Int)) q fun q18 => z0o 9 (m := x5.2) q fun q19 => Jr q <| Rm (I_ x5.2) q q <| z1l (x5.2 + 1) q q (z0z (by omega) (by omega)) q <| Ra (I_ (x5.2 + 1)) q q ?_
  exact R0 <| z41 <| Jc [] [(0, 1)] [] (hE6 ((x5.1 ++ [b14.1]), x5.2 + 1)) (.same q (.s3 q q q (.cons (A := z0i 1) q (.obj q q q) (.same q (.s3 q q q .nil))))) (.cons q q q q (.row (NKC.flat _ _)) q q .nil) q q
theorem k_ref39_total (t0 : (List Int)) (r : Int) (hr : ref39_total t0 = some r) : FnP PP 46 [AL 1 z01 t0] (I_ r) := by
  refine Fo (fun (r : Int) => I_ r) Tryz.func46 q (n := 18) q q hr fun X hΨ => ?_
  refine Jq q <| Ra (I_ 0) q q <| R0 <| Jq q <| Ra (I_ 0) q q <| R0 <| Js <| Js ?_
  refine Jr q <| Ra (I_ 0) q q <| R0 <| z0n <| Jl (fun x1 => [(0, AL 1 z01 t0), (3, I_ x1.1), (4, I_ x1.2)]) (.c3 q q q .nil) (fun E2 hE2 x1 => ?_)
  refine Js <| Jq q <| Rm (I_ x1.2) q q <| Rm (AL 1 z01 t0) q q <| z1a (cc := z01) z2m q q <| z1o q q q <| R0 <| z09 q (fun h7 => ?_) (fun h7 => ?_)
  rotate_left
  · exact z1j q <| z0x <| Jq q <| Rm (I_ x1.1) q q <| Ra (I_ x1.1) q q <| Rt hΨ q q q
  refine z0e <| Js <| z0n <| Jr q <| Rm (I_ x1.1) q q <| Rm (AL 1 z01 t0) q q <| Rm (I_ x1.2) q q <| z1b (fun h8 => ?_) (fun _ => z0u)
  refine z2k (cc := z01) z1w q q h8.1 h8.2 q <| z11 (I_ (nth t0 x1.2)) z1t q q q <| z0d fun b9 h10 => z1l b9 q q (Option.some.inj h10) q <| Ra (I_ b9) q q <| R0 <| z0s <| z0o 7 (m := (t0.length : Int)) q fun q11 => z0o 4 (m := x1.2) q fun q12 => Jr q ?_
  exact Rm (I_ x1.2) q q <| z1l (x1.2 + 1) q q (z0z (by omega) (by omega)) q <| Ra (I_ (x1.2 + 1)) q q <| R0 <| z41 <| Jk (hE2 (b9, x1.2 + 1)) (.c3 q q q .nil)
theorem k_ref39_Product (t0 : (List Int)) (t1 : (List Int)) (r : Int) (hr : ref39_Product t0 t1 = some r) : FnP PP 81 [AL 1 z01 t0, AL 1 z01 t1] (I_ r) := by
  refine Fo (fun (r : Int) => I_ r) Tryz.func81 q (n := 25) q q hr fun X hΨ => ?_
  refine Jq q <| Ra (I_ 0) q q <| R0 <| Jq q <| Ra (I_ 0) q q <| R0 <| Js <| Js ?_
  refine Jr q <| Ra (I_ 0) q q <| R0 <| z0n <| Jl (fun x1 => [(0, AL 1 z01 t0), (1, AL 1 z01 t1), (5, I_ x1.1), (6, I_ x1.2)]) (.cons q (.c3 q q q .nil)) (fun E2 hE2 x1 => ?_)
  refine Js <| Jq q <| Rm (I_ x1.2) q q <| Rm (AL 1 z01 t0) q q <| z1a (cc := z01) z2m q q <| z1o q q q <| R0 <| z09 q (fun h10 => ?_) (fun h10 => ?_)
  rotate_left
  · exact z1j q <| z0x <| Jq q <| Rm (I_ x1.1) q q <| Ra (I_ x1.1) q q <| Rt hΨ q q q
  refine z0e <| Js <| z0n <| z2g <| Rm (I_ x1.1) q q <| Rm (AL 1 z01 t0) q q <| Rm (I_ x1.2) q q <| z1b (fun h11 => ?_) (fun _ => z0u)
  refine z2k (cc := z01) z1w q q h11.1 h11.2 q <| z11 (I_ (nth t0 x1.2)) z1t q q q <| Rm (AL 1 z01 t1) q q <| Rm (I_ x1.2) q q <| z1b (fun h12 => ?_) (fun _ => z0u)
  refine z2k (cc := z01) z1w q q h12.1 h12.2 q <| z11 (I_ (nth t1 x1.2)) z1t q q q <| z0d fun b13 h14 => r_mul b13 q q (Option.some.inj h14) q <| z0d fun b15 h16 => z1l b15 q q (Option.some.inj h16) q <| Ra (I_ b15) q q <| z1y (by kernel_rfl) <| z0s <| z0o 9 (m := (t0.length : Int)) q fun q17 => ?_
  exact z0o 6 (m := x1.2) q fun q18 => Jr q <| Rm (I_ x1.2) q q <| z1l (x1.2 + 1) q q (z0z (by omega) (by omega)) q <| Ra (I_ (x1.2 + 1)) q q <| R0 <| z41 <| Jk (hE2 (b15, x1.2 + 1)) (.cons q (.c3 q q q .nil))
theorem k_ref39_lowers (t0 : (List Int)) (t1 : (List (List Int))) (r : Bool) (hr : ref39_lowers t0 t1 = some r) : FnP PP 47 [AL 1 z01 t0, AL 1 (cL 1 z01) t1] (z00 r) := by
  refine Fo (fun (r : Bool) => z00 r) Tryz.func47 q (n := 19) q q hr fun X hΨ => ?_
  refine Jq q <| Ra (z00 false) q q <| R0 <| Js <| Jq q <| Ra (I_ 0) q q <| R0 <| z0n ?_
  refine Jl (fun x1 => [(0, AL 1 z01 t0), (1, AL 1 (cL 1 z01) t1), (5, I_ x1)]) (.c3 q q q .nil) (fun E2 hE2 x1 => ?_)
  refine Js <| Jq q <| Rm (I_ x1) q q <| Rm (AL 1 (cL 1 z01) t1) q q <| z1a (cc := (cL 1 z01)) il_78 q q <| z1o q q q <| R0 <| z09 q (fun h8 => ?_) (fun h8 => ?_)
  rotate_left
  · exact z1j q <| z0x <| Jq q <| Ra (z00 true) q q <| Rt hΨ q q q
  refine z0e <| Js <| z0n <| Jq q <| Rm (AL 1 z01 t0) q q <| Rm (AL 1 (cL 1 z01) t1) q q <| Rm (I_ x1) q q <| z1b (fun h9 => ?_) (fun _ => z0u)
  refine z2k (cc := (cL 1 z01)) el_78 q q h9.1 h9.2 q <| z11 (AL 1 z01 (nth t1 x1)) z1s q q q <| z0d fun b10 h11 => z0j _ fn_81 (k_ref39_Product _ _ _ h11) q q <| z3a q q q <| R0 <| z09 q (fun h12 => ?_) (fun h12 => ?_)
  · exact Jq q <| Ra (z00 false) q q <| R0 <| z0x <| Jt hΨ (z18 q) q q
  exact z0e <| z0s <| z0o 8 (m := (t1.length : Int)) q fun q13 => z0o 5 (m := x1) q fun q14 => Jr q <| Rm (I_ x1) q q <| z1l (x1 + 1) q q (z0z (by omega) (by omega)) q <| Ra (I_ (x1 + 1)) q q <| R0 <| z41 <| Jk (hE2 (x1 + 1)) (.c3 q q q .nil)
end Go.Proofs.YtngimdmkomkeoaaGreat.K
