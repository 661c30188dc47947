/- Each function computes what its plain form says. -/
import Derived.Test.YtngimdmkomkeoaaGreatWalk0
set_option linter.unusedVariables false
set_option linter.unusedSimpArgs false
namespace Go.Proofs.YtngimdmkomkeoaaGreat.K
open Go.RowKit Go.Proofs
set_option maxHeartbeats 4000000
set_option maxRecDepth 100000
theorem k_subgraph_Extract (t0 : z0p) (t1 : z2d) (r : z0p × z0t × Int) (hr : z8h t0 t1 = some r) : FnP PP 192 [z0w (z07 t0), z0w (z1i t1)] (z35 [z0w (z07 r.1), z0w (z0m r.2.1), I_ r.2.2]) := by
  refine Fo (fun (r : z0p × z0t × Int) => z35 [z0w (z07 r.1), z0w (z0m r.2.1), I_ r.2.2]) Tryz.func192 q (n := 85) q q hr fun X hΨ => ?_
  refine Jq q <| z17 (z0w (z07 t0)) q q <| z17 (z0w (z1i t1)) q q <| z1x 0 _ z_29 q q <| z1x 1 _ z_36 q q <| Ra (I_ 0) q q <| R0 <| Js <| Js ?_
  refine Jr q <| z14 (z07 t0) z4d q q q q <| z14 (z1i t1) ag_35 q q q q <| z0d fun b1 h2 => z0j _ fn_230 (k_subgraph_Valid _ _ _ h2) q q <| Ra (I_ b1) q q <| R0 <| Jq q <| Rm (I_ b1) q q ?_
  refine z2a q q q <| R0 <| z09 q (fun h3 => ?_) (fun h3 => ?_)
  · exact Jq q <| z4p (Cs := [z1m, z1m]) (z07 (z0p.mk [] [])) pl_29 z_29 .nil q (.nl (.nl .nil)) q <| z4p (Cs := [z1m, z1m]) (z0m (z0t.mk [] [])) pl_36 z_36 .nil q (.nl (.nl .nil)) q <| Rm (I_ b1) q q <| z2p (z0i 0) (z0w (z07 (z0p.mk [] []))) (z07 (z0p.mk [] [])) sz_29 q .obj q q q q q q <| z2p (z0i 1) (z0w (z0m (z0t.mk [] []))) (z0m (z0t.mk [] [])) sz_36 q .obj q q q q q q <| Ra (I_ b1) q q <| R0 <| Jt hΨ (z16 (As := [z0w (z07 (z0p.mk [] [])), z0w (z0m (z0t.mk [] [])), I_ b1]) q q (.cons (.boxA (cs := (z07 (z0p.mk [] []))) z4d q q q) (.cons (.boxA (cs := (z0m (z0t.mk [] []))) ag_36 q q q) (.cons (.tmp (A := I_ b1) q) .nil)))) q q
  refine z0e <| Jq q <| z1x 2 _ z_29 q q <| R0 <| Js <| Jq q <| z0f ((cL 1 z01) t1.Nodes) z6r q q q <| z11 (AL 1 z01 t1.Nodes) z1s q q q ?_
  refine z1a (cc := z01) z2m q q <| Rm (I_ 0) q q <| R0 <| z0n <| Jn (fun x4 => ⟨fr [(2, z1r (z07 t0)), (3, z1r (z1i t1)), (4, z0i 0), (5, z0i 1), (6, I_ 0), (7, I_ b1), (8, z0i 2), (16, I_ b1), (17, I_ b1), (23, AL 1 z01 t1.Nodes), (24, I_ (t1.Nodes.length : Int)), (25, I_ x4.2)], hp [(0, .box 29 [z1m, z1m]), (1, .box 36 [z1m, z1m]), (2, .box 29 [z0i 3, z1m]), (3, .row 3 1 (x4.1.map z01))], 4⟩) [] [] [3] q (.s2 q q (.cons (A := z0i 0) q (.obj q q q) (.cons (A := z0i 1) q (.obj q q q) (.s2 q q (.cons (A := z0i 2) q (.obj q q q) (.s2 q q (.s3 q q q .nil))))))) (.cons q q q q (.box (.cons .same (.cons .same .nil))) q q (.cons q q q q (.box (.cons .same (.cons .same .nil))) q q (.cons q q q q (.box (.cons (.nilobj q q) (.cons .same .nil))) q q (.new q q .nil)))) q q (fun E5 hE5 x4 => ?_)
  refine Jq q <| z1o q q q <| R0 <| Js <| z09 q (fun h9 => ?_) (fun h9 => ?_)
  · refine z0e <| Js <| z0n <| Jq q <| z1b (fun h10 => ?_) (fun _ => z0u)
    refine z2k (cc := z01) z1w q q h10.1 h10.2 q <| z11 (I_ (nth t1.Nodes x4.2)) z1t q q q <| Ra (I_ (nth t1.Nodes x4.2)) q q <| R0 <| z2g <| z24 (z0i 2) 0 z29 q .obj q q q <| z2b (z1f 2 0) (z0i 3) z1s q .at q q q <| z0f ((cL 1 z01) t0.Nodes) z29 q q q <| z11 (AL 1 z01 t0.Nodes) z1s q q q <| Rm (I_ (nth t1.Nodes x4.2)) q q ?_
    refine z1b (fun h11 => ?_) (fun _ => z0u)
    refine z2k (cc := z01) z1w q q h11.1 h11.2 q <| z11 (I_ (nth t0.Nodes (nth t1.Nodes x4.2))) z1t q q q <| r_bs (cc := z01) [(nth t0.Nodes (nth t1.Nodes x4.2))] z1w zr_3_1 (.cons (A := I_ (nth t0.Nodes (nth t1.Nodes x4.2))) q q q .nil) q q q <| z1b (fun h12 => ?_) (fun _ => z0u)
    refine r_app (cc := z01) (xs := x4.1) (ys := [(nth t0.Nodes (nth t1.Nodes x4.2))]) 4 ap_26 q q q h12 q q q <| z24 (z0i 2) 0 z29 q .obj q q q <| z2p (z1f 2 0) (z0i 4) [z0i 4, z1m] sz_26 q .at q q q q q q <| z1y (by kernel_rfl) <| z0s <| z0o 24 (m := (t1.Nodes.length : Int)) q fun q13 => z0o 25 (m := x4.2) q fun q14 => Jr q <| z1l (x4.2 + 1) q q (z0z (by omega) (by omega)) q <| Rm (I_ (x4.2 + 1)) q q ?_
    exact R0 <| z41 <| Jc [] [(3, 4)] [] (hE5 ((x4.1 ++ [(nth t0.Nodes (nth t1.Nodes x4.2))]), x4.2 + 1)) (.s2 q q (.cons (A := z0i 0) q (.obj q q q) (.cons (A := z0i 1) q (.obj q q q) (.s2 q q (.cons (A := z0i 2) q (.obj q q q) (.s2 q q (.s3 q q q .nil))))))) (.cons q q q q (.box (.cons .same (.cons .same .nil))) q q (.cons q q q q (.box (.cons .same (.cons .same .nil))) q q (.cons q q q q (.box (.cons (.obj q q q) (.cons .same .nil))) q q (.cons q q q q (.row (NKC.flat _ _)) q q .nil)))) q q
  refine z1j q <| z7w <| Js <| Jq q <| z0f ((cL 1 z01) t1.Edges) fo_35_1 q q q <| z11 (AL 1 z01 t1.Edges) z1s q q q <| z1a (cc := z01) z2m q q <| Rm (I_ 0) q q <| R0 ?_
  refine z0n <| Jn (fun x15 => ⟨fr [(2, z1r (z07 t0)), (3, z1r (z1i t1)), (4, z0i 0), (5, z0i 1), (6, I_ 0), (7, I_ b1), (8, z0i 2), (16, I_ b1), (17, I_ b1), (24, I_ (t1.Nodes.length : Int)), (25, I_ x4.2), (41, AL 1 z01 t1.Edges), (42, I_ (t1.Edges.length : Int)), (43, I_ x15.2)], hp [(0, .box 29 [z1m, z1m]), (1, .box 36 [z1m, z1m]), (2, .box 29 [z0i 3, z0i 4]), (3, .row 3 1 (x4.1.map z01)), (4, .row 77 3 (x15.1.map z0b))], 5⟩) [] [] [4] q (.s2 q q (.cons (A := z0i 0) q (.obj q q q) (.cons (A := z0i 1) q (.obj q q q) (.s2 q q (.cons (A := z0i 2) q (.obj q q q) (.same q (.s6 q q q q q q .nil))))))) (.cons q q q q (.box (.cons .same (.cons .same .nil))) q q (.cons q q q q (.box (.cons .same (.cons .same .nil))) q q (.cons q q q q (.box (.cons (.obj q q q) (.cons (.nilobj q q) .nil))) q q (.cons q q q q (.row (NKC.flat _ _)) q q (.new q q .nil))))) q q (fun E16 hE16 x15 => ?_)
  refine Jq q <| z1o q q q <| R0 <| Js <| z09 q (fun h24 => ?_) (fun h24 => ?_)
  rotate_left
  · refine z1j q <| z7w <| Js <| z2g <| z50 (z0i 2) [z0i 3, z0i 4] z4d q .obj q q q q <| z0f ((cL 1 z01) t1.Nodes) z6r q q q <| z11 (AL 1 z01 t1.Nodes) z1s q q q <| z0d fun b34 h35 => z0j _ fn_20 (FnK.toP (r' := AL 1 z01 b34) (z4h _ _ h35) (.frow q q (NKC.flat _ _))) q q <| z0f ((cL 1 z01) t1.Edges) fo_35_1 q q q ?_
    exact z11 (AL 1 z01 t1.Edges) z1s q q q <| z0d fun b36 h37 => z0j _ fn_20 (FnK.toP (r' := AL 1 z01 b36) (z4h _ _ h37) (.frow q q (NKC.flat _ _))) q q <| z52 (z0m (z0t.mk b34 b36)) pl_36 z_36 (.cons (A := AL 1 z01 b34) q po_36_0 q (.cons (A := AL 1 z01 b36) q po_36_1 q .nil)) q q <| z2p (z0i 0) (z0w [z0i 3, z0i 4]) [z0i 3, z0i 4] sz_29 q .obj q q q q q q <| z2p (z0i 1) (z0w (z0m (z0t.mk b34 b36))) (z0m (z0t.mk b34 b36)) sz_36 q .obj q q q q q q <| Ra (I_ 0) q q <| z1y (by kernel_rfl) <| z3g hΨ (z16 (As := [z0w [z0i 3, z0i 4], z0w (z0m (z0t.mk b34 b36)), I_ 0]) q q (.cons (.boxA (cs := [z0i 3, z0i 4]) z4d q q q) (.cons (.boxA (cs := (z0m (z0t.mk b34 b36))) ag_36 q q q) (.cons (.tmp (A := I_ 0) q) .nil)))) (fun y hy => by cases hy; exact (.tup (.cons (.agg (.cons (.frow q q (NKC.flat _ _)) (.cons (.frow q q (NKC.flat _ _)) .nil))) (.cons .same (.cons .same .nil)))))
  refine z0e <| Js <| z0n <| Jq q <| z1b (fun h25 => ?_) (fun _ => z0u)
  refine z2k (cc := z01) z1w q q h25.1 h25.2 q <| z11 (I_ (nth t1.Edges x15.2)) z1t q q q <| Ra (I_ (nth t1.Edges x15.2)) q q <| R0 <| Jq q <| z0f ((cL 3 z0b) t0.Edges) z2r q q q <| z11 (AL 3 z0b t0.Edges) z5o q q q <| Rm (I_ (nth t1.Edges x15.2)) q q <| z1b (fun h26 => ?_) (fun _ => z0u)
  refine z2k (cc := z0b) el_27 q q h26.1 h26.2 q <| z14 (z0b (nth t0.Edges (nth t1.Edges x15.2))) ag_77 q q q q <| z1x 5 _ z_77 q q <| z2p (z0i 5) (z0w (z0b (nth t0.Edges (nth t1.Edges x15.2)))) (z0b (nth t0.Edges (nth t1.Edges x15.2))) sz_77 q .obj q q q q q q <| R0 <| Jq q <| z0f ((cL 1 z01) t1.Nodes) z6r q q q <| z11 (AL 1 z01 t1.Nodes) z1s q q q <| z24 (z0i 5) 1 zaf q .obj q q q ?_
  refine z2b (z1f 5 1) (I_ ((nth t0.Edges (nth t1.Edges x15.2)).From)) z1t q .at q q q <| z0d fun b27 h28 => z0j _ fn_231 (z5f _ _ _ h28) q q <| Rm (z35 [I_ b27.1, z00 b27.2]) q q <| z20 (I_ b27.1) q q q <| z20 (z00 b27.2) q q q <| z24 (z0i 5) 1 zaf q .obj q q q <| z2p (z1f 5 1) (I_ b27.1) (z0b (z1e.mk ((nth t0.Edges (nth t1.Edges x15.2)).Type_) b27.1 ((nth t0.Edges (nth t1.Edges x15.2)).To))) sz_3 q .at q q q q q q <| R0 <| Js ?_
  refine Jr q <| z0f ((cL 1 z01) t1.Nodes) z6r q q q <| z11 (AL 1 z01 t1.Nodes) z1s q q q <| z24 (z0i 5) 2 zae q .obj q q q <| z2b (z1f 5 2) (I_ ((nth t0.Edges (nth t1.Edges x15.2)).To)) z1t q .at q q q <| z0d fun b29 h30 => z0j _ fn_231 (z5f _ _ _ h30) q q <| Rm (z35 [I_ b29.1, z00 b29.2]) q q <| z20 (I_ b29.1) q q q <| z20 (z00 b29.2) q q q ?_
  refine z24 (z0i 5) 2 zae q .obj q q q <| z2p (z1f 5 2) (I_ b29.1) (z0b (z1e.mk ((nth t0.Edges (nth t1.Edges x15.2)).Type_) b27.1 b29.1)) sz_3 q .at q q q q q q <| R0 <| Jr q <| z24 (z0i 2) 1 z2r q .obj q q q <| z2b (z1f 2 1) (z0i 4) z5o q .at q q q <| z50 (z0i 5) (z0b (z1e.mk ((nth t0.Edges (nth t1.Edges x15.2)).Type_) b27.1 b29.1)) ag_77 q .obj q q q q <| r_bs (cc := z0b) [(z1e.mk ((nth t0.Edges (nth t1.Edges x15.2)).Type_) b27.1 b29.1)] el_27 zr_77_1 (.cons (A := z0w (z0b (z1e.mk ((nth t0.Edges (nth t1.Edges x15.2)).Type_) b27.1 b29.1))) q q q .nil) q q q <| z1b (fun h31 => ?_) (fun _ => z0u)
  refine r_app (cc := z0b) (xs := x15.1) (ys := [(z1e.mk ((nth t0.Edges (nth t1.Edges x15.2)).Type_) b27.1 b29.1)]) 6 ap_27 q q q h31 q q q <| z24 (z0i 2) 1 z2r q .obj q q q <| z2p (z1f 2 1) (z0i 6) [z0i 3, z0i 6] sz_27 q .at q q q q q q <| R0 <| z0s <| z0o 42 (m := (t1.Edges.length : Int)) q fun q32 => z0o 43 (m := x15.2) q fun q33 => Jr q <| z1l (x15.2 + 1) q q (z0z (by omega) (by omega)) q <| Rm (I_ (x15.2 + 1)) q q ?_
  exact R0 <| z41 <| Jc [] [(4, 6)] [] (hE16 ((x15.1 ++ [(z1e.mk ((nth t0.Edges (nth t1.Edges x15.2)).Type_) b27.1 b29.1)]), x15.2 + 1)) (.s2 q q (.cons (A := z0i 0) q (.obj q q q) (.cons (A := z0i 1) q (.obj q q q) (.s2 q q (.cons (A := z0i 2) q (.obj q q q) (.same q (.s6 q q q q q q .nil))))))) (.cons q q q q (.box (.cons .same (.cons .same .nil))) q q (.cons q q q q (.box (.cons .same (.cons .same .nil))) q q (.cons q q q q (.box (.cons (.obj q q q) (.cons (.obj q q q) .nil))) q q (.cons q q q q (.row (NKC.flat _ _)) q q (.cons q q q q (.row (NKC.flat _ _)) q q .nil))))) q q
theorem k_morphism_Valid (t0 : z0p) (t1 : z0p) (t2 : z0t) (r : Int) (hr : z47 t0 t1 t2 = some r) : FnP PP 193 [z0w (z07 t0), z0w (z07 t1), z0w (z0m t2)] (I_ r) := by
  refine Fo (fun (r : Int) => I_ r) Tryz.func193 q (n := 123) q q hr fun X hΨ => ?_
  refine Jq q <| z17 (z0w (z07 t0)) q q <| z17 (z0w (z07 t1)) q q <| z17 (z0w (z0m t2)) q q <| Ra (I_ 0) q q <| R0 <| Js <| Jq q ?_
  refine z14 (z07 t0) z4d q q q q <| z0d fun b1 h2 => z0j _ fn_86 (zac _ _ h2) q q <| Ra (I_ b1) q q <| R0 <| Jq q <| Rm (I_ b1) q q <| z2a q q q <| R0 ?_
  refine z09 q (fun h3 => ?_) (fun h3 => ?_)
  · exact Jq q <| Rm (I_ b1) q q <| Ra (I_ b1) q q <| Rt hΨ q q q
  refine z0e <| Js <| Jq q <| z14 (z07 t1) z4d q q q q <| z0d fun b4 h5 => z0j _ fn_86 (zac _ _ h5) q q <| Ra (I_ b4) q q <| R0 <| Js ?_
  refine Jr q <| Rm (I_ b4) q q <| z2a q q q <| R0 <| z09 q (fun h6 => ?_) (fun h6 => ?_)
  · exact Jq q <| Rm (I_ b4) q q <| Ra (I_ b4) q q <| Rt hΨ q q q
  refine z0e <| Js <| Jq q <| z0f ((cL 1 z01) t2.Nodes) z6a q q q <| z11 (AL 1 z01 t2.Nodes) z1s q q q <| z1a (cc := z01) z2m q q <| z0f ((cL 1 z01) t0.Nodes) z29 q q q <| z11 (AL 1 z01 t0.Nodes) z1s q q q <| z1a (cc := z01) z2m q q ?_
  refine z2a q q q <| Rm (z00 (decide (¬ ((t2.Nodes.length : Int) = (t0.Nodes.length : Int))))) q q <| z1b (fun h7 => ?_) (fun h7 => ?_)
  · refine Rk (z0v q q (dt h7)) <| Rk (z0v q q (dt h7)) <| Rk (z0v q q (dt h7)) <| Rk (z0v q q (dt h7)) <| Rk (z0v q q (dt h7)) <| Rk (z0v q q (dt h7)) <| Rk (z0v q q (dt h7)) <| z0k (z00 true) q (dt h7) q q <| R0 <| z1d q q ?_
    exact Jq q <| Ra (I_ 20) q q <| Rt hΨ q q q
  refine z0f ((cL 1 z01) t2.Edges) z92 q q (g_f q q (df h7)) <| z11 (AL 1 z01 t2.Edges) z1s q q (g_f q q (df h7)) <| z1a (cc := z01) z2m q (g_f q q (df h7)) <| z0f ((cL 3 z0b) t0.Edges) z2r q q (g_f q q (df h7)) <| z11 (AL 3 z0b t0.Edges) z5o q q (g_f q q (df h7)) <| z1a (cc := z0b) il_27 q (g_f q q (df h7)) <| z2a q q (g_f q q (df h7)) <| z0h (z00 (decide (¬ ((t2.Edges.length : Int) = (t0.Edges.length : Int))))) q (df h7) q q <| R0 <| z09 q (fun h8 => ?_) (fun h8 => ?_)
  · exact Jq q <| Ra (I_ 20) q q <| Rt hΨ q q q
  refine z0e <| Js <| Jq q <| z0f ((cL 1 z01) t2.Nodes) z6a q q q <| z11 (AL 1 z01 t2.Nodes) z1s q q q <| z1a (cc := z01) z2m q q <| Rm (I_ 0) q q <| R0 <| z0n ?_
  refine Jn (fun x9 => ⟨fr [(3, z1r (z07 t0)), (4, z1r (z07 t1)), (5, z1r (z0m t2)), (6, I_ 0), (7, I_ b1), (8, I_ b4), (16, I_ b1), (17, I_ b1), (21, I_ b4), (22, I_ b4), (27, I_ (t2.Nodes.length : Int)), (30, I_ (t0.Nodes.length : Int)), (35, I_ (t2.Edges.length : Int)), (38, I_ (t0.Edges.length : Int)), (42, AL 1 z01 t2.Nodes), (43, I_ (t2.Nodes.length : Int)), (44, I_ x9)], hp [], 0⟩) [] [] [] q (.s2 q q (.s3 q q q (.s6 q q q q q q (.s6 q q q q q q .nil)))) .nil q q (fun E10 hE10 x9 => ?_)
  refine Jq q <| z1o q q q <| R0 <| Js <| z09 q (fun h18 => ?_) (fun h18 => ?_)
  · refine z0e <| Js <| z0n <| Jq q <| Rm (I_ x9) q q <| z1b (fun h19 => ?_) (fun _ => z0u)
    refine z2k (cc := z01) z1w q q h19.1 h19.2 q <| z11 (I_ (nth t2.Nodes x9)) z1t q q q <| Ra (I_ x9) q q <| Ra (I_ (nth t2.Nodes x9)) q q <| R0 <| Js <| Jq q <| Rm (I_ (nth t2.Nodes x9)) q q <| z1o q q q ?_
    refine Rm (z00 (decide ((nth t2.Nodes x9) < 0))) q q <| z1b (fun h20 => ?_) (fun h20 => ?_)
    · refine Rk (z0v q q (dt h20)) <| Rk (z0v q q (dt h20)) <| Rk (z0v q q (dt h20)) <| Rk (z0v q q (dt h20)) <| Rk (z0v q q (dt h20)) <| z0k (z00 true) q (dt h20) q q <| R0 <| z1d q q <| Jq q ?_
      exact Ra (I_ 6) q q <| R0 <| z0x <| Jt hΨ (z18 q) q q
    refine Rm (I_ (nth t2.Nodes x9)) q (g_f q q (df h20)) <| z0f ((cL 1 z01) t1.Nodes) z29 q q (g_f q q (df h20)) <| z11 (AL 1 z01 t1.Nodes) z1s q q (g_f q q (df h20)) <| z1a (cc := z01) z2m q (g_f q q (df h20)) <| z3c q q (g_f q q (df h20)) <| z0h (z00 (decide ((t1.Nodes.length : Int) ≤ (nth t2.Nodes x9)))) q (df h20) q q <| R0 <| z09 q (fun h21 => ?_) (fun h21 => ?_)
    · exact Jq q <| Ra (I_ 6) q q <| R0 <| z0x <| Jt hΨ (z18 q) q q
    refine z0e <| Js <| z2g <| z0f ((cL 1 z01) t1.Nodes) z29 q q q <| z11 (AL 1 z01 t1.Nodes) z1s q q q <| Rm (I_ (nth t2.Nodes x9)) q q <| z1b (fun h22 => ?_) (fun _ => z0u)
    refine z2k (cc := z01) z1w q q h22.1 h22.2 q <| z11 (I_ (nth t1.Nodes (nth t2.Nodes x9))) z1t q q q <| z0f ((cL 1 z01) t0.Nodes) z29 q q q <| z11 (AL 1 z01 t0.Nodes) z1s q q q <| Rm (I_ x9) q q <| z1b (fun h23 => ?_) (fun _ => z0u)
    refine z2k (cc := z01) z1w q q h23.1 h23.2 q <| z11 (I_ (nth t0.Nodes x9)) z1t q q q <| z2a q q q <| z1y (by kernel_rfl) <| z09 q (fun h24 => ?_) (fun h24 => ?_)
    · exact Jq q <| Ra (I_ 13) q q <| R0 <| z0x <| Jt hΨ (z18 q) q q
    exact z0e <| z0s <| z0o 27 (m := (t2.Nodes.length : Int)) q fun q25 => z0o 9 (m := x9) q fun q26 => Jr q <| z1l (x9 + 1) q q (z0z (by omega) (by omega)) q <| Rm (I_ (x9 + 1)) q q <| R0 <| z41 <| Jc [] [] [] (hE10 (x9 + 1)) (.s2 q q (.s3 q q q (.s6 q q q q q q (.s6 q q q q q q .nil)))) .nil q q
  refine z1j q <| z7w <| Js <| Jq q <| z0f ((cL 1 z01) t2.Edges) z92 q q q <| z11 (AL 1 z01 t2.Edges) z1s q q q <| z1a (cc := z01) z2m q q <| Rm (I_ 0) q q <| R0 ?_
  refine z0n <| Jn (fun x27 => ⟨fr [(3, z1r (z07 t0)), (4, z1r (z07 t1)), (5, z1r (z0m t2)), (6, I_ 0), (7, I_ b1), (8, I_ b4), (16, I_ b1), (17, I_ b1), (21, I_ b4), (22, I_ b4), (27, I_ (t2.Nodes.length : Int)), (30, I_ (t0.Nodes.length : Int)), (35, I_ (t2.Edges.length : Int)), (38, I_ (t0.Edges.length : Int)), (43, I_ (t2.Nodes.length : Int)), (44, I_ x9), (71, AL 1 z01 t2.Edges), (72, I_ (t2.Edges.length : Int)), (73, I_ x27)], hp [], 0⟩) [] [] [] q (.same q (.s6 q q q q q q (.s6 q q q q q q (.s6 q q q q q q .nil)))) .nil q q (fun E28 hE28 x27 => ?_)
  refine Jq q <| z1o q q q <| R0 <| Js <| z09 q (fun h40 => ?_) (fun h40 => ?_)
  rotate_left
  · exact z1j q <| z0x <| Jq q <| Ra (I_ 0) q q <| Rt hΨ q q q
  refine z0e <| Js <| z0n <| Jq q <| Rm (I_ x27) q q <| z1b (fun h41 => ?_) (fun _ => z0u)
  refine z2k (cc := z01) z1w q q h41.1 h41.2 q <| z11 (I_ (nth t2.Edges x27)) z1t q q q <| Ra (I_ x27) q q <| Ra (I_ (nth t2.Edges x27)) q q <| R0 <| Js <| Jq q <| Rm (I_ (nth t2.Edges x27)) q q <| z1o q q q ?_
  refine Rm (z00 (decide ((nth t2.Edges x27) < 0))) q q <| z1b (fun h42 => ?_) (fun h42 => ?_)
  · refine Rk (z0v q q (dt h42)) <| Rk (z0v q q (dt h42)) <| Rk (z0v q q (dt h42)) <| Rk (z0v q q (dt h42)) <| Rk (z0v q q (dt h42)) <| z0k (z00 true) q (dt h42) q q <| R0 <| z1d q q <| Jq q ?_
    exact Ra (I_ 6) q q <| R0 <| z0x <| Jt hΨ (z18 q) q q
  refine Rm (I_ (nth t2.Edges x27)) q (g_f q q (df h42)) <| z0f ((cL 3 z0b) t1.Edges) z2r q q (g_f q q (df h42)) <| z11 (AL 3 z0b t1.Edges) z5o q q (g_f q q (df h42)) <| z1a (cc := z0b) il_27 q (g_f q q (df h42)) <| z3c q q (g_f q q (df h42)) <| z0h (z00 (decide ((t1.Edges.length : Int) ≤ (nth t2.Edges x27)))) q (df h42) q q <| R0 <| z09 q (fun h43 => ?_) (fun h43 => ?_)
  · exact Jq q <| Ra (I_ 6) q q <| R0 <| z0x <| Jt hΨ (z18 q) q q
  refine z0e <| Js <| z2g <| z0f ((cL 3 z0b) t0.Edges) z2r q q q <| z11 (AL 3 z0b t0.Edges) z5o q q q <| Rm (I_ x27) q q <| z1b (fun h44 => ?_) (fun _ => z0u)
  refine z2k (cc := z0b) el_27 q q h44.1 h44.2 q <| z14 (z0b (nth t0.Edges x27)) ag_77 q q q q <| z0f ((cL 3 z0b) t1.Edges) z2r q q q <| z11 (AL 3 z0b t1.Edges) z5o q q q <| Rm (I_ (nth t2.Edges x27)) q q <| z1b (fun h45 => ?_) (fun _ => z0u)
  refine z2k (cc := z0b) el_27 q q h45.1 h45.2 q <| z14 (z0b (nth t1.Edges (nth t2.Edges x27))) ag_77 q q q q <| z1x 0 _ z_77 q q <| z1x 1 _ z_77 q q <| z2p (z0i 0) (z0w (z0b (nth t0.Edges x27))) (z0b (nth t0.Edges x27)) sz_77 q .obj q q q q q q <| z2p (z0i 1) (z0w (z0b (nth t1.Edges (nth t2.Edges x27)))) (z0b (nth t1.Edges (nth t2.Edges x27))) sz_77 q .obj q q q q q q <| z1y (by kernel_rfl) <| Js <| Jq q ?_
  refine z24 (z0i 0) 0 z77 q .obj q q q <| z2b (z1f 0 0) (I_ ((nth t0.Edges x27).Type_)) z1t q .at q q q <| z24 (z0i 1) 0 z77 q .obj q q q <| z2b (z1f 1 0) (I_ ((nth t1.Edges (nth t2.Edges x27)).Type_)) z1t q .at q q q <| z2a q q q <| R0 <| z09 q (fun h46 => ?_) (fun h46 => ?_)
  · exact Jq q <| Ra (I_ 13) q q <| R0 <| z0x <| Jt hΨ (z18 q) q q
  refine z0e <| Js <| z2g <| z0f ((cL 1 z01) t2.Nodes) z6a q q q <| z11 (AL 1 z01 t2.Nodes) z1s q q q <| z24 (z0i 0) 1 zaf q .obj q q q <| z2b (z1f 0 1) (I_ ((nth t0.Edges x27).From)) z1t q .at q q q <| z1b (fun h47 => ?_) (fun _ => z0u)
  refine z2k (cc := z01) z1w q q h47.1 h47.2 q <| z11 (I_ (nth t2.Nodes ((nth t0.Edges x27).From))) z1t q q q <| z24 (z0i 1) 1 zaf q .obj q q q <| z2b (z1f 1 1) (I_ ((nth t1.Edges (nth t2.Edges x27)).From)) z1t q .at q q q <| z2a q q q <| Rm (z00 (decide (¬ ((nth t2.Nodes ((nth t0.Edges x27).From)) = (nth t1.Edges (nth t2.Edges x27)).From)))) q q <| z1b (fun h48 => ?_) (fun h48 => ?_)
  · refine Rk (z0v q q (dt h48)) <| Rk (z0v q q (dt h48)) <| Rk (z0v q q (dt h48)) <| Rk (z0v q q (dt h48)) <| Rk (z0v q q (dt h48)) <| Rk (z0v q q (dt h48)) <| Rk (z0v q q (dt h48)) <| Rk (z0v q q (dt h48)) <| Rk (z0v q q (dt h48)) <| z0k (z00 true) q (dt h48) q q ?_
    exact z1y (by kernel_rfl) <| z1d q q <| Jq q <| Ra (I_ 11) q q <| R0 <| z0x <| Jt hΨ (z18 q) q q
  refine z0f ((cL 1 z01) t2.Nodes) z6a q q (g_f q q (df h48)) <| z11 (AL 1 z01 t2.Nodes) z1s q q (g_f q q (df h48)) <| z24 (z0i 0) 2 zae q .obj q q (g_f q q (df h48)) <| z2b (z1f 0 2) (I_ ((nth t0.Edges x27).To)) z1t q .at q q (g_f q q (df h48)) <| z1b (fun h49 => ?_) (fun _ => z0u)
  refine z2k (cc := z01) z1w q q h49.1 h49.2 (g_f q q (df h48)) <| z11 (I_ (nth t2.Nodes ((nth t0.Edges x27).To))) z1t q q (g_f q q (df h48)) <| z24 (z0i 1) 2 zae q .obj q q (g_f q q (df h48)) <| z2b (z1f 1 2) (I_ ((nth t1.Edges (nth t2.Edges x27)).To)) z1t q .at q q (g_f q q (df h48)) <| z2a q q (g_f q q (df h48)) <| z0h (z00 (decide (¬ ((nth t2.Nodes ((nth t0.Edges x27).To)) = (nth t1.Edges (nth t2.Edges x27)).To)))) q (df h48) q q <| z1y (by kernel_rfl) <| z09 q (fun h50 => ?_) (fun h50 => ?_)
  · exact Jq q <| Ra (I_ 11) q q <| R0 <| z0x <| Jt hΨ (z18 q) q q
  exact z0e <| z0s <| z0o 35 (m := (t2.Edges.length : Int)) q fun q51 => z0o 11 (m := x27) q fun q52 => Jr q <| z1l (x27 + 1) q q (z0z (by omega) (by omega)) q <| Rm (I_ (x27 + 1)) q q <| R0 <| z41 <| Jc [] [] [] (hE28 (x27 + 1)) (.same q (.s6 q q q q q q (.s6 q q q q q q (.s6 q q q q q q .nil)))) .nil q q
theorem k_slices_Sort_int (t0 : (List Int)) (r : (List Int)) (hr : slices_Sort_int t0 = some r) : FnK PP 245 1 [(0, .row 3 1 (t0.map z01))] [z0i 0] [(0, .row 3 1 (r.map z01))] (z35 []) := sortK Tryz.slices_Sort_int Tryz.slices_Sort_int_none t0 r hr
theorem k_slices_Compact_int (t0 : (List Int)) (r : (List Int)) (hr : slices_Compact_int t0 = some r) : FnK PP 246 1 [(0, .row 3 1 (t0.map z01))] [z0i 0] [] (AL 1 z01 r) := compK Tryz.slices_Compact_int Tryz.slices_Compact_int_empty t0 r hr
theorem k_morphism_images (t0 : (List Int)) (r : Int) (hr : z73 t0 = some r) : FnP PP 232 [AL 1 z01 t0] (I_ r) := by
  refine Fo (fun (r : Int) => I_ r) Tryz.func232 q (n := 11) q q hr fun X hΨ => ?_
  refine Jq q <| Ra (I_ 0) q q <| R0 <| Jq q <| Rm (AL 1 z01 t0) q q <| z0d fun b1 h2 => r_callK [] [] [] [0] 1 [] [(0, .row 3 1 (b1.map z01))] (z0i 0) [AL 1 z01 t0] fn_20 (z4h _ _ h2) .nil q (.cons .same .nil) .nil (.cons q q q q (.row (NKC.flat _ _)) q q .nil) (.obj q q q) q q q <| Ra (z0i 0) q q ?_
  refine R0 <| Jq q <| Rm (z0i 0) q q <| z0d fun b3 h4 => r_callK [] [] [] [] 1 [(0, .row 3 1 (b1.map z01))] [(0, .row 3 1 (b3.map z01))] (z35 []) [z0i 0] fn_245 (k_slices_Sort_int _ _ h4) (.cons q .nil) q (.cons (.obj q q q) .nil) (.cons q q q q (.row (NKC.flat _ _)) q q .nil) (.cons q q q q (.row (NKC.flat _ _)) q q .nil) (.tup .nil) q q q <| R0 <| Jq q <| Rm (z0i 0) q q ?_
  exact z0d fun b5 h6 => r_callK [] [] [] [] 1 [(0, .row 3 1 (b3.map z01))] [] (AL 1 z01 b5) [z0i 0] fn_246 (k_slices_Compact_int _ _ h6) (.cons q .nil) q (.cons (.obj q q q) .nil) (.cons q q q q (.row (NKC.flat _ _)) q q .nil) .nil .same q q q <| z1a (cc := z01) z2m q q <| Ra (I_ (b5.length : Int)) q q <| Rt hΨ q q q
theorem k_morphism_Injective (t0 : z0p) (t1 : z0p) (t2 : z0t) (r : Bool) (hr : z4f t0 t1 t2 = some r) : FnP PP 194 [z0w (z07 t0), z0w (z07 t1), z0w (z0m t2)] (z00 r) := by
  refine Fo (fun (r : Bool) => z00 r) Tryz.func194 q (n := 30) q q hr fun X hΨ => ?_
  refine Jq q <| z17 (z0w (z07 t0)) q q <| z17 (z0w (z07 t1)) q q <| z17 (z0w (z0m t2)) q q <| Ra (z00 false) q q <| R0 <| Js <| z2g <| z14 (z07 t0) z4d q q q q ?_
  refine z14 (z07 t1) z4d q q q q <| z14 (z0m t2) ag_36 q q q q <| z0d fun b1 h2 => z0j _ fn_193 (k_morphism_Valid _ _ _ _ h2) q q <| z2y q q q <| Rm (z00 (decide (b1 = 0))) q q <| z1b (fun h3 => ?_) (fun h3 => ?_)
  rotate_left
  · refine Rk (z0y q q (df h3)) <| Rk (z0y q q (df h3)) <| Rk (z0y q q (df h3)) <| Rk (z0y q q (df h3)) <| Rk (z0y q q (df h3)) <| Rk (z0y q q (df h3)) <| Rk (z0y q q (df h3)) <| z0h (z00 false) q (df h3) q q <| Rm (z00 false) q q <| Rk (z0y q q q) ?_
    exact Rk (z0y q q q) <| Rk (z0y q q q) <| Rk (z0y q q q) <| Rk (z0y q q q) <| Rk (z0y q q q) <| Rk (z0y q q q) <| z0h (z00 false) q q q q <| Ra (z00 false) q q <| z1y (by kernel_rfl) <| Jt hΨ (z18 q) q q
  refine z0f ((cL 1 z01) t2.Nodes) z6a q q (g_t q q (dt h3)) <| z11 (AL 1 z01 t2.Nodes) z1s q q (g_t q q (dt h3)) <| z0d fun b4 h5 => z0j _ fn_232 (k_morphism_images _ _ h5) q (g_t q q (dt h3)) <| z0f ((cL 1 z01) t2.Nodes) z6a q q (g_t q q (dt h3)) <| z11 (AL 1 z01 t2.Nodes) z1s q q (g_t q q (dt h3)) <| z1a (cc := z01) z2m q (g_t q q (dt h3)) <| z2y q q (g_t q q (dt h3)) <| z0k (z00 (decide (b4 = (t2.Nodes.length : Int)))) q (dt h3) q q <| Rm (z00 (decide (b4 = (t2.Nodes.length : Int)))) q q ?_
  refine z1b (fun h6 => ?_) (fun h6 => ?_)
  rotate_left
  · refine Rk (z0y q q (df h6)) <| Rk (z0y q q (df h6)) <| Rk (z0y q q (df h6)) <| Rk (z0y q q (df h6)) <| Rk (z0y q q (df h6)) <| Rk (z0y q q (df h6)) <| Rk (z0y q q (df h6)) <| z0h (z00 false) q (df h6) q q <| Ra (z00 false) q q <| z1y (by kernel_rfl) ?_
    exact Jt hΨ (z18 q) q q
  refine z0f ((cL 1 z01) t2.Edges) z92 q q (g_t q q (dt h6)) <| z11 (AL 1 z01 t2.Edges) z1s q q (g_t q q (dt h6)) <| z0d fun b7 h8 => z0j _ fn_232 (k_morphism_images _ _ h8) q (g_t q q (dt h6)) <| z0f ((cL 1 z01) t2.Edges) z92 q q (g_t q q (dt h6)) <| z11 (AL 1 z01 t2.Edges) z1s q q (g_t q q (dt h6)) <| z1a (cc := z01) z2m q (g_t q q (dt h6)) <| z2y q q (g_t q q (dt h6)) <| z0k (z00 (decide (b7 = (t2.Edges.length : Int)))) q (dt h6) q q <| Ra (z00 (decide (b7 = (t2.Edges.length : Int)))) q q ?_
  exact z1y (by kernel_rfl) <| Jt hΨ (z18 q) q q
theorem k_rule_kept (t0 : z10) (r : Int) (hr : rule_kept t0 = some r) : FnP PP 153 [z0w (z0g t0)] (I_ r) := by
  refine Fo (fun (r : Int) => I_ r) Tryz.func153 q (n := 38) q q hr fun X hΨ => ?_
  refine Jq q <| z17 (z0w (z0g t0)) q q <| Ra (I_ 0) q q <| R0 <| Jq q <| z0f (z0a t0.Left) z6q q q q <| z0f (z07 t0.Left.Graph) z27 q q q <| z14 (z07 t0.Left.Graph) z4d q q q q ?_
  refine z0f (z1i t0.Keep) fo_41_3 q q q <| z14 (z1i t0.Keep) ag_35 q q q q <| z0d fun b1 h2 => z0j _ fn_192 (k_subgraph_Extract _ _ _ h2) q q <| Rm (z35 [z0w (z07 b1.1), z0w (z0m b1.2.1), I_ b1.2.2]) q q <| z20 (z0w (z07 b1.1)) q q q <| z20 (z0w (z0m b1.2.1)) q q q <| z20 (I_ b1.2.2) q q q <| z1x 0 _ z_29 q q <| z1x 1 _ z_36 q q ?_
  refine z2p (z0i 0) (z0w (z07 b1.1)) (z07 b1.1) sz_29 q .obj q q q q q q <| z2p (z0i 1) (z0w (z0m b1.2.1)) (z0m b1.2.1) sz_36 q .obj q q q q q q <| Ra (I_ b1.2.2) q q <| R0 <| Js <| Jq q <| Rm (I_ b1.2.2) q q <| z2a q q q <| R0 ?_
  refine z09 q (fun h3 => ?_) (fun h3 => ?_)
  · exact Jq q <| Rm (I_ b1.2.2) q q <| Ra (I_ b1.2.2) q q <| Rt hΨ q q q
  refine z0e <| Js <| Jq q <| z50 (z0i 0) (z07 b1.1) z4d q .obj q q q q <| z0f (z0a t0.Right) z3e q q q <| z0f (z07 t0.Right.Graph) z27 q q q <| z14 (z07 t0.Right.Graph) z4d q q q q <| z0f (z0m t0.Into) fo_41_4 q q q <| z14 (z0m t0.Into) ag_36 q q q q ?_
  refine z0d fun b4 h5 => z0j _ fn_193 (k_morphism_Valid _ _ _ _ h5) q q <| Ra (I_ b4) q q <| R0 <| Jq q <| Rm (I_ b4) q q <| z2a q q q <| R0 <| z09 q (fun h6 => ?_) (fun h6 => ?_)
  · exact Jq q <| Rm (I_ b4) q q <| Ra (I_ b4) q q <| Rt hΨ q q q
  refine z0e <| Js <| Jq q <| z50 (z0i 0) (z07 b1.1) z4d q .obj q q q q <| z0f (z0a t0.Right) z3e q q q <| z0f (z07 t0.Right.Graph) z27 q q q <| z14 (z07 t0.Right.Graph) z4d q q q q <| z0f (z0m t0.Into) fo_41_4 q q q <| z14 (z0m t0.Into) ag_36 q q q q ?_
  refine z0d fun b7 h8 => z0j _ fn_194 (k_morphism_Injective _ _ _ _ h8) q q <| z2x q q <| R0 <| z1v q (fun h9 => ?_) (fun h9 => ?_)
  · exact Jq q <| Ra (I_ 11) q q <| Rt hΨ q q q
  exact z0e <| Jq q <| Ra (I_ 0) q q <| Rt hΨ q q q
theorem k_rule_makable_1 (t0 : Int) (t1 : z06) (t2 : z0p) (r : Bool) (hr : z8a t0 t1 t2 = some r) : FnP PP 195 [I_ t0, z1r (z02 t1), z1r (z07 t2)] (z00 r) := by
  refine Fo (fun (r : Bool) => z00 r) Tryz.func195 q (n := 15) q q hr fun X hΨ => ?_
  refine Jq q <| Ra (z00 false) q q <| R0 <| Js <| z2g <| z0f ((cL 4 z03) t1.Nodes) z2i q q q <| z11 (AL 4 z03 t1.Nodes) z4z q q q <| z0f ((cL 1 z01) t2.Nodes) z29 q q q <| z11 (AL 1 z01 t2.Nodes) z1s q q q ?_
  refine Rm (I_ t0) q q <| z1b (fun h1 => ?_) (fun _ => z0u)
  refine z2k (cc := z01) z1w q q h1.1 h1.2 q <| z11 (I_ (nth t2.Nodes t0)) z1t q q q <| z1b (fun h2 => ?_) (fun _ => z0u)
  exact z2k (cc := z03) el_22 q q h2.1 h2.2 q <| z0f (z9e ((nth t1.Nodes (nth t2.Nodes t0)).Abstract)) fo_97_2 q q q <| z11 (z00 ((nth t1.Nodes (nth t2.Nodes t0)).Abstract)) sc_4 q q q <| Ra (z00 ((nth t1.Nodes (nth t2.Nodes t0)).Abstract)) q q <| z1y (by kernel_rfl) <| Jt hΨ (z18 q) q q
theorem k_slices_Reverse_int (t0 : (List Int)) (r : (List Int)) (hr : z6w t0 = some r) : FnK PP 200 1 [(0, .row 3 1 (t0.map z01))] [z0i 0] [(0, .row 3 1 (r.map z01))] (z35 []) := by
  refine Ko (fun (r : (List Int)) => [(0, .row 3 1 (r.map z01))]) (fun (r : (List Int)) => z35 []) Tryz.func200 q (n := 28) q (KBL.cons (KB.obj q) (inferInstance : KBL 1 [])).kb (InsOk.spec (.row q (NKC.flat _ _) .nil)) q hr fun X hΨ => ?_
  refine Jq q <| Rm (z0i 0) q q <| r_lenO (cc := z01) t0 z2m q q q <| z0d fun b1 h2 => z7z b1 q q (Option.some.inj h2) q <| Ra (I_ 0) q q <| Ra (I_ b1) q q <| R0 <| z0n ?_
  refine Jn (fun x3 => ⟨fr [(0, z0i 0), (2, I_ x3.2.1), (3, I_ x3.2.2)], hp [(0, .row 3 1 (x3.1.map z01))], 1⟩) [] [] [] q (.cons (A := z0i 0) q (.obj q q q) (.s2 q q .nil)) (.cons q q q q (.row (NKC.flat _ _)) q q .nil) q q (fun E4 hE4 x3 => ?_)
  refine Js <| Jq q <| Rm (I_ x3.2.1) q q <| Rm (I_ x3.2.2) q q <| z1o q q q <| R0 <| z09 q (fun h10 => ?_) (fun h10 => ?_)
  rotate_left
  · exact z1j q <| z0x <| J_endK hΨ (Res_none q) [] [] [] q (fun y hy => by cases hy; exact ⟨(.cons q q q q (.row (NKC.flat _ _)) q q .nil), (.tup .nil)⟩)
  refine z0e <| Js <| z0n <| z2g <| Rm (z0i 0) q q <| Rm (I_ x3.2.1) q q <| Rm (z0i 0) q q <| Rm (I_ x3.2.2) q q <| Rm (z0i 0) q q <| Rm (I_ x3.2.2) q q ?_
  refine z1b (fun h11 => ?_) (fun _ => z0u)
  refine r_ixO (cc := z01) z1w q q q h11.1 h11.2 q <| r_ldR (cc := z01) x3.2.2 0 (I_ (nth x3.1 x3.2.2)) z1t q q h11.1 h11.2 q q <| Rm (z0i 0) q q <| Rm (I_ x3.2.1) q q <| z1b (fun h12 => ?_) (fun _ => z0u)
  refine r_ixO (cc := z01) z1w q q q h12.1 h12.2 q <| r_ldR (cc := z01) x3.2.1 0 (I_ (nth x3.1 x3.2.1)) z1t q q h12.1 h12.2 q q <| r_ixO (cc := z01) z1w q q q h12.1 h12.2 q <| r_stR (cc := z01) x3.2.1 0 (I_ (nth x3.1 x3.2.2)) (nth x3.1 x3.2.2) sz_3 q q q h12.1 h12.2 q q q q <| z1b (fun h13 => ?_) (fun _ => z0u)
  refine r_ixO (cc := z01) z1w q q q h13.1 h13.2 q <| r_stR (cc := z01) x3.2.2 0 (I_ (nth x3.1 x3.2.1)) (nth x3.1 x3.2.1) sz_3 q q q h13.1 h13.2 q q q q <| z1y (by kernel_rfl) <| z0s <| z0o 3 (m := x3.2.2) q fun q14 => z0o 2 (m := x3.2.1) q fun q15 => Jr q <| Rm (I_ x3.2.1) q q <| z1l (x3.2.1 + 1) q q (z0z (by omega) (by omega)) q <| Rm (I_ x3.2.2) q q ?_
  exact z7z (x3.2.2 - 1) q q (z0z (by omega) (by omega)) q <| Ra (I_ (x3.2.1 + 1)) q q <| Ra (I_ (x3.2.2 - 1)) q q <| R0 <| z41 <| Jc [] [] [] (hE4 (((x3.1.set x3.2.1.toNat (nth x3.1 x3.2.2)).set x3.2.2.toNat (nth x3.1 x3.2.1)), x3.2.1 + 1, x3.2.2 - 1)) (.cons (A := z0i 0) q (.obj q q q) (.s2 q q .nil)) (.cons q q q q (.row (NKC.flat _ _)) q q .nil) q q
theorem k_types_line (t0 : z06) (t1 : Int) (r : (List Int)) (hr : types_line t0 t1 = some r) : FnP PP 159 [z0w (z02 t0), I_ t1] (AL 1 z01 r) := by
  refine Fo (fun (r : (List Int)) => AL 1 z01 r) Tryz.func159 q (n := 21) q q hr fun X hΨ => ?_
  refine Jq q <| z17 (z0w (z02 t0)) q q <| Ra (z1m) q q <| R0 <| Jq q <| Ra (z1m) q q <| R0 <| Js ?_
  refine z0n <| Jn (fun x1 => ⟨fr [(1, I_ x1.1), (2, z1r (z02 t0)), (5, z0i 0)], hp [(0, .row 3 1 (x1.2.map z01))], 1⟩) [] [] [0] q (.s2 q q (.cons (A := z1m) q (.nilobj q q) .nil)) (.new q q .nil) q q (fun E2 hE2 x1 => ?_)
  refine Js <| Jq q <| Rm (I_ x1.1) q q <| z3c q q q <| R0 <| z09 q (fun h5 => ?_) (fun h5 => ?_)
  rotate_left
  · refine z1j q <| z7w <| Jq q <| Rm (z0i 0) q q <| z0d fun b8 h9 => r_callK [] [] [] [] 1 [(0, .row 3 1 (x1.2.map z01))] [(0, .row 3 1 (b8.map z01))] (z35 []) [z0i 0] fn_200 (k_slices_Reverse_int _ _ h9) (.cons q .nil) q (.cons (.obj q q q) .nil) (.cons q q q q (.row (NKC.flat _ _)) q q .nil) (.cons q q q q (.row (NKC.flat _ _)) q q .nil) (.tup .nil) q q q <| R0 <| Jq q ?_
    exact Rm (z0i 0) q q <| Ra (z0i 0) q q <| R0 <| z3g hΨ (z4r q (.tmp (A := z0i 0) q)) (fun y hy => by cases hy; exact (.frow q q (NKC.flat _ _)))
  refine z0e <| Js <| z0n <| Jr q <| Rm (z0i 0) q q <| Rm (I_ x1.1) q q <| r_bs (cc := z01) [x1.1] z1w zr_3_1 (.cons (A := I_ x1.1) q q q .nil) q q q <| z1b (fun h6 => ?_) (fun _ => z0u)
  refine r_app (cc := z01) (xs := x1.2) (ys := [x1.1]) 1 ap_26 q q q h6 q q q <| Ra (z0i 1) q q <| R0 <| z0s <| Jr q <| z0f ((cL 4 z03) t0.Nodes) z2i q q q <| z11 (AL 4 z03 t0.Nodes) z4z q q q <| Rm (I_ x1.1) q q <| z1b (fun h7 => ?_) (fun _ => z0u)
  exact z2k (cc := z03) el_22 q q h7.1 h7.2 q <| z0f (z01 ((nth t0.Nodes x1.1).Parent)) fo_97_1 q q q <| z11 (I_ ((nth t0.Nodes x1.1).Parent)) z1t q q q <| Ra (I_ ((nth t0.Nodes x1.1).Parent)) q q <| R0 <| z41 <| Jc [] [(0, 1)] [] (hE2 ((nth t0.Nodes x1.1).Parent, (x1.2 ++ [x1.1]))) (.s2 q q (.cons (A := z0i 1) q (.obj q q q) .nil)) (.cons q q q q (.row (NKC.flat _ _)) q q .nil) q q
theorem k_types_is (t0 : z06) (t1 : Int) (t2 : Int) (r : Bool) (hr : types_is t0 t1 t2 = some r) : FnP PP 107 [z0w (z02 t0), I_ t1, I_ t2] (z00 r) := by
  refine Fo (fun (r : Bool) => z00 r) Tryz.func107 q (n := 12) q q hr fun X hΨ => ?_
  refine Jq q <| z17 (z0w (z02 t0)) q q <| Ra (z00 false) q q <| R0 <| Jq q <| z14 (z02 t0) z2j q q q q <| Rm (I_ t1) q q <| z0d fun b1 h2 => ?_
  exact z0j _ fn_159 (k_types_line _ _ _ h2) q q <| Rm (I_ t2) q q <| z0d fun b3 h4 => z0j _ fn_158 (k_slices_Contains_int _ _ _ h4) q q <| Ra (z00 b3) q q <| Rt hΨ q q q
theorem k_types_Fits (t0 : z06) (t1 : Int) (t2 : Int) (t3 : Int) (r : Bool) (hr : z97 t0 t1 t2 t3 = some r) : FnP PP 87 [z0w (z02 t0), I_ t1, I_ t2, I_ t3] (z00 r) := by
  refine Fo (fun (r : Bool) => z00 r) Tryz.func87 q (n := 46) q q hr fun X hΨ => ?_
  refine Jq q <| z17 (z0w (z02 t0)) q q <| Ra (z00 false) q q <| R0 <| Js <| Jq q <| z14 (z02 t0) z2j q q q q <| Rm (I_ t2) q q ?_
  refine Rm (I_ t3) q q <| r_bs (cc := z01) [t2, t3] z1w zr_3_2 (.cons (A := I_ t2) q q q (.cons (A := I_ t3) q q q .nil)) q q q <| z0d fun b1 h2 => z0j _ fn_106 (k_types_given _ _ _ h2) q q <| z2a q q q <| Rm (z00 (decide (¬ (b1 = 0)))) q q <| z1b (fun h3 => ?_) (fun h3 => ?_)
  · refine Rk (z0v q q (dt h3)) <| Rk (z0v q q (dt h3)) <| z0k (z00 true) q (dt h3) q q <| Rm (z00 true) q q <| Rk (z0v q q q) <| Rk (z0v q q q) <| Rk (z0v q q q) <| Rk (z0v q q q) <| Rk (z0v q q q) <| z0k (z00 true) q q q q ?_
    exact R0 <| z1d q q <| Jq q <| Ra (z00 false) q q <| Rt hΨ q q q
  refine Rm (I_ t1) q (g_f q q (df h3)) <| z1o q q (g_f q q (df h3)) <| z0h (z00 (decide (t1 < 0))) q (df h3) q q <| Rm (z00 (decide (t1 < 0))) q q <| z1b (fun h4 => ?_) (fun h4 => ?_)
  · refine Rk (z0v q q (dt h4)) <| Rk (z0v q q (dt h4)) <| Rk (z0v q q (dt h4)) <| Rk (z0v q q (dt h4)) <| Rk (z0v q q (dt h4)) <| z0k (z00 true) q (dt h4) q q <| R0 <| z1d q q <| Jq q ?_
    exact Ra (z00 false) q q <| Rt hΨ q q q
  refine Rm (I_ t1) q (g_f q q (df h4)) <| z0f ((cL 7 z0c) t0.Edges) z3w q q (g_f q q (df h4)) <| z11 (AL 7 z0c t0.Edges) sc_23 q q (g_f q q (df h4)) <| z1a (cc := z0c) il_23 q (g_f q q (df h4)) <| z3c q q (g_f q q (df h4)) <| z0h (z00 (decide ((t0.Edges.length : Int) ≤ t1))) q (df h4) q q <| R0 <| z09 q (fun h5 => ?_) (fun h5 => ?_)
  · exact Jq q <| Ra (z00 false) q q <| Rt hΨ q q q
  refine z0e <| Js <| z2g <| z14 (z02 t0) z2j q q q q <| Rm (I_ t2) q q <| z0f ((cL 7 z0c) t0.Edges) z3w q q q <| z11 (AL 7 z0c t0.Edges) sc_23 q q q <| Rm (I_ t1) q q <| z1b (fun h6 => ?_) (fun _ => z0u)
  refine z2k (cc := z0c) el_23 q q h6.1 h6.2 q <| z0f (z01 ((nth t0.Edges t1).From)) fo_102_1 q q q <| z11 (I_ ((nth t0.Edges t1).From)) z1t q q q <| z0d fun b7 h8 => z0j _ fn_107 (k_types_is _ _ _ _ h8) q q <| Rm (z00 b7) q q <| z1b (fun h9 => ?_) (fun h9 => ?_)
  rotate_left
  · refine Rk (z0y q q (bf h9)) <| Rk (z0y q q (bf h9)) <| Rk (z0y q q (bf h9)) <| Rk (z0y q q (bf h9)) <| Rk (z0y q q (bf h9)) <| Rk (z0y q q (bf h9)) <| Rk (z0y q q (bf h9)) <| Rk (z0y q q (bf h9)) <| Rk (z0y q q (bf h9)) <| z0h (z00 false) q (bf h9) q q ?_
    exact Ra (z00 false) q q <| z1y (by kernel_rfl) <| Jt hΨ (z18 q) q q
  refine z14 (z02 t0) z2j q q q (g_t q q h9) <| Rm (I_ t3) q (g_t q q h9) <| z0f ((cL 7 z0c) t0.Edges) z3w q q (g_t q q h9) <| z11 (AL 7 z0c t0.Edges) sc_23 q q (g_t q q h9) <| Rm (I_ t1) q (g_t q q h9) <| z2k (cc := z0c) el_23 q q h6.1 h6.2 (g_t q q h9) <| z0f (z01 ((nth t0.Edges t1).To)) fo_102_2 q q (g_t q q h9) <| z11 (I_ ((nth t0.Edges t1).To)) z1t q q (g_t q q h9) <| z0d fun b10 h11 => z0j _ fn_107 (k_types_is _ _ _ _ h11) q (g_t q q h9) ?_
  exact z0k (z00 b10) q h9 q q <| Ra (z00 b10) q q <| z1y (by kernel_rfl) <| Jt hΨ (z18 q) q q
theorem k_rule_makable_2 (t0 : Int) (t1 : z0p) (t2 : z06) (r : Bool) (hr : z89 t0 t1 t2 = some r) : FnP PP 196 [I_ t0, z1r (z07 t1), z1r (z02 t2)] (z00 r) := by
  refine Fo (fun (r : Bool) => z00 r) Tryz.func196 q (n := 28) q q hr fun X hΨ => ?_
  refine Jq q <| Ra (z00 false) q q <| R0 <| Jq q <| z0f ((cL 3 z0b) t1.Edges) z2r q q q <| z11 (AL 3 z0b t1.Edges) z5o q q q <| Rm (I_ t0) q q <| z1b (fun h1 => ?_) (fun _ => z0u)
  refine z2k (cc := z0b) el_27 q q h1.1 h1.2 q <| z14 (z0b (nth t1.Edges t0)) ag_77 q q q q <| z1x 0 _ z_77 q q <| z2p (z0i 0) (z0w (z0b (nth t1.Edges t0))) (z0b (nth t1.Edges t0)) sz_77 q .obj q q q q q q <| R0 <| Js <| z2g <| z14 (z02 t2) z2j q q q q <| z24 (z0i 0) 0 z77 q .obj q q q <| z2b (z1f 0 0) (I_ ((nth t1.Edges t0).Type_)) z1t q .at q q q ?_
  refine z0f ((cL 1 z01) t1.Nodes) z29 q q q <| z11 (AL 1 z01 t1.Nodes) z1s q q q <| z24 (z0i 0) 1 zaf q .obj q q q <| z2b (z1f 0 1) (I_ ((nth t1.Edges t0).From)) z1t q .at q q q <| z1b (fun h2 => ?_) (fun _ => z0u)
  refine z2k (cc := z01) z1w q q h2.1 h2.2 q <| z11 (I_ (nth t1.Nodes ((nth t1.Edges t0).From))) z1t q q q <| z0f ((cL 1 z01) t1.Nodes) z29 q q q <| z11 (AL 1 z01 t1.Nodes) z1s q q q <| z24 (z0i 0) 2 zae q .obj q q q <| z2b (z1f 0 2) (I_ ((nth t1.Edges t0).To)) z1t q .at q q q <| z1b (fun h3 => ?_) (fun _ => z0u)
  exact z2k (cc := z01) z1w q q h3.1 h3.2 q <| z11 (I_ (nth t1.Nodes ((nth t1.Edges t0).To))) z1t q q q <| z0d fun b4 h5 => z0j _ fn_87 (k_types_Fits _ _ _ _ _ h5) q q <| z2x q q <| Ra (z00 (!b4)) q q <| z1y (by kernel_rfl) <| Jt hΨ (z18 q) q q
theorem k_rule_makable (t0 : z06) (t1 : z0p) (t2 : (List Int)) (t3 : (List Int)) (r : Bool) (hr : rule_makable t0 t1 t2 t3 = some r) : FnP PP 154 [z0w (z02 t0), z0w (z07 t1), AL 1 z01 t2, AL 1 z01 t3] (z00 r) := by
  refine Fo (fun (r : Bool) => z00 r) Tryz.func154 q (n := 19) q q hr fun X hΨ => ?_
  refine Jq q <| z17 (z0w (z02 t0)) q q <| z17 (z0w (z07 t1)) q q <| Ra (z00 false) q q <| R0 <| Jq q <| Rm (AL 1 z01 t2) q q <| r_mkFn [z1r (z02 t0), z1r (z07 t1)] (fun x => [I_ x]) (fun y => z00 y) (fun x => z8a x t0 t1) fn_195 q (fun x y h => k_rule_makable_1 x t0 t1 y h) q ?_
  refine z0d fun b1 h2 => z0j _ fn_82 (z2q _ _ _ h2) q q <| z2x q q <| Rm (z00 (!b1)) q q <| z1b (fun h3 => ?_) (fun h3 => ?_)
  rotate_left
  · exact Rk (z0y q q (bf h3)) <| Rk (z0y q q (bf h3)) <| Rk (z0y q q (bf h3)) <| Rk (z0y q q (bf h3)) <| z0h (z00 false) q (bf h3) q q <| Ra (z00 false) q q <| Rt hΨ q q q
  exact Rm (AL 1 z01 t3) q (g_t q q h3) <| r_mkFn [z1r (z07 t1), z1r (z02 t0)] (fun x => [I_ x]) (fun y => z00 y) (fun x => z89 x t1 t0) fn_196 q (fun x y h => k_rule_makable_2 x t1 t0 y h) (g_t q q h3) <| z0d fun b4 h5 => z0j _ fn_82 (z2q _ _ _ h5) q (g_t q q h3) <| z2x q (g_t q q h3) <| z0k (z00 (!b4)) q h3 q q <| Ra (z00 (!b4)) q q <| Rt hΨ q q q
theorem k_condition_bare (t0 : z05) (r : Bool) (hr : z6m t0 = some r) : FnP PP 247 [z0w (z04 t0)] (z00 r) := by
  refine Fo (fun (r : Bool) => z00 r) Tryz.func247 q (n := 39) q q hr fun X hΨ => ?_
  refine Jq q <| z17 (z0w (z04 t0)) q q <| Ra (z00 false) q q <| R0 <| Jq q <| z0f (z0a t0.Pattern) fo_39_3 q q q <| z14 (z0a t0.Pattern) ag_33 q q q q <| z1x 0 _ z_33 q q ?_
  refine z2p (z0i 0) (z0w (z0a t0.Pattern)) (z0a t0.Pattern) sz_33 q .obj q q q q q q <| R0 <| Jq q <| z0f (z0m t0.Map) fo_39_2 q q q <| z0f ((cL 1 z01) t0.Map.Nodes) z6a q q q <| z11 (AL 1 z01 t0.Map.Nodes) z1s q q q <| z1a (cc := z01) z2m q q <| z0f (z0m t0.Map) fo_39_2 q q q <| z0f ((cL 1 z01) t0.Map.Edges) z92 q q q ?_
  refine z11 (AL 1 z01 t0.Map.Edges) z1s q q q <| z1a (cc := z01) z2m q q <| z0d fun b1 h2 => z1l b1 q q (Option.some.inj h2) q <| z24 (z0i 0) 0 z27 q .obj q q q <| z24 (z1f 0 0) 0 z29 q .at q q q <| z2b (z1f 0 0) (AL 1 z01 t0.Pattern.Graph.Nodes) z1s q .at q q q <| z1a (cc := z01) z2m q q <| z0d fun b3 h4 => z1l b3 q q (Option.some.inj h4) q ?_
  refine z24 (z0i 0) 0 z27 q .obj q q q <| z24 (z1f 0 0) 1 z2r q .at q q q <| z2b (z1f 0 1) (AL 3 z0b t0.Pattern.Graph.Edges) z5o q .at q q q <| z1a (cc := z0b) il_27 q q <| z0d fun b5 h6 => z1l b5 q q (Option.some.inj h6) q <| z24 (z0i 0) 2 z55 q .obj q q q <| z2b (z1f 0 2) (AL 4 z0l t0.Pattern.Slots) sc_30 q .at q q q <| z1a (cc := z0l) il_30 q q <| z0d fun b7 h8 => ?_
  refine z1l b7 q q (Option.some.inj h8) q <| z24 (z0i 0) 4 fo_33_3 q .obj q q q <| z2b (z1f 0 4) (AL 5 z13 t0.Pattern.Tests) sc_31 q .at q q q <| z1a (cc := z13) il_31 q q <| z0d fun b9 h10 => z1l b9 q q (Option.some.inj h10) q <| z2y q q q <| Rm (z00 (decide (b9 = 0))) q q <| z1b (fun h11 => ?_) (fun h11 => ?_)
  · exact z24 (z0i 0) 3 z4q q .obj q q (g_t q q (dt h11)) <| z2b (z1f 0 3) (I_ t0.Pattern.Vars) z1t q .at q q (g_t q q (dt h11)) <| z2y q q (g_t q q (dt h11)) <| z0k (z00 (decide (t0.Pattern.Vars = 0))) q (dt h11) q q <| Ra (z00 (decide (t0.Pattern.Vars = 0))) q q <| Rt hΨ q q q
  exact Rk (z0y q q (df h11)) <| Rk (z0y q q (df h11)) <| Rk (z0y q q (df h11)) <| z0h (z00 false) q (df h11) q q <| Ra (z00 false) q q <| Rt hΨ q q q
theorem k_slices_IndexFunc_api_Condition (t0 : (List z05)) (t1 : (z05 → Option Bool)) (r : Int) (hr : z48 t0 t1 = some r) : FnP PP 257 [AL 9 z04 t0, AFn PP (fun x => [z0w (z04 x)]) (fun y => z00 y) t1] (I_ r) := by
  refine Fo (fun (r : Int) => I_ r) Tryz.func257 q (n := 19) q q hr fun X hΨ => ?_
  refine Jq q <| Ra (I_ 0) q q <| R0 <| Js <| Jq q <| Rm (AL 9 z04 t0) q q <| z1a (cc := z04) il_37 q q <| Rm (I_ 0) q q ?_
  refine R0 <| z0n <| Jl (fun x1 => [(0, AL 9 z04 t0), (1, AFn PP (fun x => [z0w (z04 x)]) (fun y => z00 y) t1), (7, I_ (t0.length : Int)), (8, I_ x1)]) (.cons q (.c3 q q q .nil)) (fun E2 hE2 x1 => ?_)
  refine Jq q <| z1o q q q <| R0 <| Js <| z09 q (fun h8 => ?_) (fun h8 => ?_)
  rotate_left
  · exact z1j q <| z0x <| Jq q <| Ra (I_ (-1)) q q <| Rt hΨ q q q
  refine z0e <| Js <| z0n <| Jq q <| Rm (I_ x1) q q <| Ra (I_ x1) q q <| R0 <| Jq q ?_
  refine Rm (AFn PP (fun x => [z0w (z04 x)]) (fun y => z00 y) t1) q q <| Rm (AL 9 z04 t0) q q <| Rm (I_ x1) q q <| z1b (fun h9 => ?_) (fun _ => z0u)
  refine z2k (cc := z04) el_37 q q h9.1 h9.2 q <| z14 (z04 (nth t0 x1)) zaj q q q q <| z0d fun b10 h11 => za6 (ga := (fun x => [z0w (z04 x)])) (rt := (fun y => z00 y)) (gg := t1) (u := (nth t0 x1)) (w := b10) q q h11 (NK.nk) q <| R0 <| z1v q (fun h12 => ?_) (fun h12 => ?_)
  · exact Jq q <| Rm (I_ x1) q q <| Ra (I_ x1) q q <| R0 <| z0x <| Jt hΨ (z18 q) q q
  exact z0e <| z0s <| z0o 7 (m := (t0.length : Int)) q fun q13 => z0o 5 (m := x1) q fun q14 => Jr q <| z1l (x1 + 1) q q (z0z (by omega) (by omega)) q <| Rm (I_ (x1 + 1)) q q <| R0 <| z41 <| Jk (hE2 (x1 + 1)) (.cons q (.c3 q q q .nil))
theorem z91 (t0 : (List z05)) (t1 : (z05 → Option Bool)) (r : Bool) (hr : z31 t0 t1 = some r) : FnP PP 248 [AL 9 z04 t0, AFn PP (fun x => [z0w (z04 x)]) (fun y => z00 y) t1] (z00 r) := by
  refine Fo (fun (r : Bool) => z00 r) Tryz.func248 q (n := 9) q q hr fun X hΨ => ?_
  refine Jq q <| Ra (z00 false) q q <| R0 <| Jq q <| Rm (AL 9 z04 t0) q q <| Rm (AFn PP (fun x => [z0w (z04 x)]) (fun y => z00 y) t1) q q <| z0d fun b1 h2 => z0j _ fn_257 (k_slices_IndexFunc_api_Condition _ _ _ h2) q q ?_
  exact z3c q q q <| Ra (z00 (decide (0 ≤ b1))) q q <| Rt hΨ q q q
theorem k_condition_wellFormed_b (q_condition_wellFormed : z05 → Option Bool) (hq_condition_wellFormed : ∀ (t0 : z05) (r : Bool), q_condition_wellFormed t0 = some r → FnP PP 233 [z0w (z04 t0)] (z00 r)) (q_condition_wellFormed_1 : z05 → Option Bool) (hq_condition_wellFormed_1 : ∀ (t0 : z05) (r : Bool), q_condition_wellFormed_1 t0 = some r → FnP PP 249 [z0w (z04 t0)] (z00 r)) (t0 : z05) (r : Bool) (hr : z30 q_condition_wellFormed q_condition_wellFormed_1 t0 = some r) : FnP PP 233 [z0w (z04 t0)] (z00 r) := by
  refine Fo (fun (r : Bool) => z00 r) Tryz.func233 q (n := 46) q q hr fun X hΨ => ?_
  refine Jq q <| z17 (z0w (z04 t0)) q q <| Ra (z00 false) q q <| R0 <| Jq q <| z0f (z25 t0.Kids) z81 q q q <| z11 (AL 9 z04 t0.Kids) sc_37 q (z21 _) q <| z1a (cc := z04) il_37 q q ?_
  refine Ra (I_ (t0.Kids.length : Int)) q q <| R0 <| Jq q <| Ra (z00 false) q q <| R0 <| Js <| Jq q <| z0f (z01 t0.Kind) fo_39_0 q q q ?_
  refine z11 (I_ t0.Kind) z1t q q q <| R0 <| z0n <| Jq q <| z2y q q q <| Ra (z00 (decide (t0.Kind = 1))) q q <| R0 ?_
  apply z2w (fun v34 => ⟨fr [(1, z1r (z04 t0)), (4, z00 v34), (9, I_ t0.Kind)], fun _ => none, 0⟩) (fun v34 => z32 q_condition_wellFormed_1 t0 v34)
  · intro K35
    refine z09 q (fun h1 => ?_) (fun h1 => ?_)
    · apply z2w (fun v5 => ⟨fr [(1, z1r (z04 t0)), (3, I_ (t0.Kids.length : Int)), (4, z00 v5), (7, I_ (t0.Kids.length : Int)), (9, I_ t0.Kind), (12, I_ (t0.Kids.length : Int))], fun _ => none, 0⟩) (fun v5 => z3p q_condition_wellFormed_1 t0 v5)
      · intro K6
        refine Jr q <| Rm (I_ (t0.Kids.length : Int)) q q <| z2y q q q <| Rm (z00 (decide ((t0.Kids.length : Int) = 0))) q q <| z1b (fun h2 => ?_) (fun h2 => ?_)
        rotate_left
        · exact Rk (z0y q q (df h2)) <| Rk (z0y q q (df h2)) <| z0h (z00 false) q (df h2) q q <| Ra (z00 false) q q <| R0 <| Jk (K6 false) (.c6 q q q q q q .nil)
        exact z14 (z04 t0) zaj q q q (g_t q q (dt h2)) <| z0d fun b3 h4 => z0j _ fn_247 (k_condition_bare _ _ h4) q (g_t q q (dt h2)) <| z0k (z00 b3) q (dt h2) q q <| Ra (z00 b3) q q <| R0 <| Jk (K6 b3) (.c6 q q q q q q .nil)
      intro v5
      exact Jk (K35 v5) (.c3 q q q .nil)
    refine Jq q <| z2y q q q <| Ra (z00 (decide (t0.Kind = 2))) q q <| R0 ?_
    apply z2w (fun v32 => ⟨fr [(1, z1r (z04 t0)), (4, z00 v32), (9, I_ t0.Kind)], fun _ => none, 0⟩) (fun v32 => z33 q_condition_wellFormed_1 t0 v32)
    · intro K33
      refine z09 q (fun h7 => ?_) (fun h7 => ?_)
      · apply z2w (fun v11 => ⟨fr [(1, z1r (z04 t0)), (3, I_ (t0.Kids.length : Int)), (4, z00 v11), (7, I_ (t0.Kids.length : Int)), (9, I_ t0.Kind), (20, I_ (t0.Kids.length : Int))], fun _ => none, 0⟩) (fun v11 => z3l q_condition_wellFormed_1 t0 v11)
        · intro K12
          refine Jr q <| Rm (I_ (t0.Kids.length : Int)) q q <| z2y q q q <| Rm (z00 (decide ((t0.Kids.length : Int) = 1))) q q <| z1b (fun h8 => ?_) (fun h8 => ?_)
          rotate_left
          · exact Rk (z0y q q (df h8)) <| Rk (z0y q q (df h8)) <| z0h (z00 false) q (df h8) q q <| Ra (z00 false) q q <| R0 <| Jk (K12 false) (.c6 q q q q q q .nil)
          exact z14 (z04 t0) zaj q q q (g_t q q (dt h8)) <| z0d fun b9 h10 => z0j _ fn_247 (k_condition_bare _ _ h10) q (g_t q q (dt h8)) <| z0k (z00 b9) q (dt h8) q q <| Ra (z00 b9) q q <| R0 <| Jk (K12 b9) (.c6 q q q q q q .nil)
        intro v11
        exact Jk (K33 v11) (.c3 q q q .nil)
      refine Js <| Jq q <| z2y q q q <| Ra (z00 (decide (t0.Kind = 3))) q q <| R0 ?_
      apply z2w (fun v19 => ⟨fr [(1, z1r (z04 t0)), (3, I_ (t0.Kids.length : Int)), (4, z00 false), (9, I_ t0.Kind), (26, z00 v19)], fun _ => none, 0⟩) (fun v19 => z3k q_condition_wellFormed_1 t0 v19)
      · intro K31
        refine z09 q (fun h13 => ?_) (fun h13 => ?_)
        · exact z0e <| Jk (K31 (decide (t0.Kind = 3))) (.c2 q q (.c3 q q q .nil))
        exact Jr q <| z2y q q q <| Ra (z00 (decide (t0.Kind = 4))) q q <| R0 <| Jk (K31 (decide (t0.Kind = 4))) (.c2 q q (.c3 q q q .nil))
      intro v19
      apply z2w (fun v29 => ⟨fr [(1, z1r (z04 t0)), (4, z00 v29), (9, I_ t0.Kind)], fun _ => none, 0⟩) (fun v29 => z3h q_condition_wellFormed_1 t0 v29)
      · intro K30
        refine z1v q (fun h20 => ?_) (fun h20 => ?_)
        rotate_left
        · refine Jq q <| z2y q q q <| Ra (z00 (decide (t0.Kind = 5))) q q <| R0 ?_
          apply z2w (fun v27 => ⟨fr [(1, z1r (z04 t0)), (4, z00 v27), (9, I_ t0.Kind)], fun _ => none, 0⟩) (fun v27 => z3i q_condition_wellFormed_1 t0 v27)
          · intro K28
            refine z09 q (fun h26 => ?_) (fun h26 => ?_)
            rotate_left
            · exact z0e <| Jk (K28 false) (.c3 q q q .nil)
            exact Jr q <| Rm (I_ (t0.Kids.length : Int)) q q <| z2y q q q <| Ra (z00 (decide ((t0.Kids.length : Int) = 1))) q q <| R0 <| Jk (K28 (decide ((t0.Kids.length : Int) = 1))) (.c3 q q q .nil)
          intro v27
          exact Jk (K30 v27) (.c3 q q q .nil)
        apply z2w (fun v24 => ⟨fr [(1, z1r (z04 t0)), (3, I_ (t0.Kids.length : Int)), (4, z00 v24), (9, I_ t0.Kind), (29, I_ (t0.Kids.length : Int))], fun _ => none, 0⟩) (fun v24 => z3j q_condition_wellFormed_1 t0 v24)
        · intro K25
          refine Jr q <| Rm (I_ (t0.Kids.length : Int)) q q <| z3c q q q <| Rm (z00 (decide (1 ≤ (t0.Kids.length : Int)))) q q <| z1b (fun h21 => ?_) (fun h21 => ?_)
          rotate_left
          · exact Rk (z0y q q (df h21)) <| Rk (z0y q q (df h21)) <| z0h (z00 false) q (df h21) q q <| Ra (z00 false) q q <| R0 <| Jk (K25 false) (.c2 q q (.c3 q q q .nil))
          exact z14 (z04 t0) zaj q q q (g_t q q (dt h21)) <| z0d fun b22 h23 => z0j _ fn_247 (k_condition_bare _ _ h23) q (g_t q q (dt h21)) <| z0k (z00 b22) q (dt h21) q q <| Ra (z00 b22) q q <| R0 <| Jk (K25 b22) (.c2 q q (.c3 q q q .nil))
        intro v24
        exact Jk (K30 v24) (.c3 q q q .nil)
      intro v29
      exact Jk (K33 v29) (.c3 q q q .nil)
    intro v32
    exact Jk (K35 v32) (.c3 q q q .nil)
  intro v34
  refine z0s <| Jq q <| Rm (z00 v34) q q <| Rm (z00 v34) q q <| z1b (fun h36 => ?_) (fun h36 => ?_)
  rotate_left
  · exact Rk (z0y q q (bf h36)) <| Rk (z0y q q (bf h36)) <| Rk (z0y q q (bf h36)) <| Rk (z0y q q (bf h36)) <| z0h (z00 false) q (bf h36) q q <| Ra (z00 false) q q <| Rt hΨ q q q
  exact z0f (z25 t0.Kids) z81 q q (g_t q q h36) <| z11 (AL 9 z04 t0.Kids) sc_37 q (z21 _) (g_t q q h36) <| z0d fun b37 h38 => r_callB [] [AL 9 z04 t0.Kids, z3n 249 []] fn_248 (z91 _ _ _ h38) .nil q (.cons .same (.cons (.cloFn fn_249 (fun x y h => hq_condition_wellFormed_1 x y h)) .nil)) (g_t q q h36) <| z2x q (g_t q q h36) <| z0k (z00 (!b37)) q h36 q q <| Ra (z00 (!b37)) q q <| Rt hΨ q q q
theorem k_condition_wellFormed_1_b (q_condition_wellFormed : z05 → Option Bool) (hq_condition_wellFormed : ∀ (t0 : z05) (r : Bool), q_condition_wellFormed t0 = some r → FnP PP 233 [z0w (z04 t0)] (z00 r)) (q_condition_wellFormed_1 : z05 → Option Bool) (hq_condition_wellFormed_1 : ∀ (t0 : z05) (r : Bool), q_condition_wellFormed_1 t0 = some r → FnP PP 249 [z0w (z04 t0)] (z00 r)) (t0 : z05) (r : Bool) (hr : z2v q_condition_wellFormed q_condition_wellFormed_1 t0 = some r) : FnP PP 249 [z0w (z04 t0)] (z00 r) := by
  refine Fo (fun (r : Bool) => z00 r) Tryz.func249 q (n := 6) q q hr fun X hΨ => ?_
  refine Jq q <| z17 (z0w (z04 t0)) q q <| Ra (z00 false) q q <| R0 <| Jq q <| z14 (z04 t0) zaj q q q q <| z0d fun b1 h2 => z0j _ fn_233 (hq_condition_wellFormed _ _ h2) q q ?_
  exact z2x q q <| Ra (z00 (!b1)) q q <| Rt hΨ q q q
theorem condition_wellFormed_n_ok : ∀ n, (∀ (t0 : z05) (r : Bool), (z12 n).1 t0 = some r → FnP PP 233 [z0w (z04 t0)] (z00 r)) ∧ (∀ (t0 : z05) (r : Bool), (z12 n).2 t0 = some r → FnP PP 249 [z0w (z04 t0)] (z00 r)) := by
  intro n
  induction n with
  | zero => exact ⟨(fun _ _ h => by cases h), (fun _ _ h => by cases h)⟩
  | succ n ih => exact ⟨(fun a0 r h => k_condition_wellFormed_b _ ih.1 _ ih.2 a0 r h), (fun a0 r h => k_condition_wellFormed_1_b _ ih.1 _ ih.2 a0 r h)⟩
theorem k_condition_wellFormed (t0 : z05) (r : Bool) (hr : z82 t0 = some r) : FnP PP 233 [z0w (z04 t0)] (z00 r) := by
  obtain ⟨n, hn⟩ := Ev_some hr
  exact (condition_wellFormed_n_ok n).1 t0 r hn
theorem k_condition_measure_b (q_condition_measure : z05 → Option (Int × Int)) (hq_condition_measure : ∀ (t0 : z05) (r : Int × Int), q_condition_measure t0 = some r → FnP PP 234 [z0w (z04 t0)] (z35 [I_ r.1, I_ r.2])) (t0 : z05) (r : Int × Int) (hr : z94 q_condition_measure t0 = some r) : FnP PP 234 [z0w (z04 t0)] (z35 [I_ r.1, I_ r.2]) := by
  refine Fo (fun (r : Int × Int) => z35 [I_ r.1, I_ r.2]) Tryz.func234 q (n := 36) q q hr fun X hΨ => ?_
  refine Jq q <| z17 (z0w (z04 t0)) q q <| Ra (I_ 0) q q <| Ra (I_ 0) q q <| R0 <| Jq q <| Ra (I_ 1) q q <| Ra (I_ 0) q q ?_
  refine R0 <| Js <| Jq q <| z0f (z25 t0.Kids) z81 q q q <| z11 (AL 9 z04 t0.Kids) sc_37 q (z21 _) q <| z1a (cc := z04) il_37 q q <| Rm (I_ 0) q q <| R0 <| z0n ?_
  refine Jn (fun x1 => ⟨fr [(1, z1r (z04 t0)), (4, I_ x1.1), (5, I_ x1.2.1), (11, AL 9 z04 t0.Kids), (12, I_ (t0.Kids.length : Int)), (13, I_ x1.2.2)], hp [], 0⟩) [] [] [] q (.s6 q q q q q q .nil) .nil q q (fun E2 hE2 x1 => ?_)
  refine Jq q <| z1o q q q <| R0 <| Js <| z09 q (fun h9 => ?_) (fun h9 => ?_)
  rotate_left
  · refine z1j q <| z7w <| Js <| Jq q <| z0f (z01 t0.Kind) fo_39_0 q q q <| z11 (I_ t0.Kind) z1t q q q <| z2y q q q <| R0 ?_
    apply z2w (fun v20 => ⟨fr [(4, I_ x1.1), (5, I_ v20), (12, I_ (t0.Kids.length : Int)), (13, I_ x1.2.2), (30, I_ t0.Kind)], hp [], 0⟩) (fun v20 => z79 x1 v20)
    · intro K21
      refine z09 q (fun h17 => ?_) (fun h17 => ?_)
      rotate_left
      · exact z0e <| Jc [] [] [] (K21 x1.2.1) (.s2 q q (.s3 q q q .nil)) .nil q q
      exact Jr q <| Rm (I_ x1.2.1) q q <| z0d fun b18 h19 => z1l b18 q q (Option.some.inj h19) q <| Ra (I_ b18) q q <| R0 <| Jc [] [] [] (K21 b18) (.s2 q q (.s3 q q q .nil)) .nil q q
    intro v20
    exact Jq q <| Rm (I_ x1.1) q q <| Rm (I_ v20) q q <| Ra (I_ x1.1) q q <| Ra (I_ v20) q q <| R0 <| Jt hΨ (z16 (As := [I_ x1.1, I_ v20]) q q (.cons (.tmp (A := I_ x1.1) q) (.cons (.tmp (A := I_ v20) q) .nil))) q q
  refine z0e <| Js <| z0n <| Jq q <| z1b (fun h10 => ?_) (fun _ => z0u)
  refine z2k (cc := z04) el_37 q q h10.1 h10.2 q <| z14 (z04 (nth t0.Kids x1.2.2)) zaj q q q q <| z1x 0 _ z_39 q q <| z2p (z0i 0) (z0w (z04 (nth t0.Kids x1.2.2))) (z04 (nth t0.Kids x1.2.2)) sz_39 q .obj q q q q q q <| R0 <| Jq q <| z50 (z0i 0) (z04 (nth t0.Kids x1.2.2)) zaj q .obj q q q q <| z0d fun b11 h12 => z0j _ fn_234 (hq_condition_measure _ _ h12) q q ?_
  refine Rm (z35 [I_ b11.1, I_ b11.2]) q q <| z20 (I_ b11.1) q q q <| z20 (I_ b11.2) q q q <| Ra (I_ b11.1) q q <| Ra (I_ b11.2) q q <| R0 <| Jr q <| Rm (I_ x1.1) q q <| Rm (I_ b11.1) q q <| z0d fun b13 h14 => ?_
  refine z1l b13 q q (Option.some.inj h14) q <| Rm (I_ x1.2.1) q q <| Rm (I_ b11.2) q q <| r_max q q q <| Ra (I_ b13) q q <| Ra (I_ (if x1.2.1 < b11.2 then b11.2 else x1.2.1)) q q <| R0 <| z0s <| z0o 12 (m := (t0.Kids.length : Int)) q fun q15 => z0o 13 (m := x1.2.2) q fun q16 => ?_
  exact Jr q <| z1l (x1.2.2 + 1) q q (z0z (by omega) (by omega)) q <| Rm (I_ (x1.2.2 + 1)) q q <| R0 <| z41 <| Jc [] [] [] (hE2 (b13, (if x1.2.1 < b11.2 then b11.2 else x1.2.1), x1.2.2 + 1)) (.s6 q q q q q q .nil) .nil q q
theorem condition_measure_n_ok : ∀ n, (∀ (t0 : z05) (r : Int × Int), (z40 n) t0 = some r → FnP PP 234 [z0w (z04 t0)] (z35 [I_ r.1, I_ r.2])) := by
  intro n
  induction n with
  | zero => exact (fun _ _ h => by cases h)
  | succ n ih => exact (fun a0 r h => k_condition_measure_b _ ih a0 r h)
theorem k_condition_measure (t0 : z05) (r : Int × Int) (hr : z7v t0 = some r) : FnP PP 234 [z0w (z04 t0)] (z35 [I_ r.1, I_ r.2]) := by
  obtain ⟨n, hn⟩ := Ev_some hr
  exact (condition_measure_n_ok n) t0 r hn
theorem k_condition_shape (t0 : z05) (r : Int) (hr : zah t0 = some r) : FnP PP 197 [z0w (z04 t0)] (I_ r) := by
  refine Fo (fun (r : Int) => I_ r) Tryz.func197 q (n := 19) q q hr fun X hΨ => ?_
  refine Jq q <| z17 (z0w (z04 t0)) q q <| Ra (I_ 0) q q <| R0 <| Js <| Jq q <| z14 (z04 t0) zaj q q q q <| z0d fun b1 h2 => ?_
  refine z0j _ fn_233 (k_condition_wellFormed _ _ h2) q q <| z2x q q <| R0 <| z1v q (fun h3 => ?_) (fun h3 => ?_)
  · exact Jq q <| Ra (I_ 1) q q <| Rt hΨ q q q
  refine z0e <| Js <| Jq q <| z14 (z04 t0) zaj q q q q <| z0d fun b4 h5 => z0j _ fn_234 (k_condition_measure _ _ h5) q q <| Rm (z35 [I_ b4.1, I_ b4.2]) q q <| z20 (I_ b4.1) q q q <| z20 (I_ b4.2) q q q ?_
  refine Ra (I_ b4.1) q q <| Ra (I_ b4.2) q q <| R0 <| Jq q <| Rm (I_ b4.1) q q <| z3a q q q <| Rm (z00 (decide (12 < b4.1))) q q <| z1b (fun h6 => ?_) (fun h6 => ?_)
  · exact Rk (z0v q q (dt h6)) <| Rk (z0v q q (dt h6)) <| z0k (z00 true) q (dt h6) q q <| R0 <| z1d q q <| Jq q <| Ra (I_ 3) q q <| Rt hΨ q q q
  refine Rm (I_ b4.2) q (g_f q q (df h6)) <| z3a q q (g_f q q (df h6)) <| z0h (z00 (decide (3 < b4.2))) q (df h6) q q <| R0 <| z09 q (fun h7 => ?_) (fun h7 => ?_)
  · exact Jq q <| Ra (I_ 3) q q <| Rt hΨ q q q
  exact z0e <| Jq q <| Ra (I_ 0) q q <| Rt hΨ q q q
theorem k_condition_pattern_1 (t0 : z38) (t1 : Int) (r : Bool) (hr : z6d t0 t1 = some r) : FnP PP 250 [z0w (z0l t0), z1r (z01 t1)] (z00 r) := by
  refine Fo (fun (r : Bool) => z00 r) Tryz.func250 q (n := 9) q q hr fun X hΨ => ?_
  refine Jq q <| z17 (z0w (z0l t0)) q q <| Ra (z00 false) q q <| R0 <| Jq q <| z0f (z2s t0.Term) z6b q q q <| z0f (z01 t0.Term.Var) z5l q q q <| z11 (I_ t0.Term.Var) z1t q q q ?_
  exact z11 (I_ t1) z1t q q q <| z2y q q q <| Ra (z00 (decide (t0.Term.Var = t1))) q q <| Rt hΨ q q q
theorem k_condition_pattern (t0 : z06) (t1 : z0q) (t2 : Int) (r : Int) (hr : z7u t0 t1 t2 = some r) : FnP PP 235 [z0w (z02 t0), z0w (z0a t1), I_ t2] (I_ r) := by
  refine Fo (fun (r : Int) => I_ r) Tryz.func235 q (n := 29) q q hr fun X hΨ => ?_
  refine Jq q <| z17 (z0w (z02 t0)) q q <| z17 (z0w (z0a t1)) q q <| Ra (I_ 0) q q <| R0 <| Jq q <| z14 (z02 t0) z2j q q q q <| z14 (z0a t1) ag_33 q q q q ?_
  refine z0d fun b1 h2 => z0j _ fn_151 (k_attribute_Valid _ _ _ h2) q q <| Ra (I_ b1) q q <| R0 <| Js <| Jq q <| Rm (I_ b1) q q <| z2a q q q <| R0 ?_
  refine z09 q (fun h3 => ?_) (fun h3 => ?_)
  · exact Jq q <| Rm (I_ b1) q q <| Ra (I_ b1) q q <| Rt hΨ q q q
  refine z0e <| Js <| Jq q <| Rm (I_ t2) q q <| z1x 0 _ z_3 q q <| z2p (z0i 0) (I_ t2) (z01 t2) sz_3 q .obj q q q q q q <| R0 <| z0n <| Jn (fun x4 => ⟨fr [(4, z1r (z0a t1)), (7, I_ b1), (8, z0i 0), (11, I_ b1), (12, I_ b1)], hp [(0, .box 3 (z01 x4))], 1⟩) [] [] [] q (.s2 q q (.cons (A := z0i 0) q (.obj q q q) (.s2 q q .nil))) (.cons q q q q (.box (.cons .same .nil)) q q .nil) q q (fun E5 hE5 x4 => ?_)
  refine Js <| Jq q <| z2b (z0i 0) (I_ x4) z1t q .obj q q q <| z0f (z01 t1.Vars) z4q q q q <| z11 (I_ t1.Vars) z1t q q q <| z1o q q q <| R0 <| z09 q (fun h12 => ?_) (fun h12 => ?_)
  rotate_left
  · exact z1j q <| z0x <| Jq q <| Ra (I_ 0) q q <| Rt hΨ q q q
  refine z0e <| Js <| z0n <| Js <| J_cv [0] [] [] 0 [(4, z1r (z0a t1)), (7, I_ b1), (8, z1r (z01 x4)), (11, I_ b1), (12, I_ b1), (16, I_ x4), (18, I_ t1.Vars)] [] (.same q (.same q (.cons (A := z0i 0) q (.fbox q q (.cons .same .nil)) (.same q (.same q (.same q (.same q .nil))))))) .nil q q <| Jr q <| z0f ((cL 4 z0l) t1.Slots) z55 q q q <| z11 (AL 4 z0l t1.Slots) sc_30 q q q <| r_mkFn [z1r (z01 x4)] (fun x => [z0w (z0l x)]) (fun y => z00 y) (fun x => z6d x x4) fn_250 q (fun x y h => k_condition_pattern_1 x x4 y h) q <| z0d fun b13 h14 => ?_
  refine z0j _ fn_228 (z5z _ _ _ h14) q q <| z2x q q <| R0 <| z1v q (fun h15 => ?_) (fun h15 => ?_)
  · exact Jq q <| Rm (I_ b1) q q <| Ra (I_ b1) q q <| R0 <| z0x <| Jt hΨ (z18 q) q q
  refine z0e <| z0s <| Js <| Jq q <| z11 (I_ x4) z1t q q q <| R0 <| Jr q <| z1x 0 _ z_3 q q <| z2p (z0i 0) (I_ x4) (z01 x4) sz_3 q .obj q q q q q q ?_
  exact R0 <| z0o 18 (m := t1.Vars) q fun q16 => z0o 16 (m := x4) q fun q17 => Jr q <| z2b (z0i 0) (I_ x4) z1t q .obj q q q <| z1l (x4 + 1) q q (z0z (by omega) (by omega)) q <| z2p (z0i 0) (I_ (x4 + 1)) (z01 (x4 + 1)) sz_3 q .obj q q q q q q <| R0 <| z41 <| Jc [] [] [] (hE5 (x4 + 1)) (.s2 q q (.cons (A := z0i 0) q (.obj q q q) (.s2 q q .nil))) (.cons q q q q (.box (.cons .same .nil)) q q .nil) q q
theorem k_condition_inside_b (q_condition_inside : z06 → z0q → z05 → Option Int) (hq_condition_inside : ∀ (t0 : z06) (t1 : z0q) (t2 : z05) (r : Int), q_condition_inside t0 t1 t2 = some r → FnP PP 198 [z0w (z02 t0), z0w (z0a t1), z0w (z04 t2)] (I_ r)) (t0 : z06) (t1 : z0q) (t2 : z05) (r : Int) (hr : z3q q_condition_inside t0 t1 t2 = some r) : FnP PP 198 [z0w (z02 t0), z0w (z0a t1), z0w (z04 t2)] (I_ r) := by
  refine Fo (fun (r : Int) => I_ r) Tryz.func198 q (n := 65) q q hr fun X hΨ => ?_
  refine Jq q <| z17 (z0w (z02 t0)) q q <| r_boxO 0 (z0w (z0a t1)) q q q <| z17 (z0w (z04 t2)) q q <| Ra (I_ 0) q q <| R0 <| Js <| Jq q ?_
  refine z0f (z01 t2.Kind) fo_39_0 q q q <| z11 (I_ t2.Kind) z1t q q q <| z2y q q q <| R0 ?_
  apply z2w (fun v26 => ⟨fr [(3, z1r (z02 t0)), (4, z0i 0), (5, z1r (z04 t2)), (6, I_ 0), (14, I_ t2.Kind)], hp [(0, .box 33 (z0a v26))], 1⟩) (fun v26 => z3r q_condition_inside t0 t2 v26)
  · intro K41
    refine z09 q (fun h1 => ?_) (fun h1 => ?_)
    rotate_left
    · exact z0e <| Jc [] [] [] (K41 t1) (.same q (.cons (A := z0i 0) q (.obj q q q) (.s3 q q q .nil))) (.cons q q q q (.box (CvL.sames)) q q .nil) q q
    refine Jq q <| z0f (z0a t2.Pattern) fo_39_3 q q q <| z14 (z0a t2.Pattern) ag_33 q q q q <| z1x 1 _ z_33 q q <| z2p (z0i 1) (z0w (z0a t2.Pattern)) (z0a t2.Pattern) sz_33 q .obj q q q q q q <| R0 <| Js <| Jq q ?_
    refine z24 (z0i 1) 3 z4q q .obj q q q <| z2b (z1f 1 3) (I_ t2.Pattern.Vars) z1t q .at q q q <| z24 (z0i 0) 3 z4q q .obj q q q <| z2b (z1f 0 3) (I_ t1.Vars) z1t q .at q q q <| z1o q q q <| R0 <| z09 q (fun h2 => ?_) (fun h2 => ?_)
    · exact Jq q <| Ra (I_ 20) q q <| Rt hΨ q q q
    refine z0e <| Js <| Jq q <| z14 (z02 t0) z2j q q q q <| z50 (z0i 1) (z0a t2.Pattern) ag_33 q .obj q q q q <| z24 (z0i 0) 3 z4q q .obj q q q <| z2b (z1f 0 3) (I_ t1.Vars) z1t q .at q q q <| z0d fun b3 h4 => z0j _ fn_235 (k_condition_pattern _ _ _ _ h4) q q ?_
    refine Ra (I_ b3) q q <| R0 <| Jq q <| Rm (I_ b3) q q <| z2a q q q <| R0 <| z09 q (fun h5 => ?_) (fun h5 => ?_)
    · exact Jq q <| Rm (I_ b3) q q <| Ra (I_ b3) q q <| Rt hΨ q q q
    refine z0e <| Js <| Jq q <| z24 (z0i 0) 0 z27 q .obj q q q <| z50 (z1f 0 0) (z07 t1.Graph) z4d q .at q q q q <| z24 (z0i 1) 0 z27 q .obj q q q <| z50 (z1f 1 0) (z07 t2.Pattern.Graph) z4d q .at q q q q <| z0f (z0m t2.Map) fo_39_2 q q q <| z14 (z0m t2.Map) ag_36 q q q q ?_
    refine z0d fun b6 h7 => z0j _ fn_193 (k_morphism_Valid _ _ _ _ h7) q q <| Ra (I_ b6) q q <| R0 <| Jq q <| Rm (I_ b6) q q <| z2a q q q <| R0 <| z09 q (fun h8 => ?_) (fun h8 => ?_)
    · exact Jq q <| Rm (I_ b6) q q <| Ra (I_ b6) q q <| Rt hΨ q q q
    refine z0e <| Js <| Jq q <| z24 (z0i 0) 0 z27 q .obj q q q <| z50 (z1f 0 0) (z07 t1.Graph) z4d q .at q q q q <| z24 (z0i 1) 0 z27 q .obj q q q <| z50 (z1f 1 0) (z07 t2.Pattern.Graph) z4d q .at q q q q <| z0f (z0m t2.Map) fo_39_2 q q q <| z14 (z0m t2.Map) ag_36 q q q q ?_
    refine z0d fun b9 h10 => z0j _ fn_194 (k_morphism_Injective _ _ _ _ h10) q q <| z2x q q <| R0 <| z1v q (fun h11 => ?_) (fun h11 => ?_)
    · exact Jq q <| Ra (I_ 1) q q <| Rt hΨ q q q
    exact z0e <| Jr q <| z50 (z0i 1) (z0a t2.Pattern) ag_33 q .obj q q q q <| z2p (z0i 0) (z0w (z0a t2.Pattern)) (z0a t2.Pattern) sz_33 q .obj q q q q q q <| R0 <| Jc [] [] [] (K41 t2.Pattern) (.same q (.cons (A := z0i 0) q (.obj q q q) (.s3 q q q .nil))) (.cons q q q q (.box (CvL.sames)) q q .nil) q q
  intro v26
  refine Js <| Jq q <| z0f (z25 t2.Kids) z81 q q q <| z11 (AL 9 z04 t2.Kids) sc_37 q (z21 _) q <| z1a (cc := z04) il_37 q q <| Rm (I_ 0) q q <| R0 <| z0n <| Jn (fun x27 => ⟨fr [(3, z1r (z02 t0)), (4, z0i 0), (51, AL 9 z04 t2.Kids), (52, I_ (t2.Kids.length : Int)), (53, I_ x27)], hp [(0, .box 33 (z0a v26))], 1⟩) [] [] [] q (.same q (.cons (A := z0i 0) q (.obj q q q) (.s3 q q q .nil))) (.cons q q q q (.box (CvL.sames)) q q .nil) q q (fun E28 hE28 x27 => ?_)
  refine Jq q <| z1o q q q <| R0 <| Js <| z09 q (fun h34 => ?_) (fun h34 => ?_)
  rotate_left
  · exact z1j q <| z0x <| Jq q <| Ra (I_ 0) q q <| Rt hΨ q q q
  refine z0e <| Js <| z0n <| Jq q <| z1b (fun h35 => ?_) (fun _ => z0u)
  refine z2k (cc := z04) el_37 q q h35.1 h35.2 q <| z14 (z04 (nth t2.Kids x27)) zaj q q q q <| z1x 1 _ z_39 q q <| z2p (z0i 1) (z0w (z04 (nth t2.Kids x27))) (z04 (nth t2.Kids x27)) sz_39 q .obj q q q q q q <| R0 <| Jq q <| z14 (z02 t0) z2j q q q q <| z50 (z0i 0) (z0a v26) ag_33 q .obj q q q q <| z50 (z0i 1) (z04 (nth t2.Kids x27)) zaj q .obj q q q q ?_
  refine z0d fun b36 h37 => z0j _ fn_198 (hq_condition_inside _ _ _ _ h37) q q <| Ra (I_ b36) q q <| R0 <| Jq q <| Rm (I_ b36) q q <| z2a q q q <| R0 <| z09 q (fun h38 => ?_) (fun h38 => ?_)
  · exact Jq q <| Rm (I_ b36) q q <| Ra (I_ b36) q q <| R0 <| z0x <| Jt hΨ (z18 q) q q
  exact z0e <| z0s <| z0o 52 (m := (t2.Kids.length : Int)) q fun q39 => z0o 53 (m := x27) q fun q40 => Jr q <| z1l (x27 + 1) q q (z0z (by omega) (by omega)) q <| Rm (I_ (x27 + 1)) q q <| R0 <| z41 <| Jc [] [] [] (hE28 (x27 + 1)) (.same q (.cons (A := z0i 0) q (.obj q q q) (.s3 q q q .nil))) (.cons q q q q (.box (CvL.sames)) q q .nil) q q
theorem condition_inside_n_ok : ∀ n, (∀ (t0 : z06) (t1 : z0q) (t2 : z05) (r : Int), (z2n n) t0 t1 t2 = some r → FnP PP 198 [z0w (z02 t0), z0w (z0a t1), z0w (z04 t2)] (I_ r)) := by
  intro n
  induction n with
  | zero => exact (fun _ _ _ _ h => by cases h)
  | succ n ih => exact (fun a0 a1 a2 r h => k_condition_inside_b _ ih a0 a1 a2 r h)
theorem k_condition_inside (t0 : z06) (t1 : z0q) (t2 : z05) (r : Int) (hr : condition_inside t0 t1 t2 = some r) : FnP PP 198 [z0w (z02 t0), z0w (z0a t1), z0w (z04 t2)] (I_ r) := by
  obtain ⟨n, hn⟩ := Ev_some hr
  exact (condition_inside_n_ok n) t0 t1 t2 r hn
theorem k_condition_Valid (t0 : z06) (t1 : z0q) (t2 : z05) (r : Int) (hr : zai t0 t1 t2 = some r) : FnP PP 155 [z0w (z02 t0), z0w (z0a t1), z0w (z04 t2)] (I_ r) := by
  refine Fo (fun (r : Int) => I_ r) Tryz.func155 q (n := 24) q q hr fun X hΨ => ?_
  refine Jq q <| z17 (z0w (z02 t0)) q q <| z17 (z0w (z0a t1)) q q <| z17 (z0w (z04 t2)) q q <| Ra (I_ 0) q q <| R0 <| Js <| Jq q ?_
  refine z14 (z02 t0) z2j q q q q <| z14 (z0a t1) ag_33 q q q q <| z0d fun b1 h2 => z0j _ fn_151 (k_attribute_Valid _ _ _ h2) q q <| Ra (I_ b1) q q <| R0 <| Jq q <| Rm (I_ b1) q q <| z2a q q q ?_
  refine R0 <| z09 q (fun h3 => ?_) (fun h3 => ?_)
  · exact Jq q <| Rm (I_ b1) q q <| Ra (I_ b1) q q <| Rt hΨ q q q
  refine z0e <| Js <| Jq q <| z14 (z04 t2) zaj q q q q <| z0d fun b4 h5 => z0j _ fn_197 (k_condition_shape _ _ h5) q q <| Ra (I_ b4) q q <| R0 <| Js ?_
  refine Jr q <| Rm (I_ b4) q q <| z2a q q q <| R0 <| z09 q (fun h6 => ?_) (fun h6 => ?_)
  · exact Jq q <| Rm (I_ b4) q q <| Ra (I_ b4) q q <| Rt hΨ q q q
  refine z0e <| Jq q <| z14 (z02 t0) z2j q q q q <| z14 (z0a t1) ag_33 q q q q <| z14 (z04 t2) zaj q q q q <| z0d fun b7 h8 => z0j _ fn_198 (k_condition_inside _ _ _ _ h8) q q <| Ra (I_ b7) q q <| R0 ?_
  exact Jt hΨ (z18 q) q q
theorem k_rule_Valid (t0 : z06) (t1 : z10) (r : Int) (hr : rule_Valid t0 t1 = some r) : FnP PP 103 [z0w (z02 t0), z0w (z0g t1)] (I_ r) := by
  refine Fo (fun (r : Int) => I_ r) Tryz.func103 q (n := 61) q q hr fun X hΨ => ?_
  refine Jq q <| z17 (z0w (z02 t0)) q q <| z17 (z0w (z0g t1)) q q <| Ra (I_ 0) q q <| R0 <| Js <| Jq q <| z14 (z02 t0) z2j q q q q ?_
  refine z0d fun b1 h2 => z0j _ fn_31 (za7 _ _ h2) q q <| Rm (z35 [z1h b1.1, I_ b1.2]) q q <| z20 (z1h b1.1) q q q <| z20 (I_ b1.2) q q q <| Ra (z1h b1.1) q q <| Ra (I_ b1.2) q q <| R0 <| Jq q ?_
  refine Rm (I_ b1.2) q q <| z2a q q q <| R0 <| z09 q (fun h3 => ?_) (fun h3 => ?_)
  · exact Jq q <| Rm (I_ b1.2) q q <| Ra (I_ b1.2) q q <| Rt hΨ q q q
  refine z0e <| Js <| Jq q <| z0f (z23 t1.Name) fo_41_0 q q q <| z11 (z1h t1.Name) sc_9 q q q <| z0d fun b4 h5 => z0j _ fn_94 (z8d _ _ h5) q q <| z2x q q <| R0 ?_
  refine z1v q (fun h6 => ?_) (fun h6 => ?_)
  · exact Jq q <| Ra (I_ 2) q q <| Rt hΨ q q q
  refine z0e <| Js <| Jq q <| z14 (z02 t0) z2j q q q q <| z0f (z0a t1.Left) z6q q q q <| z14 (z0a t1.Left) ag_33 q q q q <| z0d fun b7 h8 => z0j _ fn_151 (k_attribute_Valid _ _ _ h8) q q <| Ra (I_ b7) q q ?_
  refine R0 <| Jq q <| Rm (I_ b7) q q <| z2a q q q <| R0 <| z09 q (fun h9 => ?_) (fun h9 => ?_)
  · exact Jq q <| Rm (I_ b7) q q <| Ra (I_ b7) q q <| Rt hΨ q q q
  refine z0e <| Js <| Jq q <| z14 (z02 t0) z2j q q q q <| z14 (z0g t1) ag_41 q q q q <| z0d fun b10 h11 => z0j _ fn_152 (k_rule_right _ _ _ h11) q q <| Ra (I_ b10) q q <| R0 ?_
  refine Jq q <| Rm (I_ b10) q q <| z2a q q q <| R0 <| z09 q (fun h12 => ?_) (fun h12 => ?_)
  · exact Jq q <| Rm (I_ b10) q q <| Ra (I_ b10) q q <| Rt hΨ q q q
  refine z0e <| Js <| Jq q <| z14 (z0g t1) ag_41 q q q q <| z0d fun b13 h14 => z0j _ fn_153 (k_rule_kept _ _ h14) q q <| Ra (I_ b13) q q <| R0 <| Js ?_
  refine Jr q <| Rm (I_ b13) q q <| z2a q q q <| R0 <| z09 q (fun h15 => ?_) (fun h15 => ?_)
  · exact Jq q <| Rm (I_ b13) q q <| Ra (I_ b13) q q <| Rt hΨ q q q
  refine z0e <| Jq q <| z14 (z0g t1) ag_41 q q q q <| z0d fun b16 h17 => z0j _ fn_105 (k_rule_created _ _ h17) q q <| Rm (z35 [AL 1 z01 b16.1, AL 1 z01 b16.2]) q q <| z20 (AL 1 z01 b16.1) q q q <| z20 (AL 1 z01 b16.2) q q q <| Ra (AL 1 z01 b16.1) q q ?_
  refine Ra (AL 1 z01 b16.2) q q <| R0 <| Js <| Jq q <| z14 (z02 t0) z2j q q q q <| z0f (z0a t1.Right) z3e q q q <| z0f (z07 t1.Right.Graph) z27 q q q <| z14 (z07 t1.Right.Graph) z4d q q q q <| Rm (AL 1 z01 b16.1) q q ?_
  refine Rm (AL 1 z01 b16.2) q q <| z0d fun b18 h19 => z0j _ fn_154 (k_rule_makable _ _ _ _ _ h19) q q <| z2x q q <| R0 <| z1v q (fun h20 => ?_) (fun h20 => ?_)
  · exact Jq q <| Ra (I_ 13) q q <| Rt hΨ q q q
  refine z0e <| Jq q <| z14 (z02 t0) z2j q q q q <| z0f (z0a t1.Left) z6q q q q <| z14 (z0a t1.Left) ag_33 q q q q <| z0f (z04 t1.Condition) fo_41_6 q q q <| z14 (z04 t1.Condition) zaj q q q q <| z0d fun b21 h22 => z0j _ fn_155 (k_condition_Valid _ _ _ _ h22) q q ?_
  exact Ra (I_ b21) q q <| Rt hΨ q q q
theorem k_rule_deleted (t0 : z10) (r : (List Int) × (List Int)) (hr : rule_deleted t0 = some r) : FnP PP 104 [z0w (z0g t0)] (z35 [AL 1 z01 r.1, AL 1 z01 r.2]) := by
  refine Fo (fun (r : (List Int) × (List Int)) => z35 [AL 1 z01 r.1, AL 1 z01 r.2]) Tryz.func104 q (n := 22) q q hr fun X hΨ => ?_
  refine Jq q <| z17 (z0w (z0g t0)) q q <| Ra (z1m) q q <| Ra (z1m) q q <| R0 <| Js <| z2g <| z0f (z1i t0.Keep) fo_41_3 q q q <| z0f ((cL 1 z01) t0.Keep.Nodes) z6r q q q ?_
  refine z11 (AL 1 z01 t0.Keep.Nodes) z1s q q q <| z0f (z0a t0.Left) z6q q q q <| z0f (z07 t0.Left.Graph) z27 q q q <| z0f ((cL 1 z01) t0.Left.Graph.Nodes) z29 q q q <| z11 (AL 1 z01 t0.Left.Graph.Nodes) z1s q q q <| z1a (cc := z01) z2m q q <| z0d fun b1 h2 => z0j _ fn_156 (k_rule_others _ _ _ h2) q q <| z0f (z1i t0.Keep) fo_41_3 q q q <| z0f ((cL 1 z01) t0.Keep.Edges) fo_35_1 q q q ?_
  refine z11 (AL 1 z01 t0.Keep.Edges) z1s q q q <| z0f (z0a t0.Left) z6q q q q <| z0f (z07 t0.Left.Graph) z27 q q q <| z0f ((cL 3 z0b) t0.Left.Graph.Edges) z2r q q q <| z11 (AL 3 z0b t0.Left.Graph.Edges) z5o q q q <| z1a (cc := z0b) il_27 q q <| z0d fun b3 h4 => z0j _ fn_156 (k_rule_others _ _ _ h4) q q <| Ra (AL 1 z01 b1) q q <| Ra (AL 1 z01 b3) q q ?_
  exact z1y (by kernel_rfl) <| Jt hΨ (z16 (As := [AL 1 z01 b1, AL 1 z01 b3]) q q (.cons (.tmp (A := AL 1 z01 b1) q) (.cons (.tmp (A := AL 1 z01 b3) q) .nil))) q q
theorem k_rule_Deleted (t0 : z06) (t1 : z10) (r : (List Int) × (List Int) × Int) (hr : rule_Deleted t0 t1 = some r) : FnP PP 62 [z0w (z02 t0), z0w (z0g t1)] (z35 [AL 1 z01 r.1, AL 1 z01 r.2.1, I_ r.2.2]) := by
  refine Fo (fun (r : (List Int) × (List Int) × Int) => z35 [AL 1 z01 r.1, AL 1 z01 r.2.1, I_ r.2.2]) Tryz.func62 q (n := 23) q q hr fun X hΨ => ?_
  refine Jq q <| z17 (z0w (z02 t0)) q q <| z17 (z0w (z0g t1)) q q <| Ra (z1m) q q <| Ra (z1m) q q <| Ra (I_ 0) q q <| R0 <| Js <| Js ?_
  refine Jr q <| z14 (z02 t0) z2j q q q q <| z14 (z0g t1) ag_41 q q q q <| z0d fun b1 h2 => z0j _ fn_103 (k_rule_Valid _ _ _ h2) q q <| Ra (I_ b1) q q <| R0 <| Jq q <| Rm (I_ b1) q q ?_
  refine z2a q q q <| R0 <| z09 q (fun h3 => ?_) (fun h3 => ?_)
  · exact Jq q <| Rm (I_ b1) q q <| Ra (z1m) q q <| Ra (z1m) q q <| Ra (I_ b1) q q <| R0 <| z3g hΨ (z16 (As := [z1m, z1m, I_ b1]) q q (.cons (.tmp (A := z1m) q) (.cons (.tmp (A := z1m) q) (.cons (.tmp (A := I_ b1) q) .nil)))) (fun y hy => by cases hy; exact (.tup (.cons .nil (.cons .nil (.cons .same .nil)))))
  refine z0e <| Jq q <| z14 (z0g t1) ag_41 q q q q <| z0d fun b4 h5 => z0j _ fn_104 (k_rule_deleted _ _ h5) q q <| Rm (z35 [AL 1 z01 b4.1, AL 1 z01 b4.2]) q q <| z20 (AL 1 z01 b4.1) q q q <| z20 (AL 1 z01 b4.2) q q q <| Ra (AL 1 z01 b4.1) q q ?_
  refine Ra (AL 1 z01 b4.2) q q <| R0 <| Jq q <| Rm (AL 1 z01 b4.1) q q <| Rm (AL 1 z01 b4.2) q q <| Ra (AL 1 z01 b4.1) q q <| Ra (AL 1 z01 b4.2) q q <| Ra (I_ 0) q q <| R0 ?_
  exact Jt hΨ (z16 (As := [AL 1 z01 b4.1, AL 1 z01 b4.2, I_ 0]) q q (.cons (.tmp (A := AL 1 z01 b4.1) q) (.cons (.tmp (A := AL 1 z01 b4.2) q) (.cons (.tmp (A := I_ 0) q) .nil)))) q q
theorem k_rule_Created (t0 : z06) (t1 : z10) (r : (List Int) × (List Int) × Int) (hr : rule_Created t0 t1 = some r) : FnP PP 63 [z0w (z02 t0), z0w (z0g t1)] (z35 [AL 1 z01 r.1, AL 1 z01 r.2.1, I_ r.2.2]) := by
  refine Fo (fun (r : (List Int) × (List Int) × Int) => z35 [AL 1 z01 r.1, AL 1 z01 r.2.1, I_ r.2.2]) Tryz.func63 q (n := 23) q q hr fun X hΨ => ?_
  refine Jq q <| z17 (z0w (z02 t0)) q q <| z17 (z0w (z0g t1)) q q <| Ra (z1m) q q <| Ra (z1m) q q <| Ra (I_ 0) q q <| R0 <| Js <| Js ?_
  refine Jr q <| z14 (z02 t0) z2j q q q q <| z14 (z0g t1) ag_41 q q q q <| z0d fun b1 h2 => z0j _ fn_103 (k_rule_Valid _ _ _ h2) q q <| Ra (I_ b1) q q <| R0 <| Jq q <| Rm (I_ b1) q q ?_
  refine z2a q q q <| R0 <| z09 q (fun h3 => ?_) (fun h3 => ?_)
  · exact Jq q <| Rm (I_ b1) q q <| Ra (z1m) q q <| Ra (z1m) q q <| Ra (I_ b1) q q <| R0 <| z3g hΨ (z16 (As := [z1m, z1m, I_ b1]) q q (.cons (.tmp (A := z1m) q) (.cons (.tmp (A := z1m) q) (.cons (.tmp (A := I_ b1) q) .nil)))) (fun y hy => by cases hy; exact (.tup (.cons .nil (.cons .nil (.cons .same .nil)))))
  refine z0e <| Jq q <| z14 (z0g t1) ag_41 q q q q <| z0d fun b4 h5 => z0j _ fn_105 (k_rule_created _ _ h5) q q <| Rm (z35 [AL 1 z01 b4.1, AL 1 z01 b4.2]) q q <| z20 (AL 1 z01 b4.1) q q q <| z20 (AL 1 z01 b4.2) q q q <| Ra (AL 1 z01 b4.1) q q ?_
  refine Ra (AL 1 z01 b4.2) q q <| R0 <| Jq q <| Rm (AL 1 z01 b4.1) q q <| Rm (AL 1 z01 b4.2) q q <| Ra (AL 1 z01 b4.1) q q <| Ra (AL 1 z01 b4.2) q q <| Ra (I_ 0) q q <| R0 ?_
  exact Jt hΨ (z16 (As := [AL 1 z01 b4.1, AL 1 z01 b4.2, I_ 0]) q q (.cons (.tmp (A := AL 1 z01 b4.1) q) (.cons (.tmp (A := AL 1 z01 b4.2) q) (.cons (.tmp (A := I_ 0) q) .nil)))) q q
theorem k_types_Below (t0 : z06) (t1 : Int) (r : (List Int) × Int) (hr : types_Below t0 t1 = some r) : FnP PP 64 [z0w (z02 t0), I_ t1] (z35 [AL 1 z01 r.1, I_ r.2]) := by
  refine Fo (fun (r : (List Int) × Int) => z35 [AL 1 z01 r.1, I_ r.2]) Tryz.func64 q (n := 32) q q hr fun X hΨ => ?_
  refine Jq q <| z17 (z0w (z02 t0)) q q <| Ra (z1m) q q <| Ra (I_ 0) q q <| R0 <| Js <| Jq q <| z14 (z02 t0) z2j q q q q ?_
  refine Rm (I_ t1) q q <| r_bs (cc := z01) [t1] z1w zr_3_1 (.cons (A := I_ t1) q q q .nil) q q q <| z0d fun b1 h2 => z0j _ fn_106 (k_types_given _ _ _ h2) q q <| Ra (I_ b1) q q <| R0 <| Jq q <| Rm (I_ b1) q q <| z2a q q q ?_
  refine R0 <| z09 q (fun h3 => ?_) (fun h3 => ?_)
  · exact Jq q <| Rm (I_ b1) q q <| Ra (z1m) q q <| Ra (I_ b1) q q <| R0 <| z3g hΨ (z16 (As := [z1m, I_ b1]) q q (.cons (.tmp (A := z1m) q) (.cons (.tmp (A := I_ b1) q) .nil))) (fun y hy => by cases hy; exact (.tup (.cons .nil (.cons .same .nil))))
  refine z0e <| Jq q <| Ra (z1m) q q <| R0 <| Js <| Jq q <| z0f ((cL 4 z03) t0.Nodes) z2i q q q <| z11 (AL 4 z03 t0.Nodes) z4z q q q ?_
  refine z1a (cc := z03) z9h q q <| Rm (I_ 0) q q <| R0 <| z0n <| Jn (fun x4 => ⟨fr [(1, I_ t1), (2, z1r (z02 t0)), (5, I_ 0), (6, I_ b1), (7, z0i 0), (12, I_ b1), (13, I_ b1), (18, I_ (t0.Nodes.length : Int)), (19, I_ x4.2)], hp [(0, .row 3 1 (x4.1.map z01))], 1⟩) [] [] [0] q (.same q (.s3 q q q (.cons (A := z1m) q (.nilobj q q) (.same q (.s3 q q q .nil))))) (.new q q .nil) q q (fun E5 hE5 x4 => ?_)
  refine Jq q <| z1o q q q <| R0 <| Js <| z09 q (fun h12 => ?_) (fun h12 => ?_)
  rotate_left
  · exact z1j q <| z0x <| Jq q <| Rm (z0i 0) q q <| Ra (z0i 0) q q <| Ra (I_ 0) q q <| R0 <| z3g hΨ (z16 (As := [z0i 0, I_ 0]) q q (.cons (.tmp (A := z0i 0) q) (.cons (.tmp (A := I_ 0) q) .nil))) (fun y hy => by cases hy; exact (.tup (.cons (.frow q q (NKC.flat _ _)) (.cons .same .nil))))
  refine z0e <| Js <| z0n <| Jq q <| Rm (I_ x4.2) q q <| Ra (I_ x4.2) q q <| R0 <| Jq q ?_
  refine z14 (z02 t0) z2j q q q q <| Rm (I_ x4.2) q q <| Rm (I_ t1) q q <| z0d fun b13 h14 => z0j _ fn_107 (k_types_is _ _ _ _ h14) q q <| R0 ?_
  apply z2w (fun v17 => ⟨fr [(1, I_ t1), (2, z1r (z02 t0)), (5, I_ 0), (6, I_ b1), (7, z0i 0), (8, I_ x4.2), (12, I_ b1), (13, I_ b1), (18, I_ (t0.Nodes.length : Int)), (19, I_ x4.2), (21, I_ x4.2), (23, I_ x4.2)], hp [(0, .row 3 1 (v17.map z01))], 1⟩) (fun v17 => z9o x4 v17)
  · intro K18
    refine z1v q (fun h15 => ?_) (fun h15 => ?_)
    rotate_left
    · exact z0e <| Jc [] [] [] (K18 x4.1) (.same q (.s3 q q q (.cons (A := z0i 0) q (.obj q q q) (.same q (.s6 q q q q q q .nil))))) (.cons q q q q (.row (NKC.flat _ _)) q q .nil) q q
    refine Jr q <| Rm (z0i 0) q q <| Rm (I_ x4.2) q q <| r_bs (cc := z01) [x4.2] z1w zr_3_1 (.cons (A := I_ x4.2) q q q .nil) q q q <| z1b (fun h16 => ?_) (fun _ => z0u)
    exact r_app (cc := z01) (xs := x4.1) (ys := [x4.2]) 1 ap_26 q q q h16 q q q <| Ra (z0i 1) q q <| R0 <| Jc [] [(0, 1)] [] (K18 (x4.1 ++ [x4.2])) (.same q (.s3 q q q (.cons (A := z0i 1) q (.obj q q q) (.same q (.s6 q q q q q q .nil))))) (.cons q q q q (.row (NKC.flat _ _)) q q .nil) q q
  intro v17
  exact z0s <| z0o 18 (m := (t0.Nodes.length : Int)) q fun q19 => z0o 8 (m := x4.2) q fun q20 => Jr q <| z1l (x4.2 + 1) q q (z0z (by omega) (by omega)) q <| Rm (I_ (x4.2 + 1)) q q <| R0 <| z41 <| Jc [] [] [] (hE5 (v17, x4.2 + 1)) (.same q (.s3 q q q (.cons (A := z0i 0) q (.obj q q q) (.same q (.s3 q q q .nil))))) (.cons q q q q (.row (NKC.flat _ _)) q q .nil) q q
theorem k_weight_effect (t0 : z06) (t1 : z10) (r : (List Int) × Int) (hr : z60 t0 t1 = some r) : FnP PP 32 [z0w (z02 t0), z0w (z0g t1)] (z35 [AL 1 z01 r.1, I_ r.2]) := by
  refine Fo (fun (r : (List Int) × Int) => z35 [AL 1 z01 r.1, I_ r.2]) Tryz.func32 q (n := 148) q q hr fun X hΨ => ?_
  refine Jq q <| z17 (z0w (z02 t0)) q q <| z17 (z0w (z0g t1)) q q <| Ra (z1m) q q <| Ra (I_ 0) q q <| R0 <| Jq q <| z14 (z02 t0) z2j q q q q ?_
  refine z14 (z0g t1) ag_41 q q q q <| z0d fun b1 h2 => z0j _ fn_62 (k_rule_Deleted _ _ _ h2) q q <| Rm (z35 [AL 1 z01 b1.1, AL 1 z01 b1.2.1, I_ b1.2.2]) q q <| z20 (AL 1 z01 b1.1) q q q <| z20 (AL 1 z01 b1.2.1) q q q <| z20 (I_ b1.2.2) q q q <| Ra (AL 1 z01 b1.1) q q <| Ra (AL 1 z01 b1.2.1) q q <| Ra (I_ b1.2.2) q q ?_
  refine R0 <| Js <| Jq q <| Rm (I_ b1.2.2) q q <| z2a q q q <| R0 <| z09 q (fun h3 => ?_) (fun h3 => ?_)
  · exact Jq q <| Rm (I_ b1.2.2) q q <| Ra (z1m) q q <| Ra (I_ b1.2.2) q q <| R0 <| z3g hΨ (z16 (As := [z1m, I_ b1.2.2]) q q (.cons (.tmp (A := z1m) q) (.cons (.tmp (A := I_ b1.2.2) q) .nil))) (fun y hy => by cases hy; exact (.tup (.cons .nil (.cons .same .nil))))
  refine z0e <| Jq q <| z14 (z02 t0) z2j q q q q <| z14 (z0g t1) ag_41 q q q q <| z0d fun b4 h5 => z0j _ fn_63 (k_rule_Created _ _ _ h5) q q <| Rm (z35 [AL 1 z01 b4.1, AL 1 z01 b4.2.1, I_ b4.2.2]) q q <| z20 (AL 1 z01 b4.1) q q q <| z20 (AL 1 z01 b4.2.1) q q q ?_
  refine z20 (I_ b4.2.2) q q q <| Ra (AL 1 z01 b4.1) q q <| Ra (AL 1 z01 b4.2.1) q q <| Ra (I_ b4.2.2) q q <| R0 <| Js <| Jq q <| Rm (I_ b4.2.2) q q <| z2a q q q ?_
  refine R0 <| z09 q (fun h6 => ?_) (fun h6 => ?_)
  · exact Jq q <| Rm (I_ b4.2.2) q q <| Ra (z1m) q q <| Ra (I_ b4.2.2) q q <| R0 <| z3g hΨ (z16 (As := [z1m, I_ b4.2.2]) q q (.cons (.tmp (A := z1m) q) (.cons (.tmp (A := I_ b4.2.2) q) .nil))) (fun y hy => by cases hy; exact (.tup (.cons .nil (.cons .same .nil))))
  refine z0e <| Jq q <| z0f ((cL 4 z03) t0.Nodes) z2i q q q <| z11 (AL 4 z03 t0.Nodes) z4z q q q <| z1a (cc := z03) z9h q q <| z0f ((cL 7 z0c) t0.Edges) z3w q q q <| z11 (AL 7 z0c t0.Edges) sc_23 q q q <| z1a (cc := z0c) il_23 q q <| z0d fun b7 h8 => ?_
  refine z1l b7 q q (Option.some.inj h8) q <| z1b (fun h9 => ?_) (fun _ => z0u)
  refine r_make (cc := z01) 0 0 ap_26 z_3 q q h9.1 h9.2 q q <| Ra (z0i 0) q q <| R0 <| Js <| Jq q <| Rm (AL 1 z01 b1.1) q q <| z1a (cc := z01) z2m q q <| Rm (I_ 0) q q <| R0 ?_
  refine z0n <| Jn (fun x10 => ⟨fr [(2, z1r (z02 t0)), (3, z1r (z0g t1)), (5, I_ 0), (7, AL 1 z01 b1.2.1), (8, I_ b4.2.2), (9, AL 1 z01 b4.1), (10, AL 1 z01 b4.2.1), (11, z0i 0), (29, I_ b1.2.2), (30, I_ b1.2.2), (39, I_ b4.2.2), (40, I_ b4.2.2), (49, I_ b7), (51, AL 1 z01 b1.1), (52, I_ (b1.1.length : Int)), (53, I_ x10.2)], hp [(0, .row 3 1 (x10.1.map z01))], 1⟩) [] [] [] q (.same q (.s6 q q q q q q (.cons (A := z0i 0) q (.obj q q q) (.s2 q q (.s6 q q q q q q .nil))))) (.cons q q q q (.row (NKC.flat _ _)) q q .nil) q q (fun E11 hE11 x10 => ?_)
  refine Jq q <| z1o q q q <| R0 <| Js <| z09 q (fun h21 => ?_) (fun h21 => ?_)
  · refine z0e <| Js <| z0n <| Jq q <| z1b (fun h22 => ?_) (fun _ => z0u)
    refine z2k (cc := z01) z1w q q h22.1 h22.2 q <| z11 (I_ (nth b1.1 x10.2)) z1t q q q <| Ra (I_ (nth b1.1 x10.2)) q q <| R0 <| Jq q <| z0f (z0a t1.Left) z6q q q q <| z0f (z07 t1.Left.Graph) z27 q q q <| z0f ((cL 1 z01) t1.Left.Graph.Nodes) z29 q q q <| z11 (AL 1 z01 t1.Left.Graph.Nodes) z1s q q q ?_
    refine Rm (I_ (nth b1.1 x10.2)) q q <| z1b (fun h23 => ?_) (fun _ => z0u)
    refine z2k (cc := z01) z1w q q h23.1 h23.2 q <| z11 (I_ (nth t1.Left.Graph.Nodes (nth b1.1 x10.2))) z1t q q q <| Ra (I_ (nth t1.Left.Graph.Nodes (nth b1.1 x10.2))) q q <| R0 <| Js <| Jq q <| z14 (z02 t0) z2j q q q q <| Rm (I_ (nth t1.Left.Graph.Nodes (nth b1.1 x10.2))) q q <| z0d fun b24 h25 => ?_
    refine z0j _ fn_64 (k_types_Below _ _ _ h25) q q <| Rm (z35 [AL 1 z01 b24.1, I_ b24.2]) q q <| z20 (AL 1 z01 b24.1) q q q <| z20 (I_ b24.2) q q q <| Ra (AL 1 z01 b24.1) q q <| Ra (I_ b24.2) q q <| R0 <| Jq q <| Rm (AL 1 z01 b24.1) q q ?_
    refine z1a (cc := z01) z2m q q <| z3a q q q <| R0 <| z09 q (fun h26 => ?_) (fun h26 => ?_)
    · exact Jq q <| Ra (z1m) q q <| Ra (I_ 13) q q <| R0 <| z0x <| z3g hΨ (z16 (As := [z1m, I_ 13]) q q (.cons (.tmp (A := z1m) q) (.cons (.tmp (A := I_ 13) q) .nil))) (fun y hy => by cases hy; exact (.tup (.cons .nil (.cons .same .nil))))
    refine z0e <| Jr q <| Rm (z0i 0) q q <| Rm (I_ (nth t1.Left.Graph.Nodes (nth b1.1 x10.2))) q q <| z1b (fun h27 => ?_) (fun _ => z0u)
    refine r_ixO (cc := z01) z1w q q q h27.1 h27.2 q <| r_ldR (cc := z01) (nth t1.Left.Graph.Nodes (nth b1.1 x10.2)) 0 (I_ (nth x10.1 (nth t1.Left.Graph.Nodes (nth b1.1 x10.2)))) z1t q q h27.1 h27.2 q q <| z0d fun b28 h29 => z7z b28 q q (Option.some.inj h29) q <| r_ixO (cc := z01) z1w q q q h27.1 h27.2 q <| r_stR (cc := z01) (nth t1.Left.Graph.Nodes (nth b1.1 x10.2)) 0 (I_ b28) b28 sz_3 q q q h27.1 h27.2 q q q q <| R0 <| z0s <| z0o 52 (m := (b1.1.length : Int)) q fun q30 => z0o 53 (m := x10.2) q fun q31 => ?_
    exact Jr q <| z1l (x10.2 + 1) q q (z0z (by omega) (by omega)) q <| Rm (I_ (x10.2 + 1)) q q <| R0 <| z41 <| Jc [] [] [] (hE11 ((x10.1.set (nth t1.Left.Graph.Nodes (nth b1.1 x10.2)).toNat b28), x10.2 + 1)) (.same q (.s6 q q q q q q (.cons (A := z0i 0) q (.obj q q q) (.s2 q q (.s6 q q q q q q .nil))))) (.cons q q q q (.row (NKC.flat _ _)) q q .nil) q q
  refine z1j q <| z7w <| Js <| Jq q <| Rm (AL 1 z01 b1.2.1) q q <| z1a (cc := z01) z2m q q <| Rm (I_ 0) q q <| R0 <| z0n ?_
  refine Jn (fun x32 => ⟨fr [(2, z1r (z02 t0)), (3, z1r (z0g t1)), (5, I_ 0), (8, I_ b4.2.2), (9, AL 1 z01 b4.1), (10, AL 1 z01 b4.2.1), (11, z0i 0), (29, I_ b1.2.2), (30, I_ b1.2.2), (39, I_ b4.2.2), (40, I_ b4.2.2), (49, I_ b7), (52, I_ (b1.1.length : Int)), (53, I_ x10.2), (80, AL 1 z01 b1.2.1), (81, I_ (b1.2.1.length : Int)), (82, I_ x32.2)], hp [(0, .row 3 1 (x32.1.map z01))], 1⟩) [] [] [] q (.s6 q q q q q q (.cons (A := z0i 0) q (.obj q q q) (.same q (.s3 q q q (.s6 q q q q q q .nil))))) (.cons q q q q (.row (NKC.flat _ _)) q q .nil) q q (fun E33 hE33 x32 => ?_)
  refine Jq q <| z1o q q q <| R0 <| Js <| z09 q (fun h42 => ?_) (fun h42 => ?_)
  · refine z0e <| Js <| z0n <| Jq q <| z1b (fun h43 => ?_) (fun _ => z0u)
    refine z2k (cc := z01) z1w q q h43.1 h43.2 q <| z11 (I_ (nth b1.2.1 x32.2)) z1t q q q <| Ra (I_ (nth b1.2.1 x32.2)) q q <| R0 <| z2g <| Rm (z0i 0) q q <| z0f ((cL 4 z03) t0.Nodes) z2i q q q <| z11 (AL 4 z03 t0.Nodes) z4z q q q <| z1a (cc := z03) z9h q q <| z0f (z0a t1.Left) z6q q q q ?_
    refine z0f (z07 t1.Left.Graph) z27 q q q <| z0f ((cL 3 z0b) t1.Left.Graph.Edges) z2r q q q <| z11 (AL 3 z0b t1.Left.Graph.Edges) z5o q q q <| Rm (I_ (nth b1.2.1 x32.2)) q q <| z1b (fun h44 => ?_) (fun _ => z0u)
    refine z2k (cc := z0b) el_27 q q h44.1 h44.2 q <| z0f (z01 ((nth t1.Left.Graph.Edges (nth b1.2.1 x32.2)).Type_)) z77 q q q <| z11 (I_ ((nth t1.Left.Graph.Edges (nth b1.2.1 x32.2)).Type_)) z1t q q q <| z0d fun b45 h46 => z1l b45 q q (Option.some.inj h46) q <| z1b (fun h47 => ?_) (fun _ => z0u)
    refine r_ixO (cc := z01) z1w q q q h47.1 h47.2 q <| r_ldR (cc := z01) b45 0 (I_ (nth x32.1 b45)) z1t q q h47.1 h47.2 q q <| z0d fun b48 h49 => z7z b48 q q (Option.some.inj h49) q <| r_ixO (cc := z01) z1w q q q h47.1 h47.2 q <| r_stR (cc := z01) b45 0 (I_ b48) b48 sz_3 q q q h47.1 h47.2 q q q q <| z1y (by kernel_rfl) <| z0s <| z0o 81 (m := (b1.2.1.length : Int)) q fun q50 => z0o 82 (m := x32.2) q fun q51 => ?_
    exact Jr q <| z1l (x32.2 + 1) q q (z0z (by omega) (by omega)) q <| Rm (I_ (x32.2 + 1)) q q <| R0 <| z41 <| Jc [] [] [] (hE33 ((x32.1.set b45.toNat b48), x32.2 + 1)) (.s6 q q q q q q (.cons (A := z0i 0) q (.obj q q q) (.same q (.s3 q q q (.s6 q q q q q q .nil))))) (.cons q q q q (.row (NKC.flat _ _)) q q .nil) q q
  refine z1j q <| z7w <| Js <| Jq q <| Rm (AL 1 z01 b4.1) q q <| z1a (cc := z01) z2m q q <| Rm (I_ 0) q q <| R0 <| z0n ?_
  refine Jn (fun x52 => ⟨fr [(2, z1r (z02 t0)), (3, z1r (z0g t1)), (5, I_ 0), (8, I_ b4.2.2), (10, AL 1 z01 b4.2.1), (11, z0i 0), (29, I_ b1.2.2), (30, I_ b1.2.2), (39, I_ b4.2.2), (40, I_ b4.2.2), (49, I_ b7), (52, I_ (b1.1.length : Int)), (53, I_ x10.2), (81, I_ (b1.2.1.length : Int)), (82, I_ x32.2), (104, AL 1 z01 b4.1), (105, I_ (b4.1.length : Int)), (106, I_ x52.2)], hp [(0, .row 3 1 (x52.1.map z01))], 1⟩) [] [] [] q (.s2 q q (.s3 q q q (.cons (A := z0i 0) q (.obj q q q) (.s6 q q q q q q (.s6 q q q q q q .nil))))) (.cons q q q q (.row (NKC.flat _ _)) q q .nil) q q (fun E53 hE53 x52 => ?_)
  refine Jq q <| z1o q q q <| R0 <| Js <| z09 q (fun h60 => ?_) (fun h60 => ?_)
  · refine z0e <| Js <| z0n <| Jq q <| z1b (fun h61 => ?_) (fun _ => z0u)
    refine z2k (cc := z01) z1w q q h61.1 h61.2 q <| z11 (I_ (nth b4.1 x52.2)) z1t q q q <| Ra (I_ (nth b4.1 x52.2)) q q <| R0 <| Jr q <| Rm (z0i 0) q q <| z0f (z0a t1.Right) z3e q q q <| z0f (z07 t1.Right.Graph) z27 q q q <| z0f ((cL 1 z01) t1.Right.Graph.Nodes) z29 q q q <| z11 (AL 1 z01 t1.Right.Graph.Nodes) z1s q q q ?_
    refine Rm (I_ (nth b4.1 x52.2)) q q <| z1b (fun h62 => ?_) (fun _ => z0u)
    refine z2k (cc := z01) z1w q q h62.1 h62.2 q <| z11 (I_ (nth t1.Right.Graph.Nodes (nth b4.1 x52.2))) z1t q q q <| z1b (fun h63 => ?_) (fun _ => z0u)
    refine r_ixO (cc := z01) z1w q q q h63.1 h63.2 q <| r_ldR (cc := z01) (nth t1.Right.Graph.Nodes (nth b4.1 x52.2)) 0 (I_ (nth x52.1 (nth t1.Right.Graph.Nodes (nth b4.1 x52.2)))) z1t q q h63.1 h63.2 q q <| z0d fun b64 h65 => z1l b64 q q (Option.some.inj h65) q <| r_ixO (cc := z01) z1w q q q h63.1 h63.2 q <| r_stR (cc := z01) (nth t1.Right.Graph.Nodes (nth b4.1 x52.2)) 0 (I_ b64) b64 sz_3 q q q h63.1 h63.2 q q q q <| R0 <| z0s <| z0o 105 (m := (b4.1.length : Int)) q fun q66 => z0o 106 (m := x52.2) q fun q67 => ?_
    exact Jr q <| z1l (x52.2 + 1) q q (z0z (by omega) (by omega)) q <| Rm (I_ (x52.2 + 1)) q q <| R0 <| z41 <| Jc [] [] [] (hE53 ((x52.1.set (nth t1.Right.Graph.Nodes (nth b4.1 x52.2)).toNat b64), x52.2 + 1)) (.s2 q q (.s3 q q q (.cons (A := z0i 0) q (.obj q q q) (.s6 q q q q q q (.s6 q q q q q q .nil))))) (.cons q q q q (.row (NKC.flat _ _)) q q .nil) q q
  refine z1j q <| z7w <| Js <| Jq q <| Rm (AL 1 z01 b4.2.1) q q <| z1a (cc := z01) z2m q q <| Rm (I_ 0) q q <| R0 <| z0n ?_
  refine Jn (fun x68 => ⟨fr [(2, z1r (z02 t0)), (3, z1r (z0g t1)), (5, I_ 0), (8, I_ b4.2.2), (11, z0i 0), (29, I_ b1.2.2), (30, I_ b1.2.2), (39, I_ b4.2.2), (40, I_ b4.2.2), (49, I_ b7), (52, I_ (b1.1.length : Int)), (53, I_ x10.2), (81, I_ (b1.2.1.length : Int)), (82, I_ x32.2), (105, I_ (b4.1.length : Int)), (106, I_ x52.2), (123, AL 1 z01 b4.2.1), (124, I_ (b4.2.1.length : Int)), (125, I_ x68.2)], hp [(0, .row 3 1 (x68.1.map z01))], 1⟩) [] [] [] q (.same q (.s3 q q q (.cons (A := z0i 0) q (.obj q q q) (.s2 q q (.s6 q q q q q q (.s6 q q q q q q .nil)))))) (.cons q q q q (.row (NKC.flat _ _)) q q .nil) q q (fun E69 hE69 x68 => ?_)
  refine Jq q <| z1o q q q <| R0 <| Js <| z09 q (fun h78 => ?_) (fun h78 => ?_)
  rotate_left
  · exact z1j q <| z0x <| Jq q <| Rm (z0i 0) q q <| Ra (z0i 0) q q <| Ra (I_ 0) q q <| R0 <| z3g hΨ (z16 (As := [z0i 0, I_ 0]) q q (.cons (.tmp (A := z0i 0) q) (.cons (.tmp (A := I_ 0) q) .nil))) (fun y hy => by cases hy; exact (.tup (.cons (.frow q q (NKC.flat _ _)) (.cons .same .nil))))
  refine z0e <| Js <| z0n <| Jq q <| z1b (fun h79 => ?_) (fun _ => z0u)
  refine z2k (cc := z01) z1w q q h79.1 h79.2 q <| z11 (I_ (nth b4.2.1 x68.2)) z1t q q q <| Ra (I_ (nth b4.2.1 x68.2)) q q <| R0 <| z2g <| Rm (z0i 0) q q <| z0f ((cL 4 z03) t0.Nodes) z2i q q q <| z11 (AL 4 z03 t0.Nodes) z4z q q q <| z1a (cc := z03) z9h q q <| z0f (z0a t1.Right) z3e q q q ?_
  refine z0f (z07 t1.Right.Graph) z27 q q q <| z0f ((cL 3 z0b) t1.Right.Graph.Edges) z2r q q q <| z11 (AL 3 z0b t1.Right.Graph.Edges) z5o q q q <| Rm (I_ (nth b4.2.1 x68.2)) q q <| z1b (fun h80 => ?_) (fun _ => z0u)
  refine z2k (cc := z0b) el_27 q q h80.1 h80.2 q <| z0f (z01 ((nth t1.Right.Graph.Edges (nth b4.2.1 x68.2)).Type_)) z77 q q q <| z11 (I_ ((nth t1.Right.Graph.Edges (nth b4.2.1 x68.2)).Type_)) z1t q q q <| z0d fun b81 h82 => z1l b81 q q (Option.some.inj h82) q <| z1b (fun h83 => ?_) (fun _ => z0u)
  refine r_ixO (cc := z01) z1w q q q h83.1 h83.2 q <| r_ldR (cc := z01) b81 0 (I_ (nth x68.1 b81)) z1t q q h83.1 h83.2 q q <| z0d fun b84 h85 => z1l b84 q q (Option.some.inj h85) q <| r_ixO (cc := z01) z1w q q q h83.1 h83.2 q <| r_stR (cc := z01) b81 0 (I_ b84) b84 sz_3 q q q h83.1 h83.2 q q q q <| z1y (by kernel_rfl) <| z0s <| z0o 124 (m := (b4.2.1.length : Int)) q fun q86 => z0o 125 (m := x68.2) q fun q87 => ?_
  exact Jr q <| z1l (x68.2 + 1) q q (z0z (by omega) (by omega)) q <| Rm (I_ (x68.2 + 1)) q q <| R0 <| z41 <| Jc [] [] [] (hE69 ((x68.1.set b81.toNat b84), x68.2 + 1)) (.same q (.s3 q q q (.cons (A := z0i 0) q (.obj q q q) (.s2 q q (.s6 q q q q q q (.s6 q q q q q q .nil)))))) (.cons q q q q (.row (NKC.flat _ _)) q q .nil) q q
theorem k_weight_Effect (t0 : z06) (t1 : z10) (r : (List Int) × Int) (hr : weight_Effect t0 t1 = some r) : FnP PP 11 [z0w (z02 t0), z0w (z0g t1)] (z35 [AL 1 z01 r.1, I_ r.2]) := by
  refine Fo (fun (r : (List Int) × Int) => z35 [AL 1 z01 r.1, I_ r.2]) Tryz.func11 q (n := 21) q q hr fun X hΨ => ?_
  refine Jq q <| z17 (z0w (z02 t0)) q q <| z17 (z0w (z0g t1)) q q <| Ra (z1m) q q <| Ra (I_ 0) q q <| R0 <| Js <| Jq q ?_
  refine z14 (z02 t0) z2j q q q q <| z0d fun b1 h2 => z0j _ fn_31 (za7 _ _ h2) q q <| Rm (z35 [z1h b1.1, I_ b1.2]) q q <| z20 (z1h b1.1) q q q <| z20 (I_ b1.2) q q q <| Ra (z1h b1.1) q q <| Ra (I_ b1.2) q q <| R0 <| Js ?_
  refine Jr q <| Rm (I_ b1.2) q q <| z2a q q q <| R0 <| z09 q (fun h3 => ?_) (fun h3 => ?_)
  · exact Jq q <| Rm (I_ b1.2) q q <| Ra (z1m) q q <| Ra (I_ b1.2) q q <| R0 <| z3g hΨ (z16 (As := [z1m, I_ b1.2]) q q (.cons (.tmp (A := z1m) q) (.cons (.tmp (A := I_ b1.2) q) .nil))) (fun y hy => by cases hy; exact (.tup (.cons .nil (.cons .same .nil))))
  refine z0e <| Jq q <| z14 (z02 t0) z2j q q q q <| z14 (z0g t1) ag_41 q q q q <| z0d fun b4 h5 => z0j _ fn_32 (k_weight_effect _ _ _ h5) q q <| z20 (AL 1 z01 b4.1) q q q <| z20 (I_ b4.2) q q q <| Ra (AL 1 z01 b4.1) q q ?_
  exact Ra (I_ b4.2) q q <| R0 <| Jt hΨ (z16 (As := [AL 1 z01 b4.1, I_ b4.2]) q q (.cons (.tmp (A := AL 1 z01 b4.1) q) (.cons (.tmp (A := I_ b4.2) q) .nil))) q q
theorem za8 (t0 : (List Int)) (t1 : (List Int)) (r : Bool) (hr : z8j t0 t1 = some r) : FnP PP 13 [AL 1 z01 t0, AL 1 z01 t1] (z00 r) := by
  refine Fo (fun (r : Bool) => z00 r) Tryz.func13 q (n := 26) q q hr fun X hΨ => ?_
  refine Jq q <| Ra (z00 false) q q <| R0 <| Js <| Jq q <| Rm (AL 1 z01 t0) q q <| z1a (cc := z01) z2m q q <| Rm (AL 1 z01 t1) q q ?_
  refine z1a (cc := z01) z2m q q <| z2a q q q <| R0 <| z09 q (fun h1 => ?_) (fun h1 => ?_)
  · exact Jq q <| Ra (z00 false) q q <| Rt hΨ q q q
  refine z0e <| Js <| Jq q <| Rm (AL 1 z01 t0) q q <| z1a (cc := z01) z2m q q <| Rm (I_ 0) q q <| R0 <| z0n <| Jl (fun x2 => [(0, AL 1 z01 t0), (1, AL 1 z01 t1), (7, I_ (t0.length : Int)), (9, I_ (t1.length : Int)), (12, I_ (t0.length : Int)), (13, I_ x2)]) (.c6 q q q q q q .nil) (fun E3 hE3 x2 => ?_)
  refine Jq q <| z1o q q q <| R0 <| Js <| z09 q (fun h8 => ?_) (fun h8 => ?_)
  rotate_left
  · exact z1j q <| z0x <| Jq q <| Ra (z00 true) q q <| Rt hΨ q q q
  refine z0e <| Js <| z0n <| Jq q <| Rm (I_ x2) q q <| Ra (I_ x2) q q <| R0 <| Js <| z2g ?_
  refine Rm (AL 1 z01 t0) q q <| Rm (I_ x2) q q <| z1b (fun h9 => ?_) (fun _ => z0u)
  refine z2k (cc := z01) z1w q q h9.1 h9.2 q <| z11 (I_ (nth t0 x2)) z1t q q q <| Rm (AL 1 z01 t1) q q <| Rm (I_ x2) q q <| z1b (fun h10 => ?_) (fun _ => z0u)
  refine z2k (cc := z01) z1w q q h10.1 h10.2 q <| z11 (I_ (nth t1 x2)) z1t q q q <| z2a q q q <| z1y (by kernel_rfl) <| z09 q (fun h11 => ?_) (fun h11 => ?_)
  · exact Jq q <| Ra (z00 false) q q <| R0 <| z0x <| Jt hΨ (z18 q) q q
  exact z0e <| z0s <| z0o 7 (m := (t0.length : Int)) q fun q12 => z0o 5 (m := x2) q fun q13 => Jr q <| z1l (x2 + 1) q q (z0z (by omega) (by omega)) q <| Rm (I_ (x2 + 1)) q q <| R0 <| z41 <| Jk (hE3 (x2 + 1)) (.c6 q q q q q q .nil)
theorem k_slices_IndexFunc___int (t0 : (List (List Int))) (t1 : ((List Int) → Option Bool)) (r : Int) (hr : slices_IndexFunc___int t0 t1 = some r) : FnP PP 125 [AL 1 (cL 1 z01) t0, AFn PP (fun x => [AL 1 z01 x]) (fun y => z00 y) t1] (I_ r) := by
  refine Fo (fun (r : Int) => I_ r) Tryz.func125 q (n := 19) q q hr fun X hΨ => ?_
  refine Jq q <| Ra (I_ 0) q q <| R0 <| Js <| Jq q <| Rm (AL 1 (cL 1 z01) t0) q q <| z1a (cc := (cL 1 z01)) il_78 q q <| Rm (I_ 0) q q ?_
  refine R0 <| z0n <| Jl (fun x1 => [(0, AL 1 (cL 1 z01) t0), (1, AFn PP (fun x => [AL 1 z01 x]) (fun y => z00 y) t1), (7, I_ (t0.length : Int)), (8, I_ x1)]) (.cons q (.c3 q q q .nil)) (fun E2 hE2 x1 => ?_)
  refine Jq q <| z1o q q q <| R0 <| Js <| z09 q (fun h8 => ?_) (fun h8 => ?_)
  rotate_left
  · exact z1j q <| z0x <| Jq q <| Ra (I_ (-1)) q q <| Rt hΨ q q q
  refine z0e <| Js <| z0n <| Jq q <| Rm (I_ x1) q q <| Ra (I_ x1) q q <| R0 <| Jq q ?_
  refine Rm (AFn PP (fun x => [AL 1 z01 x]) (fun y => z00 y) t1) q q <| Rm (AL 1 (cL 1 z01) t0) q q <| Rm (I_ x1) q q <| z1b (fun h9 => ?_) (fun _ => z0u)
  refine z2k (cc := (cL 1 z01)) el_78 q q h9.1 h9.2 q <| z11 (AL 1 z01 (nth t0 x1)) z1s q q q <| z0d fun b10 h11 => za6 (ga := (fun x => [AL 1 z01 x])) (rt := (fun y => z00 y)) (gg := t1) (u := (nth t0 x1)) (w := b10) q q h11 (NK.nk) q <| R0 <| z1v q (fun h12 => ?_) (fun h12 => ?_)
  · exact Jq q <| Rm (I_ x1) q q <| Ra (I_ x1) q q <| R0 <| z0x <| Jt hΨ (z18 q) q q
  exact z0e <| z0s <| z0o 7 (m := (t0.length : Int)) q fun q13 => z0o 5 (m := x1) q fun q14 => Jr q <| z1l (x1 + 1) q q (z0z (by omega) (by omega)) q <| Rm (I_ (x1 + 1)) q q <| R0 <| z41 <| Jk (hE2 (x1 + 1)) (.cons q (.c3 q q q .nil))
theorem z74 (t0 : (List (List Int))) (t1 : ((List Int) → Option Bool)) (r : Bool) (hr : z3d t0 t1 = some r) : FnP PP 76 [AL 1 (cL 1 z01) t0, AFn PP (fun x => [AL 1 z01 x]) (fun y => z00 y) t1] (z00 r) := by
  refine Fo (fun (r : Bool) => z00 r) Tryz.func76 q (n := 9) q q hr fun X hΨ => ?_
  refine Jq q <| Ra (z00 false) q q <| R0 <| Jq q <| Rm (AL 1 (cL 1 z01) t0) q q <| Rm (AFn PP (fun x => [AL 1 z01 x]) (fun y => z00 y) t1) q q <| z0d fun b1 h2 => z0j _ fn_125 (k_slices_IndexFunc___int _ _ _ h2) q q ?_
  exact z3c q q q <| Ra (z00 (decide (0 ≤ b1))) q q <| Rt hΨ q q q
theorem k_weight_effects_1 (t0 : (List Int)) (t1 : Int) (r : Bool) (hr : z56 t0 t1 = some r) : FnP PP 77 [AL 1 z01 t0, z1r (z01 t1)] (z00 r) := by
  refine Fo (fun (r : Bool) => z00 r) Tryz.func77 q (n := 9) q q hr fun X hΨ => ?_
  refine Jq q <| Ra (z00 false) q q <| R0 <| Jq q <| Rm (AL 1 z01 t0) q q <| z11 (I_ t1) z1t q q q <| z1b (fun h1 => ?_) (fun _ => z0u)
  exact z2k (cc := z01) z1w q q h1.1 h1.2 q <| z11 (I_ (nth t0 t1)) z1t q q q <| z2a q q q <| Ra (z00 (decide (¬ ((nth t0 t1) = 0)))) q q <| Rt hΨ q q q
theorem z8r (t0 : z06) (t1 : (List z10)) (r : (List (List Int)) × (List Int) × Int) (hr : z4t t0 t1 = some r) : FnP PP 38 [z0w (z02 t0), AL 25 z0g t1] (z35 [AL 1 (cL 1 z01) r.1, AL 1 z01 r.2.1, I_ r.2.2]) := by
  refine Fo (fun (r : (List (List Int)) × (List Int) × Int) => z35 [AL 1 (cL 1 z01) r.1, AL 1 z01 r.2.1, I_ r.2.2]) Tryz.func38 q (n := 70) q q hr fun X hΨ => ?_
  refine Jq q <| z17 (z0w (z02 t0)) q q <| Ra (z1m) q q <| Ra (z1m) q q <| Ra (I_ 0) q q <| R0 <| Js <| Jq q ?_
  refine z14 (z02 t0) z2j q q q q <| z0d fun b1 h2 => z0j _ fn_31 (za7 _ _ h2) q q <| Rm (z35 [z1h b1.1, I_ b1.2]) q q <| z20 (z1h b1.1) q q q <| z20 (I_ b1.2) q q q <| Ra (z1h b1.1) q q <| Ra (I_ b1.2) q q <| R0 <| Js ?_
  refine Jr q <| Rm (I_ b1.2) q q <| z2a q q q <| R0 <| z09 q (fun h3 => ?_) (fun h3 => ?_)
  · exact Jq q <| Rm (I_ b1.2) q q <| Ra (z1m) q q <| Ra (z1m) q q <| Ra (I_ b1.2) q q <| R0 <| z3g hΨ (z16 (As := [z1m, z1m, I_ b1.2]) q q (.cons (.tmp (A := z1m) q) (.cons (.tmp (A := z1m) q) (.cons (.tmp (A := I_ b1.2) q) .nil)))) (fun y hy => by cases hy; exact (.tup (.cons .nil (.cons .nil (.cons .same .nil)))))
  refine z0e <| Js <| Jq q <| Rm (AL 25 z0g t1) q q <| z1a (cc := z0g) il_44 q q <| z3a q q q <| R0 <| z09 q (fun h4 => ?_) (fun h4 => ?_)
  · exact Jq q <| Ra (z1m) q q <| Ra (z1m) q q <| Ra (I_ 3) q q <| R0 <| z3g hΨ (z16 (As := [z1m, z1m, I_ 3]) q q (.cons (.tmp (A := z1m) q) (.cons (.tmp (A := z1m) q) (.cons (.tmp (A := I_ 3) q) .nil)))) (fun y hy => by cases hy; exact (.tup (.cons .nil (.cons .nil (.cons .same .nil)))))
  refine z0e <| Jq q <| Ra (z1m) q q <| R0 <| Js <| Jq q <| Rm (AL 25 z0g t1) q q <| z1a (cc := z0g) il_44 q q ?_
  refine Rm (I_ 0) q q <| R0 <| z0n <| Jn (fun x5 => ⟨fr [(2, z1r (z02 t0)), (6, I_ 0), (8, I_ b1.2), (9, z0i 0), (20, I_ b1.2), (21, I_ b1.2), (25, I_ (t1.length : Int)), (27, AL 25 z0g t1), (28, I_ (t1.length : Int)), (29, I_ x5.2)], hp [(0, .row 26 1 (x5.1.map (cL 1 z01)))], 1⟩) [] [] [0] q (.s3 q q q (.cons (A := z1m) q (.nilobj q q) (.s6 q q q q q q .nil))) (.new q q .nil) q q (fun E6 hE6 x5 => ?_)
  refine Jq q <| z1o q q q <| R0 <| Js <| z09 q (fun h12 => ?_) (fun h12 => ?_)
  · refine z0e <| Js <| z0n <| Jq q <| z1b (fun h13 => ?_) (fun _ => z0u)
    refine z2k (cc := z0g) el_44 q q h13.1 h13.2 q <| z14 (z0g (nth t1 x5.2)) ag_41 q q q q <| z1x 1 _ z_41 q q <| z2p (z0i 1) (z0w (z0g (nth t1 x5.2))) (z0g (nth t1 x5.2)) sz_41 q .obj q q q q q q <| R0 <| Jq q <| z14 (z02 t0) z2j q q q q <| z50 (z0i 1) (z0g (nth t1 x5.2)) ag_41 q .obj q q q q <| z0d fun b14 h15 => ?_
    refine z0j _ fn_32 (k_weight_effect _ _ _ h15) q q <| Rm (z35 [AL 1 z01 b14.1, I_ b14.2]) q q <| z20 (AL 1 z01 b14.1) q q q <| z20 (I_ b14.2) q q q <| Ra (AL 1 z01 b14.1) q q <| Ra (I_ b14.2) q q <| R0 <| Js <| Jq q ?_
    refine Rm (I_ b14.2) q q <| z2a q q q <| R0 <| z09 q (fun h16 => ?_) (fun h16 => ?_)
    · exact Jq q <| Rm (I_ b14.2) q q <| Ra (z1m) q q <| Ra (z1m) q q <| Ra (I_ b14.2) q q <| R0 <| z0x <| z3g hΨ (z16 (As := [z1m, z1m, I_ b14.2]) q q (.cons (.tmp (A := z1m) q) (.cons (.tmp (A := z1m) q) (.cons (.tmp (A := I_ b14.2) q) .nil)))) (fun y hy => by cases hy; exact (.tup (.cons .nil (.cons .nil (.cons .same .nil)))))
    refine z0e <| Jr q <| Rm (z0i 0) q q <| Rm (AL 1 z01 b14.1) q q <| r_bs (cc := (cL 1 z01)) [b14.1] el_78 zr_26_1 (.cons (A := AL 1 z01 b14.1) q q q .nil) q q q <| z1b (fun h17 => ?_) (fun _ => z0u)
    refine r_app (cc := (cL 1 z01)) (xs := x5.1) (ys := [b14.1]) 2 ap_78 q q q h17 q q q <| Ra (z0i 2) q q <| R0 <| z0s <| z0o 25 (m := (t1.length : Int)) q fun q18 => z0o 29 (m := x5.2) q fun q19 => Jr q <| z1l (x5.2 + 1) q q (z0z (by omega) (by omega)) q <| Rm (I_ (x5.2 + 1)) q q <| R0 ?_
    exact z41 <| Jc [] [(0, 2)] [] (hE6 ((x5.1 ++ [b14.1]), x5.2 + 1)) (.s3 q q q (.cons (A := z0i 2) q (.obj q q q) (.s6 q q q q q q .nil))) (.cons q q q q (.row (NKC.flat _ _)) q q .nil) q q
  refine z1j q <| z7w <| Jq q <| Ra (z1m) q q <| R0 <| Js <| Jq q <| z0f ((cL 4 z03) t0.Nodes) z2i q q q ?_
  refine z11 (AL 4 z03 t0.Nodes) z4z q q q <| z1a (cc := z03) z9h q q <| z0f ((cL 7 z0c) t0.Edges) z3w q q q <| z11 (AL 7 z0c t0.Edges) sc_23 q q q <| z1a (cc := z0c) il_23 q q <| z0d fun b20 h21 => z1l b20 q q (Option.some.inj h21) q <| Rm (I_ 0) q q <| R0 <| z0n ?_
  refine Jn (fun x22 => ⟨fr [(6, I_ 0), (8, I_ b1.2), (9, z0i 0), (14, z0i 1), (20, I_ b1.2), (21, I_ b1.2), (25, I_ (t1.length : Int)), (28, I_ (t1.length : Int)), (29, I_ x5.2), (53, I_ b20), (54, I_ x22.2)], hp [(0, .row 26 1 (x5.1.map (cL 1 z01))), (1, .row 3 1 (x22.1.map z01))], 2⟩) [] [] [1] q (.s2 q q (.cons (A := z0i 0) q (.obj q q q) (.cons (A := z1m) q (.nilobj q q) (.same q (.s6 q q q q q q .nil))))) (.cons q q q q (.row (NKC.flat _ _)) q q (.new q q .nil)) q q (fun E23 hE23 x22 => ?_)
  refine Jq q <| z1o q q q <| R0 <| Js <| z09 q (fun h30 => ?_) (fun h30 => ?_)
  rotate_left
  · refine z1j q <| z7w <| Js <| Jq q <| Rm (z0i 1) q q <| r_lenO (cc := z01) x22.1 z2m q q q <| z3a q q q <| R0 <| z09 q (fun h39 => ?_) (fun h39 => ?_)
    · exact Jq q <| Ra (z1m) q q <| Ra (z1m) q q <| Ra (I_ 3) q q <| R0 <| z3g hΨ (z16 (As := [z1m, z1m, I_ 3]) q q (.cons (.tmp (A := z1m) q) (.cons (.tmp (A := z1m) q) (.cons (.tmp (A := I_ 3) q) .nil)))) (fun y hy => by cases hy; exact (.tup (.cons .nil (.cons .nil (.cons .same .nil)))))
    exact z0e <| Jq q <| Rm (z0i 0) q q <| Rm (z0i 1) q q <| Ra (z0i 0) q q <| Ra (z0i 1) q q <| Ra (I_ 0) q q <| R0 <| z3g hΨ (z16 (As := [z0i 0, z0i 1, I_ 0]) q q (.cons (.tmp (A := z0i 0) q) (.cons (.tmp (A := z0i 1) q) (.cons (.tmp (A := I_ 0) q) .nil)))) (fun y hy => by cases hy; exact (.tup (.cons (.frow q q (NKC.flat _ _)) (.cons (.frow q q (NKC.flat _ _)) (.cons .same .nil)))))
  refine z0e <| Js <| z0n <| Jq q <| Rm (I_ x22.2) q q <| z1x 2 _ z_3 q q <| z2p (z0i 2) (I_ x22.2) (z01 x22.2) sz_3 q .obj q q q q q q <| R0 <| Js ?_
  refine J_cv [2] [] [] 2 [(6, I_ 0), (8, I_ b1.2), (9, z0i 0), (14, z0i 1), (15, z1r (z01 x22.2)), (20, I_ b1.2), (21, I_ b1.2), (25, I_ (t1.length : Int)), (28, I_ (t1.length : Int)), (29, I_ x5.2), (53, I_ b20), (54, I_ x22.2), (56, I_ x22.2)] [(0, .row 26 1 (x5.1.map (cL 1 z01))), (1, .row 3 1 (x22.1.map z01))] (.same q (.same q (.cons (A := z0i 0) q (.obj q q q) (.cons (A := z0i 1) q (.obj q q q) (.cons (A := z0i 2) q (.fbox q q (.cons .same .nil)) (.same q (.same q (.same q (.same q (.same q (.same q (.same q (.same q .nil))))))))))))) (.cons q q q q (.row (NKC.flat _ _)) q q (.cons q q q q (.row (NKC.flat _ _)) q q .nil)) q q <| Jr q <| Rm (z0i 0) q q <| r_mkFn [z1r (z01 x22.2)] (fun x => [AL 1 z01 x]) (fun y => z00 y) (fun x => z56 x x22.2) fn_77 q (fun x y h => k_weight_effects_1 x x22.2 y h) q <| z0d fun b31 h32 => r_callB [(0, .row 26 1 (x5.1.map (cL 1 z01)))] [z0i 0, AFn PP (fun x => [AL 1 z01 x]) (fun y => z00 y) (fun x => z56 x x22.2)] fn_76 (z74 _ _ _ h32) (.cons q .nil) q (.cons (.frow q q (NKC.flat _ _)) (.cons .same .nil)) q <| R0 ?_
  apply z2w (fun v35 => ⟨fr [(6, I_ 0), (8, I_ b1.2), (9, z0i 0), (14, z0i 1), (20, I_ b1.2), (21, I_ b1.2), (25, I_ (t1.length : Int)), (28, I_ (t1.length : Int)), (29, I_ x5.2), (53, I_ b20), (54, I_ x22.2), (56, I_ x22.2)], hp [(0, .row 26 1 (x5.1.map (cL 1 z01))), (1, .row 3 1 (v35.map z01))], 2⟩) (fun v35 => z6u x22 v35)
  · intro K36
    refine z1v q (fun h33 => ?_) (fun h33 => ?_)
    rotate_left
    · exact z0e <| Jc [] [] [] (K36 x22.1) (.s2 q q (.cons (A := z0i 0) q (.obj q q q) (.cons (A := z0i 1) q (.obj q q q) (.s2 q q (.s6 q q q q q q .nil))))) (.cons q q q q (.row (NKC.flat _ _)) q q (.cons q q q q (.row (NKC.flat _ _)) q q .nil)) q q
    refine Jr q <| Rm (z0i 1) q q <| z11 (I_ x22.2) z1t q q q <| r_bs (cc := z01) [x22.2] z1w zr_3_1 (.cons (A := I_ x22.2) q q q .nil) q q q <| z1b (fun h34 => ?_) (fun _ => z0u)
    exact r_app (cc := z01) (xs := x22.1) (ys := [x22.2]) 2 ap_26 q q q h34 q q q <| Ra (z0i 2) q q <| R0 <| Jc [] [(1, 2)] [] (K36 (x22.1 ++ [x22.2])) (.s2 q q (.cons (A := z0i 0) q (.obj q q q) (.cons (A := z0i 2) q (.obj q q q) (.s2 q q (.s6 q q q q q q .nil))))) (.cons q q q q (.row (NKC.flat _ _)) q q (.cons q q q q (.row (NKC.flat _ _)) q q .nil)) q q
  intro v35
  exact z0s <| z0o 53 (m := b20) q fun q37 => z0o 54 (m := x22.2) q fun q38 => Jr q <| z1l (x22.2 + 1) q q (z0z (by omega) (by omega)) q <| Rm (I_ (x22.2 + 1)) q q <| R0 <| z41 <| Jc [] [] [] (hE23 (v35, x22.2 + 1)) (.s2 q q (.cons (A := z0i 0) q (.obj q q q) (.cons (A := z0i 1) q (.obj q q q) (.same q (.s6 q q q q q q .nil))))) (.cons q q q q (.row (NKC.flat _ _)) q q (.cons q q q q (.row (NKC.flat _ _)) q q .nil)) q q
theorem k_weight_product (t0 : (List Int)) (t1 : (List Int)) (r : Int) (hr : z85 t0 t1 = some r) : FnP PP 80 [AL 1 z01 t0, AL 1 z01 t1] (I_ r) := by
  refine Fo (fun (r : Int) => I_ r) Tryz.func80 q (n := 25) q q hr fun X hΨ => ?_
  refine Jq q <| Ra (I_ 0) q q <| R0 <| Jq q <| Ra (I_ 0) q q <| R0 <| Js <| Js ?_
  refine Jr q <| Rm (AL 1 z01 t0) q q <| z1a (cc := z01) z2m q q <| Rm (I_ 0) q q <| R0 <| z0n <| Jl (fun x1 => [(0, AL 1 z01 t0), (1, AL 1 z01 t1), (5, I_ x1.1), (8, I_ (t0.length : Int)), (9, I_ x1.2)]) (.c2 q q (.c3 q q q .nil)) (fun E2 hE2 x1 => ?_)
  refine Jq q <| z1o q q q <| R0 <| Js <| z09 q (fun h10 => ?_) (fun h10 => ?_)
  rotate_left
  · exact z1j q <| z0x <| Jq q <| Rm (I_ x1.1) q q <| Ra (I_ x1.1) q q <| Rt hΨ q q q
  refine z0e <| Js <| z0n <| Jq q <| Rm (I_ x1.2) q q <| Ra (I_ x1.2) q q <| R0 <| z2g <| Rm (I_ x1.1) q q ?_
  refine Rm (AL 1 z01 t0) q q <| Rm (I_ x1.2) q q <| z1b (fun h11 => ?_) (fun _ => z0u)
  refine z2k (cc := z01) z1w q q h11.1 h11.2 q <| z11 (I_ (nth t0 x1.2)) z1t q q q <| Rm (AL 1 z01 t1) q q <| Rm (I_ x1.2) q q <| z1b (fun h12 => ?_) (fun _ => z0u)
  refine z2k (cc := z01) z1w q q h12.1 h12.2 q <| z11 (I_ (nth t1 x1.2)) z1t q q q <| z0d fun b13 h14 => r_mul b13 q q (Option.some.inj h14) q <| z0d fun b15 h16 => z1l b15 q q (Option.some.inj h16) q <| Ra (I_ b15) q q <| z1y (by kernel_rfl) <| z0s <| z0o 8 (m := (t0.length : Int)) q fun q17 => ?_
  exact z0o 6 (m := x1.2) q fun q18 => Jr q <| z1l (x1.2 + 1) q q (z0z (by omega) (by omega)) q <| Rm (I_ (x1.2 + 1)) q q <| R0 <| z41 <| Jk (hE2 (b15, x1.2 + 1)) (.c2 q q (.c3 q q q .nil))
theorem k_weight_proves_1 (t0 : (List Int)) (t1 : (List Int)) (r : Bool) (hr : z9i t0 t1 = some r) : FnP PP 79 [AL 1 z01 t0, z1r ((cL 1 z01) t1)] (z00 r) := by
  refine Fo (fun (r : Bool) => z00 r) Tryz.func79 q (n := 8) q q hr fun X hΨ => ?_
  refine Jq q <| Ra (z00 false) q q <| R0 <| Jq q <| Rm (AL 1 z01 t0) q q <| z11 (AL 1 z01 t1) z1s q q q <| z0d fun b1 h2 => z0j _ fn_80 (k_weight_product _ _ _ h2) q q ?_
  exact z3a q q q <| Ra (z00 (decide ((-1) < b1))) q q <| Rt hΨ q q q
theorem k_weight_proves (t0 : (List (List Int))) (t1 : (List Int)) (r : Bool) (hr : z9j t0 t1 = some r) : FnP PP 41 [AL 1 (cL 1 z01) t0, AL 1 z01 t1] (z00 r) := by
  refine Fo (fun (r : Bool) => z00 r) Tryz.func41 q (n := 9) q q hr fun X hΨ => ?_
  refine Jq q <| z17 (AL 1 z01 t1) q q <| Ra (z00 false) q q <| R0 <| Jq q <| Rm (AL 1 (cL 1 z01) t0) q q <| r_mkFn [z1r ((cL 1 z01) t1)] (fun x => [AL 1 z01 x]) (fun y => z00 y) (fun x => z9i x t1) fn_79 q (fun x y h => k_weight_proves_1 x t1 y h) q <| z0d fun b1 h2 => ?_
  exact z0j _ fn_76 (z74 _ _ _ h2) q q <| z2x q q <| Ra (z00 (!b1)) q q <| Rt hΨ q q q
theorem k_weight_Find_1_s2 (t0 : (List Int)) (t1 : (List Int)) (t2 : (List Int)) (t3 : (List (List Int))) (r : Bool × (List Int) × (List Int)) (hr : weight_Find_1_s2 t0 t1 t2 t3 = some r) : FnK PP 40 5 [(0, .row 3 1 (t0.map z01)), (1, .box 26 ((cL 1 z01) t1)), (2, .box 26 [z0i 3]), (3, .row 3 1 (t2.map z01)), (4, .box 78 ((cL 1 (cL 1 z01)) t3))] [z0i 0, z0i 1, z0i 2, z0i 4] [(0, .row 3 1 (r.2.1.map z01)), (1, .box 26 ((cL 1 z01) t1)), (2, .box 26 [z0i 3]), (3, .row 3 1 (r.2.2.map z01)), (4, .box 78 ((cL 1 (cL 1 z01)) t3))] (z00 r.1) := by
  refine Ko (fun (r : Bool × (List Int) × (List Int)) => [(0, .row 3 1 (r.2.1.map z01)), (1, .box 26 ((cL 1 z01) t1)), (2, .box 26 [z0i 3]), (3, .row 3 1 (r.2.2.map z01)), (4, .box 78 ((cL 1 (cL 1 z01)) t3))]) (fun (r : Bool × (List Int) × (List Int)) => z00 r.1) Tryz.func40 q (n := 26) q (KBL.cons (KB.obj q) (KBL.cons (KB.obj q) (KBL.cons (KB.obj q) (KBL.cons (KB.obj q) (inferInstance : KBL 5 []))))).kb (InsOk.spec (.row q (NKC.flat _ _) (.box q kbl_nk (.box q (KBL.cons (KB.obj q) inferInstance) (.row q (NKC.flat _ _) (.box q kbl_nk .nil)))))) q hr fun X hΨ => ?_
  refine Jq q <| Ra (z00 false) q q <| R0 <| Js <| Jq q <| z2b (z0i 1) (AL 1 z01 t1) z1s q .obj q q q <| z1a (cc := z01) z2m q q <| Rm (I_ 0) q q ?_
  refine R0 <| z0n <| Jn (fun x1 => ⟨fr [(0, z0i 0), (2, z0i 2), (3, z0i 4), (8, AL 1 z01 t1), (9, I_ (t1.length : Int)), (10, I_ x1.2)], hp [(0, .row 3 1 (t0.map z01)), (1, .box 26 ((cL 1 z01) t1)), (2, .box 26 [z0i 3]), (3, .row 3 1 (x1.1.map z01)), (4, .box 78 ((cL 1 (cL 1 z01)) t3))], 5⟩) [] [] [] q (.cons (A := z0i 0) q (.obj q q q) (.cons (A := z0i 2) q (.obj q q q) (.cons (A := z0i 4) q (.obj q q q) (.s3 q q q .nil)))) (.cons q q q q (.row (NKC.flat _ _)) q q (.cons q q q q (.box (.cons .same .nil)) q q (.cons q q q q (.box (.cons (.obj q q q) .nil)) q q (.cons q q q q (.row (NKC.flat _ _)) q q (.cons q q q q (.box (.cons .same .nil)) q q .nil))))) q q (fun E2 hE2 x1 => ?_)
  refine Jq q <| z1o q q q <| R0 <| Js <| z09 q (fun h7 => ?_) (fun h7 => ?_)
  rotate_left
  · refine z1j q <| z7w <| Jq q <| z2b (z0i 4) (AL 1 (cL 1 z01) t3) sc_78 q .obj q q q <| z2b (z0i 2) (z0i 3) z1s q .obj q q q <| z0d fun b13 h14 => r_callB [(3, .row 3 1 (x1.1.map z01))] [AL 1 (cL 1 z01) t3, z0i 3] fn_41 (k_weight_proves _ _ _ h14) (.cons q .nil) q (.cons .same (.cons (.frow q q (NKC.flat _ _)) .nil)) q <| Ra (z00 b13) q q <| R0 ?_
    exact J_retK hΨ (z4r q (.tmp (A := z00 b13) q)) [] [] [] q (fun y hy => by cases hy; exact ⟨(.cons q q q q (.row (NKC.flat _ _)) q q (.cons q q q q (.box (.cons .same .nil)) q q (.cons q q q q (.box (.cons (.obj q q q) .nil)) q q (.cons q q q q (.row (NKC.flat _ _)) q q (.cons q q q q (.box (.cons .same .nil)) q q .nil))))), .same⟩)
  refine z0e <| Js <| z0n <| Jq q <| Rm (I_ x1.2) q q <| z1b (fun h8 => ?_) (fun _ => z0u)
  refine z2k (cc := z01) z1w q q h8.1 h8.2 q <| z11 (I_ (nth t1 x1.2)) z1t q q q <| Ra (I_ x1.2) q q <| Ra (I_ (nth t1 x1.2)) q q <| R0 <| z2g <| z2b (z0i 2) (z0i 3) z1s q .obj q q q <| Rm (I_ (nth t1 x1.2)) q q <| Rm (z0i 0) q q <| Rm (I_ x1.2) q q ?_
  refine z1b (fun h9 => ?_) (fun _ => z0u)
  refine r_ixO (cc := z01) z1w q q q h9.1 h9.2 q <| r_ldR (cc := z01) x1.2 0 (I_ (nth t0 x1.2)) z1t q q h9.1 h9.2 q q <| z1b (fun h10 => ?_) (fun _ => z0u)
  refine r_ixO (cc := z01) z1w q q q h10.1 h10.2 q <| r_stR (cc := z01) (nth t1 x1.2) 0 (I_ (nth t0 x1.2)) (nth t0 x1.2) sz_3 q q q h10.1 h10.2 q q q q <| z1y (by kernel_rfl) <| z0s <| z0o 9 (m := (t1.length : Int)) q fun q11 => z0o 6 (m := x1.2) q fun q12 => Jr q <| z1l (x1.2 + 1) q q (z0z (by omega) (by omega)) q <| Rm (I_ (x1.2 + 1)) q q <| R0 ?_
  exact z41 <| Jc [] [] [] (hE2 ((x1.1.set (nth t1 x1.2).toNat (nth t0 x1.2)), x1.2 + 1)) (.cons (A := z0i 0) q (.obj q q q) (.cons (A := z0i 2) q (.obj q q q) (.cons (A := z0i 4) q (.obj q q q) (.s3 q q q .nil)))) (.cons q q q q (.row (NKC.flat _ _)) q q (.cons q q q q (.box (.cons .same .nil)) q q (.cons q q q q (.box (.cons (.obj q q q) .nil)) q q (.cons q q q q (.row (NKC.flat _ _)) q q (.cons q q q q (.box (.cons .same .nil)) q q .nil))))) q q
theorem k_weight_least_1_s1_b (q_weight_least_1_s1 : Int → Int → Int → (List Int) → (List Int) → (List (List Int)) → (List Int) → Int → Option (Bool × (List Int) × (List Int))) (hq_weight_least_1_s1 : ∀ (t0 : Int) (t1 : Int) (t2 : Int) (t3 : (List Int)) (t4 : (List Int)) (t5 : (List (List Int))) (t6 : (List Int)) (t7 : Int) (r : Bool × (List Int) × (List Int)), q_weight_least_1_s1 t0 t1 t2 t3 t4 t5 t6 t7 = some r → FnK PP 78 7 [(0, .box 26 ((cL 1 z01) t3)), (1, .box 26 [z0i 2]), (2, .row 3 1 (t4.map z01)), (3, .box 78 ((cL 1 (cL 1 z01)) t5)), (4, .box 26 [z0i 5]), (5, .row 3 1 (t6.map z01)), (6, .box 116 [z3n 78 [z1r (z01 t7), z1r [z3n 40 [z0i 0, z0i 1, z0i 3]], z0i 4, z0i 6]])] [I_ t0, I_ t1, z1r (z01 t2), z1r [z3n 40 [z0i 0, z0i 1, z0i 3]], z0i 4, z0i 6] [(0, .box 26 ((cL 1 z01) t3)), (1, .box 26 [z0i 2]), (2, .row 3 1 (r.2.1.map z01)), (3, .box 78 ((cL 1 (cL 1 z01)) t5)), (4, .box 26 [z0i 5]), (5, .row 3 1 (r.2.2.map z01)), (6, .box 116 [z3n 78 [z1r (z01 t7), z1r [z3n 40 [z0i 0, z0i 1, z0i 3]], z0i 4, z0i 6]])] (z00 r.1)) (t0 : Int) (t1 : Int) (t2 : Int) (t3 : (List Int)) (t4 : (List Int)) (t5 : (List (List Int))) (t6 : (List Int)) (t7 : Int) (r : Bool × (List Int) × (List Int)) (hr : weight_least_1_s1_b q_weight_least_1_s1 t0 t1 t2 t3 t4 t5 t6 t7 = some r) : FnK PP 78 7 [(0, .box 26 ((cL 1 z01) t3)), (1, .box 26 [z0i 2]), (2, .row 3 1 (t4.map z01)), (3, .box 78 ((cL 1 (cL 1 z01)) t5)), (4, .box 26 [z0i 5]), (5, .row 3 1 (t6.map z01)), (6, .box 116 [z3n 78 [z1r (z01 t7), z1r [z3n 40 [z0i 0, z0i 1, z0i 3]], z0i 4, z0i 6]])] [I_ t0, I_ t1, z1r (z01 t2), z1r [z3n 40 [z0i 0, z0i 1, z0i 3]], z0i 4, z0i 6] [(0, .box 26 ((cL 1 z01) t3)), (1, .box 26 [z0i 2]), (2, .row 3 1 (r.2.1.map z01)), (3, .box 78 ((cL 1 (cL 1 z01)) t5)), (4, .box 26 [z0i 5]), (5, .row 3 1 (r.2.2.map z01)), (6, .box 116 [z3n 78 [z1r (z01 t7), z1r [z3n 40 [z0i 0, z0i 1, z0i 3]], z0i 4, z0i 6]])] (z00 r.1) := by
  refine Ko (fun (r : Bool × (List Int) × (List Int)) => [(0, .box 26 ((cL 1 z01) t3)), (1, .box 26 [z0i 2]), (2, .row 3 1 (r.2.1.map z01)), (3, .box 78 ((cL 1 (cL 1 z01)) t5)), (4, .box 26 [z0i 5]), (5, .row 3 1 (r.2.2.map z01)), (6, .box 116 [z3n 78 [z1r (z01 t7), z1r [z3n 40 [z0i 0, z0i 1, z0i 3]], z0i 4, z0i 6]])]) (fun (r : Bool × (List Int) × (List Int)) => z00 r.1) Tryz.func78 q (n := 45) q (KBL.cons inferInstance (KBL.cons inferInstance (KBL.cons inferInstance (KBL.cons (KB.ptr (KBL.cons (KB.clo (KBL.cons (KB.obj q) (KBL.cons (KB.obj q) (KBL.cons (KB.obj q) inferInstance)))) inferInstance)) (KBL.cons (KB.obj q) (KBL.cons (KB.obj q) (inferInstance : KBL 7 []))))))).kb (InsOk.spec (.box q kbl_nk (.box q (KBL.cons (KB.obj q) inferInstance) (.row q (NKC.flat _ _) (.box q kbl_nk (.box q (KBL.cons (KB.obj q) inferInstance) (.row q (NKC.flat _ _) (.box q (KBL.cons (KB.clo (KBL.cons inferInstance (KBL.cons (KB.ptr (KBL.cons (KB.clo (KBL.cons (KB.obj q) (KBL.cons (KB.obj q) (KBL.cons (KB.obj q) inferInstance)))) inferInstance)) (KBL.cons (KB.obj q) (KBL.cons (KB.obj q) inferInstance))))) inferInstance) .nil)))))))) q hr fun X hΨ => ?_
  refine Jq q <| Ra (z00 false) q q <| R0 <| Js <| Jq q <| Rm (I_ t0) q q <| z11 (I_ t2) z1t q q q <| z2y q q q ?_
  refine R0 <| z09 q (fun h1 => ?_) (fun h1 => ?_)
  · refine Jq q <| Rm (I_ t1) q q <| z2y q q q <| Rm (z00 (decide (t1 = 0))) q q <| z1b (fun h2 => ?_) (fun h2 => ?_)
    rotate_left
    · exact Rk (z0y q q (df h2)) <| Rk (z0y q q (df h2)) <| Rk (z0y q q (df h2)) <| z0h (z00 false) q (df h2) q q <| Ra (z00 false) q q <| R0 <| J_retK hΨ (z4r q (.tmp (A := z00 false) q)) [] [] [] q (fun y hy => by cases hy; exact ⟨(.cons q q q q (.box (.cons .same .nil)) q q (.cons q q q q (.box (.cons (.obj q q q) .nil)) q q (.cons q q q q (.row (NKC.flat _ _)) q q (.cons q q q q (.box (.cons .same .nil)) q q (.cons q q q q (.box (.cons (.obj q q q) .nil)) q q (.cons q q q q (.row (NKC.flat _ _)) q q (.cons q q q q (.box (.cons (.clo (.cons .same (.cons (.ptr (.cons (.clo (.cons (.obj q q q) (.cons (.obj q q q) (.cons (.obj q q q) .nil)))) .nil)) (.cons (.obj q q q) (.cons (.obj q q q) .nil))))) .nil)) q q .nil))))))), .same⟩)
    exact z11 (z3n 40 [z0i 0, z0i 1, z0i 3]) sc_84 q q (g_t q q (dt h2)) <| z2b (z0i 4) (z0i 5) z1s q .obj q q (g_t q q (dt h2)) <| z0d fun b3 h4 => r_callKC [z0i 0, z0i 1, z0i 3] [] [(0, 5), (1, 0), (2, 1), (3, 2), (4, 3)] [(5, 0), (0, 1), (1, 2), (2, 3), (3, 4)] [] 7 [(5, .row 3 1 (t6.map z01)), (0, .box 26 ((cL 1 z01) t3)), (1, .box 26 [z0i 2]), (2, .row 3 1 (t4.map z01)), (3, .box 78 ((cL 1 (cL 1 z01)) t5))] [(5, .row 3 1 (b3.2.1.map z01)), (0, .box 26 ((cL 1 z01) t3)), (1, .box 26 [z0i 2]), (2, .row 3 1 (b3.2.2.map z01)), (3, .box 78 ((cL 1 (cL 1 z01)) t5))] (z00 b3.1) [z0i 5] q fn_40 (k_weight_Find_1_s2 _ _ _ _ _ h4) (.cons q (.cons q (.cons q (.cons q (.cons q .nil))))) q (.cons (.obj q q q) (.cons (.obj q q q) (.cons (.obj q q q) (.cons (.obj q q q) .nil)))) (.cons q q q q (.row (NKC.flat _ _)) q q (.cons q q q q (.box (.cons .same .nil)) q q (.cons q q q q (.box (.cons (.obj q q q) .nil)) q q (.cons q q q q (.row (NKC.flat _ _)) q q (.cons q q q q (.box (.cons .same .nil)) q q .nil))))) (.cons q q q q (.row (NKC.flat _ _)) q q (.cons q q q q (.box (.cons .same .nil)) q q (.cons q q q q (.box (.cons (.obj q q q) .nil)) q q (.cons q q q q (.row (NKC.flat _ _)) q q (.cons q q q q (.box (.cons .same .nil)) q q .nil))))) .same q q (g_t q q (dt h2)) <| z0k (z00 b3.1) q (dt h2) q q <| Ra (z00 b3.1) q q <| R0 <| J_retK hΨ (z4r q (.tmp (A := z00 b3.1) q)) [] [] [] q (fun y hy => by cases hy; exact ⟨(.cons q q q q (.box (.cons .same .nil)) q q (.cons q q q q (.box (.cons (.obj q q q) .nil)) q q (.cons q q q q (.row (NKC.flat _ _)) q q (.cons q q q q (.box (.cons .same .nil)) q q (.cons q q q q (.box (.cons (.obj q q q) .nil)) q q (.cons q q q q (.row (NKC.flat _ _)) q q (.cons q q q q (.box (.cons (.clo (.cons .same (.cons (.ptr (.cons (.clo (.cons (.obj q q q) (.cons (.obj q q q) (.cons (.obj q q q) .nil)))) .nil)) (.cons (.obj q q q) (.cons (.obj q q q) .nil))))) .nil)) q q .nil))))))), .same⟩)
  refine z0e <| Js <| Jq q <| Rm (I_ t1) q q <| z11 (I_ t2) z1t q q q <| Rm (I_ t0) q q <| z0d fun b5 h6 => z7z b5 q q (Option.some.inj h6) q <| z0d fun b7 h8 => ?_
  refine z7z b7 q q (Option.some.inj h8) q <| z0d fun b9 h10 => r_mul b9 q q (Option.some.inj h10) q <| z0d fun b11 h12 => z7z b11 q q (Option.some.inj h12) q <| r_max q q q <| Ra (I_ (if 0 < b11 then b11 else 0)) q q <| R0 <| z0n <| Jn (fun x13 => ⟨fr [(0, I_ t0), (1, I_ t1), (4, z0i 4), (5, z0i 6), (9, I_ x13.2.2), (10, I_ t0), (11, I_ t2), (21, I_ t2), (22, I_ t0)], hp [(0, .box 26 ((cL 1 z01) t3)), (1, .box 26 [z0i 2]), (2, .row 3 1 (x13.1.map z01)), (3, .box 78 ((cL 1 (cL 1 z01)) t5)), (4, .box 26 [z0i 5]), (5, .row 3 1 (x13.2.1.map z01)), (6, .box 116 [z3n 78 [z1r (z01 t7), z1r [z3n 40 [z0i 0, z0i 1, z0i 3]], z0i 4, z0i 6]])], 7⟩) [] [] [] q (.s2 q q (.cons (A := z0i 4) q (.obj q q q) (.cons (A := z0i 6) q (.obj q q q) (.s2 q q (.s3 q q q .nil))))) (.cons q q q q (.box (.cons .same .nil)) q q (.cons q q q q (.box (.cons (.obj q q q) .nil)) q q (.cons q q q q (.row (NKC.flat _ _)) q q (.cons q q q q (.box (.cons .same .nil)) q q (.cons q q q q (.box (.cons (.obj q q q) .nil)) q q (.cons q q q q (.row (NKC.flat _ _)) q q (.cons q q q q (.box (.cons (.clo (.cons .same (.cons (.ptr (.cons (.clo (.cons (.obj q q q) (.cons (.obj q q q) (.cons (.obj q q q) .nil)))) .nil)) (.cons (.obj q q q) (.cons (.obj q q q) .nil))))) .nil)) q q .nil))))))) q q (fun E14 hE14 x13 => ?_)
  refine Js <| Jq q <| Rm (I_ x13.2.2) q q <| Rm (I_ t1) q q <| r_min q q q <| z8c q q q <| R0 <| z09 q (fun h26 => ?_) (fun h26 => ?_)
  rotate_left
  · exact z1j q <| z0x <| Jq q <| Ra (z00 false) q q <| R0 <| J_retK hΨ (z4r q (.tmp (A := z00 false) q)) [] [] [] q (fun y hy => by cases hy; exact ⟨(.cons q q q q (.box (.cons .same .nil)) q q (.cons q q q q (.box (.cons (.obj q q q) .nil)) q q (.cons q q q q (.row (NKC.flat _ _)) q q (.cons q q q q (.box (.cons .same .nil)) q q (.cons q q q q (.box (.cons (.obj q q q) .nil)) q q (.cons q q q q (.row (NKC.flat _ _)) q q (.cons q q q q (.box (.cons (.clo (.cons .same (.cons (.ptr (.cons (.clo (.cons (.obj q q q) (.cons (.obj q q q) (.cons (.obj q q q) .nil)))) .nil)) (.cons (.obj q q q) (.cons (.obj q q q) .nil))))) .nil)) q q .nil))))))), .same⟩)
  refine z0e <| Js <| z0n <| Jq q <| z2b (z0i 4) (z0i 5) z1s q .obj q q q <| Rm (I_ t0) q q <| Rm (I_ x13.2.2) q q <| z1b (fun h27 => ?_) (fun _ => z0u)
  refine r_ixO (cc := z01) z1w q q q h27.1 h27.2 q <| r_stR (cc := z01) t0 0 (I_ x13.2.2) x13.2.2 sz_3 q q q h27.1 h27.2 q q q q <| R0 <| Jq q <| z2b (z0i 6) (z3n 78 [z1r (z01 t7), z1r [z3n 40 [z0i 0, z0i 1, z0i 3]], z0i 4, z0i 6]) sc_116 q .obj q q q <| Rm (I_ t0) q q <| z0d fun b28 h29 => z1l b28 q q (Option.some.inj h29) q <| Rm (I_ t1) q q ?_
  refine Rm (I_ x13.2.2) q q <| z0d fun b30 h31 => z7z b30 q q (Option.some.inj h31) q <| z0d fun b32 h33 => r_callKC [z1r (z01 t7), z1r [z3n 40 [z0i 0, z0i 1, z0i 3]], z0i 4, z0i 6] [] [] [] [] 7 [(0, .box 26 ((cL 1 z01) t3)), (1, .box 26 [z0i 2]), (2, .row 3 1 (x13.1.map z01)), (3, .box 78 ((cL 1 (cL 1 z01)) t5)), (4, .box 26 [z0i 5]), (5, .row 3 1 ((x13.2.1.set t0.toNat x13.2.2).map z01)), (6, .box 116 [z3n 78 [z1r (z01 t7), z1r [z3n 40 [z0i 0, z0i 1, z0i 3]], z0i 4, z0i 6]])] [(0, .box 26 ((cL 1 z01) t3)), (1, .box 26 [z0i 2]), (2, .row 3 1 (b32.2.1.map z01)), (3, .box 78 ((cL 1 (cL 1 z01)) t5)), (4, .box 26 [z0i 5]), (5, .row 3 1 (b32.2.2.map z01)), (6, .box 116 [z3n 78 [z1r (z01 t7), z1r [z3n 40 [z0i 0, z0i 1, z0i 3]], z0i 4, z0i 6]])] (z00 b32.1) [I_ b28, I_ b30] q fn_78 (hq_weight_least_1_s1 _ _ _ _ _ _ _ _ _ h33) (.cons q (.cons q (.cons q (.cons q (.cons q (.cons q (.cons q .nil))))))) q (.cons .same (.cons .same (.cons .same (.cons (.ptr (.cons (.clo (.cons (.obj q q q) (.cons (.obj q q q) (.cons (.obj q q q) .nil)))) .nil)) (.cons (.obj q q q) (.cons (.obj q q q) .nil)))))) (.cons q q q q (.box (.cons .same .nil)) q q (.cons q q q q (.box (.cons (.obj q q q) .nil)) q q (.cons q q q q (.row (NKC.flat _ _)) q q (.cons q q q q (.box (.cons .same .nil)) q q (.cons q q q q (.box (.cons (.obj q q q) .nil)) q q (.cons q q q q (.row (NKC.flat _ _)) q q (.cons q q q q (.box (.cons (.clo (.cons .same (.cons (.ptr (.cons (.clo (.cons (.obj q q q) (.cons (.obj q q q) (.cons (.obj q q q) .nil)))) .nil)) (.cons (.obj q q q) (.cons (.obj q q q) .nil))))) .nil)) q q .nil))))))) (.cons q q q q (.box (.cons .same .nil)) q q (.cons q q q q (.box (.cons (.obj q q q) .nil)) q q (.cons q q q q (.row (NKC.flat _ _)) q q (.cons q q q q (.box (.cons .same .nil)) q q (.cons q q q q (.box (.cons (.obj q q q) .nil)) q q (.cons q q q q (.row (NKC.flat _ _)) q q (.cons q q q q (.box (.cons (.clo (.cons .same (.cons (.ptr (.cons (.clo (.cons (.obj q q q) (.cons (.obj q q q) (.cons (.obj q q q) .nil)))) .nil)) (.cons (.obj q q q) (.cons (.obj q q q) .nil))))) .nil)) q q .nil))))))) .same q q q <| R0 <| z1v q (fun h34 => ?_) (fun h34 => ?_)
  · exact Jq q <| Ra (z00 true) q q <| R0 <| z0x <| J_retK hΨ (z4r q (.tmp (A := z00 true) q)) [] [] [] q (fun y hy => by cases hy; exact ⟨(.cons q q q q (.box (.cons .same .nil)) q q (.cons q q q q (.box (.cons (.obj q q q) .nil)) q q (.cons q q q q (.row (NKC.flat _ _)) q q (.cons q q q q (.box (.cons .same .nil)) q q (.cons q q q q (.box (.cons (.obj q q q) .nil)) q q (.cons q q q q (.row (NKC.flat _ _)) q q (.cons q q q q (.box (.cons (.clo (.cons .same (.cons (.ptr (.cons (.clo (.cons (.obj q q q) (.cons (.obj q q q) (.cons (.obj q q q) .nil)))) .nil)) (.cons (.obj q q q) (.cons (.obj q q q) .nil))))) .nil)) q q .nil))))))), .same⟩)
  exact z0e <| z0s <| Jr q <| Rm (I_ x13.2.2) q q <| z0d fun b35 h36 => z1l b35 q q (Option.some.inj h36) q <| Ra (I_ b35) q q <| R0 <| z41 <| Jc [] [] [] (hE14 (b32.2.1, b32.2.2, b35)) (.s2 q q (.cons (A := z0i 4) q (.obj q q q) (.cons (A := z0i 6) q (.obj q q q) (.s2 q q (.s3 q q q .nil))))) (.cons q q q q (.box (.cons .same .nil)) q q (.cons q q q q (.box (.cons (.obj q q q) .nil)) q q (.cons q q q q (.row (NKC.flat _ _)) q q (.cons q q q q (.box (.cons .same .nil)) q q (.cons q q q q (.box (.cons (.obj q q q) .nil)) q q (.cons q q q q (.row (NKC.flat _ _)) q q (.cons q q q q (.box (.cons (.clo (.cons .same (.cons (.ptr (.cons (.clo (.cons (.obj q q q) (.cons (.obj q q q) (.cons (.obj q q q) .nil)))) .nil)) (.cons (.obj q q q) (.cons (.obj q q q) .nil))))) .nil)) q q .nil))))))) q q
theorem weight_least_1_s1_n_ok : ∀ n, (∀ (t0 : Int) (t1 : Int) (t2 : Int) (t3 : (List Int)) (t4 : (List Int)) (t5 : (List (List Int))) (t6 : (List Int)) (t7 : Int) (r : Bool × (List Int) × (List Int)), (z8v n) t0 t1 t2 t3 t4 t5 t6 t7 = some r → FnK PP 78 7 [(0, .box 26 ((cL 1 z01) t3)), (1, .box 26 [z0i 2]), (2, .row 3 1 (t4.map z01)), (3, .box 78 ((cL 1 (cL 1 z01)) t5)), (4, .box 26 [z0i 5]), (5, .row 3 1 (t6.map z01)), (6, .box 116 [z3n 78 [z1r (z01 t7), z1r [z3n 40 [z0i 0, z0i 1, z0i 3]], z0i 4, z0i 6]])] [I_ t0, I_ t1, z1r (z01 t2), z1r [z3n 40 [z0i 0, z0i 1, z0i 3]], z0i 4, z0i 6] [(0, .box 26 ((cL 1 z01) t3)), (1, .box 26 [z0i 2]), (2, .row 3 1 (r.2.1.map z01)), (3, .box 78 ((cL 1 (cL 1 z01)) t5)), (4, .box 26 [z0i 5]), (5, .row 3 1 (r.2.2.map z01)), (6, .box 116 [z3n 78 [z1r (z01 t7), z1r [z3n 40 [z0i 0, z0i 1, z0i 3]], z0i 4, z0i 6]])] (z00 r.1)) := by
  intro n
  induction n with
  | zero => exact (fun _ _ _ _ _ _ _ _ _ h => by cases h)
  | succ n ih => exact (fun a0 a1 a2 a3 a4 a5 a6 a7 r h => k_weight_least_1_s1_b _ ih a0 a1 a2 a3 a4 a5 a6 a7 r h)
theorem k_weight_least_1_s1 (t0 : Int) (t1 : Int) (t2 : Int) (t3 : (List Int)) (t4 : (List Int)) (t5 : (List (List Int))) (t6 : (List Int)) (t7 : Int) (r : Bool × (List Int) × (List Int)) (hr : weight_least_1_s1 t0 t1 t2 t3 t4 t5 t6 t7 = some r) : FnK PP 78 7 [(0, .box 26 ((cL 1 z01) t3)), (1, .box 26 [z0i 2]), (2, .row 3 1 (t4.map z01)), (3, .box 78 ((cL 1 (cL 1 z01)) t5)), (4, .box 26 [z0i 5]), (5, .row 3 1 (t6.map z01)), (6, .box 116 [z3n 78 [z1r (z01 t7), z1r [z3n 40 [z0i 0, z0i 1, z0i 3]], z0i 4, z0i 6]])] [I_ t0, I_ t1, z1r (z01 t2), z1r [z3n 40 [z0i 0, z0i 1, z0i 3]], z0i 4, z0i 6] [(0, .box 26 ((cL 1 z01) t3)), (1, .box 26 [z0i 2]), (2, .row 3 1 (r.2.1.map z01)), (3, .box 78 ((cL 1 (cL 1 z01)) t5)), (4, .box 26 [z0i 5]), (5, .row 3 1 (r.2.2.map z01)), (6, .box 116 [z3n 78 [z1r (z01 t7), z1r [z3n 40 [z0i 0, z0i 1, z0i 3]], z0i 4, z0i 6]])] (z00 r.1) := by
  obtain ⟨n, hn⟩ := Ev_some hr
  exact (weight_least_1_s1_n_ok n) t0 t1 t2 t3 t4 t5 t6 t7 r hn
theorem k_weight_least_s0 (t0 : Int) (t1 : (List Int)) (t2 : (List Int)) (t3 : (List (List Int))) (r : (List Int) × Bool × (List Int)) (hr : weight_least_s0 t0 t1 t2 t3 = some r) : FnK PP 39 4 [(0, .box 26 ((cL 1 z01) t1)), (1, .box 26 [z0i 2]), (2, .row 3 1 (t2.map z01)), (3, .box 78 ((cL 1 (cL 1 z01)) t3))] [I_ t0, z3n 40 [z0i 0, z0i 1, z0i 3]] [(0, .box 26 ((cL 1 z01) t1)), (1, .box 26 [z0i 2]), (2, .row 3 1 (r.2.2.map z01)), (3, .box 78 ((cL 1 (cL 1 z01)) t3))] (z35 [AL 1 z01 r.1, z00 r.2.1]) := by
  refine Ko (fun (r : (List Int) × Bool × (List Int)) => [(0, .box 26 ((cL 1 z01) t1)), (1, .box 26 [z0i 2]), (2, .row 3 1 (r.2.2.map z01)), (3, .box 78 ((cL 1 (cL 1 z01)) t3))]) (fun (r : (List Int) × Bool × (List Int)) => z35 [AL 1 z01 r.1, z00 r.2.1]) Tryz.func39 q (n := 23) q (KBL.cons inferInstance (KBL.cons (KB.clo (KBL.cons (KB.obj q) (KBL.cons (KB.obj q) (KBL.cons (KB.obj q) inferInstance)))) (inferInstance : KBL 4 []))).kb (InsOk.spec (.box q kbl_nk (.box q (KBL.cons (KB.obj q) inferInstance) (.row q (NKC.flat _ _) (.box q kbl_nk .nil))))) q hr fun X hΨ => ?_
  refine Jq q <| z17 (I_ t0) q q <| z17 (z3n 40 [z0i 0, z0i 1, z0i 3]) q q <| Ra (z1m) q q <| Ra (z00 false) q q <| R0 <| Jq q <| z11 (I_ t0) z1t q q q ?_
  refine z1b (fun h1 => ?_) (fun _ => z0u)
  refine r_make (cc := z01) 4 0 ap_26 z_3 q q h1.1 h1.2 q q <| z1x 5 _ z_26 q q <| z2p (z0i 5) (z0i 4) [z0i 4] sz_26 q .obj q q q q q q <| R0 <| Jq q <| z1x 6 _ z_116 q q <| R0 <| Jq q ?_
  refine r_mkClo [z1r (z01 t0), z1r [z3n 40 [z0i 0, z0i 1, z0i 3]], z0i 5, z0i 6] q q <| z2p (z0i 6) (z3n 78 [z1r (z01 t0), z1r [z3n 40 [z0i 0, z0i 1, z0i 3]], z0i 5, z0i 6]) [z3n 78 [z1r (z01 t0), z1r [z3n 40 [z0i 0, z0i 1, z0i 3]], z0i 5, z0i 6]] sz_116 q .obj q q q q q q <| R0 <| Js <| Jq q <| z11 (I_ t0) z1t q q q <| z0d fun b2 h3 => r_mul b2 q q (Option.some.inj h3) q <| z0d fun b4 h5 => ?_
  refine z1l b4 q q (Option.some.inj h5) q <| Rm (I_ 0) q q <| R0 <| z0n <| Jn (fun x6 => ⟨fr [(0, I_ t0), (6, z0i 4), (7, z0i 6), (9, I_ t0), (12, I_ t0), (14, I_ b4), (15, I_ x6.2.2)], hp [(0, .box 26 ((cL 1 z01) t1)), (1, .box 26 [z0i 2]), (2, .row 3 1 (x6.1.map z01)), (3, .box 78 ((cL 1 (cL 1 z01)) t3)), (4, .box 26 [z0i 5]), (5, .row 3 1 (x6.2.1.map z01)), (6, .box 116 [z3n 78 [z1r (z01 t0), z1r [z3n 40 [z0i 0, z0i 1, z0i 3]], z0i 4, z0i 6]])], 7⟩) [] [(4, 5), (5, 4)] [] q (.same q (.cons (A := z0i 5) q (.obj q q q) (.cons (A := z0i 6) q (.obj q q q) (.same q (.s3 q q q .nil))))) (.cons q q q q (.box (.cons .same .nil)) q q (.cons q q q q (.box (.cons (.obj q q q) .nil)) q q (.cons q q q q (.row (NKC.flat _ _)) q q (.cons q q q q (.box (.cons .same .nil)) q q (.cons q q q q (.box (.cons (.obj q q q) .nil)) q q (.cons q q q q (.row (NKC.flat _ _)) q q (.cons q q q q (.box (.cons (.clo (.cons .same (.cons (.ptr (.cons (.clo (.cons (.obj q q q) (.cons (.obj q q q) (.cons (.obj q q q) .nil)))) .nil)) (.cons (.obj q q q) (.cons (.obj q q q) .nil))))) .nil)) q q .nil))))))) q q (fun E7 hE7 x6 => ?_)
  refine Jq q <| z1o q q q <| R0 <| Js <| z09 q (fun h12 => ?_) (fun h12 => ?_)
  rotate_left
  · exact z1j q <| z0x <| Jq q <| Ra (z1m) q q <| Ra (z00 false) q q <| R0 <| J_retK hΨ (z16 (As := [z1m, z00 false]) q q (.cons (.tmp (A := z1m) q) (.cons (.tmp (A := z00 false) q) .nil))) [] [] [] q (fun y hy => by cases hy; exact ⟨(.cons q q q q (.box (.cons .same .nil)) q q (.cons q q q q (.box (.cons (.obj q q q) .nil)) q q (.cons q q q q (.row (NKC.flat _ _)) q q (.cons q q q q (.box (.cons .same .nil)) q q .nil)))), (.tup (.cons .nil (.cons .same .nil)))⟩)
  refine z0e <| Js <| z0n <| Jq q <| Rm (I_ x6.2.2) q q <| Ra (I_ x6.2.2) q q <| R0 <| Jq q ?_
  refine z2b (z0i 6) (z3n 78 [z1r (z01 t0), z1r [z3n 40 [z0i 0, z0i 1, z0i 3]], z0i 4, z0i 6]) sc_116 q .obj q q q <| Rm (I_ x6.2.2) q q <| z0d fun b13 h14 => r_callKC [z1r (z01 t0), z1r [z3n 40 [z0i 0, z0i 1, z0i 3]], z0i 4, z0i 6] [] [] [] [] 7 [(0, .box 26 ((cL 1 z01) t1)), (1, .box 26 [z0i 2]), (2, .row 3 1 (x6.1.map z01)), (3, .box 78 ((cL 1 (cL 1 z01)) t3)), (4, .box 26 [z0i 5]), (5, .row 3 1 (x6.2.1.map z01)), (6, .box 116 [z3n 78 [z1r (z01 t0), z1r [z3n 40 [z0i 0, z0i 1, z0i 3]], z0i 4, z0i 6]])] [(0, .box 26 ((cL 1 z01) t1)), (1, .box 26 [z0i 2]), (2, .row 3 1 (b13.2.1.map z01)), (3, .box 78 ((cL 1 (cL 1 z01)) t3)), (4, .box 26 [z0i 5]), (5, .row 3 1 (b13.2.2.map z01)), (6, .box 116 [z3n 78 [z1r (z01 t0), z1r [z3n 40 [z0i 0, z0i 1, z0i 3]], z0i 4, z0i 6]])] (z00 b13.1) [I_ 0, I_ x6.2.2] q fn_78 (k_weight_least_1_s1 _ _ _ _ _ _ _ _ _ h14) (.cons q (.cons q (.cons q (.cons q (.cons q (.cons q (.cons q .nil))))))) q (.cons .same (.cons .same (.cons .same (.cons (.ptr (.cons (.clo (.cons (.obj q q q) (.cons (.obj q q q) (.cons (.obj q q q) .nil)))) .nil)) (.cons (.obj q q q) (.cons (.obj q q q) .nil)))))) (.cons q q q q (.box (.cons .same .nil)) q q (.cons q q q q (.box (.cons (.obj q q q) .nil)) q q (.cons q q q q (.row (NKC.flat _ _)) q q (.cons q q q q (.box (.cons .same .nil)) q q (.cons q q q q (.box (.cons (.obj q q q) .nil)) q q (.cons q q q q (.row (NKC.flat _ _)) q q (.cons q q q q (.box (.cons (.clo (.cons .same (.cons (.ptr (.cons (.clo (.cons (.obj q q q) (.cons (.obj q q q) (.cons (.obj q q q) .nil)))) .nil)) (.cons (.obj q q q) (.cons (.obj q q q) .nil))))) .nil)) q q .nil))))))) (.cons q q q q (.box (.cons .same .nil)) q q (.cons q q q q (.box (.cons (.obj q q q) .nil)) q q (.cons q q q q (.row (NKC.flat _ _)) q q (.cons q q q q (.box (.cons .same .nil)) q q (.cons q q q q (.box (.cons (.obj q q q) .nil)) q q (.cons q q q q (.row (NKC.flat _ _)) q q (.cons q q q q (.box (.cons (.clo (.cons .same (.cons (.ptr (.cons (.clo (.cons (.obj q q q) (.cons (.obj q q q) (.cons (.obj q q q) .nil)))) .nil)) (.cons (.obj q q q) (.cons (.obj q q q) .nil))))) .nil)) q q .nil))))))) .same q q q <| R0 <| z1v q (fun h15 => ?_) (fun h15 => ?_)
  · exact Jq q <| z2b (z0i 4) (z0i 5) z1s q .obj q q q <| Ra (z0i 5) q q <| Ra (z00 true) q q <| R0 <| z0x <| J_retK hΨ (z16 (As := [z0i 5, z00 true]) q q (.cons (.tmp (A := z0i 5) q) (.cons (.tmp (A := z00 true) q) .nil))) [5] [] [] q (fun y hy => by cases hy; exact ⟨(.cons q q q q (.box (.cons .same .nil)) q q (.cons q q q q (.box (.cons (.obj q q q) .nil)) q q (.cons q q q q (.row (NKC.flat _ _)) q q (.cons q q q q (.box (.cons .same .nil)) q q .nil)))), (.tup (.cons (.frow q q (NKC.flat _ _)) (.cons .same .nil)))⟩)
  exact z0e <| z0s <| z0o 14 (m := b4) q fun q16 => z0o 8 (m := x6.2.2) q fun q17 => Jr q <| z1l (x6.2.2 + 1) q q (z0z (by omega) (by omega)) q <| Rm (I_ (x6.2.2 + 1)) q q <| R0 <| z41 <| Jc [] [] [] (hE7 (b13.2.1, b13.2.2, x6.2.2 + 1)) (.same q (.cons (A := z0i 4) q (.obj q q q) (.cons (A := z0i 6) q (.obj q q q) (.same q (.s3 q q q .nil))))) (.cons q q q q (.box (.cons .same .nil)) q q (.cons q q q q (.box (.cons (.obj q q q) .nil)) q q (.cons q q q q (.row (NKC.flat _ _)) q q (.cons q q q q (.box (.cons .same .nil)) q q (.cons q q q q (.box (.cons (.obj q q q) .nil)) q q (.cons q q q q (.row (NKC.flat _ _)) q q (.cons q q q q (.box (.cons (.clo (.cons .same (.cons (.ptr (.cons (.clo (.cons (.obj q q q) (.cons (.obj q q q) (.cons (.obj q q q) .nil)))) .nil)) (.cons (.obj q q q) (.cons (.obj q q q) .nil))))) .nil)) q q .nil))))))) q q
theorem k_weight_Find (t0 : z06) (t1 : (List z10)) (r : (List Int) × Int) (hr : weight_Find t0 t1 = some r) : FnP PP 14 [z0w (z02 t0), AL 25 z0g t1] (z35 [AL 1 z01 r.1, I_ r.2]) := by
  refine Fo (fun (r : (List Int) × Int) => z35 [AL 1 z01 r.1, I_ r.2]) Tryz.func14 q (n := 40) q q hr fun X hΨ => ?_
  refine Jq q <| z17 (z0w (z02 t0)) q q <| Ra (z1m) q q <| Ra (I_ 0) q q <| R0 <| Jq q <| z14 (z02 t0) z2j q q q q <| Rm (AL 25 z0g t1) q q ?_
  refine z0d fun b1 h2 => z0j _ fn_38 (z8r _ _ _ h2) q q <| Rm (z35 [AL 1 (cL 1 z01) b1.1, AL 1 z01 b1.2.1, I_ b1.2.2]) q q <| z20 (AL 1 (cL 1 z01) b1.1) q q q <| z20 (AL 1 z01 b1.2.1) q q q <| z20 (I_ b1.2.2) q q q <| z1x 0 _ z_78 q q <| z1x 1 _ z_26 q q <| z2p (z0i 0) (AL 1 (cL 1 z01) b1.1) ((cL 1 (cL 1 z01)) b1.1) sz_78 q .obj q q q q q q <| z2p (z0i 1) (AL 1 z01 b1.2.1) ((cL 1 z01) b1.2.1) sz_26 q .obj q q q q q q ?_
  refine Ra (I_ b1.2.2) q q <| R0 <| Js <| Jq q <| Rm (I_ b1.2.2) q q <| z2a q q q <| R0 <| z09 q (fun h3 => ?_) (fun h3 => ?_)
  · exact Jq q <| Rm (I_ b1.2.2) q q <| Ra (z1m) q q <| Ra (I_ b1.2.2) q q <| R0 <| z3g hΨ (z16 (As := [z1m, I_ b1.2.2]) q q (.cons (.tmp (A := z1m) q) (.cons (.tmp (A := I_ b1.2.2) q) .nil))) (fun y hy => by cases hy; exact (.tup (.cons .nil (.cons .same .nil))))
  refine z0e <| Jq q <| z0f ((cL 4 z03) t0.Nodes) z2i q q q <| z11 (AL 4 z03 t0.Nodes) z4z q q q <| z1a (cc := z03) z9h q q <| z0f ((cL 7 z0c) t0.Edges) z3w q q q <| z11 (AL 7 z0c t0.Edges) sc_23 q q q <| z1a (cc := z0c) il_23 q q <| z0d fun b4 h5 => ?_
  refine z1l b4 q q (Option.some.inj h5) q <| z1b (fun h6 => ?_) (fun _ => z0u)
  refine r_make (cc := z01) 2 0 ap_26 z_3 q q h6.1 h6.2 q q <| z1x 3 _ z_26 q q <| z2p (z0i 3) (z0i 2) [z0i 2] sz_26 q .obj q q q q q q <| R0 <| Jq q <| z2b (z0i 1) (AL 1 z01 b1.2.1) z1s q .obj q q q <| z1a (cc := z01) z2m q q <| r_mkClo [z0i 1, z0i 3, z0i 0] q q <| z0d fun b7 h8 => ?_
  refine r_callK [] [(0, 1), (1, 3), (3, 0)] [(1, 0), (3, 1), (0, 3)] [] 4 [(1, .box 26 ((cL 1 z01) b1.2.1)), (3, .box 26 [z0i 2]), (2, .row 3 1 ((List.replicate b4.toNat 0).map z01)), (0, .box 78 ((cL 1 (cL 1 z01)) b1.1))] [(1, .box 26 ((cL 1 z01) b1.2.1)), (3, .box 26 [z0i 2]), (2, .row 3 1 (b7.2.2.map z01)), (0, .box 78 ((cL 1 (cL 1 z01)) b1.1))] (z35 [AL 1 z01 b7.1, z00 b7.2.1]) [I_ (b1.2.1.length : Int), z3n 40 [z0i 1, z0i 3, z0i 0]] fn_39 (k_weight_least_s0 _ _ _ _ _ h8) (.cons q (.cons q (.cons q (.cons q .nil)))) q (.cons .same (.cons (.clo (.cons (.obj q q q) (.cons (.obj q q q) (.cons (.obj q q q) .nil)))) .nil)) (.cons q q q q (.box (.cons .same .nil)) q q (.cons q q q q (.box (.cons (.obj q q q) .nil)) q q (.cons q q q q (.row (NKC.flat _ _)) q q (.cons q q q q (.box (.cons .same .nil)) q q .nil)))) (.cons q q q q (.box (.cons .same .nil)) q q (.cons q q q q (.box (.cons (.obj q q q) .nil)) q q (.cons q q q q (.row (NKC.flat _ _)) q q (.cons q q q q (.box (.cons .same .nil)) q q .nil)))) (.tup (.cons .same (.cons .same .nil))) q q q <| Rm (z35 [AL 1 z01 b7.1, z00 b7.2.1]) q q <| z20 (AL 1 z01 b7.1) q q q <| z20 (z00 b7.2.1) q q q <| Ra (AL 1 z01 b7.1) q q <| Ra (z00 b7.2.1) q q <| R0 <| Js <| Jq q ?_
  refine Rm (z00 b7.2.1) q q <| z2x q q <| R0 <| z1v q (fun h9 => ?_) (fun h9 => ?_)
  · exact Jq q <| Ra (z1m) q q <| Ra (I_ 10) q q <| R0 <| z3g hΨ (z16 (As := [z1m, I_ 10]) q q (.cons (.tmp (A := z1m) q) (.cons (.tmp (A := I_ 10) q) .nil))) (fun y hy => by cases hy; exact (.tup (.cons .nil (.cons .same .nil))))
  exact z0e <| Jq q <| z2b (z0i 3) (z0i 2) z1s q .obj q q q <| Ra (z0i 2) q q <| Ra (I_ 0) q q <| R0 <| z3g hΨ (z16 (As := [z0i 2, I_ 0]) q q (.cons (.tmp (A := z0i 2) q) (.cons (.tmp (A := I_ 0) q) .nil))) (fun y hy => by cases hy; exact (.tup (.cons (.frow q q (NKC.flat _ _)) (.cons .same .nil))))
theorem k_slices_Max_int (t0 : (List Int)) (r : Int) (hr : slices_Max_int t0 = some r) : FnP PP 84 [AL 1 z01 t0] (I_ r) := by
  refine Fo (fun (r : Int) => I_ r) Tryz.func84 q (n := 25) q q hr fun X hΨ => ?_
  refine Jq q <| Ra (I_ 0) q q <| R0 <| Js <| Jq q <| Rm (AL 1 z01 t0) q q <| z1a (cc := z01) z2m q q <| z1o q q q ?_
  refine R0 <| z09 q (fun h1 => ?_) (fun h1 => ?_)
  · exact Jr q <| z0u
  refine z0e <| Jq q <| Rm (AL 1 z01 t0) q q <| z1b (fun h2 => ?_) (fun _ => z0u)
  refine z2k (cc := z01) z1w q q h2.1 h2.2 q <| z11 (I_ (nth t0 0)) z1t q q q <| Ra (I_ (nth t0 0)) q q <| R0 <| Js <| Jq q <| Ra (I_ 1) q q <| R0 <| z0n ?_
  refine Jl (fun x3 => [(0, AL 1 z01 t0), (2, I_ 0), (3, I_ x3.1), (4, I_ x3.2), (6, I_ (t0.length : Int))]) (.c2 q q (.c3 q q q .nil)) (fun E4 hE4 x3 => ?_)
  refine Js <| Jq q <| Rm (I_ x3.2) q q <| Rm (AL 1 z01 t0) q q <| z1a (cc := z01) z2m q q <| z1o q q q <| R0 <| z09 q (fun h7 => ?_) (fun h7 => ?_)
  rotate_left
  · exact z1j q <| z0x <| Jq q <| Rm (I_ x3.1) q q <| Ra (I_ x3.1) q q <| Rt hΨ q q q
  refine z0e <| Js <| z0n <| Jr q <| Rm (I_ x3.1) q q <| Rm (AL 1 z01 t0) q q <| Rm (I_ x3.2) q q <| z1b (fun h8 => ?_) (fun _ => z0u)
  refine z2k (cc := z01) z1w q q h8.1 h8.2 q <| z11 (I_ (nth t0 x3.2)) z1t q q q <| r_max q q q <| Ra (I_ (if x3.1 < (nth t0 x3.2) then (nth t0 x3.2) else x3.1)) q q <| R0 <| z0s <| z0o 6 (m := (t0.length : Int)) q fun q9 => z0o 4 (m := x3.2) q fun q10 => Jr q <| Rm (I_ x3.2) q q ?_
  exact z1l (x3.2 + 1) q q (z0z (by omega) (by omega)) q <| Ra (I_ (x3.2 + 1)) q q <| R0 <| z41 <| Jk (hE4 ((if x3.1 < (nth t0 x3.2) then (nth t0 x3.2) else x3.1), x3.2 + 1)) (.c2 q q (.c3 q q q .nil))
theorem k_weight_refutes (t0 : (List (List Int))) (t1 : (List Int)) (r : Bool) (hr : z84 t0 t1 = some r) : FnP PP 51 [AL 1 (cL 1 z01) t0, AL 1 z01 t1] (z00 r) := by
  refine Fo (fun (r : Bool) => z00 r) Tryz.func51 q (n := 43) q q hr fun X hΨ => ?_
  refine Jq q <| Ra (z00 false) q q <| R0 <| Js <| Jq q <| r_bsO (cc := z01) 0 [0] z1w zr_3_1 (.cons (A := I_ 0) q q q .nil) q q q q <| Rm (AL 1 z01 t1) q q <| z1b (fun h1 => ?_) (fun _ => z0u)
  refine r_app (cc := z01) (xs := [0]) (ys := t1) 1 ap_26 q q q h1 q q q <| z0d fun b2 h3 => r_callB [(1, .row 3 1 (([0] ++ t1).map z01))] [z0i 1] fn_84 (k_slices_Max_int _ _ h3) (.cons q .nil) q (.cons (.frow q q (NKC.flat _ _)) .nil) q <| z2y q q q <| R0 <| z09 q (fun h4 => ?_) (fun h4 => ?_)
  · exact Jq q <| Ra (z00 false) q q <| Rt hΨ q q q
  refine z0e <| Js <| Jq q <| Rm (AL 1 (cL 1 z01) t0) q q <| z1b (fun h5 => ?_) (fun _ => z0u)
  refine z2k (cc := (cL 1 z01)) el_78 q q h5.1 h5.2 q <| z11 (AL 1 z01 (nth t0 0)) z1s q q q <| z1a (cc := z01) z2m q q <| Rm (I_ 0) q q <| R0 <| z0n <| Jn (fun x6 => ⟨fr [(0, AL 1 (cL 1 z01) t0), (1, AL 1 z01 t1), (11, I_ b2), (16, I_ ((nth t0 0).length : Int)), (17, I_ x6)], hp [], 0⟩) [] [] [] q (.s2 q q (.s3 q q q .nil)) .nil q q (fun E7 hE7 x6 => ?_)
  refine Jq q <| z1o q q q <| R0 <| Js <| z09 q (fun h29 => ?_) (fun h29 => ?_)
  rotate_left
  · exact z1j q <| z0x <| Jq q <| Ra (z00 true) q q <| Rt hΨ q q q
  refine z0e <| Js <| z0n <| Jq q <| Rm (I_ x6) q q <| Ra (I_ x6) q q <| R0 <| Jq q ?_
  refine Ra (I_ 0) q q <| R0 <| Js <| Jq q <| Rm (AL 1 (cL 1 z01) t0) q q <| z1a (cc := (cL 1 z01)) il_78 q q <| Rm (I_ 0) q q <| R0 <| z0n ?_
  refine Jn (fun x30 => ⟨fr [(0, AL 1 (cL 1 z01) t0), (1, AL 1 z01 t1), (5, I_ x6), (6, I_ x30.1), (11, I_ b2), (16, I_ ((nth t0 0).length : Int)), (17, I_ x6), (19, I_ x6), (21, I_ (t0.length : Int)), (22, I_ x30.2)], hp [], 0⟩) [] [] [] q (.same q (.s3 q q q (.s6 q q q q q q .nil))) .nil q q (fun E31 hE31 x30 => ?_)
  refine Jq q <| z1o q q q <| R0 <| Js <| z09 q (fun h39 => ?_) (fun h39 => ?_)
  rotate_left
  · refine z1j q <| z7w <| Jq q <| Rm (I_ x30.1) q q <| z1o q q q <| R0 <| z09 q (fun h49 => ?_) (fun h49 => ?_)
    · exact Jq q <| Ra (z00 false) q q <| R0 <| z0x <| Jt hΨ (z18 q) q q
    exact z0e <| z0s <| z0o 16 (m := ((nth t0 0).length : Int)) q fun q50 => z0o 5 (m := x6) q fun q51 => Jr q <| z1l (x6 + 1) q q (z0z (by omega) (by omega)) q <| Rm (I_ (x6 + 1)) q q <| R0 <| z41 <| Jc [] [] [] (hE7 (x6 + 1)) (.s2 q q (.s3 q q q .nil)) .nil q q
  refine z0e <| Js <| z0n <| Jq q <| Rm (I_ x30.2) q q <| Ra (I_ x30.2) q q <| R0 <| z2g <| Rm (I_ x30.1) q q ?_
  refine Rm (AL 1 z01 t1) q q <| Rm (I_ x30.2) q q <| z1b (fun h40 => ?_) (fun _ => z0u)
  refine z2k (cc := z01) z1w q q h40.1 h40.2 q <| z11 (I_ (nth t1 x30.2)) z1t q q q <| Rm (AL 1 (cL 1 z01) t0) q q <| Rm (I_ x30.2) q q <| z1b (fun h41 => ?_) (fun _ => z0u)
  refine z2k (cc := (cL 1 z01)) el_78 q q h41.1 h41.2 q <| z11 (AL 1 z01 (nth t0 x30.2)) z1s q q q <| Rm (I_ x6) q q <| z1b (fun h42 => ?_) (fun _ => z0u)
  refine z2k (cc := z01) z1w q q h42.1 h42.2 q <| z11 (I_ (nth (nth t0 x30.2) x6)) z1t q q q <| z0d fun b43 h44 => r_mul b43 q q (Option.some.inj h44) q <| z0d fun b45 h46 => z1l b45 q q (Option.some.inj h46) q <| Ra (I_ b45) q q <| z1y (by kernel_rfl) <| z0s <| z0o 21 (m := (t0.length : Int)) q fun q47 => ?_
  exact z0o 7 (m := x30.2) q fun q48 => Jr q <| z1l (x30.2 + 1) q q (z0z (by omega) (by omega)) q <| Rm (I_ (x30.2 + 1)) q q <| R0 <| z41 <| Jc [] [] [] (hE31 (b45, x30.2 + 1)) (.same q (.s3 q q q (.s6 q q q q q q .nil))) .nil q q
theorem k_weight_Refute_1_s5 (t0 : (List Int)) (t1 : (List (List Int))) (r : Bool × (List Int)) (hr : weight_Refute_1_s5 t0 t1 = some r) : FnK PP 50 2 [(0, .row 3 1 (t0.map z01)), (1, .box 78 ((cL 1 (cL 1 z01)) t1))] [z0i 0, z0i 1] [(0, .row 3 1 (r.2.map z01)), (1, .box 78 ((cL 1 (cL 1 z01)) t1))] (z00 r.1) := by
  refine Ko (fun (r : Bool × (List Int)) => [(0, .row 3 1 (r.2.map z01)), (1, .box 78 ((cL 1 (cL 1 z01)) t1))]) (fun (r : Bool × (List Int)) => z00 r.1) Tryz.func50 q (n := 12) q (KBL.cons (KB.obj q) (KBL.cons (KB.obj q) (inferInstance : KBL 2 []))).kb (InsOk.spec (.row q (NKC.flat _ _) (.box q kbl_nk .nil))) q hr fun X hΨ => ?_
  refine Jq q <| Ra (z00 false) q q <| R0 <| Jq q <| Rm (z0i 0) q q <| r_lenO (cc := z01) t0 z2m q q q <| z3a q q q <| Rm (z00 (decide (0 < (t0.length : Int)))) q q ?_
  refine z1b (fun h1 => ?_) (fun h1 => ?_)
  rotate_left
  · exact Rk (z0y q q (df h1)) <| Rk (z0y q q (df h1)) <| Rk (z0y q q (df h1)) <| z0h (z00 false) q (df h1) q q <| Ra (z00 false) q q <| R0 <| J_retK hΨ (z4r q (.tmp (A := z00 false) q)) [] [] [] q (fun y hy => by cases hy; exact ⟨(.cons q q q q (.row (NKC.flat _ _)) q q (.cons q q q q (.box (.cons .same .nil)) q q .nil)), .same⟩)
  exact z2b (z0i 1) (AL 1 (cL 1 z01) t1) sc_78 q .obj q q (g_t q q (dt h1)) <| Rm (z0i 0) q (g_t q q (dt h1)) <| z0d fun b2 h3 => r_callB [(0, .row 3 1 (t0.map z01))] [AL 1 (cL 1 z01) t1, z0i 0] fn_51 (k_weight_refutes _ _ _ h3) (.cons q .nil) q (.cons .same (.cons (.frow q q (NKC.flat _ _)) .nil)) (g_t q q (dt h1)) <| z0k (z00 b2) q (dt h1) q q <| Ra (z00 b2) q q <| R0 <| J_retK hΨ (z4r q (.tmp (A := z00 b2) q)) [] [] [] q (fun y hy => by cases hy; exact ⟨(.cons q q q q (.row (NKC.flat _ _)) q q (.cons q q q q (.box (.cons .same .nil)) q q .nil)), .same⟩)
end Go.Proofs.YtngimdmkomkeoaaGreat.K
