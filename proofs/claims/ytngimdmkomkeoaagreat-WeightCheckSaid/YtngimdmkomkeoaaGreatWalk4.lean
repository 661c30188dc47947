/- Each function computes what its plain form says. -/
import Derived.Test.YtngimdmkomkeoaaGreatWalk3
set_option linter.unusedVariables false
set_option linter.unusedSimpArgs false
namespace Go.Proofs.YtngimdmkomkeoaaGreat.K
open Go.RowKit Go.Proofs
set_option maxHeartbeats 4000000
set_option maxRecDepth 100000
theorem k_weight_natural_1 (t0 : Int) (r : Bool) (hr : weight_natural_1 t0 = some r) : FnP PP 83 [I_ t0] (z00 r) := by
  refine Fo (fun (r : Bool) => z00 r) Tryz.func83 q (n := 9) q q hr fun X hΨ => ?_
  refine Jq q <| Ra (z00 false) q q <| R0 <| Jq q <| Rm (I_ t0) q q <| z1o q q q <| Rm (z00 (decide (t0 < 0))) q q <| z1b (fun h1 => ?_) (fun h1 => ?_)
  · exact Rk (z0v q q (dt h1)) <| Rk (z0v q q (dt h1)) <| z0k (z00 true) q (dt h1) q q <| Ra (z00 true) q q <| Rt hΨ q q q
  exact Rm (I_ t0) q (g_f q q (df h1)) <| z3a q q (g_f q q (df h1)) <| z0h (z00 (decide (1000 < t0))) q (df h1) q q <| Ra (z00 (decide (1000 < t0))) q q <| Rt hΨ q q q
theorem k_weight_natural (t0 : (List Int)) (t1 : Int) (r : Bool) (hr : z86 t0 t1 = some r) : FnP PP 49 [AL 1 z01 t0, I_ t1] (z00 r) := by
  refine Fo (fun (r : Bool) => z00 r) Tryz.func49 q (n := 14) q q hr fun X hΨ => ?_
  refine Jq q <| Ra (z00 false) q q <| R0 <| Jq q <| Rm (AL 1 z01 t0) q q <| z1a (cc := z01) z2m q q <| Rm (I_ t1) q q <| z2y q q q ?_
  refine Rm (z00 (decide ((t0.length : Int) = t1))) q q <| z1b (fun h1 => ?_) (fun h1 => ?_)
  rotate_left
  · exact Rk (z0y q q (df h1)) <| Rk (z0y q q (df h1)) <| Rk (z0y q q (df h1)) <| z0h (z00 false) q (df h1) q q <| Ra (z00 false) q q <| Rt hΨ q q q
  exact Rm (AL 1 z01 t0) q (g_t q q (dt h1)) <| z0d fun b2 h3 => r_callB [] [AL 1 z01 t0, z3n 83 []] fn_82 (z2q _ _ _ h3) .nil q (.cons .same (.cons (.cloFn fn_83 (fun x y h => k_weight_natural_1 x y h)) .nil)) (g_t q q (dt h1)) <| z2x q (g_t q q (dt h1)) <| z0k (z00 (!b2)) q (dt h1) q q <| Ra (z00 (!b2)) q q <| Rt hΨ q q q
theorem k_weight_Check (t0 : z06) (t1 : (List z10)) (t2 : (List Int)) (r : Bool) (hr : weight_Check t0 t1 t2 = some r) : FnP PP 16 [z0w (z02 t0), AL 25 z0g t1, AL 1 z01 t2] (z00 r) := by
  refine Fo (fun (r : Bool) => z00 r) Tryz.func16 q (n := 35) q q hr fun X hΨ => ?_
  refine Jq q <| z17 (z0w (z02 t0)) q q <| Ra (z00 false) q q <| R0 <| Jq q <| z14 (z02 t0) z2j q q q q <| Rm (AL 25 z0g t1) q q <| z0d fun b1 h2 => ?_
  refine z0j _ fn_38 (z8r _ _ _ h2) q q <| Rm (z35 [AL 1 (cL 1 z01) b1.1, AL 1 z01 b1.2.1, I_ b1.2.2]) q q <| z20 (AL 1 (cL 1 z01) b1.1) q q q <| z20 (AL 1 z01 b1.2.1) q q q <| z20 (I_ b1.2.2) q q q <| Ra (AL 1 (cL 1 z01) b1.1) q q <| Ra (AL 1 z01 b1.2.1) q q <| Ra (I_ b1.2.2) q q <| R0 <| Js ?_
  refine Jr q <| Rm (I_ b1.2.2) q q <| z2y q q q <| Rm (z00 (decide (b1.2.2 = 0))) q q <| z1b (fun h3 => ?_) (fun h3 => ?_)
  rotate_left
  · refine Rk (z0y q q (df h3)) <| Rk (z0y q q (df h3)) <| Rk (z0y q q (df h3)) <| Rk (z0y q q (df h3)) <| Rk (z0y q q (df h3)) <| Rk (z0y q q (df h3)) <| Rk (z0y q q (df h3)) <| Rk (z0y q q (df h3)) <| Rk (z0y q q (df h3)) <| z0h (z00 false) q (df h3) q q ?_
    exact Rm (z00 false) q q <| Rk (z0y q q q) <| Rk (z0y q q q) <| Rk (z0y q q q) <| z0h (z00 false) q q q q <| Ra (z00 false) q q <| Rt hΨ q q q
  refine Rm (AL 1 z01 t2) q (g_t q q (dt h3)) <| z0f ((cL 4 z03) t0.Nodes) z2i q q (g_t q q (dt h3)) <| z11 (AL 4 z03 t0.Nodes) z4z q q (g_t q q (dt h3)) <| z1a (cc := z03) z9h q (g_t q q (dt h3)) <| z0f ((cL 7 z0c) t0.Edges) z3w q q (g_t q q (dt h3)) <| z11 (AL 7 z0c t0.Edges) sc_23 q q (g_t q q (dt h3)) <| z1a (cc := z0c) il_23 q (g_t q q (dt h3)) <| z0d fun b4 h5 => z1l b4 q q (Option.some.inj h5) (g_t q q (dt h3)) <| z0d fun b6 h7 => ?_
  refine z0j _ fn_49 (k_weight_natural _ _ _ h7) q (g_t q q (dt h3)) <| z0k (z00 b6) q (dt h3) q q <| Rm (z00 b6) q q <| z1b (fun h8 => ?_) (fun h8 => ?_)
  rotate_left
  · exact Rk (z0y q q (bf h8)) <| Rk (z0y q q (bf h8)) <| Rk (z0y q q (bf h8)) <| z0h (z00 false) q (bf h8) q q <| Ra (z00 false) q q <| Rt hΨ q q q
  exact Rm (AL 1 (cL 1 z01) b1.1) q (g_t q q h8) <| Rm (AL 1 z01 t2) q (g_t q q h8) <| z0d fun b9 h10 => z0j _ fn_41 (k_weight_proves _ _ _ h10) q (g_t q q h8) <| z0k (z00 b9) q h8 q q <| Ra (z00 b9) q q <| Rt hΨ q q q
theorem k_ref39_refutes (t0 : (List Int)) (t1 : (List (List Int))) (r : Bool) (hr : ref39_refutes t0 t1 = some r) : FnP PP 52 [AL 1 z01 t0, AL 1 (cL 1 z01) t1] (z00 r) := by
  refine Fo (fun (r : Bool) => z00 r) Tryz.func52 q (n := 41) q q hr fun X hΨ => ?_
  refine Jq q <| Ra (z00 false) q q <| R0 <| Js <| Jq q <| Rm (AL 1 z01 t0) q q <| z0d fun b1 h2 => z0j _ fn_46 (k_ref39_total _ _ h2) q q ?_
  refine z2y q q q <| R0 <| z09 q (fun h3 => ?_) (fun h3 => ?_)
  · exact Jq q <| Ra (z00 false) q q <| Rt hΨ q q q
  refine z0e <| Js <| Jq q <| Ra (I_ 0) q q <| R0 <| z0n <| Jl (fun x4 => [(0, AL 1 z01 t0), (1, AL 1 (cL 1 z01) t1), (5, I_ x4), (9, I_ b1)]) (.cons q (.c3 q q q .nil)) (fun E5 hE5 x4 => ?_)
  refine Js <| Jq q <| Rm (I_ x4) q q <| Rm (AL 1 (cL 1 z01) t1) q q <| z1b (fun h28 => ?_) (fun _ => z0u)
  refine z2k (cc := (cL 1 z01)) el_78 q q h28.1 h28.2 q <| z11 (AL 1 z01 (nth t1 0)) z1s q q q <| z1a (cc := z01) z2m q q <| z1o q q q <| R0 <| z09 q (fun h29 => ?_) (fun h29 => ?_)
  rotate_left
  · exact z1j q <| z0x <| Jq q <| Ra (z00 true) q q <| Rt hΨ q q q
  refine z0e <| Js <| z0n <| Jq q <| Ra (I_ 0) q q <| R0 <| Js <| Jq q ?_
  refine Ra (I_ 0) q q <| R0 <| z0n <| Jl (fun x30 => [(0, AL 1 z01 t0), (1, AL 1 (cL 1 z01) t1), (5, I_ x4), (6, I_ x30.1), (7, I_ x30.2), (9, I_ b1), (11, I_ x4), (15, I_ ((nth t1 0).length : Int))]) (.c2 q q (.c6 q q q q q q .nil)) (fun E31 hE31 x30 => ?_)
  refine Js <| Jq q <| Rm (I_ x30.2) q q <| Rm (AL 1 z01 t0) q q <| z1a (cc := z01) z2m q q <| z1o q q q <| R0 <| z09 q (fun h39 => ?_) (fun h39 => ?_)
  rotate_left
  · refine z1j q <| z7w <| Jq q <| Rm (I_ x30.1) q q <| z1o q q q <| R0 <| z09 q (fun h49 => ?_) (fun h49 => ?_)
    · exact Jq q <| Ra (z00 false) q q <| R0 <| z0x <| Jt hΨ (z18 q) q q
    exact z0e <| z0s <| z0o 15 (m := ((nth t1 0).length : Int)) q fun q50 => z0o 5 (m := x4) q fun q51 => Jr q <| Rm (I_ x4) q q <| z1l (x4 + 1) q q (z0z (by omega) (by omega)) q <| Ra (I_ (x4 + 1)) q q <| R0 <| z41 <| Jk (hE5 (x4 + 1)) (.cons q (.c3 q q q .nil))
  refine z0e <| Js <| z0n <| z2g <| Rm (I_ x30.1) q q <| Rm (AL 1 z01 t0) q q <| Rm (I_ x30.2) q q <| z1b (fun h40 => ?_) (fun _ => z0u)
  refine z2k (cc := z01) z1w q q h40.1 h40.2 q <| z11 (I_ (nth t0 x30.2)) z1t q q q <| Rm (AL 1 (cL 1 z01) t1) q q <| Rm (I_ x30.2) q q <| z1b (fun h41 => ?_) (fun _ => z0u)
  refine z2k (cc := (cL 1 z01)) el_78 q q h41.1 h41.2 q <| z11 (AL 1 z01 (nth t1 x30.2)) z1s q q q <| Rm (I_ x4) q q <| z1b (fun h42 => ?_) (fun _ => z0u)
  refine z2k (cc := z01) z1w q q h42.1 h42.2 q <| z11 (I_ (nth (nth t1 x30.2) x4)) z1t q q q <| z0d fun b43 h44 => r_mul b43 q q (Option.some.inj h44) q <| z0d fun b45 h46 => z1l b45 q q (Option.some.inj h46) q <| Ra (I_ b45) q q <| z1y (by kernel_rfl) <| z0s <| z0o 21 (m := (t0.length : Int)) q fun q47 => ?_
  exact z0o 7 (m := x30.2) q fun q48 => Jr q <| Rm (I_ x30.2) q q <| z1l (x30.2 + 1) q q (z0z (by omega) (by omega)) q <| Ra (I_ (x30.2 + 1)) q q <| R0 <| z41 <| Jk (hE31 (b45, x30.2 + 1)) (.c2 q q (.c6 q q q q q q .nil))
theorem k_weight_CheckRefute (t0 : z06) (t1 : (List z10)) (t2 : (List Int)) (r : Bool) (hr : z6v t0 t1 t2 = some r) : FnP PP 19 [z0w (z02 t0), AL 25 z0g t1, AL 1 z01 t2] (z00 r) := by
  refine Fo (fun (r : Bool) => z00 r) Tryz.func19 q (n := 35) q q hr fun X hΨ => ?_
  refine Jq q <| z17 (z0w (z02 t0)) q q <| Ra (z00 false) q q <| R0 <| Jq q <| z14 (z02 t0) z2j q q q q <| Rm (AL 25 z0g t1) q q <| z0d fun b1 h2 => ?_
  refine z0j _ fn_38 (z8r _ _ _ h2) q q <| Rm (z35 [AL 1 (cL 1 z01) b1.1, AL 1 z01 b1.2.1, I_ b1.2.2]) q q <| z20 (AL 1 (cL 1 z01) b1.1) q q q <| z20 (AL 1 z01 b1.2.1) q q q <| z20 (I_ b1.2.2) q q q <| Ra (AL 1 (cL 1 z01) b1.1) q q <| Ra (AL 1 z01 b1.2.1) q q <| Ra (I_ b1.2.2) q q <| R0 <| Js ?_
  refine Jr q <| Rm (I_ b1.2.2) q q <| z2y q q q <| Rm (z00 (decide (b1.2.2 = 0))) q q <| z1b (fun h3 => ?_) (fun h3 => ?_)
  rotate_left
  · refine Rk (z0y q q (df h3)) <| Rk (z0y q q (df h3)) <| Rk (z0y q q (df h3)) <| Rk (z0y q q (df h3)) <| z0h (z00 false) q (df h3) q q <| Rm (z00 false) q q <| Rk (z0y q q q) <| Rk (z0y q q q) <| Rk (z0y q q q) <| z0h (z00 false) q q q q ?_
    exact Rm (z00 false) q q <| Rk (z0y q q q) <| Rk (z0y q q q) <| Rk (z0y q q q) <| z0h (z00 false) q q q q <| Ra (z00 false) q q <| Rt hΨ q q q
  refine Rm (AL 1 z01 t2) q (g_t q q (dt h3)) <| Rm (AL 25 z0g t1) q (g_t q q (dt h3)) <| z1a (cc := z0g) il_44 q (g_t q q (dt h3)) <| z0d fun b4 h5 => z0j _ fn_49 (k_weight_natural _ _ _ h5) q (g_t q q (dt h3)) <| z0k (z00 b4) q (dt h3) q q <| Rm (z00 b4) q q <| z1b (fun h6 => ?_) (fun h6 => ?_)
  rotate_left
  · refine Rk (z0y q q (bf h6)) <| Rk (z0y q q (bf h6)) <| Rk (z0y q q (bf h6)) <| z0h (z00 false) q (bf h6) q q <| Rm (z00 false) q q <| Rk (z0y q q q) <| Rk (z0y q q q) <| Rk (z0y q q q) <| z0h (z00 false) q q q q <| Ra (z00 false) q q ?_
    exact Rt hΨ q q q
  refine Rm (AL 1 z01 t2) q (g_t q q h6) <| z1a (cc := z01) z2m q (g_t q q h6) <| z3a q q (g_t q q h6) <| z0k (z00 (decide (0 < (t2.length : Int)))) q h6 q q <| Rm (z00 (decide (0 < (t2.length : Int)))) q q <| z1b (fun h7 => ?_) (fun h7 => ?_)
  rotate_left
  · exact Rk (z0y q q (df h7)) <| Rk (z0y q q (df h7)) <| Rk (z0y q q (df h7)) <| z0h (z00 false) q (df h7) q q <| Ra (z00 false) q q <| Rt hΨ q q q
  exact Rm (AL 1 (cL 1 z01) b1.1) q (g_t q q (dt h7)) <| Rm (AL 1 z01 t2) q (g_t q q (dt h7)) <| z0d fun b8 h9 => z0j _ fn_51 (k_weight_refutes _ _ _ h9) q (g_t q q (dt h7)) <| z0k (z00 b8) q (dt h7) q q <| Ra (z00 b8) q q <| Rt hΨ q q q
theorem k_ref39_natural (t0 : (List Int)) (t1 : Int) (r : Bool) (hr : z9r t0 t1 = some r) : FnP PP 53 [AL 1 z01 t0, I_ t1] (z00 r) := by
  refine Fo (fun (r : Bool) => z00 r) Tryz.func53 q (n := 27) q q hr fun X hΨ => ?_
  refine Jq q <| Ra (z00 false) q q <| R0 <| Js <| Jq q <| Rm (AL 1 z01 t0) q q <| z1a (cc := z01) z2m q q <| Rm (I_ t1) q q ?_
  refine z2a q q q <| R0 <| z09 q (fun h1 => ?_) (fun h1 => ?_)
  · exact Jq q <| Ra (z00 false) q q <| Rt hΨ q q q
  refine z0e <| Js <| Jq q <| Ra (I_ 0) q q <| R0 <| z0n <| Jl (fun x2 => [(0, AL 1 z01 t0), (1, I_ t1), (5, I_ x2), (7, I_ (t0.length : Int)), (8, I_ t1)]) (.c2 q q (.c3 q q q .nil)) (fun E3 hE3 x2 => ?_)
  refine Js <| Jq q <| Rm (I_ x2) q q <| Rm (I_ t1) q q <| z1o q q q <| R0 <| z09 q (fun h8 => ?_) (fun h8 => ?_)
  rotate_left
  · exact z1j q <| z0x <| Jq q <| Ra (z00 true) q q <| Rt hΨ q q q
  refine z0e <| Js <| z0n <| Jq q <| Rm (AL 1 z01 t0) q q <| Rm (I_ x2) q q <| z1b (fun h9 => ?_) (fun _ => z0u)
  refine z2k (cc := z01) z1w q q h9.1 h9.2 q <| z11 (I_ (nth t0 x2)) z1t q q q <| z1o q q q <| Rm (z00 (decide ((nth t0 x2) < 0))) q q <| z1b (fun h10 => ?_) (fun h10 => ?_)
  · refine Rk (z0v q q (dt h10)) <| Rk (z0v q q (dt h10)) <| Rk (z0v q q (dt h10)) <| Rk (z0v q q (dt h10)) <| Rk (z0v q q (dt h10)) <| z0k (z00 true) q (dt h10) q q <| R0 <| z1d q q <| Jq q ?_
    exact Ra (z00 false) q q <| R0 <| z0x <| Jt hΨ (z18 q) q q
  refine Rm (AL 1 z01 t0) q (g_f q q (df h10)) <| Rm (I_ x2) q (g_f q q (df h10)) <| z2k (cc := z01) z1w q q h9.1 h9.2 (g_f q q (df h10)) <| z11 (I_ (nth t0 x2)) z1t q q (g_f q q (df h10)) <| z3a q q (g_f q q (df h10)) <| z0h (z00 (decide (1000 < (nth t0 x2)))) q (df h10) q q <| R0 <| z09 q (fun h11 => ?_) (fun h11 => ?_)
  · exact Jq q <| Ra (z00 false) q q <| R0 <| z0x <| Jt hΨ (z18 q) q q
  exact z0e <| z0s <| z0o 1 (m := t1) q fun q12 => z0o 5 (m := x2) q fun q13 => Jr q <| Rm (I_ x2) q q <| z1l (x2 + 1) q q (z0z (by omega) (by omega)) q <| Ra (I_ (x2 + 1)) q q <| R0 <| z41 <| Jk (hE3 (x2 + 1)) (.c2 q q (.c3 q q q .nil))
theorem k_ref39_Check (t0 : z06) (t1 : (List z10)) (t2 : (List Int)) (r : Bool) (hr : ref39_Check t0 t1 t2 = some r) : FnP PP 21 [z0w (z02 t0), AL 25 z0g t1, AL 1 z01 t2] (z00 r) := by
  refine Fo (fun (r : Bool) => z00 r) Tryz.func21 q (n := 33) q q hr fun X hΨ => ?_
  refine Jq q <| z17 (z0w (z02 t0)) q q <| Ra (z00 false) q q <| R0 <| Jq q <| z14 (z02 t0) z2j q q q q <| Rm (AL 25 z0g t1) q q <| z0d fun b1 h2 => ?_
  refine z0j _ fn_42 (k_ref39_Effects _ _ _ h2) q q <| Rm (z35 [AL 1 (cL 1 z01) b1.1, I_ b1.2]) q q <| z20 (AL 1 (cL 1 z01) b1.1) q q q <| z20 (I_ b1.2) q q q <| Ra (AL 1 (cL 1 z01) b1.1) q q <| Ra (I_ b1.2) q q <| R0 <| Jq q <| Rm (I_ b1.2) q q ?_
  refine z2y q q q <| Rm (z00 (decide (b1.2 = 0))) q q <| z1b (fun h3 => ?_) (fun h3 => ?_)
  rotate_left
  · refine Rk (z0y q q (df h3)) <| Rk (z0y q q (df h3)) <| Rk (z0y q q (df h3)) <| Rk (z0y q q (df h3)) <| Rk (z0y q q (df h3)) <| Rk (z0y q q (df h3)) <| Rk (z0y q q (df h3)) <| Rk (z0y q q (df h3)) <| Rk (z0y q q (df h3)) <| z0h (z00 false) q (df h3) q q ?_
    exact Rm (z00 false) q q <| Rk (z0y q q q) <| Rk (z0y q q q) <| Rk (z0y q q q) <| z0h (z00 false) q q q q <| Ra (z00 false) q q <| Rt hΨ q q q
  refine Rm (AL 1 z01 t2) q (g_t q q (dt h3)) <| z0f ((cL 4 z03) t0.Nodes) z2i q q (g_t q q (dt h3)) <| z11 (AL 4 z03 t0.Nodes) z4z q q (g_t q q (dt h3)) <| z1a (cc := z03) z9h q (g_t q q (dt h3)) <| z0f ((cL 7 z0c) t0.Edges) z3w q q (g_t q q (dt h3)) <| z11 (AL 7 z0c t0.Edges) sc_23 q q (g_t q q (dt h3)) <| z1a (cc := z0c) il_23 q (g_t q q (dt h3)) <| z0d fun b4 h5 => z1l b4 q q (Option.some.inj h5) (g_t q q (dt h3)) <| z0d fun b6 h7 => ?_
  refine z0j _ fn_53 (k_ref39_natural _ _ _ h7) q (g_t q q (dt h3)) <| z0k (z00 b6) q (dt h3) q q <| Rm (z00 b6) q q <| z1b (fun h8 => ?_) (fun h8 => ?_)
  rotate_left
  · exact Rk (z0y q q (bf h8)) <| Rk (z0y q q (bf h8)) <| Rk (z0y q q (bf h8)) <| z0h (z00 false) q (bf h8) q q <| Ra (z00 false) q q <| Rt hΨ q q q
  exact Rm (AL 1 z01 t2) q (g_t q q h8) <| Rm (AL 1 (cL 1 z01) b1.1) q (g_t q q h8) <| z0d fun b9 h10 => z0j _ fn_47 (k_ref39_lowers _ _ _ h10) q (g_t q q h8) <| z0k (z00 b9) q h8 q q <| Ra (z00 b9) q q <| Rt hΨ q q q
theorem k_ref39_CheckRefute (t0 : z06) (t1 : (List z10)) (t2 : (List Int)) (r : Bool) (hr : z7m t0 t1 t2 = some r) : FnP PP 22 [z0w (z02 t0), AL 25 z0g t1, AL 1 z01 t2] (z00 r) := by
  refine Fo (fun (r : Bool) => z00 r) Tryz.func22 q (n := 33) q q hr fun X hΨ => ?_
  refine Jq q <| z17 (z0w (z02 t0)) q q <| Ra (z00 false) q q <| R0 <| Jq q <| z14 (z02 t0) z2j q q q q <| Rm (AL 25 z0g t1) q q <| z0d fun b1 h2 => ?_
  refine z0j _ fn_42 (k_ref39_Effects _ _ _ h2) q q <| Rm (z35 [AL 1 (cL 1 z01) b1.1, I_ b1.2]) q q <| z20 (AL 1 (cL 1 z01) b1.1) q q q <| z20 (I_ b1.2) q q q <| Ra (AL 1 (cL 1 z01) b1.1) q q <| Ra (I_ b1.2) q q <| R0 <| Jq q <| Rm (I_ b1.2) q q ?_
  refine z2y q q q <| Rm (z00 (decide (b1.2 = 0))) q q <| z1b (fun h3 => ?_) (fun h3 => ?_)
  rotate_left
  · refine Rk (z0y q q (df h3)) <| Rk (z0y q q (df h3)) <| Rk (z0y q q (df h3)) <| Rk (z0y q q (df h3)) <| z0h (z00 false) q (df h3) q q <| Rm (z00 false) q q <| Rk (z0y q q q) <| Rk (z0y q q q) <| Rk (z0y q q q) <| z0h (z00 false) q q q q ?_
    exact Rm (z00 false) q q <| Rk (z0y q q q) <| Rk (z0y q q q) <| Rk (z0y q q q) <| z0h (z00 false) q q q q <| Ra (z00 false) q q <| Rt hΨ q q q
  refine Rm (AL 1 z01 t2) q (g_t q q (dt h3)) <| Rm (AL 25 z0g t1) q (g_t q q (dt h3)) <| z1a (cc := z0g) il_44 q (g_t q q (dt h3)) <| z0d fun b4 h5 => z0j _ fn_53 (k_ref39_natural _ _ _ h5) q (g_t q q (dt h3)) <| z0k (z00 b4) q (dt h3) q q <| Rm (z00 b4) q q <| z1b (fun h6 => ?_) (fun h6 => ?_)
  rotate_left
  · refine Rk (z0y q q (bf h6)) <| Rk (z0y q q (bf h6)) <| Rk (z0y q q (bf h6)) <| z0h (z00 false) q (bf h6) q q <| Rm (z00 false) q q <| Rk (z0y q q q) <| Rk (z0y q q q) <| Rk (z0y q q q) <| z0h (z00 false) q q q q <| Ra (z00 false) q q ?_
    exact Rt hΨ q q q
  refine Rm (AL 25 z0g t1) q (g_t q q h6) <| z1a (cc := z0g) il_44 q (g_t q q h6) <| z3a q q (g_t q q h6) <| z0k (z00 (decide (0 < (t1.length : Int)))) q h6 q q <| Rm (z00 (decide (0 < (t1.length : Int)))) q q <| z1b (fun h7 => ?_) (fun h7 => ?_)
  rotate_left
  · exact Rk (z0y q q (df h7)) <| Rk (z0y q q (df h7)) <| Rk (z0y q q (df h7)) <| z0h (z00 false) q (df h7) q q <| Ra (z00 false) q q <| Rt hΨ q q q
  exact Rm (AL 1 z01 t2) q (g_t q q (dt h7)) <| Rm (AL 1 (cL 1 z01) b1.1) q (g_t q q (dt h7)) <| z0d fun b8 h9 => z0j _ fn_52 (k_ref39_refutes _ _ _ h9) q (g_t q q (dt h7)) <| z0k (z00 b8) q (dt h7) q q <| Ra (z00 b8) q q <| Rt hΨ q q q
theorem k_law39_WeightCheck (t0 : z06) (t1 : (List z10)) (t2 : z4s) (r : Bool) (hr : z7r t0 t1 t2 = some r) : FnP PP 6 [z0w (z02 t0), AL 25 z0g t1, z0w (z5t t2)] (z00 r) := by
  refine Fo (fun (r : Bool) => z00 r) Tryz.func6 q (n := 54) q q hr fun X hΨ => ?_
  refine Jq q <| z17 (z0w (z02 t0)) q q <| z17 (z0w (z5t t2)) q q <| Ra (z00 false) q q <| R0 <| Js <| Jq q <| z0d fun b1 h2 => ?_
  refine z0j _ fn_9 (zab  _ h2) q q <| z2x q q <| Rm (z00 (!b1)) q q <| z1b (fun h3 => ?_) (fun h3 => ?_)
  · refine Rk (z0v q q h3) <| Rk (z0v q q h3) <| Rk (z0v q q h3) <| Rk (z0v q q h3) <| z0k (z00 true) q h3 q q <| Rm (z00 true) q q <| Rk (z0v q q q) <| Rk (z0v q q q) <| Rk (z0v q q q) <| Rk (z0v q q q) ?_
    refine z0k (z00 true) q q q q <| Rm (z00 true) q q <| Rk (z0v q q q) <| Rk (z0v q q q) <| Rk (z0v q q q) <| Rk (z0v q q q) <| z0k (z00 true) q q q q <| R0 <| z1d q q <| Js ?_
    exact Jr q <| z0d fun b9 h10 => z0j _ fn_9 (zab  _ h10) q q <| Ra (z00 b9) q q <| Rt hΨ q q q
  refine z14 (z02 t0) z2j q q q (g_f q q (bf h3)) <| Rm (AL 25 z0g t1) q (g_f q q (bf h3)) <| z0d fun b4 h5 => z0j _ fn_10 (k_law39_small _ _ _ h5) q (g_f q q (bf h3)) <| z2x q (g_f q q (bf h3)) <| z0h (z00 (!b4)) q (bf h3) q q <| Rm (z00 (!b4)) q q <| z1b (fun h6 => ?_) (fun h6 => ?_)
  · refine Rk (z0v q q h6) <| Rk (z0v q q h6) <| Rk (z0v q q h6) <| Rk (z0v q q h6) <| z0k (z00 true) q h6 q q <| Rm (z00 true) q q <| Rk (z0v q q q) <| Rk (z0v q q q) <| Rk (z0v q q q) <| Rk (z0v q q q) ?_
    exact z0k (z00 true) q q q q <| R0 <| z1d q q <| Jq q <| z0d fun b11 h12 => z0j _ fn_9 (zab  _ h12) q q <| Ra (z00 b11) q q <| Rt hΨ q q q
  refine r_ixA ((cL 1 z01) t2.e0) ar_52 q q (by decide) (by decide) q (g_f q q (bf h6)) <| z11 (AL 1 z01 t2.e0) z1s q q (g_f q q (bf h6)) <| z1a (cc := z01) z2m q (g_f q q (bf h6)) <| z3a q q (g_f q q (bf h6)) <| z0h (z00 (decide (60 < (t2.e0.length : Int)))) q (bf h6) q q <| Rm (z00 (decide (60 < (t2.e0.length : Int)))) q q <| z1b (fun h7 => ?_) (fun h7 => ?_)
  · refine Rk (z0v q q (dt h7)) <| Rk (z0v q q (dt h7)) <| Rk (z0v q q (dt h7)) <| Rk (z0v q q (dt h7)) <| z0k (z00 true) q (dt h7) q q <| R0 <| z1d q q <| Jq q <| z0d fun b13 h14 => ?_
    exact z0j _ fn_9 (zab  _ h14) q q <| Ra (z00 b13) q q <| Rt hΨ q q q
  refine r_ixA ((cL 1 z01) t2.e1) ar_52 q q (by decide) (by decide) q (g_f q q (df h7)) <| z11 (AL 1 z01 t2.e1) z1s q q (g_f q q (df h7)) <| z1a (cc := z01) z2m q (g_f q q (df h7)) <| z3a q q (g_f q q (df h7)) <| z0h (z00 (decide (60 < (t2.e1.length : Int)))) q (df h7) q q <| R0 <| z09 q (fun h8 => ?_) (fun h8 => ?_)
  · exact Jq q <| z0d fun b15 h16 => z0j _ fn_9 (zab  _ h16) q q <| Ra (z00 b15) q q <| Rt hΨ q q q
  refine z0e <| Js <| z2g <| z14 (z02 t0) z2j q q q q <| Rm (AL 25 z0g t1) q q <| r_ixA ((cL 1 z01) t2.e0) ar_52 q q (by decide) (by decide) q q <| z11 (AL 1 z01 t2.e0) z1s q q q <| z0d fun b17 h18 => z0j _ fn_20 (FnK.toP (r' := AL 1 z01 b17) (z4h _ _ h18) (.frow q q (NKC.flat _ _))) q q <| z0d fun b19 h20 => ?_
  refine z0j _ fn_16 (k_weight_Check _ _ _ _ h20) q q <| z14 (z02 t0) z2j q q q q <| Rm (AL 25 z0g t1) q q <| r_ixA ((cL 1 z01) t2.e0) ar_52 q q (by decide) (by decide) q q <| z11 (AL 1 z01 t2.e0) z1s q q q <| z0d fun b21 h22 => z0j _ fn_21 (k_ref39_Check _ _ _ _ h22) q q <| r_eqB ut_4 q q q <| Rm (z00 (b19 == b21)) q q <| z1b (fun h23 => ?_) (fun h23 => ?_)
  rotate_left
  · refine Rk (z0y q q (bf h23)) <| Rk (z0y q q (bf h23)) <| Rk (z0y q q (bf h23)) <| Rk (z0y q q (bf h23)) <| Rk (z0y q q (bf h23)) <| Rk (z0y q q (bf h23)) <| Rk (z0y q q (bf h23)) <| Rk (z0y q q (bf h23)) <| Rk (z0y q q (bf h23)) <| Rk (z0y q q (bf h23)) ?_
    exact Rk (z0y q q (bf h23)) <| Rk (z0y q q (bf h23)) <| z0h (z00 false) q (bf h23) q q <| Ra (z00 false) q q <| z1y (by kernel_rfl) <| Jt hΨ (z18 q) q q
  refine z14 (z02 t0) z2j q q q (g_t q q h23) <| Rm (AL 25 z0g t1) q (g_t q q h23) <| r_ixA ((cL 1 z01) t2.e1) ar_52 q q (by decide) (by decide) q (g_t q q h23) <| z11 (AL 1 z01 t2.e1) z1s q q (g_t q q h23) <| z0d fun b24 h25 => z0j _ fn_20 (FnK.toP (r' := AL 1 z01 b24) (z4h _ _ h25) (.frow q q (NKC.flat _ _))) q (g_t q q h23) <| z0d fun b26 h27 => z0j _ fn_19 (k_weight_CheckRefute _ _ _ _ h27) q (g_t q q h23) <| z14 (z02 t0) z2j q q q (g_t q q h23) <| Rm (AL 25 z0g t1) q (g_t q q h23) ?_
  exact r_ixA ((cL 1 z01) t2.e1) ar_52 q q (by decide) (by decide) q (g_t q q h23) <| z11 (AL 1 z01 t2.e1) z1s q q (g_t q q h23) <| z0d fun b28 h29 => z0j _ fn_22 (k_ref39_CheckRefute _ _ _ _ h29) q (g_t q q h23) <| r_eqB ut_4 q q (g_t q q h23) <| z0k (z00 (b26 == b28)) q h23 q q <| Ra (z00 (b26 == b28)) q q <| z1y (by kernel_rfl) <| Jt hΨ (z18 q) q q
end Go.Proofs.YtngimdmkomkeoaaGreat.K
