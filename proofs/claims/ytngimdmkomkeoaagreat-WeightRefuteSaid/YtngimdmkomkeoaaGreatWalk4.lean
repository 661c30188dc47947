/- Each function computes what its plain form says. -/
import Derived.Test.YtngimdmkomkeoaaGreatWalk3
set_option linter.unusedVariables false
set_option linter.unusedSimpArgs false
namespace Go.Proofs.YtngimdmkomkeoaaGreat.K
open Go.RowKit Go.Proofs
set_option maxHeartbeats 4000000
set_option maxRecDepth 100000
theorem k_weight_natural_1 (t0 : Int) (r : Bool) (hr : weight_natural_1 t0 = some r) : FnP PP 83 [I_ t0] (z00 r) := by
  refine Fo (fun (r : Bool) => z00 r) Tryz.func83 q (n := 9) q q hr fun X hΨ => ?_
  refine Jq q <| Ra (z00 false) q q <| R0 <| Jq q <| Rm (I_ t0) q q <| z1o q q q <| Rm (z00 (decide (t0 < 0))) q q <| z1b (fun h1 => ?_) (fun h1 => ?_)
  · exact Rk (z0v q q (dt h1)) <| Rk (z0v q q (dt h1)) <| z0n (z00 true) q (dt h1) q q <| Ra (z00 true) q q <| Rt hΨ q q q
  exact Rm (I_ t0) q (g_f q q (df h1)) <| z3k q q (g_f q q (df h1)) <| z0i (z00 (decide (1000 < t0))) q (df h1) q q <| Ra (z00 (decide (1000 < t0))) q q <| Rt hΨ q q q
theorem k_weight_natural (t0 : (List Int)) (t1 : Int) (r : Bool) (hr : weight_natural t0 t1 = some r) : FnP PP 49 [AL 1 z01 t0, I_ t1] (z00 r) := by
  refine Fo (fun (r : Bool) => z00 r) Tryz.func49 q (n := 14) q q hr fun X hΨ => ?_
  refine Jq q <| Ra (z00 false) q q <| R0 <| Jq q <| Rm (AL 1 z01 t0) q q <| z1a (cc := z01) z2y q q <| Rm (I_ t1) q q <| z34 q q q ?_
  refine Rm (z00 (decide ((t0.length : Int) = t1))) q q <| z1b (fun h1 => ?_) (fun h1 => ?_)
  rotate_left
  · exact Rk (z16 q q (df h1)) <| Rk (z16 q q (df h1)) <| Rk (z16 q q (df h1)) <| z0i (z00 false) q (df h1) q q <| Ra (z00 false) q q <| Rt hΨ q q q
  exact Rm (AL 1 z01 t0) q (g_t q q (dt h1)) <| z0d fun b2 h3 => z9h [] [AL 1 z01 t0, z3r 83 []] fn_82 (z2v _ _ _ h3) .nil q (.cons .same (.cons (.cloFn fn_83 (fun x y h => k_weight_natural_1 x y h)) .nil)) (g_t q q (dt h1)) <| z2z q (g_t q q (dt h1)) <| z0n (z00 (!b2)) q (dt h1) q q <| Ra (z00 (!b2)) q q <| Rt hΨ q q q
theorem k_ref39_refutes (t0 : (List Int)) (t1 : (List (List Int))) (r : Bool) (hr : zac t0 t1 = some r) : FnP PP 52 [AL 1 z01 t0, AL 1 (cL 1 z01) t1] (z00 r) := by
  refine Fo (fun (r : Bool) => z00 r) Tryz.func52 q (n := 41) q q hr fun X hΨ => ?_
  refine Jq q <| Ra (z00 false) q q <| R0 <| Js <| Jq q <| Rm (AL 1 z01 t0) q q <| z0d fun b1 h2 => z0l _ fn_46 (k_ref39_total _ _ h2) q q ?_
  refine z34 q q q <| R0 <| z0a q (fun h3 => ?_) (fun h3 => ?_)
  · exact Jq q <| Ra (z00 false) q q <| Rt hΨ q q q
  refine z0e <| Js <| Jq q <| Ra (I_ 0) q q <| R0 <| z0m <| Jl (fun x4 => [(0, AL 1 z01 t0), (1, AL 1 (cL 1 z01) t1), (5, I_ x4), (9, I_ b1)]) (.cons q (.c3 q q q .nil)) (fun E5 hE5 x4 => ?_)
  refine Js <| Jq q <| Rm (I_ x4) q q <| Rm (AL 1 (cL 1 z01) t1) q q <| z1b (fun h28 => ?_) (fun _ => z0u)
  refine z2r (cc := (cL 1 z01)) el_78 q q h28.1 h28.2 q <| z14 (AL 1 z01 (nth t1 0)) z1v q q q <| z1a (cc := z01) z2y q q <| z1o q q q <| R0 <| z0a q (fun h29 => ?_) (fun h29 => ?_)
  rotate_left
  · exact z1k q <| z0x <| Jq q <| Ra (z00 true) q q <| Rt hΨ q q q
  refine z0e <| Js <| z0m <| Jq q <| Ra (I_ 0) q q <| R0 <| Js <| Jq q ?_
  refine Ra (I_ 0) q q <| R0 <| z0m <| Jl (fun x30 => [(0, AL 1 z01 t0), (1, AL 1 (cL 1 z01) t1), (5, I_ x4), (6, I_ x30.1), (7, I_ x30.2), (9, I_ b1), (11, I_ x4), (15, I_ ((nth t1 0).length : Int))]) (.c2 q q (.c6 q q q q q q .nil)) (fun E31 hE31 x30 => ?_)
  refine Js <| Jq q <| Rm (I_ x30.2) q q <| Rm (AL 1 z01 t0) q q <| z1a (cc := z01) z2y q q <| z1o q q q <| R0 <| z0a q (fun h39 => ?_) (fun h39 => ?_)
  rotate_left
  · refine z1k q <| z7t <| Jq q <| Rm (I_ x30.1) q q <| z1o q q q <| R0 <| z0a q (fun h49 => ?_) (fun h49 => ?_)
    · exact Jq q <| Ra (z00 false) q q <| R0 <| z0x <| Jt hΨ (z19 q) q q
    exact z0e <| z0s <| z0p 15 (m := ((nth t1 0).length : Int)) q fun q50 => z0p 5 (m := x4) q fun q51 => Jr q <| Rm (I_ x4) q q <| z1m (x4 + 1) q q (z0y (by omega) (by omega)) q <| Ra (I_ (x4 + 1)) q q <| R0 <| z4a <| Jk (hE5 (x4 + 1)) (.cons q (.c3 q q q .nil))
  refine z0e <| Js <| z0m <| z2j <| Rm (I_ x30.1) q q <| Rm (AL 1 z01 t0) q q <| Rm (I_ x30.2) q q <| z1b (fun h40 => ?_) (fun _ => z0u)
  refine z2r (cc := z01) z1w q q h40.1 h40.2 q <| z14 (I_ (nth t0 x30.2)) z1t q q q <| Rm (AL 1 (cL 1 z01) t1) q q <| Rm (I_ x30.2) q q <| z1b (fun h41 => ?_) (fun _ => z0u)
  refine z2r (cc := (cL 1 z01)) el_78 q q h41.1 h41.2 q <| z14 (AL 1 z01 (nth t1 x30.2)) z1v q q q <| Rm (I_ x4) q q <| z1b (fun h42 => ?_) (fun _ => z0u)
  refine z2r (cc := z01) z1w q q h42.1 h42.2 q <| z14 (I_ (nth (nth t1 x30.2) x4)) z1t q q q <| z0d fun b43 h44 => r_mul b43 q q (Option.some.inj h44) q <| z0d fun b45 h46 => z1m b45 q q (Option.some.inj h46) q <| Ra (I_ b45) q q <| z20 (by kernel_rfl) <| z0s <| z0p 21 (m := (t0.length : Int)) q fun q47 => ?_
  exact z0p 7 (m := x30.2) q fun q48 => Jr q <| Rm (I_ x30.2) q q <| z1m (x30.2 + 1) q q (z0y (by omega) (by omega)) q <| Ra (I_ (x30.2 + 1)) q q <| R0 <| z4a <| Jk (hE31 (b45, x30.2 + 1)) (.c2 q q (.c6 q q q q q q .nil))
theorem k_ref39_Refute (t0 : z06) (t1 : (List z0z)) (r : (List Int) × Int) (hr : ref39_Refute t0 t1 = some r) : FnP PP 18 [z0w (z02 t0), AL 25 z0g t1] (z3a [AL 1 z01 r.1, I_ r.2]) := by
  refine Fo (fun (r : (List Int) × Int) => z3a [AL 1 z01 r.1, I_ r.2]) Tryz.func18 q (n := 50) q q hr fun X hΨ => ?_
  refine Jq q <| z17 (z0w (z02 t0)) q q <| Ra (z1l) q q <| Ra (I_ 0) q q <| R0 <| Jq q <| z15 (z02 t0) z2p q q q q <| Rm (AL 25 z0g t1) q q ?_
  refine z0d fun b1 h2 => z0l _ fn_42 (k_ref39_Effects _ _ _ h2) q q <| Rm (z3a [AL 1 (cL 1 z01) b1.1, I_ b1.2]) q q <| z1z (AL 1 (cL 1 z01) b1.1) q q q <| z1z (I_ b1.2) q q q <| Ra (AL 1 (cL 1 z01) b1.1) q q <| Ra (I_ b1.2) q q <| R0 <| Js <| Js ?_
  refine Jr q <| Rm (I_ b1.2) q q <| z26 q q q <| R0 <| z0a q (fun h3 => ?_) (fun h3 => ?_)
  · exact Jq q <| Rm (I_ b1.2) q q <| Ra (z1l) q q <| Ra (I_ b1.2) q q <| R0 <| z3d hΨ (z12 (As := [z1l, I_ b1.2]) q q (.cons (.tmp (A := z1l) q) (.cons (.tmp (A := I_ b1.2) q) .nil))) (fun y hy => by cases hy; exact (.tup (.cons .nil (.cons .same .nil))))
  refine z0e <| Jq q <| Rm (AL 25 z0g t1) q q <| z1a (cc := z0g) il_44 q q <| z1b (fun h4 => ?_) (fun _ => z0u)
  refine r_make (cc := z01) 0 0 ap_26 z_3 q q h4.1 h4.2 q q <| Ra (z0h 0) q q <| Ra (z1l) q q <| Ra (z00 false) q q <| R0 <| Js <| Jq q <| Rm (AL 25 z0g t1) q q <| z1a (cc := z0g) il_44 q q ?_
  refine z3k q q q <| Ra (z00 (decide (0 < (t1.length : Int)))) q q <| R0 <| z0m <| Jn (fun x5 => ⟨fr [(5, I_ 0), (6, AL 1 (cL 1 z01) b1.1), (7, I_ b1.2), (8, z0h 0), (9, z0h 1), (10, z00 x5.2.2.1), (11, z00 x5.2.2.2), (17, I_ b1.2), (18, I_ b1.2), (22, I_ (t1.length : Int)), (25, I_ (t1.length : Int))], hp [(0, .row 3 1 (x5.1.map z01)), (1, .row 3 1 (x5.2.1.map z01))], 2⟩) [] [] [1] q (.s3 q q q (.cons (A := z0h 0) q (.obj q q q) (.cons (A := z1l) q (.nilobj q q) (.s6 q q q q q q .nil)))) (.cons q q q q (.row (NKC.flat _ _)) q q (.new q q .nil)) q q (fun E6 hE6 x5 => ?_)
  refine Js <| Jq q <| Rm (z00 x5.2.2.2) q q <| R0 <| z1s q (fun h16 => ?_) (fun h16 => ?_)
  rotate_left
  · refine z1k q <| z7t <| Js <| Jq q <| Rm (z00 x5.2.2.1) q q <| z2z q q <| R0 <| z1s q (fun h39 => ?_) (fun h39 => ?_)
    · exact Jq q <| Ra (z1l) q q <| Ra (I_ 10) q q <| R0 <| z3d hΨ (z12 (As := [z1l, I_ 10]) q q (.cons (.tmp (A := z1l) q) (.cons (.tmp (A := I_ 10) q) .nil))) (fun y hy => by cases hy; exact (.tup (.cons .nil (.cons .same .nil))))
    exact z0e <| Jq q <| Rm (z0h 1) q q <| Ra (z0h 1) q q <| Ra (I_ 0) q q <| R0 <| z3d hΨ (z12 (As := [z0h 1, I_ 0]) q q (.cons (.tmp (A := z0h 1) q) (.cons (.tmp (A := I_ 0) q) .nil))) (fun y hy => by cases hy; exact (.tup (.cons (.frow q q (NKC.flat _ _)) (.cons .same .nil))))
  refine z0e <| Js <| z0m <| Js ?_
  apply z2q (fun v35 => ⟨fr [(5, I_ 0), (6, AL 1 (cL 1 z01) b1.1), (7, I_ b1.2), (8, z0h 0), (9, z0h 1), (10, z00 v35.2), (17, I_ b1.2), (18, I_ b1.2), (22, I_ (t1.length : Int)), (25, I_ (t1.length : Int))], hp [(0, .row 3 1 (x5.1.map z01)), (1, .row 3 1 (v35.1.map z01))], 2⟩) (fun v35 => z6s x5 v35)
  · intro K36
    apply z2q (fun v33 => ⟨fr [(5, I_ 0), (6, AL 1 (cL 1 z01) b1.1), (7, I_ b1.2), (8, z0h 0), (9, z0h 1), (10, z00 x5.2.2.1), (17, I_ b1.2), (18, I_ b1.2), (22, I_ (t1.length : Int)), (25, I_ (t1.length : Int))], hp [(0, .row 3 1 (x5.1.map z01)), (1, .row 3 1 (x5.2.1.map z01))], 2⟩) (fun v33 => z5c x5 v33)
    · intro K34
      apply z2q (fun v30 => ⟨fr [(5, I_ 0), (6, AL 1 (cL 1 z01) b1.1), (7, I_ b1.2), (8, z0h 0), (17, I_ b1.2), (18, I_ b1.2), (22, I_ (t1.length : Int)), (25, I_ (t1.length : Int))], hp [(0, .row 3 1 (x5.1.map z01))], 1⟩) (fun v30 => z6t x5 v30)
      · intro K32
        refine Jr q <| Rm (z00 x5.2.2.1) q q <| z2z q q <| Rm (z00 (!x5.2.2.1)) q q <| z1b (fun h17 => ?_) (fun h17 => ?_)
        · refine Rk (z0v q q h17) <| Rk (z0v q q h17) <| Rk (z0v q q h17) <| Rk (z0v q q h17) <| Rk (z0v q q h17) <| z0n (z00 true) q h17 q q <| Rm (z00 true) q q <| Rm (z0h 0) q (g_t q q q) <| Rm (AL 1 (cL 1 z01) b1.1) q (g_t q q q) <| z0d fun b18 h19 => ?_
          refine z9h [(0, .row 3 1 (x5.1.map z01))] [z0h 0, AL 1 (cL 1 z01) b1.1] fn_52 (k_ref39_refutes _ _ _ h19) (.cons q .nil) q (.cons (.frow q q (NKC.flat _ _)) (.cons .same .nil)) (g_t q q q) <| z0n (z00 b18) q q q q <| R0 <| z1s q (fun h20 => ?_) (fun h20 => ?_)
          · exact Jc [] [] [] (K32 ()) (.s3 q q q (.cons (A := z0h 0) q (.obj q q q) (.same q (.s3 q q q .nil)))) (.cons q q q q (.row (NKC.flat _ _)) q q .nil) q q
          exact Jc [] [] [] (K34 ()) (.s3 q q q (.cons (A := z0h 0) q (.obj q q q) (.cons (A := z0h 1) q (.obj q q q) (.s2 q q (.s3 q q q .nil))))) (.cons q q q q (.row (NKC.flat _ _)) q q (.cons q q q q (.row (NKC.flat _ _)) q q .nil)) q q
        refine Rm (z0h 0) q (g_f q q (bf h17)) <| z0d fun b21 h22 => z9h [(0, .row 3 1 (x5.1.map z01))] [z0h 0] fn_46 (k_ref39_total _ _ h22) (.cons q .nil) q (.cons (.frow q q (NKC.flat _ _)) .nil) (g_f q q (bf h17)) <| Rm (z0h 1) q (g_f q q (bf h17)) <| z0d fun b23 h24 => z9h [(1, .row 3 1 (x5.2.1.map z01))] [z0h 1] fn_46 (k_ref39_total _ _ h24) (.cons q .nil) q (.cons (.frow q q (NKC.flat _ _)) .nil) (g_f q q (bf h17)) <| z1o q q (g_f q q (bf h17)) <| z0i (z00 (decide (b21 < b23))) q (bf h17) q q <| Rm (z00 (decide (b21 < b23))) q q <| z1b (fun h25 => ?_) (fun h25 => ?_)
        rotate_left
        · exact Rk (z16 q q (df h25)) <| Rk (z16 q q (df h25)) <| Rk (z16 q q (df h25)) <| z0i (z00 false) q (df h25) q q <| R0 <| zb3 q q <| Jc [] [] [] (K34 ()) (.s3 q q q (.cons (A := z0h 0) q (.obj q q q) (.cons (A := z0h 1) q (.obj q q q) (.s2 q q (.s3 q q q .nil))))) (.cons q q q q (.row (NKC.flat _ _)) q q (.cons q q q q (.row (NKC.flat _ _)) q q .nil)) q q
        refine Rm (z0h 0) q (g_t q q (dt h25)) <| Rm (AL 1 (cL 1 z01) b1.1) q (g_t q q (dt h25)) <| z0d fun b26 h27 => z9h [(0, .row 3 1 (x5.1.map z01))] [z0h 0, AL 1 (cL 1 z01) b1.1] fn_52 (k_ref39_refutes _ _ _ h27) (.cons q .nil) q (.cons (.frow q q (NKC.flat _ _)) (.cons .same .nil)) (g_t q q (dt h25)) <| z0n (z00 b26) q (dt h25) q q <| R0 <| z1s q (fun h28 => ?_) (fun h28 => ?_)
        · exact Jc [] [] [] (K32 ()) (.s3 q q q (.cons (A := z0h 0) q (.obj q q q) (.same q (.s3 q q q .nil)))) (.cons q q q q (.row (NKC.flat _ _)) q q .nil) q q
        exact Jc [] [] [] (K34 ()) (.s3 q q q (.cons (A := z0h 0) q (.obj q q q) (.cons (A := z0h 1) q (.obj q q q) (.s2 q q (.s3 q q q .nil))))) (.cons q q q q (.row (NKC.flat _ _)) q q (.cons q q q q (.row (NKC.flat _ _)) q q .nil)) q q
      intro v30
      refine Jr q <| r_bs0 1 z1w q q <| Rm (z0h 0) q q <| z1b (fun h31 => ?_) (fun _ => z0u)
      exact r_app0O (cc := z01) (ys := x5.1) 2 ap_26 q q q q h31 q q q <| Ra (z0h 2) q q <| Ra (z00 true) q q <| R0 <| Jc [] [(1, 2)] [] (K36 (x5.1, true)) (.s3 q q q (.cons (A := z0h 0) q (.obj q q q) (.cons (A := z0h 2) q (.obj q q q) (.s2 q q (.s3 q q q .nil))))) (.cons q q q q (.row (NKC.flat _ _)) q q (.cons q q q q (.row (NKC.flat _ _)) q q .nil)) q q
    intro v33
    exact z0e <| Jc [] [] [] (K36 (x5.2.1, x5.2.2.1)) (.s3 q q q (.cons (A := z0h 0) q (.obj q q q) (.cons (A := z0h 1) q (.obj q q q) (.s2 q q (.s3 q q q .nil))))) (.cons q q q q (.row (NKC.flat _ _)) q q (.cons q q q q (.row (NKC.flat _ _)) q q .nil)) q q
  intro v35
  exact z0s <| Jr q <| Rm (z0h 0) q q <| z0d fun b37 h38 => r_callK [] [] [] [] 2 [(0, .row 3 1 (x5.1.map z01))] [(0, .row 3 1 (b37.2.map z01))] (z00 b37.1) [z0h 0] fn_45 (k_ref39_next _ _ h38) (.cons q .nil) q (.cons (.obj q q q) .nil) (.cons q q q q (.row (NKC.flat _ _)) q q .nil) (.cons q q q q (.row (NKC.flat _ _)) q q .nil) .same q q q <| Ra (z00 b37.1) q q <| R0 <| z4a <| Jc [] [] [] (hE6 (b37.2, v35.1, v35.2, b37.1)) (.s3 q q q (.cons (A := z0h 0) q (.obj q q q) (.cons (A := z0h 1) q (.obj q q q) (.s6 q q q q q q .nil)))) (.cons q q q q (.row (NKC.flat _ _)) q q (.cons q q q q (.row (NKC.flat _ _)) q q .nil)) q q
theorem k_weight_CheckRefute (t0 : z06) (t1 : (List z0z)) (t2 : (List Int)) (r : Bool) (hr : z79 t0 t1 t2 = some r) : FnP PP 19 [z0w (z02 t0), AL 25 z0g t1, AL 1 z01 t2] (z00 r) := by
  refine Fo (fun (r : Bool) => z00 r) Tryz.func19 q (n := 35) q q hr fun X hΨ => ?_
  refine Jq q <| z17 (z0w (z02 t0)) q q <| Ra (z00 false) q q <| R0 <| Jq q <| z15 (z02 t0) z2p q q q q <| Rm (AL 25 z0g t1) q q <| z0d fun b1 h2 => ?_
  refine z0l _ fn_38 (k_weight_effects _ _ _ h2) q q <| Rm (z3a [AL 1 (cL 1 z01) b1.1, AL 1 z01 b1.2.1, I_ b1.2.2]) q q <| z1z (AL 1 (cL 1 z01) b1.1) q q q <| z1z (AL 1 z01 b1.2.1) q q q <| z1z (I_ b1.2.2) q q q <| Ra (AL 1 (cL 1 z01) b1.1) q q <| Ra (AL 1 z01 b1.2.1) q q <| Ra (I_ b1.2.2) q q <| R0 <| Js ?_
  refine Jr q <| Rm (I_ b1.2.2) q q <| z34 q q q <| Rm (z00 (decide (b1.2.2 = 0))) q q <| z1b (fun h3 => ?_) (fun h3 => ?_)
  rotate_left
  · refine Rk (z16 q q (df h3)) <| Rk (z16 q q (df h3)) <| Rk (z16 q q (df h3)) <| Rk (z16 q q (df h3)) <| z0i (z00 false) q (df h3) q q <| Rm (z00 false) q q <| Rk (z16 q q q) <| Rk (z16 q q q) <| Rk (z16 q q q) <| z0i (z00 false) q q q q ?_
    exact Rm (z00 false) q q <| Rk (z16 q q q) <| Rk (z16 q q q) <| Rk (z16 q q q) <| z0i (z00 false) q q q q <| Ra (z00 false) q q <| Rt hΨ q q q
  refine Rm (AL 1 z01 t2) q (g_t q q (dt h3)) <| Rm (AL 25 z0g t1) q (g_t q q (dt h3)) <| z1a (cc := z0g) il_44 q (g_t q q (dt h3)) <| z0d fun b4 h5 => z0l _ fn_49 (k_weight_natural _ _ _ h5) q (g_t q q (dt h3)) <| z0n (z00 b4) q (dt h3) q q <| Rm (z00 b4) q q <| z1b (fun h6 => ?_) (fun h6 => ?_)
  rotate_left
  · refine Rk (z16 q q (bf h6)) <| Rk (z16 q q (bf h6)) <| Rk (z16 q q (bf h6)) <| z0i (z00 false) q (bf h6) q q <| Rm (z00 false) q q <| Rk (z16 q q q) <| Rk (z16 q q q) <| Rk (z16 q q q) <| z0i (z00 false) q q q q <| Ra (z00 false) q q ?_
    exact Rt hΨ q q q
  refine Rm (AL 1 z01 t2) q (g_t q q h6) <| z1a (cc := z01) z2y q (g_t q q h6) <| z3k q q (g_t q q h6) <| z0n (z00 (decide (0 < (t2.length : Int)))) q h6 q q <| Rm (z00 (decide (0 < (t2.length : Int)))) q q <| z1b (fun h7 => ?_) (fun h7 => ?_)
  rotate_left
  · exact Rk (z16 q q (df h7)) <| Rk (z16 q q (df h7)) <| Rk (z16 q q (df h7)) <| z0i (z00 false) q (df h7) q q <| Ra (z00 false) q q <| Rt hΨ q q q
  exact Rm (AL 1 (cL 1 z01) b1.1) q (g_t q q (dt h7)) <| Rm (AL 1 z01 t2) q (g_t q q (dt h7)) <| z0d fun b8 h9 => z0l _ fn_51 (k_weight_refutes _ _ _ h9) q (g_t q q (dt h7)) <| z0n (z00 b8) q (dt h7) q q <| Ra (z00 b8) q q <| Rt hΨ q q q
theorem k_law39_WeightRefute (t0 : z06) (t1 : (List z0z)) (r : Bool) (hr : z7c t0 t1 = some r) : FnP PP 5 [z0w (z02 t0), AL 25 z0g t1] (z00 r) := by
  refine Fo (fun (r : Bool) => z00 r) Tryz.func5 q (n := 67) q q hr fun X hΨ => ?_
  refine Jq q <| z17 (z0w (z02 t0)) q q <| Ra (z00 false) q q <| R0 <| Js <| Jq q <| z0d fun b1 h2 => z0l _ fn_9 (k_law39_awake  _ h2) q q ?_
  refine z2z q q <| Rm (z00 (!b1)) q q <| z1b (fun h3 => ?_) (fun h3 => ?_)
  · refine Rk (z0v q q h3) <| Rk (z0v q q h3) <| Rk (z0v q q h3) <| Rk (z0v q q h3) <| z0n (z00 true) q h3 q q <| R0 <| z1d q q <| Jq q <| z0d fun b7 h8 => ?_
    exact z0l _ fn_9 (k_law39_awake  _ h8) q q <| Ra (z00 b7) q q <| Rt hΨ q q q
  refine z15 (z02 t0) z2p q q q (g_f q q (bf h3)) <| Rm (AL 25 z0g t1) q (g_f q q (bf h3)) <| z0d fun b4 h5 => z0l _ fn_10 (k_law39_small _ _ _ h5) q (g_f q q (bf h3)) <| z2z q (g_f q q (bf h3)) <| z0i (z00 (!b4)) q (bf h3) q q <| R0 <| z1s q (fun h6 => ?_) (fun h6 => ?_)
  · exact Jq q <| z0d fun b9 h10 => z0l _ fn_9 (k_law39_awake  _ h10) q q <| Ra (z00 b9) q q <| Rt hΨ q q q
  refine z0e <| Jq q <| z15 (z02 t0) z2p q q q q <| Rm (AL 25 z0g t1) q q <| z0d fun b11 h12 => z0l _ fn_17 (k_weight_Refute _ _ _ h12) q q <| Rm (z3a [AL 1 z01 b11.1, I_ b11.2]) q q <| z1z (AL 1 z01 b11.1) q q q <| z1z (I_ b11.2) q q q ?_
  refine Ra (AL 1 z01 b11.1) q q <| Ra (I_ b11.2) q q <| R0 <| Jq q <| z15 (z02 t0) z2p q q q q <| Rm (AL 25 z0g t1) q q <| z0d fun b13 h14 => z0l _ fn_18 (k_ref39_Refute _ _ _ h14) q q <| Rm (z3a [AL 1 z01 b13.1, I_ b13.2]) q q ?_
  refine z1z (AL 1 z01 b13.1) q q q <| z1z (I_ b13.2) q q q <| Ra (AL 1 z01 b13.1) q q <| Ra (I_ b13.2) q q <| R0 <| Js <| Js ?_
  apply z2q (fun v23 => ⟨fr [(5, AL 1 z01 b11.1), (6, I_ b11.2), (7, AL 1 z01 b13.1), (8, I_ b13.2), (25, I_ b11.2), (31, I_ b13.2)], fun _ => none, 0⟩) (fun v23 => z44 b11 b13 v23)
  · intro K27
    refine Jr q <| Rm (AL 1 z01 b11.1) q q <| Rm (AL 1 z01 b13.1) q q <| z0d fun b15 h16 => z0l _ fn_13 (z5h _ _ _ h16) q q <| z2z q q <| Rm (z00 (!b15)) q q <| z1b (fun h17 => ?_) (fun h17 => ?_)
    · refine Rk (z0v q q h17) <| Rk (z0v q q h17) <| Rk (z0v q q h17) <| z0n (z00 true) q h17 q q <| Rm (z00 true) q q <| Rk (z0v q q q) <| Rk (z0v q q q) <| z0n (z00 true) q q q q <| R0 <| z1d q q ?_
      exact Jk (K27 ()) (.c6 q q q q q q .nil)
    refine Rm (I_ b11.2) q (g_f q q (bf h17)) <| Rm (I_ b13.2) q (g_f q q (bf h17)) <| z26 q q (g_f q q (bf h17)) <| z0i (z00 (decide (¬ (b11.2 = b13.2)))) q (bf h17) q q <| Rm (z00 (decide (¬ (b11.2 = b13.2)))) q q <| z1b (fun h18 => ?_) (fun h18 => ?_)
    · exact Rk (z0v q q (dt h18)) <| Rk (z0v q q (dt h18)) <| z0n (z00 true) q (dt h18) q q <| R0 <| z1d q q <| Jk (K27 ()) (.c6 q q q q q q .nil)
    refine Rm (I_ b11.2) q (g_f q q (df h18)) <| z26 q q (g_f q q (df h18)) <| z0i (z00 (decide (¬ (b11.2 = 0)))) q (df h18) q q <| R0 <| z0a q (fun h19 => ?_) (fun h19 => ?_)
    · exact Jk (K27 ()) (.c6 q q q q q q .nil)
    refine z0e <| Jq q <| z15 (z02 t0) z2p q q q q <| Rm (AL 25 z0g t1) q q <| z0d fun b28 h29 => z0l _ fn_14 (k_weight_Find _ _ _ h29) q q <| Rm (z3a [AL 1 z01 b28.1, I_ b28.2]) q q <| z1z (AL 1 z01 b28.1) q q q <| z1z (I_ b28.2) q q q ?_
    refine Ra (AL 1 z01 b28.1) q q <| Ra (I_ b28.2) q q <| R0 <| Jq q <| z15 (z02 t0) z2p q q q q <| Rm (AL 25 z0g t1) q q <| Rm (AL 1 z01 b11.1) q q <| z0d fun b30 h31 => z0l _ fn_19 (k_weight_CheckRefute _ _ _ _ h31) q q ?_
    refine Rm (z00 b30) q q <| z1b (fun h32 => ?_) (fun h32 => ?_)
    · exact Rm (I_ b28.2) q (g_t q q h32) <| z34 q q (g_t q q h32) <| z0n (z00 (decide (b28.2 = 10))) q h32 q q <| Ra (z00 (decide (b28.2 = 10))) q q <| Rt hΨ q q q
    exact Rk (z16 q q (bf h32)) <| Rk (z16 q q (bf h32)) <| z0i (z00 false) q (bf h32) q q <| Ra (z00 false) q q <| Rt hΨ q q q
  intro v23
  refine Jq q <| Rm (AL 1 z01 b11.1) q q <| Rm (AL 1 z01 b13.1) q q <| z0d fun b24 h25 => z0l _ fn_13 (z5h _ _ _ h25) q q <| Rm (z00 b24) q q <| z1b (fun h26 => ?_) (fun h26 => ?_)
  · exact Rm (I_ b11.2) q (g_t q q h26) <| Rm (I_ b13.2) q (g_t q q h26) <| z34 q q (g_t q q h26) <| z0n (z00 (decide (b11.2 = b13.2))) q h26 q q <| Ra (z00 (decide (b11.2 = b13.2))) q q <| Rt hΨ q q q
  exact Rk (z16 q q (bf h26)) <| Rk (z16 q q (bf h26)) <| Rk (z16 q q (bf h26)) <| z0i (z00 false) q (bf h26) q q <| Ra (z00 false) q q <| Rt hΨ q q q
end Go.Proofs.YtngimdmkomkeoaaGreat.K
