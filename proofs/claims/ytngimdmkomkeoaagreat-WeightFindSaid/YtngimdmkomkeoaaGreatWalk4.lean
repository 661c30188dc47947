/- Each function computes what its plain form says. -/
import Derived.Test.YtngimdmkomkeoaaGreatWalk3
set_option linter.unusedVariables false
set_option linter.unusedSimpArgs false
namespace Go.Proofs.YtngimdmkomkeoaaGreat.K
open Go.RowKit Go.Proofs
set_option maxHeartbeats 4000000
set_option maxRecDepth 100000
theorem k_ref39_Find (t0 : z06) (t1 : (List z0z)) (r : (List Int) × Int) (hr : ref39_Find t0 t1 = some r) : FnP PP 15 [z0x (z02 t0), AL 25 z0h t1] (z38 [AL 1 z01 r.1, I_ r.2]) := by
  refine Fo (fun (r : (List Int) × Int) => z38 [AL 1 z01 r.1, I_ r.2]) Tryz.func15 q (n := 79) q q hr fun X hΨ => ?_
  refine Jq q <| z17 (z0x (z02 t0)) q q <| Ra (z1m) q q <| Ra (I_ 0) q q <| R0 <| Jq q <| z15 (z02 t0) z2l q q q q <| Rm (AL 25 z0h t1) q q ?_
  refine z0d fun b1 h2 => z0m _ fn_42 (k_ref39_Effects _ _ _ h2) q q <| Rm (z38 [AL 1 (cL 1 z01) b1.1, I_ b1.2]) q q <| z20 (AL 1 (cL 1 z01) b1.1) q q q <| z20 (I_ b1.2) q q q <| Ra (AL 1 (cL 1 z01) b1.1) q q <| Ra (I_ b1.2) q q <| R0 <| Js <| Js ?_
  refine Jr q <| Rm (I_ b1.2) q q <| z27 q q q <| R0 <| z0a q (fun h3 => ?_) (fun h3 => ?_)
  · exact Jq q <| Rm (I_ b1.2) q q <| Ra (z1m) q q <| Ra (I_ b1.2) q q <| R0 <| z39 hΨ (z12 (As := [z1m, I_ b1.2]) q q (.cons (.tmp (A := z1m) q) (.cons (.tmp (A := I_ b1.2) q) .nil))) (fun y hy => by cases hy; exact (.tup (.cons .nil (.cons .same .nil))))
  refine z0e <| Jq q <| z0f ((cL 4 z03) t0.Nodes) z2j q q q <| z13 (AL 4 z03 t0.Nodes) z50 q q q <| z1a (cc := z03) z9m q q <| z0f ((cL 7 z0c) t0.Edges) z3z q q q <| z13 (AL 7 z0c t0.Edges) sc_23 q q q <| z1a (cc := z0c) il_23 q q <| z0d fun b4 h5 => ?_
  refine z1l b4 q q (Option.some.inj h5) q <| Ra (I_ b4) q q <| R0 <| Jq q <| Rm (I_ b4) q q <| Rm (AL 1 (cL 1 z01) b1.1) q q <| z0d fun b6 h7 => z0m _ fn_43 (k_ref39_touched _ _ _ h7) q q <| Ra (AL 1 z01 b6) q q ?_
  refine R0 <| Jq q <| Ra (z1m) q q <| R0 <| Js <| Jq q <| Ra (I_ 0) q q <| R0 ?_
  refine z0j <| Jn (fun x8 => ⟨fr [(5, I_ 0), (6, AL 1 (cL 1 z01) b1.1), (7, I_ b1.2), (8, I_ b4), (9, AL 1 z01 b6), (10, z0g 0), (11, I_ x8.2), (21, I_ b1.2), (22, I_ b1.2)], hp [(0, .row 26 1 (x8.1.map (cL 1 z01)))], 1⟩) [] [] [0] q (.s2 q q (.s3 q q q (.cons (A := z1m) q (.nilobj q q) (.s3 q q q .nil)))) (.new q q .nil) q q (fun E9 hE9 x8 => ?_)
  refine Js <| Jq q <| Rm (I_ x8.2) q q <| Rm (AL 1 (cL 1 z01) b1.1) q q <| z1a (cc := (cL 1 z01)) il_78 q q <| z1n q q q <| R0 <| z0a q (fun h14 => ?_) (fun h14 => ?_)
  · refine z0e <| Js <| z0j <| Jr q <| Rm (z0g 0) q q <| Rm (AL 1 (cL 1 z01) b1.1) q q <| Rm (I_ x8.2) q q <| z1b (fun h15 => ?_) (fun _ => z0u)
    refine z2k (cc := (cL 1 z01)) el_78 q q h15.1 h15.2 q <| z13 (AL 1 z01 (nth b1.1 x8.2)) z1w q q q <| Rm (AL 1 z01 b6) q q <| z0d fun b16 h17 => z0m _ fn_44 (k_ref39_narrow _ _ _ h17) q q <| r_bs (cc := (cL 1 z01)) [b16] el_78 zr_26_1 (.cons (A := AL 1 z01 b16) q q q .nil) q q q <| z1b (fun h18 => ?_) (fun _ => z0u)
    refine r_app (cc := (cL 1 z01)) (xs := x8.1) (ys := [b16]) 1 ap_78 q q q h18 q q q <| Ra (z0g 1) q q <| R0 <| z0s <| z0o 37 (m := (b1.1.length : Int)) q fun q19 => z0o 11 (m := x8.2) q fun q20 => Jr q <| Rm (I_ x8.2) q q <| z1l (x8.2 + 1) q q (z0y (by omega) (by omega)) q <| Ra (I_ (x8.2 + 1)) q q ?_
    exact R0 <| z43 <| Jc [] [(0, 1)] [] (hE9 ((x8.1 ++ [b16]), x8.2 + 1)) (.s2 q q (.s3 q q q (.cons (A := z0g 1) q (.obj q q q) (.s3 q q q .nil)))) (.cons q q q q (.row (NKC.flat _ _)) q q .nil) q q
  refine z1j q <| z7f <| Jq q <| Rm (AL 1 z01 b6) q q <| z1a (cc := z01) z2t q q <| z1b (fun h21 => ?_) (fun _ => z0u)
  refine r_make (cc := z01) 1 0 ap_26 z_3 q q h21.1 h21.2 q q <| Ra (z0g 1) q q <| Ra (z1m) q q <| Ra (z00 false) q q <| R0 <| Js <| Jq q <| Ra (z00 true) q q <| R0 ?_
  refine z0j <| Jn (fun x22 => ⟨fr [(5, I_ 0), (7, I_ b1.2), (8, I_ b4), (9, AL 1 z01 b6), (10, z0g 0), (11, I_ x8.2), (12, z0g 1), (13, z0g 2), (14, z00 x22.2.2.1), (15, z00 x22.2.2.2), (21, I_ b1.2), (22, I_ b1.2), (35, I_ x8.2), (37, I_ (b1.1.length : Int)), (51, I_ (b6.length : Int))], hp [(0, .row 26 1 (x8.1.map (cL 1 z01))), (1, .row 3 1 (x22.1.map z01)), (2, .row 3 1 (x22.2.1.map z01))], 3⟩) [] [] [2] q (.same q (.s3 q q q (.cons (A := z0g 0) q (.obj q q q) (.same q (.cons (A := z0g 1) q (.obj q q q) (.cons (A := z1m) q (.nilobj q q) (.same q (.s6 q q q q q q .nil)))))))) (.cons q q q q (.row (NKC.flat _ _)) q q (.cons q q q q (.row (NKC.flat _ _)) q q (.new q q .nil))) q q (fun E23 hE23 x22 => ?_)
  refine Js <| Jq q <| Rm (z00 x22.2.2.2) q q <| R0 <| z1s q (fun h32 => ?_) (fun h32 => ?_)
  rotate_left
  · refine z1j q <| z7f <| Js <| Jq q <| Rm (z00 x22.2.2.1) q q <| z2x q q <| R0 <| z1s q (fun h55 => ?_) (fun h55 => ?_)
    · exact Jq q <| Ra (z1m) q q <| Ra (I_ 10) q q <| R0 <| z39 hΨ (z12 (As := [z1m, I_ 10]) q q (.cons (.tmp (A := z1m) q) (.cons (.tmp (A := I_ 10) q) .nil))) (fun y hy => by cases hy; exact (.tup (.cons .nil (.cons .same .nil))))
    refine z0e <| Js <| J_cv [2] [] [] 0 [(5, I_ 0), (7, I_ b1.2), (8, I_ b4), (9, AL 1 z01 b6), (11, I_ x8.2), (13, AL 1 z01 x22.2.1), (21, I_ b1.2), (22, I_ b1.2), (35, I_ x8.2), (37, I_ (b1.1.length : Int)), (51, I_ (b6.length : Int))] [] (.same q (.same q (.same q (.same q (.same q (.cons (A := z0g 2) q (.frow q q (NKC.flat _ _)) (.same q (.same q (.same q (.same q (.same q .nil))))))))))) .nil q q <| Jr q <| Rm (I_ b4) q q <| Rm (AL 1 z01 b6) q q <| Rm (AL 1 z01 x22.2.1) q q <| z0d fun b58 h59 => z0m _ fn_48 (k_ref39_spread _ _ _ _ h59) q q <| Ra (AL 1 z01 b58) q q ?_
    exact Ra (I_ 0) q q <| R0 <| Jt hΨ (z12 (As := [AL 1 z01 b58, I_ 0]) q q (.cons (.tmp (A := AL 1 z01 b58) q) (.cons (.tmp (A := I_ 0) q) .nil))) q q
  refine z0e <| Js <| z0j <| Js ?_
  apply z2p (fun v51 => ⟨fr [(5, I_ 0), (7, I_ b1.2), (8, I_ b4), (9, AL 1 z01 b6), (10, z0g 0), (11, I_ x8.2), (12, z0g 1), (13, z0g 2), (14, z00 v51.2), (21, I_ b1.2), (22, I_ b1.2), (35, I_ x8.2), (37, I_ (b1.1.length : Int)), (51, I_ (b6.length : Int))], hp [(0, .row 26 1 (x8.1.map (cL 1 z01))), (1, .row 3 1 (x22.1.map z01)), (2, .row 3 1 (v51.1.map z01))], 3⟩) (fun v51 => z89 x22 v51)
  · intro K52
    apply z2p (fun v49 => ⟨fr [(5, I_ 0), (7, I_ b1.2), (8, I_ b4), (9, AL 1 z01 b6), (10, z0g 0), (11, I_ x8.2), (12, z0g 1), (13, z0g 2), (14, z00 x22.2.2.1), (21, I_ b1.2), (22, I_ b1.2), (35, I_ x8.2), (37, I_ (b1.1.length : Int)), (51, I_ (b6.length : Int))], hp [(0, .row 26 1 (x8.1.map (cL 1 z01))), (1, .row 3 1 (x22.1.map z01)), (2, .row 3 1 (x22.2.1.map z01))], 3⟩) (fun v49 => z6l x22 v49)
    · intro K50
      apply z2p (fun v46 => ⟨fr [(5, I_ 0), (7, I_ b1.2), (8, I_ b4), (9, AL 1 z01 b6), (10, z0g 0), (11, I_ x8.2), (12, z0g 1), (21, I_ b1.2), (22, I_ b1.2), (35, I_ x8.2), (37, I_ (b1.1.length : Int)), (51, I_ (b6.length : Int))], hp [(0, .row 26 1 (x8.1.map (cL 1 z01))), (1, .row 3 1 (x22.1.map z01))], 2⟩) (fun v46 => z8a x22 v46)
      · intro K48
        refine Jr q <| Rm (z00 x22.2.2.1) q q <| z2x q q <| Rm (z00 (!x22.2.2.1)) q q <| z1b (fun h33 => ?_) (fun h33 => ?_)
        · refine Rk (z0v q q h33) <| Rk (z0v q q h33) <| Rk (z0v q q h33) <| Rk (z0v q q h33) <| Rk (z0v q q h33) <| z0n (z00 true) q h33 q q <| Rm (z00 true) q q <| Rm (z0g 1) q (g_t q q q) <| Rm (z0g 0) q (g_t q q q) <| z0d fun b34 h35 => ?_
          refine z93 [(1, .row 3 1 (x22.1.map z01)), (0, .row 26 1 (x8.1.map (cL 1 z01)))] [z0g 1, z0g 0] fn_47 (k_ref39_lowers _ _ _ h35) (.cons q (.cons q .nil)) q (.cons (.frow q q (NKC.flat _ _)) (.cons (.frow q q (NKC.flat _ _)) .nil)) (g_t q q q) <| z0n (z00 b34) q q q q <| R0 <| z1s q (fun h36 => ?_) (fun h36 => ?_)
          · exact Jc [] [] [] (K48 ()) (.same q (.s3 q q q (.cons (A := z0g 0) q (.obj q q q) (.same q (.cons (A := z0g 1) q (.obj q q q) (.s2 q q (.s3 q q q .nil))))))) (.cons q q q q (.row (NKC.flat _ _)) q q (.cons q q q q (.row (NKC.flat _ _)) q q .nil)) q q
          exact Jc [] [] [] (K50 ()) (.same q (.s3 q q q (.cons (A := z0g 0) q (.obj q q q) (.same q (.cons (A := z0g 1) q (.obj q q q) (.cons (A := z0g 2) q (.obj q q q) (.s6 q q q q q q .nil))))))) (.cons q q q q (.row (NKC.flat _ _)) q q (.cons q q q q (.row (NKC.flat _ _)) q q (.cons q q q q (.row (NKC.flat _ _)) q q .nil))) q q
        refine Rm (z0g 1) q (g_f q q (bf h33)) <| z0d fun b37 h38 => z93 [(1, .row 3 1 (x22.1.map z01))] [z0g 1] fn_46 (k_ref39_total _ _ h38) (.cons q .nil) q (.cons (.frow q q (NKC.flat _ _)) .nil) (g_f q q (bf h33)) <| Rm (z0g 2) q (g_f q q (bf h33)) <| z0d fun b39 h40 => z93 [(2, .row 3 1 (x22.2.1.map z01))] [z0g 2] fn_46 (k_ref39_total _ _ h40) (.cons q .nil) q (.cons (.frow q q (NKC.flat _ _)) .nil) (g_f q q (bf h33)) <| z1n q q (g_f q q (bf h33)) <| z0i (z00 (decide (b37 < b39))) q (bf h33) q q <| Rm (z00 (decide (b37 < b39))) q q <| z1b (fun h41 => ?_) (fun h41 => ?_)
        rotate_left
        · exact Rk (z16 q q (df h41)) <| Rk (z16 q q (df h41)) <| Rk (z16 q q (df h41)) <| z0i (z00 false) q (df h41) q q <| R0 <| zao q q <| Jc [] [] [] (K50 ()) (.same q (.s3 q q q (.cons (A := z0g 0) q (.obj q q q) (.same q (.cons (A := z0g 1) q (.obj q q q) (.cons (A := z0g 2) q (.obj q q q) (.s6 q q q q q q .nil))))))) (.cons q q q q (.row (NKC.flat _ _)) q q (.cons q q q q (.row (NKC.flat _ _)) q q (.cons q q q q (.row (NKC.flat _ _)) q q .nil))) q q
        refine Rm (z0g 1) q (g_t q q (dt h41)) <| Rm (z0g 0) q (g_t q q (dt h41)) <| z0d fun b42 h43 => z93 [(1, .row 3 1 (x22.1.map z01)), (0, .row 26 1 (x8.1.map (cL 1 z01)))] [z0g 1, z0g 0] fn_47 (k_ref39_lowers _ _ _ h43) (.cons q (.cons q .nil)) q (.cons (.frow q q (NKC.flat _ _)) (.cons (.frow q q (NKC.flat _ _)) .nil)) (g_t q q (dt h41)) <| z0n (z00 b42) q (dt h41) q q <| R0 <| z1s q (fun h44 => ?_) (fun h44 => ?_)
        · exact Jc [] [] [] (K48 ()) (.same q (.s3 q q q (.cons (A := z0g 0) q (.obj q q q) (.same q (.cons (A := z0g 1) q (.obj q q q) (.s2 q q (.s3 q q q .nil))))))) (.cons q q q q (.row (NKC.flat _ _)) q q (.cons q q q q (.row (NKC.flat _ _)) q q .nil)) q q
        exact Jc [] [] [] (K50 ()) (.same q (.s3 q q q (.cons (A := z0g 0) q (.obj q q q) (.same q (.cons (A := z0g 1) q (.obj q q q) (.cons (A := z0g 2) q (.obj q q q) (.s6 q q q q q q .nil))))))) (.cons q q q q (.row (NKC.flat _ _)) q q (.cons q q q q (.row (NKC.flat _ _)) q q (.cons q q q q (.row (NKC.flat _ _)) q q .nil))) q q
      intro v46
      refine Jr q <| r_bs0 2 z1u q q <| Rm (z0g 1) q q <| z1b (fun h47 => ?_) (fun _ => z0u)
      exact r_app0O (cc := z01) (ys := x22.1) 3 ap_26 q q q q h47 q q q <| Ra (z0g 3) q q <| Ra (z00 true) q q <| R0 <| Jc [] [(2, 3)] [] (K52 (x22.1, true)) (.same q (.s3 q q q (.cons (A := z0g 0) q (.obj q q q) (.same q (.cons (A := z0g 1) q (.obj q q q) (.cons (A := z0g 3) q (.obj q q q) (.s6 q q q q q q .nil))))))) (.cons q q q q (.row (NKC.flat _ _)) q q (.cons q q q q (.row (NKC.flat _ _)) q q (.cons q q q q (.row (NKC.flat _ _)) q q .nil))) q q
    intro v49
    exact z0e <| Jc [] [] [] (K52 (x22.2.1, x22.2.2.1)) (.same q (.s3 q q q (.cons (A := z0g 0) q (.obj q q q) (.same q (.cons (A := z0g 1) q (.obj q q q) (.cons (A := z0g 2) q (.obj q q q) (.s6 q q q q q q .nil))))))) (.cons q q q q (.row (NKC.flat _ _)) q q (.cons q q q q (.row (NKC.flat _ _)) q q (.cons q q q q (.row (NKC.flat _ _)) q q .nil))) q q
  intro v51
  exact z0s <| Jr q <| Rm (z0g 1) q q <| z0d fun b53 h54 => r_callK [] [(0, 1)] [(1, 0)] [] 3 [(1, .row 3 1 (x22.1.map z01))] [(1, .row 3 1 (b53.2.map z01))] (z00 b53.1) [z0g 1] fn_45 (k_ref39_next _ _ h54) (.cons q .nil) q (.cons (.obj q q q) .nil) (.cons q q q q (.row (NKC.flat _ _)) q q .nil) (.cons q q q q (.row (NKC.flat _ _)) q q .nil) .same q q q <| Ra (z00 b53.1) q q <| R0 <| z43 <| Jc [] [] [] (hE23 (b53.2, v51.1, v51.2, b53.1)) (.same q (.s3 q q q (.cons (A := z0g 0) q (.obj q q q) (.same q (.cons (A := z0g 1) q (.obj q q q) (.cons (A := z0g 2) q (.obj q q q) (.same q (.s6 q q q q q q .nil)))))))) (.cons q q q q (.row (NKC.flat _ _)) q q (.cons q q q q (.row (NKC.flat _ _)) q q (.cons q q q q (.row (NKC.flat _ _)) q q .nil))) q q
theorem k_weight_natural_1 (t0 : Int) (r : Bool) (hr : weight_natural_1 t0 = some r) : FnP PP 83 [I_ t0] (z00 r) := by
  refine Fo (fun (r : Bool) => z00 r) Tryz.func83 q (n := 9) q q hr fun X hΨ => ?_
  refine Jq q <| Ra (z00 false) q q <| R0 <| Jq q <| Rm (I_ t0) q q <| z1n q q q <| Rm (z00 (decide (t0 < 0))) q q <| z1b (fun h1 => ?_) (fun h1 => ?_)
  · exact Rk (z0v q q (dt h1)) <| Rk (z0v q q (dt h1)) <| z0n (z00 true) q (dt h1) q q <| Ra (z00 true) q q <| Rt hΨ q q q
  exact Rm (I_ t0) q (g_f q q (df h1)) <| z3i q q (g_f q q (df h1)) <| z0i (z00 (decide (1000 < t0))) q (df h1) q q <| Ra (z00 (decide (1000 < t0))) q q <| Rt hΨ q q q
theorem k_weight_natural (t0 : (List Int)) (t1 : Int) (r : Bool) (hr : weight_natural t0 t1 = some r) : FnP PP 49 [AL 1 z01 t0, I_ t1] (z00 r) := by
  refine Fo (fun (r : Bool) => z00 r) Tryz.func49 q (n := 14) q q hr fun X hΨ => ?_
  refine Jq q <| Ra (z00 false) q q <| R0 <| Jq q <| Rm (AL 1 z01 t0) q q <| z1a (cc := z01) z2t q q <| Rm (I_ t1) q q <| z33 q q q ?_
  refine Rm (z00 (decide ((t0.length : Int) = t1))) q q <| z1b (fun h1 => ?_) (fun h1 => ?_)
  rotate_left
  · exact Rk (z16 q q (df h1)) <| Rk (z16 q q (df h1)) <| Rk (z16 q q (df h1)) <| z0i (z00 false) q (df h1) q q <| Ra (z00 false) q q <| Rt hΨ q q q
  exact Rm (AL 1 z01 t0) q (g_t q q (dt h1)) <| z0d fun b2 h3 => z93 [] [AL 1 z01 t0, z3p 83 []] fn_82 (z2s _ _ _ h3) .nil q (.cons .same (.cons (.cloFn fn_83 (fun x y h => k_weight_natural_1 x y h)) .nil)) (g_t q q (dt h1)) <| z2x q (g_t q q (dt h1)) <| z0n (z00 (!b2)) q (dt h1) q q <| Ra (z00 (!b2)) q q <| Rt hΨ q q q
theorem k_weight_Check (t0 : z06) (t1 : (List z0z)) (t2 : (List Int)) (r : Bool) (hr : weight_Check t0 t1 t2 = some r) : FnP PP 16 [z0x (z02 t0), AL 25 z0h t1, AL 1 z01 t2] (z00 r) := by
  refine Fo (fun (r : Bool) => z00 r) Tryz.func16 q (n := 35) q q hr fun X hΨ => ?_
  refine Jq q <| z17 (z0x (z02 t0)) q q <| Ra (z00 false) q q <| R0 <| Jq q <| z15 (z02 t0) z2l q q q q <| Rm (AL 25 z0h t1) q q <| z0d fun b1 h2 => ?_
  refine z0m _ fn_38 (k_weight_effects _ _ _ h2) q q <| Rm (z38 [AL 1 (cL 1 z01) b1.1, AL 1 z01 b1.2.1, I_ b1.2.2]) q q <| z20 (AL 1 (cL 1 z01) b1.1) q q q <| z20 (AL 1 z01 b1.2.1) q q q <| z20 (I_ b1.2.2) q q q <| Ra (AL 1 (cL 1 z01) b1.1) q q <| Ra (AL 1 z01 b1.2.1) q q <| Ra (I_ b1.2.2) q q <| R0 <| Js ?_
  refine Jr q <| Rm (I_ b1.2.2) q q <| z33 q q q <| Rm (z00 (decide (b1.2.2 = 0))) q q <| z1b (fun h3 => ?_) (fun h3 => ?_)
  rotate_left
  · refine Rk (z16 q q (df h3)) <| Rk (z16 q q (df h3)) <| Rk (z16 q q (df h3)) <| Rk (z16 q q (df h3)) <| Rk (z16 q q (df h3)) <| Rk (z16 q q (df h3)) <| Rk (z16 q q (df h3)) <| Rk (z16 q q (df h3)) <| Rk (z16 q q (df h3)) <| z0i (z00 false) q (df h3) q q ?_
    exact Rm (z00 false) q q <| Rk (z16 q q q) <| Rk (z16 q q q) <| Rk (z16 q q q) <| z0i (z00 false) q q q q <| Ra (z00 false) q q <| Rt hΨ q q q
  refine Rm (AL 1 z01 t2) q (g_t q q (dt h3)) <| z0f ((cL 4 z03) t0.Nodes) z2j q q (g_t q q (dt h3)) <| z13 (AL 4 z03 t0.Nodes) z50 q q (g_t q q (dt h3)) <| z1a (cc := z03) z9m q (g_t q q (dt h3)) <| z0f ((cL 7 z0c) t0.Edges) z3z q q (g_t q q (dt h3)) <| z13 (AL 7 z0c t0.Edges) sc_23 q q (g_t q q (dt h3)) <| z1a (cc := z0c) il_23 q (g_t q q (dt h3)) <| z0d fun b4 h5 => z1l b4 q q (Option.some.inj h5) (g_t q q (dt h3)) <| z0d fun b6 h7 => ?_
  refine z0m _ fn_49 (k_weight_natural _ _ _ h7) q (g_t q q (dt h3)) <| z0n (z00 b6) q (dt h3) q q <| Rm (z00 b6) q q <| z1b (fun h8 => ?_) (fun h8 => ?_)
  rotate_left
  · exact Rk (z16 q q (bf h8)) <| Rk (z16 q q (bf h8)) <| Rk (z16 q q (bf h8)) <| z0i (z00 false) q (bf h8) q q <| Ra (z00 false) q q <| Rt hΨ q q q
  exact Rm (AL 1 (cL 1 z01) b1.1) q (g_t q q h8) <| Rm (AL 1 z01 t2) q (g_t q q h8) <| z0d fun b9 h10 => z0m _ fn_41 (k_weight_proves _ _ _ h10) q (g_t q q h8) <| z0n (z00 b9) q h8 q q <| Ra (z00 b9) q q <| Rt hΨ q q q
theorem k_law39_WeightFind (t0 : z06) (t1 : (List z0z)) (r : Bool) (hr : z8r t0 t1 = some r) : FnP PP 4 [z0x (z02 t0), AL 25 z0h t1] (z00 r) := by
  refine Fo (fun (r : Bool) => z00 r) Tryz.func4 q (n := 48) q q hr fun X hΨ => ?_
  refine Jq q <| z17 (z0x (z02 t0)) q q <| Ra (z00 false) q q <| R0 <| Js <| Jq q <| z0d fun b1 h2 => z0m _ fn_9 (k_law39_awake  _ h2) q q ?_
  refine z2x q q <| Rm (z00 (!b1)) q q <| z1b (fun h3 => ?_) (fun h3 => ?_)
  · refine Rk (z0v q q h3) <| Rk (z0v q q h3) <| Rk (z0v q q h3) <| Rk (z0v q q h3) <| z0n (z00 true) q h3 q q <| R0 <| z1e q q <| Jq q <| z0d fun b7 h8 => ?_
    exact z0m _ fn_9 (k_law39_awake  _ h8) q q <| Ra (z00 b7) q q <| Rt hΨ q q q
  refine z15 (z02 t0) z2l q q q (g_f q q (bf h3)) <| Rm (AL 25 z0h t1) q (g_f q q (bf h3)) <| z0d fun b4 h5 => z0m _ fn_10 (k_law39_small _ _ _ h5) q (g_f q q (bf h3)) <| z2x q (g_f q q (bf h3)) <| z0i (z00 (!b4)) q (bf h3) q q <| R0 <| z1s q (fun h6 => ?_) (fun h6 => ?_)
  · exact Jq q <| z0d fun b9 h10 => z0m _ fn_9 (k_law39_awake  _ h10) q q <| Ra (z00 b9) q q <| Rt hΨ q q q
  refine z0e <| Jq q <| z15 (z02 t0) z2l q q q q <| Rm (AL 25 z0h t1) q q <| z0d fun b11 h12 => z0m _ fn_14 (k_weight_Find _ _ _ h12) q q <| Rm (z38 [AL 1 z01 b11.1, I_ b11.2]) q q <| z20 (AL 1 z01 b11.1) q q q <| z20 (I_ b11.2) q q q ?_
  refine Ra (AL 1 z01 b11.1) q q <| Ra (I_ b11.2) q q <| R0 <| Jq q <| z15 (z02 t0) z2l q q q q <| Rm (AL 25 z0h t1) q q <| z0d fun b13 h14 => z0m _ fn_15 (k_ref39_Find _ _ _ h14) q q <| Rm (z38 [AL 1 z01 b13.1, I_ b13.2]) q q ?_
  refine z20 (AL 1 z01 b13.1) q q q <| z20 (I_ b13.2) q q q <| Ra (AL 1 z01 b13.1) q q <| Ra (I_ b13.2) q q <| R0 <| Jq q <| Rm (AL 1 z01 b11.1) q q <| Rm (AL 1 z01 b13.1) q q <| z0d fun b15 h16 => ?_
  refine z0m _ fn_13 (z6y _ _ _ h16) q q <| Rm (z00 b15) q q <| z1b (fun h17 => ?_) (fun h17 => ?_)
  rotate_left
  · refine Rk (z16 q q (bf h17)) <| Rk (z16 q q (bf h17)) <| Rk (z16 q q (bf h17)) <| z0i (z00 false) q (bf h17) q q <| Rm (z00 false) q q <| Rk (z16 q q q) <| Rk (z16 q q q) <| Rk (z16 q q q) <| Rk (g_u q q) <| Rk (g_u q q) ?_
    exact Rk (g_u q q) <| Rk (g_u q q) <| Rk (z16 q q q) <| z0i (z00 false) q q q q <| Ra (z00 false) q q <| Rt hΨ q q q
  refine Rm (I_ b11.2) q (g_t q q h17) <| Rm (I_ b13.2) q (g_t q q h17) <| z33 q q (g_t q q h17) <| z0n (z00 (decide (b11.2 = b13.2))) q h17 q q <| Rm (z00 (decide (b11.2 = b13.2))) q q <| z1b (fun h18 => ?_) (fun h18 => ?_)
  rotate_left
  · refine Rk (z16 q q (df h18)) <| Rk (z16 q q (df h18)) <| Rk (z16 q q (df h18)) <| Rk (g_u q q) <| Rk (g_u q q) <| Rk (g_u q q) <| Rk (g_u q q) <| Rk (z16 q q (df h18)) <| z0i (z00 false) q (df h18) q q <| Ra (z00 false) q q ?_
    exact Rt hΨ q q q
  refine Rm (I_ b11.2) q (g_t q q (dt h18)) <| z27 q q (g_t q q (dt h18)) <| Rm (z00 (decide (¬ (b11.2 = 0)))) q (g_t q q (dt h18)) <| z1b (fun h19 => ?_) (fun h19 => ?_)
  · exact Rk (z0v q q (dt h19)) <| Rk (z0v q q (dt h19)) <| Rk (z0v q q (dt h19)) <| Rk (z0v q q (dt h19)) <| z0n (z00 true) q (dt h19) q (g_t q q (dt h18)) <| z0n (z00 true) q (dt h18) q q <| Ra (z00 true) q q <| Rt hΨ q q q
  exact z15 (z02 t0) z2l q q q (g_f q q (df h19)) <| Rm (AL 25 z0h t1) q (g_f q q (df h19)) <| Rm (AL 1 z01 b11.1) q (g_f q q (df h19)) <| z0d fun b20 h21 => z0m _ fn_16 (k_weight_Check _ _ _ _ h21) q (g_f q q (df h19)) <| z0i (z00 b20) q (df h19) q (g_t q q (dt h18)) <| z0n (z00 b20) q (dt h18) q q <| Ra (z00 b20) q q <| Rt hΨ q q q
end Go.Proofs.YtngimdmkomkeoaaGreat.K
