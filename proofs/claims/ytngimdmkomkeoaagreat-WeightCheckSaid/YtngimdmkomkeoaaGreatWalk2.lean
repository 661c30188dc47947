/- Each function computes what its plain form says. -/
import Derived.Test.YtngimdmkomkeoaaGreatWalk1
set_option linter.unusedVariables false
set_option linter.unusedSimpArgs false
namespace Go.Proofs.YtngimdmkomkeoaaGreat.K
open Go.RowKit Go.Proofs
set_option maxHeartbeats 4000000
set_option maxRecDepth 100000
theorem k_weight_least_1_s4_b (q_weight_least_1_s4 : Int → Int → Int → (List (List Int)) → (List Int) → Int → Option (Bool × (List Int))) (hq_weight_least_1_s4 : ∀ (t0 : Int) (t1 : Int) (t2 : Int) (t3 : (List (List Int))) (t4 : (List Int)) (t5 : Int) (r : Bool × (List Int)), q_weight_least_1_s4 t0 t1 t2 t3 t4 t5 = some r → FnK PP 78 4 [(0, .box 78 ((cL 1 (cL 1 z01)) t3)), (1, .box 26 [z0i 2]), (2, .row 3 1 (t4.map z01)), (3, .box 116 [z3n 78 [z1r (z01 t5), z1r [z3n 50 [z0i 0]], z0i 1, z0i 3]])] [I_ t0, I_ t1, z1r (z01 t2), z1r [z3n 50 [z0i 0]], z0i 1, z0i 3] [(0, .box 78 ((cL 1 (cL 1 z01)) t3)), (1, .box 26 [z0i 2]), (2, .row 3 1 (r.2.map z01)), (3, .box 116 [z3n 78 [z1r (z01 t5), z1r [z3n 50 [z0i 0]], z0i 1, z0i 3]])] (z00 r.1)) (t0 : Int) (t1 : Int) (t2 : Int) (t3 : (List (List Int))) (t4 : (List Int)) (t5 : Int) (r : Bool × (List Int)) (hr : weight_least_1_s4_b q_weight_least_1_s4 t0 t1 t2 t3 t4 t5 = some r) : FnK PP 78 4 [(0, .box 78 ((cL 1 (cL 1 z01)) t3)), (1, .box 26 [z0i 2]), (2, .row 3 1 (t4.map z01)), (3, .box 116 [z3n 78 [z1r (z01 t5), z1r [z3n 50 [z0i 0]], z0i 1, z0i 3]])] [I_ t0, I_ t1, z1r (z01 t2), z1r [z3n 50 [z0i 0]], z0i 1, z0i 3] [(0, .box 78 ((cL 1 (cL 1 z01)) t3)), (1, .box 26 [z0i 2]), (2, .row 3 1 (r.2.map z01)), (3, .box 116 [z3n 78 [z1r (z01 t5), z1r [z3n 50 [z0i 0]], z0i 1, z0i 3]])] (z00 r.1) := by
  refine Ko (fun (r : Bool × (List Int)) => [(0, .box 78 ((cL 1 (cL 1 z01)) t3)), (1, .box 26 [z0i 2]), (2, .row 3 1 (r.2.map z01)), (3, .box 116 [z3n 78 [z1r (z01 t5), z1r [z3n 50 [z0i 0]], z0i 1, z0i 3]])]) (fun (r : Bool × (List Int)) => z00 r.1) Tryz.func78 q (n := 45) q (KBL.cons inferInstance (KBL.cons inferInstance (KBL.cons inferInstance (KBL.cons (KB.ptr (KBL.cons (KB.clo (KBL.cons (KB.obj q) inferInstance)) inferInstance)) (KBL.cons (KB.obj q) (KBL.cons (KB.obj q) (inferInstance : KBL 4 []))))))).kb (InsOk.spec (.box q kbl_nk (.box q (KBL.cons (KB.obj q) inferInstance) (.row q (NKC.flat _ _) (.box q (KBL.cons (KB.clo (KBL.cons inferInstance (KBL.cons (KB.ptr (KBL.cons (KB.clo (KBL.cons (KB.obj q) inferInstance)) inferInstance)) (KBL.cons (KB.obj q) (KBL.cons (KB.obj q) inferInstance))))) inferInstance) .nil))))) q hr fun X hΨ => ?_
  refine Jq q <| Ra (z00 false) q q <| R0 <| Js <| Jq q <| Rm (I_ t0) q q <| z11 (I_ t2) z1t q q q <| z2y q q q ?_
  refine R0 <| z09 q (fun h1 => ?_) (fun h1 => ?_)
  · refine Jq q <| Rm (I_ t1) q q <| z2y q q q <| Rm (z00 (decide (t1 = 0))) q q <| z1b (fun h2 => ?_) (fun h2 => ?_)
    rotate_left
    · exact Rk (z0y q q (df h2)) <| Rk (z0y q q (df h2)) <| Rk (z0y q q (df h2)) <| z0h (z00 false) q (df h2) q q <| Ra (z00 false) q q <| R0 <| J_retK hΨ (z4r q (.tmp (A := z00 false) q)) [] [] [] q (fun y hy => by cases hy; exact ⟨(.cons q q q q (.box (.cons .same .nil)) q q (.cons q q q q (.box (.cons (.obj q q q) .nil)) q q (.cons q q q q (.row (NKC.flat _ _)) q q (.cons q q q q (.box (.cons (.clo (.cons .same (.cons (.ptr (.cons (.clo (.cons (.obj q q q) .nil)) .nil)) (.cons (.obj q q q) (.cons (.obj q q q) .nil))))) .nil)) q q .nil)))), .same⟩)
    exact z11 (z3n 50 [z0i 0]) sc_84 q q (g_t q q (dt h2)) <| z2b (z0i 1) (z0i 2) z1s q .obj q q (g_t q q (dt h2)) <| z0d fun b3 h4 => r_callKC [z0i 0] [] [(0, 2), (1, 0)] [(2, 0), (0, 1)] [] 4 [(2, .row 3 1 (t4.map z01)), (0, .box 78 ((cL 1 (cL 1 z01)) t3))] [(2, .row 3 1 (b3.2.map z01)), (0, .box 78 ((cL 1 (cL 1 z01)) t3))] (z00 b3.1) [z0i 2] q fn_50 (k_weight_Refute_1_s5 _ _ _ h4) (.cons q (.cons q .nil)) q (.cons (.obj q q q) (.cons (.obj q q q) .nil)) (.cons q q q q (.row (NKC.flat _ _)) q q (.cons q q q q (.box (.cons .same .nil)) q q .nil)) (.cons q q q q (.row (NKC.flat _ _)) q q (.cons q q q q (.box (.cons .same .nil)) q q .nil)) .same q q (g_t q q (dt h2)) <| z0k (z00 b3.1) q (dt h2) q q <| Ra (z00 b3.1) q q <| R0 <| J_retK hΨ (z4r q (.tmp (A := z00 b3.1) q)) [] [] [] q (fun y hy => by cases hy; exact ⟨(.cons q q q q (.box (.cons .same .nil)) q q (.cons q q q q (.box (.cons (.obj q q q) .nil)) q q (.cons q q q q (.row (NKC.flat _ _)) q q (.cons q q q q (.box (.cons (.clo (.cons .same (.cons (.ptr (.cons (.clo (.cons (.obj q q q) .nil)) .nil)) (.cons (.obj q q q) (.cons (.obj q q q) .nil))))) .nil)) q q .nil)))), .same⟩)
  refine z0e <| Js <| Jq q <| Rm (I_ t1) q q <| z11 (I_ t2) z1t q q q <| Rm (I_ t0) q q <| z0d fun b5 h6 => z7z b5 q q (Option.some.inj h6) q <| z0d fun b7 h8 => ?_
  refine z7z b7 q q (Option.some.inj h8) q <| z0d fun b9 h10 => r_mul b9 q q (Option.some.inj h10) q <| z0d fun b11 h12 => z7z b11 q q (Option.some.inj h12) q <| r_max q q q <| Ra (I_ (if 0 < b11 then b11 else 0)) q q <| R0 <| z0n <| Jn (fun x13 => ⟨fr [(0, I_ t0), (1, I_ t1), (4, z0i 1), (5, z0i 3), (9, I_ x13.2), (10, I_ t0), (11, I_ t2), (21, I_ t2), (22, I_ t0)], hp [(0, .box 78 ((cL 1 (cL 1 z01)) t3)), (1, .box 26 [z0i 2]), (2, .row 3 1 (x13.1.map z01)), (3, .box 116 [z3n 78 [z1r (z01 t5), z1r [z3n 50 [z0i 0]], z0i 1, z0i 3]])], 4⟩) [] [] [] q (.s2 q q (.cons (A := z0i 1) q (.obj q q q) (.cons (A := z0i 3) q (.obj q q q) (.s2 q q (.s3 q q q .nil))))) (.cons q q q q (.box (.cons .same .nil)) q q (.cons q q q q (.box (.cons (.obj q q q) .nil)) q q (.cons q q q q (.row (NKC.flat _ _)) q q (.cons q q q q (.box (.cons (.clo (.cons .same (.cons (.ptr (.cons (.clo (.cons (.obj q q q) .nil)) .nil)) (.cons (.obj q q q) (.cons (.obj q q q) .nil))))) .nil)) q q .nil)))) q q (fun E14 hE14 x13 => ?_)
  refine Js <| Jq q <| Rm (I_ x13.2) q q <| Rm (I_ t1) q q <| r_min q q q <| z8c q q q <| R0 <| z09 q (fun h26 => ?_) (fun h26 => ?_)
  rotate_left
  · exact z1j q <| z0x <| Jq q <| Ra (z00 false) q q <| R0 <| J_retK hΨ (z4r q (.tmp (A := z00 false) q)) [] [] [] q (fun y hy => by cases hy; exact ⟨(.cons q q q q (.box (.cons .same .nil)) q q (.cons q q q q (.box (.cons (.obj q q q) .nil)) q q (.cons q q q q (.row (NKC.flat _ _)) q q (.cons q q q q (.box (.cons (.clo (.cons .same (.cons (.ptr (.cons (.clo (.cons (.obj q q q) .nil)) .nil)) (.cons (.obj q q q) (.cons (.obj q q q) .nil))))) .nil)) q q .nil)))), .same⟩)
  refine z0e <| Js <| z0n <| Jq q <| z2b (z0i 1) (z0i 2) z1s q .obj q q q <| Rm (I_ t0) q q <| Rm (I_ x13.2) q q <| z1b (fun h27 => ?_) (fun _ => z0u)
  refine r_ixO (cc := z01) z1w q q q h27.1 h27.2 q <| r_stR (cc := z01) t0 0 (I_ x13.2) x13.2 sz_3 q q q h27.1 h27.2 q q q q <| R0 <| Jq q <| z2b (z0i 3) (z3n 78 [z1r (z01 t5), z1r [z3n 50 [z0i 0]], z0i 1, z0i 3]) sc_116 q .obj q q q <| Rm (I_ t0) q q <| z0d fun b28 h29 => z1l b28 q q (Option.some.inj h29) q <| Rm (I_ t1) q q ?_
  refine Rm (I_ x13.2) q q <| z0d fun b30 h31 => z7z b30 q q (Option.some.inj h31) q <| z0d fun b32 h33 => r_callKC [z1r (z01 t5), z1r [z3n 50 [z0i 0]], z0i 1, z0i 3] [] [] [] [] 4 [(0, .box 78 ((cL 1 (cL 1 z01)) t3)), (1, .box 26 [z0i 2]), (2, .row 3 1 ((x13.1.set t0.toNat x13.2).map z01)), (3, .box 116 [z3n 78 [z1r (z01 t5), z1r [z3n 50 [z0i 0]], z0i 1, z0i 3]])] [(0, .box 78 ((cL 1 (cL 1 z01)) t3)), (1, .box 26 [z0i 2]), (2, .row 3 1 (b32.2.map z01)), (3, .box 116 [z3n 78 [z1r (z01 t5), z1r [z3n 50 [z0i 0]], z0i 1, z0i 3]])] (z00 b32.1) [I_ b28, I_ b30] q fn_78 (hq_weight_least_1_s4 _ _ _ _ _ _ _ h33) (.cons q (.cons q (.cons q (.cons q .nil)))) q (.cons .same (.cons .same (.cons .same (.cons (.ptr (.cons (.clo (.cons (.obj q q q) .nil)) .nil)) (.cons (.obj q q q) (.cons (.obj q q q) .nil)))))) (.cons q q q q (.box (.cons .same .nil)) q q (.cons q q q q (.box (.cons (.obj q q q) .nil)) q q (.cons q q q q (.row (NKC.flat _ _)) q q (.cons q q q q (.box (.cons (.clo (.cons .same (.cons (.ptr (.cons (.clo (.cons (.obj q q q) .nil)) .nil)) (.cons (.obj q q q) (.cons (.obj q q q) .nil))))) .nil)) q q .nil)))) (.cons q q q q (.box (.cons .same .nil)) q q (.cons q q q q (.box (.cons (.obj q q q) .nil)) q q (.cons q q q q (.row (NKC.flat _ _)) q q (.cons q q q q (.box (.cons (.clo (.cons .same (.cons (.ptr (.cons (.clo (.cons (.obj q q q) .nil)) .nil)) (.cons (.obj q q q) (.cons (.obj q q q) .nil))))) .nil)) q q .nil)))) .same q q q <| R0 <| z1v q (fun h34 => ?_) (fun h34 => ?_)
  · exact Jq q <| Ra (z00 true) q q <| R0 <| z0x <| J_retK hΨ (z4r q (.tmp (A := z00 true) q)) [] [] [] q (fun y hy => by cases hy; exact ⟨(.cons q q q q (.box (.cons .same .nil)) q q (.cons q q q q (.box (.cons (.obj q q q) .nil)) q q (.cons q q q q (.row (NKC.flat _ _)) q q (.cons q q q q (.box (.cons (.clo (.cons .same (.cons (.ptr (.cons (.clo (.cons (.obj q q q) .nil)) .nil)) (.cons (.obj q q q) (.cons (.obj q q q) .nil))))) .nil)) q q .nil)))), .same⟩)
  exact z0e <| z0s <| Jr q <| Rm (I_ x13.2) q q <| z0d fun b35 h36 => z1l b35 q q (Option.some.inj h36) q <| Ra (I_ b35) q q <| R0 <| z41 <| Jc [] [] [] (hE14 (b32.2, b35)) (.s2 q q (.cons (A := z0i 1) q (.obj q q q) (.cons (A := z0i 3) q (.obj q q q) (.s2 q q (.s3 q q q .nil))))) (.cons q q q q (.box (.cons .same .nil)) q q (.cons q q q q (.box (.cons (.obj q q q) .nil)) q q (.cons q q q q (.row (NKC.flat _ _)) q q (.cons q q q q (.box (.cons (.clo (.cons .same (.cons (.ptr (.cons (.clo (.cons (.obj q q q) .nil)) .nil)) (.cons (.obj q q q) (.cons (.obj q q q) .nil))))) .nil)) q q .nil)))) q q
theorem weight_least_1_s4_n_ok : ∀ n, (∀ (t0 : Int) (t1 : Int) (t2 : Int) (t3 : (List (List Int))) (t4 : (List Int)) (t5 : Int) (r : Bool × (List Int)), (z8u n) t0 t1 t2 t3 t4 t5 = some r → FnK PP 78 4 [(0, .box 78 ((cL 1 (cL 1 z01)) t3)), (1, .box 26 [z0i 2]), (2, .row 3 1 (t4.map z01)), (3, .box 116 [z3n 78 [z1r (z01 t5), z1r [z3n 50 [z0i 0]], z0i 1, z0i 3]])] [I_ t0, I_ t1, z1r (z01 t2), z1r [z3n 50 [z0i 0]], z0i 1, z0i 3] [(0, .box 78 ((cL 1 (cL 1 z01)) t3)), (1, .box 26 [z0i 2]), (2, .row 3 1 (r.2.map z01)), (3, .box 116 [z3n 78 [z1r (z01 t5), z1r [z3n 50 [z0i 0]], z0i 1, z0i 3]])] (z00 r.1)) := by
  intro n
  induction n with
  | zero => exact (fun _ _ _ _ _ _ _ h => by cases h)
  | succ n ih => exact (fun a0 a1 a2 a3 a4 a5 r h => k_weight_least_1_s4_b _ ih a0 a1 a2 a3 a4 a5 r h)
theorem k_weight_least_1_s4 (t0 : Int) (t1 : Int) (t2 : Int) (t3 : (List (List Int))) (t4 : (List Int)) (t5 : Int) (r : Bool × (List Int)) (hr : weight_least_1_s4 t0 t1 t2 t3 t4 t5 = some r) : FnK PP 78 4 [(0, .box 78 ((cL 1 (cL 1 z01)) t3)), (1, .box 26 [z0i 2]), (2, .row 3 1 (t4.map z01)), (3, .box 116 [z3n 78 [z1r (z01 t5), z1r [z3n 50 [z0i 0]], z0i 1, z0i 3]])] [I_ t0, I_ t1, z1r (z01 t2), z1r [z3n 50 [z0i 0]], z0i 1, z0i 3] [(0, .box 78 ((cL 1 (cL 1 z01)) t3)), (1, .box 26 [z0i 2]), (2, .row 3 1 (r.2.map z01)), (3, .box 116 [z3n 78 [z1r (z01 t5), z1r [z3n 50 [z0i 0]], z0i 1, z0i 3]])] (z00 r.1) := by
  obtain ⟨n, hn⟩ := Ev_some hr
  exact (weight_least_1_s4_n_ok n) t0 t1 t2 t3 t4 t5 r hn
theorem k_weight_least_s3 (t0 : Int) (t1 : (List (List Int))) (r : (List Int) × Bool) (hr : weight_least_s3 t0 t1 = some r) : FnK PP 39 1 [(0, .box 78 ((cL 1 (cL 1 z01)) t1))] [I_ t0, z3n 50 [z0i 0]] [(0, .box 78 ((cL 1 (cL 1 z01)) t1))] (z35 [AL 1 z01 r.1, z00 r.2]) := by
  refine Ko (fun (r : (List Int) × Bool) => [(0, .box 78 ((cL 1 (cL 1 z01)) t1))]) (fun (r : (List Int) × Bool) => z35 [AL 1 z01 r.1, z00 r.2]) Tryz.func39 q (n := 23) q (KBL.cons inferInstance (KBL.cons (KB.clo (KBL.cons (KB.obj q) inferInstance)) (inferInstance : KBL 1 []))).kb (InsOk.spec (.box q kbl_nk .nil)) q hr fun X hΨ => ?_
  refine Jq q <| z17 (I_ t0) q q <| z17 (z3n 50 [z0i 0]) q q <| Ra (z1m) q q <| Ra (z00 false) q q <| R0 <| Jq q <| z11 (I_ t0) z1t q q q ?_
  refine z1b (fun h1 => ?_) (fun _ => z0u)
  refine r_make (cc := z01) 1 0 ap_26 z_3 q q h1.1 h1.2 q q <| z1x 2 _ z_26 q q <| z2p (z0i 2) (z0i 1) [z0i 1] sz_26 q .obj q q q q q q <| R0 <| Jq q <| z1x 3 _ z_116 q q <| R0 <| Jq q ?_
  refine r_mkClo [z1r (z01 t0), z1r [z3n 50 [z0i 0]], z0i 2, z0i 3] q q <| z2p (z0i 3) (z3n 78 [z1r (z01 t0), z1r [z3n 50 [z0i 0]], z0i 2, z0i 3]) [z3n 78 [z1r (z01 t0), z1r [z3n 50 [z0i 0]], z0i 2, z0i 3]] sz_116 q .obj q q q q q q <| R0 <| Js <| Jq q <| z11 (I_ t0) z1t q q q <| z0d fun b2 h3 => r_mul b2 q q (Option.some.inj h3) q <| z0d fun b4 h5 => ?_
  refine z1l b4 q q (Option.some.inj h5) q <| Rm (I_ 0) q q <| R0 <| z0n <| Jn (fun x6 => ⟨fr [(0, I_ t0), (6, z0i 1), (7, z0i 3), (9, I_ t0), (12, I_ t0), (14, I_ b4), (15, I_ x6.2)], hp [(0, .box 78 ((cL 1 (cL 1 z01)) t1)), (1, .box 26 [z0i 2]), (2, .row 3 1 (x6.1.map z01)), (3, .box 116 [z3n 78 [z1r (z01 t0), z1r [z3n 50 [z0i 0]], z0i 1, z0i 3]])], 4⟩) [] [(1, 2), (2, 1)] [] q (.same q (.cons (A := z0i 2) q (.obj q q q) (.cons (A := z0i 3) q (.obj q q q) (.same q (.s3 q q q .nil))))) (.cons q q q q (.box (.cons .same .nil)) q q (.cons q q q q (.box (.cons (.obj q q q) .nil)) q q (.cons q q q q (.row (NKC.flat _ _)) q q (.cons q q q q (.box (.cons (.clo (.cons .same (.cons (.ptr (.cons (.clo (.cons (.obj q q q) .nil)) .nil)) (.cons (.obj q q q) (.cons (.obj q q q) .nil))))) .nil)) q q .nil)))) q q (fun E7 hE7 x6 => ?_)
  refine Jq q <| z1o q q q <| R0 <| Js <| z09 q (fun h12 => ?_) (fun h12 => ?_)
  rotate_left
  · exact z1j q <| z0x <| Jq q <| Ra (z1m) q q <| Ra (z00 false) q q <| R0 <| J_retK hΨ (z16 (As := [z1m, z00 false]) q q (.cons (.tmp (A := z1m) q) (.cons (.tmp (A := z00 false) q) .nil))) [] [] [] q (fun y hy => by cases hy; exact ⟨(.cons q q q q (.box (.cons .same .nil)) q q .nil), (.tup (.cons .nil (.cons .same .nil)))⟩)
  refine z0e <| Js <| z0n <| Jq q <| Rm (I_ x6.2) q q <| Ra (I_ x6.2) q q <| R0 <| Jq q ?_
  refine z2b (z0i 3) (z3n 78 [z1r (z01 t0), z1r [z3n 50 [z0i 0]], z0i 1, z0i 3]) sc_116 q .obj q q q <| Rm (I_ x6.2) q q <| z0d fun b13 h14 => r_callKC [z1r (z01 t0), z1r [z3n 50 [z0i 0]], z0i 1, z0i 3] [] [] [] [] 4 [(0, .box 78 ((cL 1 (cL 1 z01)) t1)), (1, .box 26 [z0i 2]), (2, .row 3 1 (x6.1.map z01)), (3, .box 116 [z3n 78 [z1r (z01 t0), z1r [z3n 50 [z0i 0]], z0i 1, z0i 3]])] [(0, .box 78 ((cL 1 (cL 1 z01)) t1)), (1, .box 26 [z0i 2]), (2, .row 3 1 (b13.2.map z01)), (3, .box 116 [z3n 78 [z1r (z01 t0), z1r [z3n 50 [z0i 0]], z0i 1, z0i 3]])] (z00 b13.1) [I_ 0, I_ x6.2] q fn_78 (k_weight_least_1_s4 _ _ _ _ _ _ _ h14) (.cons q (.cons q (.cons q (.cons q .nil)))) q (.cons .same (.cons .same (.cons .same (.cons (.ptr (.cons (.clo (.cons (.obj q q q) .nil)) .nil)) (.cons (.obj q q q) (.cons (.obj q q q) .nil)))))) (.cons q q q q (.box (.cons .same .nil)) q q (.cons q q q q (.box (.cons (.obj q q q) .nil)) q q (.cons q q q q (.row (NKC.flat _ _)) q q (.cons q q q q (.box (.cons (.clo (.cons .same (.cons (.ptr (.cons (.clo (.cons (.obj q q q) .nil)) .nil)) (.cons (.obj q q q) (.cons (.obj q q q) .nil))))) .nil)) q q .nil)))) (.cons q q q q (.box (.cons .same .nil)) q q (.cons q q q q (.box (.cons (.obj q q q) .nil)) q q (.cons q q q q (.row (NKC.flat _ _)) q q (.cons q q q q (.box (.cons (.clo (.cons .same (.cons (.ptr (.cons (.clo (.cons (.obj q q q) .nil)) .nil)) (.cons (.obj q q q) (.cons (.obj q q q) .nil))))) .nil)) q q .nil)))) .same q q q <| R0 <| z1v q (fun h15 => ?_) (fun h15 => ?_)
  · exact Jq q <| z2b (z0i 1) (z0i 2) z1s q .obj q q q <| Ra (z0i 2) q q <| Ra (z00 true) q q <| R0 <| z0x <| J_retK hΨ (z16 (As := [z0i 2, z00 true]) q q (.cons (.tmp (A := z0i 2) q) (.cons (.tmp (A := z00 true) q) .nil))) [2] [] [] q (fun y hy => by cases hy; exact ⟨(.cons q q q q (.box (.cons .same .nil)) q q .nil), (.tup (.cons (.frow q q (NKC.flat _ _)) (.cons .same .nil)))⟩)
  exact z0e <| z0s <| z0o 14 (m := b4) q fun q16 => z0o 8 (m := x6.2) q fun q17 => Jr q <| z1l (x6.2 + 1) q q (z0z (by omega) (by omega)) q <| Rm (I_ (x6.2 + 1)) q q <| R0 <| z41 <| Jc [] [] [] (hE7 (b13.2, x6.2 + 1)) (.same q (.cons (A := z0i 1) q (.obj q q q) (.cons (A := z0i 3) q (.obj q q q) (.same q (.s3 q q q .nil))))) (.cons q q q q (.box (.cons .same .nil)) q q (.cons q q q q (.box (.cons (.obj q q q) .nil)) q q (.cons q q q q (.row (NKC.flat _ _)) q q (.cons q q q q (.box (.cons (.clo (.cons .same (.cons (.ptr (.cons (.clo (.cons (.obj q q q) .nil)) .nil)) (.cons (.obj q q q) (.cons (.obj q q q) .nil))))) .nil)) q q .nil)))) q q
theorem k_weight_Refute (t0 : z06) (t1 : (List z10)) (r : (List Int) × Int) (hr : weight_Refute t0 t1 = some r) : FnP PP 17 [z0w (z02 t0), AL 25 z0g t1] (z35 [AL 1 z01 r.1, I_ r.2]) := by
  refine Fo (fun (r : (List Int) × Int) => z35 [AL 1 z01 r.1, I_ r.2]) Tryz.func17 q (n := 32) q q hr fun X hΨ => ?_
  refine Jq q <| z17 (z0w (z02 t0)) q q <| Ra (z1m) q q <| Ra (I_ 0) q q <| R0 <| Jq q <| z14 (z02 t0) z2j q q q q <| Rm (AL 25 z0g t1) q q ?_
  refine z0d fun b1 h2 => z0j _ fn_38 (z8r _ _ _ h2) q q <| Rm (z35 [AL 1 (cL 1 z01) b1.1, AL 1 z01 b1.2.1, I_ b1.2.2]) q q <| z20 (AL 1 (cL 1 z01) b1.1) q q q <| z20 (AL 1 z01 b1.2.1) q q q <| z20 (I_ b1.2.2) q q q <| z1x 0 _ z_78 q q <| z2p (z0i 0) (AL 1 (cL 1 z01) b1.1) ((cL 1 (cL 1 z01)) b1.1) sz_78 q .obj q q q q q q <| Ra (AL 1 z01 b1.2.1) q q <| Ra (I_ b1.2.2) q q ?_
  refine R0 <| Js <| Jq q <| Rm (I_ b1.2.2) q q <| z2a q q q <| R0 <| z09 q (fun h3 => ?_) (fun h3 => ?_)
  · exact Jq q <| Rm (I_ b1.2.2) q q <| Ra (z1m) q q <| Ra (I_ b1.2.2) q q <| R0 <| z3g hΨ (z16 (As := [z1m, I_ b1.2.2]) q q (.cons (.tmp (A := z1m) q) (.cons (.tmp (A := I_ b1.2.2) q) .nil))) (fun y hy => by cases hy; exact (.tup (.cons .nil (.cons .same .nil))))
  refine z0e <| Jq q <| Rm (AL 25 z0g t1) q q <| z1a (cc := z0g) il_44 q q <| r_mkClo [z0i 0] q q <| z0d fun b4 h5 => r_callK [] [] [] [] 1 [(0, .box 78 ((cL 1 (cL 1 z01)) b1.1))] [(0, .box 78 ((cL 1 (cL 1 z01)) b1.1))] (z35 [AL 1 z01 b4.1, z00 b4.2]) [I_ (t1.length : Int), z3n 50 [z0i 0]] fn_39 (k_weight_least_s3 _ _ _ h5) (.cons q .nil) q (.cons .same (.cons (.clo (.cons (.obj q q q) .nil)) .nil)) (.cons q q q q (.box (.cons .same .nil)) q q .nil) (.cons q q q q (.box (.cons .same .nil)) q q .nil) (.tup (.cons .same (.cons .same .nil))) q q q <| Rm (z35 [AL 1 z01 b4.1, z00 b4.2]) q q <| z20 (AL 1 z01 b4.1) q q q ?_
  refine z20 (z00 b4.2) q q q <| Ra (AL 1 z01 b4.1) q q <| Ra (z00 b4.2) q q <| R0 <| Js <| Jq q <| Rm (z00 b4.2) q q <| z2x q q <| R0 ?_
  refine z1v q (fun h6 => ?_) (fun h6 => ?_)
  · exact Jq q <| Ra (z1m) q q <| Ra (I_ 10) q q <| R0 <| z3g hΨ (z16 (As := [z1m, I_ 10]) q q (.cons (.tmp (A := z1m) q) (.cons (.tmp (A := I_ 10) q) .nil))) (fun y hy => by cases hy; exact (.tup (.cons .nil (.cons .same .nil))))
  exact z0e <| Jq q <| Rm (AL 1 z01 b4.1) q q <| z0d fun b7 h8 => z0j _ fn_20 (FnK.toP (r' := AL 1 z01 b7) (z4h _ _ h8) (.frow q q (NKC.flat _ _))) q q <| Ra (AL 1 z01 b7) q q <| Ra (I_ 0) q q <| R0 <| Jt hΨ (z16 (As := [AL 1 z01 b7, I_ 0]) q q (.cons (.tmp (A := AL 1 z01 b7) q) (.cons (.tmp (A := I_ 0) q) .nil))) q q
theorem k_ref04_Example  (r : z06) (hr : ref04_Example  = some r) : FnP PP 28 [] (z0w (z02 r)) := by
  refine Fo (fun (r : z06) => z0w (z02 r)) Tryz.func28 q (n := 15) q q hr fun X hΨ => ?_
  refine Jq q <| z1x 0 _ z_25 q q <| R0 <| Jq q <| z4p (Cs := [z1h (ByteArray.mk #[98, 97, 108, 97, 110, 99, 101]), I_ (-1000), I_ 1000, z1m]) (z08 (z0r.mk (ByteArray.mk #[98, 97, 108, 97, 110, 99, 101]) (-1000) 1000 [])) pl_100 z_100 (.cons (A := z1h (ByteArray.mk #[98, 97, 108, 97, 110, 99, 101])) q po_100_0 q (.cons (A := I_ (-1000)) q po_100_1 q (.cons (A := I_ 1000) q po_100_2 q .nil))) q (.same (.same (.same (.nl .nil)))) q <| r_bs (cc := z08) [(z0r.mk (ByteArray.mk #[98, 97, 108, 97, 110, 99, 101]) (-1000) 1000 [])] el_95 zr_100_1 (.cons (A := z0w (z08 (z0r.mk (ByteArray.mk #[98, 97, 108, 97, 110, 99, 101]) (-1000) 1000 []))) q q q .nil) q q q <| z52 (z03 (z15.mk (ByteArray.mk #[65, 99, 99, 111, 117, 110, 116]) (-1) true [(z0r.mk (ByteArray.mk #[98, 97, 108, 97, 110, 99, 101]) (-1000) 1000 [])])) pl_97 z_97 (.cons (A := z1h (ByteArray.mk #[65, 99, 99, 111, 117, 110, 116])) q po_97_0 q (.cons (A := I_ (-1)) q po_97_1 q (.cons (A := z00 true) q po_97_2 q (.cons (A := AL 4 z08 [(z0r.mk (ByteArray.mk #[98, 97, 108, 97, 110, 99, 101]) (-1000) 1000 [])]) q po_97_3 q .nil)))) q q <| z4p (Cs := [z1h (ByteArray.mk #[67, 97, 115, 104]), I_ 0, z00 false, z1m]) (z03 (z15.mk (ByteArray.mk #[67, 97, 115, 104]) 0 false [])) pl_97 z_97 (.cons (A := z1h (ByteArray.mk #[67, 97, 115, 104])) q po_97_0 q (.cons (A := I_ 0) q po_97_1 q .nil)) q (.same (.same (.same (.nl .nil)))) q ?_
  refine r_bs (cc := z23) [(ByteArray.mk #[111, 112, 101, 110]), (ByteArray.mk #[99, 108, 111, 115, 101, 100])] el_98 zr_9_2 (.cons (A := z1h (ByteArray.mk #[111, 112, 101, 110])) q q q (.cons (A := z1h (ByteArray.mk #[99, 108, 111, 115, 101, 100])) q q q .nil)) q q q <| z52 (z08 (z0r.mk (ByteArray.mk #[115, 116, 97, 116, 101]) 0 1 [(ByteArray.mk #[111, 112, 101, 110]), (ByteArray.mk #[99, 108, 111, 115, 101, 100])])) pl_100 z_100 (.cons (A := z1h (ByteArray.mk #[115, 116, 97, 116, 101])) q po_100_0 q (.cons (A := I_ 1) q po_100_2 q (.cons (A := AL 1 z23 [(ByteArray.mk #[111, 112, 101, 110]), (ByteArray.mk #[99, 108, 111, 115, 101, 100])]) q po_100_3 q .nil))) q q <| r_bs (cc := z08) [(z0r.mk (ByteArray.mk #[115, 116, 97, 116, 101]) 0 1 [(ByteArray.mk #[111, 112, 101, 110]), (ByteArray.mk #[99, 108, 111, 115, 101, 100])])] el_95 zr_100_1 (.cons (A := z0w (z08 (z0r.mk (ByteArray.mk #[115, 116, 97, 116, 101]) 0 1 [(ByteArray.mk #[111, 112, 101, 110]), (ByteArray.mk #[99, 108, 111, 115, 101, 100])]))) q q q .nil) q q q <| z52 (z03 (z15.mk (ByteArray.mk #[76, 111, 97, 110]) 0 false [(z0r.mk (ByteArray.mk #[115, 116, 97, 116, 101]) 0 1 [(ByteArray.mk #[111, 112, 101, 110]), (ByteArray.mk #[99, 108, 111, 115, 101, 100])])])) pl_97 z_97 (.cons (A := z1h (ByteArray.mk #[76, 111, 97, 110])) q po_97_0 q (.cons (A := I_ 0) q po_97_1 q (.cons (A := AL 4 z08 [(z0r.mk (ByteArray.mk #[115, 116, 97, 116, 101]) 0 1 [(ByteArray.mk #[111, 112, 101, 110]), (ByteArray.mk #[99, 108, 111, 115, 101, 100])])]) q po_97_3 q .nil))) q q <| z4p (Cs := [z1h (ByteArray.mk #[80, 101, 114, 115, 111, 110]), I_ (-1), z00 false, z1m]) (z03 (z15.mk (ByteArray.mk #[80, 101, 114, 115, 111, 110]) (-1) false [])) pl_97 z_97 (.cons (A := z1h (ByteArray.mk #[80, 101, 114, 115, 111, 110])) q po_97_0 q (.cons (A := I_ (-1)) q po_97_1 q .nil)) q (.same (.same (.same (.nl .nil)))) q <| r_bs (cc := z03) [(z15.mk (ByteArray.mk #[65, 99, 99, 111, 117, 110, 116]) (-1) true [(z0r.mk (ByteArray.mk #[98, 97, 108, 97, 110, 99, 101]) (-1000) 1000 [])]), (z15.mk (ByteArray.mk #[67, 97, 115, 104]) 0 false []), (z15.mk (ByteArray.mk #[76, 111, 97, 110]) 0 false [(z0r.mk (ByteArray.mk #[115, 116, 97, 116, 101]) 0 1 [(ByteArray.mk #[111, 112, 101, 110]), (ByteArray.mk #[99, 108, 111, 115, 101, 100])])]), (z15.mk (ByteArray.mk #[80, 101, 114, 115, 111, 110]) (-1) false [])] el_22 zr_97_4 (.cons (A := z0w (z03 (z15.mk (ByteArray.mk #[65, 99, 99, 111, 117, 110, 116]) (-1) true [(z0r.mk (ByteArray.mk #[98, 97, 108, 97, 110, 99, 101]) (-1000) 1000 [])]))) q q q (.cons (A := z0w (z03 (z15.mk (ByteArray.mk #[67, 97, 115, 104]) 0 false []))) q q q (.cons (A := z0w (z03 (z15.mk (ByteArray.mk #[76, 111, 97, 110]) 0 false [(z0r.mk (ByteArray.mk #[115, 116, 97, 116, 101]) 0 1 [(ByteArray.mk #[111, 112, 101, 110]), (ByteArray.mk #[99, 108, 111, 115, 101, 100])])]))) q q q (.cons (A := z0w (z03 (z15.mk (ByteArray.mk #[80, 101, 114, 115, 111, 110]) (-1) false []))) q q q .nil)))) q q q <| z52 (z0c (z1g.mk (ByteArray.mk #[111, 119, 110, 115]) 3 0 0 (-1) 1 1)) pl_102 z_102 (.cons (A := z1h (ByteArray.mk #[111, 119, 110, 115])) q po_102_0 q (.cons (A := I_ 3) q po_102_1 q (.cons (A := I_ 0) q po_102_2 q (.cons (A := I_ (-1)) q po_102_4 q (.cons (A := I_ 1) q po_102_5 q (.cons (A := I_ 1) q po_102_6 q .nil)))))) q q <| z52 (z0c (z1g.mk (ByteArray.mk #[112, 97, 121, 115]) 1 1 0 (-1) 0 (-1))) pl_102 z_102 (.cons (A := z1h (ByteArray.mk #[112, 97, 121, 115])) q po_102_0 q (.cons (A := I_ 1) q po_102_1 q (.cons (A := I_ 1) q po_102_2 q (.cons (A := I_ (-1)) q po_102_4 q (.cons (A := I_ (-1)) q po_102_6 q .nil))))) q q <| r_bs (cc := z0c) [(z1g.mk (ByteArray.mk #[111, 119, 110, 115]) 3 0 0 (-1) 1 1), (z1g.mk (ByteArray.mk #[112, 97, 121, 115]) 1 1 0 (-1) 0 (-1))] el_23 zr_102_2 (.cons (A := z0w (z0c (z1g.mk (ByteArray.mk #[111, 119, 110, 115]) 3 0 0 (-1) 1 1))) q q q (.cons (A := z0w (z0c (z1g.mk (ByteArray.mk #[112, 97, 121, 115]) 1 1 0 (-1) 0 (-1)))) q q q .nil)) q q q <| z52 (z02 (z06.mk [(z15.mk (ByteArray.mk #[65, 99, 99, 111, 117, 110, 116]) (-1) true [(z0r.mk (ByteArray.mk #[98, 97, 108, 97, 110, 99, 101]) (-1000) 1000 [])]), (z15.mk (ByteArray.mk #[67, 97, 115, 104]) 0 false []), (z15.mk (ByteArray.mk #[76, 111, 97, 110]) 0 false [(z0r.mk (ByteArray.mk #[115, 116, 97, 116, 101]) 0 1 [(ByteArray.mk #[111, 112, 101, 110]), (ByteArray.mk #[99, 108, 111, 115, 101, 100])])]), (z15.mk (ByteArray.mk #[80, 101, 114, 115, 111, 110]) (-1) false [])] [(z1g.mk (ByteArray.mk #[111, 119, 110, 115]) 3 0 0 (-1) 1 1), (z1g.mk (ByteArray.mk #[112, 97, 121, 115]) 1 1 0 (-1) 0 (-1))])) pl_25 z_25 (.cons (A := AL 4 z03 [(z15.mk (ByteArray.mk #[65, 99, 99, 111, 117, 110, 116]) (-1) true [(z0r.mk (ByteArray.mk #[98, 97, 108, 97, 110, 99, 101]) (-1000) 1000 [])]), (z15.mk (ByteArray.mk #[67, 97, 115, 104]) 0 false []), (z15.mk (ByteArray.mk #[76, 111, 97, 110]) 0 false [(z0r.mk (ByteArray.mk #[115, 116, 97, 116, 101]) 0 1 [(ByteArray.mk #[111, 112, 101, 110]), (ByteArray.mk #[99, 108, 111, 115, 101, 100])])]), (z15.mk (ByteArray.mk #[80, 101, 114, 115, 111, 110]) (-1) false [])]) q po_25_0 q (.cons (A := AL 7 z0c [(z1g.mk (ByteArray.mk #[111, 119, 110, 115]) 3 0 0 (-1) 1 1), (z1g.mk (ByteArray.mk #[112, 97, 121, 115]) 1 1 0 (-1) 0 (-1))]) q po_25_1 q .nil)) q q ?_
  exact z2p (z0i 0) (z0w (z02 (z06.mk [(z15.mk (ByteArray.mk #[65, 99, 99, 111, 117, 110, 116]) (-1) true [(z0r.mk (ByteArray.mk #[98, 97, 108, 97, 110, 99, 101]) (-1000) 1000 [])]), (z15.mk (ByteArray.mk #[67, 97, 115, 104]) 0 false []), (z15.mk (ByteArray.mk #[76, 111, 97, 110]) 0 false [(z0r.mk (ByteArray.mk #[115, 116, 97, 116, 101]) 0 1 [(ByteArray.mk #[111, 112, 101, 110]), (ByteArray.mk #[99, 108, 111, 115, 101, 100])])]), (z15.mk (ByteArray.mk #[80, 101, 114, 115, 111, 110]) (-1) false [])] [(z1g.mk (ByteArray.mk #[111, 119, 110, 115]) 3 0 0 (-1) 1 1), (z1g.mk (ByteArray.mk #[112, 97, 121, 115]) 1 1 0 (-1) 0 (-1))]))) (z02 (z06.mk [(z15.mk (ByteArray.mk #[65, 99, 99, 111, 117, 110, 116]) (-1) true [(z0r.mk (ByteArray.mk #[98, 97, 108, 97, 110, 99, 101]) (-1000) 1000 [])]), (z15.mk (ByteArray.mk #[67, 97, 115, 104]) 0 false []), (z15.mk (ByteArray.mk #[76, 111, 97, 110]) 0 false [(z0r.mk (ByteArray.mk #[115, 116, 97, 116, 101]) 0 1 [(ByteArray.mk #[111, 112, 101, 110]), (ByteArray.mk #[99, 108, 111, 115, 101, 100])])]), (z15.mk (ByteArray.mk #[80, 101, 114, 115, 111, 110]) (-1) false [])] [(z1g.mk (ByteArray.mk #[111, 119, 110, 115]) 3 0 0 (-1) 1 1), (z1g.mk (ByteArray.mk #[112, 97, 121, 115]) 1 1 0 (-1) 0 (-1))])) sz_25 q .obj q q q q q q <| R0 <| Jt hΨ (z4r q (.boxA (cs := (z02 (z06.mk [(z15.mk (ByteArray.mk #[65, 99, 99, 111, 117, 110, 116]) (-1) true [(z0r.mk (ByteArray.mk #[98, 97, 108, 97, 110, 99, 101]) (-1000) 1000 [])]), (z15.mk (ByteArray.mk #[67, 97, 115, 104]) 0 false []), (z15.mk (ByteArray.mk #[76, 111, 97, 110]) 0 false [(z0r.mk (ByteArray.mk #[115, 116, 97, 116, 101]) 0 1 [(ByteArray.mk #[111, 112, 101, 110]), (ByteArray.mk #[99, 108, 111, 115, 101, 100])])]), (z15.mk (ByteArray.mk #[80, 101, 114, 115, 111, 110]) (-1) false [])] [(z1g.mk (ByteArray.mk #[111, 119, 110, 115]) 3 0 0 (-1) 1 1), (z1g.mk (ByteArray.mk #[112, 97, 121, 115]) 1 1 0 (-1) 0 (-1))]))) z2j q q q)) q q
theorem k_law39_plain (t0 : z0p) (t1 : z0p) (t2 : z2d) (t3 : z0t) (r : z10) (hr : law39_plain t0 t1 t2 t3 = some r) : FnP PP 58 [z0w (z07 t0), z0w (z07 t1), z0w (z1i t2), z0w (z0m t3)] (z0w (z0g r)) := by
  refine Fo (fun (r : z10) => z0w (z0g r)) Tryz.func58 q (n := 17) q q hr fun X hΨ => ?_
  refine Jq q <| z17 (z0w (z07 t0)) q q <| z17 (z0w (z07 t1)) q q <| z17 (z0w (z1i t2)) q q <| z17 (z0w (z0m t3)) q q <| z1x 0 _ z_41 q q <| R0 <| Jq q ?_
  refine z14 (z07 t0) z4d q q q q <| z4p (Cs := [AL 1 z01 t0.Nodes, AL 3 z0b t0.Edges, z1m, I_ 0, z1m]) (z0a (z0q.mk t0 [] 0 [])) pl_33 z_33 (.cons (A := z0w (z07 t0)) q po_33_0 q .nil) q (.same (.same (.nl (.same (.nl .nil))))) q <| z14 (z07 t1) z4d q q q q <| z4p (Cs := [AL 1 z01 t1.Nodes, AL 3 z0b t1.Edges, z1m, I_ 0, z1m]) (z0a (z0q.mk t1 [] 0 [])) pl_33 z_33 (.cons (A := z0w (z07 t1)) q po_33_0 q .nil) q (.same (.same (.nl (.same (.nl .nil))))) q <| z14 (z1i t2) ag_35 q q q q <| z14 (z0m t3) ag_36 q q q q <| z4p (Cs := [I_ 1, z1m, z1m, z1m, z1m, z1m, z1m, I_ 0, z1m]) (z04 (z05.mk 1 [] (z0t.mk [] []) (z0q.mk (z0p.mk [] []) [] 0 []))) pl_39 z_39 (.cons (A := I_ 1) q po_39_0 q .nil) q (by rw [c_api_Condition_def]; exact (.same (.nl (.nl (.nl (.nl (.nl (.nl (.same (.nl .nil)))))))))) q <| z52 (z0g (z10.mk (ByteArray.mk #[114]) (z0q.mk t0 [] 0 []) (z0q.mk t1 [] 0 []) t2 t3 true (z05.mk 1 [] (z0t.mk [] []) (z0q.mk (z0p.mk [] []) [] 0 [])))) pl_41 z_41 (.cons (A := z1h (ByteArray.mk #[114])) q po_41_0 q (.cons (A := z0w (z0a (z0q.mk t0 [] 0 []))) q po_41_1 q (.cons (A := z0w (z0a (z0q.mk t1 [] 0 []))) q po_41_2 q (.cons (A := z0w (z1i t2)) q po_41_3 q (.cons (A := z0w (z0m t3)) q po_41_4 q (.cons (A := z00 true) q po_41_5 q (.cons (A := z0w (z04 (z05.mk 1 [] (z0t.mk [] []) (z0q.mk (z0p.mk [] []) [] 0 [])))) q po_41_6 q .nil))))))) q q <| z2p (z0i 0) (z0w (z0g (z10.mk (ByteArray.mk #[114]) (z0q.mk t0 [] 0 []) (z0q.mk t1 [] 0 []) t2 t3 true (z05.mk 1 [] (z0t.mk [] []) (z0q.mk (z0p.mk [] []) [] 0 []))))) (z0g (z10.mk (ByteArray.mk #[114]) (z0q.mk t0 [] 0 []) (z0q.mk t1 [] 0 []) t2 t3 true (z05.mk 1 [] (z0t.mk [] []) (z0q.mk (z0p.mk [] []) [] 0 [])))) sz_41 q .obj q q q q q q <| R0 ?_
  exact Jt hΨ (z4r q (.boxA (cs := (z0g (z10.mk (ByteArray.mk #[114]) (z0q.mk t0 [] 0 []) (z0q.mk t1 [] 0 []) t2 t3 true (z05.mk 1 [] (z0t.mk [] []) (z0q.mk (z0p.mk [] []) [] 0 []))))) ag_41 q q q)) q q
theorem k_law39_example  (r : (List z10)) (hr : law39_example  = some r) : FnP PP 29 [] (AL 25 z0g r) := by
  refine Fo (fun (r : (List z10)) => AL 25 z0g r) Tryz.func29 q (n := 28) q q hr fun X hΨ => ?_
  refine Jq q <| Ra (z1m) q q <| R0 <| Jq q <| r_bs (cc := z01) [3, 1, 1] z1w zr_3_3 (.cons (A := I_ 3) q q q (.cons (A := I_ 1) q q q (.cons (A := I_ 1) q q q .nil))) q q q <| z52 (z0b (z1e.mk 1 1 2)) pl_77 z_77 (.cons (A := I_ 1) q po_77_0 q (.cons (A := I_ 1) q po_77_1 q (.cons (A := I_ 2) q po_77_2 q .nil))) q q <| r_bs (cc := z0b) [(z1e.mk 1 1 2)] el_27 zr_77_1 (.cons (A := z0w (z0b (z1e.mk 1 1 2))) q q q .nil) q q q <| z52 (z07 (z0p.mk [3, 1, 1] [(z1e.mk 1 1 2)])) pl_29 z_29 (.cons (A := AL 1 z01 [3, 1, 1]) q po_29_0 q (.cons (A := AL 3 z0b [(z1e.mk 1 1 2)]) q po_29_1 q .nil)) q q ?_
  refine z1x 0 _ z_29 q q <| z2p (z0i 0) (z0w (z07 (z0p.mk [3, 1, 1] [(z1e.mk 1 1 2)]))) (z07 (z0p.mk [3, 1, 1] [(z1e.mk 1 1 2)])) sz_29 q .obj q q q q q q <| R0 <| Jq q <| r_bs (cc := z01) [3, 1, 1, 2] z1w zr_3_4 (.cons (A := I_ 3) q q q (.cons (A := I_ 1) q q q (.cons (A := I_ 1) q q q (.cons (A := I_ 2) q q q .nil)))) q q q <| z52 (z0b (z1e.mk 0 0 3)) pl_77 z_77 (.cons (A := I_ 0) q po_77_0 q (.cons (A := I_ 0) q po_77_1 q (.cons (A := I_ 3) q po_77_2 q .nil))) q q <| r_bs (cc := z0b) [(z1e.mk 0 0 3)] el_27 zr_77_1 (.cons (A := z0w (z0b (z1e.mk 0 0 3))) q q q .nil) q q q <| z52 (z07 (z0p.mk [3, 1, 1, 2] [(z1e.mk 0 0 3)])) pl_29 z_29 (.cons (A := AL 1 z01 [3, 1, 1, 2]) q po_29_0 q (.cons (A := AL 3 z0b [(z1e.mk 0 0 3)]) q po_29_1 q .nil)) q q <| z1x 1 _ z_29 q q ?_
  refine z2p (z0i 1) (z0w (z07 (z0p.mk [3, 1, 1, 2] [(z1e.mk 0 0 3)]))) (z07 (z0p.mk [3, 1, 1, 2] [(z1e.mk 0 0 3)])) sz_29 q .obj q q q q q q <| R0 <| Jq q <| r_bs (cc := z01) [0, 1, 2] z1w zr_3_3 (.cons (A := I_ 0) q q q (.cons (A := I_ 1) q q q (.cons (A := I_ 2) q q q .nil))) q q q <| z4p (Cs := [AL 1 z01 [0, 1, 2], z1m]) (z1i (z2d.mk [0, 1, 2] [])) pl_35 z_35 (.cons (A := AL 1 z01 [0, 1, 2]) q po_35_0 q .nil) q (.same (.nl .nil)) q <| z1x 2 _ z_35 q q <| z2p (z0i 2) (z0w (z1i (z2d.mk [0, 1, 2] []))) (z1i (z2d.mk [0, 1, 2] [])) sz_35 q .obj q q q q q q <| R0 <| Js ?_
  refine Jr q <| r_bs (cc := z01) [0, 1, 2] z1w zr_3_3 (.cons (A := I_ 0) q q q (.cons (A := I_ 1) q q q (.cons (A := I_ 2) q q q .nil))) q q q <| z4p (Cs := [AL 1 z01 [0, 1, 2], z1m]) (z0m (z0t.mk [0, 1, 2] [])) pl_36 z_36 (.cons (A := AL 1 z01 [0, 1, 2]) q po_36_0 q .nil) q (.same (.nl .nil)) q <| z1x 3 _ z_36 q q <| z2p (z0i 3) (z0w (z0m (z0t.mk [0, 1, 2] []))) (z0m (z0t.mk [0, 1, 2] [])) sz_36 q .obj q q q q q q <| R0 <| Js <| z2g <| z50 (z0i 0) (z07 (z0p.mk [3, 1, 1] [(z1e.mk 1 1 2)])) z4d q .obj q q q q <| z50 (z0i 1) (z07 (z0p.mk [3, 1, 1, 2] [(z1e.mk 0 0 3)])) z4d q .obj q q q q ?_
  refine z50 (z0i 2) (z1i (z2d.mk [0, 1, 2] [])) ag_35 q .obj q q q q <| z50 (z0i 3) (z0m (z0t.mk [0, 1, 2] [])) ag_36 q .obj q q q q <| z0d fun b1 h2 => z0j _ fn_58 (k_law39_plain _ _ _ _ _ h2) q q <| z50 (z0i 1) (z07 (z0p.mk [3, 1, 1, 2] [(z1e.mk 0 0 3)])) z4d q .obj q q q q <| z50 (z0i 0) (z07 (z0p.mk [3, 1, 1] [(z1e.mk 1 1 2)])) z4d q .obj q q q q <| z50 (z0i 2) (z1i (z2d.mk [0, 1, 2] [])) ag_35 q .obj q q q q <| z50 (z0i 3) (z0m (z0t.mk [0, 1, 2] [])) ag_36 q .obj q q q q <| z0d fun b3 h4 => z0j _ fn_58 (k_law39_plain _ _ _ _ _ h4) q q ?_
  exact r_bs (cc := z0g) [b1, b3] el_44 zr_41_2 (.cons (A := z0w (z0g b1)) q q q (.cons (A := z0w (z0g b3)) q q q .nil)) q q q <| Ra (AL 25 z0g [b1, b3]) q q <| z1y (by kernel_rfl) <| Jt hΨ (z18 q) q q
theorem zab  (r : Bool) (hr : z68  = some r) : FnP PP 9 [] (z00 r) := by
  refine Fo (fun (r : Bool) => z00 r) Tryz.func9 q (n := 57) q q hr fun X hΨ => ?_
  refine Jq q <| Ra (z00 false) q q <| R0 <| Jq q <| z0d fun b1 h2 => z0j _ fn_28 (k_ref04_Example  _ h2) q q <| z0d fun b3 h4 => z0j _ fn_29 (k_law39_example  _ h4) q q ?_
  refine z1x 0 _ z_25 q q <| z2p (z0i 0) (z0w (z02 b1)) (z02 b1) sz_25 q .obj q q q q q q <| Ra (AL 25 z0g b3) q q <| R0 <| Js <| z2g <| z50 (z0i 0) (z02 b1) z2j q .obj q q q q <| Rm (AL 25 z0g b3) q q <| z1b (fun h5 => ?_) (fun _ => z0u)
  refine z2k (cc := z0g) el_44 q q h5.1 h5.2 q <| z14 (z0g (nth b3 0)) ag_41 q q q q <| z0d fun b6 h7 => z0j _ fn_11 (k_weight_Effect _ _ _ h7) q q <| Rm (z35 [AL 1 z01 b6.1, I_ b6.2]) q q <| z20 (AL 1 z01 b6.1) q q q <| z20 (I_ b6.2) q q q <| Ra (AL 1 z01 b6.1) q q <| Ra (I_ b6.2) q q <| z1y (by kernel_rfl) ?_
  refine Js <| z2g <| z50 (z0i 0) (z02 b1) z2j q .obj q q q q <| Rm (AL 25 z0g b3) q q <| z1b (fun h8 => ?_) (fun _ => z0u)
  refine r_cut (cc := z0g) 0 1 el_44 q lo_n (hi_s q) h8.1 h8.2.1 h8.2.2 q <| z0d fun b9 h10 => z0j _ fn_14 (k_weight_Find _ _ _ h10) q q <| Rm (z35 [AL 1 z01 b9.1, I_ b9.2]) q q <| z20 (AL 1 z01 b9.1) q q q <| z20 (I_ b9.2) q q q <| Ra (AL 1 z01 b9.1) q q <| Ra (I_ b9.2) q q <| z1y (by kernel_rfl) <| Js ?_
  refine Jr q <| z50 (z0i 0) (z02 b1) z2j q .obj q q q q <| Rm (AL 25 z0g b3) q q <| z0d fun b11 h12 => z0j _ fn_17 (k_weight_Refute _ _ _ h12) q q <| Rm (z35 [AL 1 z01 b11.1, I_ b11.2]) q q <| z20 (AL 1 z01 b11.1) q q q <| z20 (I_ b11.2) q q q <| Ra (AL 1 z01 b11.1) q q <| Ra (I_ b11.2) q q ?_
  refine R0 <| Jq q <| Rm (I_ b6.2) q q <| z2y q q q <| Rm (z00 (decide (b6.2 = 0))) q q <| z1b (fun h13 => ?_) (fun h13 => ?_)
  rotate_left
  · refine Rk (z0y q q (df h13)) <| Rk (z0y q q (df h13)) <| z0h (z00 false) q (df h13) q q <| Rm (z00 false) q q <| Rk (z0y q q q) <| Rk (z0y q q q) <| z0h (z00 false) q q q q <| Rm (z00 false) q q <| Rk (z0y q q q) <| Rk (z0y q q q) ?_
    refine Rk (z0y q q q) <| z0h (z00 false) q q q q <| Rm (z00 false) q q <| Rk (z0y q q q) <| Rk (z0y q q q) <| Rk (z0y q q q) <| z0h (z00 false) q q q q <| Rm (z00 false) q q <| Rk (z0y q q q) <| Rk (z0y q q q) ?_
    exact Rk (z0y q q q) <| z0h (z00 false) q q q q <| Ra (z00 false) q q <| Rt hΨ q q q
  refine Rm (I_ b9.2) q (g_t q q (dt h13)) <| z2y q q (g_t q q (dt h13)) <| z0k (z00 (decide (b9.2 = 0))) q (dt h13) q q <| Rm (z00 (decide (b9.2 = 0))) q q <| z1b (fun h14 => ?_) (fun h14 => ?_)
  rotate_left
  · refine Rk (z0y q q (df h14)) <| Rk (z0y q q (df h14)) <| z0h (z00 false) q (df h14) q q <| Rm (z00 false) q q <| Rk (z0y q q q) <| Rk (z0y q q q) <| Rk (z0y q q q) <| z0h (z00 false) q q q q <| Rm (z00 false) q q <| Rk (z0y q q q) ?_
    refine Rk (z0y q q q) <| Rk (z0y q q q) <| z0h (z00 false) q q q q <| Rm (z00 false) q q <| Rk (z0y q q q) <| Rk (z0y q q q) <| Rk (z0y q q q) <| z0h (z00 false) q q q q <| Ra (z00 false) q q <| R0 ?_
    exact Jt hΨ (z18 q) q q
  refine Rm (I_ b11.2) q (g_t q q (dt h14)) <| z2y q q (g_t q q (dt h14)) <| z0k (z00 (decide (b11.2 = 0))) q (dt h14) q q <| Rm (z00 (decide (b11.2 = 0))) q q <| z1b (fun h15 => ?_) (fun h15 => ?_)
  rotate_left
  · refine Rk (z0y q q (df h15)) <| Rk (z0y q q (df h15)) <| Rk (z0y q q (df h15)) <| z0h (z00 false) q (df h15) q q <| Rm (z00 false) q q <| Rk (z0y q q q) <| Rk (z0y q q q) <| Rk (z0y q q q) <| z0h (z00 false) q q q q <| Rm (z00 false) q q ?_
    exact Rk (z0y q q q) <| Rk (z0y q q q) <| Rk (z0y q q q) <| z0h (z00 false) q q q q <| Ra (z00 false) q q <| Rt hΨ q q q
  refine Rm (AL 1 z01 b6.1) q (g_t q q (dt h15)) <| r_bs (cc := z01) [0, 0, 1, 0, 1, (-1)] z1w zr_3_6 (.cons (A := I_ 0) q q q (.cons (A := I_ 0) q q q (.cons (A := I_ 1) q q q (.cons (A := I_ 0) q q q (.cons (A := I_ 1) q q q (.cons (A := I_ (-1)) q q q .nil)))))) q q (g_t q q (dt h15)) <| z0d fun b16 h17 => z0j _ fn_13 (za8 _ _ _ h17) q (g_t q q (dt h15)) <| z0k (z00 b16) q (dt h15) q q <| Rm (z00 b16) q q <| z1b (fun h18 => ?_) (fun h18 => ?_)
  rotate_left
  · refine Rk (z0y q q (bf h18)) <| Rk (z0y q q (bf h18)) <| Rk (z0y q q (bf h18)) <| z0h (z00 false) q (bf h18) q q <| Rm (z00 false) q q <| Rk (z0y q q q) <| Rk (z0y q q q) <| Rk (z0y q q q) <| z0h (z00 false) q q q q <| Ra (z00 false) q q ?_
    exact Rt hΨ q q q
  refine Rm (AL 1 z01 b9.1) q (g_t q q h18) <| r_bs (cc := z01) [0, 0, 0, 0, 0, 1] z1w zr_3_6 (.cons (A := I_ 0) q q q (.cons (A := I_ 0) q q q (.cons (A := I_ 0) q q q (.cons (A := I_ 0) q q q (.cons (A := I_ 0) q q q (.cons (A := I_ 1) q q q .nil)))))) q q (g_t q q h18) <| z0d fun b19 h20 => z0j _ fn_13 (za8 _ _ _ h20) q (g_t q q h18) <| z0k (z00 b19) q h18 q q <| Rm (z00 b19) q q <| z1b (fun h21 => ?_) (fun h21 => ?_)
  rotate_left
  · exact Rk (z0y q q (bf h21)) <| Rk (z0y q q (bf h21)) <| Rk (z0y q q (bf h21)) <| z0h (z00 false) q (bf h21) q q <| Ra (z00 false) q q <| Rt hΨ q q q
  exact Rm (AL 1 z01 b11.1) q (g_t q q h21) <| r_bs (cc := z01) [1, 1] z1w zr_3_2 (.cons (A := I_ 1) q q q (.cons (A := I_ 1) q q q .nil)) q q (g_t q q h21) <| z0d fun b22 h23 => z0j _ fn_13 (za8 _ _ _ h23) q (g_t q q h21) <| z0k (z00 b22) q h21 q q <| Ra (z00 b22) q q <| Rt hΨ q q q
theorem k_ref04_Few (t0 : z06) (r : Bool) (hr : ref04_Few t0 = some r) : FnP PP 24 [z0w (z02 t0)] (z00 r) := by
  refine Fo (fun (r : Bool) => z00 r) Tryz.func24 q (n := 106) q q hr fun X hΨ => ?_
  refine Jq q <| z17 (z0w (z02 t0)) q q <| Ra (z00 false) q q <| R0 <| Js <| Jq q <| z0f ((cL 4 z03) t0.Nodes) z2i q q q <| z11 (AL 4 z03 t0.Nodes) z4z q q q ?_
  refine z1a (cc := z03) z9h q q <| z3a q q q <| Rm (z00 (decide (20 < (t0.Nodes.length : Int)))) q q <| z1b (fun h1 => ?_) (fun h1 => ?_)
  · refine Rk (z0v q q (dt h1)) <| Rk (z0v q q (dt h1)) <| Rk (z0v q q (dt h1)) <| Rk (z0v q q (dt h1)) <| z0k (z00 true) q (dt h1) q q <| R0 <| z1d q q <| Jq q <| Ra (z00 false) q q ?_
    exact Rt hΨ q q q
  refine z0f ((cL 7 z0c) t0.Edges) z3w q q (g_f q q (df h1)) <| z11 (AL 7 z0c t0.Edges) sc_23 q q (g_f q q (df h1)) <| z1a (cc := z0c) il_23 q (g_f q q (df h1)) <| z3a q q (g_f q q (df h1)) <| z0h (z00 (decide (30 < (t0.Edges.length : Int)))) q (df h1) q q <| R0 <| z09 q (fun h2 => ?_) (fun h2 => ?_)
  · exact Jq q <| Ra (z00 false) q q <| Rt hΨ q q q
  refine z0e <| Jq q <| Ra (I_ 0) q q <| R0 <| Js <| Jq q <| Ra (I_ 0) q q <| R0 ?_
  refine z0n <| Jn (fun x3 => ⟨fr [(1, z1r (z02 t0)), (3, I_ x3.1), (4, I_ x3.2), (11, I_ (t0.Nodes.length : Int)), (16, I_ (t0.Edges.length : Int))], hp [], 0⟩) [] [] [] q (.s2 q q (.s3 q q q .nil)) .nil q q (fun E4 hE4 x3 => ?_)
  refine Js <| Jq q <| Rm (I_ x3.2) q q <| z0f ((cL 4 z03) t0.Nodes) z2i q q q <| z11 (AL 4 z03 t0.Nodes) z4z q q q <| z1a (cc := z03) z9h q q <| z1o q q q <| R0 <| z09 q (fun h43 => ?_) (fun h43 => ?_)
  rotate_left
  · refine z1j q <| z7w <| Js <| Jq q <| Ra (I_ 0) q q <| R0 <| z0n <| Jn (fun x83 => ⟨fr [(1, z1r (z02 t0)), (4, I_ x3.2), (8, I_ x83), (11, I_ (t0.Nodes.length : Int)), (16, I_ (t0.Edges.length : Int)), (19, I_ x3.2), (22, I_ (t0.Nodes.length : Int))], hp [], 0⟩) [] [] [] q (.same q (.s6 q q q q q q .nil)) .nil q q (fun E84 hE84 x83 => ?_)
    refine Js <| Jq q <| Rm (I_ x83) q q <| z0f ((cL 7 z0c) t0.Edges) z3w q q q <| z11 (AL 7 z0c t0.Edges) sc_23 q q q <| z1a (cc := z0c) il_23 q q <| z1o q q q <| R0 <| z09 q (fun h88 => ?_) (fun h88 => ?_)
    rotate_left
    · exact z1j q <| z0x <| Jq q <| Ra (z00 true) q q <| Rt hΨ q q q
    refine z0e <| Js <| z0n <| Jq q <| z0f ((cL 7 z0c) t0.Edges) z3w q q q <| z11 (AL 7 z0c t0.Edges) sc_23 q q q <| Rm (I_ x83) q q <| z1b (fun h89 => ?_) (fun _ => z0u)
    refine z2k (cc := z0c) el_23 q q h89.1 h89.2 q <| z0f (z23 ((nth t0.Edges x83).Name)) fo_102_0 q q q <| z11 (z1h ((nth t0.Edges x83).Name)) sc_9 q q q <| r_lenS is_9 q q <| z3a q q q <| R0 <| z09 q (fun h90 => ?_) (fun h90 => ?_)
    · exact Jq q <| Ra (z00 false) q q <| R0 <| z0x <| Jt hΨ (z18 q) q q
    exact z0e <| z0s <| z0o 16 (m := (t0.Edges.length : Int)) q fun q91 => z0o 8 (m := x83) q fun q92 => Jr q <| Rm (I_ x83) q q <| z1l (x83 + 1) q q (z0z (by omega) (by omega)) q <| Ra (I_ (x83 + 1)) q q <| R0 <| z41 <| Jc [] [] [] (hE84 (x83 + 1)) (.same q (.s6 q q q q q q .nil)) .nil q q
  refine z0e <| Js <| z0n <| Jq q <| Rm (I_ x3.1) q q <| z0f ((cL 4 z03) t0.Nodes) z2i q q q <| z11 (AL 4 z03 t0.Nodes) z4z q q q <| Rm (I_ x3.2) q q <| z1b (fun h44 => ?_) (fun _ => z0u)
  refine z2k (cc := z03) el_22 q q h44.1 h44.2 q <| z0f ((cL 4 z08) ((nth t0.Nodes x3.2).Attrs)) fo_97_3 q q q <| z11 (AL 4 z08 ((nth t0.Nodes x3.2).Attrs)) sc_95 q q q <| z1a (cc := z08) il_95 q q <| z0d fun b45 h46 => z1l b45 q q (Option.some.inj h46) q <| Ra (I_ b45) q q <| R0 <| Js <| Js ?_
  refine Jr q <| Rm (I_ b45) q q <| z3a q q q <| Rm (z00 (decide (30 < b45))) q q <| z1b (fun h47 => ?_) (fun h47 => ?_)
  · refine Rk (z0v q q (dt h47)) <| Rk (z0v q q (dt h47)) <| Rk (z0v q q (dt h47)) <| Rk (z0v q q (dt h47)) <| Rk (z0v q q (dt h47)) <| Rk (z0v q q (dt h47)) <| Rk (z0v q q (dt h47)) <| Rk (z0v q q (dt h47)) <| z0k (z00 true) q (dt h47) q q <| R0 ?_
    exact z1d q q <| Jq q <| Ra (z00 false) q q <| R0 <| z0x <| Jt hΨ (z18 q) q q
  refine z0f ((cL 4 z03) t0.Nodes) z2i q q (g_f q q (df h47)) <| z11 (AL 4 z03 t0.Nodes) z4z q q (g_f q q (df h47)) <| Rm (I_ x3.2) q (g_f q q (df h47)) <| z2k (cc := z03) el_22 q q h44.1 h44.2 (g_f q q (df h47)) <| z0f (z23 ((nth t0.Nodes x3.2).Name)) fo_97_0 q q (g_f q q (df h47)) <| z11 (z1h ((nth t0.Nodes x3.2).Name)) sc_9 q q (g_f q q (df h47)) <| r_lenS is_9 q (g_f q q (df h47)) <| z3a q q (g_f q q (df h47)) <| z0h (z00 (decide (40 < (((nth t0.Nodes x3.2).Name).size : Int)))) q (df h47) q q <| R0 ?_
  refine z09 q (fun h48 => ?_) (fun h48 => ?_)
  · exact Jq q <| Ra (z00 false) q q <| R0 <| z0x <| Jt hΨ (z18 q) q q
  refine z0e <| Jq q <| Ra (I_ 0) q q <| R0 <| z0n <| Jn (fun x49 => ⟨fr [(1, z1r (z02 t0)), (3, I_ b45), (4, I_ x3.2), (5, I_ x49), (11, I_ (t0.Nodes.length : Int)), (16, I_ (t0.Edges.length : Int)), (19, I_ x3.2), (22, I_ (t0.Nodes.length : Int)), (29, I_ x3.2), (34, I_ b45), (35, I_ b45), (40, I_ x3.2), (44, I_ (((nth t0.Nodes x3.2).Name).size : Int))], hp [], 0⟩) [] [] [] q (.same q (.s6 q q q q q q (.s6 q q q q q q .nil))) .nil q q (fun E50 hE50 x49 => ?_)
  refine Js <| Jq q <| Rm (I_ x49) q q <| z0f ((cL 4 z03) t0.Nodes) z2i q q q <| z11 (AL 4 z03 t0.Nodes) z4z q q q <| Rm (I_ x3.2) q q <| z2k (cc := z03) el_22 q q h44.1 h44.2 q <| z0f ((cL 4 z08) ((nth t0.Nodes x3.2).Attrs)) fo_97_3 q q q <| z11 (AL 4 z08 ((nth t0.Nodes x3.2).Attrs)) sc_95 q q q ?_
  refine z1a (cc := z08) il_95 q q <| z1o q q q <| R0 <| z09 q (fun h65 => ?_) (fun h65 => ?_)
  rotate_left
  · refine z1j q <| z0x <| z0s <| z0o 11 (m := (t0.Nodes.length : Int)) q fun q81 => z0o 4 (m := x3.2) q fun q82 => Jr q <| Rm (I_ x3.2) q q <| z1l (x3.2 + 1) q q (z0z (by omega) (by omega)) q <| Ra (I_ (x3.2 + 1)) q q <| R0 ?_
    exact z41 <| Jc [] [] [] (hE4 (b45, x3.2 + 1)) (.s2 q q (.s3 q q q .nil)) .nil q q
  refine z0e <| Js <| z0n <| Jq q <| z0f ((cL 4 z03) t0.Nodes) z2i q q q <| z11 (AL 4 z03 t0.Nodes) z4z q q q <| Rm (I_ x3.2) q q <| z2k (cc := z03) el_22 q q h44.1 h44.2 q <| z0f ((cL 4 z08) ((nth t0.Nodes x3.2).Attrs)) fo_97_3 q q q ?_
  refine z11 (AL 4 z08 ((nth t0.Nodes x3.2).Attrs)) sc_95 q q q <| Rm (I_ x49) q q <| z1b (fun h66 => ?_) (fun _ => z0u)
  refine z2k (cc := z08) el_95 q q h66.1 h66.2 q <| z14 (z08 (nth ((nth t0.Nodes x3.2).Attrs) x49)) ag_100 q q q q <| z1x 0 _ z_100 q q <| z2p (z0i 0) (z0w (z08 (nth ((nth t0.Nodes x3.2).Attrs) x49))) (z08 (nth ((nth t0.Nodes x3.2).Attrs) x49)) sz_100 q .obj q q q q q q <| R0 <| Js <| Jq q <| z24 (z0i 0) 0 fo_100_0 q .obj q q q <| z2b (z1f 0 0) (z1h ((nth ((nth t0.Nodes x3.2).Attrs) x49).Name)) sc_9 q .at q q q ?_
  refine r_lenS is_9 q q <| z3a q q q <| Rm (z00 (decide (40 < (((nth ((nth t0.Nodes x3.2).Attrs) x49).Name).size : Int)))) q q <| z1b (fun h67 => ?_) (fun h67 => ?_)
  · refine Rk (z0v q q (dt h67)) <| Rk (z0v q q (dt h67)) <| Rk (z0v q q (dt h67)) <| Rk (z0v q q (dt h67)) <| z0k (z00 true) q (dt h67) q q <| R0 <| z1d q q <| Jq q <| Ra (z00 false) q q ?_
    exact R0 <| z0x <| z0x <| Jt hΨ (z18 q) q q
  refine z24 (z0i 0) 3 z7t q .obj q q (g_f q q (df h67)) <| z2b (z1f 0 3) (AL 1 z23 ((nth ((nth t0.Nodes x3.2).Attrs) x49).Names)) sc_98 q .at q q (g_f q q (df h67)) <| z1a (cc := z23) il_98 q (g_f q q (df h67)) <| z3a q q (g_f q q (df h67)) <| z0h (z00 (decide (25 < (((nth ((nth t0.Nodes x3.2).Attrs) x49).Names).length : Int)))) q (df h67) q q <| R0 <| z09 q (fun h68 => ?_) (fun h68 => ?_)
  · exact Jq q <| Ra (z00 false) q q <| R0 <| z0x <| z0x <| Jt hΨ (z18 q) q q
  refine z0e <| Jq q <| Ra (I_ 0) q q <| R0 <| z0n <| Jn (fun x69 => ⟨fr [(1, z1r (z02 t0)), (3, I_ b45), (4, I_ x3.2), (5, I_ x49), (6, z0i 0), (7, I_ x69), (11, I_ (t0.Nodes.length : Int)), (16, I_ (t0.Edges.length : Int)), (19, I_ x3.2), (22, I_ (t0.Nodes.length : Int)), (29, I_ x3.2), (34, I_ b45), (35, I_ b45), (40, I_ x3.2), (44, I_ (((nth t0.Nodes x3.2).Name).size : Int)), (47, I_ x49), (50, I_ x3.2), (54, I_ (((nth t0.Nodes x3.2).Attrs).length : Int)), (60, I_ x3.2), (64, I_ x49), (69, I_ (((nth ((nth t0.Nodes x3.2).Attrs) x49).Name).size : Int)), (74, I_ (((nth ((nth t0.Nodes x3.2).Attrs) x49).Names).length : Int))], hp [(0, .box 100 (z08 (nth ((nth t0.Nodes x3.2).Attrs) x49)))], 1⟩) [] [] [] q (.same q (.s3 q q q (.cons (A := z0i 0) q (.obj q q q) (.s2 q q (.s3 q q q (.s6 q q q q q q (.s6 q q q q q q .nil))))))) (.cons q q q q (.box (CvL.sames)) q q .nil) q q (fun E70 hE70 x69 => ?_)
  refine Js <| Jq q <| Rm (I_ x69) q q <| z24 (z0i 0) 3 z7t q .obj q q q <| z2b (z1f 0 3) (AL 1 z23 ((nth ((nth t0.Nodes x3.2).Attrs) x49).Names)) sc_98 q .at q q q <| z1a (cc := z23) il_98 q q <| z1o q q q <| R0 <| z09 q (fun h74 => ?_) (fun h74 => ?_)
  rotate_left
  · refine z1j q <| z0x <| z0s <| z0o 54 (m := (((nth t0.Nodes x3.2).Attrs).length : Int)) q fun q79 => z0o 5 (m := x49) q fun q80 => Jr q <| Rm (I_ x49) q q <| z1l (x49 + 1) q q (z0z (by omega) (by omega)) q <| Ra (I_ (x49 + 1)) q q <| R0 ?_
    exact z41 <| Jc [] [] [] (hE50 (x49 + 1)) (.same q (.s6 q q q q q q (.s6 q q q q q q .nil))) .nil q q
  refine z0e <| Js <| z0n <| Jq q <| z24 (z0i 0) 3 z7t q .obj q q q <| z2b (z1f 0 3) (AL 1 z23 ((nth ((nth t0.Nodes x3.2).Attrs) x49).Names)) sc_98 q .at q q q <| Rm (I_ x69) q q <| z1b (fun h75 => ?_) (fun _ => z0u)
  refine z2k (cc := z23) el_98 q q h75.1 h75.2 q <| z11 (z1h (nth ((nth ((nth t0.Nodes x3.2).Attrs) x49).Names) x69)) sc_9 q q q <| r_lenS is_9 q q <| z3a q q q <| R0 <| z09 q (fun h76 => ?_) (fun h76 => ?_)
  · exact Jq q <| Ra (z00 false) q q <| R0 <| z0x <| z0x <| z0x <| Jt hΨ (z18 q) q q
  exact z0e <| z0s <| z0o 74 (m := (((nth ((nth t0.Nodes x3.2).Attrs) x49).Names).length : Int)) q fun q77 => z0o 7 (m := x69) q fun q78 => Jr q <| Rm (I_ x69) q q <| z1l (x69 + 1) q q (z0z (by omega) (by omega)) q <| Ra (I_ (x69 + 1)) q q <| R0 <| z41 <| Jc [] [] [] (hE70 (x69 + 1)) (.same q (.s3 q q q (.cons (A := z0i 0) q (.obj q q q) (.s2 q q (.s3 q q q (.s6 q q q q q q (.s6 q q q q q q .nil))))))) (.cons q q q q (.box (CvL.sames)) q q .nil) q q
theorem k_ref05_Few (t0 : z0p) (r : Bool) (hr : ref05_Few t0 = some r) : FnP PP 25 [z0w (z07 t0)] (z00 r) := by
  refine Fo (fun (r : Bool) => z00 r) Tryz.func25 q (n := 13) q q hr fun X hΨ => ?_
  refine Jq q <| z17 (z0w (z07 t0)) q q <| Ra (z00 false) q q <| R0 <| Jq q <| z0f ((cL 1 z01) t0.Nodes) z29 q q q <| z11 (AL 1 z01 t0.Nodes) z1s q q q <| z1a (cc := z01) z2m q q ?_
  refine z8c q q q <| Rm (z00 (decide ((t0.Nodes.length : Int) ≤ 45))) q q <| z1b (fun h1 => ?_) (fun h1 => ?_)
  · exact z0f ((cL 3 z0b) t0.Edges) z2r q q (g_t q q (dt h1)) <| z11 (AL 3 z0b t0.Edges) z5o q q (g_t q q (dt h1)) <| z1a (cc := z0b) il_27 q (g_t q q (dt h1)) <| z8c q q (g_t q q (dt h1)) <| z0k (z00 (decide ((t0.Edges.length : Int) ≤ 90))) q (dt h1) q q <| Ra (z00 (decide ((t0.Edges.length : Int) ≤ 90))) q q <| Rt hΨ q q q
  exact Rk (z0y q q (df h1)) <| Rk (z0y q q (df h1)) <| Rk (z0y q q (df h1)) <| Rk (z0y q q (df h1)) <| z0h (z00 false) q (df h1) q q <| Ra (z00 false) q q <| Rt hΨ q q q
theorem k_ref21_Few (t0 : z0q) (r : Bool) (hr : ref21_Few t0 = some r) : FnP PP 90 [z0w (z0a t0)] (z00 r) := by
  refine Fo (fun (r : Bool) => z00 r) Tryz.func90 q (n := 18) q q hr fun X hΨ => ?_
  refine Jq q <| z17 (z0w (z0a t0)) q q <| Ra (z00 false) q q <| R0 <| Jq q <| z0f (z07 t0.Graph) z27 q q q <| z14 (z07 t0.Graph) z4d q q q q <| z0d fun b1 h2 => ?_
  refine z0j _ fn_25 (k_ref05_Few _ _ h2) q q <| Rm (z00 b1) q q <| z1b (fun h3 => ?_) (fun h3 => ?_)
  rotate_left
  · refine Rk (z0y q q (bf h3)) <| Rk (z0y q q (bf h3)) <| Rk (z0y q q (bf h3)) <| Rk (z0y q q (bf h3)) <| z0h (z00 false) q (bf h3) q q <| Rm (z00 false) q q <| Rk (z0y q q q) <| Rk (z0y q q q) <| Rk (z0y q q q) <| Rk (z0y q q q) ?_
    exact z0h (z00 false) q q q q <| Ra (z00 false) q q <| Rt hΨ q q q
  refine z0f ((cL 4 z0l) t0.Slots) z55 q q (g_t q q h3) <| z11 (AL 4 z0l t0.Slots) sc_30 q q (g_t q q h3) <| z1a (cc := z0l) il_30 q (g_t q q h3) <| z8c q q (g_t q q h3) <| z0k (z00 (decide ((t0.Slots.length : Int) ≤ 15))) q h3 q q <| Rm (z00 (decide ((t0.Slots.length : Int) ≤ 15))) q q <| z1b (fun h4 => ?_) (fun h4 => ?_)
  · exact z0f ((cL 5 z13) t0.Tests) fo_33_3 q q (g_t q q (dt h4)) <| z11 (AL 5 z13 t0.Tests) sc_31 q q (g_t q q (dt h4)) <| z1a (cc := z13) il_31 q (g_t q q (dt h4)) <| z8c q q (g_t q q (dt h4)) <| z0k (z00 (decide ((t0.Tests.length : Int) ≤ 15))) q (dt h4) q q <| Ra (z00 (decide ((t0.Tests.length : Int) ≤ 15))) q q <| Rt hΨ q q q
  exact Rk (z0y q q (df h4)) <| Rk (z0y q q (df h4)) <| Rk (z0y q q (df h4)) <| Rk (z0y q q (df h4)) <| z0h (z00 false) q (df h4) q q <| Ra (z00 false) q q <| Rt hΨ q q q
theorem k_ref07_Few (t0 : z2d) (t1 : Int) (r : Bool) (hr : ref07_Few t0 t1 = some r) : FnP PP 91 [z0w (z1i t0), I_ t1] (z00 r) := by
  refine Fo (fun (r : Bool) => z00 r) Tryz.func91 q (n := 14) q q hr fun X hΨ => ?_
  refine Jq q <| z17 (z0w (z1i t0)) q q <| Ra (z00 false) q q <| R0 <| Jq q <| z0f ((cL 1 z01) t0.Nodes) z6r q q q <| z11 (AL 1 z01 t0.Nodes) z1s q q q <| z1a (cc := z01) z2m q q ?_
  exact z0f ((cL 1 z01) t0.Edges) fo_35_1 q q q <| z11 (AL 1 z01 t0.Edges) z1s q q q <| z1a (cc := z01) z2m q q <| z0d fun b1 h2 => z1l b1 q q (Option.some.inj h2) q <| Rm (I_ t1) q q <| z8c q q q <| Ra (z00 (decide (b1 ≤ t1))) q q <| Rt hΨ q q q
theorem k_ref06_Few (t0 : z0t) (t1 : Int) (r : Bool) (hr : ref06_Few t0 t1 = some r) : FnP PP 92 [z0w (z0m t0), I_ t1] (z00 r) := by
  refine Fo (fun (r : Bool) => z00 r) Tryz.func92 q (n := 14) q q hr fun X hΨ => ?_
  refine Jq q <| z17 (z0w (z0m t0)) q q <| Ra (z00 false) q q <| R0 <| Jq q <| z0f ((cL 1 z01) t0.Nodes) z6a q q q <| z11 (AL 1 z01 t0.Nodes) z1s q q q <| z1a (cc := z01) z2m q q ?_
  exact z0f ((cL 1 z01) t0.Edges) z92 q q q <| z11 (AL 1 z01 t0.Edges) z1s q q q <| z1a (cc := z01) z2m q q <| z0d fun b1 h2 => z1l b1 q q (Option.some.inj h2) q <| Rm (I_ t1) q q <| z8c q q q <| Ra (z00 (decide (b1 ≤ t1))) q q <| Rt hΨ q q q
theorem k_ref22_left_b (q_ref22_left : z05 → Int → Option Int) (hq_ref22_left : ∀ (t0 : z05) (t1 : Int) (r : Int), q_ref22_left t0 t1 = some r → FnP PP 144 [z0w (z04 t0), I_ t1] (I_ r)) (t0 : z05) (t1 : Int) (r : Int) (hr : z9a q_ref22_left t0 t1 = some r) : FnP PP 144 [z0w (z04 t0), I_ t1] (I_ r) := by
  refine Fo (fun (r : Int) => I_ r) Tryz.func144 q (n := 37) q q hr fun X hΨ => ?_
  refine Jq q <| z17 (z0w (z04 t0)) q q <| Ra (I_ 0) q q <| R0 <| Jq q <| Rm (I_ t1) q q <| z0d fun b1 h2 => z7z b1 q q (Option.some.inj h2) q ?_
  refine Ra (I_ b1) q q <| R0 <| Js <| Jq q <| z0f (z0a t0.Pattern) fo_39_3 q q q <| z14 (z0a t0.Pattern) ag_33 q q q q <| z0d fun b3 h4 => z0j _ fn_90 (k_ref21_Few _ _ h4) q q <| z2x q q ?_
  refine Rm (z00 (!b3)) q q <| z1b (fun h5 => ?_) (fun h5 => ?_)
  · refine Rk (z0v q q h5) <| Rk (z0v q q h5) <| Rk (z0v q q h5) <| Rk (z0v q q h5) <| z0k (z00 true) q h5 q q <| R0 <| z1d q q <| Jq q <| Ra (I_ (-1)) q q ?_
    exact Rt hΨ q q q
  refine z0f (z0m t0.Map) fo_39_2 q q (g_f q q (bf h5)) <| z14 (z0m t0.Map) ag_36 q q q (g_f q q (bf h5)) <| z0d fun b6 h7 => z0j _ fn_92 (k_ref06_Few _ _ _ h7) q (g_f q q (bf h5)) <| z2x q (g_f q q (bf h5)) <| z0h (z00 (!b6)) q (bf h5) q q <| R0 <| z1v q (fun h8 => ?_) (fun h8 => ?_)
  · exact Jq q <| Ra (I_ (-1)) q q <| Rt hΨ q q q
  refine z0e <| Js <| Jq q <| Ra (I_ 0) q q <| R0 <| z0n <| Jl (fun x9 => [(1, I_ x9.1), (2, z1r (z04 t0)), (5, I_ x9.2)]) (.c3 q q q .nil) (fun E10 hE10 x9 => ?_)
  refine Js <| Js ?_
  apply z2w (fun v25 => ⟨fr [(1, I_ x9.1), (5, I_ x9.2), (18, I_ x9.2), (21, I_ (t0.Kids.length : Int))], fun _ => none, 0⟩) (fun v25 => ref22_left_j25 x9 v25)
  · intro K26
    refine Jr q <| Rm (I_ x9.2) q q <| z0f (z25 t0.Kids) z81 q q q <| z11 (AL 9 z04 t0.Kids) sc_37 q (z21 _) q <| z1a (cc := z04) il_37 q q <| z1o q q q <| Rm (z00 (decide (x9.2 < (t0.Kids.length : Int)))) q q <| z1b (fun h18 => ?_) (fun h18 => ?_)
    rotate_left
    · exact Rk (z0y q q (df h18)) <| Rk (z0y q q (df h18)) <| z0h (z00 false) q (df h18) q q <| R0 <| J_cond_F q q <| Jk (K26 ()) (.cons q (.c3 q q q .nil))
    refine Rm (I_ x9.1) q (g_t q q (dt h18)) <| z3c q q (g_t q q (dt h18)) <| z0k (z00 (decide (0 ≤ x9.1))) q (dt h18) q q <| R0 <| z09 q (fun h19 => ?_) (fun h19 => ?_)
    rotate_left
    · exact Jk (K26 ()) (.cons q (.c3 q q q .nil))
    refine z0e <| Js <| z0n <| Jr q <| z0f (z25 t0.Kids) z81 q q q <| z11 (AL 9 z04 t0.Kids) sc_37 q (z21 _) q <| Rm (I_ x9.2) q q <| z1b (fun h20 => ?_) (fun _ => z0u)
    refine z2k (cc := z04) el_37 q q h20.1 h20.2 q <| z14 (z04 (nth t0.Kids x9.2)) zaj q q q q <| Rm (I_ x9.1) q q <| z0d fun b21 h22 => z0j _ fn_144 (hq_ref22_left _ _ _ h22) q q <| Ra (I_ b21) q q <| R0 <| z0s <| z0o 21 (m := (t0.Kids.length : Int)) q fun q23 => z0o 5 (m := x9.2) q fun q24 => ?_
    exact Jr q <| Rm (I_ x9.2) q q <| z1l (x9.2 + 1) q q (z0z (by omega) (by omega)) q <| Ra (I_ (x9.2 + 1)) q q <| R0 <| z41 <| Jk (hE10 (b21, x9.2 + 1)) (.c3 q q q .nil)
  intro v25
  exact z1j q <| z0x <| Jq q <| Rm (I_ x9.1) q q <| Ra (I_ x9.1) q q <| Rt hΨ q q q
theorem ref22_left_n_ok : ∀ n, (∀ (t0 : z05) (t1 : Int) (r : Int), (z4v n) t0 t1 = some r → FnP PP 144 [z0w (z04 t0), I_ t1] (I_ r)) := by
  intro n
  induction n with
  | zero => exact (fun _ _ _ h => by cases h)
  | succ n ih => exact (fun a0 a1 r h => k_ref22_left_b _ ih a0 a1 r h)
theorem k_ref22_left (t0 : z05) (t1 : Int) (r : Int) (hr : ref22_left t0 t1 = some r) : FnP PP 144 [z0w (z04 t0), I_ t1] (I_ r) := by
  obtain ⟨n, hn⟩ := Ev_some hr
  exact (ref22_left_n_ok n) t0 t1 r hn
theorem k_ref22_Few (t0 : z05) (r : Bool) (hr : ref22_Few t0 = some r) : FnP PP 93 [z0w (z04 t0)] (z00 r) := by
  refine Fo (fun (r : Bool) => z00 r) Tryz.func93 q (n := 6) q q hr fun X hΨ => ?_
  refine Jq q <| z17 (z0w (z04 t0)) q q <| Ra (z00 false) q q <| R0 <| Jq q <| z14 (z04 t0) zaj q q q q <| z0d fun b1 h2 => z0j _ fn_144 (k_ref22_left _ _ _ h2) q q ?_
  exact z3c q q q <| Ra (z00 (decide (0 ≤ b1))) q q <| Rt hΨ q q q
theorem k_ref24_Few (t0 : z10) (r : Bool) (hr : ref24_Few t0 = some r) : FnP PP 59 [z0w (z0g t0)] (z00 r) := by
  refine Fo (fun (r : Bool) => z00 r) Tryz.func59 q (n := 32) q q hr fun X hΨ => ?_
  refine Jq q <| z17 (z0w (z0g t0)) q q <| Ra (z00 false) q q <| R0 <| Jq q <| z0f (z23 t0.Name) fo_41_0 q q q <| z11 (z1h t0.Name) sc_9 q q q <| r_lenS is_9 q q ?_
  refine z8c q q q <| Rm (z00 (decide ((t0.Name.size : Int) ≤ 60))) q q <| z1b (fun h1 => ?_) (fun h1 => ?_)
  rotate_left
  · refine Rk (z0y q q (df h1)) <| Rk (z0y q q (df h1)) <| Rk (z0y q q (df h1)) <| z0h (z00 false) q (df h1) q q <| Rm (z00 false) q q <| Rk (z0y q q q) <| Rk (z0y q q q) <| Rk (z0y q q q) <| z0h (z00 false) q q q q <| Rm (z00 false) q q ?_
    refine Rk (z0y q q q) <| Rk (z0y q q q) <| Rk (z0y q q q) <| z0h (z00 false) q q q q <| Rm (z00 false) q q <| Rk (z0y q q q) <| Rk (z0y q q q) <| Rk (z0y q q q) <| z0h (z00 false) q q q q <| Rm (z00 false) q q ?_
    exact Rk (z0y q q q) <| Rk (z0y q q q) <| Rk (z0y q q q) <| z0h (z00 false) q q q q <| Ra (z00 false) q q <| Rt hΨ q q q
  refine z0f (z0a t0.Left) z6q q q (g_t q q (dt h1)) <| z14 (z0a t0.Left) ag_33 q q q (g_t q q (dt h1)) <| z0d fun b2 h3 => z0j _ fn_90 (k_ref21_Few _ _ h3) q (g_t q q (dt h1)) <| z0k (z00 b2) q (dt h1) q q <| Rm (z00 b2) q q <| z1b (fun h4 => ?_) (fun h4 => ?_)
  rotate_left
  · refine Rk (z0y q q (bf h4)) <| Rk (z0y q q (bf h4)) <| Rk (z0y q q (bf h4)) <| z0h (z00 false) q (bf h4) q q <| Rm (z00 false) q q <| Rk (z0y q q q) <| Rk (z0y q q q) <| Rk (z0y q q q) <| z0h (z00 false) q q q q <| Rm (z00 false) q q ?_
    refine Rk (z0y q q q) <| Rk (z0y q q q) <| Rk (z0y q q q) <| z0h (z00 false) q q q q <| Rm (z00 false) q q <| Rk (z0y q q q) <| Rk (z0y q q q) <| Rk (z0y q q q) <| z0h (z00 false) q q q q <| Ra (z00 false) q q ?_
    exact Rt hΨ q q q
  refine z0f (z0a t0.Right) z3e q q (g_t q q h4) <| z14 (z0a t0.Right) ag_33 q q q (g_t q q h4) <| z0d fun b5 h6 => z0j _ fn_90 (k_ref21_Few _ _ h6) q (g_t q q h4) <| z0k (z00 b5) q h4 q q <| Rm (z00 b5) q q <| z1b (fun h7 => ?_) (fun h7 => ?_)
  rotate_left
  · refine Rk (z0y q q (bf h7)) <| Rk (z0y q q (bf h7)) <| Rk (z0y q q (bf h7)) <| z0h (z00 false) q (bf h7) q q <| Rm (z00 false) q q <| Rk (z0y q q q) <| Rk (z0y q q q) <| Rk (z0y q q q) <| z0h (z00 false) q q q q <| Rm (z00 false) q q ?_
    exact Rk (z0y q q q) <| Rk (z0y q q q) <| Rk (z0y q q q) <| z0h (z00 false) q q q q <| Ra (z00 false) q q <| Rt hΨ q q q
  refine z0f (z1i t0.Keep) fo_41_3 q q (g_t q q h7) <| z14 (z1i t0.Keep) ag_35 q q q (g_t q q h7) <| z0d fun b8 h9 => z0j _ fn_91 (k_ref07_Few _ _ _ h9) q (g_t q q h7) <| z0k (z00 b8) q h7 q q <| Rm (z00 b8) q q <| z1b (fun h10 => ?_) (fun h10 => ?_)
  rotate_left
  · refine Rk (z0y q q (bf h10)) <| Rk (z0y q q (bf h10)) <| Rk (z0y q q (bf h10)) <| z0h (z00 false) q (bf h10) q q <| Rm (z00 false) q q <| Rk (z0y q q q) <| Rk (z0y q q q) <| Rk (z0y q q q) <| z0h (z00 false) q q q q <| Ra (z00 false) q q ?_
    exact Rt hΨ q q q
  refine z0f (z0m t0.Into) fo_41_4 q q (g_t q q h10) <| z14 (z0m t0.Into) ag_36 q q q (g_t q q h10) <| z0d fun b11 h12 => z0j _ fn_92 (k_ref06_Few _ _ _ h12) q (g_t q q h10) <| z0k (z00 b11) q h10 q q <| Rm (z00 b11) q q <| z1b (fun h13 => ?_) (fun h13 => ?_)
  rotate_left
  · exact Rk (z0y q q (bf h13)) <| Rk (z0y q q (bf h13)) <| Rk (z0y q q (bf h13)) <| z0h (z00 false) q (bf h13) q q <| Ra (z00 false) q q <| Rt hΨ q q q
  exact z0f (z04 t0.Condition) fo_41_6 q q (g_t q q h13) <| z14 (z04 t0.Condition) zaj q q q (g_t q q h13) <| z0d fun b14 h15 => z0j _ fn_93 (k_ref22_Few _ _ h15) q (g_t q q h13) <| z0k (z00 b14) q h13 q q <| Ra (z00 b14) q q <| Rt hΨ q q q
theorem k_ref39_Few (t0 : (List z10)) (r : Bool) (hr : ref39_Few t0 = some r) : FnP PP 30 [AL 25 z0g t0] (z00 r) := by
  refine Fo (fun (r : Bool) => z00 r) Tryz.func30 q (n := 19) q q hr fun X hΨ => ?_
  refine Jq q <| Ra (z00 false) q q <| R0 <| Js <| Jq q <| Rm (AL 25 z0g t0) q q <| z1a (cc := z0g) il_44 q q <| z3a q q q ?_
  refine R0 <| z09 q (fun h1 => ?_) (fun h1 => ?_)
  · exact Jq q <| Ra (z00 false) q q <| Rt hΨ q q q
  refine z0e <| Js <| Jq q <| Ra (I_ 0) q q <| R0 <| z0n <| Jl (fun x2 => [(0, AL 25 z0g t0), (3, I_ x2), (5, I_ (t0.length : Int))]) (.c3 q q q .nil) (fun E3 hE3 x2 => ?_)
  refine Js <| Jq q <| Rm (I_ x2) q q <| Rm (AL 25 z0g t0) q q <| z1a (cc := z0g) il_44 q q <| z1o q q q <| R0 <| z09 q (fun h9 => ?_) (fun h9 => ?_)
  rotate_left
  · exact z1j q <| z0x <| Jq q <| Ra (z00 true) q q <| Rt hΨ q q q
  refine z0e <| Js <| z0n <| Jq q <| Rm (AL 25 z0g t0) q q <| Rm (I_ x2) q q <| z1b (fun h10 => ?_) (fun _ => z0u)
  refine z2k (cc := z0g) el_44 q q h10.1 h10.2 q <| z14 (z0g (nth t0 x2)) ag_41 q q q q <| z0d fun b11 h12 => z0j _ fn_59 (k_ref24_Few _ _ h12) q q <| z2x q q <| R0 <| z1v q (fun h13 => ?_) (fun h13 => ?_)
  · exact Jq q <| Ra (z00 false) q q <| R0 <| z0x <| Jt hΨ (z18 q) q q
  exact z0e <| z0s <| z0o 5 (m := (t0.length : Int)) q fun q14 => z0o 3 (m := x2) q fun q15 => Jr q <| Rm (I_ x2) q q <| z1l (x2 + 1) q q (z0z (by omega) (by omega)) q <| Ra (I_ (x2 + 1)) q q <| R0 <| z41 <| Jk (hE3 (x2 + 1)) (.c3 q q q .nil)
theorem k_law39_small (t0 : z06) (t1 : (List z10)) (r : Bool) (hr : law39_small t0 t1 = some r) : FnP PP 10 [z0w (z02 t0), AL 25 z0g t1] (z00 r) := by
  refine Fo (fun (r : Bool) => z00 r) Tryz.func10 q (n := 11) q q hr fun X hΨ => ?_
  refine Jq q <| z17 (z0w (z02 t0)) q q <| Ra (z00 false) q q <| R0 <| Jq q <| z14 (z02 t0) z2j q q q q <| z0d fun b1 h2 => z0j _ fn_24 (k_ref04_Few _ _ h2) q q ?_
  refine Rm (z00 b1) q q <| z1b (fun h3 => ?_) (fun h3 => ?_)
  rotate_left
  · exact Rk (z0y q q (bf h3)) <| Rk (z0y q q (bf h3)) <| z0h (z00 false) q (bf h3) q q <| Ra (z00 false) q q <| Rt hΨ q q q
  exact Rm (AL 25 z0g t1) q (g_t q q h3) <| z0d fun b4 h5 => z0j _ fn_30 (k_ref39_Few _ _ h5) q (g_t q q h3) <| z0k (z00 b4) q h3 q q <| Ra (z00 b4) q q <| Rt hΨ q q q
theorem k_ref01_text (t0 : z1c) (r : ByteArray) (hr : ref01_text t0 = some r) : FnP PP 161 [z0w (z19 t0)] (z1h r) := by
  refine Fo (fun (r : ByteArray) => z1h r) Tryz.func161 q (n := 12) q q hr fun X hΨ => ?_
  refine Jq q <| z17 (z0w (z19 t0)) q q <| Ra (z1h (ByteArray.mk #[])) q q <| R0 <| Js <| Jq q <| z0f (z01 t0.Kind) fo_151_0 q q q <| z11 (I_ t0.Kind) z1t q q q ?_
  refine z2y q q q <| R0 <| z09 q (fun h1 => ?_) (fun h1 => ?_)
  rotate_left
  · exact z0e <| Jq q <| z0f (z23 t0.Text) fo_151_1 q q q <| z11 (z1h t0.Text) sc_9 q q q <| Ra (z1h t0.Text) q q <| Rt hΨ q q q
  refine Jq q <| z0f (z23 t0.Text) fo_151_1 q q q <| z11 (z1h t0.Text) sc_9 q q q <| z1b (fun h2 => ?_) (fun _ => z0u)
  refine r_catS q q h2 q <| z1b (fun h3 => ?_) (fun _ => z0u)
  exact r_catS q q h3 q <| Ra (z1h (((ByteArray.mk #[34]) ++ t0.Text) ++ (ByteArray.mk #[34]))) q q <| Rt hΨ q q q
theorem k_ref01_letter (t0 : Int) (r : Bool) (hr : ref01_letter t0 = some r) : FnP PP 201 [z1z .u8 t0] (z00 r) := by
  refine Fo (fun (r : Bool) => z00 r) Tryz.func201 q (n := 17) q q hr fun X hΨ => ?_
  refine Jq q <| Ra (z00 false) q q <| R0 <| Jq q <| Rm (z1z .u8 t0) q q <| z3c q q q <| Rm (z00 (decide (97 ≤ t0))) q q <| z1b (fun h1 => ?_) (fun h1 => ?_)
  rotate_left
  · refine Rk (z0y q q (df h1)) <| Rk (z0y q q (df h1)) <| z0h (z00 false) q (df h1) q q <| Rm (z00 false) q q <| Rm (z1z .u8 t0) q (g_f q q q) <| z3c q q (g_f q q q) <| Rm (z00 (decide (65 ≤ t0))) q (g_f q q q) <| z1b (fun h4 => ?_) (fun h4 => ?_)
    · exact Rm (z1z .u8 t0) q (g_t q q (dt h4)) <| z8c q q (g_t q q (dt h4)) <| z0k (z00 (decide (t0 ≤ 90))) q (dt h4) q (g_f q q q) <| z0h (z00 (decide (t0 ≤ 90))) q q q q <| Ra (z00 (decide (t0 ≤ 90))) q q <| Rt hΨ q q q
    exact Rk (z0y q q (df h4)) <| Rk (z0y q q (df h4)) <| z0h (z00 false) q (df h4) q (g_f q q q) <| z0h (z00 false) q q q q <| Ra (z00 false) q q <| Rt hΨ q q q
  refine Rm (z1z .u8 t0) q (g_t q q (dt h1)) <| z8c q q (g_t q q (dt h1)) <| z0k (z00 (decide (t0 ≤ 122))) q (dt h1) q q <| Rm (z00 (decide (t0 ≤ 122))) q q <| z1b (fun h2 => ?_) (fun h2 => ?_)
  · exact Rk (z0v q q (dt h2)) <| Rk (z0v q q (dt h2)) <| Rk (z0v q q (dt h2)) <| Rk (g_u q q) <| Rk (g_u q q) <| Rk (z0v q q (dt h2)) <| z0k (z00 true) q (dt h2) q q <| Ra (z00 true) q q <| Rt hΨ q q q
  refine Rm (z1z .u8 t0) q (g_f q q (df h2)) <| z3c q q (g_f q q (df h2)) <| Rm (z00 (decide (65 ≤ t0))) q (g_f q q (df h2)) <| z1b (fun h3 => ?_) (fun h3 => ?_)
  · exact Rm (z1z .u8 t0) q (g_t q q (dt h3)) <| z8c q q (g_t q q (dt h3)) <| z0k (z00 (decide (t0 ≤ 90))) q (dt h3) q (g_f q q (df h2)) <| z0h (z00 (decide (t0 ≤ 90))) q (df h2) q q <| Ra (z00 (decide (t0 ≤ 90))) q q <| Rt hΨ q q q
  exact Rk (z0y q q (df h3)) <| Rk (z0y q q (df h3)) <| z0h (z00 false) q (df h3) q (g_f q q (df h2)) <| z0h (z00 false) q (df h2) q q <| Ra (z00 false) q q <| Rt hΨ q q q
theorem k_ref01_digit (t0 : Int) (r : Bool) (hr : ref01_digit t0 = some r) : FnP PP 202 [z1z .u8 t0] (z00 r) := by
  refine Fo (fun (r : Bool) => z00 r) Tryz.func202 q (n := 9) q q hr fun X hΨ => ?_
  refine Jq q <| Ra (z00 false) q q <| R0 <| Jq q <| Rm (z1z .u8 t0) q q <| z3c q q q <| Rm (z00 (decide (48 ≤ t0))) q q <| z1b (fun h1 => ?_) (fun h1 => ?_)
  · exact Rm (z1z .u8 t0) q (g_t q q (dt h1)) <| z8c q q (g_t q q (dt h1)) <| z0k (z00 (decide (t0 ≤ 57))) q (dt h1) q q <| Ra (z00 (decide (t0 ≤ 57))) q q <| Rt hΨ q q q
  exact Rk (z0y q q (df h1)) <| Rk (z0y q q (df h1)) <| z0h (z00 false) q (df h1) q q <| Ra (z00 false) q q <| Rt hΨ q q q
theorem k_ref01_run (t0 : ByteArray) (t1 : Int) (t2 : Bool) (r : Int) (hr : ref01_run t0 t1 t2 = some r) : FnP PP 203 [z1h t0, I_ t1, z00 t2] (I_ r) := by
  refine Fo (fun (r : Int) => I_ r) Tryz.func203 q (n := 45) q q hr fun X hΨ => ?_
  refine Jq q <| Ra (I_ 0) q q <| R0 <| Jq q <| Ra (I_ 0) q q <| R0 <| Js <| z0n ?_
  refine Jl (fun x1 => [(0, z1h t0), (1, I_ t1), (2, z00 t2), (7, I_ x1)]) (.cons q (.c3 q q q .nil)) (fun E2 hE2 x1 => ?_)
  refine Js <| Js ?_
  apply z2w (fun v53 => ⟨fr [(7, I_ x1), (12, I_ (t0.size : Int))], fun _ => none, 0⟩) (fun v53 => z7o x1 v53)
  · intro K54
    apply z2w (fun v49 => ⟨fr [(0, z1h t0), (1, I_ t1), (2, z00 t2), (7, I_ x1), (12, I_ (t0.size : Int))], fun _ => none, 0⟩) (fun v49 => za4 x1 v49)
    · intro K52
      refine Jr q <| Rm (I_ t1) q q <| Rm (I_ x1) q q <| z0d fun b27 h28 => z1l b27 q q (Option.some.inj h28) q <| Rm (z1h t0) q q <| r_lenS is_9 q q <| z1o q q q <| Rm (z00 (decide (b27 < (t0.size : Int)))) q q <| z1b (fun h29 => ?_) (fun h29 => ?_)
      rotate_left
      · refine Rk (z0y q q (df h29)) <| Rk (z0y q q (df h29)) <| Rk (z0y q q (df h29)) <| Rk (z0y q q (df h29)) <| Rk (z0y q q (df h29)) <| Rk (z0y q q (df h29)) <| Rk (z0y q q (df h29)) <| Rk (g_u q q) <| Rk (g_u q q) <| Rk (g_u q q) ?_
        refine Rk (g_u q q) <| Rk (g_u q q) <| Rk (g_u q q) <| Rk (g_u q q) <| Rk (g_u q q) <| Rk (g_u q q) <| Rk (g_u q q) <| Rk (g_u q q) <| Rk (g_u q q) <| Rk (g_u q q) ?_
        exact Rk (g_u q q) <| Rk (g_u q q) <| Rk (g_u q q) <| Rk (g_u q q) <| Rk (g_u q q) <| Rk (z0y q q (df h29)) <| z0h (z00 false) q (df h29) q q <| R0 <| J_cond_F q q <| Jk (K54 ()) (.c2 q q .nil)
      refine Rm (z1h t0) q (g_t q q (dt h29)) <| Rm (I_ t1) q (g_t q q (dt h29)) <| Rm (I_ x1) q (g_t q q (dt h29)) <| z0d fun b30 h31 => z1l b30 q q (Option.some.inj h31) (g_t q q (dt h29)) <| z1b (fun h32 => ?_) (fun _ => z0u)
      refine r_ixS ut_9 q q h32.1 h32.2 (g_t q q (dt h29)) <| z0d fun b33 h34 => z0j _ fn_202 (k_ref01_digit _ _ h34) q (g_t q q (dt h29)) <| Rm (z00 b33) q (g_t q q (dt h29)) <| z1b (fun h35 => ?_) (fun h35 => ?_)
      · refine Rk (z0v q q h35) <| Rk (z0v q q h35) <| Rk (z0v q q h35) <| Rk (g_u q q) <| Rk (g_u q q) <| Rk (g_u q q) <| Rk (g_u q q) <| Rk (g_u q q) <| Rk (g_u q q) <| Rk (g_u q q) ?_
        refine Rk (g_u q q) <| Rk (g_u q q) <| Rk (g_u q q) <| Rk (g_u q q) <| Rk (g_u q q) <| Rk (g_u q q) <| Rk (g_u q q) <| Rk (z0v q q h35) <| z0k (z00 true) q h35 q (g_t q q (dt h29)) <| z0k (z00 true) q (dt h29) q q ?_
        exact R0 <| z1d q q <| Jk (K52 ()) (.c2 q q (.c3 q q q .nil))
      refine Rm (z00 t2) q (g_f q q (bf h35)) <| z2x q (g_f q q (bf h35)) <| Rm (z00 (!t2)) q (g_f q q (bf h35)) <| z1b (fun h36 => ?_) (fun h36 => ?_)
      rotate_left
      · refine Rk (z0y q q (bf h36)) <| Rk (z0y q q (bf h36)) <| Rk (z0y q q (bf h36)) <| Rk (z0y q q (bf h36)) <| Rk (z0y q q (bf h36)) <| Rk (z0y q q (bf h36)) <| Rk (z0y q q (bf h36)) <| Rk (g_u q q) <| Rk (g_u q q) <| Rk (g_u q q) ?_
        exact Rk (g_u q q) <| Rk (g_u q q) <| Rk (g_u q q) <| Rk (z0y q q (bf h36)) <| z0h (z00 false) q (bf h36) q (g_f q q (bf h35)) <| z0h (z00 false) q (bf h35) q (g_t q q (dt h29)) <| z0k (z00 false) q (dt h29) q q <| R0 <| J_cond_F q q <| Jk (K54 ()) (.c2 q q .nil)
      refine Rm (z1h t0) q (g_t q q h36) <| Rm (I_ t1) q (g_t q q h36) <| Rm (I_ x1) q (g_t q q h36) <| z0d fun b37 h38 => z1l b37 q q (Option.some.inj h38) (g_t q q h36) <| z1b (fun h39 => ?_) (fun _ => z0u)
      refine r_ixS ut_9 q q h39.1 h39.2 (g_t q q h36) <| z0d fun b40 h41 => z0j _ fn_201 (k_ref01_letter _ _ h41) q (g_t q q h36) <| Rm (z00 b40) q (g_t q q h36) <| z1b (fun h42 => ?_) (fun h42 => ?_)
      · refine Rk (z0v q q h42) <| Rk (z0v q q h42) <| Rk (z0v q q h42) <| Rk (z0v q q h42) <| Rk (z0v q q h42) <| Rk (z0v q q h42) <| z0k (z00 true) q h42 q (g_t q q h36) <| z0k (z00 true) q h36 q (g_f q q (bf h35)) <| z0h (z00 true) q (bf h35) q (g_t q q (dt h29)) <| z0k (z00 true) q (dt h29) q q ?_
        exact R0 <| z1d q q <| Jk (K52 ()) (.c2 q q (.c3 q q q .nil))
      refine Rm (z1h t0) q (g_f q q (bf h42)) <| Rm (I_ t1) q (g_f q q (bf h42)) <| Rm (I_ x1) q (g_f q q (bf h42)) <| z0d fun b43 h44 => z1l b43 q q (Option.some.inj h44) (g_f q q (bf h42)) <| z1b (fun h45 => ?_) (fun _ => z0u)
      refine r_ixS ut_9 q q h45.1 h45.2 (g_f q q (bf h42)) <| z2y q q (g_f q q (bf h42)) <| z0h (z00 (decide (z2c t0 b43 = 95))) q (bf h42) q (g_t q q h36) <| z0k (z00 (decide (z2c t0 b43 = 95))) q h36 q (g_f q q (bf h35)) <| z0h (z00 (decide (z2c t0 b43 = 95))) q (bf h35) q (g_t q q (dt h29)) <| z0k (z00 (decide (z2c t0 b43 = 95))) q (dt h29) q q <| R0 <| z09 q (fun h46 => ?_) (fun h46 => ?_)
      · exact Jk (K52 ()) (.c2 q q (.c3 q q q .nil))
      exact Jk (K54 ()) (.c2 q q .nil)
    intro v49
    exact z0e <| z0n <| Jr q <| Rm (I_ x1) q q <| z0d fun b50 h51 => z1l b50 q q (Option.some.inj h51) q <| Ra (I_ b50) q q <| R0 <| z0s <| z41 <| Jk (hE2 b50) (.cons q (.c3 q q q .nil))
  intro v53
  exact z1j q <| z0x <| Jq q <| Rm (I_ x1) q q <| Ra (I_ x1) q q <| Rt hΨ q q q
theorem k_ref01_quoted (t0 : ByteArray) (t1 : Int) (r : Int) (hr : ref01_quoted t0 t1 = some r) : FnP PP 204 [z1h t0, I_ t1] (I_ r) := by
  refine Fo (fun (r : Int) => I_ r) Tryz.func204 q (n := 30) q q hr fun X hΨ => ?_
  refine Jq q <| Ra (I_ 0) q q <| R0 <| Js <| Jq q <| Ra (I_ 1) q q <| R0 <| z0n ?_
  refine Jl (fun x1 => [(0, z1h t0), (1, I_ t1), (5, I_ x1)]) (.c3 q q q .nil) (fun E2 hE2 x1 => ?_)
  refine Js <| Jq q <| Rm (I_ t1) q q <| Rm (I_ x1) q q <| z0d fun b12 h13 => z1l b12 q q (Option.some.inj h13) q <| Rm (z1h t0) q q <| r_lenS is_9 q q <| z1o q q q ?_
  refine R0 <| z09 q (fun h14 => ?_) (fun h14 => ?_)
  rotate_left
  · exact z1j q <| z0x <| Jq q <| Ra (I_ 0) q q <| Rt hΨ q q q
  refine z0e <| Js <| z0n <| Jq q <| Rm (z1h t0) q q <| Rm (I_ t1) q q <| Rm (I_ x1) q q <| z0d fun b15 h16 => z1l b15 q q (Option.some.inj h16) q ?_
  refine z1b (fun h17 => ?_) (fun _ => z0u)
  refine r_ixS ut_9 q q h17.1 h17.2 q <| Ra (z1z .u8 (z2c t0 b15)) q q <| R0 <| Js <| Jq q <| Rm (z1z .u8 (z2c t0 b15)) q q <| z2y q q q <| R0 <| z09 q (fun h18 => ?_) (fun h18 => ?_)
  · exact Jq q <| Rm (I_ x1) q q <| z0d fun b19 h20 => z1l b19 q q (Option.some.inj h20) q <| Ra (I_ b19) q q <| R0 <| z0x <| Jt hΨ (z18 q) q q
  refine z0e <| Jq q <| Rm (z1z .u8 (z2c t0 b15)) q q <| z1o q q q <| Rm (z00 (decide (z2c t0 b15 < 32))) q q <| z1b (fun h21 => ?_) (fun h21 => ?_)
  · refine Rk (z0v q q (dt h21)) <| Rk (z0v q q (dt h21)) <| z0k (z00 true) q (dt h21) q q <| R0 <| z1d q q <| Jq q <| Ra (I_ 0) q q <| R0 <| z0x ?_
    exact Jt hΨ (z18 q) q q
  refine Rm (z1z .u8 (z2c t0 b15)) q (g_f q q (df h21)) <| z3a q q (g_f q q (df h21)) <| z0h (z00 (decide (126 < z2c t0 b15))) q (df h21) q q <| R0 <| z09 q (fun h22 => ?_) (fun h22 => ?_)
  · exact Jq q <| Ra (I_ 0) q q <| R0 <| z0x <| Jt hΨ (z18 q) q q
  exact z0e <| z0s <| Jr q <| Rm (I_ x1) q q <| z0d fun b23 h24 => z1l b23 q q (Option.some.inj h24) q <| Ra (I_ b23) q q <| R0 <| z41 <| Jk (hE2 b23) (.c3 q q q .nil)
theorem k_ref01_signs  (r : (List ByteArray)) (hr : ref01_signs  = some r) : FnP PP 205 [] (AL 1 z23 r) := by
  refine Fo (fun (r : (List ByteArray)) => AL 1 z23 r) Tryz.func205 q (n := 2) q q hr fun X hΨ => ?_
  exact Jq q <| Ra (z1m) q q <| R0 <| Jq q <| r_bs (cc := z23) [(ByteArray.mk #[45, 62]), (ByteArray.mk #[60, 61]), (ByteArray.mk #[62, 61]), (ByteArray.mk #[61, 61]), (ByteArray.mk #[33, 61]), (ByteArray.mk #[123]), (ByteArray.mk #[125]), (ByteArray.mk #[40]), (ByteArray.mk #[41]), (ByteArray.mk #[91]), (ByteArray.mk #[93]), (ByteArray.mk #[44]), (ByteArray.mk #[59]), (ByteArray.mk #[58]), (ByteArray.mk #[61]), (ByteArray.mk #[43]), (ByteArray.mk #[45]), (ByteArray.mk #[42]), (ByteArray.mk #[60]), (ByteArray.mk #[62]), (ByteArray.mk #[33]), (ByteArray.mk #[38]), (ByteArray.mk #[124]), (ByteArray.mk #[46]), (ByteArray.mk #[63])] el_98 zr_9_25 (.cons (A := z1h (ByteArray.mk #[45, 62])) q q q (.cons (A := z1h (ByteArray.mk #[60, 61])) q q q (.cons (A := z1h (ByteArray.mk #[62, 61])) q q q (.cons (A := z1h (ByteArray.mk #[61, 61])) q q q (.cons (A := z1h (ByteArray.mk #[33, 61])) q q q (.cons (A := z1h (ByteArray.mk #[123])) q q q (.cons (A := z1h (ByteArray.mk #[125])) q q q (.cons (A := z1h (ByteArray.mk #[40])) q q q (.cons (A := z1h (ByteArray.mk #[41])) q q q (.cons (A := z1h (ByteArray.mk #[91])) q q q (.cons (A := z1h (ByteArray.mk #[93])) q q q (.cons (A := z1h (ByteArray.mk #[44])) q q q (.cons (A := z1h (ByteArray.mk #[59])) q q q (.cons (A := z1h (ByteArray.mk #[58])) q q q (.cons (A := z1h (ByteArray.mk #[61])) q q q (.cons (A := z1h (ByteArray.mk #[43])) q q q (.cons (A := z1h (ByteArray.mk #[45])) q q q (.cons (A := z1h (ByteArray.mk #[42])) q q q (.cons (A := z1h (ByteArray.mk #[60])) q q q (.cons (A := z1h (ByteArray.mk #[62])) q q q (.cons (A := z1h (ByteArray.mk #[33])) q q q (.cons (A := z1h (ByteArray.mk #[38])) q q q (.cons (A := z1h (ByteArray.mk #[124])) q q q (.cons (A := z1h (ByteArray.mk #[46])) q q q (.cons (A := z1h (ByteArray.mk #[63])) q q q .nil))))))))))))))))))))))))) q q q <| Ra (AL 1 z23 [(ByteArray.mk #[45, 62]), (ByteArray.mk #[60, 61]), (ByteArray.mk #[62, 61]), (ByteArray.mk #[61, 61]), (ByteArray.mk #[33, 61]), (ByteArray.mk #[123]), (ByteArray.mk #[125]), (ByteArray.mk #[40]), (ByteArray.mk #[41]), (ByteArray.mk #[91]), (ByteArray.mk #[93]), (ByteArray.mk #[44]), (ByteArray.mk #[59]), (ByteArray.mk #[58]), (ByteArray.mk #[61]), (ByteArray.mk #[43]), (ByteArray.mk #[45]), (ByteArray.mk #[42]), (ByteArray.mk #[60]), (ByteArray.mk #[62]), (ByteArray.mk #[33]), (ByteArray.mk #[38]), (ByteArray.mk #[124]), (ByteArray.mk #[46]), (ByteArray.mk #[63])]) q q <| Rt hΨ q q q
theorem k_ref01_one (t0 : ByteArray) (t1 : Int) (r : z1c × Int × Int) (hr : ref01_one t0 t1 = some r) : FnP PP 162 [z1h t0, I_ t1] (z35 [z0w (z19 r.1), I_ r.2.1, I_ r.2.2]) := by
  refine Fo (fun (r : z1c × Int × Int) => z35 [z0w (z19 r.1), I_ r.2.1, I_ r.2.2]) Tryz.func162 q (n := 110) q q hr fun X hΨ => ?_
  refine Jq q <| z1x 0 _ z_151 q q <| Ra (I_ 0) q q <| Ra (I_ 0) q q <| R0 <| Jq q <| Rm (z1h t0) q q <| Rm (I_ t1) q q ?_
  refine z1b (fun h1 => ?_) (fun _ => z0u)
  refine r_ixS ut_9 q q h1.1 h1.2 q <| Ra (z1z .u8 (z2c t0 t1)) q q <| R0 <| Js <| Js ?_
  apply z2w (fun v25 => ⟨fr [(0, z1h t0), (1, I_ t1), (4, z0i 0), (5, I_ 0), (6, I_ 0), (7, z1z .u8 (z2c t0 t1)), (15, I_ t1)], hp [(0, .box 151 (z19 (z1c.mk 0 (ByteArray.mk #[]) 0)))], 1⟩) (fun v25 => za5 t0 t1 v25)
  · intro K43
    refine Jr q <| Rm (z1z .u8 (z2c t0 t1)) q q <| z0d fun b2 h3 => z0j _ fn_201 (k_ref01_letter _ _ h3) q q <| Rm (z00 b2) q q <| z1b (fun h4 => ?_) (fun h4 => ?_)
    · exact Rk (z0v q q h4) <| Rk (z0v q q h4) <| z0k (z00 true) q h4 q q <| R0 <| z1d q q <| Jc [] [] [] (K43 ()) (.s2 q q (.cons (A := z0i 0) q (.obj q q q) (.same q (.s3 q q q .nil)))) (.cons q q q q (.box (CvL.sames)) q q .nil) q q
    refine Rm (z1z .u8 (z2c t0 t1)) q (g_f q q (bf h4)) <| z0d fun b5 h6 => z0j _ fn_202 (k_ref01_digit _ _ h6) q (g_f q q (bf h4)) <| z0h (z00 b5) q (bf h4) q q <| R0 <| z1v q (fun h7 => ?_) (fun h7 => ?_)
    · exact Jc [] [] [] (K43 ()) (.s2 q q (.cons (A := z0i 0) q (.obj q q q) (.same q (.s3 q q q .nil)))) (.cons q q q q (.box (CvL.sames)) q q .nil) q q
    refine z0e <| Js <| Jq q <| Rm (z1z .u8 (z2c t0 t1)) q q <| z2y q q q <| R0 <| z09 q (fun h44 => ?_) (fun h44 => ?_)
    · refine Jq q <| Rm (z1h t0) q q <| Rm (I_ t1) q q <| z0d fun b45 h46 => z0j _ fn_204 (k_ref01_quoted _ _ _ h46) q q <| Ra (I_ b45) q q <| R0 <| Js <| Js ?_
      refine Jr q <| Rm (I_ b45) q q <| z2y q q q <| R0 <| z09 q (fun h47 => ?_) (fun h47 => ?_)
      · exact Jq q <| z52 (z19 (z1c.mk 0 (ByteArray.mk #[]) 0)) pl_151 z_151 .nil q q <| z2p (z0i 0) (z0w (z19 (z1c.mk 0 (ByteArray.mk #[]) 0))) (z19 (z1c.mk 0 (ByteArray.mk #[]) 0)) sz_151 q .obj q q q q q q <| Ra (I_ 0) q q <| Ra (I_ 2) q q <| R0 <| Jt hΨ (z16 (As := [z0w (z19 (z1c.mk 0 (ByteArray.mk #[]) 0)), I_ 0, I_ 2]) q q (.cons (.boxA (cs := (z19 (z1c.mk 0 (ByteArray.mk #[]) 0))) ag_151 q q q) (.cons (.tmp (A := I_ 0) q) (.cons (.tmp (A := I_ 2) q) .nil)))) q q
      refine z0e <| Js <| Jq q <| Rm (I_ b45) q q <| z0d fun b48 h49 => z7z b48 q q (Option.some.inj h49) q <| z3a q q q <| R0 <| z09 q (fun h50 => ?_) (fun h50 => ?_)
      · exact Jq q <| z52 (z19 (z1c.mk 0 (ByteArray.mk #[]) 0)) pl_151 z_151 .nil q q <| z2p (z0i 0) (z0w (z19 (z1c.mk 0 (ByteArray.mk #[]) 0))) (z19 (z1c.mk 0 (ByteArray.mk #[]) 0)) sz_151 q .obj q q q q q q <| Ra (I_ 0) q q <| Ra (I_ 3) q q <| R0 <| Jt hΨ (z16 (As := [z0w (z19 (z1c.mk 0 (ByteArray.mk #[]) 0)), I_ 0, I_ 3]) q q (.cons (.boxA (cs := (z19 (z1c.mk 0 (ByteArray.mk #[]) 0))) ag_151 q q q) (.cons (.tmp (A := I_ 0) q) (.cons (.tmp (A := I_ 3) q) .nil)))) q q
      refine z0e <| Jq q <| Rm (z1h t0) q q <| Rm (I_ t1) q q <| z0d fun b51 h52 => z1l b51 q q (Option.some.inj h52) q <| Rm (I_ t1) q q <| Rm (I_ b45) q q <| z0d fun b53 h54 => ?_
      refine z1l b53 q q (Option.some.inj h54) q <| z0d fun b55 h56 => z7z b55 q q (Option.some.inj h56) q <| z1b (fun h57 => ?_) (fun _ => z0u)
      exact r_cutS b51 b55 ut_9 q (lo_s q) (hi_s q) h57.1 h57.2.1 h57.2.2 q <| z52 (z19 (z1c.mk 3 (cutS t0 b51 b55) 0)) pl_151 z_151 (.cons (A := I_ 3) q po_151_0 q (.cons (A := z1h (cutS t0 b51 b55)) q po_151_1 q .nil)) q q <| Rm (I_ b45) q q <| z2p (z0i 0) (z0w (z19 (z1c.mk 3 (cutS t0 b51 b55) 0))) (z19 (z1c.mk 3 (cutS t0 b51 b55) 0)) sz_151 q .obj q q q q q q <| Ra (I_ b45) q q <| Ra (I_ 0) q q <| R0 <| Jt hΨ (z16 (As := [z0w (z19 (z1c.mk 3 (cutS t0 b51 b55) 0)), I_ b45, I_ 0]) q q (.cons (.boxA (cs := (z19 (z1c.mk 3 (cutS t0 b51 b55) 0))) ag_151 q q q) (.cons (.tmp (A := I_ b45) q) (.cons (.tmp (A := I_ 0) q) .nil)))) q q
    refine z0e <| Jq q <| z0d fun b58 h59 => z0j _ fn_205 (k_ref01_signs  _ h59) q q <| Ra (AL 1 z23 b58) q q <| R0 <| Js <| Jq q ?_
    refine Ra (I_ 0) q q <| R0 <| z0n <| Jn (fun x60 => ⟨fr [(0, z1h t0), (1, I_ t1), (4, z0i 0), (5, I_ 0), (6, I_ 0), (7, z1z .u8 (z2c t0 t1)), (12, AL 1 z23 b58), (13, I_ x60), (15, I_ t1), (16, z1z .u8 (z2c t0 t1)), (17, z1z .u8 (z2c t0 t1)), (20, z1z .u8 (z2c t0 t1)), (43, z1z .u8 (z2c t0 t1))], hp [(0, .box 151 (z19 (z1c.mk 0 (ByteArray.mk #[]) 0)))], 1⟩) [] [] [] q (.s2 q q (.cons (A := z0i 0) q (.obj q q q) (.same q (.s3 q q q (.s6 q q q q q q .nil))))) (.cons q q q q (.box (CvL.sames)) q q .nil) q q (fun E61 hE61 x60 => ?_)
    refine Js <| Jq q <| Rm (I_ x60) q q <| Rm (AL 1 z23 b58) q q <| z1a (cc := z23) il_98 q q <| z1o q q q <| R0 <| z09 q (fun h73 => ?_) (fun h73 => ?_)
    rotate_left
    · exact z1j q <| z0x <| Jq q <| z52 (z19 (z1c.mk 0 (ByteArray.mk #[]) 0)) pl_151 z_151 .nil q q <| z2p (z0i 0) (z0w (z19 (z1c.mk 0 (ByteArray.mk #[]) 0))) (z19 (z1c.mk 0 (ByteArray.mk #[]) 0)) sz_151 q .obj q q q q q q <| Ra (I_ 0) q q <| Ra (I_ 2) q q <| R0 <| Jt hΨ (z16 (As := [z0w (z19 (z1c.mk 0 (ByteArray.mk #[]) 0)), I_ 0, I_ 2]) q q (.cons (.boxA (cs := (z19 (z1c.mk 0 (ByteArray.mk #[]) 0))) ag_151 q q q) (.cons (.tmp (A := I_ 0) q) (.cons (.tmp (A := I_ 2) q) .nil)))) q q
    refine z0e <| Js <| z0n <| Js ?_
    apply z2w (fun v82 => ⟨fr [(0, z1h t0), (1, I_ t1), (4, z0i 0), (5, I_ 0), (6, I_ 0), (7, z1z .u8 (z2c t0 t1)), (12, AL 1 z23 b58), (13, I_ x60), (15, I_ t1), (16, z1z .u8 (z2c t0 t1)), (17, z1z .u8 (z2c t0 t1)), (20, z1z .u8 (z2c t0 t1)), (43, z1z .u8 (z2c t0 t1)), (66, I_ x60), (68, I_ (b58.length : Int)), (72, I_ t1), (74, I_ x60), (80, I_ (t0.size : Int))], hp [(0, .box 151 (z19 (z1c.mk 0 (ByteArray.mk #[]) 0)))], 1⟩) (fun v82 => ref01_one_j82 x60 v82)
    · intro K83
      refine z2g <| Rm (I_ t1) q q <| Rm (AL 1 z23 b58) q q <| Rm (I_ x60) q q <| z1b (fun h74 => ?_) (fun _ => z0u)
      refine z2k (cc := z23) el_98 q q h74.1 h74.2 q <| z11 (z1h (nth b58 x60)) sc_9 q q q <| r_lenS is_9 q q <| z0d fun b75 h76 => z1l b75 q q (Option.some.inj h76) q <| Rm (z1h t0) q q <| r_lenS is_9 q q <| z8c q q q <| Rm (z00 (decide (b75 ≤ (t0.size : Int)))) q q <| z1b (fun h77 => ?_) (fun h77 => ?_)
      rotate_left
      · refine Rk (z0y q q (df h77)) <| Rk (z0y q q (df h77)) <| Rk (z0y q q (df h77)) <| Rk (z0y q q (df h77)) <| Rk (z0y q q (df h77)) <| Rk (z0y q q (df h77)) <| Rk (z0y q q (df h77)) <| Rk (z0y q q (df h77)) <| Rk (z0y q q (df h77)) <| Rk (z0y q q (df h77)) ?_
        exact Rk (z0y q q (df h77)) <| Rk (z0y q q (df h77)) <| Rk (z0y q q (df h77)) <| Rk (z0y q q (df h77)) <| Rk (z0y q q (df h77)) <| z0h (z00 false) q (df h77) q q <| z1y (by kernel_rfl) <| J_cond_F q q <| Jc [] [] [] (K83 ()) (.s2 q q (.cons (A := z0i 0) q (.obj q q q) (.s3 q q q (.s6 q q q q q q (.s6 q q q q q q .nil))))) (.cons q q q q (.box (CvL.sames)) q q .nil) q q
      refine Rm (z1h t0) q (g_t q q (dt h77)) <| Rm (I_ t1) q (g_t q q (dt h77)) <| Rm (I_ t1) q (g_t q q (dt h77)) <| Rm (AL 1 z23 b58) q (g_t q q (dt h77)) <| Rm (I_ x60) q (g_t q q (dt h77)) <| z2k (cc := z23) el_98 q q h74.1 h74.2 (g_t q q (dt h77)) <| z11 (z1h (nth b58 x60)) sc_9 q q (g_t q q (dt h77)) <| r_lenS is_9 q (g_t q q (dt h77)) <| z0d fun b78 h79 => z1l b78 q q (Option.some.inj h79) (g_t q q (dt h77)) ?_
      refine z1b (fun h80 => ?_) (fun _ => z0u)
      refine r_cutS t1 b78 ut_9 q (lo_s q) (hi_s q) h80.1 h80.2.1 h80.2.2 (g_t q q (dt h77)) <| Rm (AL 1 z23 b58) q (g_t q q (dt h77)) <| Rm (I_ x60) q (g_t q q (dt h77)) <| z2k (cc := z23) el_98 q q h74.1 h74.2 (g_t q q (dt h77)) <| z11 (z1h (nth b58 x60)) sc_9 q q (g_t q q (dt h77)) <| r_eqS q q (g_t q q (dt h77)) <| z0k (z00 (decide (cutS t0 t1 b78 = (nth b58 x60)))) q (dt h77) q q <| z1y (by kernel_rfl) <| z09 q (fun h81 => ?_) (fun h81 => ?_)
      rotate_left
      · exact Jc [] [] [] (K83 ()) (.s2 q q (.cons (A := z0i 0) q (.obj q q q) (.s3 q q q (.s6 q q q q q q (.s6 q q q q q q .nil))))) (.cons q q q q (.box (CvL.sames)) q q .nil) q q
      refine Js <| z2g <| Rm (AL 1 z23 b58) q q <| Rm (I_ x60) q q <| z2k (cc := z23) el_98 q q h74.1 h74.2 q <| z11 (z1h (nth b58 x60)) sc_9 q q q <| z52 (z19 (z1c.mk 4 (nth b58 x60) 0)) pl_151 z_151 (.cons (A := I_ 4) q po_151_0 q (.cons (A := z1h (nth b58 x60)) q po_151_1 q .nil)) q q <| Rm (AL 1 z23 b58) q q <| Rm (I_ x60) q q <| z2k (cc := z23) el_98 q q h74.1 h74.2 q ?_
      exact z11 (z1h (nth b58 x60)) sc_9 q q q <| r_lenS is_9 q q <| z2p (z0i 0) (z0w (z19 (z1c.mk 4 (nth b58 x60) 0))) (z19 (z1c.mk 4 (nth b58 x60) 0)) sz_151 q .obj q q q q q q <| Ra (I_ ((nth b58 x60).size : Int)) q q <| Ra (I_ 0) q q <| z1y (by kernel_rfl) <| z0x <| Jt hΨ (z16 (As := [z0w (z19 (z1c.mk 4 (nth b58 x60) 0)), I_ ((nth b58 x60).size : Int), I_ 0]) q q (.cons (.boxA (cs := (z19 (z1c.mk 4 (nth b58 x60) 0))) ag_151 q q q) (.cons (.tmp (A := I_ ((nth b58 x60).size : Int)) q) (.cons (.tmp (A := I_ 0) q) .nil)))) q q
    intro v82
    exact z0e <| z0s <| z0o 68 (m := (b58.length : Int)) q fun q84 => z0o 13 (m := x60) q fun q85 => Jr q <| Rm (I_ x60) q q <| z1l (x60 + 1) q q (z0z (by omega) (by omega)) q <| Ra (I_ (x60 + 1)) q q <| R0 <| z41 <| Jc [] [] [] (hE61 (x60 + 1)) (.s2 q q (.cons (A := z0i 0) q (.obj q q q) (.same q (.s3 q q q (.s6 q q q q q q .nil))))) (.cons q q q q (.box (CvL.sames)) q q .nil) q q
  intro v25
  refine Jq q <| Rm (z1h t0) q q <| Rm (I_ t1) q q <| Rm (z1z .u8 (z2c t0 t1)) q q <| z0d fun b26 h27 => z0j _ fn_202 (k_ref01_digit _ _ h27) q q <| z0d fun b28 h29 => z0j _ fn_203 (k_ref01_run _ _ _ _ h29) q q <| Ra (I_ b28) q q ?_
  refine R0 <| Jq q <| Ra (I_ 1) q q <| Ra (I_ 20) q q <| R0 <| Js <| Jq q <| Rm (z1z .u8 (z2c t0 t1)) q q ?_
  refine z0d fun b30 h31 => z0j _ fn_202 (k_ref01_digit _ _ h31) q q <| R0 ?_
  apply z2w (fun v37 => ⟨fr [(0, z1h t0), (1, I_ t1), (4, z0i 0), (5, I_ 0), (6, I_ 0), (8, I_ b28), (9, I_ v37.1), (10, I_ v37.2), (15, I_ t1), (24, I_ t1)], hp [(0, .box 151 (z19 (z1c.mk 0 (ByteArray.mk #[]) 0)))], 1⟩) (fun v37 => z7p b28 t0 t1 v37)
  · intro K42
    refine z1v q (fun h32 => ?_) (fun h32 => ?_)
    rotate_left
    · exact z0e <| Jc [] [] [] (K42 (1, 20)) (.s2 q q (.cons (A := z0i 0) q (.obj q q q) (.same q (.s6 q q q q q q .nil)))) (.cons q q q q (.box (CvL.sames)) q q .nil) q q
    exact Jr q <| Ra (I_ 2) q q <| Ra (I_ 9) q q <| R0 <| Jc [] [] [] (K42 (2, 9)) (.s2 q q (.cons (A := z0i 0) q (.obj q q q) (.same q (.s6 q q q q q q .nil)))) (.cons q q q q (.box (CvL.sames)) q q .nil) q q
  intro v37
  refine Js <| Jq q <| Rm (I_ b28) q q <| Rm (I_ v37.2) q q <| z3a q q q <| R0 <| z09 q (fun h38 => ?_) (fun h38 => ?_)
  · exact Jq q <| z52 (z19 (z1c.mk 0 (ByteArray.mk #[]) 0)) pl_151 z_151 .nil q q <| z2p (z0i 0) (z0w (z19 (z1c.mk 0 (ByteArray.mk #[]) 0))) (z19 (z1c.mk 0 (ByteArray.mk #[]) 0)) sz_151 q .obj q q q q q q <| Ra (I_ 0) q q <| Ra (I_ 3) q q <| R0 <| Jt hΨ (z16 (As := [z0w (z19 (z1c.mk 0 (ByteArray.mk #[]) 0)), I_ 0, I_ 3]) q q (.cons (.boxA (cs := (z19 (z1c.mk 0 (ByteArray.mk #[]) 0))) ag_151 q q q) (.cons (.tmp (A := I_ 0) q) (.cons (.tmp (A := I_ 3) q) .nil)))) q q
  refine z0e <| Jq q <| Rm (I_ v37.1) q q <| Rm (z1h t0) q q <| Rm (I_ t1) q q <| Rm (I_ t1) q q <| Rm (I_ b28) q q <| z0d fun b39 h40 => z1l b39 q q (Option.some.inj h40) q ?_
  refine z1b (fun h41 => ?_) (fun _ => z0u)
  exact r_cutS t1 b39 ut_9 q (lo_s q) (hi_s q) h41.1 h41.2.1 h41.2.2 q <| z52 (z19 (z1c.mk v37.1 (cutS t0 t1 b39) 0)) pl_151 z_151 (.cons (A := I_ v37.1) q po_151_0 q (.cons (A := z1h (cutS t0 t1 b39)) q po_151_1 q .nil)) q q <| Rm (I_ b28) q q <| z2p (z0i 0) (z0w (z19 (z1c.mk v37.1 (cutS t0 t1 b39) 0))) (z19 (z1c.mk v37.1 (cutS t0 t1 b39) 0)) sz_151 q .obj q q q q q q <| Ra (I_ b28) q q <| Ra (I_ 0) q q <| R0 <| Jt hΨ (z16 (As := [z0w (z19 (z1c.mk v37.1 (cutS t0 t1 b39) 0)), I_ b28, I_ 0]) q q (.cons (.boxA (cs := (z19 (z1c.mk v37.1 (cutS t0 t1 b39) 0))) ag_151 q q q) (.cons (.tmp (A := I_ b28) q) (.cons (.tmp (A := I_ 0) q) .nil)))) q q
theorem k_ref01_Right (t0 : z1c) (r : Bool) (hr : ref01_Right t0 = some r) : FnP PP 112 [z0w (z19 t0)] (z00 r) := by
  refine Fo (fun (r : Bool) => z00 r) Tryz.func112 q (n := 32) q q hr fun X hΨ => ?_
  refine Jq q <| z17 (z0w (z19 t0)) q q <| Ra (z00 false) q q <| R0 <| Jq q <| z14 (z19 t0) ag_151 q q q q <| z0d fun b1 h2 => z0j _ fn_161 (k_ref01_text _ _ h2) q q ?_
  refine Ra (z1h b1) q q <| R0 <| Js <| Jq q <| Rm (z1h b1) q q <| r_eqS q q q <| R0 <| z09 q (fun h3 => ?_) (fun h3 => ?_)
  · exact Jq q <| Ra (z00 false) q q <| Rt hΨ q q q
  refine z0e <| Jq q <| Rm (z1h b1) q q <| z0d fun b4 h5 => z0j _ fn_162 (k_ref01_one _ _ _ h5) q q <| Rm (z35 [z0w (z19 b4.1), I_ b4.2.1, I_ b4.2.2]) q q <| z20 (z0w (z19 b4.1)) q q q <| z20 (I_ b4.2.1) q q q <| z20 (I_ b4.2.2) q q q ?_
  refine z1x 0 _ z_151 q q <| z2p (z0i 0) (z0w (z19 b4.1)) (z19 b4.1) sz_151 q .obj q q q q q q <| Ra (I_ b4.2.1) q q <| Ra (I_ b4.2.2) q q <| R0 <| Jq q <| Rm (I_ b4.2.2) q q <| z2y q q q <| Rm (z00 (decide (b4.2.2 = 0))) q q ?_
  refine z1b (fun h6 => ?_) (fun h6 => ?_)
  rotate_left
  · refine Rk (z0y q q (df h6)) <| Rk (z0y q q (df h6)) <| Rk (z0y q q (df h6)) <| Rk (z0y q q (df h6)) <| z0h (z00 false) q (df h6) q q <| Rm (z00 false) q q <| Rk (z0y q q q) <| Rk (z0y q q q) <| Rk (z0y q q q) <| Rk (z0y q q q) ?_
    exact Rk (z0y q q q) <| z0h (z00 false) q q q q <| Ra (z00 false) q q <| Rt hΨ q q q
  refine Rm (I_ b4.2.1) q (g_t q q (dt h6)) <| Rm (z1h b1) q (g_t q q (dt h6)) <| r_lenS is_9 q (g_t q q (dt h6)) <| z2y q q (g_t q q (dt h6)) <| z0k (z00 (decide (b4.2.1 = (b1.size : Int)))) q (dt h6) q q <| Rm (z00 (decide (b4.2.1 = (b1.size : Int)))) q q <| z1b (fun h7 => ?_) (fun h7 => ?_)
  · exact z24 (z0i 0) 0 fo_151_0 q .obj q q (g_t q q (dt h7)) <| z2b (z1f 0 0) (I_ b4.1.Kind) z1t q .at q q (g_t q q (dt h7)) <| z0f (z01 t0.Kind) fo_151_0 q q (g_t q q (dt h7)) <| z11 (I_ t0.Kind) z1t q q (g_t q q (dt h7)) <| z2y q q (g_t q q (dt h7)) <| z0k (z00 (decide (b4.1.Kind = t0.Kind))) q (dt h7) q q <| Ra (z00 (decide (b4.1.Kind = t0.Kind))) q q <| Rt hΨ q q q
  exact Rk (z0y q q (df h7)) <| Rk (z0y q q (df h7)) <| Rk (z0y q q (df h7)) <| Rk (z0y q q (df h7)) <| Rk (z0y q q (df h7)) <| z0h (z00 false) q (df h7) q q <| Ra (z00 false) q q <| Rt hΨ q q q
theorem z8e (t0 : ByteArray) (r : Bool) (hr : z5x t0 = some r) : FnP PP 67 [z1h t0] (z00 r) := by
  refine Fo (fun (r : Bool) => z00 r) Tryz.func67 q (n := 6) q q hr fun X hΨ => ?_
  refine Jq q <| Ra (z00 false) q q <| R0 <| Jq q <| Rm (z1h t0) q q <| z52 (z19 (z1c.mk 1 t0 0)) pl_151 z_151 (.cons (A := I_ 1) q po_151_0 q (.cons (A := z1h t0) q po_151_1 q .nil)) q q <| z0d fun b1 h2 => z0j _ fn_112 (k_ref01_Right _ _ h2) q q ?_
  exact Ra (z00 b1) q q <| Rt hΨ q q q
theorem z6l (t0 : Int) (t1 : Int) (t2 : Int) (r : Bool) (hr : z5k t0 t1 t2 = some r) : FnP PP 108 [I_ t0, I_ t1, I_ t2] (z00 r) := by
  refine Fo (fun (r : Bool) => z00 r) Tryz.func108 q (n := 15) q q hr fun X hΨ => ?_
  refine Jq q <| Ra (z00 false) q q <| R0 <| Jq q <| Rm (I_ t0) q q <| Rm (I_ t1) q q <| z3c q q q <| Rm (z00 (decide (t1 ≤ t0))) q q ?_
  refine z1b (fun h1 => ?_) (fun h1 => ?_)
  · exact Rm (I_ t0) q (g_t q q (dt h1)) <| Rm (I_ t2) q (g_t q q (dt h1)) <| z8c q q (g_t q q (dt h1)) <| z0k (z00 (decide (t0 ≤ t2))) q (dt h1) q q <| Ra (z00 (decide (t0 ≤ t2))) q q <| Rt hΨ q q q
  exact Rk (z0y q q (df h1)) <| Rk (z0y q q (df h1)) <| Rk (z0y q q (df h1)) <| z0h (z00 false) q (df h1) q q <| Ra (z00 false) q q <| Rt hΨ q q q
theorem k_ref04_attrs_b (q_ref04_attrs : z06 → Int → Option (List z0r)) (hq_ref04_attrs : ∀ (t0 : z06) (t1 : Int) (r : (List z0r)), q_ref04_attrs t0 t1 = some r → FnP PP 109 [z0w (z02 t0), I_ t1] (AL 4 z08 r)) (t0 : z06) (t1 : Int) (r : (List z0r)) (hr : za3 q_ref04_attrs t0 t1 = some r) : FnP PP 109 [z0w (z02 t0), I_ t1] (AL 4 z08 r) := by
  refine Fo (fun (r : (List z0r)) => AL 4 z08 r) Tryz.func109 q (n := 24) q q hr fun X hΨ => ?_
  refine Jq q <| z17 (z0w (z02 t0)) q q <| Ra (z1m) q q <| R0 <| Js <| Jq q <| Rm (I_ t1) q q <| z1o q q q ?_
  refine R0 <| z09 q (fun h1 => ?_) (fun h1 => ?_)
  · exact Jq q <| Ra (z1m) q q <| R0 <| z3g hΨ (z4r q (.tmp (A := z1m) q)) (fun y hy => by cases hy; exact .nil)
  refine z0e <| Js <| z2g <| r_bs0 0 el_95 q q <| z14 (z02 t0) z2j q q q q <| z0f ((cL 4 z03) t0.Nodes) z2i q q q <| z11 (AL 4 z03 t0.Nodes) z4z q q q <| Rm (I_ t1) q q <| z1b (fun h2 => ?_) (fun _ => z0u)
  refine z2k (cc := z03) el_22 q q h2.1 h2.2 q <| z0f (z01 ((nth t0.Nodes t1).Parent)) fo_97_1 q q q <| z11 (I_ ((nth t0.Nodes t1).Parent)) z1t q q q <| z0d fun b3 h4 => z0j _ fn_109 (hq_ref04_attrs _ _ _ h4) q q <| z1b (fun h5 => ?_) (fun _ => z0u)
  refine r_app0 (cc := z08) (ys := b3) 1 ap_95 q q q h5 q q q <| z0f ((cL 4 z03) t0.Nodes) z2i q q q <| z11 (AL 4 z03 t0.Nodes) z4z q q q <| Rm (I_ t1) q q <| z2k (cc := z03) el_22 q q h2.1 h2.2 q <| z0f ((cL 4 z08) ((nth t0.Nodes t1).Attrs)) fo_97_3 q q q <| z11 (AL 4 z08 ((nth t0.Nodes t1).Attrs)) sc_95 q q q <| z1b (fun h6 => ?_) (fun _ => z0u)
  exact r_app (cc := z08) (xs := b3) (ys := (nth t0.Nodes t1).Attrs) 2 ap_95 q q q h6 q q q <| Ra (z0i 2) q q <| z1y (by kernel_rfl) <| z3g hΨ (z4r q (.tmp (A := z0i 2) q)) (fun y hy => by cases hy; exact (.frow q q (NKC.flat _ _)))
theorem ref04_attrs_n_ok : ∀ n, (∀ (t0 : z06) (t1 : Int) (r : (List z0r)), (z44 n) t0 t1 = some r → FnP PP 109 [z0w (z02 t0), I_ t1] (AL 4 z08 r)) := by
  intro n
  induction n with
  | zero => exact (fun _ _ _ h => by cases h)
  | succ n ih => exact (fun a0 a1 r h => k_ref04_attrs_b _ ih a0 a1 r h)
theorem k_ref04_attrs (t0 : z06) (t1 : Int) (r : (List z0r)) (hr : ref04_attrs t0 t1 = some r) : FnP PP 109 [z0w (z02 t0), I_ t1] (AL 4 z08 r) := by
  obtain ⟨n, hn⟩ := Ev_some hr
  exact (ref04_attrs_n_ok n) t0 t1 r hn
theorem k_ref04_names (t0 : (List ByteArray)) (r : Int) (hr : ref04_names t0 = some r) : FnP PP 160 [AL 1 z23 t0] (I_ r) := by
  refine Fo (fun (r : Int) => I_ r) Tryz.func160 q (n := 34) q q hr fun X hΨ => ?_
  refine Jq q <| Ra (I_ 0) q q <| R0 <| Js <| Jq q <| Rm (AL 1 z23 t0) q q <| z1a (cc := z23) il_98 q q <| z3a q q q ?_
  refine R0 <| z09 q (fun h1 => ?_) (fun h1 => ?_)
  · exact Jq q <| Ra (I_ 3) q q <| Rt hΨ q q q
  refine z0e <| Js <| Jq q <| Ra (I_ 0) q q <| R0 <| z0n <| Jl (fun x2 => [(0, AL 1 z23 t0), (2, I_ 0), (3, I_ x2), (6, I_ (t0.length : Int))]) (.cons q (.c3 q q q .nil)) (fun E3 hE3 x2 => ?_)
  refine Js <| Jq q <| Rm (I_ x2) q q <| Rm (AL 1 z23 t0) q q <| z1a (cc := z23) il_98 q q <| z1o q q q <| R0 <| z09 q (fun h17 => ?_) (fun h17 => ?_)
  rotate_left
  · exact z1j q <| z0x <| Jq q <| Ra (I_ 0) q q <| Rt hΨ q q q
  refine z0e <| Js <| z0n <| Js <| Jq q <| Rm (AL 1 z23 t0) q q <| Rm (I_ x2) q q <| z1b (fun h18 => ?_) (fun _ => z0u)
  refine z2k (cc := z23) el_98 q q h18.1 h18.2 q <| z11 (z1h (nth t0 x2)) sc_9 q q q <| z0d fun b19 h20 => z0j _ fn_67 (z8e _ _ h20) q q <| z2x q q <| R0 <| z1v q (fun h21 => ?_) (fun h21 => ?_)
  · exact Jq q <| Ra (I_ 2) q q <| R0 <| z0x <| Jt hΨ (z18 q) q q
  refine z0e <| Jq q <| Ra (I_ 0) q q <| R0 <| z0n <| Jl (fun x22 => [(0, AL 1 z23 t0), (2, I_ 0), (3, I_ x2), (4, I_ x22), (6, I_ (t0.length : Int)), (8, I_ x2), (10, I_ (t0.length : Int)), (15, I_ x2)]) (.c2 q q (.c6 q q q q q q .nil)) (fun E23 hE23 x22 => ?_)
  refine Js <| Jq q <| Rm (I_ x22) q q <| Rm (I_ x2) q q <| z1o q q q <| R0 <| z09 q (fun h27 => ?_) (fun h27 => ?_)
  rotate_left
  · refine z1j q <| z0x <| z0s <| z0o 6 (m := (t0.length : Int)) q fun q32 => z0o 3 (m := x2) q fun q33 => Jr q <| Rm (I_ x2) q q <| z1l (x2 + 1) q q (z0z (by omega) (by omega)) q <| Ra (I_ (x2 + 1)) q q <| R0 ?_
    exact z41 <| Jk (hE3 (x2 + 1)) (.cons q (.c3 q q q .nil))
  refine z0e <| Js <| z0n <| Js <| z2g <| Rm (AL 1 z23 t0) q q <| Rm (I_ x22) q q <| z1b (fun h28 => ?_) (fun _ => z0u)
  refine z2k (cc := z23) el_98 q q h28.1 h28.2 q <| z11 (z1h (nth t0 x22)) sc_9 q q q <| Rm (AL 1 z23 t0) q q <| Rm (I_ x2) q q <| z2k (cc := z23) el_98 q q h18.1 h18.2 q <| z11 (z1h (nth t0 x2)) sc_9 q q q <| r_eqS q q q <| z1y (by kernel_rfl) <| z09 q (fun h29 => ?_) (fun h29 => ?_)
  · exact Jq q <| Ra (I_ 5) q q <| R0 <| z0x <| z0x <| Jt hΨ (z18 q) q q
  exact z0e <| z0s <| z0o 3 (m := x2) q fun q30 => z0o 4 (m := x22) q fun q31 => Jr q <| Rm (I_ x22) q q <| z1l (x22 + 1) q q (z0z (by omega) (by omega)) q <| Ra (I_ (x22 + 1)) q q <| R0 <| z41 <| Jk (hE23 (x22 + 1)) (.c2 q q (.c6 q q q q q q .nil))
theorem k_ref04_attribute (t0 : z0r) (r : Int) (hr : z3o t0 = some r) : FnP PP 110 [z0w (z08 t0)] (I_ r) := by
  refine Fo (fun (r : Int) => I_ r) Tryz.func110 q (n := 38) q q hr fun X hΨ => ?_
  refine Jq q <| z17 (z0w (z08 t0)) q q <| Ra (I_ 0) q q <| R0 <| Js <| Jq q <| z0f ((cL 1 z23) t0.Names) z7t q q q <| z11 (AL 1 z23 t0.Names) sc_98 q q q ?_
  refine z1a (cc := z23) il_98 q q <| z2y q q q <| R0 <| z09 q (fun h1 => ?_) (fun h1 => ?_)
  · refine Js <| Jq q <| z0f (z01 t0.Low) fo_100_1 q q q <| z11 (I_ t0.Low) z1t q q q <| z0d fun b2 h3 => z0j _ fn_108 (z6l _ _ _ _ h3) q q <| z2x q q <| Rm (z00 (!b2)) q q <| z1b (fun h4 => ?_) (fun h4 => ?_)
    · refine Rk (z0v q q h4) <| Rk (z0v q q h4) <| Rk (z0v q q h4) <| Rk (z0v q q h4) <| Rk (z0v q q h4) <| Rk (z0v q q h4) <| z0k (z00 true) q h4 q q <| R0 <| z1d q q <| Js ?_
      exact Jr q <| Ra (I_ 6) q q <| Rt hΨ q q q
    refine z0f (z01 t0.High) fo_100_2 q q (g_f q q (bf h4)) <| z11 (I_ t0.High) z1t q q (g_f q q (bf h4)) <| z0f (z01 t0.Low) fo_100_1 q q (g_f q q (bf h4)) <| z11 (I_ t0.Low) z1t q q (g_f q q (bf h4)) <| z0d fun b5 h6 => z0j _ fn_108 (z6l _ _ _ _ h6) q (g_f q q (bf h4)) <| z2x q (g_f q q (bf h4)) <| z0h (z00 (!b5)) q (bf h4) q q <| R0 <| z1v q (fun h7 => ?_) (fun h7 => ?_)
    · exact Jq q <| Ra (I_ 6) q q <| Rt hΨ q q q
    exact z0e <| Jq q <| Ra (I_ 0) q q <| Rt hΨ q q q
  refine z0e <| Js <| Jq q <| z0f ((cL 1 z23) t0.Names) z7t q q q <| z11 (AL 1 z23 t0.Names) sc_98 q q q <| z0d fun b8 h9 => z0j _ fn_160 (k_ref04_names _ _ h9) q q <| Ra (I_ b8) q q <| R0 ?_
  refine Jq q <| Rm (I_ b8) q q <| z2a q q q <| R0 <| z09 q (fun h10 => ?_) (fun h10 => ?_)
  · exact Jq q <| Rm (I_ b8) q q <| Ra (I_ b8) q q <| Rt hΨ q q q
  refine z0e <| Js <| Js <| z0o 6 (m := (t0.Names.length : Int)) q fun q12 => Jr q <| z0f (z01 t0.Low) fo_100_1 q q q <| z11 (I_ t0.Low) z1t q q q <| z2a q q q <| Rm (z00 (decide (¬ (t0.Low = 0)))) q q <| z1b (fun h11 => ?_) (fun h11 => ?_)
  · refine Rk (z0v q q (dt h11)) <| Rk (z0v q q (dt h11)) <| Rk (z0v q q (dt h11)) <| Rk (z0v q q (dt h11)) <| Rk (z0v q q (dt h11)) <| Rk (z0v q q (dt h11)) <| Rk (z0v q q (dt h11)) <| z0k (z00 true) q (dt h11) q q <| R0 <| z1d q q ?_
    exact Jq q <| Ra (I_ 6) q q <| Rt hΨ q q q
  refine z0f (z01 t0.High) fo_100_2 q q (g_f q q (df h11)) <| z11 (I_ t0.High) z1t q q (g_f q q (df h11)) <| z0f ((cL 1 z23) t0.Names) z7t q q (g_f q q (df h11)) <| z11 (AL 1 z23 t0.Names) sc_98 q q (g_f q q (df h11)) <| z1a (cc := z23) il_98 q (g_f q q (df h11)) <| z7z ((t0.Names.length : Int) - 1) q q (z0z (by omega) (by omega)) (g_f q q (df h11)) <| z2a q q (g_f q q (df h11)) <| z0h (z00 (decide (¬ (t0.High = (t0.Names.length : Int) - 1)))) q (df h11) q q <| R0 <| z09 q (fun h13 => ?_) (fun h13 => ?_)
  · exact Jq q <| Ra (I_ 6) q q <| Rt hΨ q q q
  exact z0e <| Jq q <| Ra (I_ 0) q q <| Rt hΨ q q q
theorem k_ref04_node (t0 : z06) (t1 : Int) (r : Int) (hr : ref04_node t0 t1 = some r) : FnP PP 65 [z0w (z02 t0), I_ t1] (I_ r) := by
  refine Fo (fun (r : Int) => I_ r) Tryz.func65 q (n := 95) q q hr fun X hΨ => ?_
  refine Jq q <| z17 (z0w (z02 t0)) q q <| Ra (I_ 0) q q <| R0 <| Jq q <| z0f ((cL 4 z03) t0.Nodes) z2i q q q <| z11 (AL 4 z03 t0.Nodes) z4z q q q <| Rm (I_ t1) q q ?_
  refine z1b (fun h1 => ?_) (fun _ => z0u)
  refine z2k (cc := z03) el_22 q q h1.1 h1.2 q <| z14 (z03 (nth t0.Nodes t1)) ag_97 q q q q <| z1x 0 _ z_97 q q <| z2p (z0i 0) (z0w (z03 (nth t0.Nodes t1))) (z03 (nth t0.Nodes t1)) sz_97 q .obj q q q q q q <| R0 <| Js <| Jq q <| z24 (z0i 0) 0 fo_97_0 q .obj q q q <| z2b (z1f 0 0) (z1h ((nth t0.Nodes t1).Name)) sc_9 q .at q q q ?_
  refine z0d fun b2 h3 => z0j _ fn_67 (z8e _ _ h3) q q <| z2x q q <| R0 <| z1v q (fun h4 => ?_) (fun h4 => ?_)
  · exact Jq q <| Ra (I_ 2) q q <| Rt hΨ q q q
  refine z0e <| Js <| Jq q <| Ra (I_ 0) q q <| R0 <| z0n <| Jn (fun x5 => ⟨fr [(1, I_ t1), (2, z1r (z02 t0)), (4, I_ 0), (5, z0i 0), (6, I_ x5), (13, I_ t1)], hp [(0, .box 97 (z03 (nth t0.Nodes t1)))], 1⟩) [] [] [] q (.s3 q q q (.cons (A := z0i 0) q (.obj q q q) (.s2 q q .nil))) (.cons q q q q (.box (CvL.sames)) q q .nil) q q (fun E6 hE6 x5 => ?_)
  refine Js <| Jq q <| Rm (I_ x5) q q <| Rm (I_ t1) q q <| z1o q q q <| R0 <| z09 q (fun h10 => ?_) (fun h10 => ?_)
  · refine z0e <| Js <| z0n <| Js <| z2g <| z0f ((cL 4 z03) t0.Nodes) z2i q q q <| z11 (AL 4 z03 t0.Nodes) z4z q q q <| Rm (I_ x5) q q <| z1b (fun h11 => ?_) (fun _ => z0u)
    refine z2k (cc := z03) el_22 q q h11.1 h11.2 q <| z0f (z23 ((nth t0.Nodes x5).Name)) fo_97_0 q q q <| z11 (z1h ((nth t0.Nodes x5).Name)) sc_9 q q q <| z24 (z0i 0) 0 fo_97_0 q .obj q q q <| z2b (z1f 0 0) (z1h ((nth t0.Nodes t1).Name)) sc_9 q .at q q q <| r_eqS q q q <| z1y (by kernel_rfl) <| z09 q (fun h12 => ?_) (fun h12 => ?_)
    · exact Jq q <| Ra (I_ 5) q q <| R0 <| z0x <| Jt hΨ (z18 q) q q
    exact z0e <| z0s <| z0o 1 (m := t1) q fun q13 => z0o 6 (m := x5) q fun q14 => Jr q <| Rm (I_ x5) q q <| z1l (x5 + 1) q q (z0z (by omega) (by omega)) q <| Ra (I_ (x5 + 1)) q q <| R0 <| z41 <| Jc [] [] [] (hE6 (x5 + 1)) (.s3 q q q (.cons (A := z0i 0) q (.obj q q q) (.s2 q q .nil))) (.cons q q q q (.box (CvL.sames)) q q .nil) q q
  refine z1j q <| z7w <| Js <| Jq q <| z24 (z0i 0) 1 fo_97_1 q .obj q q q <| z2b (z1f 0 1) (I_ ((nth t0.Nodes t1).Parent)) z1t q .at q q q <| Rm (I_ t1) q q <| z0d fun b15 h16 => z7z b15 q q (Option.some.inj h16) q ?_
  refine z0d fun b17 h18 => z0j _ fn_108 (z6l _ _ _ _ h18) q q <| z2x q q <| R0 <| z1v q (fun h19 => ?_) (fun h19 => ?_)
  · exact Jq q <| Ra (I_ 6) q q <| Rt hΨ q q q
  refine z0e <| Jq q <| z14 (z02 t0) z2j q q q q <| Rm (I_ t1) q q <| z0d fun b20 h21 => z0j _ fn_109 (k_ref04_attrs _ _ _ h21) q q <| Ra (AL 4 z08 b20) q q <| R0 <| Js ?_
  refine Jq q <| z24 (z0i 0) 3 fo_97_3 q .obj q q q <| z2b (z1f 0 3) (AL 4 z08 ((nth t0.Nodes t1).Attrs)) sc_95 q .at q q q <| z1a (cc := z08) il_95 q q <| z3a q q q <| Rm (z00 (decide (4 < (((nth t0.Nodes t1).Attrs).length : Int)))) q q <| z1b (fun h22 => ?_) (fun h22 => ?_)
  · refine Rk (z0v q q (dt h22)) <| Rk (z0v q q (dt h22)) <| Rk (z0v q q (dt h22)) <| z0k (z00 true) q (dt h22) q q <| R0 <| z1d q q <| Jq q <| Ra (I_ 3) q q <| R0 ?_
    exact Jt hΨ (z18 q) q q
  refine Rm (AL 4 z08 b20) q (g_f q q (df h22)) <| z1a (cc := z08) il_95 q (g_f q q (df h22)) <| z3a q q (g_f q q (df h22)) <| z0h (z00 (decide (8 < (b20.length : Int)))) q (df h22) q q <| R0 <| z09 q (fun h23 => ?_) (fun h23 => ?_)
  · exact Jq q <| Ra (I_ 3) q q <| Rt hΨ q q q
  refine z0e <| Js <| Jq q <| Rm (AL 4 z08 b20) q q <| z1a (cc := z08) il_95 q q <| z24 (z0i 0) 3 fo_97_3 q .obj q q q <| z2b (z1f 0 3) (AL 4 z08 ((nth t0.Nodes t1).Attrs)) sc_95 q .at q q q <| z1a (cc := z08) il_95 q q <| z0d fun b24 h25 => ?_
  refine z7z b24 q q (Option.some.inj h25) q <| Ra (I_ b24) q q <| R0 <| z0n <| Jn (fun x26 => ⟨fr [(1, I_ t1), (4, I_ 0), (6, I_ x5), (7, AL 4 z08 b20), (8, I_ x26), (13, I_ t1), (20, I_ x5), (21, I_ t1), (36, I_ t1), (41, I_ t1), (45, I_ (((nth t0.Nodes t1).Attrs).length : Int)), (49, I_ (b20.length : Int)), (53, I_ (b20.length : Int)), (56, I_ (((nth t0.Nodes t1).Attrs).length : Int))], hp [], 0⟩) [] [] [] q (.s2 q q (.s6 q q q q q q (.s6 q q q q q q .nil))) .nil q q (fun E27 hE27 x26 => ?_)
  refine Js <| Jq q <| Rm (I_ x26) q q <| Rm (AL 4 z08 b20) q q <| z1a (cc := z08) il_95 q q <| z1o q q q <| R0 <| z09 q (fun h48 => ?_) (fun h48 => ?_)
  rotate_left
  · exact z1j q <| z0x <| Jq q <| Ra (I_ 0) q q <| Rt hΨ q q q
  refine z0e <| Js <| z0n <| Js <| Jq q <| Rm (AL 4 z08 b20) q q <| Rm (I_ x26) q q <| z1b (fun h49 => ?_) (fun _ => z0u)
  refine z2k (cc := z08) el_95 q q h49.1 h49.2 q <| z0f (z23 ((nth b20 x26).Name)) fo_100_0 q q q <| z11 (z1h ((nth b20 x26).Name)) sc_9 q q q <| z0d fun b50 h51 => z0j _ fn_67 (z8e _ _ h51) q q <| z2x q q <| R0 <| z1v q (fun h52 => ?_) (fun h52 => ?_)
  · exact Jq q <| Ra (I_ 2) q q <| R0 <| z0x <| Jt hΨ (z18 q) q q
  refine z0e <| Js <| Jq q <| Ra (I_ 0) q q <| R0 <| z0n <| Jn (fun x53 => ⟨fr [(1, I_ t1), (4, I_ 0), (6, I_ x5), (7, AL 4 z08 b20), (8, I_ x26), (9, I_ x53), (13, I_ t1), (20, I_ x5), (21, I_ t1), (36, I_ t1), (41, I_ t1), (45, I_ (((nth t0.Nodes t1).Attrs).length : Int)), (49, I_ (b20.length : Int)), (53, I_ (b20.length : Int)), (56, I_ (((nth t0.Nodes t1).Attrs).length : Int)), (58, I_ x26), (60, I_ (b20.length : Int)), (65, I_ x26)], hp [], 0⟩) [] [] [] q (.s6 q q q q q q (.s6 q q q q q q (.s6 q q q q q q .nil))) .nil q q (fun E54 hE54 x53 => ?_)
  refine Js <| Jq q <| Rm (I_ x53) q q <| Rm (I_ x26) q q <| z1o q q q <| R0 <| z09 q (fun h58 => ?_) (fun h58 => ?_)
  rotate_left
  · refine z1j q <| z7w <| Jq q <| Rm (AL 4 z08 b20) q q <| Rm (I_ x26) q q <| z2k (cc := z08) el_95 q q h49.1 h49.2 q <| z14 (z08 (nth b20 x26)) ag_100 q q q q <| z0d fun b63 h64 => z0j _ fn_110 (k_ref04_attribute _ _ h64) q q ?_
    refine Ra (I_ b63) q q <| R0 <| Jq q <| Rm (I_ b63) q q <| z2a q q q <| R0 <| z09 q (fun h65 => ?_) (fun h65 => ?_)
    · exact Jq q <| Rm (I_ b63) q q <| Ra (I_ b63) q q <| R0 <| z0x <| Jt hΨ (z18 q) q q
    exact z0e <| z0s <| z0o 49 (m := (b20.length : Int)) q fun q66 => z0o 8 (m := x26) q fun q67 => Jr q <| Rm (I_ x26) q q <| z1l (x26 + 1) q q (z0z (by omega) (by omega)) q <| Ra (I_ (x26 + 1)) q q <| R0 <| z41 <| Jc [] [] [] (hE27 (x26 + 1)) (.s2 q q (.s6 q q q q q q (.s6 q q q q q q .nil))) .nil q q
  refine z0e <| Js <| z0n <| Js <| z2g <| Rm (AL 4 z08 b20) q q <| Rm (I_ x53) q q <| z1b (fun h59 => ?_) (fun _ => z0u)
  refine z2k (cc := z08) el_95 q q h59.1 h59.2 q <| z0f (z23 ((nth b20 x53).Name)) fo_100_0 q q q <| z11 (z1h ((nth b20 x53).Name)) sc_9 q q q <| Rm (AL 4 z08 b20) q q <| Rm (I_ x26) q q <| z2k (cc := z08) el_95 q q h49.1 h49.2 q <| z0f (z23 ((nth b20 x26).Name)) fo_100_0 q q q <| z11 (z1h ((nth b20 x26).Name)) sc_9 q q q <| r_eqS q q q <| z1y (by kernel_rfl) ?_
  refine z09 q (fun h60 => ?_) (fun h60 => ?_)
  · exact Jq q <| Ra (I_ 5) q q <| R0 <| z0x <| z0x <| Jt hΨ (z18 q) q q
  exact z0e <| z0s <| z0o 8 (m := x26) q fun q61 => z0o 9 (m := x53) q fun q62 => Jr q <| Rm (I_ x53) q q <| z1l (x53 + 1) q q (z0z (by omega) (by omega)) q <| Ra (I_ (x53 + 1)) q q <| R0 <| z41 <| Jc [] [] [] (hE54 (x53 + 1)) (.s6 q q q q q q (.s6 q q q q q q (.s6 q q q q q q .nil))) .nil q q
theorem k_ref04_bound (t0 : Int) (t1 : Int) (r : Bool) (hr : z67 t0 t1 = some r) : FnP PP 111 [I_ t0, I_ t1] (z00 r) := by
  refine Fo (fun (r : Bool) => z00 r) Tryz.func111 q (n := 16) q q hr fun X hΨ => ?_
  refine Jq q <| Ra (z00 false) q q <| R0 <| Jq q <| Rm (I_ t0) q q <| z0d fun b1 h2 => z0j _ fn_108 (z6l _ _ _ _ h2) q q <| Rm (z00 b1) q q ?_
  refine z1b (fun h3 => ?_) (fun h3 => ?_)
  rotate_left
  · refine Rk (z0y q q (bf h3)) <| Rk (z0y q q (bf h3)) <| Rk (z0y q q (bf h3)) <| Rk (g_u q q) <| Rk (g_u q q) <| Rk (g_u q q) <| Rk (z0y q q (bf h3)) <| z0h (z00 false) q (bf h3) q q <| Ra (z00 false) q q <| R0 ?_
    exact Jt hΨ (z18 q) q q
  refine Rm (I_ t1) q (g_t q q h3) <| z2y q q (g_t q q h3) <| Rm (z00 (decide (t1 = (-1)))) q (g_t q q h3) <| z1b (fun h4 => ?_) (fun h4 => ?_)
  · exact Rk (z0v q q (dt h4)) <| Rk (z0v q q (dt h4)) <| Rk (z0v q q (dt h4)) <| z0k (z00 true) q (dt h4) q (g_t q q h3) <| z0k (z00 true) q h3 q q <| Ra (z00 true) q q <| Rt hΨ q q q
  exact Rm (I_ t1) q (g_f q q (df h4)) <| Rm (I_ t0) q (g_f q q (df h4)) <| z0d fun b5 h6 => z0j _ fn_108 (z6l _ _ _ _ h6) q (g_f q q (df h4)) <| z0h (z00 b5) q (df h4) q (g_t q q h3) <| z0k (z00 b5) q h3 q q <| Ra (z00 b5) q q <| Rt hΨ q q q
theorem k_ref04_edge (t0 : z06) (t1 : Int) (r : Int) (hr : ref04_edge t0 t1 = some r) : FnP PP 66 [z0w (z02 t0), I_ t1] (I_ r) := by
  refine Fo (fun (r : Int) => I_ r) Tryz.func66 q (n := 63) q q hr fun X hΨ => ?_
  refine Jq q <| z17 (z0w (z02 t0)) q q <| Ra (I_ 0) q q <| R0 <| Jq q <| z0f ((cL 7 z0c) t0.Edges) z3w q q q <| z11 (AL 7 z0c t0.Edges) sc_23 q q q <| Rm (I_ t1) q q ?_
  refine z1b (fun h1 => ?_) (fun _ => z0u)
  refine z2k (cc := z0c) el_23 q q h1.1 h1.2 q <| z14 (z0c (nth t0.Edges t1)) ag_102 q q q q <| z1x 0 _ z_102 q q <| z2p (z0i 0) (z0w (z0c (nth t0.Edges t1))) (z0c (nth t0.Edges t1)) sz_102 q .obj q q q q q q <| R0 <| Js <| Jq q <| z24 (z0i 0) 0 fo_102_0 q .obj q q q <| z2b (z1f 0 0) (z1h ((nth t0.Edges t1).Name)) sc_9 q .at q q q ?_
  refine z0d fun b2 h3 => z0j _ fn_67 (z8e _ _ h3) q q <| z2x q q <| R0 <| z1v q (fun h4 => ?_) (fun h4 => ?_)
  · exact Jq q <| Ra (I_ 2) q q <| Rt hΨ q q q
  refine z0e <| Js <| Jq q <| Ra (I_ 0) q q <| R0 <| z0n <| Jn (fun x5 => ⟨fr [(1, I_ t1), (2, z1r (z02 t0)), (4, I_ 0), (5, z0i 0), (6, I_ x5), (10, I_ t1)], hp [(0, .box 102 (z0c (nth t0.Edges t1)))], 1⟩) [] [] [] q (.s3 q q q (.cons (A := z0i 0) q (.obj q q q) (.s2 q q .nil))) (.cons q q q q (.box (CvL.sames)) q q .nil) q q (fun E6 hE6 x5 => ?_)
  refine Js <| Jq q <| Rm (I_ x5) q q <| Rm (I_ t1) q q <| z1o q q q <| R0 <| z09 q (fun h10 => ?_) (fun h10 => ?_)
  · refine z0e <| Js <| z0n <| Js <| z2g <| z0f ((cL 7 z0c) t0.Edges) z3w q q q <| z11 (AL 7 z0c t0.Edges) sc_23 q q q <| Rm (I_ x5) q q <| z1b (fun h11 => ?_) (fun _ => z0u)
    refine z2k (cc := z0c) el_23 q q h11.1 h11.2 q <| z0f (z23 ((nth t0.Edges x5).Name)) fo_102_0 q q q <| z11 (z1h ((nth t0.Edges x5).Name)) sc_9 q q q <| z24 (z0i 0) 0 fo_102_0 q .obj q q q <| z2b (z1f 0 0) (z1h ((nth t0.Edges t1).Name)) sc_9 q .at q q q <| r_eqS q q q <| z1y (by kernel_rfl) <| z09 q (fun h12 => ?_) (fun h12 => ?_)
    · exact Jq q <| Ra (I_ 5) q q <| R0 <| z0x <| Jt hΨ (z18 q) q q
    exact z0e <| z0s <| z0o 1 (m := t1) q fun q13 => z0o 6 (m := x5) q fun q14 => Jr q <| Rm (I_ x5) q q <| z1l (x5 + 1) q q (z0z (by omega) (by omega)) q <| Ra (I_ (x5 + 1)) q q <| R0 <| z41 <| Jc [] [] [] (hE6 (x5 + 1)) (.s3 q q q (.cons (A := z0i 0) q (.obj q q q) (.s2 q q .nil))) (.cons q q q q (.box (CvL.sames)) q q .nil) q q
  refine z1j q <| z7w <| Jq q <| z0f ((cL 4 z03) t0.Nodes) z2i q q q <| z11 (AL 4 z03 t0.Nodes) z4z q q q <| z1a (cc := z03) z9h q q <| z0d fun b15 h16 => z7z b15 q q (Option.some.inj h16) q <| Ra (I_ b15) q q ?_
  refine R0 <| Js <| Jq q <| z24 (z0i 0) 1 fo_102_1 q .obj q q q <| z2b (z1f 0 1) (I_ ((nth t0.Edges t1).From)) z1t q .at q q q <| Rm (I_ b15) q q <| z0d fun b17 h18 => z0j _ fn_108 (z6l _ _ _ _ h18) q q <| z2x q q ?_
  refine Rm (z00 (!b17)) q q <| z1b (fun h19 => ?_) (fun h19 => ?_)
  · refine Rk (z0v q q h19) <| Rk (z0v q q h19) <| Rk (z0v q q h19) <| Rk (z0v q q h19) <| Rk (z0v q q h19) <| z0k (z00 true) q h19 q q <| Rm (z00 true) q q <| Rk (z0v q q q) <| Rk (z0v q q q) <| Rk (z0v q q q) ?_
    refine Rk (z0v q q q) <| Rk (z0v q q q) <| Rk (z0v q q q) <| z0k (z00 true) q q q q <| Rm (z00 true) q q <| Rk (z0v q q q) <| Rk (z0v q q q) <| Rk (z0v q q q) <| Rk (z0v q q q) <| Rk (z0v q q q) ?_
    exact Rk (z0v q q q) <| z0k (z00 true) q q q q <| R0 <| z1d q q <| Jq q <| Ra (I_ 6) q q <| Rt hΨ q q q
  refine z24 (z0i 0) 2 fo_102_2 q .obj q q (g_f q q (bf h19)) <| z2b (z1f 0 2) (I_ ((nth t0.Edges t1).To)) z1t q .at q q (g_f q q (bf h19)) <| Rm (I_ b15) q (g_f q q (bf h19)) <| z0d fun b20 h21 => z0j _ fn_108 (z6l _ _ _ _ h21) q (g_f q q (bf h19)) <| z2x q (g_f q q (bf h19)) <| z0h (z00 (!b20)) q (bf h19) q q <| Rm (z00 (!b20)) q q <| z1b (fun h22 => ?_) (fun h22 => ?_)
  · refine Rk (z0v q q h22) <| Rk (z0v q q h22) <| Rk (z0v q q h22) <| Rk (z0v q q h22) <| Rk (z0v q q h22) <| Rk (z0v q q h22) <| z0k (z00 true) q h22 q q <| Rm (z00 true) q q <| Rk (z0v q q q) <| Rk (z0v q q q) ?_
    refine Rk (z0v q q q) <| Rk (z0v q q q) <| Rk (z0v q q q) <| Rk (z0v q q q) <| z0k (z00 true) q q q q <| R0 <| z1d q q <| Jq q <| Ra (I_ 6) q q ?_
    exact Rt hΨ q q q
  refine z24 (z0i 0) 3 fo_102_3 q .obj q q (g_f q q (bf h22)) <| z2b (z1f 0 3) (I_ ((nth t0.Edges t1).OutLow)) z1t q .at q q (g_f q q (bf h22)) <| z24 (z0i 0) 4 fo_102_4 q .obj q q (g_f q q (bf h22)) <| z2b (z1f 0 4) (I_ ((nth t0.Edges t1).OutHigh)) z1t q .at q q (g_f q q (bf h22)) <| z0d fun b23 h24 => z0j _ fn_111 (k_ref04_bound _ _ _ h24) q (g_f q q (bf h22)) <| z2x q (g_f q q (bf h22)) <| z0h (z00 (!b23)) q (bf h22) q q <| Rm (z00 (!b23)) q q <| z1b (fun h25 => ?_) (fun h25 => ?_)
  · refine Rk (z0v q q h25) <| Rk (z0v q q h25) <| Rk (z0v q q h25) <| Rk (z0v q q h25) <| Rk (z0v q q h25) <| Rk (z0v q q h25) <| z0k (z00 true) q h25 q q <| R0 <| z1d q q <| Js ?_
    exact Jr q <| Ra (I_ 6) q q <| Rt hΨ q q q
  refine z24 (z0i 0) 5 fo_102_5 q .obj q q (g_f q q (bf h25)) <| z2b (z1f 0 5) (I_ ((nth t0.Edges t1).InLow)) z1t q .at q q (g_f q q (bf h25)) <| z24 (z0i 0) 6 fo_102_6 q .obj q q (g_f q q (bf h25)) <| z2b (z1f 0 6) (I_ ((nth t0.Edges t1).InHigh)) z1t q .at q q (g_f q q (bf h25)) <| z0d fun b26 h27 => z0j _ fn_111 (k_ref04_bound _ _ _ h27) q (g_f q q (bf h25)) <| z2x q (g_f q q (bf h25)) <| z0h (z00 (!b26)) q (bf h25) q q <| R0 <| z1v q (fun h28 => ?_) (fun h28 => ?_)
  · exact Jq q <| Ra (I_ 6) q q <| Rt hΨ q q q
  exact z0e <| Jq q <| Ra (I_ 0) q q <| Rt hΨ q q q
theorem zaa (t0 : z06) (r : ByteArray × Int) (hr : z5e t0 = some r) : FnP PP 33 [z0w (z02 t0)] (z35 [z1h r.1, I_ r.2]) := by
  refine Fo (fun (r : ByteArray × Int) => z35 [z1h r.1, I_ r.2]) Tryz.func33 q (n := 60) q q hr fun X hΨ => ?_
  refine Jq q <| z17 (z0w (z02 t0)) q q <| Ra (z1h (ByteArray.mk #[])) q q <| Ra (I_ 0) q q <| R0 <| Js <| Jq q <| z0f ((cL 4 z03) t0.Nodes) z2i q q q ?_
  refine z11 (AL 4 z03 t0.Nodes) z4z q q q <| z1a (cc := z03) z9h q q <| z2y q q q <| R0 <| z09 q (fun h1 => ?_) (fun h1 => ?_)
  · exact Jq q <| Ra (z1h (ByteArray.mk #[])) q q <| Ra (I_ 7) q q <| R0 <| Jt hΨ (z16 (As := [z1h (ByteArray.mk #[]), I_ 7]) q q (.cons (.tmp (A := z1h (ByteArray.mk #[])) q) (.cons (.tmp (A := I_ 7) q) .nil))) q q
  refine z0e <| Js <| Jq q <| z0f ((cL 4 z03) t0.Nodes) z2i q q q <| z11 (AL 4 z03 t0.Nodes) z4z q q q <| z1a (cc := z03) z9h q q <| z3a q q q <| Rm (z00 (decide (12 < (t0.Nodes.length : Int)))) q q <| z1b (fun h2 => ?_) (fun h2 => ?_)
  · refine Rk (z0v q q (dt h2)) <| Rk (z0v q q (dt h2)) <| Rk (z0v q q (dt h2)) <| Rk (z0v q q (dt h2)) <| z0k (z00 true) q (dt h2) q q <| R0 <| z1d q q <| Jq q <| Ra (z1h (ByteArray.mk #[])) q q ?_
    exact Ra (I_ 3) q q <| R0 <| Jt hΨ (z16 (As := [z1h (ByteArray.mk #[]), I_ 3]) q q (.cons (.tmp (A := z1h (ByteArray.mk #[])) q) (.cons (.tmp (A := I_ 3) q) .nil))) q q
  refine z0f ((cL 7 z0c) t0.Edges) z3w q q (g_f q q (df h2)) <| z11 (AL 7 z0c t0.Edges) sc_23 q q (g_f q q (df h2)) <| z1a (cc := z0c) il_23 q (g_f q q (df h2)) <| z3a q q (g_f q q (df h2)) <| z0h (z00 (decide (20 < (t0.Edges.length : Int)))) q (df h2) q q <| R0 <| z09 q (fun h3 => ?_) (fun h3 => ?_)
  · exact Jq q <| Ra (z1h (ByteArray.mk #[])) q q <| Ra (I_ 3) q q <| R0 <| Jt hΨ (z16 (As := [z1h (ByteArray.mk #[]), I_ 3]) q q (.cons (.tmp (A := z1h (ByteArray.mk #[])) q) (.cons (.tmp (A := I_ 3) q) .nil))) q q
  refine z0e <| Js <| Jq q <| Ra (I_ 0) q q <| R0 <| z0n <| Jl (fun x4 => [(1, z1r (z02 t0)), (3, I_ 0), (4, I_ x4), (10, I_ (t0.Nodes.length : Int)), (14, I_ (t0.Nodes.length : Int)), (19, I_ (t0.Edges.length : Int))]) (.c6 q q q q q q .nil) (fun E5 hE5 x4 => ?_)
  refine Js <| Jq q <| Rm (I_ x4) q q <| z0f ((cL 4 z03) t0.Nodes) z2i q q q <| z11 (AL 4 z03 t0.Nodes) z4z q q q <| z1a (cc := z03) z9h q q <| z1o q q q <| R0 <| z09 q (fun h11 => ?_) (fun h11 => ?_)
  · refine z0e <| Js <| z0n <| Jq q <| z14 (z02 t0) z2j q q q q <| Rm (I_ x4) q q <| z0d fun b12 h13 => z0j _ fn_65 (k_ref04_node _ _ _ h13) q q <| Ra (I_ b12) q q ?_
    refine R0 <| Jq q <| Rm (I_ b12) q q <| z2a q q q <| R0 <| z09 q (fun h14 => ?_) (fun h14 => ?_)
    rotate_left
    · exact z0e <| z0s <| z0o 10 (m := (t0.Nodes.length : Int)) q fun q16 => z0o 4 (m := x4) q fun q17 => Jr q <| Rm (I_ x4) q q <| z1l (x4 + 1) q q (z0z (by omega) (by omega)) q <| Ra (I_ (x4 + 1)) q q <| R0 <| z41 <| Jk (hE5 (x4 + 1)) (.c6 q q q q q q .nil)
    refine Jq q <| z0f ((cL 4 z03) t0.Nodes) z2i q q q <| z11 (AL 4 z03 t0.Nodes) z4z q q q <| Rm (I_ x4) q q <| z1b (fun h15 => ?_) (fun _ => z0u)
    exact z2k (cc := z03) el_22 q q h15.1 h15.2 q <| z0f (z23 ((nth t0.Nodes x4).Name)) fo_97_0 q q q <| z11 (z1h ((nth t0.Nodes x4).Name)) sc_9 q q q <| Rm (I_ b12) q q <| Ra (z1h ((nth t0.Nodes x4).Name)) q q <| Ra (I_ b12) q q <| R0 <| z0x <| Jt hΨ (z16 (As := [z1h ((nth t0.Nodes x4).Name), I_ b12]) q q (.cons (.tmp (A := z1h ((nth t0.Nodes x4).Name)) q) (.cons (.tmp (A := I_ b12) q) .nil))) q q
  refine z1j q <| z7w <| Js <| Jq q <| Ra (I_ 0) q q <| R0 <| z0n <| Jl (fun x18 => [(1, z1r (z02 t0)), (3, I_ 0), (4, I_ x4), (6, I_ x18), (10, I_ (t0.Nodes.length : Int)), (14, I_ (t0.Nodes.length : Int)), (19, I_ (t0.Edges.length : Int)), (22, I_ x4), (25, I_ (t0.Nodes.length : Int))]) (.c3 q q q (.c6 q q q q q q .nil)) (fun E19 hE19 x18 => ?_)
  refine Js <| Jq q <| Rm (I_ x18) q q <| z0f ((cL 7 z0c) t0.Edges) z3w q q q <| z11 (AL 7 z0c t0.Edges) sc_23 q q q <| z1a (cc := z0c) il_23 q q <| z1o q q q <| R0 <| z09 q (fun h25 => ?_) (fun h25 => ?_)
  rotate_left
  · exact z1j q <| z0x <| Jq q <| Ra (z1h (ByteArray.mk #[])) q q <| Ra (I_ 0) q q <| R0 <| Jt hΨ (z16 (As := [z1h (ByteArray.mk #[]), I_ 0]) q q (.cons (.tmp (A := z1h (ByteArray.mk #[])) q) (.cons (.tmp (A := I_ 0) q) .nil))) q q
  refine z0e <| Js <| z0n <| Jq q <| z14 (z02 t0) z2j q q q q <| Rm (I_ x18) q q <| z0d fun b26 h27 => z0j _ fn_66 (k_ref04_edge _ _ _ h27) q q <| Ra (I_ b26) q q ?_
  refine R0 <| Jq q <| Rm (I_ b26) q q <| z2a q q q <| R0 <| z09 q (fun h28 => ?_) (fun h28 => ?_)
  rotate_left
  · exact z0e <| z0s <| z0o 19 (m := (t0.Edges.length : Int)) q fun q30 => z0o 6 (m := x18) q fun q31 => Jr q <| Rm (I_ x18) q q <| z1l (x18 + 1) q q (z0z (by omega) (by omega)) q <| Ra (I_ (x18 + 1)) q q <| R0 <| z41 <| Jk (hE19 (x18 + 1)) (.c3 q q q (.c6 q q q q q q .nil))
  refine Jq q <| z0f ((cL 7 z0c) t0.Edges) z3w q q q <| z11 (AL 7 z0c t0.Edges) sc_23 q q q <| Rm (I_ x18) q q <| z1b (fun h29 => ?_) (fun _ => z0u)
  exact z2k (cc := z0c) el_23 q q h29.1 h29.2 q <| z0f (z23 ((nth t0.Edges x18).Name)) fo_102_0 q q q <| z11 (z1h ((nth t0.Edges x18).Name)) sc_9 q q q <| Rm (I_ b26) q q <| Ra (z1h ((nth t0.Edges x18).Name)) q q <| Ra (I_ b26) q q <| R0 <| z0x <| Jt hΨ (z16 (As := [z1h ((nth t0.Edges x18).Name), I_ b26]) q q (.cons (.tmp (A := z1h ((nth t0.Edges x18).Name)) q) (.cons (.tmp (A := I_ b26) q) .nil))) q q
theorem k_ref05_kind (t0 : Int) (r : Bool) (hr : ref05_kind t0 = some r) : FnP PP 140 [I_ t0] (z00 r) := by
  refine Fo (fun (r : Bool) => z00 r) Tryz.func140 q (n := 9) q q hr fun X hΨ => ?_
  refine Jq q <| Ra (z00 false) q q <| R0 <| Jq q <| Rm (I_ t0) q q <| z3c q q q <| Rm (z00 (decide (0 ≤ t0))) q q <| z1b (fun h1 => ?_) (fun h1 => ?_)
  · exact Rm (I_ t0) q (g_t q q (dt h1)) <| z8c q q (g_t q q (dt h1)) <| z0k (z00 (decide (t0 ≤ 99))) q (dt h1) q q <| Ra (z00 (decide (t0 ≤ 99))) q q <| Rt hΨ q q q
  exact Rk (z0y q q (df h1)) <| Rk (z0y q q (df h1)) <| z0h (z00 false) q (df h1) q q <| Ra (z00 false) q q <| Rt hΨ q q q
theorem k_ref05_right (t0 : z1e) (t1 : Int) (r : Bool) (hr : ref05_right t0 t1 = some r) : FnP PP 141 [z0w (z0b t0), I_ t1] (z00 r) := by
  refine Fo (fun (r : Bool) => z00 r) Tryz.func141 q (n := 30) q q hr fun X hΨ => ?_
  refine Jq q <| z17 (z0w (z0b t0)) q q <| Ra (z00 false) q q <| R0 <| Jq q <| z0f (z01 t0.Type_) z77 q q q <| z11 (I_ t0.Type_) z1t q q q <| z0d fun b1 h2 => ?_
  refine z0j _ fn_140 (k_ref05_kind _ _ h2) q q <| Rm (z00 b1) q q <| z1b (fun h3 => ?_) (fun h3 => ?_)
  rotate_left
  · refine Rk (z0y q q (bf h3)) <| Rk (z0y q q (bf h3)) <| Rk (z0y q q (bf h3)) <| z0h (z00 false) q (bf h3) q q <| Rm (z00 false) q q <| Rk (z0y q q q) <| Rk (z0y q q q) <| Rk (z0y q q q) <| Rk (z0y q q q) <| z0h (z00 false) q q q q ?_
    refine Rm (z00 false) q q <| Rk (z0y q q q) <| Rk (z0y q q q) <| Rk (z0y q q q) <| z0h (z00 false) q q q q <| Rm (z00 false) q q <| Rk (z0y q q q) <| Rk (z0y q q q) <| Rk (z0y q q q) <| Rk (z0y q q q) ?_
    exact z0h (z00 false) q q q q <| Ra (z00 false) q q <| Rt hΨ q q q
  refine z0f (z01 t0.From) zaf q q (g_t q q h3) <| z11 (I_ t0.From) z1t q q (g_t q q h3) <| z3c q q (g_t q q h3) <| z0k (z00 (decide (0 ≤ t0.From))) q h3 q q <| Rm (z00 (decide (0 ≤ t0.From))) q q <| z1b (fun h4 => ?_) (fun h4 => ?_)
  rotate_left
  · refine Rk (z0y q q (df h4)) <| Rk (z0y q q (df h4)) <| Rk (z0y q q (df h4)) <| Rk (z0y q q (df h4)) <| z0h (z00 false) q (df h4) q q <| Rm (z00 false) q q <| Rk (z0y q q q) <| Rk (z0y q q q) <| Rk (z0y q q q) <| z0h (z00 false) q q q q ?_
    exact Rm (z00 false) q q <| Rk (z0y q q q) <| Rk (z0y q q q) <| Rk (z0y q q q) <| Rk (z0y q q q) <| z0h (z00 false) q q q q <| Ra (z00 false) q q <| Rt hΨ q q q
  refine z0f (z01 t0.From) zaf q q (g_t q q (dt h4)) <| z11 (I_ t0.From) z1t q q (g_t q q (dt h4)) <| Rm (I_ t1) q (g_t q q (dt h4)) <| z1o q q (g_t q q (dt h4)) <| z0k (z00 (decide (t0.From < t1))) q (dt h4) q q <| Rm (z00 (decide (t0.From < t1))) q q <| z1b (fun h5 => ?_) (fun h5 => ?_)
  rotate_left
  · refine Rk (z0y q q (df h5)) <| Rk (z0y q q (df h5)) <| Rk (z0y q q (df h5)) <| z0h (z00 false) q (df h5) q q <| Rm (z00 false) q q <| Rk (z0y q q q) <| Rk (z0y q q q) <| Rk (z0y q q q) <| Rk (z0y q q q) <| z0h (z00 false) q q q q ?_
    exact Ra (z00 false) q q <| Rt hΨ q q q
  refine z0f (z01 t0.To) zae q q (g_t q q (dt h5)) <| z11 (I_ t0.To) z1t q q (g_t q q (dt h5)) <| z3c q q (g_t q q (dt h5)) <| z0k (z00 (decide (0 ≤ t0.To))) q (dt h5) q q <| Rm (z00 (decide (0 ≤ t0.To))) q q <| z1b (fun h6 => ?_) (fun h6 => ?_)
  · exact z0f (z01 t0.To) zae q q (g_t q q (dt h6)) <| z11 (I_ t0.To) z1t q q (g_t q q (dt h6)) <| Rm (I_ t1) q (g_t q q (dt h6)) <| z1o q q (g_t q q (dt h6)) <| z0k (z00 (decide (t0.To < t1))) q (dt h6) q q <| Ra (z00 (decide (t0.To < t1))) q q <| Rt hΨ q q q
  exact Rk (z0y q q (df h6)) <| Rk (z0y q q (df h6)) <| Rk (z0y q q (df h6)) <| Rk (z0y q q (df h6)) <| z0h (z00 false) q (df h6) q q <| Ra (z00 false) q q <| Rt hΨ q q q
theorem za9 (t0 : z0p) (r : Int) (hr : z72 t0 = some r) : FnP PP 88 [z0w (z07 t0)] (I_ r) := by
  refine Fo (fun (r : Int) => I_ r) Tryz.func88 q (n := 46) q q hr fun X hΨ => ?_
  refine Jq q <| z17 (z0w (z07 t0)) q q <| Ra (I_ 0) q q <| R0 <| Js <| Jq q <| z0f ((cL 1 z01) t0.Nodes) z29 q q q <| z11 (AL 1 z01 t0.Nodes) z1s q q q ?_
  refine z1a (cc := z01) z2m q q <| z3a q q q <| Rm (z00 (decide (40 < (t0.Nodes.length : Int)))) q q <| z1b (fun h1 => ?_) (fun h1 => ?_)
  · refine Rk (z0v q q (dt h1)) <| Rk (z0v q q (dt h1)) <| Rk (z0v q q (dt h1)) <| Rk (z0v q q (dt h1)) <| z0k (z00 true) q (dt h1) q q <| R0 <| z1d q q <| Jq q <| Ra (I_ 3) q q ?_
    exact Rt hΨ q q q
  refine z0f ((cL 3 z0b) t0.Edges) z2r q q (g_f q q (df h1)) <| z11 (AL 3 z0b t0.Edges) z5o q q (g_f q q (df h1)) <| z1a (cc := z0b) il_27 q (g_f q q (df h1)) <| z3a q q (g_f q q (df h1)) <| z0h (z00 (decide (80 < (t0.Edges.length : Int)))) q (df h1) q q <| R0 <| z09 q (fun h2 => ?_) (fun h2 => ?_)
  · exact Jq q <| Ra (I_ 3) q q <| Rt hΨ q q q
  refine z0e <| Js <| Jq q <| Ra (I_ 0) q q <| R0 <| z0n <| Jl (fun x3 => [(1, z1r (z07 t0)), (2, I_ 0), (3, I_ x3), (7, I_ (t0.Nodes.length : Int)), (12, I_ (t0.Edges.length : Int))]) (.c2 q q (.c3 q q q .nil)) (fun E4 hE4 x3 => ?_)
  refine Js <| Jq q <| Rm (I_ x3) q q <| z0f ((cL 1 z01) t0.Nodes) z29 q q q <| z11 (AL 1 z01 t0.Nodes) z1s q q q <| z1a (cc := z01) z2m q q <| z1o q q q <| R0 <| z09 q (fun h10 => ?_) (fun h10 => ?_)
  · refine z0e <| Js <| z0n <| Jq q <| z0f ((cL 1 z01) t0.Nodes) z29 q q q <| z11 (AL 1 z01 t0.Nodes) z1s q q q <| Rm (I_ x3) q q <| z1b (fun h11 => ?_) (fun _ => z0u)
    refine z2k (cc := z01) z1w q q h11.1 h11.2 q <| z11 (I_ (nth t0.Nodes x3)) z1t q q q <| z0d fun b12 h13 => z0j _ fn_140 (k_ref05_kind _ _ h13) q q <| z2x q q <| R0 <| z1v q (fun h14 => ?_) (fun h14 => ?_)
    · exact Jq q <| Ra (I_ 6) q q <| R0 <| z0x <| Jt hΨ (z18 q) q q
    exact z0e <| z0s <| z0o 7 (m := (t0.Nodes.length : Int)) q fun q15 => z0o 3 (m := x3) q fun q16 => Jr q <| Rm (I_ x3) q q <| z1l (x3 + 1) q q (z0z (by omega) (by omega)) q <| Ra (I_ (x3 + 1)) q q <| R0 <| z41 <| Jk (hE4 (x3 + 1)) (.c2 q q (.c3 q q q .nil))
  refine z1j q <| z7w <| Js <| Jq q <| Ra (I_ 0) q q <| R0 <| z0n <| Jl (fun x17 => [(1, z1r (z07 t0)), (2, I_ 0), (3, I_ x3), (4, I_ x17), (7, I_ (t0.Nodes.length : Int)), (12, I_ (t0.Edges.length : Int)), (15, I_ x3), (18, I_ (t0.Nodes.length : Int))]) (.c2 q q (.c6 q q q q q q .nil)) (fun E18 hE18 x17 => ?_)
  refine Js <| Jq q <| Rm (I_ x17) q q <| z0f ((cL 3 z0b) t0.Edges) z2r q q q <| z11 (AL 3 z0b t0.Edges) z5o q q q <| z1a (cc := z0b) il_27 q q <| z1o q q q <| R0 <| z09 q (fun h24 => ?_) (fun h24 => ?_)
  rotate_left
  · exact z1j q <| z0x <| Jq q <| Ra (I_ 0) q q <| Rt hΨ q q q
  refine z0e <| Js <| z0n <| Js <| z2g <| z0f ((cL 3 z0b) t0.Edges) z2r q q q <| z11 (AL 3 z0b t0.Edges) z5o q q q <| Rm (I_ x17) q q <| z1b (fun h25 => ?_) (fun _ => z0u)
  refine z2k (cc := z0b) el_27 q q h25.1 h25.2 q <| z14 (z0b (nth t0.Edges x17)) ag_77 q q q q <| z0f ((cL 1 z01) t0.Nodes) z29 q q q <| z11 (AL 1 z01 t0.Nodes) z1s q q q <| z1a (cc := z01) z2m q q <| z0d fun b26 h27 => z0j _ fn_141 (k_ref05_right _ _ _ h27) q q <| z2x q q <| z1y (by kernel_rfl) <| z1v q (fun h28 => ?_) (fun h28 => ?_)
  · exact Jq q <| Ra (I_ 6) q q <| R0 <| z0x <| Jt hΨ (z18 q) q q
  exact z0e <| z0s <| z0o 12 (m := (t0.Edges.length : Int)) q fun q29 => z0o 4 (m := x17) q fun q30 => Jr q <| Rm (I_ x17) q q <| z1l (x17 + 1) q q (z0z (by omega) (by omega)) q <| Ra (I_ (x17 + 1)) q q <| R0 <| z41 <| Jk (hE18 (x17 + 1)) (.c2 q q (.c6 q q q q q q .nil))
theorem k_ref17_Typed (t0 : z06) (t1 : z0p) (r : Bool) (hr : ref17_Typed t0 t1 = some r) : FnP PP 113 [z0w (z02 t0), z0w (z07 t1)] (z00 r) := by
  refine Fo (fun (r : Bool) => z00 r) Tryz.func113 q (n := 57) q q hr fun X hΨ => ?_
  refine Jq q <| z17 (z0w (z02 t0)) q q <| z17 (z0w (z07 t1)) q q <| Ra (z00 false) q q <| R0 <| Js <| Jq q <| Ra (I_ 0) q q ?_
  refine R0 <| z0n <| Jl (fun x1 => [(2, z1r (z02 t0)), (3, z1r (z07 t1)), (5, I_ x1)]) (.c3 q q q .nil) (fun E2 hE2 x1 => ?_)
  refine Js <| Jq q <| Rm (I_ x1) q q <| z0f ((cL 1 z01) t1.Nodes) z29 q q q <| z11 (AL 1 z01 t1.Nodes) z1s q q q <| z1a (cc := z01) z2m q q <| z1o q q q <| R0 <| z09 q (fun h7 => ?_) (fun h7 => ?_)
  · refine z0e <| Js <| z0n <| Js <| z2g <| z0f ((cL 1 z01) t1.Nodes) z29 q q q <| z11 (AL 1 z01 t1.Nodes) z1s q q q <| Rm (I_ x1) q q <| z1b (fun h8 => ?_) (fun _ => z0u)
    refine z2k (cc := z01) z1w q q h8.1 h8.2 q <| z11 (I_ (nth t1.Nodes x1)) z1t q q q <| z1o q q q <| Rm (z00 (decide ((nth t1.Nodes x1) < 0))) q q <| z1b (fun h9 => ?_) (fun h9 => ?_)
    · refine Rk (z0v q q (dt h9)) <| Rk (z0v q q (dt h9)) <| Rk (z0v q q (dt h9)) <| Rk (z0v q q (dt h9)) <| Rk (z0v q q (dt h9)) <| Rk (z0v q q (dt h9)) <| Rk (z0v q q (dt h9)) <| Rk (z0v q q (dt h9)) <| Rk (z0v q q (dt h9)) <| z0k (z00 true) q (dt h9) q q ?_
      exact z1y (by kernel_rfl) <| z1d q q <| Jq q <| Ra (z00 false) q q <| R0 <| z0x <| Jt hΨ (z18 q) q q
    refine z0f ((cL 1 z01) t1.Nodes) z29 q q (g_f q q (df h9)) <| z11 (AL 1 z01 t1.Nodes) z1s q q (g_f q q (df h9)) <| Rm (I_ x1) q (g_f q q (df h9)) <| z2k (cc := z01) z1w q q h8.1 h8.2 (g_f q q (df h9)) <| z11 (I_ (nth t1.Nodes x1)) z1t q q (g_f q q (df h9)) <| z0f ((cL 4 z03) t0.Nodes) z2i q q (g_f q q (df h9)) <| z11 (AL 4 z03 t0.Nodes) z4z q q (g_f q q (df h9)) <| z1a (cc := z03) z9h q (g_f q q (df h9)) <| z3c q q (g_f q q (df h9)) <| z0h (z00 (decide ((t0.Nodes.length : Int) ≤ (nth t1.Nodes x1)))) q (df h9) q q ?_
    refine z1y (by kernel_rfl) <| z09 q (fun h10 => ?_) (fun h10 => ?_)
    · exact Jq q <| Ra (z00 false) q q <| R0 <| z0x <| Jt hΨ (z18 q) q q
    exact z0e <| z0s <| z0o 10 (m := (t1.Nodes.length : Int)) q fun q11 => z0o 5 (m := x1) q fun q12 => Jr q <| Rm (I_ x1) q q <| z1l (x1 + 1) q q (z0z (by omega) (by omega)) q <| Ra (I_ (x1 + 1)) q q <| R0 <| z41 <| Jk (hE2 (x1 + 1)) (.c3 q q q .nil)
  refine z1j q <| z7w <| Js <| Jq q <| Ra (I_ 0) q q <| R0 <| z0n <| Jl (fun x13 => [(2, z1r (z02 t0)), (3, z1r (z07 t1)), (5, I_ x1), (6, I_ x13), (7, I_ x1), (10, I_ (t1.Nodes.length : Int))]) (.c6 q q q q q q .nil) (fun E14 hE14 x13 => ?_)
  refine Js <| Jq q <| Rm (I_ x13) q q <| z0f ((cL 3 z0b) t1.Edges) z2r q q q <| z11 (AL 3 z0b t1.Edges) z5o q q q <| z1a (cc := z0b) il_27 q q <| z1o q q q <| R0 <| z09 q (fun h19 => ?_) (fun h19 => ?_)
  rotate_left
  · exact z1j q <| z0x <| Jq q <| Ra (z00 true) q q <| Rt hΨ q q q
  refine z0e <| Js <| z0n <| Js <| z2g <| z0f ((cL 3 z0b) t1.Edges) z2r q q q <| z11 (AL 3 z0b t1.Edges) z5o q q q <| Rm (I_ x13) q q <| z1b (fun h20 => ?_) (fun _ => z0u)
  refine z2k (cc := z0b) el_27 q q h20.1 h20.2 q <| z0f (z01 ((nth t1.Edges x13).Type_)) z77 q q q <| z11 (I_ ((nth t1.Edges x13).Type_)) z1t q q q <| z1o q q q <| Rm (z00 (decide ((nth t1.Edges x13).Type_ < 0))) q q <| z1b (fun h21 => ?_) (fun h21 => ?_)
  · refine Rk (z0v q q (dt h21)) <| Rk (z0v q q (dt h21)) <| Rk (z0v q q (dt h21)) <| Rk (z0v q q (dt h21)) <| Rk (z0v q q (dt h21)) <| Rk (z0v q q (dt h21)) <| Rk (z0v q q (dt h21)) <| Rk (z0v q q (dt h21)) <| Rk (z0v q q (dt h21)) <| Rk (z0v q q (dt h21)) ?_
    exact z0k (z00 true) q (dt h21) q q <| z1y (by kernel_rfl) <| z1d q q <| Jq q <| Ra (z00 false) q q <| R0 <| z0x <| Jt hΨ (z18 q) q q
  refine z0f ((cL 3 z0b) t1.Edges) z2r q q (g_f q q (df h21)) <| z11 (AL 3 z0b t1.Edges) z5o q q (g_f q q (df h21)) <| Rm (I_ x13) q (g_f q q (df h21)) <| z2k (cc := z0b) el_27 q q h20.1 h20.2 (g_f q q (df h21)) <| z0f (z01 ((nth t1.Edges x13).Type_)) z77 q q (g_f q q (df h21)) <| z11 (I_ ((nth t1.Edges x13).Type_)) z1t q q (g_f q q (df h21)) <| z0f ((cL 7 z0c) t0.Edges) z3w q q (g_f q q (df h21)) <| z11 (AL 7 z0c t0.Edges) sc_23 q q (g_f q q (df h21)) <| z1a (cc := z0c) il_23 q (g_f q q (df h21)) <| z3c q q (g_f q q (df h21)) ?_
  refine z0h (z00 (decide ((t0.Edges.length : Int) ≤ (nth t1.Edges x13).Type_))) q (df h21) q q <| z1y (by kernel_rfl) <| z09 q (fun h22 => ?_) (fun h22 => ?_)
  · exact Jq q <| Ra (z00 false) q q <| R0 <| z0x <| Jt hΨ (z18 q) q q
  exact z0e <| z0s <| z0o 34 (m := (t1.Edges.length : Int)) q fun q23 => z0o 6 (m := x13) q fun q24 => Jr q <| Rm (I_ x13) q q <| z1l (x13 + 1) q q (z0z (by omega) (by omega)) q <| Ra (I_ (x13 + 1)) q q <| R0 <| z41 <| Jk (hE14 (x13 + 1)) (.c6 q q q q q q .nil)
theorem k_ref04_given (t0 : z06) (t1 : Int) (t2 : Int) (r : Int) (hr : ref04_given t0 t1 t2 = some r) : FnP PP 142 [z0w (z02 t0), I_ t1, I_ t2] (I_ r) := by
  refine Fo (fun (r : Int) => I_ r) Tryz.func142 q (n := 33) q q hr fun X hΨ => ?_
  refine Jq q <| z17 (z0w (z02 t0)) q q <| Ra (I_ 0) q q <| R0 <| Js <| Jq q <| z14 (z02 t0) z2j q q q q <| z0d fun b1 h2 => ?_
  refine z0j _ fn_33 (zaa _ _ h2) q q <| Rm (z35 [z1h b1.1, I_ b1.2]) q q <| z20 (z1h b1.1) q q q <| z20 (I_ b1.2) q q q <| Ra (z1h b1.1) q q <| Ra (I_ b1.2) q q <| R0 <| Jq q <| Rm (I_ b1.2) q q ?_
  refine z2a q q q <| R0 <| z09 q (fun h3 => ?_) (fun h3 => ?_)
  · exact Jq q <| Rm (I_ b1.2) q q <| Ra (I_ b1.2) q q <| Rt hΨ q q q
  refine z0e <| Js <| Jq q <| Rm (I_ t1) q q <| z0f ((cL 4 z03) t0.Nodes) z2i q q q <| z11 (AL 4 z03 t0.Nodes) z4z q q q <| z1a (cc := z03) z9h q q <| z0d fun b4 h5 => z7z b4 q q (Option.some.inj h5) q ?_
  refine z0d fun b6 h7 => z0j _ fn_108 (z6l _ _ _ _ h7) q q <| z2x q q <| Rm (z00 (!b6)) q q <| z1b (fun h8 => ?_) (fun h8 => ?_)
  · refine Rk (z0v q q h8) <| Rk (z0v q q h8) <| Rk (z0v q q h8) <| Rk (z0v q q h8) <| Rk (z0v q q h8) <| Rk (z0v q q h8) <| Rk (z0v q q h8) <| z0k (z00 true) q h8 q q <| R0 <| z1d q q ?_
    exact Jq q <| Ra (I_ 6) q q <| Rt hΨ q q q
  refine Rm (I_ t2) q (g_f q q (bf h8)) <| z0f ((cL 4 z03) t0.Nodes) z2i q q (g_f q q (bf h8)) <| z11 (AL 4 z03 t0.Nodes) z4z q q (g_f q q (bf h8)) <| z1a (cc := z03) z9h q (g_f q q (bf h8)) <| z0d fun b9 h10 => z7z b9 q q (Option.some.inj h10) (g_f q q (bf h8)) <| z0d fun b11 h12 => z0j _ fn_108 (z6l _ _ _ _ h12) q (g_f q q (bf h8)) <| z2x q (g_f q q (bf h8)) <| z0h (z00 (!b11)) q (bf h8) q q ?_
  refine R0 <| z1v q (fun h13 => ?_) (fun h13 => ?_)
  · exact Jq q <| Ra (I_ 6) q q <| Rt hΨ q q q
  exact z0e <| Jq q <| Ra (I_ 0) q q <| Rt hΨ q q q
theorem k_ref04_Attrs (t0 : z06) (t1 : Int) (r : (List z0r) × Int) (hr : ref04_Attrs t0 t1 = some r) : FnP PP 163 [z0w (z02 t0), I_ t1] (z35 [AL 4 z08 r.1, I_ r.2]) := by
  refine Fo (fun (r : (List z0r) × Int) => z35 [AL 4 z08 r.1, I_ r.2]) Tryz.func163 q (n := 41) q q hr fun X hΨ => ?_
  refine Jq q <| z17 (z0w (z02 t0)) q q <| Ra (z1m) q q <| Ra (I_ 0) q q <| R0 <| Js <| Jq q <| z14 (z02 t0) z2j q q q q ?_
  refine Rm (I_ t1) q q <| Rm (I_ t1) q q <| z0d fun b1 h2 => z0j _ fn_142 (k_ref04_given _ _ _ _ h2) q q <| Ra (I_ b1) q q <| R0 <| Jq q <| Rm (I_ b1) q q <| z2a q q q ?_
  refine R0 <| z09 q (fun h3 => ?_) (fun h3 => ?_)
  · exact Jq q <| Rm (I_ b1) q q <| Ra (z1m) q q <| Ra (I_ b1) q q <| R0 <| z3g hΨ (z16 (As := [z1m, I_ b1]) q q (.cons (.tmp (A := z1m) q) (.cons (.tmp (A := I_ b1) q) .nil))) (fun y hy => by cases hy; exact (.tup (.cons .nil (.cons .same .nil))))
  refine z0e <| Jq q <| Ra (z1m) q q <| R0 <| Jq q <| z14 (z02 t0) z2j q q q q <| Rm (I_ t1) q q <| z0d fun b4 h5 => ?_
  refine z0j _ fn_109 (k_ref04_attrs _ _ _ h5) q q <| Ra (AL 4 z08 b4) q q <| R0 <| Js <| Jq q <| Ra (I_ 0) q q <| R0 <| z0n <| Jn (fun x6 => ⟨fr [(5, I_ 0), (6, I_ b1), (7, z0i 0), (8, AL 4 z08 b4), (9, I_ x6.2), (14, I_ b1), (15, I_ b1)], hp [(0, .row 100 4 (x6.1.map z08))], 1⟩) [] [] [0] q (.s2 q q (.cons (A := z1m) q (.nilobj q q) (.same q (.s3 q q q .nil)))) (.new q q .nil) q q (fun E7 hE7 x6 => ?_)
  refine Js <| Jq q <| Rm (I_ x6.2) q q <| Rm (AL 4 z08 b4) q q <| z1a (cc := z08) il_95 q q <| z1o q q q <| R0 <| z09 q (fun h11 => ?_) (fun h11 => ?_)
  rotate_left
  · exact z1j q <| z0x <| Jq q <| Rm (z0i 0) q q <| Ra (z0i 0) q q <| Ra (I_ 0) q q <| R0 <| z3g hΨ (z16 (As := [z0i 0, I_ 0]) q q (.cons (.tmp (A := z0i 0) q) (.cons (.tmp (A := I_ 0) q) .nil))) (fun y hy => by cases hy; exact (.tup (.cons (.frow q q (NKC.flat _ _)) (.cons .same .nil))))
  refine z0e <| Js <| z0n <| Jq q <| Rm (AL 4 z08 b4) q q <| Rm (I_ x6.2) q q <| z1b (fun h12 => ?_) (fun _ => z0u)
  refine z2k (cc := z08) el_95 q q h12.1 h12.2 q <| z14 (z08 (nth b4 x6.2)) ag_100 q q q q <| z1x 1 _ z_100 q q <| z2p (z0i 1) (z0w (z08 (nth b4 x6.2))) (z08 (nth b4 x6.2)) sz_100 q .obj q q q q q q <| R0 <| Jq q <| r_bs0 2 el_98 q q <| z24 (z0i 1) 3 z7t q .obj q q q <| z2b (z1f 1 3) (AL 1 z23 ((nth b4 x6.2).Names)) sc_98 q .at q q q ?_
  refine z1b (fun h13 => ?_) (fun _ => z0u)
  refine r_app0 (cc := z23) (ys := (nth b4 x6.2).Names) 3 ap_98 q q q h13 q q q <| z24 (z0i 1) 3 z7t q .obj q q q <| z2p (z1f 1 3) (z0i 3) [z1h ((nth b4 x6.2).Name), I_ ((nth b4 x6.2).Low), I_ ((nth b4 x6.2).High), z0i 3] sz_98 q .at q q q q q q <| R0 <| J_cv [1, 3] [] [] 1 [(5, I_ 0), (6, I_ b1), (7, z0i 0), (8, AL 4 z08 b4), (9, I_ x6.2), (10, z1r (z08 (z0r.mk ((nth b4 x6.2).Name) ((nth b4 x6.2).Low) ((nth b4 x6.2).High) ((nth b4 x6.2).Names)))), (14, I_ b1), (15, I_ b1), (21, I_ x6.2), (23, I_ (b4.length : Int)), (28, I_ x6.2)] [(0, .row 100 4 (x6.1.map z08))] (.same q (.same q (.cons (A := z0i 0) q (.obj q q q) (.same q (.same q (.cons (A := z0i 1) q (.fbox q q (.cons .same (.cons .same (.cons .same (.cons (.frow q q (NKC.flat _ _)) .nil))))) (.same q (.same q (.same q (.same q (.same q .nil))))))))))) (.cons q q q q (.row (NKC.flat _ _)) q q .nil) q q <| Jr q <| Rm (z0i 0) q q <| z14 (z08 (z0r.mk ((nth b4 x6.2).Name) ((nth b4 x6.2).Low) ((nth b4 x6.2).High) ((nth b4 x6.2).Names))) ag_100 q q q q <| r_bs (cc := z08) [(z0r.mk ((nth b4 x6.2).Name) ((nth b4 x6.2).Low) ((nth b4 x6.2).High) ((nth b4 x6.2).Names))] el_95 zr_100_1 (.cons (A := z0w (z08 (z0r.mk ((nth b4 x6.2).Name) ((nth b4 x6.2).Low) ((nth b4 x6.2).High) ((nth b4 x6.2).Names)))) q q q .nil) q q q <| z1b (fun h14 => ?_) (fun _ => z0u)
  refine r_app (cc := z08) (xs := x6.1) (ys := [(z0r.mk ((nth b4 x6.2).Name) ((nth b4 x6.2).Low) ((nth b4 x6.2).High) ((nth b4 x6.2).Names))]) 1 ap_95 q q q h14 q q q <| Ra (z0i 1) q q <| R0 <| z0s <| z0o 23 (m := (b4.length : Int)) q fun q15 => z0o 9 (m := x6.2) q fun q16 => Jr q <| Rm (I_ x6.2) q q <| z1l (x6.2 + 1) q q (z0z (by omega) (by omega)) q <| Ra (I_ (x6.2 + 1)) q q ?_
  exact R0 <| z41 <| Jc [] [(0, 1)] [] (hE7 ((x6.1 ++ [(z0r.mk ((nth b4 x6.2).Name) ((nth b4 x6.2).Low) ((nth b4 x6.2).High) ((nth b4 x6.2).Names))]), x6.2 + 1)) (.s2 q q (.cons (A := z0i 1) q (.obj q q q) (.same q (.s3 q q q .nil)))) (.cons q q q q (.row (NKC.flat _ _)) q q .nil) q q
theorem k_ref21_attr (t0 : z06) (t1 : z0q) (t2 : Int) (t3 : Int) (r : z0r × Bool) (hr : ref21_attr t0 t1 t2 t3 = some r) : FnP PP 114 [z0w (z02 t0), z0w (z0a t1), I_ t2, I_ t3] (z35 [z0w (z08 r.1), z00 r.2]) := by
  refine Fo (fun (r : z0r × Bool) => z35 [z0w (z08 r.1), z00 r.2]) Tryz.func114 q (n := 51) q q hr fun X hΨ => ?_
  refine Jq q <| z17 (z0w (z02 t0)) q q <| z17 (z0w (z0a t1)) q q <| z1x 0 _ z_100 q q <| Ra (z00 false) q q <| R0 <| Js <| Jq q ?_
  refine Rm (I_ t2) q q <| z1o q q q <| Rm (z00 (decide (t2 < 0))) q q <| z1b (fun h1 => ?_) (fun h1 => ?_)
  · refine Rk (z0v q q (dt h1)) <| Rk (z0v q q (dt h1)) <| Rk (z0v q q (dt h1)) <| Rk (z0v q q (dt h1)) <| Rk (z0v q q (dt h1)) <| Rk (z0v q q (dt h1)) <| z0k (z00 true) q (dt h1) q q <| R0 <| z1d q q <| Js ?_
    exact Jr q <| z4p (Cs := [z1h (ByteArray.mk #[]), I_ 0, I_ 0, z1m]) (z08 (z0r.mk (ByteArray.mk #[]) 0 0 [])) pl_100 z_100 .nil q (.same (.same (.same (.nl .nil)))) q <| z2p (z0i 0) (z0w (z08 (z0r.mk (ByteArray.mk #[]) 0 0 []))) (z08 (z0r.mk (ByteArray.mk #[]) 0 0 [])) sz_100 q .obj q q q q q q <| Ra (z00 false) q q <| R0 <| Jt hΨ (z16 (As := [z0w (z08 (z0r.mk (ByteArray.mk #[]) 0 0 [])), z00 false]) q q (.cons (.boxA (cs := (z08 (z0r.mk (ByteArray.mk #[]) 0 0 []))) ag_100 q q q) (.cons (.tmp (A := z00 false) q) .nil))) q q
  refine Rm (I_ t2) q (g_f q q (df h1)) <| z0f (z07 t1.Graph) z27 q q (g_f q q (df h1)) <| z0f ((cL 1 z01) t1.Graph.Nodes) z29 q q (g_f q q (df h1)) <| z11 (AL 1 z01 t1.Graph.Nodes) z1s q q (g_f q q (df h1)) <| z1a (cc := z01) z2m q (g_f q q (df h1)) <| z3c q q (g_f q q (df h1)) <| z0h (z00 (decide ((t1.Graph.Nodes.length : Int) ≤ t2))) q (df h1) q q <| R0 <| z09 q (fun h2 => ?_) (fun h2 => ?_)
  · exact Jq q <| z4p (Cs := [z1h (ByteArray.mk #[]), I_ 0, I_ 0, z1m]) (z08 (z0r.mk (ByteArray.mk #[]) 0 0 [])) pl_100 z_100 .nil q (.same (.same (.same (.nl .nil)))) q <| z2p (z0i 0) (z0w (z08 (z0r.mk (ByteArray.mk #[]) 0 0 []))) (z08 (z0r.mk (ByteArray.mk #[]) 0 0 [])) sz_100 q .obj q q q q q q <| Ra (z00 false) q q <| R0 <| Jt hΨ (z16 (As := [z0w (z08 (z0r.mk (ByteArray.mk #[]) 0 0 [])), z00 false]) q q (.cons (.boxA (cs := (z08 (z0r.mk (ByteArray.mk #[]) 0 0 []))) ag_100 q q q) (.cons (.tmp (A := z00 false) q) .nil))) q q
  refine z0e <| Js <| z2g <| z14 (z02 t0) z2j q q q q <| z0f (z07 t1.Graph) z27 q q q <| z0f ((cL 1 z01) t1.Graph.Nodes) z29 q q q <| z11 (AL 1 z01 t1.Graph.Nodes) z1s q q q <| Rm (I_ t2) q q <| z1b (fun h3 => ?_) (fun _ => z0u)
  refine z2k (cc := z01) z1w q q h3.1 h3.2 q <| z11 (I_ (nth t1.Graph.Nodes t2)) z1t q q q <| z0d fun b4 h5 => z0j _ fn_163 (k_ref04_Attrs _ _ _ h5) q q <| Rm (z35 [AL 4 z08 b4.1, I_ b4.2]) q q <| z20 (AL 4 z08 b4.1) q q q <| z20 (I_ b4.2) q q q <| Ra (AL 4 z08 b4.1) q q <| Ra (I_ b4.2) q q <| z1y (by kernel_rfl) ?_
  refine Js <| Jq q <| Rm (I_ b4.2) q q <| z2a q q q <| Rm (z00 (decide (¬ (b4.2 = 0)))) q q <| z1b (fun h6 => ?_) (fun h6 => ?_)
  · refine Rk (z0v q q (dt h6)) <| Rk (z0v q q (dt h6)) <| z0k (z00 true) q (dt h6) q q <| Rm (z00 true) q q <| Rk (z0v q q q) <| Rk (z0v q q q) <| Rk (z0v q q q) <| Rk (z0v q q q) <| z0k (z00 true) q q q q <| R0 ?_
    exact z1d q q <| Jq q <| z4p (Cs := [z1h (ByteArray.mk #[]), I_ 0, I_ 0, z1m]) (z08 (z0r.mk (ByteArray.mk #[]) 0 0 [])) pl_100 z_100 .nil q (.same (.same (.same (.nl .nil)))) q <| z2p (z0i 0) (z0w (z08 (z0r.mk (ByteArray.mk #[]) 0 0 []))) (z08 (z0r.mk (ByteArray.mk #[]) 0 0 [])) sz_100 q .obj q q q q q q <| Ra (z00 false) q q <| R0 <| Jt hΨ (z16 (As := [z0w (z08 (z0r.mk (ByteArray.mk #[]) 0 0 [])), z00 false]) q q (.cons (.boxA (cs := (z08 (z0r.mk (ByteArray.mk #[]) 0 0 []))) ag_100 q q q) (.cons (.tmp (A := z00 false) q) .nil))) q q
  refine Rm (I_ t3) q (g_f q q (df h6)) <| z1o q q (g_f q q (df h6)) <| z0h (z00 (decide (t3 < 0))) q (df h6) q q <| Rm (z00 (decide (t3 < 0))) q q <| z1b (fun h7 => ?_) (fun h7 => ?_)
  · refine Rk (z0v q q (dt h7)) <| Rk (z0v q q (dt h7)) <| Rk (z0v q q (dt h7)) <| Rk (z0v q q (dt h7)) <| z0k (z00 true) q (dt h7) q q <| R0 <| z1d q q <| Jq q <| z4p (Cs := [z1h (ByteArray.mk #[]), I_ 0, I_ 0, z1m]) (z08 (z0r.mk (ByteArray.mk #[]) 0 0 [])) pl_100 z_100 .nil q (.same (.same (.same (.nl .nil)))) q ?_
    exact z2p (z0i 0) (z0w (z08 (z0r.mk (ByteArray.mk #[]) 0 0 []))) (z08 (z0r.mk (ByteArray.mk #[]) 0 0 [])) sz_100 q .obj q q q q q q <| Ra (z00 false) q q <| R0 <| Jt hΨ (z16 (As := [z0w (z08 (z0r.mk (ByteArray.mk #[]) 0 0 [])), z00 false]) q q (.cons (.boxA (cs := (z08 (z0r.mk (ByteArray.mk #[]) 0 0 []))) ag_100 q q q) (.cons (.tmp (A := z00 false) q) .nil))) q q
  refine Rm (I_ t3) q (g_f q q (df h7)) <| Rm (AL 4 z08 b4.1) q (g_f q q (df h7)) <| z1a (cc := z08) il_95 q (g_f q q (df h7)) <| z3c q q (g_f q q (df h7)) <| z0h (z00 (decide ((b4.1.length : Int) ≤ t3))) q (df h7) q q <| R0 <| z09 q (fun h8 => ?_) (fun h8 => ?_)
  · exact Jq q <| z4p (Cs := [z1h (ByteArray.mk #[]), I_ 0, I_ 0, z1m]) (z08 (z0r.mk (ByteArray.mk #[]) 0 0 [])) pl_100 z_100 .nil q (.same (.same (.same (.nl .nil)))) q <| z2p (z0i 0) (z0w (z08 (z0r.mk (ByteArray.mk #[]) 0 0 []))) (z08 (z0r.mk (ByteArray.mk #[]) 0 0 [])) sz_100 q .obj q q q q q q <| Ra (z00 false) q q <| R0 <| Jt hΨ (z16 (As := [z0w (z08 (z0r.mk (ByteArray.mk #[]) 0 0 [])), z00 false]) q q (.cons (.boxA (cs := (z08 (z0r.mk (ByteArray.mk #[]) 0 0 []))) ag_100 q q q) (.cons (.tmp (A := z00 false) q) .nil))) q q
  refine z0e <| Jq q <| Rm (AL 4 z08 b4.1) q q <| Rm (I_ t3) q q <| z1b (fun h9 => ?_) (fun _ => z0u)
  exact z2k (cc := z08) el_95 q q h9.1 h9.2 q <| z14 (z08 (nth b4.1 t3)) ag_100 q q q q <| z2p (z0i 0) (z0w (z08 (nth b4.1 t3))) (z08 (nth b4.1 t3)) sz_100 q .obj q q q q q q <| Ra (z00 true) q q <| R0 <| Jt hΨ (z16 (As := [z0w (z08 (nth b4.1 t3)), z00 true]) q q (.cons (.boxA (cs := (z08 (nth b4.1 t3))) ag_100 q q q) (.cons (.tmp (A := z00 true) q) .nil))) q q
theorem k_ref21_bounded (t0 : Int) (r : Bool) (hr : ref21_bounded t0 = some r) : FnP PP 115 [I_ t0] (z00 r) := by
  refine Fo (fun (r : Bool) => z00 r) Tryz.func115 q (n := 9) q q hr fun X hΨ => ?_
  refine Jq q <| Ra (z00 false) q q <| R0 <| Jq q <| Rm (I_ t0) q q <| z3c q q q <| Rm (z00 (decide ((-1000000) ≤ t0))) q q <| z1b (fun h1 => ?_) (fun h1 => ?_)
  · exact Rm (I_ t0) q (g_t q q (dt h1)) <| z8c q q (g_t q q (dt h1)) <| z0k (z00 (decide (t0 ≤ 1000000))) q (dt h1) q q <| Ra (z00 (decide (t0 ≤ 1000000))) q q <| Rt hΨ q q q
  exact Rk (z0y q q (df h1)) <| Rk (z0y q q (df h1)) <| z0h (z00 false) q (df h1) q q <| Ra (z00 false) q q <| Rt hΨ q q q
theorem k_ref03_within (t0 : Int) (t1 : z4i) (r : Int) (hr : ref03_within t0 t1 = some r) : FnP PP 206 [I_ t0, z0w (z2s t1)] (I_ r) := by
  refine Fo (fun (r : Int) => I_ r) Tryz.func206 q (n := 24) q q hr fun X hΨ => ?_
  refine Jq q <| z17 (z0w (z2s t1)) q q <| Ra (I_ 0) q q <| R0 <| Js <| Jq q <| z0f (z01 t1.Var) z5l q q q <| z11 (I_ t1.Var) z1t q q q ?_
  refine z1o q q q <| Rm (z00 (decide (t1.Var < (-1)))) q q <| z1b (fun h1 => ?_) (fun h1 => ?_)
  · refine Rk (z0v q q (dt h1)) <| Rk (z0v q q (dt h1)) <| Rk (z0v q q (dt h1)) <| Rk (z0v q q (dt h1)) <| z0k (z00 true) q (dt h1) q q <| Rm (z00 true) q q <| Rk (z0v q q q) <| Rk (z0v q q q) <| Rk (z0v q q q) <| z0k (z00 true) q q q q ?_
    refine Rm (z00 true) q q <| Rk (z0v q q q) <| Rk (z0v q q q) <| Rk (z0v q q q) <| z0k (z00 true) q q q q <| R0 <| z1d q q <| Jq q <| Ra (I_ 6) q q ?_
    exact Rt hΨ q q q
  refine z0f (z01 t1.Var) z5l q q (g_f q q (df h1)) <| z11 (I_ t1.Var) z1t q q (g_f q q (df h1)) <| Rm (I_ t0) q (g_f q q (df h1)) <| z3c q q (g_f q q (df h1)) <| z0h (z00 (decide (t0 ≤ t1.Var))) q (df h1) q q <| Rm (z00 (decide (t0 ≤ t1.Var))) q q <| z1b (fun h2 => ?_) (fun h2 => ?_)
  · refine Rk (z0v q q (dt h2)) <| Rk (z0v q q (dt h2)) <| Rk (z0v q q (dt h2)) <| z0k (z00 true) q (dt h2) q q <| Rm (z00 true) q q <| Rk (z0v q q q) <| Rk (z0v q q q) <| Rk (z0v q q q) <| z0k (z00 true) q q q q <| R0 ?_
    exact z1d q q <| Jq q <| Ra (I_ 6) q q <| Rt hΨ q q q
  refine z0f (z01 t1.Add) fo_154_1 q q (g_f q q (df h2)) <| z11 (I_ t1.Add) z1t q q (g_f q q (df h2)) <| z1o q q (g_f q q (df h2)) <| z0h (z00 (decide (t1.Add < (-1000000)))) q (df h2) q q <| Rm (z00 (decide (t1.Add < (-1000000)))) q q <| z1b (fun h3 => ?_) (fun h3 => ?_)
  · refine Rk (z0v q q (dt h3)) <| Rk (z0v q q (dt h3)) <| Rk (z0v q q (dt h3)) <| z0k (z00 true) q (dt h3) q q <| R0 <| z1d q q <| Jq q <| Ra (I_ 6) q q <| R0 ?_
    exact Jt hΨ (z18 q) q q
  refine z0f (z01 t1.Add) fo_154_1 q q (g_f q q (df h3)) <| z11 (I_ t1.Add) z1t q q (g_f q q (df h3)) <| z3a q q (g_f q q (df h3)) <| z0h (z00 (decide (1000000 < t1.Add))) q (df h3) q q <| R0 <| z09 q (fun h4 => ?_) (fun h4 => ?_)
  · exact Jq q <| Ra (I_ 6) q q <| Rt hΨ q q q
  exact z0e <| Jq q <| Ra (I_ 0) q q <| Rt hΨ q q q
theorem k_ref03_One (t0 : Int) (t1 : z3x) (r : Int) (hr : ref03_One t0 t1 = some r) : FnP PP 164 [I_ t0, z0w (z13 t1)] (I_ r) := by
  refine Fo (fun (r : Int) => I_ r) Tryz.func164 q (n := 25) q q hr fun X hΨ => ?_
  refine Jq q <| z17 (z0w (z13 t1)) q q <| Ra (I_ 0) q q <| R0 <| Js <| Js ?_
  apply z2w (fun v8 => ⟨fr [(0, I_ t0), (3, z1r (z13 t1)), (7, I_ t1.Kind)], fun _ => none, 0⟩) (fun v8 => ref03_One_j8 t0 t1 v8)
  · intro K14
    refine Jr q <| z0f (z01 t1.Kind) fo_200_0 q q q <| z11 (I_ t1.Kind) z1t q q q <| z2a q q q <| Rm (z00 (decide (¬ (t1.Kind = 1)))) q q <| z1b (fun h1 => ?_) (fun h1 => ?_)
    rotate_left
    · exact Rk (z0y q q (df h1)) <| Rk (z0y q q (df h1)) <| Rk (z0y q q (df h1)) <| z0h (z00 false) q (df h1) q q <| R0 <| J_cond_F q q <| Jk (K14 ()) (.c3 q q q .nil)
    refine z0f (z01 t1.Kind) fo_200_0 q q (g_t q q (dt h1)) <| z11 (I_ t1.Kind) z1t q q (g_t q q (dt h1)) <| z2a q q (g_t q q (dt h1)) <| z0k (z00 (decide (¬ (t1.Kind = 2)))) q (dt h1) q q <| R0 <| z09 q (fun h2 => ?_) (fun h2 => ?_)
    rotate_left
    · exact Jk (K14 ()) (.c3 q q q .nil)
    exact Jq q <| Ra (I_ 1) q q <| Rt hΨ q q q
  intro v8
  refine z0e <| Js <| Jq q <| Rm (I_ t0) q q <| z0f (z2s t1.Left) fo_200_1 q q q <| z14 (z2s t1.Left) ag_154 q q q q <| z0d fun b9 h10 => z0j _ fn_206 (k_ref03_within _ _ _ h10) q q <| Ra (I_ b9) q q ?_
  refine R0 <| Jq q <| Rm (I_ b9) q q <| z2a q q q <| R0 <| z09 q (fun h11 => ?_) (fun h11 => ?_)
  · exact Jq q <| Rm (I_ b9) q q <| Ra (I_ b9) q q <| Rt hΨ q q q
  refine z0e <| Jq q <| Rm (I_ t0) q q <| z0f (z2s t1.Right) fo_200_2 q q q <| z14 (z2s t1.Right) ag_154 q q q q <| z0d fun b12 h13 => z0j _ fn_206 (k_ref03_within _ _ _ h13) q q <| Ra (I_ b12) q q <| R0 ?_
  exact Jt hΨ (z18 q) q q
theorem k_ref03_Valid (t0 : Int) (t1 : (List z3x)) (r : Int) (hr : ref03_Valid t0 t1 = some r) : FnP PP 116 [I_ t0, AL 5 z13 t1] (I_ r) := by
  refine Fo (fun (r : Int) => I_ r) Tryz.func116 q (n := 31) q q hr fun X hΨ => ?_
  refine Jq q <| Ra (I_ 0) q q <| R0 <| Js <| Jq q <| Rm (I_ t0) q q <| z1o q q q <| Rm (z00 (decide (t0 < 0))) q q ?_
  refine z1b (fun h1 => ?_) (fun h1 => ?_)
  · exact Rk (z0v q q (dt h1)) <| Rk (z0v q q (dt h1)) <| z0k (z00 true) q (dt h1) q q <| R0 <| z1d q q <| Jq q <| Ra (I_ 6) q q <| Rt hΨ q q q
  refine Rm (I_ t0) q (g_f q q (df h1)) <| z3a q q (g_f q q (df h1)) <| z0h (z00 (decide (12 < t0))) q (df h1) q q <| R0 <| z09 q (fun h2 => ?_) (fun h2 => ?_)
  · exact Jq q <| Ra (I_ 6) q q <| Rt hΨ q q q
  refine z0e <| Js <| Jq q <| Rm (AL 5 z13 t1) q q <| z1a (cc := z13) il_31 q q <| z3a q q q <| R0 <| z09 q (fun h3 => ?_) (fun h3 => ?_)
  · exact Jq q <| Ra (I_ 3) q q <| Rt hΨ q q q
  refine z0e <| Js <| Jq q <| Ra (I_ 0) q q <| R0 <| z0n <| Jl (fun x4 => [(0, I_ t0), (1, AL 5 z13 t1), (4, I_ 0), (5, I_ x4), (7, I_ t0), (10, I_ t0), (14, I_ (t1.length : Int))]) (.cons q (.c6 q q q q q q .nil)) (fun E5 hE5 x4 => ?_)
  refine Js <| Jq q <| Rm (I_ x4) q q <| Rm (AL 5 z13 t1) q q <| z1a (cc := z13) il_31 q q <| z1o q q q <| R0 <| z09 q (fun h11 => ?_) (fun h11 => ?_)
  rotate_left
  · exact z1j q <| z0x <| Jq q <| Ra (I_ 0) q q <| Rt hΨ q q q
  refine z0e <| Js <| z0n <| Jq q <| Rm (I_ t0) q q <| Rm (AL 5 z13 t1) q q <| Rm (I_ x4) q q <| z1b (fun h12 => ?_) (fun _ => z0u)
  refine z2k (cc := z13) el_31 q q h12.1 h12.2 q <| z14 (z13 (nth t1 x4)) ag_200 q q q q <| z0d fun b13 h14 => z0j _ fn_164 (k_ref03_One _ _ _ h14) q q <| Ra (I_ b13) q q <| R0 <| Jq q <| Rm (I_ b13) q q <| z2a q q q ?_
  refine R0 <| z09 q (fun h15 => ?_) (fun h15 => ?_)
  · exact Jq q <| Rm (I_ b13) q q <| Ra (I_ b13) q q <| R0 <| z0x <| Jt hΨ (z18 q) q q
  exact z0e <| z0s <| z0o 14 (m := (t1.length : Int)) q fun q16 => z0o 5 (m := x4) q fun q17 => Jr q <| Rm (I_ x4) q q <| z1l (x4 + 1) q q (z0z (by omega) (by omega)) q <| Ra (I_ (x4 + 1)) q q <| R0 <| z41 <| Jk (hE5 (x4 + 1)) (.cons q (.c6 q q q q q q .nil))
end Go.Proofs.YtngimdmkomkeoaaGreat.K
