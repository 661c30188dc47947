/- Each function computes what its plain form says. -/
import Derived.Test.YtngimdmkomkeoaaGreatPure
import Derived.Test.YtngimdmkomkeoaaGreatFacts
import Derived.Test.YtngimdmkomkeoaaGreatShelf
set_option linter.unusedVariables false
set_option linter.unusedSimpArgs false
namespace Go.Proofs.YtngimdmkomkeoaaGreat.K
open Go.RowKit Go.Proofs
set_option maxHeartbeats 4000000
set_option maxRecDepth 100000
theorem k_token_letter (t0 : Int) (r : Bool) (hr : z98 t0 = some r) : FnP PP 215 [z1z .u8 t0] (z00 r) := by
  refine Fo (fun (r : Bool) => z00 r) Tryz.func215 q (n := 17) q q hr fun X hΨ => ?_
  refine Jq q <| Ra (z00 false) q q <| R0 <| Jq q <| Rm (z1z .u8 t0) q q <| z3c q q q <| Rm (z00 (decide (97 ≤ t0))) q q <| z1b (fun h1 => ?_) (fun h1 => ?_)
  rotate_left
  · refine Rk (z0y q q (df h1)) <| Rk (z0y q q (df h1)) <| z0h (z00 false) q (df h1) q q <| Rm (z00 false) q q <| Rm (z1z .u8 t0) q (g_f q q q) <| z3c q q (g_f q q q) <| Rm (z00 (decide (65 ≤ t0))) q (g_f q q q) <| z1b (fun h4 => ?_) (fun h4 => ?_)
    · exact Rm (z1z .u8 t0) q (g_t q q (dt h4)) <| z8c q q (g_t q q (dt h4)) <| z0k (z00 (decide (t0 ≤ 90))) q (dt h4) q (g_f q q q) <| z0h (z00 (decide (t0 ≤ 90))) q q q q <| Ra (z00 (decide (t0 ≤ 90))) q q <| Rt hΨ q q q
    exact Rk (z0y q q (df h4)) <| Rk (z0y q q (df h4)) <| z0h (z00 false) q (df h4) q (g_f q q q) <| z0h (z00 false) q q q q <| Ra (z00 false) q q <| Rt hΨ q q q
  refine Rm (z1z .u8 t0) q (g_t q q (dt h1)) <| z8c q q (g_t q q (dt h1)) <| z0k (z00 (decide (t0 ≤ 122))) q (dt h1) q q <| Rm (z00 (decide (t0 ≤ 122))) q q <| z1b (fun h2 => ?_) (fun h2 => ?_)
  · exact Rk (z0v q q (dt h2)) <| Rk (z0v q q (dt h2)) <| Rk (z0v q q (dt h2)) <| Rk (g_u q q) <| Rk (g_u q q) <| Rk (z0v q q (dt h2)) <| z0k (z00 true) q (dt h2) q q <| Ra (z00 true) q q <| Rt hΨ q q q
  refine Rm (z1z .u8 t0) q (g_f q q (df h2)) <| z3c q q (g_f q q (df h2)) <| Rm (z00 (decide (65 ≤ t0))) q (g_f q q (df h2)) <| z1b (fun h3 => ?_) (fun h3 => ?_)
  · exact Rm (z1z .u8 t0) q (g_t q q (dt h3)) <| z8c q q (g_t q q (dt h3)) <| z0k (z00 (decide (t0 ≤ 90))) q (dt h3) q (g_f q q (df h2)) <| z0h (z00 (decide (t0 ≤ 90))) q (df h2) q q <| Ra (z00 (decide (t0 ≤ 90))) q q <| Rt hΨ q q q
  exact Rk (z0y q q (df h3)) <| Rk (z0y q q (df h3)) <| z0h (z00 false) q (df h3) q (g_f q q (df h2)) <| z0h (z00 false) q (df h2) q q <| Ra (z00 false) q q <| Rt hΨ q q q
theorem k_token_run (t0 : ByteArray) (t1 : (Int → Option Bool)) (r : Int) (hr : token_run t0 t1 = some r) : FnP PP 216 [z1h t0, AFn PP (fun x => [z1z .u8 x]) (fun y => z00 y) t1] (I_ r) := by
  refine Fo (fun (r : Int) => I_ r) Tryz.func216 q (n := 20) q q hr fun X hΨ => ?_
  refine Jq q <| Ra (I_ 0) q q <| R0 <| Jq q <| Ra (I_ 0) q q <| R0 <| Js <| z0n ?_
  refine Jl (fun x1 => [(0, z1h t0), (1, AFn PP (fun x => [z1z .u8 x]) (fun y => z00 y) t1), (5, I_ x1)]) (.c3 q q q .nil) (fun E2 hE2 x1 => ?_)
  refine Js <| Js ?_
  apply z2w (fun v17 => ⟨fr [(5, I_ x1), (6, I_ x1), (8, I_ (t0.size : Int))], fun _ => none, 0⟩) (fun v17 => z9p x1 v17)
  · intro K18
    refine Jr q <| Rm (I_ x1) q q <| Rm (z1h t0) q q <| r_lenS is_9 q q <| z1o q q q <| Rm (z00 (decide (x1 < (t0.size : Int)))) q q <| z1b (fun h10 => ?_) (fun h10 => ?_)
    rotate_left
    · exact Rk (z0y q q (df h10)) <| Rk (z0y q q (df h10)) <| Rk (z0y q q (df h10)) <| Rk (z0y q q (df h10)) <| Rk (z0y q q (df h10)) <| z0h (z00 false) q (df h10) q q <| R0 <| J_cond_F q q <| Jk (K18 ()) (.c3 q q q .nil)
    refine Rm (AFn PP (fun x => [z1z .u8 x]) (fun y => z00 y) t1) q (g_t q q (dt h10)) <| Rm (z1h t0) q (g_t q q (dt h10)) <| Rm (I_ x1) q (g_t q q (dt h10)) <| z1b (fun h11 => ?_) (fun _ => z0u)
    refine r_ixS ut_9 q q h11.1 h11.2 (g_t q q (dt h10)) <| z0d fun b12 h13 => za6 (ga := (fun x => [z1z .u8 x])) (rt := (fun y => z00 y)) (gg := t1) (u := z2c t0 x1) (w := b12) q q h13 (NK.nk) (g_t q q (dt h10)) <| z0k (z00 b12) q (dt h10) q q <| R0 <| z1v q (fun h14 => ?_) (fun h14 => ?_)
    rotate_left
    · exact Jk (K18 ()) (.c3 q q q .nil)
    refine z0e <| z0n <| z0o 8 (m := (t0.size : Int)) q fun q15 => z0o 5 (m := x1) q fun q16 => Jr q <| Rm (I_ x1) q q <| z1l (x1 + 1) q q (z0z (by omega) (by omega)) q <| Ra (I_ (x1 + 1)) q q <| R0 <| z0s ?_
    exact z41 <| Jk (hE2 (x1 + 1)) (.c3 q q q .nil)
  intro v17
  exact z1j q <| z0x <| Jq q <| Rm (I_ x1) q q <| Ra (I_ x1) q q <| Rt hΨ q q q
theorem k_token_digit (t0 : Int) (r : Bool) (hr : z8x t0 = some r) : FnP PP 218 [z1z .u8 t0] (z00 r) := by
  refine Fo (fun (r : Bool) => z00 r) Tryz.func218 q (n := 9) q q hr fun X hΨ => ?_
  refine Jq q <| Ra (z00 false) q q <| R0 <| Jq q <| Rm (z1z .u8 t0) q q <| z3c q q q <| Rm (z00 (decide (48 ≤ t0))) q q <| z1b (fun h1 => ?_) (fun h1 => ?_)
  · exact Rm (z1z .u8 t0) q (g_t q q (dt h1)) <| z8c q q (g_t q q (dt h1)) <| z0k (z00 (decide (t0 ≤ 57))) q (dt h1) q q <| Ra (z00 (decide (t0 ≤ 57))) q q <| Rt hΨ q q q
  exact Rk (z0y q q (df h1)) <| Rk (z0y q q (df h1)) <| z0h (z00 false) q (df h1) q q <| Ra (z00 false) q q <| Rt hΨ q q q
theorem k_token_part (t0 : Int) (r : Bool) (hr : token_part t0 = some r) : FnP PP 217 [z1z .u8 t0] (z00 r) := by
  refine Fo (fun (r : Bool) => z00 r) Tryz.func217 q (n := 13) q q hr fun X hΨ => ?_
  refine Jq q <| Ra (z00 false) q q <| R0 <| Jq q <| Rm (z1z .u8 t0) q q <| z0d fun b1 h2 => z0j _ fn_215 (k_token_letter _ _ h2) q q <| Rm (z00 b1) q q ?_
  refine z1b (fun h3 => ?_) (fun h3 => ?_)
  · exact Rk (z0v q q h3) <| Rk (z0v q q h3) <| z0k (z00 true) q h3 q q <| Rm (z00 true) q q <| Rk (z0v q q q) <| Rk (z0v q q q) <| z0k (z00 true) q q q q <| Ra (z00 true) q q <| Rt hΨ q q q
  refine Rm (z1z .u8 t0) q (g_f q q (bf h3)) <| z0d fun b4 h5 => z0j _ fn_218 (k_token_digit _ _ h5) q (g_f q q (bf h3)) <| z0h (z00 b4) q (bf h3) q q <| Rm (z00 b4) q q <| z1b (fun h6 => ?_) (fun h6 => ?_)
  · exact Rk (z0v q q h6) <| Rk (z0v q q h6) <| z0k (z00 true) q h6 q q <| Ra (z00 true) q q <| Rt hΨ q q q
  exact Rm (z1z .u8 t0) q (g_f q q (bf h6)) <| z2y q q (g_f q q (bf h6)) <| z0h (z00 (decide (t0 = 95))) q (bf h6) q q <| Ra (z00 (decide (t0 = 95))) q q <| Rt hΨ q q q
theorem k_token_quoted_1 (t0 : Int) (r : Bool) (hr : token_quoted_1 t0 = some r) : FnP PP 237 [z1z .u8 t0] (z00 r) := by
  refine Fo (fun (r : Bool) => z00 r) Tryz.func237 q (n := 13) q q hr fun X hΨ => ?_
  refine Jq q <| Ra (z00 false) q q <| R0 <| Jq q <| Rm (z1z .u8 t0) q q <| z3c q q q <| Rm (z00 (decide (32 ≤ t0))) q q <| z1b (fun h1 => ?_) (fun h1 => ?_)
  rotate_left
  · exact Rk (z0y q q (df h1)) <| Rk (z0y q q (df h1)) <| z0h (z00 false) q (df h1) q q <| Rm (z00 false) q q <| Rk (z0y q q q) <| Rk (z0y q q q) <| z0h (z00 false) q q q q <| Ra (z00 false) q q <| Rt hΨ q q q
  refine Rm (z1z .u8 t0) q (g_t q q (dt h1)) <| z8c q q (g_t q q (dt h1)) <| z0k (z00 (decide (t0 ≤ 126))) q (dt h1) q q <| Rm (z00 (decide (t0 ≤ 126))) q q <| z1b (fun h2 => ?_) (fun h2 => ?_)
  · exact Rm (z1z .u8 t0) q (g_t q q (dt h2)) <| z2a q q (g_t q q (dt h2)) <| z0k (z00 (decide (¬ (t0 = 34)))) q (dt h2) q q <| Ra (z00 (decide (¬ (t0 = 34)))) q q <| Rt hΨ q q q
  exact Rk (z0y q q (df h2)) <| Rk (z0y q q (df h2)) <| z0h (z00 false) q (df h2) q q <| Ra (z00 false) q q <| Rt hΨ q q q
theorem k_token_quoted (t0 : ByteArray) (r : Int × Int) (hr : token_quoted t0 = some r) : FnP PP 219 [z1h t0] (z35 [I_ r.1, I_ r.2]) := by
  refine Fo (fun (r : Int × Int) => z35 [I_ r.1, I_ r.2]) Tryz.func219 q (n := 24) q q hr fun X hΨ => ?_
  refine Jq q <| Ra (I_ 0) q q <| Ra (I_ 0) q q <| R0 <| Jq q <| Rm (z1h t0) q q <| z1b (fun h1 => ?_) (fun _ => z0u)
  refine r_cutS 1 (t0.size : Int) ut_9 q (lo_s q) hi_n h1.1 h1.2.1 h1.2.2 q <| z0d fun b2 h3 => r_callB [] [z1h (cutS t0 1 (t0.size : Int)), z3n 237 []] fn_216 (k_token_run _ _ _ h3) .nil q (.cons .same (.cons (.cloFn fn_237 (fun x y h => k_token_quoted_1 x y h)) .nil)) q <| Ra (I_ b2) q q <| R0 <| Js <| Jq q <| Rm (I_ b2) q q <| z0d fun b4 h5 => ?_
  refine z1l b4 q q (Option.some.inj h5) q <| Rm (z1h t0) q q <| r_lenS is_9 q q <| z2y q q q <| Rm (z00 (decide (b4 = (t0.size : Int)))) q q <| z1b (fun h6 => ?_) (fun h6 => ?_)
  · refine Rk (z0v q q (dt h6)) <| Rk (z0v q q (dt h6)) <| Rk (z0v q q (dt h6)) <| Rk (z0v q q (dt h6)) <| Rk (z0v q q (dt h6)) <| z0k (z00 true) q (dt h6) q q <| R0 <| z1d q q <| Jq q ?_
    exact Ra (I_ 0) q q <| Ra (I_ 2) q q <| R0 <| Jt hΨ (z16 (As := [I_ 0, I_ 2]) q q (.cons (.tmp (A := I_ 0) q) (.cons (.tmp (A := I_ 2) q) .nil))) q q
  refine Rm (z1h t0) q (g_f q q (df h6)) <| Rm (I_ b2) q (g_f q q (df h6)) <| z0d fun b7 h8 => z1l b7 q q (Option.some.inj h8) (g_f q q (df h6)) <| z1b (fun h9 => ?_) (fun _ => z0u)
  refine r_ixS ut_9 q q h9.1 h9.2 (g_f q q (df h6)) <| z2a q q (g_f q q (df h6)) <| z0h (z00 (decide (¬ (z2c t0 b7 = 34)))) q (df h6) q q <| R0 <| z09 q (fun h10 => ?_) (fun h10 => ?_)
  · exact Jq q <| Ra (I_ 0) q q <| Ra (I_ 2) q q <| R0 <| Jt hΨ (z16 (As := [I_ 0, I_ 2]) q q (.cons (.tmp (A := I_ 0) q) (.cons (.tmp (A := I_ 2) q) .nil))) q q
  refine z0e <| Js <| Jq q <| Rm (I_ b2) q q <| z3a q q q <| R0 <| z09 q (fun h11 => ?_) (fun h11 => ?_)
  · exact Jq q <| Ra (I_ 0) q q <| Ra (I_ 3) q q <| R0 <| Jt hΨ (z16 (As := [I_ 0, I_ 3]) q q (.cons (.tmp (A := I_ 0) q) (.cons (.tmp (A := I_ 3) q) .nil))) q q
  exact z0e <| Jq q <| Rm (I_ b2) q q <| z0d fun b12 h13 => z1l b12 q q (Option.some.inj h13) q <| Ra (I_ b12) q q <| Ra (I_ 0) q q <| R0 <| Jt hΨ (z16 (As := [I_ b12, I_ 0]) q q (.cons (.tmp (A := I_ b12) q) (.cons (.tmp (A := I_ 0) q) .nil))) q q
theorem k_slices_Index_string (t0 : (List ByteArray)) (t1 : ByteArray) (r : Int) (hr : z64 t0 t1 = some r) : FnP PP 222 [AL 1 z23 t0, z1h t1] (I_ r) := by
  refine Fo (fun (r : Int) => I_ r) Tryz.func222 q (n := 19) q q hr fun X hΨ => ?_
  refine Jq q <| Ra (I_ 0) q q <| R0 <| Js <| Jq q <| Rm (AL 1 z23 t0) q q <| z1a (cc := z23) il_98 q q <| Rm (I_ 0) q q ?_
  refine R0 <| z0n <| Jl (fun x1 => [(0, AL 1 z23 t0), (1, z1h t1), (7, I_ (t0.length : Int)), (8, I_ x1)]) (.cons q (.c3 q q q .nil)) (fun E2 hE2 x1 => ?_)
  refine Jq q <| z1o q q q <| R0 <| Js <| z09 q (fun h6 => ?_) (fun h6 => ?_)
  rotate_left
  · exact z1j q <| z0x <| Jq q <| Ra (I_ (-1)) q q <| Rt hΨ q q q
  refine z0e <| Js <| z0n <| Jq q <| Rm (I_ x1) q q <| Ra (I_ x1) q q <| R0 <| Jq q ?_
  refine Rm (z1h t1) q q <| Rm (AL 1 z23 t0) q q <| Rm (I_ x1) q q <| z1b (fun h7 => ?_) (fun _ => z0u)
  refine z2k (cc := z23) el_98 q q h7.1 h7.2 q <| z11 (z1h (nth t0 x1)) sc_9 q q q <| r_eqS q q q <| R0 <| z09 q (fun h8 => ?_) (fun h8 => ?_)
  · exact Jq q <| Rm (I_ x1) q q <| Ra (I_ x1) q q <| R0 <| z0x <| Jt hΨ (z18 q) q q
  exact z0e <| z0s <| z0o 7 (m := (t0.length : Int)) q fun q9 => z0o 5 (m := x1) q fun q10 => Jr q <| z1l (x1 + 1) q q (z0z (by omega) (by omega)) q <| Rm (I_ (x1 + 1)) q q <| R0 <| z41 <| Jk (hE2 (x1 + 1)) (.cons q (.c3 q q q .nil))
theorem z9c (t0 : (List ByteArray)) (t1 : ByteArray) (r : Bool) (hr : z3y t0 t1 = some r) : FnP PP 183 [AL 1 z23 t0, z1h t1] (z00 r) := by
  refine Fo (fun (r : Bool) => z00 r) Tryz.func183 q (n := 9) q q hr fun X hΨ => ?_
  refine Jq q <| Ra (z00 false) q q <| R0 <| Jq q <| Rm (AL 1 z23 t0) q q <| Rm (z1h t1) q q <| z0d fun b1 h2 => z0j _ fn_222 (k_slices_Index_string _ _ _ h2) q q ?_
  exact z3c q q q <| Ra (z00 (decide (0 ≤ b1))) q q <| Rt hΨ q q q
theorem k_token_pair (t0 : ByteArray) (r : Bool) (hr : token_pair t0 = some r) : FnP PP 220 [z1h t0] (z00 r) := by
  refine Fo (fun (r : Bool) => z00 r) Tryz.func220 q (n := 12) q q hr fun X hΨ => ?_
  refine Jq q <| Ra (z00 false) q q <| R0 <| Jq q <| Rm (z1h t0) q q <| r_lenS is_9 q q <| z3c q q q <| Rm (z00 (decide (2 ≤ (t0.size : Int)))) q q ?_
  refine z1b (fun h1 => ?_) (fun h1 => ?_)
  rotate_left
  · exact Rk (z0y q q (df h1)) <| Rk (z0y q q (df h1)) <| Rk (z0y q q (df h1)) <| Rk (z0y q q (df h1)) <| z0h (z00 false) q (df h1) q q <| Ra (z00 false) q q <| Rt hΨ q q q
  refine r_bs (cc := z23) [(ByteArray.mk #[45, 62]), (ByteArray.mk #[60, 61]), (ByteArray.mk #[62, 61]), (ByteArray.mk #[61, 61]), (ByteArray.mk #[33, 61])] el_98 zr_9_5 (.cons (A := z1h (ByteArray.mk #[45, 62])) q q q (.cons (A := z1h (ByteArray.mk #[60, 61])) q q q (.cons (A := z1h (ByteArray.mk #[62, 61])) q q q (.cons (A := z1h (ByteArray.mk #[61, 61])) q q q (.cons (A := z1h (ByteArray.mk #[33, 61])) q q q .nil))))) q q (g_t q q (dt h1)) <| Rm (z1h t0) q (g_t q q (dt h1)) <| z1b (fun h2 => ?_) (fun _ => z0u)
  exact r_cutS 0 2 ut_9 q lo_n (hi_s q) h2.1 h2.2.1 h2.2.2 (g_t q q (dt h1)) <| z0d fun b3 h4 => z0j _ fn_183 (z9c _ _ _ h4) q (g_t q q (dt h1)) <| z0k (z00 b3) q (dt h1) q q <| Ra (z00 b3) q q <| Rt hΨ q q q
theorem k_stringslite_IndexByte (t0 : ByteArray) (t1 : Int) (r : Int) (hr : z6y t0 t1 = some r) : FnP PP 238 [z1h t0, z1z .u8 t1] (I_ r) := by
  refine Fo (fun (r : Int) => I_ r) Tryz.func238 q (n := 8) q q hr fun X hΨ => ?_
  refine Jq q <| Ra (I_ 0) q q <| R0 <| Jq q <| Rm (z1h t0) q q <| Rm (z1z .u8 t1) q q <| r_ixByte ib_251 q q q <| Ra (I_ (byteIx t0 t1)) q q ?_
  exact Rt hΨ q q q
theorem k_strings_IndexByte (t0 : ByteArray) (t1 : Int) (r : Int) (hr : strings_IndexByte t0 t1 = some r) : FnP PP 221 [z1h t0, z1z .u8 t1] (I_ r) := by
  refine Fo (fun (r : Int) => I_ r) Tryz.func221 q (n := 8) q q hr fun X hΨ => ?_
  refine Jq q <| Ra (I_ 0) q q <| R0 <| Jq q <| Rm (z1h t0) q q <| Rm (z1z .u8 t1) q q <| z0d fun b1 h2 => z0j _ fn_238 (k_stringslite_IndexByte _ _ _ h2) q q ?_
  exact Ra (I_ b1) q q <| Rt hΨ q q q
theorem k_token_next (t0 : ByteArray) (r : Int × Int × Int) (hr : token_next t0 = some r) : FnP PP 181 [z1h t0] (z35 [I_ r.1, I_ r.2.1, I_ r.2.2]) := by
  refine Fo (fun (r : Int × Int × Int) => z35 [I_ r.1, I_ r.2.1, I_ r.2.2]) Tryz.func181 q (n := 45) q q hr fun X hΨ => ?_
  refine Jq q <| Ra (I_ 0) q q <| Ra (I_ 0) q q <| Ra (I_ 0) q q <| R0 <| Jq q <| Rm (z1h t0) q q <| z1b (fun h1 => ?_) (fun _ => z0u)
  refine r_ixS ut_9 q q h1.1 h1.2 q <| Ra (z1z .u8 (z2c t0 0)) q q <| R0 <| Js <| z0n <| Jq q <| Rm (z1z .u8 (z2c t0 0)) q q <| z0d fun b2 h3 => z0j _ fn_215 (k_token_letter _ _ h3) q q ?_
  refine Ra (z00 b2) q q <| R0 <| z1v q (fun h4 => ?_) (fun h4 => ?_)
  · refine Jq q <| Rm (z1h t0) q q <| z0d fun b5 h6 => r_callB [] [z1h t0, z3n 217 []] fn_216 (k_token_run _ _ _ h6) .nil q (.cons .same (.cons (.cloFn fn_217 (fun x y h => k_token_part x y h)) .nil)) q <| Ra (I_ b5) q q <| R0 <| Js <| Jq q ?_
    refine Rm (I_ b5) q q <| z3a q q q <| R0 <| z09 q (fun h7 => ?_) (fun h7 => ?_)
    · exact Jq q <| Ra (I_ 0) q q <| Ra (I_ 0) q q <| Ra (I_ 3) q q <| R0 <| Jt hΨ (z16 (As := [I_ 0, I_ 0, I_ 3]) q q (.cons (.tmp (A := I_ 0) q) (.cons (.tmp (A := I_ 0) q) (.cons (.tmp (A := I_ 3) q) .nil)))) q q
    exact z0e <| Jq q <| Rm (I_ b5) q q <| Ra (I_ 1) q q <| Ra (I_ b5) q q <| Ra (I_ 0) q q <| R0 <| Jt hΨ (z16 (As := [I_ 1, I_ b5, I_ 0]) q q (.cons (.tmp (A := I_ 1) q) (.cons (.tmp (A := I_ b5) q) (.cons (.tmp (A := I_ 0) q) .nil)))) q q
  refine Jq q <| Rm (z1z .u8 (z2c t0 0)) q q <| z0d fun b8 h9 => z0j _ fn_218 (k_token_digit _ _ h9) q q <| Ra (z00 b8) q q <| R0 <| z1v q (fun h10 => ?_) (fun h10 => ?_)
  · refine Jq q <| Rm (z1h t0) q q <| z0d fun b11 h12 => r_callB [] [z1h t0, z3n 218 []] fn_216 (k_token_run _ _ _ h12) .nil q (.cons .same (.cons (.cloFn fn_218 (fun x y h => k_token_digit x y h)) .nil)) q <| Ra (I_ b11) q q <| R0 <| Js <| Jq q ?_
    refine Rm (I_ b11) q q <| z3a q q q <| R0 <| z09 q (fun h13 => ?_) (fun h13 => ?_)
    · exact Jq q <| Ra (I_ 0) q q <| Ra (I_ 0) q q <| Ra (I_ 3) q q <| R0 <| Jt hΨ (z16 (As := [I_ 0, I_ 0, I_ 3]) q q (.cons (.tmp (A := I_ 0) q) (.cons (.tmp (A := I_ 0) q) (.cons (.tmp (A := I_ 3) q) .nil)))) q q
    exact z0e <| Jq q <| Rm (I_ b11) q q <| Ra (I_ 2) q q <| Ra (I_ b11) q q <| Ra (I_ 0) q q <| R0 <| Jt hΨ (z16 (As := [I_ 2, I_ b11, I_ 0]) q q (.cons (.tmp (A := I_ 2) q) (.cons (.tmp (A := I_ b11) q) (.cons (.tmp (A := I_ 0) q) .nil)))) q q
  refine Jq q <| Rm (z1z .u8 (z2c t0 0)) q q <| z2y q q q <| Ra (z00 (decide (z2c t0 0 = 34))) q q <| R0 <| z09 q (fun h14 => ?_) (fun h14 => ?_)
  · refine Jq q <| Rm (z1h t0) q q <| z0d fun b15 h16 => z0j _ fn_219 (k_token_quoted _ _ h16) q q <| Rm (z35 [I_ b15.1, I_ b15.2]) q q <| z20 (I_ b15.1) q q q <| z20 (I_ b15.2) q q q <| Ra (I_ b15.1) q q <| Ra (I_ b15.2) q q ?_
    exact R0 <| Jq q <| Rm (I_ b15.1) q q <| Rm (I_ b15.2) q q <| Ra (I_ 3) q q <| Ra (I_ b15.1) q q <| Ra (I_ b15.2) q q <| R0 <| Jt hΨ (z16 (As := [I_ 3, I_ b15.1, I_ b15.2]) q q (.cons (.tmp (A := I_ 3) q) (.cons (.tmp (A := I_ b15.1) q) (.cons (.tmp (A := I_ b15.2) q) .nil)))) q q
  refine Jq q <| Rm (z1h t0) q q <| z0d fun b17 h18 => z0j _ fn_220 (k_token_pair _ _ h18) q q <| Ra (z00 b17) q q <| R0 <| z1v q (fun h19 => ?_) (fun h19 => ?_)
  · exact Jq q <| Ra (I_ 4) q q <| Ra (I_ 2) q q <| Ra (I_ 0) q q <| R0 <| Jt hΨ (z16 (As := [I_ 4, I_ 2, I_ 0]) q q (.cons (.tmp (A := I_ 4) q) (.cons (.tmp (A := I_ 2) q) (.cons (.tmp (A := I_ 0) q) .nil)))) q q
  refine Jq q <| Rm (z1z .u8 (z2c t0 0)) q q <| z0d fun b20 h21 => z0j _ fn_221 (k_strings_IndexByte _ _ _ h21) q q <| z3c q q q <| Ra (z00 (decide (0 ≤ b20))) q q <| R0 <| z09 q (fun h22 => ?_) (fun h22 => ?_)
  · exact Jq q <| Ra (I_ 4) q q <| Ra (I_ 1) q q <| Ra (I_ 0) q q <| R0 <| Jt hΨ (z16 (As := [I_ 4, I_ 1, I_ 0]) q q (.cons (.tmp (A := I_ 4) q) (.cons (.tmp (A := I_ 1) q) (.cons (.tmp (A := I_ 0) q) .nil)))) q q
  exact z0e <| z0s <| Jq q <| Ra (I_ 0) q q <| Ra (I_ 0) q q <| Ra (I_ 2) q q <| R0 <| Jt hΨ (z16 (As := [I_ 0, I_ 0, I_ 2]) q q (.cons (.tmp (A := I_ 0) q) (.cons (.tmp (A := I_ 0) q) (.cons (.tmp (A := I_ 2) q) .nil)))) q q
theorem k_token_whole (t0 : z1c) (r : ByteArray × Bool) (hr : token_whole t0 = some r) : FnP PP 145 [z0w (z19 t0)] (z35 [z1h r.1, z00 r.2]) := by
  refine Fo (fun (r : ByteArray × Bool) => z35 [z1h r.1, z00 r.2]) Tryz.func145 q (n := 39) q q hr fun X hΨ => ?_
  refine Jq q <| z17 (z0w (z19 t0)) q q <| Ra (z1h (ByteArray.mk #[])) q q <| Ra (z00 false) q q <| R0 <| Jq q <| z0f (z23 t0.Text) fo_151_1 q q q <| z11 (z1h t0.Text) sc_9 q q q ?_
  refine Ra (z1h t0.Text) q q <| R0 <| Js <| Jq q <| z0f (z01 t0.Kind) fo_151_0 q q q <| z11 (I_ t0.Kind) z1t q q q <| z2y q q q <| R0 ?_
  apply z2w (fun v9 => ⟨fr [(1, z1r (z19 t0)), (4, z1h v9), (11, I_ t0.Kind)], fun _ => none, 0⟩) (fun v9 => token_whole_j9 t0 v9)
  · intro K15
    refine z09 q (fun h1 => ?_) (fun h1 => ?_)
    rotate_left
    · exact z0e <| Jk (K15 t0.Text) (.c3 q q q .nil)
    refine Jr q <| Rm (z1h t0.Text) q q <| z1b (fun h2 => ?_) (fun _ => z0u)
    refine r_catS q q h2 q <| z1b (fun h3 => ?_) (fun _ => z0u)
    exact r_catS q q h3 q <| Ra (z1h (((ByteArray.mk #[34]) ++ t0.Text) ++ (ByteArray.mk #[34]))) q q <| R0 <| Jk (K15 (((ByteArray.mk #[34]) ++ t0.Text) ++ (ByteArray.mk #[34]))) (.c3 q q q .nil)
  intro v9
  refine Js <| Jq q <| Rm (z1h v9) q q <| r_eqS q q q <| R0 <| z09 q (fun h10 => ?_) (fun h10 => ?_)
  · exact Jq q <| Ra (z1h (ByteArray.mk #[])) q q <| Ra (z00 false) q q <| R0 <| Jt hΨ (z16 (As := [z1h (ByteArray.mk #[]), z00 false]) q q (.cons (.tmp (A := z1h (ByteArray.mk #[])) q) (.cons (.tmp (A := z00 false) q) .nil))) q q
  refine z0e <| Jq q <| Rm (z1h v9) q q <| z0d fun b11 h12 => z0j _ fn_181 (k_token_next _ _ h12) q q <| Rm (z35 [I_ b11.1, I_ b11.2.1, I_ b11.2.2]) q q <| z20 (I_ b11.1) q q q <| z20 (I_ b11.2.1) q q q <| z20 (I_ b11.2.2) q q q ?_
  refine Ra (I_ b11.1) q q <| Ra (I_ b11.2.1) q q <| Ra (I_ b11.2.2) q q <| R0 <| Jq q <| Rm (z1h v9) q q <| Rm (I_ b11.2.2) q q <| z2y q q q <| Rm (z00 (decide (b11.2.2 = 0))) q q ?_
  refine z1b (fun h13 => ?_) (fun h13 => ?_)
  rotate_left
  · refine Rk (z0y q q (df h13)) <| Rk (z0y q q (df h13)) <| Rk (z0y q q (df h13)) <| Rk (z0y q q (df h13)) <| z0h (z00 false) q (df h13) q q <| Rm (z00 false) q q <| Rk (z0y q q q) <| Rk (z0y q q q) <| Rk (z0y q q q) <| Rk (z0y q q q) ?_
    exact z0h (z00 false) q q q q <| Ra (z1h v9) q q <| Ra (z00 false) q q <| R0 <| Jt hΨ (z16 (As := [z1h v9, z00 false]) q q (.cons (.tmp (A := z1h v9) q) (.cons (.tmp (A := z00 false) q) .nil))) q q
  refine Rm (I_ b11.1) q (g_t q q (dt h13)) <| z0f (z01 t0.Kind) fo_151_0 q q (g_t q q (dt h13)) <| z11 (I_ t0.Kind) z1t q q (g_t q q (dt h13)) <| z2y q q (g_t q q (dt h13)) <| z0k (z00 (decide (b11.1 = t0.Kind))) q (dt h13) q q <| Rm (z00 (decide (b11.1 = t0.Kind))) q q <| z1b (fun h14 => ?_) (fun h14 => ?_)
  · exact Rm (I_ b11.2.1) q (g_t q q (dt h14)) <| Rm (z1h v9) q (g_t q q (dt h14)) <| r_lenS is_9 q (g_t q q (dt h14)) <| z2y q q (g_t q q (dt h14)) <| z0k (z00 (decide (b11.2.1 = (v9.size : Int)))) q (dt h14) q q <| Ra (z1h v9) q q <| Ra (z00 (decide (b11.2.1 = (v9.size : Int)))) q q <| R0 <| Jt hΨ (z16 (As := [z1h v9, z00 (decide (b11.2.1 = (v9.size : Int)))]) q q (.cons (.tmp (A := z1h v9) q) (.cons (.tmp (A := z00 (decide (b11.2.1 = (v9.size : Int)))) q) .nil))) q q
  exact Rk (z0y q q (df h14)) <| Rk (z0y q q (df h14)) <| Rk (z0y q q (df h14)) <| Rk (z0y q q (df h14)) <| z0h (z00 false) q (df h14) q q <| Ra (z1h v9) q q <| Ra (z00 false) q q <| R0 <| Jt hΨ (z16 (As := [z1h v9, z00 false]) q q (.cons (.tmp (A := z1h v9) q) (.cons (.tmp (A := z00 false) q) .nil))) q q
theorem z8d (t0 : ByteArray) (r : Bool) (hr : z4u t0 = some r) : FnP PP 94 [z1h t0] (z00 r) := by
  refine Fo (fun (r : Bool) => z00 r) Tryz.func94 q (n := 12) q q hr fun X hΨ => ?_
  refine Jq q <| Ra (z00 false) q q <| R0 <| Jq q <| Rm (z1h t0) q q <| z52 (z19 (z1c.mk 1 t0 0)) pl_151 z_151 (.cons (A := I_ 1) q po_151_0 q (.cons (A := z1h t0) q po_151_1 q .nil)) q q <| z0d fun b1 h2 => z0j _ fn_145 (k_token_whole _ _ h2) q q ?_
  refine Rm (z35 [z1h b1.1, z00 b1.2]) q q <| z20 (z1h b1.1) q q q <| z20 (z00 b1.2) q q q <| Ra (z1h b1.1) q q <| Ra (z00 b1.2) q q <| R0 <| Jq q <| Rm (z00 b1.2) q q <| Ra (z00 b1.2) q q ?_
  exact Rt hΨ q q q
theorem k_slices_IndexFunc_api_NodeType (t0 : (List z15)) (t1 : (z15 → Option Bool)) (r : Int) (hr : z6g t0 t1 = some r) : FnP PP 146 [AL 4 z03 t0, AFn PP (fun x => [z0w (z03 x)]) (fun y => z00 y) t1] (I_ r) := by
  refine Fo (fun (r : Int) => I_ r) Tryz.func146 q (n := 19) q q hr fun X hΨ => ?_
  refine Jq q <| Ra (I_ 0) q q <| R0 <| Js <| Jq q <| Rm (AL 4 z03 t0) q q <| z1a (cc := z03) z9h q q <| Rm (I_ 0) q q ?_
  refine R0 <| z0n <| Jl (fun x1 => [(0, AL 4 z03 t0), (1, AFn PP (fun x => [z0w (z03 x)]) (fun y => z00 y) t1), (7, I_ (t0.length : Int)), (8, I_ x1)]) (.cons q (.c3 q q q .nil)) (fun E2 hE2 x1 => ?_)
  refine Jq q <| z1o q q q <| R0 <| Js <| z09 q (fun h8 => ?_) (fun h8 => ?_)
  rotate_left
  · exact z1j q <| z0x <| Jq q <| Ra (I_ (-1)) q q <| Rt hΨ q q q
  refine z0e <| Js <| z0n <| Jq q <| Rm (I_ x1) q q <| Ra (I_ x1) q q <| R0 <| Jq q ?_
  refine Rm (AFn PP (fun x => [z0w (z03 x)]) (fun y => z00 y) t1) q q <| Rm (AL 4 z03 t0) q q <| Rm (I_ x1) q q <| z1b (fun h9 => ?_) (fun _ => z0u)
  refine z2k (cc := z03) el_22 q q h9.1 h9.2 q <| z14 (z03 (nth t0 x1)) ag_97 q q q q <| z0d fun b10 h11 => za6 (ga := (fun x => [z0w (z03 x)])) (rt := (fun y => z00 y)) (gg := t1) (u := (nth t0 x1)) (w := b10) q q h11 (NK.nk) q <| R0 <| z1v q (fun h12 => ?_) (fun h12 => ?_)
  · exact Jq q <| Rm (I_ x1) q q <| Ra (I_ x1) q q <| R0 <| z0x <| Jt hΨ (z18 q) q q
  exact z0e <| z0s <| z0o 7 (m := (t0.length : Int)) q fun q13 => z0o 5 (m := x1) q fun q14 => Jr q <| z1l (x1 + 1) q q (z0z (by omega) (by omega)) q <| Rm (I_ (x1 + 1)) q q <| R0 <| z41 <| Jk (hE2 (x1 + 1)) (.cons q (.c3 q q q .nil))
theorem z9f (t0 : (List z15)) (t1 : (z15 → Option Bool)) (r : Bool) (hr : z3u t0 t1 = some r) : FnP PP 95 [AL 4 z03 t0, AFn PP (fun x => [z0w (z03 x)]) (fun y => z00 y) t1] (z00 r) := by
  refine Fo (fun (r : Bool) => z00 r) Tryz.func95 q (n := 9) q q hr fun X hΨ => ?_
  refine Jq q <| Ra (z00 false) q q <| R0 <| Jq q <| Rm (AL 4 z03 t0) q q <| Rm (AFn PP (fun x => [z0w (z03 x)]) (fun y => z00 y) t1) q q <| z0d fun b1 h2 => z0j _ fn_146 (k_slices_IndexFunc_api_NodeType _ _ _ h2) q q ?_
  exact z3c q q q <| Ra (z00 (decide (0 ≤ b1))) q q <| Rt hΨ q q q
theorem k_types_node_1 (t0 : z15) (t1 : z15) (r : Bool) (hr : types_node_1 t0 t1 = some r) : FnP PP 96 [z0w (z03 t0), z1r (z03 t1)] (z00 r) := by
  refine Fo (fun (r : Bool) => z00 r) Tryz.func96 q (n := 9) q q hr fun X hΨ => ?_
  refine Jq q <| z17 (z0w (z03 t0)) q q <| Ra (z00 false) q q <| R0 <| Jq q <| z0f (z23 t0.Name) fo_97_0 q q q <| z11 (z1h t0.Name) sc_9 q q q <| z0f (z23 t1.Name) fo_97_0 q q q ?_
  exact z11 (z1h t1.Name) sc_9 q q q <| r_eqS q q q <| Ra (z00 (decide (t0.Name = t1.Name))) q q <| Rt hΨ q q q
theorem k_types_attrs_b (q_types_attrs : z06 → Int → Option (List z0r)) (hq_types_attrs : ∀ (t0 : z06) (t1 : Int) (r : (List z0r)), q_types_attrs t0 t1 = some r → FnK PP 97 0 [] [z0w (z02 t0), I_ t1] [(0, .row 100 4 (r.map z08))] (z0i 0)) (t0 : z06) (t1 : Int) (r : (List z0r)) (hr : z9n q_types_attrs t0 t1 = some r) : FnK PP 97 0 [] [z0w (z02 t0), I_ t1] [(0, .row 100 4 (r.map z08))] (z0i 0) := by
  refine Ko (fun (r : (List z0r)) => [(0, .row 100 4 (r.map z08))]) (fun (r : (List z0r)) => z0i 0) Tryz.func97 q (n := 26) q (KBL.cons inferInstance (KBL.cons inferInstance (inferInstance : KBL 0 []))).kb (InsOk.spec .nil) q hr fun X hΨ => ?_
  refine Jq q <| z17 (z0w (z02 t0)) q q <| Ra (z1m) q q <| R0 <| Jq q <| Ra (z1m) q q <| R0 <| Js ?_
  refine Jq q <| z0f ((cL 4 z03) t0.Nodes) z2i q q q <| z11 (AL 4 z03 t0.Nodes) z4z q q q <| Rm (I_ t1) q q <| z1b (fun h1 => ?_) (fun _ => z0u)
  refine z2k (cc := z03) el_22 q q h1.1 h1.2 q <| z0f (z01 ((nth t0.Nodes t1).Parent)) fo_97_1 q q q <| z11 (I_ ((nth t0.Nodes t1).Parent)) z1t q q q <| Ra (I_ ((nth t0.Nodes t1).Parent)) q q <| R0 <| Jq q <| Rm (I_ ((nth t0.Nodes t1).Parent)) q q <| z3c q q q <| R0 ?_
  apply z2w (fun v6 => ⟨fr [(1, I_ t1), (2, z1r (z02 t0)), (5, z0i 0), (6, I_ ((nth t0.Nodes t1).Parent)), (9, I_ t1), (12, I_ ((nth t0.Nodes t1).Parent)), (13, I_ ((nth t0.Nodes t1).Parent))], hp [(0, .row 100 4 (v6.map z08))], 1⟩) (fun v6 => types_attrs_j6 t0 t1 v6)
  · intro K8
    refine z09 q (fun h2 => ?_) (fun h2 => ?_)
    rotate_left
    · exact z0e <| Jc [] [] [0] (K8 []) (.s2 q q (.cons (A := z1m) q (.nilobj q q) (.same q (.s3 q q q .nil)))) (.new q q .nil) q q
    exact Jr q <| z14 (z02 t0) z2j q q q q <| Rm (I_ ((nth t0.Nodes t1).Parent)) q q <| z0d fun b3 h4 => r_callK [] [] [] [0] 1 [] [(0, .row 100 4 (b3.map z08))] (z0i 0) [z0w (z02 t0), I_ ((nth t0.Nodes t1).Parent)] fn_97 (hq_types_attrs _ _ _ h4) .nil q (.cons .same (.cons .same .nil)) .nil (.cons q q q q (.row (NKC.flat _ _)) q q .nil) (.obj q q q) q q q <| Ra (z0i 0) q q <| R0 <| Jc [] [] [] (K8 b3) (.s2 q q (.cons (A := z0i 0) q (.obj q q q) (.same q (.s3 q q q .nil)))) (.cons q q q q (.row (NKC.flat _ _)) q q .nil) q q
  intro v6
  refine Jq q <| Rm (z0i 0) q q <| z0f ((cL 4 z03) t0.Nodes) z2i q q q <| z11 (AL 4 z03 t0.Nodes) z4z q q q <| Rm (I_ t1) q q <| z2k (cc := z03) el_22 q q h1.1 h1.2 q <| z0f ((cL 4 z08) ((nth t0.Nodes t1).Attrs)) fo_97_3 q q q <| z11 (AL 4 z08 ((nth t0.Nodes t1).Attrs)) sc_95 q q q <| z1b (fun h7 => ?_) (fun _ => z0u)
  exact r_app (cc := z08) (xs := v6) (ys := (nth t0.Nodes t1).Attrs) 1 ap_95 q q q h7 q q q <| Ra (z0i 1) q q <| R0 <| J_retK hΨ (z4r q (.tmp (A := z0i 1) q)) [] [(0, 1)] [] q (fun y hy => by cases hy; exact ⟨(.cons q q q q (.row (NKC.flat _ _)) q q .nil), (.obj q q q)⟩)
theorem types_attrs_n_ok : ∀ n, (∀ (t0 : z06) (t1 : Int) (r : (List z0r)), (z42 n) t0 t1 = some r → FnK PP 97 0 [] [z0w (z02 t0), I_ t1] [(0, .row 100 4 (r.map z08))] (z0i 0)) := by
  intro n
  induction n with
  | zero => exact (fun _ _ _ h => by cases h)
  | succ n ih => exact (fun a0 a1 r h => k_types_attrs_b _ ih a0 a1 r h)
theorem k_types_attrs (t0 : z06) (t1 : Int) (r : (List z0r)) (hr : types_attrs t0 t1 = some r) : FnK PP 97 0 [] [z0w (z02 t0), I_ t1] [(0, .row 100 4 (r.map z08))] (z0i 0) := by
  obtain ⟨n, hn⟩ := Ev_some hr
  exact (types_attrs_n_ok n) t0 t1 r hn
theorem k_slices_IndexFunc_api_Attr (t0 : (List z0r)) (t1 : (z0r → Option Bool)) (r : Int) (hr : z88 t0 t1 = some r) : FnP PP 182 [AL 4 z08 t0, AFn PP (fun x => [z0w (z08 x)]) (fun y => z00 y) t1] (I_ r) := by
  refine Fo (fun (r : Int) => I_ r) Tryz.func182 q (n := 19) q q hr fun X hΨ => ?_
  refine Jq q <| Ra (I_ 0) q q <| R0 <| Js <| Jq q <| Rm (AL 4 z08 t0) q q <| z1a (cc := z08) il_95 q q <| Rm (I_ 0) q q ?_
  refine R0 <| z0n <| Jl (fun x1 => [(0, AL 4 z08 t0), (1, AFn PP (fun x => [z0w (z08 x)]) (fun y => z00 y) t1), (7, I_ (t0.length : Int)), (8, I_ x1)]) (.cons q (.c3 q q q .nil)) (fun E2 hE2 x1 => ?_)
  refine Jq q <| z1o q q q <| R0 <| Js <| z09 q (fun h8 => ?_) (fun h8 => ?_)
  rotate_left
  · exact z1j q <| z0x <| Jq q <| Ra (I_ (-1)) q q <| Rt hΨ q q q
  refine z0e <| Js <| z0n <| Jq q <| Rm (I_ x1) q q <| Ra (I_ x1) q q <| R0 <| Jq q ?_
  refine Rm (AFn PP (fun x => [z0w (z08 x)]) (fun y => z00 y) t1) q q <| Rm (AL 4 z08 t0) q q <| Rm (I_ x1) q q <| z1b (fun h9 => ?_) (fun _ => z0u)
  refine z2k (cc := z08) el_95 q q h9.1 h9.2 q <| z14 (z08 (nth t0 x1)) ag_100 q q q q <| z0d fun b10 h11 => za6 (ga := (fun x => [z0w (z08 x)])) (rt := (fun y => z00 y)) (gg := t1) (u := (nth t0 x1)) (w := b10) q q h11 (NK.nk) q <| R0 <| z1v q (fun h12 => ?_) (fun h12 => ?_)
  · exact Jq q <| Rm (I_ x1) q q <| Ra (I_ x1) q q <| R0 <| z0x <| Jt hΨ (z18 q) q q
  exact z0e <| z0s <| z0o 7 (m := (t0.length : Int)) q fun q13 => z0o 5 (m := x1) q fun q14 => Jr q <| z1l (x1 + 1) q q (z0z (by omega) (by omega)) q <| Rm (I_ (x1 + 1)) q q <| R0 <| z41 <| Jk (hE2 (x1 + 1)) (.cons q (.c3 q q q .nil))
theorem k_slices_ContainsFunc_api_Attr (t0 : (List z0r)) (t1 : (z0r → Option Bool)) (r : Bool) (hr : z4o t0 t1 = some r) : FnP PP 147 [AL 4 z08 t0, AFn PP (fun x => [z0w (z08 x)]) (fun y => z00 y) t1] (z00 r) := by
  refine Fo (fun (r : Bool) => z00 r) Tryz.func147 q (n := 9) q q hr fun X hΨ => ?_
  refine Jq q <| Ra (z00 false) q q <| R0 <| Jq q <| Rm (AL 4 z08 t0) q q <| Rm (AFn PP (fun x => [z0w (z08 x)]) (fun y => z00 y) t1) q q <| z0d fun b1 h2 => z0j _ fn_182 (k_slices_IndexFunc_api_Attr _ _ _ h2) q q ?_
  exact z3c q q q <| Ra (z00 (decide (0 ≤ b1))) q q <| Rt hΨ q q q
theorem k_types_attribute_1 (t0 : z0r) (t1 : z0r) (r : Bool) (hr : z5n t0 t1 = some r) : FnP PP 148 [z0w (z08 t0), z1r (z08 t1)] (z00 r) := by
  refine Fo (fun (r : Bool) => z00 r) Tryz.func148 q (n := 9) q q hr fun X hΨ => ?_
  refine Jq q <| z17 (z0w (z08 t0)) q q <| Ra (z00 false) q q <| R0 <| Jq q <| z0f (z23 t0.Name) fo_100_0 q q q <| z11 (z1h t0.Name) sc_9 q q q <| z0f (z23 t1.Name) fo_100_0 q q q ?_
  exact z11 (z1h t1.Name) sc_9 q q q <| r_eqS q q q <| Ra (z00 (decide (t0.Name = t1.Name))) q q <| Rt hΨ q q q
theorem k_types_names (t0 : (List ByteArray)) (r : Int) (hr : z8w t0 = some r) : FnP PP 149 [AL 1 z23 t0] (I_ r) := by
  refine Fo (fun (r : Int) => I_ r) Tryz.func149 q (n := 26) q q hr fun X hΨ => ?_
  refine Jq q <| Ra (I_ 0) q q <| R0 <| Js <| Jq q <| Rm (AL 1 z23 t0) q q <| z1a (cc := z23) il_98 q q <| z3a q q q ?_
  refine R0 <| z09 q (fun h1 => ?_) (fun h1 => ?_)
  · exact Jq q <| Ra (I_ 3) q q <| Rt hΨ q q q
  refine z0e <| Js <| Jq q <| Rm (AL 1 z23 t0) q q <| z1a (cc := z23) il_98 q q <| Rm (I_ 0) q q <| R0 <| z0n <| Jl (fun x2 => [(0, AL 1 z23 t0), (2, I_ 0), (6, I_ (t0.length : Int)), (8, AL 1 z23 t0), (9, I_ (t0.length : Int)), (10, I_ x2)]) (.c6 q q q q q q .nil) (fun E3 hE3 x2 => ?_)
  refine Jq q <| z1o q q q <| R0 <| Js <| z09 q (fun h13 => ?_) (fun h13 => ?_)
  rotate_left
  · exact z1j q <| z0x <| Jq q <| Ra (I_ 0) q q <| Rt hΨ q q q
  refine z0e <| Js <| z0n <| Jq q <| Rm (I_ x2) q q <| z1b (fun h14 => ?_) (fun _ => z0u)
  refine z2k (cc := z23) el_98 q q h14.1 h14.2 q <| z11 (z1h (nth t0 x2)) sc_9 q q q <| Ra (I_ x2) q q <| Ra (z1h (nth t0 x2)) q q <| R0 <| z0n <| Jq q <| Rm (z1h (nth t0 x2)) q q <| z0d fun b15 h16 => ?_
  refine z0j _ fn_94 (z8d _ _ h16) q q <| z2x q q <| Ra (z00 (!b15)) q q <| R0 <| z1v q (fun h17 => ?_) (fun h17 => ?_)
  · exact Jq q <| Ra (I_ 2) q q <| R0 <| z0x <| Jt hΨ (z18 q) q q
  refine Jq q <| Rm (AL 1 z23 t0) q q <| Rm (I_ x2) q q <| z1b (fun h18 => ?_) (fun _ => z0u)
  refine r_cut (cc := z23) 0 x2 el_98 q lo_n (hi_s q) h18.1 h18.2.1 h18.2.2 q <| Rm (z1h (nth t0 x2)) q q <| z0d fun b19 h20 => z0j _ fn_183 (z9c _ _ _ h20) q q <| Ra (z00 b19) q q <| R0 <| z1v q (fun h21 => ?_) (fun h21 => ?_)
  · exact Jq q <| Ra (I_ 5) q q <| R0 <| z0x <| Jt hΨ (z18 q) q q
  exact z0e <| z0s <| z0s <| z0o 6 (m := (t0.length : Int)) q fun q22 => z0o 3 (m := x2) q fun q23 => Jr q <| z1l (x2 + 1) q q (z0z (by omega) (by omega)) q <| Rm (I_ (x2 + 1)) q q <| R0 <| z41 <| Jk (hE3 (x2 + 1)) (.c6 q q q q q q .nil)
theorem k_types_attribute (t0 : z0r) (t1 : (List z0r)) (r : Int) (hr : z4x t0 t1 = some r) : FnP PP 98 [z0w (z08 t0), AL 4 z08 t1] (I_ r) := by
  refine Fo (fun (r : Int) => I_ r) Tryz.func98 q (n := 55) q q hr fun X hΨ => ?_
  refine Jq q <| z17 (z0w (z08 t0)) q q <| Ra (I_ 0) q q <| R0 <| Js <| z0n <| Jq q <| z0f (z23 t0.Name) fo_100_0 q q q ?_
  refine z11 (z1h t0.Name) sc_9 q q q <| z0d fun b1 h2 => z0j _ fn_94 (z8d _ _ h2) q q <| z2x q q <| Ra (z00 (!b1)) q q <| R0 <| z1v q (fun h3 => ?_) (fun h3 => ?_)
  · exact Jq q <| Ra (I_ 2) q q <| Rt hΨ q q q
  refine Jq q <| Rm (AL 4 z08 t1) q q <| r_mkFn [z1r (z08 t0)] (fun x => [z0w (z08 x)]) (fun y => z00 y) (fun x => z5n x t0) fn_148 q (fun x y h => k_types_attribute_1 x t0 y h) q <| z0d fun b4 h5 => z0j _ fn_147 (k_slices_ContainsFunc_api_Attr _ _ _ h5) q q <| Ra (z00 b4) q q <| R0 <| z1v q (fun h6 => ?_) (fun h6 => ?_)
  · exact Jq q <| Ra (I_ 5) q q <| Rt hΨ q q q
  refine z0e <| z0s <| Js <| Jq q <| z0f ((cL 1 z23) t0.Names) z7t q q q <| z11 (AL 1 z23 t0.Names) sc_98 q q q <| z0d fun b7 h8 => z0j _ fn_149 (k_types_names _ _ h8) q q <| Ra (I_ b7) q q ?_
  refine R0 <| Jq q <| Rm (I_ b7) q q <| z2a q q q <| R0 <| z09 q (fun h9 => ?_) (fun h9 => ?_)
  · exact Jq q <| Rm (I_ b7) q q <| Ra (I_ b7) q q <| Rt hΨ q q q
  refine z0e <| Js ?_
  apply z2w (fun v21 => ⟨fr [(2, z1r (z08 t0)), (4, I_ 0), (5, I_ b7), (6, z00 v21), (18, I_ b7), (19, I_ b7), (23, I_ t0.Low)], fun _ => none, 0⟩) (fun v21 => z4w t0 v21)
  · intro K31
    refine Jr q <| z0f (z01 t0.Low) fo_100_1 q q q <| z11 (I_ t0.Low) z1t q q q <| z8c q q q <| Rm (z00 (decide ((-1000000) ≤ t0.Low))) q q <| z1b (fun h10 => ?_) (fun h10 => ?_)
    rotate_left
    · refine Rk (z0y q q (df h10)) <| Rk (z0y q q (df h10)) <| Rk (z0y q q (df h10)) <| Rk (z0y q q (df h10)) <| Rk (z0y q q (df h10)) <| z0h (z00 false) q (df h10) q q <| Rm (z00 false) q q <| Rk (z0y q q q) <| Rk (z0y q q q) <| Rk (z0y q q q) ?_
      exact z0h (z00 false) q q q q <| Ra (z00 false) q q <| R0 <| Jk (K31 false) (.cons q (.c6 q q q q q q .nil))
    refine z0f (z01 t0.Low) fo_100_1 q q (g_t q q (dt h10)) <| z11 (I_ t0.Low) z1t q q (g_t q q (dt h10)) <| z0f (z01 t0.High) fo_100_2 q q (g_t q q (dt h10)) <| z11 (I_ t0.High) z1t q q (g_t q q (dt h10)) <| z8c q q (g_t q q (dt h10)) <| z0k (z00 (decide (t0.Low ≤ t0.High))) q (dt h10) q q <| Rm (z00 (decide (t0.Low ≤ t0.High))) q q <| z1b (fun h11 => ?_) (fun h11 => ?_)
    · exact z0f (z01 t0.High) fo_100_2 q q (g_t q q (dt h11)) <| z11 (I_ t0.High) z1t q q (g_t q q (dt h11)) <| z8c q q (g_t q q (dt h11)) <| z0k (z00 (decide (t0.High ≤ 1000000))) q (dt h11) q q <| Ra (z00 (decide (t0.High ≤ 1000000))) q q <| R0 <| Jk (K31 (decide (t0.High ≤ 1000000))) (.cons q (.c6 q q q q q q .nil))
    exact Rk (z0y q q (df h11)) <| Rk (z0y q q (df h11)) <| Rk (z0y q q (df h11)) <| z0h (z00 false) q (df h11) q q <| Ra (z00 false) q q <| R0 <| Jk (K31 false) (.cons q (.c6 q q q q q q .nil))
  intro v21
  refine Js <| Jq q <| z0f ((cL 1 z23) t0.Names) z7t q q q <| z11 (AL 1 z23 t0.Names) sc_98 q q q <| z1a (cc := z23) il_98 q q <| z3a q q q <| R0 ?_
  apply z2w (fun v28 => ⟨fr [(4, I_ 0), (5, I_ b7), (6, z00 v28), (18, I_ b7), (19, I_ b7), (39, I_ (t0.Names.length : Int))], fun _ => none, 0⟩) (fun v28 => z61 v28)
  · intro K30
    refine z09 q (fun h22 => ?_) (fun h22 => ?_)
    rotate_left
    · exact z0e <| Jk (K30 v21) (.c6 q q q q q q .nil)
    apply z2w (fun v25 => ⟨fr [(4, I_ 0), (5, I_ b7), (6, z00 v25), (18, I_ b7), (19, I_ b7), (23, I_ t0.Low), (39, I_ (t0.Names.length : Int)), (42, I_ t0.Low)], fun _ => none, 0⟩) (fun v25 => z62 v25)
    · intro K26
      refine z0o 39 (m := (t0.Names.length : Int)) q fun q24 => Jr q <| z0f (z01 t0.Low) fo_100_1 q q q <| z11 (I_ t0.Low) z1t q q q <| z2y q q q <| Rm (z00 (decide (t0.Low = 0))) q q <| z1b (fun h23 => ?_) (fun h23 => ?_)
      · refine z0f (z01 t0.High) fo_100_2 q q (g_t q q (dt h23)) <| z11 (I_ t0.High) z1t q q (g_t q q (dt h23)) <| z0f ((cL 1 z23) t0.Names) z7t q q (g_t q q (dt h23)) <| z11 (AL 1 z23 t0.Names) sc_98 q q (g_t q q (dt h23)) <| z1a (cc := z23) il_98 q (g_t q q (dt h23)) <| z7z ((t0.Names.length : Int) - 1) q q (z0z (by omega) (by omega)) (g_t q q (dt h23)) <| z2y q q (g_t q q (dt h23)) <| z0k (z00 (decide (t0.High = (t0.Names.length : Int) - 1))) q (dt h23) q q <| Ra (z00 (decide (t0.High = (t0.Names.length : Int) - 1))) q q <| R0 ?_
        exact Jk (K26 (decide (t0.High = (t0.Names.length : Int) - 1))) (.c2 q q (.c6 q q q q q q .nil))
      refine Rk (z0y q q (df h23)) <| Rk (z0y q q (df h23)) <| Rk (z0y q q (df h23)) <| Rk (z0y q q (df h23)) <| Rk (z0y q q (df h23)) <| Rk (z0y q q (df h23)) <| Rk (z0y q q (df h23)) <| z0h (z00 false) q (df h23) q q <| Ra (z00 false) q q <| R0 ?_
      exact Jk (K26 false) (.c2 q q (.c6 q q q q q q .nil))
    intro v25
    exact Jk (K30 v25) (.c6 q q q q q q .nil)
  intro v28
  refine Js <| Jq q <| Rm (z00 v28) q q <| z2x q q <| R0 <| z1v q (fun h29 => ?_) (fun h29 => ?_)
  · exact Jq q <| Ra (I_ 6) q q <| Rt hΨ q q q
  exact z0e <| Jq q <| Ra (I_ 0) q q <| Rt hΨ q q q
theorem k_types_node (t0 : z06) (t1 : Int) (r : Int) (hr : types_node t0 t1 = some r) : FnP PP 60 [z0w (z02 t0), I_ t1] (I_ r) := by
  refine Fo (fun (r : Int) => I_ r) Tryz.func60 q (n := 70) q q hr fun X hΨ => ?_
  refine Jq q <| z17 (z0w (z02 t0)) q q <| Ra (I_ 0) q q <| R0 <| Jq q <| z0f ((cL 4 z03) t0.Nodes) z2i q q q <| z11 (AL 4 z03 t0.Nodes) z4z q q q <| Rm (I_ t1) q q ?_
  refine z1b (fun h1 => ?_) (fun _ => z0u)
  refine z2k (cc := z03) el_22 q q h1.1 h1.2 q <| z14 (z03 (nth t0.Nodes t1)) ag_97 q q q q <| z1x 0 _ z_97 q q <| z2p (z0i 0) (z0w (z03 (nth t0.Nodes t1))) (z03 (nth t0.Nodes t1)) sz_97 q .obj q q q q q q <| R0 <| Js <| z0n <| Jq q <| z24 (z0i 0) 0 fo_97_0 q .obj q q q ?_
  refine z2b (z1f 0 0) (z1h ((nth t0.Nodes t1).Name)) sc_9 q .at q q q <| z0d fun b2 h3 => z0j _ fn_94 (z8d _ _ h3) q q <| z2x q q <| Ra (z00 (!b2)) q q <| R0 <| z1v q (fun h4 => ?_) (fun h4 => ?_)
  · exact Jq q <| Ra (I_ 2) q q <| Rt hΨ q q q
  refine Js <| J_cv [0] [] [] 0 [(1, I_ t1), (2, z1r (z02 t0)), (4, I_ 0), (5, z1r (z03 (nth t0.Nodes t1))), (11, I_ t1)] [] (.same q (.same q (.same q (.cons (A := z0i 0) q (.fbox q q (.cons .same (.cons .same (.cons .same (.cons .same .nil))))) (.same q .nil))))) .nil q q <| Jr q <| z0f ((cL 4 z03) t0.Nodes) z2i q q q <| z11 (AL 4 z03 t0.Nodes) z4z q q q <| Rm (I_ t1) q q <| z1b (fun h6 => ?_) (fun _ => z0u)
  refine r_cut (cc := z03) 0 t1 el_22 q lo_n (hi_s q) h6.1 h6.2.1 h6.2.2 q <| r_mkFn [z1r (z03 (nth t0.Nodes t1))] (fun x => [z0w (z03 x)]) (fun y => z00 y) (fun x => types_node_1 x (nth t0.Nodes t1)) fn_96 q (fun x y h => k_types_node_1 x (nth t0.Nodes t1) y h) q <| z0d fun b7 h8 => z0j _ fn_95 (z9f _ _ _ h8) q q <| Ra (z00 b7) q q <| R0 <| z1v q (fun h9 => ?_) (fun h9 => ?_)
  · exact Jq q <| Ra (I_ 5) q q <| Rt hΨ q q q
  refine Jq q <| z0f (z01 ((nth t0.Nodes t1).Parent)) fo_97_1 q q q <| z11 (I_ ((nth t0.Nodes t1).Parent)) z1t q q q <| z1o q q q <| Rm (z00 (decide ((nth t0.Nodes t1).Parent < (-1)))) q q <| z1b (fun h10 => ?_) (fun h10 => ?_)
  · refine Rk (z0v q q (dt h10)) <| Rk (z0v q q (dt h10)) <| Rk (z0v q q (dt h10)) <| Rk (z0v q q (dt h10)) <| z0k (z00 true) q (dt h10) q q <| Ra (z00 true) q q <| R0 <| z1d q q <| Jq q ?_
    exact Ra (I_ 6) q q <| Rt hΨ q q q
  refine z0f (z01 ((nth t0.Nodes t1).Parent)) fo_97_1 q q (g_f q q (df h10)) <| z11 (I_ ((nth t0.Nodes t1).Parent)) z1t q q (g_f q q (df h10)) <| Rm (I_ t1) q (g_f q q (df h10)) <| z3c q q (g_f q q (df h10)) <| z0h (z00 (decide (t1 ≤ (nth t0.Nodes t1).Parent))) q (df h10) q q <| Ra (z00 (decide (t1 ≤ (nth t0.Nodes t1).Parent))) q q <| R0 <| z09 q (fun h11 => ?_) (fun h11 => ?_)
  · exact Jq q <| Ra (I_ 6) q q <| Rt hΨ q q q
  refine Jq q <| z0f ((cL 4 z08) ((nth t0.Nodes t1).Attrs)) fo_97_3 q q q <| z11 (AL 4 z08 ((nth t0.Nodes t1).Attrs)) sc_95 q q q <| z1a (cc := z08) il_95 q q <| z3a q q q <| Ra (z00 (decide (4 < (((nth t0.Nodes t1).Attrs).length : Int)))) q q <| R0 <| z09 q (fun h12 => ?_) (fun h12 => ?_)
  · exact Jq q <| Ra (I_ 3) q q <| Rt hΨ q q q
  refine z0e <| z0s <| Jq q <| z14 (z02 t0) z2j q q q q <| Rm (I_ t1) q q <| z0d fun b13 h14 => z0j _ fn_97 (FnK.toP (r' := AL 4 z08 b13) (k_types_attrs _ _ _ h14) (.frow q q (NKC.flat _ _))) q q <| Ra (AL 4 z08 b13) q q <| R0 ?_
  refine Js <| Jq q <| Rm (AL 4 z08 b13) q q <| z1a (cc := z08) il_95 q q <| z3a q q q <| R0 <| z09 q (fun h15 => ?_) (fun h15 => ?_)
  · exact Jq q <| Ra (I_ 3) q q <| Rt hΨ q q q
  refine z0e <| Js <| Jq q <| Rm (AL 4 z08 b13) q q <| z1a (cc := z08) il_95 q q <| z0f ((cL 4 z08) ((nth t0.Nodes t1).Attrs)) fo_97_3 q q q <| z11 (AL 4 z08 ((nth t0.Nodes t1).Attrs)) sc_95 q q q <| z1a (cc := z08) il_95 q q <| z0d fun b16 h17 => ?_
  refine z7z b16 q q (Option.some.inj h17) q <| Ra (I_ b16) q q <| R0 <| z0n <| Jn (fun x18 => ⟨fr [(1, I_ t1), (4, I_ 0), (6, AL 4 z08 b13), (7, I_ x18), (11, I_ t1), (22, I_ t1), (28, I_ ((nth t0.Nodes t1).Parent)), (32, I_ ((nth t0.Nodes t1).Parent)), (33, I_ t1), (39, I_ (((nth t0.Nodes t1).Attrs).length : Int)), (42, I_ t1), (45, I_ (b13.length : Int)), (48, I_ (b13.length : Int)), (51, I_ (((nth t0.Nodes t1).Attrs).length : Int))], hp [], 0⟩) [] [] [] q (.s2 q q (.s6 q q q q q q (.s6 q q q q q q .nil))) .nil q q (fun E19 hE19 x18 => ?_)
  refine Js <| Jq q <| Rm (I_ x18) q q <| Rm (AL 4 z08 b13) q q <| z1a (cc := z08) il_95 q q <| z1o q q q <| R0 <| z09 q (fun h28 => ?_) (fun h28 => ?_)
  rotate_left
  · exact z1j q <| z0x <| Jq q <| Ra (I_ 0) q q <| Rt hΨ q q q
  refine z0e <| Js <| z0n <| Js <| z2g <| Rm (AL 4 z08 b13) q q <| Rm (I_ x18) q q <| z1b (fun h29 => ?_) (fun _ => z0u)
  refine z2k (cc := z08) el_95 q q h29.1 h29.2 q <| z14 (z08 (nth b13 x18)) ag_100 q q q q <| Rm (AL 4 z08 b13) q q <| Rm (I_ x18) q q <| z1b (fun h30 => ?_) (fun _ => z0u)
  refine r_cut (cc := z08) 0 x18 el_95 q lo_n (hi_s q) h30.1 h30.2.1 h30.2.2 q <| z0d fun b31 h32 => z0j _ fn_98 (k_types_attribute _ _ _ h32) q q <| Ra (I_ b31) q q <| z1y (by kernel_rfl) <| Jq q <| Rm (I_ b31) q q <| z2a q q q <| R0 ?_
  refine z09 q (fun h33 => ?_) (fun h33 => ?_)
  · exact Jq q <| Rm (I_ b31) q q <| Ra (I_ b31) q q <| R0 <| z0x <| Jt hΨ (z18 q) q q
  exact z0e <| z0s <| z0o 45 (m := (b13.length : Int)) q fun q34 => z0o 7 (m := x18) q fun q35 => Jr q <| Rm (I_ x18) q q <| z1l (x18 + 1) q q (z0z (by omega) (by omega)) q <| Ra (I_ (x18 + 1)) q q <| R0 <| z41 <| Jc [] [] [] (hE19 (x18 + 1)) (.s2 q q (.s6 q q q q q q (.s6 q q q q q q .nil))) .nil q q
theorem k_types_edge_1 (t0 : Int) (t1 : z06) (r : Bool) (hr : z3s t0 t1 = some r) : FnP PP 99 [I_ t0, z1r (z02 t1)] (z00 r) := by
  refine Fo (fun (r : Bool) => z00 r) Tryz.func99 q (n := 13) q q hr fun X hΨ => ?_
  refine Jq q <| Ra (z00 false) q q <| R0 <| Jq q <| Rm (I_ t0) q q <| z3c q q q <| Rm (z00 (decide (0 ≤ t0))) q q <| z1b (fun h1 => ?_) (fun h1 => ?_)
  · exact Rm (I_ t0) q (g_t q q (dt h1)) <| z0f ((cL 4 z03) t1.Nodes) z2i q q (g_t q q (dt h1)) <| z11 (AL 4 z03 t1.Nodes) z4z q q (g_t q q (dt h1)) <| z1a (cc := z03) z9h q (g_t q q (dt h1)) <| z1o q q (g_t q q (dt h1)) <| z0k (z00 (decide (t0 < (t1.Nodes.length : Int)))) q (dt h1) q q <| Ra (z00 (decide (t0 < (t1.Nodes.length : Int)))) q q <| Rt hΨ q q q
  exact Rk (z0y q q (df h1)) <| Rk (z0y q q (df h1)) <| Rk (z0y q q (df h1)) <| Rk (z0y q q (df h1)) <| Rk (z0y q q (df h1)) <| z0h (z00 false) q (df h1) q q <| Ra (z00 false) q q <| Rt hΨ q q q
theorem k_slices_IndexFunc_api_EdgeType (t0 : (List z1g)) (t1 : (z1g → Option Bool)) (r : Int) (hr : z6h t0 t1 = some r) : FnP PP 150 [AL 7 z0c t0, AFn PP (fun x => [z0w (z0c x)]) (fun y => z00 y) t1] (I_ r) := by
  refine Fo (fun (r : Int) => I_ r) Tryz.func150 q (n := 19) q q hr fun X hΨ => ?_
  refine Jq q <| Ra (I_ 0) q q <| R0 <| Js <| Jq q <| Rm (AL 7 z0c t0) q q <| z1a (cc := z0c) il_23 q q <| Rm (I_ 0) q q ?_
  refine R0 <| z0n <| Jl (fun x1 => [(0, AL 7 z0c t0), (1, AFn PP (fun x => [z0w (z0c x)]) (fun y => z00 y) t1), (7, I_ (t0.length : Int)), (8, I_ x1)]) (.cons q (.c3 q q q .nil)) (fun E2 hE2 x1 => ?_)
  refine Jq q <| z1o q q q <| R0 <| Js <| z09 q (fun h8 => ?_) (fun h8 => ?_)
  rotate_left
  · exact z1j q <| z0x <| Jq q <| Ra (I_ (-1)) q q <| Rt hΨ q q q
  refine z0e <| Js <| z0n <| Jq q <| Rm (I_ x1) q q <| Ra (I_ x1) q q <| R0 <| Jq q ?_
  refine Rm (AFn PP (fun x => [z0w (z0c x)]) (fun y => z00 y) t1) q q <| Rm (AL 7 z0c t0) q q <| Rm (I_ x1) q q <| z1b (fun h9 => ?_) (fun _ => z0u)
  refine z2k (cc := z0c) el_23 q q h9.1 h9.2 q <| z14 (z0c (nth t0 x1)) ag_102 q q q q <| z0d fun b10 h11 => za6 (ga := (fun x => [z0w (z0c x)])) (rt := (fun y => z00 y)) (gg := t1) (u := (nth t0 x1)) (w := b10) q q h11 (NK.nk) q <| R0 <| z1v q (fun h12 => ?_) (fun h12 => ?_)
  · exact Jq q <| Rm (I_ x1) q q <| Ra (I_ x1) q q <| R0 <| z0x <| Jt hΨ (z18 q) q q
  exact z0e <| z0s <| z0o 7 (m := (t0.length : Int)) q fun q13 => z0o 5 (m := x1) q fun q14 => Jr q <| z1l (x1 + 1) q q (z0z (by omega) (by omega)) q <| Rm (I_ (x1 + 1)) q q <| R0 <| z41 <| Jk (hE2 (x1 + 1)) (.cons q (.c3 q q q .nil))
theorem z9g (t0 : (List z1g)) (t1 : (z1g → Option Bool)) (r : Bool) (hr : z3v t0 t1 = some r) : FnP PP 100 [AL 7 z0c t0, AFn PP (fun x => [z0w (z0c x)]) (fun y => z00 y) t1] (z00 r) := by
  refine Fo (fun (r : Bool) => z00 r) Tryz.func100 q (n := 9) q q hr fun X hΨ => ?_
  refine Jq q <| Ra (z00 false) q q <| R0 <| Jq q <| Rm (AL 7 z0c t0) q q <| Rm (AFn PP (fun x => [z0w (z0c x)]) (fun y => z00 y) t1) q q <| z0d fun b1 h2 => z0j _ fn_150 (k_slices_IndexFunc_api_EdgeType _ _ _ h2) q q ?_
  exact z3c q q q <| Ra (z00 (decide (0 ≤ b1))) q q <| Rt hΨ q q q
theorem k_types_edge_2 (t0 : z1g) (t1 : z1g) (r : Bool) (hr : types_edge_2 t0 t1 = some r) : FnP PP 101 [z0w (z0c t0), z1r (z0c t1)] (z00 r) := by
  refine Fo (fun (r : Bool) => z00 r) Tryz.func101 q (n := 9) q q hr fun X hΨ => ?_
  refine Jq q <| z17 (z0w (z0c t0)) q q <| Ra (z00 false) q q <| R0 <| Jq q <| z0f (z23 t0.Name) fo_102_0 q q q <| z11 (z1h t0.Name) sc_9 q q q <| z0f (z23 t1.Name) fo_102_0 q q q ?_
  exact z11 (z1h t1.Name) sc_9 q q q <| r_eqS q q q <| Ra (z00 (decide (t0.Name = t1.Name))) q q <| Rt hΨ q q q
theorem k_types_bounded (t0 : Int) (t1 : Int) (r : Bool) (hr : z9m t0 t1 = some r) : FnP PP 102 [I_ t0, I_ t1] (z00 r) := by
  refine Fo (fun (r : Bool) => z00 r) Tryz.func102 q (n := 24) q q hr fun X hΨ => ?_
  refine Jq q <| Ra (z00 false) q q <| R0 <| Jq q <| Rm (I_ t0) q q <| z3c q q q <| Rm (z00 (decide (0 ≤ t0))) q q <| z1b (fun h1 => ?_) (fun h1 => ?_)
  rotate_left
  · refine Rk (z0y q q (df h1)) <| Rk (z0y q q (df h1)) <| z0h (z00 false) q (df h1) q q <| Rm (z00 false) q q <| Rk (z0y q q q) <| Rk (z0y q q q) <| Rk (z0y q q q) <| Rk (g_u q q) <| Rk (g_u q q) <| Rk (g_u q q) ?_
    exact Rk (g_u q q) <| Rk (g_u q q) <| Rk (g_u q q) <| Rk (g_u q q) <| Rk (z0y q q q) <| z0h (z00 false) q q q q <| Ra (z00 false) q q <| Rt hΨ q q q
  refine Rm (I_ t0) q (g_t q q (dt h1)) <| z8c q q (g_t q q (dt h1)) <| z0k (z00 (decide (t0 ≤ 40))) q (dt h1) q q <| Rm (z00 (decide (t0 ≤ 40))) q q <| z1b (fun h2 => ?_) (fun h2 => ?_)
  rotate_left
  · refine Rk (z0y q q (df h2)) <| Rk (z0y q q (df h2)) <| Rk (z0y q q (df h2)) <| Rk (g_u q q) <| Rk (g_u q q) <| Rk (g_u q q) <| Rk (g_u q q) <| Rk (g_u q q) <| Rk (g_u q q) <| Rk (g_u q q) ?_
    exact Rk (z0y q q (df h2)) <| z0h (z00 false) q (df h2) q q <| Ra (z00 false) q q <| Rt hΨ q q q
  refine Rm (I_ t1) q (g_t q q (dt h2)) <| z2y q q (g_t q q (dt h2)) <| Rm (z00 (decide (t1 = (-1)))) q (g_t q q (dt h2)) <| z1b (fun h3 => ?_) (fun h3 => ?_)
  · refine Rk (z0v q q (dt h3)) <| Rk (z0v q q (dt h3)) <| Rk (z0v q q (dt h3)) <| Rk (z0v q q (dt h3)) <| Rk (g_u q q) <| Rk (g_u q q) <| Rk (z0v q q (dt h3)) <| z0k (z00 true) q (dt h3) q (g_t q q (dt h2)) <| z0k (z00 true) q (dt h2) q q <| Ra (z00 true) q q ?_
    exact Rt hΨ q q q
  refine Rm (I_ t1) q (g_f q q (df h3)) <| Rm (I_ t0) q (g_f q q (df h3)) <| z3c q q (g_f q q (df h3)) <| Rm (z00 (decide (t0 ≤ t1))) q (g_f q q (df h3)) <| z1b (fun h4 => ?_) (fun h4 => ?_)
  · exact Rm (I_ t1) q (g_t q q (dt h4)) <| z8c q q (g_t q q (dt h4)) <| z0k (z00 (decide (t1 ≤ 40))) q (dt h4) q (g_f q q (df h3)) <| z0h (z00 (decide (t1 ≤ 40))) q (df h3) q (g_t q q (dt h2)) <| z0k (z00 (decide (t1 ≤ 40))) q (dt h2) q q <| Ra (z00 (decide (t1 ≤ 40))) q q <| Rt hΨ q q q
  exact Rk (z0y q q (df h4)) <| Rk (z0y q q (df h4)) <| z0h (z00 false) q (df h4) q (g_f q q (df h3)) <| z0h (z00 false) q (df h3) q (g_t q q (dt h2)) <| z0k (z00 false) q (dt h2) q q <| Ra (z00 false) q q <| Rt hΨ q q q
theorem k_types_edge (t0 : z06) (t1 : Int) (r : Int) (hr : types_edge t0 t1 = some r) : FnP PP 61 [z0w (z02 t0), I_ t1] (I_ r) := by
  refine Fo (fun (r : Int) => I_ r) Tryz.func61 q (n := 52) q q hr fun X hΨ => ?_
  refine Jq q <| z17 (z0w (z02 t0)) q q <| Ra (I_ 0) q q <| R0 <| Jq q <| z0f ((cL 7 z0c) t0.Edges) z3w q q q <| z11 (AL 7 z0c t0.Edges) sc_23 q q q <| Rm (I_ t1) q q ?_
  refine z1b (fun h1 => ?_) (fun _ => z0u)
  refine z2k (cc := z0c) el_23 q q h1.1 h1.2 q <| z14 (z0c (nth t0.Edges t1)) ag_102 q q q q <| z1x 0 _ z_102 q q <| z2p (z0i 0) (z0w (z0c (nth t0.Edges t1))) (z0c (nth t0.Edges t1)) sz_102 q .obj q q q q q q <| R0 <| Jq q <| r_mkFn [z1r (z02 t0)] (fun x => [I_ x]) (fun y => z00 y) (fun x => z3s x t0) fn_99 q (fun x y h => k_types_edge_1 x t0 y h) q <| Ra (AFn PP (fun x => [I_ x]) (fun y => z00 y) (fun x => z3s x t0)) q q <| R0 ?_
  refine Js <| z0n <| Jq q <| z24 (z0i 0) 0 fo_102_0 q .obj q q q <| z2b (z1f 0 0) (z1h ((nth t0.Edges t1).Name)) sc_9 q .at q q q <| z0d fun b2 h3 => z0j _ fn_94 (z8d _ _ h3) q q <| z2x q q <| Ra (z00 (!b2)) q q ?_
  refine R0 <| z1v q (fun h4 => ?_) (fun h4 => ?_)
  · exact Jq q <| Ra (I_ 2) q q <| Rt hΨ q q q
  refine Js <| J_cv [0] [] [] 0 [(1, I_ t1), (2, z1r (z02 t0)), (4, I_ 0), (5, z1r (z0c (nth t0.Edges t1))), (6, AFn PP (fun x => [I_ x]) (fun y => z00 y) (fun x => z3s x t0)), (9, I_ t1)] [] (.same q (.same q (.same q (.cons (A := z0i 0) q (.fbox q q (.cons .same (.cons .same (.cons .same (.cons .same (.cons .same (.cons .same (.cons .same .nil)))))))) (.same q (.same q .nil)))))) .nil q q <| Jr q <| z0f ((cL 7 z0c) t0.Edges) z3w q q q <| z11 (AL 7 z0c t0.Edges) sc_23 q q q <| Rm (I_ t1) q q <| z1b (fun h6 => ?_) (fun _ => z0u)
  refine r_cut (cc := z0c) 0 t1 el_23 q lo_n (hi_s q) h6.1 h6.2.1 h6.2.2 q <| r_mkFn [z1r (z0c (nth t0.Edges t1))] (fun x => [z0w (z0c x)]) (fun y => z00 y) (fun x => types_edge_2 x (nth t0.Edges t1)) fn_101 q (fun x y h => k_types_edge_2 x (nth t0.Edges t1) y h) q <| z0d fun b7 h8 => z0j _ fn_100 (z9g _ _ _ h8) q q <| Ra (z00 b7) q q <| R0 <| z1v q (fun h9 => ?_) (fun h9 => ?_)
  · exact Jq q <| Ra (I_ 5) q q <| Rt hΨ q q q
  refine Js <| Js ?_
  apply z2w (fun v26 => ⟨fr [(1, I_ t1), (4, I_ 0), (9, I_ t1), (21, I_ t1), (25, z00 v26)], hp [], 0⟩) (fun v26 => types_edge_j26 v26)
  · intro K28
    apply z2w (fun v16 => ⟨fr [(1, I_ t1), (4, I_ 0), (9, I_ t1), (21, I_ t1), (25, z00 v16)], hp [], 0⟩) (fun v16 => types_edge_j16 v16)
    · intro K17
      refine Jr q <| Rm (AFn PP (fun x => [I_ x]) (fun y => z00 y) (fun x => z3s x t0)) q q <| z0f (z01 ((nth t0.Edges t1).From)) fo_102_1 q q q <| z11 (I_ ((nth t0.Edges t1).From)) z1t q q q <| z0d fun b10 h11 => za6 (ga := (fun x => [I_ x])) (rt := (fun y => z00 y)) (gg := (fun x => z3s x t0)) (u := (nth t0.Edges t1).From) (w := b10) q q h11 (NK.nk) q <| z2x q q <| Rm (z00 (!b10)) q q <| z1b (fun h12 => ?_) (fun h12 => ?_)
      · exact Rk (z0v q q h12) <| Rk (z0v q q h12) <| Rk (z0v q q h12) <| Rk (z0v q q h12) <| Rk (z0v q q h12) <| z0k (z00 true) q h12 q q <| Ra (z00 true) q q <| R0 <| z1d q q <| Jc [] [] [] (K17 true) (.s2 q q (.s3 q q q .nil)) .nil q q
      refine Rm (AFn PP (fun x => [I_ x]) (fun y => z00 y) (fun x => z3s x t0)) q (g_f q q (bf h12)) <| z0f (z01 ((nth t0.Edges t1).To)) fo_102_2 q q (g_f q q (bf h12)) <| z11 (I_ ((nth t0.Edges t1).To)) z1t q q (g_f q q (bf h12)) <| z0d fun b13 h14 => za6 (ga := (fun x => [I_ x])) (rt := (fun y => z00 y)) (gg := (fun x => z3s x t0)) (u := (nth t0.Edges t1).To) (w := b13) q q h14 (NK.nk) (g_f q q (bf h12)) <| z2x q (g_f q q (bf h12)) <| z0h (z00 (!b13)) q (bf h12) q q <| Ra (z00 (!b13)) q q <| R0 <| z1v q (fun h15 => ?_) (fun h15 => ?_)
      · exact Jc [] [] [] (K17 (!b13)) (.s2 q q (.s3 q q q .nil)) .nil q q
      apply z2w (fun v23 => ⟨fr [(1, I_ t1), (4, I_ 0), (9, I_ t1), (21, I_ t1), (25, z00 v23)], hp [], 0⟩) (fun v23 => types_edge_j23 v23)
      · intro K24
        refine Jr q <| z0f (z01 ((nth t0.Edges t1).OutLow)) fo_102_3 q q q <| z11 (I_ ((nth t0.Edges t1).OutLow)) z1t q q q <| z0f (z01 ((nth t0.Edges t1).OutHigh)) fo_102_4 q q q <| z11 (I_ ((nth t0.Edges t1).OutHigh)) z1t q q q <| z0d fun b18 h19 => z0j _ fn_102 (k_types_bounded _ _ _ h19) q q <| z2x q q <| Rm (z00 (!b18)) q q <| z1b (fun h20 => ?_) (fun h20 => ?_)
        · exact Rk (z0v q q h20) <| Rk (z0v q q h20) <| Rk (z0v q q h20) <| Rk (z0v q q h20) <| Rk (z0v q q h20) <| Rk (z0v q q h20) <| z0k (z00 true) q h20 q q <| Ra (z00 true) q q <| R0 <| Jc [] [] [] (K24 true) (.s2 q q (.s3 q q q .nil)) .nil q q
        refine z0f (z01 ((nth t0.Edges t1).InLow)) fo_102_5 q q (g_f q q (bf h20)) <| z11 (I_ ((nth t0.Edges t1).InLow)) z1t q q (g_f q q (bf h20)) <| z0f (z01 ((nth t0.Edges t1).InHigh)) fo_102_6 q q (g_f q q (bf h20)) <| z11 (I_ ((nth t0.Edges t1).InHigh)) z1t q q (g_f q q (bf h20)) <| z0d fun b21 h22 => z0j _ fn_102 (k_types_bounded _ _ _ h22) q (g_f q q (bf h20)) <| z2x q (g_f q q (bf h20)) <| z0h (z00 (!b21)) q (bf h20) q q <| Ra (z00 (!b21)) q q <| R0 ?_
        exact Jc [] [] [] (K24 (!b21)) (.s2 q q (.s3 q q q .nil)) .nil q q
      intro v23
      exact Jc [] [] [] (K28 v23) (.s2 q q (.s3 q q q .nil)) .nil q q
    intro v16
    exact z0e <| Jc [] [] [] (K28 v16) (.s2 q q (.s3 q q q .nil)) .nil q q
  intro v26
  refine z1v q (fun h27 => ?_) (fun h27 => ?_)
  · exact Jq q <| Ra (I_ 6) q q <| Rt hΨ q q q
  exact z0e <| z0s <| Jq q <| Ra (I_ 0) q q <| Rt hΨ q q q
theorem za7 (t0 : z06) (r : ByteArray × Int) (hr : z5c t0 = some r) : FnP PP 31 [z0w (z02 t0)] (z35 [z1h r.1, I_ r.2]) := by
  refine Fo (fun (r : ByteArray × Int) => z35 [z1h r.1, I_ r.2]) Tryz.func31 q (n := 60) q q hr fun X hΨ => ?_
  refine Jq q <| z17 (z0w (z02 t0)) q q <| Ra (z1h (ByteArray.mk #[])) q q <| Ra (I_ 0) q q <| R0 <| Js <| z0n <| Jq q ?_
  refine z0f ((cL 4 z03) t0.Nodes) z2i q q q <| z11 (AL 4 z03 t0.Nodes) z4z q q q <| z1a (cc := z03) z9h q q <| z2y q q q <| Ra (z00 (decide ((t0.Nodes.length : Int) = 0))) q q <| R0 <| z09 q (fun h1 => ?_) (fun h1 => ?_)
  · exact Jq q <| Ra (z1h (ByteArray.mk #[])) q q <| Ra (I_ 7) q q <| R0 <| Jt hΨ (z16 (As := [z1h (ByteArray.mk #[]), I_ 7]) q q (.cons (.tmp (A := z1h (ByteArray.mk #[])) q) (.cons (.tmp (A := I_ 7) q) .nil))) q q
  refine Jq q <| z0f ((cL 4 z03) t0.Nodes) z2i q q q <| z11 (AL 4 z03 t0.Nodes) z4z q q q <| z1a (cc := z03) z9h q q <| z3a q q q <| Rm (z00 (decide (12 < (t0.Nodes.length : Int)))) q q <| z1b (fun h2 => ?_) (fun h2 => ?_)
  · refine Rk (z0v q q (dt h2)) <| Rk (z0v q q (dt h2)) <| Rk (z0v q q (dt h2)) <| Rk (z0v q q (dt h2)) <| z0k (z00 true) q (dt h2) q q <| Ra (z00 true) q q <| R0 <| z1d q q <| Jq q ?_
    exact Ra (z1h (ByteArray.mk #[])) q q <| Ra (I_ 3) q q <| R0 <| Jt hΨ (z16 (As := [z1h (ByteArray.mk #[]), I_ 3]) q q (.cons (.tmp (A := z1h (ByteArray.mk #[])) q) (.cons (.tmp (A := I_ 3) q) .nil))) q q
  refine z0f ((cL 7 z0c) t0.Edges) z3w q q (g_f q q (df h2)) <| z11 (AL 7 z0c t0.Edges) sc_23 q q (g_f q q (df h2)) <| z1a (cc := z0c) il_23 q (g_f q q (df h2)) <| z3a q q (g_f q q (df h2)) <| z0h (z00 (decide (20 < (t0.Edges.length : Int)))) q (df h2) q q <| Ra (z00 (decide (20 < (t0.Edges.length : Int)))) q q <| R0 <| z09 q (fun h3 => ?_) (fun h3 => ?_)
  · exact Jq q <| Ra (z1h (ByteArray.mk #[])) q q <| Ra (I_ 3) q q <| R0 <| Jt hΨ (z16 (As := [z1h (ByteArray.mk #[]), I_ 3]) q q (.cons (.tmp (A := z1h (ByteArray.mk #[])) q) (.cons (.tmp (A := I_ 3) q) .nil))) q q
  refine z0e <| z0s <| Js <| Jq q <| z0f ((cL 4 z03) t0.Nodes) z2i q q q <| z11 (AL 4 z03 t0.Nodes) z4z q q q <| z1a (cc := z03) z9h q q <| Rm (I_ 0) q q <| R0 ?_
  refine z0n <| Jn (fun x4 => ⟨fr [(1, z1r (z02 t0)), (3, I_ 0), (13, I_ (t0.Nodes.length : Int)), (18, I_ (t0.Nodes.length : Int)), (23, I_ (t0.Edges.length : Int)), (27, AL 4 z03 t0.Nodes), (28, I_ (t0.Nodes.length : Int)), (29, I_ x4)], hp [], 0⟩) [] [] [] q (.s2 q q (.s6 q q q q q q .nil)) .nil q q (fun E5 hE5 x4 => ?_)
  refine Jq q <| z1o q q q <| R0 <| Js <| z09 q (fun h11 => ?_) (fun h11 => ?_)
  · refine z0e <| Js <| z0n <| Jq q <| Rm (I_ x4) q q <| z1b (fun h12 => ?_) (fun _ => z0u)
    refine z2k (cc := z03) el_22 q q h12.1 h12.2 q <| z14 (z03 (nth t0.Nodes x4)) ag_97 q q q q <| z1x 0 _ z_97 q q <| Ra (I_ x4) q q <| z2p (z0i 0) (z0w (z03 (nth t0.Nodes x4))) (z03 (nth t0.Nodes x4)) sz_97 q .obj q q q q q q <| R0 <| Jq q <| z14 (z02 t0) z2j q q q q <| Rm (I_ x4) q q ?_
    refine z0d fun b13 h14 => z0j _ fn_60 (k_types_node _ _ _ h14) q q <| Ra (I_ b13) q q <| R0 <| Jq q <| Rm (I_ b13) q q <| z2a q q q <| R0 <| z09 q (fun h15 => ?_) (fun h15 => ?_)
    rotate_left
    · exact z0e <| z0s <| z0o 13 (m := (t0.Nodes.length : Int)) q fun q16 => z0o 4 (m := x4) q fun q17 => Jr q <| z1l (x4 + 1) q q (z0z (by omega) (by omega)) q <| Rm (I_ (x4 + 1)) q q <| R0 <| z41 <| Jc [] [] [] (hE5 (x4 + 1)) (.s2 q q (.s6 q q q q q q .nil)) .nil q q
    exact Jq q <| z24 (z0i 0) 0 fo_97_0 q .obj q q q <| z2b (z1f 0 0) (z1h ((nth t0.Nodes x4).Name)) sc_9 q .at q q q <| Rm (I_ b13) q q <| Ra (z1h ((nth t0.Nodes x4).Name)) q q <| Ra (I_ b13) q q <| R0 <| z0x <| Jt hΨ (z16 (As := [z1h ((nth t0.Nodes x4).Name), I_ b13]) q q (.cons (.tmp (A := z1h ((nth t0.Nodes x4).Name)) q) (.cons (.tmp (A := I_ b13) q) .nil))) q q
  refine z1j q <| z7w <| Js <| Jq q <| z0f ((cL 7 z0c) t0.Edges) z3w q q q <| z11 (AL 7 z0c t0.Edges) sc_23 q q q <| z1a (cc := z0c) il_23 q q <| Rm (I_ 0) q q <| R0 ?_
  refine z0n <| Jn (fun x18 => ⟨fr [(1, z1r (z02 t0)), (3, I_ 0), (13, I_ (t0.Nodes.length : Int)), (18, I_ (t0.Nodes.length : Int)), (23, I_ (t0.Edges.length : Int)), (28, I_ (t0.Nodes.length : Int)), (29, I_ x4), (44, AL 7 z0c t0.Edges), (45, I_ (t0.Edges.length : Int)), (46, I_ x18)], hp [], 0⟩) [] [] [] q (.same q (.s3 q q q (.s6 q q q q q q .nil))) .nil q q (fun E19 hE19 x18 => ?_)
  refine Jq q <| z1o q q q <| R0 <| Js <| z09 q (fun h25 => ?_) (fun h25 => ?_)
  rotate_left
  · exact z1j q <| z0x <| Jq q <| Ra (z1h (ByteArray.mk #[])) q q <| Ra (I_ 0) q q <| R0 <| Jt hΨ (z16 (As := [z1h (ByteArray.mk #[]), I_ 0]) q q (.cons (.tmp (A := z1h (ByteArray.mk #[])) q) (.cons (.tmp (A := I_ 0) q) .nil))) q q
  refine z0e <| Js <| z0n <| Jq q <| Rm (I_ x18) q q <| z1b (fun h26 => ?_) (fun _ => z0u)
  refine z2k (cc := z0c) el_23 q q h26.1 h26.2 q <| z14 (z0c (nth t0.Edges x18)) ag_102 q q q q <| z1x 0 _ z_102 q q <| Ra (I_ x18) q q <| z2p (z0i 0) (z0w (z0c (nth t0.Edges x18))) (z0c (nth t0.Edges x18)) sz_102 q .obj q q q q q q <| R0 <| Jq q <| z14 (z02 t0) z2j q q q q <| Rm (I_ x18) q q ?_
  refine z0d fun b27 h28 => z0j _ fn_61 (k_types_edge _ _ _ h28) q q <| Ra (I_ b27) q q <| R0 <| Jq q <| Rm (I_ b27) q q <| z2a q q q <| R0 <| z09 q (fun h29 => ?_) (fun h29 => ?_)
  rotate_left
  · exact z0e <| z0s <| z0o 23 (m := (t0.Edges.length : Int)) q fun q30 => z0o 7 (m := x18) q fun q31 => Jr q <| z1l (x18 + 1) q q (z0z (by omega) (by omega)) q <| Rm (I_ (x18 + 1)) q q <| R0 <| z41 <| Jc [] [] [] (hE19 (x18 + 1)) (.same q (.s3 q q q (.s6 q q q q q q .nil))) .nil q q
  exact Jq q <| z24 (z0i 0) 0 fo_102_0 q .obj q q q <| z2b (z1f 0 0) (z1h ((nth t0.Edges x18).Name)) sc_9 q .at q q q <| Rm (I_ b27) q q <| Ra (z1h ((nth t0.Edges x18).Name)) q q <| Ra (I_ b27) q q <| R0 <| z0x <| Jt hΨ (z16 (As := [z1h ((nth t0.Edges x18).Name), I_ b27]) q q (.cons (.tmp (A := z1h ((nth t0.Edges x18).Name)) q) (.cons (.tmp (A := I_ b27) q) .nil))) q q
theorem k_slices_Index_int (t0 : (List Int)) (t1 : Int) (r : Int) (hr : z6f t0 t1 = some r) : FnP PP 199 [AL 1 z01 t0, I_ t1] (I_ r) := by
  refine Fo (fun (r : Int) => I_ r) Tryz.func199 q (n := 19) q q hr fun X hΨ => ?_
  refine Jq q <| Ra (I_ 0) q q <| R0 <| Js <| Jq q <| Rm (AL 1 z01 t0) q q <| z1a (cc := z01) z2m q q <| Rm (I_ 0) q q ?_
  refine R0 <| z0n <| Jl (fun x1 => [(0, AL 1 z01 t0), (1, I_ t1), (7, I_ (t0.length : Int)), (8, I_ x1)]) (.cons q (.c3 q q q .nil)) (fun E2 hE2 x1 => ?_)
  refine Jq q <| z1o q q q <| R0 <| Js <| z09 q (fun h6 => ?_) (fun h6 => ?_)
  rotate_left
  · exact z1j q <| z0x <| Jq q <| Ra (I_ (-1)) q q <| Rt hΨ q q q
  refine z0e <| Js <| z0n <| Jq q <| Rm (I_ x1) q q <| Ra (I_ x1) q q <| R0 <| Jq q ?_
  refine Rm (I_ t1) q q <| Rm (AL 1 z01 t0) q q <| Rm (I_ x1) q q <| z1b (fun h7 => ?_) (fun _ => z0u)
  refine z2k (cc := z01) z1w q q h7.1 h7.2 q <| z11 (I_ (nth t0 x1)) z1t q q q <| z2y q q q <| R0 <| z09 q (fun h8 => ?_) (fun h8 => ?_)
  · exact Jq q <| Rm (I_ x1) q q <| Ra (I_ x1) q q <| R0 <| z0x <| Jt hΨ (z18 q) q q
  exact z0e <| z0s <| z0o 7 (m := (t0.length : Int)) q fun q9 => z0o 5 (m := x1) q fun q10 => Jr q <| z1l (x1 + 1) q q (z0z (by omega) (by omega)) q <| Rm (I_ (x1 + 1)) q q <| R0 <| z41 <| Jk (hE2 (x1 + 1)) (.cons q (.c3 q q q .nil))
theorem k_slices_Contains_int (t0 : (List Int)) (t1 : Int) (r : Bool) (hr : z3z t0 t1 = some r) : FnP PP 158 [AL 1 z01 t0, I_ t1] (z00 r) := by
  refine Fo (fun (r : Bool) => z00 r) Tryz.func158 q (n := 9) q q hr fun X hΨ => ?_
  refine Jq q <| Ra (z00 false) q q <| R0 <| Jq q <| Rm (AL 1 z01 t0) q q <| Rm (I_ t1) q q <| z0d fun b1 h2 => z0j _ fn_199 (k_slices_Index_int _ _ _ h2) q q ?_
  exact z3c q q q <| Ra (z00 (decide (0 ≤ b1))) q q <| Rt hΨ q q q
theorem k_rule_others (t0 : (List Int)) (t1 : Int) (r : (List Int)) (hr : z8z t0 t1 = some r) : FnP PP 156 [AL 1 z01 t0, I_ t1] (AL 1 z01 r) := by
  refine Fo (fun (r : (List Int)) => AL 1 z01 r) Tryz.func156 q (n := 21) q q hr fun X hΨ => ?_
  refine Jq q <| Ra (z1m) q q <| R0 <| Jq q <| Ra (z1m) q q <| R0 <| Js <| Js ?_
  refine Jr q <| Rm (I_ t1) q q <| Rm (I_ 0) q q <| R0 <| z0n <| Jn (fun x1 => ⟨fr [(0, AL 1 z01 t0), (5, z0i 0), (7, I_ t1), (8, I_ x1.2)], hp [(0, .row 3 1 (x1.1.map z01))], 1⟩) [] [] [0] q (.same q (.cons (A := z1m) q (.nilobj q q) (.s2 q q .nil))) (.new q q .nil) q q (fun E2 hE2 x1 => ?_)
  refine Jq q <| z1o q q q <| R0 <| Js <| z09 q (fun h9 => ?_) (fun h9 => ?_)
  rotate_left
  · exact z1j q <| z0x <| Jq q <| Rm (z0i 0) q q <| Ra (z0i 0) q q <| R0 <| z3g hΨ (z4r q (.tmp (A := z0i 0) q)) (fun y hy => by cases hy; exact (.frow q q (NKC.flat _ _)))
  refine z0e <| Js <| z0n <| Jq q <| Rm (I_ x1.2) q q <| Ra (I_ x1.2) q q <| R0 <| Jq q ?_
  refine Rm (AL 1 z01 t0) q q <| Rm (I_ x1.2) q q <| z0d fun b10 h11 => z0j _ fn_158 (k_slices_Contains_int _ _ _ h11) q q <| z2x q q <| R0 ?_
  apply z2w (fun v14 => ⟨fr [(0, AL 1 z01 t0), (5, z0i 0), (6, I_ x1.2), (7, I_ t1), (8, I_ x1.2), (10, I_ x1.2), (12, I_ x1.2)], hp [(0, .row 3 1 (v14.map z01))], 1⟩) (fun v14 => z9q x1 v14)
  · intro K15
    refine z1v q (fun h12 => ?_) (fun h12 => ?_)
    rotate_left
    · exact z0e <| Jc [] [] [] (K15 x1.1) (.same q (.cons (A := z0i 0) q (.obj q q q) (.s2 q q (.s3 q q q .nil)))) (.cons q q q q (.row (NKC.flat _ _)) q q .nil) q q
    refine Jr q <| Rm (z0i 0) q q <| Rm (I_ x1.2) q q <| r_bs (cc := z01) [x1.2] z1w zr_3_1 (.cons (A := I_ x1.2) q q q .nil) q q q <| z1b (fun h13 => ?_) (fun _ => z0u)
    exact r_app (cc := z01) (xs := x1.1) (ys := [x1.2]) 1 ap_26 q q q h13 q q q <| Ra (z0i 1) q q <| R0 <| Jc [] [(0, 1)] [] (K15 (x1.1 ++ [x1.2])) (.same q (.cons (A := z0i 1) q (.obj q q q) (.s2 q q (.s3 q q q .nil)))) (.cons q q q q (.row (NKC.flat _ _)) q q .nil) q q
  intro v14
  exact z0s <| z0o 7 (m := t1) q fun q16 => z0o 6 (m := x1.2) q fun q17 => Jr q <| z1l (x1.2 + 1) q q (z0z (by omega) (by omega)) q <| Rm (I_ (x1.2 + 1)) q q <| R0 <| z41 <| Jc [] [] [] (hE2 (v14, x1.2 + 1)) (.same q (.cons (A := z0i 0) q (.obj q q q) (.s2 q q .nil))) (.cons q q q q (.row (NKC.flat _ _)) q q .nil) q q
theorem k_rule_created (t0 : z10) (r : (List Int) × (List Int)) (hr : rule_created t0 = some r) : FnP PP 105 [z0w (z0g t0)] (z35 [AL 1 z01 r.1, AL 1 z01 r.2]) := by
  refine Fo (fun (r : (List Int) × (List Int)) => z35 [AL 1 z01 r.1, AL 1 z01 r.2]) Tryz.func105 q (n := 22) q q hr fun X hΨ => ?_
  refine Jq q <| z17 (z0w (z0g t0)) q q <| Ra (z1m) q q <| Ra (z1m) q q <| R0 <| Js <| z2g <| z0f (z0m t0.Into) fo_41_4 q q q <| z0f ((cL 1 z01) t0.Into.Nodes) z6a q q q ?_
  refine z11 (AL 1 z01 t0.Into.Nodes) z1s q q q <| z0f (z0a t0.Right) z3e q q q <| z0f (z07 t0.Right.Graph) z27 q q q <| z0f ((cL 1 z01) t0.Right.Graph.Nodes) z29 q q q <| z11 (AL 1 z01 t0.Right.Graph.Nodes) z1s q q q <| z1a (cc := z01) z2m q q <| z0d fun b1 h2 => z0j _ fn_156 (k_rule_others _ _ _ h2) q q <| z0f (z0m t0.Into) fo_41_4 q q q <| z0f ((cL 1 z01) t0.Into.Edges) z92 q q q ?_
  refine z11 (AL 1 z01 t0.Into.Edges) z1s q q q <| z0f (z0a t0.Right) z3e q q q <| z0f (z07 t0.Right.Graph) z27 q q q <| z0f ((cL 3 z0b) t0.Right.Graph.Edges) z2r q q q <| z11 (AL 3 z0b t0.Right.Graph.Edges) z5o q q q <| z1a (cc := z0b) il_27 q q <| z0d fun b3 h4 => z0j _ fn_156 (k_rule_others _ _ _ h4) q q <| Ra (AL 1 z01 b1) q q <| Ra (AL 1 z01 b3) q q ?_
  exact z1y (by kernel_rfl) <| Jt hΨ (z16 (As := [AL 1 z01 b1, AL 1 z01 b3]) q q (.cons (.tmp (A := AL 1 z01 b1) q) (.cons (.tmp (A := AL 1 z01 b3) q) .nil))) q q
theorem k_slices_IndexFunc_int (t0 : (List Int)) (t1 : (Int → Option Bool)) (r : Int) (hr : z5i t0 t1 = some r) : FnP PP 126 [AL 1 z01 t0, AFn PP (fun x => [I_ x]) (fun y => z00 y) t1] (I_ r) := by
  refine Fo (fun (r : Int) => I_ r) Tryz.func126 q (n := 19) q q hr fun X hΨ => ?_
  refine Jq q <| Ra (I_ 0) q q <| R0 <| Js <| Jq q <| Rm (AL 1 z01 t0) q q <| z1a (cc := z01) z2m q q <| Rm (I_ 0) q q ?_
  refine R0 <| z0n <| Jl (fun x1 => [(0, AL 1 z01 t0), (1, AFn PP (fun x => [I_ x]) (fun y => z00 y) t1), (7, I_ (t0.length : Int)), (8, I_ x1)]) (.cons q (.c3 q q q .nil)) (fun E2 hE2 x1 => ?_)
  refine Jq q <| z1o q q q <| R0 <| Js <| z09 q (fun h8 => ?_) (fun h8 => ?_)
  rotate_left
  · exact z1j q <| z0x <| Jq q <| Ra (I_ (-1)) q q <| Rt hΨ q q q
  refine z0e <| Js <| z0n <| Jq q <| Rm (I_ x1) q q <| Ra (I_ x1) q q <| R0 <| Jq q ?_
  refine Rm (AFn PP (fun x => [I_ x]) (fun y => z00 y) t1) q q <| Rm (AL 1 z01 t0) q q <| Rm (I_ x1) q q <| z1b (fun h9 => ?_) (fun _ => z0u)
  refine z2k (cc := z01) z1w q q h9.1 h9.2 q <| z11 (I_ (nth t0 x1)) z1t q q q <| z0d fun b10 h11 => za6 (ga := (fun x => [I_ x])) (rt := (fun y => z00 y)) (gg := t1) (u := (nth t0 x1)) (w := b10) q q h11 (NK.nk) q <| R0 <| z1v q (fun h12 => ?_) (fun h12 => ?_)
  · exact Jq q <| Rm (I_ x1) q q <| Ra (I_ x1) q q <| R0 <| z0x <| Jt hΨ (z18 q) q q
  exact z0e <| z0s <| z0o 7 (m := (t0.length : Int)) q fun q13 => z0o 5 (m := x1) q fun q14 => Jr q <| z1l (x1 + 1) q q (z0z (by omega) (by omega)) q <| Rm (I_ (x1 + 1)) q q <| R0 <| z41 <| Jk (hE2 (x1 + 1)) (.cons q (.c3 q q q .nil))
theorem z2q (t0 : (List Int)) (t1 : (Int → Option Bool)) (r : Bool) (hr : z1p t0 t1 = some r) : FnP PP 82 [AL 1 z01 t0, AFn PP (fun x => [I_ x]) (fun y => z00 y) t1] (z00 r) := by
  refine Fo (fun (r : Bool) => z00 r) Tryz.func82 q (n := 9) q q hr fun X hΨ => ?_
  refine Jq q <| Ra (z00 false) q q <| R0 <| Jq q <| Rm (AL 1 z01 t0) q q <| Rm (AFn PP (fun x => [I_ x]) (fun y => z00 y) t1) q q <| z0d fun b1 h2 => z0j _ fn_126 (k_slices_IndexFunc_int _ _ _ h2) q q ?_
  exact z3c q q q <| Ra (z00 (decide (0 ≤ b1))) q q <| Rt hΨ q q q
theorem k_graph_within (t0 : Int) (t1 : Int) (r : Bool) (hr : z75 t0 t1 = some r) : FnP PP 136 [I_ t0, I_ t1] (z00 r) := by
  refine Fo (fun (r : Bool) => z00 r) Tryz.func136 q (n := 12) q q hr fun X hΨ => ?_
  refine Jq q <| Ra (z00 false) q q <| R0 <| Jq q <| Rm (I_ t0) q q <| z3c q q q <| Rm (z00 (decide (0 ≤ t0))) q q <| z1b (fun h1 => ?_) (fun h1 => ?_)
  · exact Rm (I_ t0) q (g_t q q (dt h1)) <| Rm (I_ t1) q (g_t q q (dt h1)) <| z8c q q (g_t q q (dt h1)) <| z0k (z00 (decide (t0 ≤ t1))) q (dt h1) q q <| Ra (z00 (decide (t0 ≤ t1))) q q <| Rt hΨ q q q
  exact Rk (z0y q q (df h1)) <| Rk (z0y q q (df h1)) <| Rk (z0y q q (df h1)) <| z0h (z00 false) q (df h1) q q <| Ra (z00 false) q q <| Rt hΨ q q q
theorem k_graph_Valid_1 (t0 : Int) (r : Bool) (hr : graph_Valid_1 t0 = some r) : FnP PP 135 [I_ t0] (z00 r) := by
  refine Fo (fun (r : Bool) => z00 r) Tryz.func135 q (n := 6) q q hr fun X hΨ => ?_
  refine Jq q <| Ra (z00 false) q q <| R0 <| Jq q <| Rm (I_ t0) q q <| z0d fun b1 h2 => z0j _ fn_136 (k_graph_within _ _ _ h2) q q <| z2x q q ?_
  exact Ra (z00 (!b1)) q q <| Rt hΨ q q q
theorem k_slices_IndexFunc_api_Edge (t0 : (List z1e)) (t1 : (z1e → Option Bool)) (r : Int) (hr : z43 t0 t1 = some r) : FnP PP 180 [AL 3 z0b t0, AFn PP (fun x => [z0w (z0b x)]) (fun y => z00 y) t1] (I_ r) := by
  refine Fo (fun (r : Int) => I_ r) Tryz.func180 q (n := 19) q q hr fun X hΨ => ?_
  refine Jq q <| Ra (I_ 0) q q <| R0 <| Js <| Jq q <| Rm (AL 3 z0b t0) q q <| z1a (cc := z0b) il_27 q q <| Rm (I_ 0) q q ?_
  refine R0 <| z0n <| Jl (fun x1 => [(0, AL 3 z0b t0), (1, AFn PP (fun x => [z0w (z0b x)]) (fun y => z00 y) t1), (7, I_ (t0.length : Int)), (8, I_ x1)]) (.cons q (.c3 q q q .nil)) (fun E2 hE2 x1 => ?_)
  refine Jq q <| z1o q q q <| R0 <| Js <| z09 q (fun h8 => ?_) (fun h8 => ?_)
  rotate_left
  · exact z1j q <| z0x <| Jq q <| Ra (I_ (-1)) q q <| Rt hΨ q q q
  refine z0e <| Js <| z0n <| Jq q <| Rm (I_ x1) q q <| Ra (I_ x1) q q <| R0 <| Jq q ?_
  refine Rm (AFn PP (fun x => [z0w (z0b x)]) (fun y => z00 y) t1) q q <| Rm (AL 3 z0b t0) q q <| Rm (I_ x1) q q <| z1b (fun h9 => ?_) (fun _ => z0u)
  refine z2k (cc := z0b) el_27 q q h9.1 h9.2 q <| z14 (z0b (nth t0 x1)) ag_77 q q q q <| z0d fun b10 h11 => za6 (ga := (fun x => [z0w (z0b x)])) (rt := (fun y => z00 y)) (gg := t1) (u := (nth t0 x1)) (w := b10) q q h11 (NK.nk) q <| R0 <| z1v q (fun h12 => ?_) (fun h12 => ?_)
  · exact Jq q <| Rm (I_ x1) q q <| Ra (I_ x1) q q <| R0 <| z0x <| Jt hΨ (z18 q) q q
  exact z0e <| z0s <| z0o 7 (m := (t0.length : Int)) q fun q13 => z0o 5 (m := x1) q fun q14 => Jr q <| z1l (x1 + 1) q q (z0z (by omega) (by omega)) q <| Rm (I_ (x1 + 1)) q q <| R0 <| z41 <| Jk (hE2 (x1 + 1)) (.cons q (.c3 q q q .nil))
theorem z4c (t0 : (List z1e)) (t1 : (z1e → Option Bool)) (r : Bool) (hr : z1u t0 t1 = some r) : FnP PP 137 [AL 3 z0b t0, AFn PP (fun x => [z0w (z0b x)]) (fun y => z00 y) t1] (z00 r) := by
  refine Fo (fun (r : Bool) => z00 r) Tryz.func137 q (n := 9) q q hr fun X hΨ => ?_
  refine Jq q <| Ra (z00 false) q q <| R0 <| Jq q <| Rm (AL 3 z0b t0) q q <| Rm (AFn PP (fun x => [z0w (z0b x)]) (fun y => z00 y) t1) q q <| z0d fun b1 h2 => z0j _ fn_180 (k_slices_IndexFunc_api_Edge _ _ _ h2) q q ?_
  exact z3c q q q <| Ra (z00 (decide (0 ≤ b1))) q q <| Rt hΨ q q q
theorem k_graph_fits (t0 : z1e) (t1 : Int) (r : Bool) (hr : graph_fits t0 t1 = some r) : FnP PP 139 [z0w (z0b t0), I_ t1] (z00 r) := by
  refine Fo (fun (r : Bool) => z00 r) Tryz.func139 q (n := 22) q q hr fun X hΨ => ?_
  refine Jq q <| z17 (z0w (z0b t0)) q q <| Ra (z00 false) q q <| R0 <| Jq q <| z0f (z01 t0.Type_) z77 q q q <| z11 (I_ t0.Type_) z1t q q q <| z0d fun b1 h2 => ?_
  refine z0j _ fn_136 (k_graph_within _ _ _ h2) q q <| Rm (z00 b1) q q <| z1b (fun h3 => ?_) (fun h3 => ?_)
  rotate_left
  · refine Rk (z0y q q (bf h3)) <| Rk (z0y q q (bf h3)) <| Rk (z0y q q (bf h3)) <| Rk (z0y q q (bf h3)) <| Rk (z0y q q (bf h3)) <| z0h (z00 false) q (bf h3) q q <| Rm (z00 false) q q <| Rk (z0y q q q) <| Rk (z0y q q q) <| Rk (z0y q q q) ?_
    exact Rk (z0y q q q) <| Rk (z0y q q q) <| z0h (z00 false) q q q q <| Ra (z00 false) q q <| Rt hΨ q q q
  refine z0f (z01 t0.From) zaf q q (g_t q q h3) <| z11 (I_ t0.From) z1t q q (g_t q q h3) <| Rm (I_ t1) q (g_t q q h3) <| z0d fun b4 h5 => z7z b4 q q (Option.some.inj h5) (g_t q q h3) <| z0d fun b6 h7 => z0j _ fn_136 (k_graph_within _ _ _ h7) q (g_t q q h3) <| z0k (z00 b6) q h3 q q <| Rm (z00 b6) q q <| z1b (fun h8 => ?_) (fun h8 => ?_)
  rotate_left
  · exact Rk (z0y q q (bf h8)) <| Rk (z0y q q (bf h8)) <| Rk (z0y q q (bf h8)) <| Rk (z0y q q (bf h8)) <| Rk (z0y q q (bf h8)) <| z0h (z00 false) q (bf h8) q q <| Ra (z00 false) q q <| Rt hΨ q q q
  refine z0f (z01 t0.To) zae q q (g_t q q h8) <| z11 (I_ t0.To) z1t q q (g_t q q h8) <| Rm (I_ t1) q (g_t q q h8) <| z0d fun b9 h10 => z7z b9 q q (Option.some.inj h10) (g_t q q h8) <| z0d fun b11 h12 => z0j _ fn_136 (k_graph_within _ _ _ h12) q (g_t q q h8) <| z0k (z00 b11) q h8 q q <| Ra (z00 b11) q q <| R0 ?_
  exact Jt hΨ (z18 q) q q
theorem k_graph_Valid_2 (t0 : z1e) (t1 : z0p) (r : Bool) (hr : zad t0 t1 = some r) : FnP PP 138 [z0w (z0b t0), z1r (z07 t1)] (z00 r) := by
  refine Fo (fun (r : Bool) => z00 r) Tryz.func138 q (n := 10) q q hr fun X hΨ => ?_
  refine Jq q <| z17 (z0w (z0b t0)) q q <| Ra (z00 false) q q <| R0 <| Jq q <| z14 (z0b t0) ag_77 q q q q <| z0f ((cL 1 z01) t1.Nodes) z29 q q q <| z11 (AL 1 z01 t1.Nodes) z1s q q q ?_
  exact z1a (cc := z01) z2m q q <| z0d fun b1 h2 => z0j _ fn_139 (k_graph_fits _ _ _ h2) q q <| z2x q q <| Ra (z00 (!b1)) q q <| Rt hΨ q q q
theorem zac (t0 : z0p) (r : Int) (hr : z76 t0 = some r) : FnP PP 86 [z0w (z07 t0)] (I_ r) := by
  refine Fo (fun (r : Int) => I_ r) Tryz.func86 q (n := 20) q q hr fun X hΨ => ?_
  refine Jq q <| z17 (z0w (z07 t0)) q q <| Ra (I_ 0) q q <| R0 <| Js <| Jq q <| z0f ((cL 1 z01) t0.Nodes) z29 q q q <| z11 (AL 1 z01 t0.Nodes) z1s q q q ?_
  refine z1a (cc := z01) z2m q q <| z3a q q q <| Rm (z00 (decide (40 < (t0.Nodes.length : Int)))) q q <| z1b (fun h1 => ?_) (fun h1 => ?_)
  · refine Rk (z0v q q (dt h1)) <| Rk (z0v q q (dt h1)) <| Rk (z0v q q (dt h1)) <| Rk (z0v q q (dt h1)) <| z0k (z00 true) q (dt h1) q q <| R0 <| z1d q q <| Jq q <| Ra (I_ 3) q q ?_
    exact Rt hΨ q q q
  refine z0f ((cL 3 z0b) t0.Edges) z2r q q (g_f q q (df h1)) <| z11 (AL 3 z0b t0.Edges) z5o q q (g_f q q (df h1)) <| z1a (cc := z0b) il_27 q (g_f q q (df h1)) <| z3a q q (g_f q q (df h1)) <| z0h (z00 (decide (80 < (t0.Edges.length : Int)))) q (df h1) q q <| R0 <| z09 q (fun h2 => ?_) (fun h2 => ?_)
  · exact Jq q <| Ra (I_ 3) q q <| Rt hΨ q q q
  refine z0e <| Js <| Jq q <| z0f ((cL 1 z01) t0.Nodes) z29 q q q <| z11 (AL 1 z01 t0.Nodes) z1s q q q <| z0d fun b3 h4 => r_callB [] [AL 1 z01 t0.Nodes, z3n 135 []] fn_82 (z2q _ _ _ h4) .nil q (.cons .same (.cons (.cloFn fn_135 (fun x y h => k_graph_Valid_1 x y h)) .nil)) q <| R0 <| z1v q (fun h5 => ?_) (fun h5 => ?_)
  · exact Jq q <| Ra (I_ 6) q q <| Rt hΨ q q q
  refine z0e <| Js <| Jq q <| z0f ((cL 3 z0b) t0.Edges) z2r q q q <| z11 (AL 3 z0b t0.Edges) z5o q q q <| r_mkFn [z1r (z07 t0)] (fun x => [z0w (z0b x)]) (fun y => z00 y) (fun x => zad x t0) fn_138 q (fun x y h => k_graph_Valid_2 x t0 y h) q <| z0d fun b6 h7 => z0j _ fn_137 (z4c _ _ _ h7) q q <| R0 ?_
  refine z1v q (fun h8 => ?_) (fun h8 => ?_)
  · exact Jq q <| Ra (I_ 6) q q <| Rt hΨ q q q
  exact z0e <| Jq q <| Ra (I_ 0) q q <| Rt hΨ q q q
theorem k_attribute_Valid_1 (t0 : Int) (t1 : z06) (r : Bool) (hr : z5v t0 t1 = some r) : FnP PP 184 [I_ t0, z1r (z02 t1)] (z00 r) := by
  refine Fo (fun (r : Bool) => z00 r) Tryz.func184 q (n := 9) q q hr fun X hΨ => ?_
  refine Jq q <| Ra (z00 false) q q <| R0 <| Jq q <| Rm (I_ t0) q q <| z0f ((cL 4 z03) t1.Nodes) z2i q q q <| z11 (AL 4 z03 t1.Nodes) z4z q q q <| z1a (cc := z03) z9h q q ?_
  exact z3c q q q <| Ra (z00 (decide ((t1.Nodes.length : Int) ≤ t0))) q q <| Rt hΨ q q q
theorem k_attribute_Valid_2 (t0 : z1e) (t1 : z06) (r : Bool) (hr : z5u t0 t1 = some r) : FnP PP 185 [z0w (z0b t0), z1r (z02 t1)] (z00 r) := by
  refine Fo (fun (r : Bool) => z00 r) Tryz.func185 q (n := 10) q q hr fun X hΨ => ?_
  refine Jq q <| z17 (z0w (z0b t0)) q q <| Ra (z00 false) q q <| R0 <| Jq q <| z0f (z01 t0.Type_) z77 q q q <| z11 (I_ t0.Type_) z1t q q q <| z0f ((cL 7 z0c) t1.Edges) z3w q q q ?_
  exact z11 (AL 7 z0c t1.Edges) sc_23 q q q <| z1a (cc := z0c) il_23 q q <| z3c q q q <| Ra (z00 (decide ((t1.Edges.length : Int) ≤ t0.Type_))) q q <| Rt hΨ q q q
theorem z59 (t0 : Int) (t1 : Int) (t2 : Int) (r : Bool) (hr : z3t t0 t1 t2 = some r) : FnP PP 186 [I_ t0, I_ t1, I_ t2] (z00 r) := by
  refine Fo (fun (r : Bool) => z00 r) Tryz.func186 q (n := 15) q q hr fun X hΨ => ?_
  refine Jq q <| Ra (z00 false) q q <| R0 <| Jq q <| Rm (I_ t0) q q <| Rm (I_ t1) q q <| z3c q q q <| Rm (z00 (decide (t1 ≤ t0))) q q ?_
  refine z1b (fun h1 => ?_) (fun h1 => ?_)
  · exact Rm (I_ t0) q (g_t q q (dt h1)) <| Rm (I_ t2) q (g_t q q (dt h1)) <| z8c q q (g_t q q (dt h1)) <| z0k (z00 (decide (t0 ≤ t2))) q (dt h1) q q <| Ra (z00 (decide (t0 ≤ t2))) q q <| Rt hΨ q q q
  exact Rk (z0y q q (df h1)) <| Rk (z0y q q (df h1)) <| Rk (z0y q q (df h1)) <| z0h (z00 false) q (df h1) q q <| Ra (z00 false) q q <| Rt hΨ q q q
theorem k_types_given_1 (t0 : Int) (t1 : z06) (r : Bool) (hr : z9l t0 t1 = some r) : FnP PP 157 [I_ t0, z1r (z02 t1)] (z00 r) := by
  refine Fo (fun (r : Bool) => z00 r) Tryz.func157 q (n := 13) q q hr fun X hΨ => ?_
  refine Jq q <| Ra (z00 false) q q <| R0 <| Jq q <| Rm (I_ t0) q q <| z1o q q q <| Rm (z00 (decide (t0 < 0))) q q <| z1b (fun h1 => ?_) (fun h1 => ?_)
  · exact Rk (z0v q q (dt h1)) <| Rk (z0v q q (dt h1)) <| Rk (z0v q q (dt h1)) <| Rk (z0v q q (dt h1)) <| Rk (z0v q q (dt h1)) <| z0k (z00 true) q (dt h1) q q <| Ra (z00 true) q q <| Rt hΨ q q q
  exact Rm (I_ t0) q (g_f q q (df h1)) <| z0f ((cL 4 z03) t1.Nodes) z2i q q (g_f q q (df h1)) <| z11 (AL 4 z03 t1.Nodes) z4z q q (g_f q q (df h1)) <| z1a (cc := z03) z9h q (g_f q q (df h1)) <| z3c q q (g_f q q (df h1)) <| z0h (z00 (decide ((t1.Nodes.length : Int) ≤ t0))) q (df h1) q q <| Ra (z00 (decide ((t1.Nodes.length : Int) ≤ t0))) q q <| Rt hΨ q q q
theorem k_types_given (t0 : z06) (t1 : (List Int)) (r : Int) (hr : types_given t0 t1 = some r) : FnP PP 106 [z0w (z02 t0), AL 1 z01 t1] (I_ r) := by
  refine Fo (fun (r : Int) => I_ r) Tryz.func106 q (n := 18) q q hr fun X hΨ => ?_
  refine Jq q <| z17 (z0w (z02 t0)) q q <| Ra (I_ 0) q q <| R0 <| Js <| Jq q <| z14 (z02 t0) z2j q q q q <| z0d fun b1 h2 => ?_
  refine z0j _ fn_31 (za7 _ _ h2) q q <| Rm (z35 [z1h b1.1, I_ b1.2]) q q <| z20 (z1h b1.1) q q q <| z20 (I_ b1.2) q q q <| Ra (z1h b1.1) q q <| Ra (I_ b1.2) q q <| R0 <| Jq q <| Rm (I_ b1.2) q q ?_
  refine z2a q q q <| R0 <| z09 q (fun h3 => ?_) (fun h3 => ?_)
  · exact Jq q <| Rm (I_ b1.2) q q <| Ra (I_ b1.2) q q <| Rt hΨ q q q
  refine z0e <| Js <| Jq q <| Rm (AL 1 z01 t1) q q <| r_mkFn [z1r (z02 t0)] (fun x => [I_ x]) (fun y => z00 y) (fun x => z9l x t0) fn_157 q (fun x y h => k_types_given_1 x t0 y h) q <| z0d fun b4 h5 => z0j _ fn_82 (z2q _ _ _ h5) q q <| R0 <| z1v q (fun h6 => ?_) (fun h6 => ?_)
  · exact Jq q <| Ra (I_ 6) q q <| Rt hΨ q q q
  exact z0e <| Jq q <| Ra (I_ 0) q q <| Rt hΨ q q q
theorem k_slices_Clone_string (t0 : (List ByteArray)) (r : (List ByteArray)) (hr : z66 t0 = some r) : FnP PP 239 [AL 1 z23 t0] (AL 1 z23 r) := by
  refine Fo (fun (r : (List ByteArray)) => AL 1 z23 r) Tryz.func239 q (n := 8) q q hr fun X hΨ => ?_
  refine Jq q <| Ra (z1m) q q <| R0 <| Js <| Jq q <| Rm (AL 1 z23 t0) q q <| r_eqNil (cc := z23) ut_98 q q q <| R0 ?_
  refine J_condNil q (fun h2 => ?_) ?_
  · obtain rfl := List.eq_nil_of_length_eq_zero h2
    exact Jq q <| Ra (z1m) q q <| R0 <| z3g hΨ (z4r q (.tmp (A := z1m) q)) (fun y hy => by unfold z66 at hy; simp at hy; subst hy; exact .nil)
  refine z0e <| Jq q <| r_bs0 0 el_98 q q <| Rm (AL 1 z23 t0) q q <| z1b (fun h1 => ?_) (fun _ => z0u)
  exact r_app0 (cc := z23) (ys := t0) 1 ap_98 q q q h1 q q q <| Ra (z0i 1) q q <| R0 <| z3g hΨ (z4r q (.tmp (A := z0i 1) q)) (fun y hy => by cases hy; exact (.frow q q (NKC.flat _ _)))
theorem k_types_Attrs (t0 : z06) (t1 : Int) (r : (List z0r) × Int) (hr : types_Attrs t0 t1 = some r) : FnP PP 223 [z0w (z02 t0), I_ t1] (z35 [AL 4 z08 r.1, I_ r.2]) := by
  refine Fo (fun (r : (List z0r) × Int) => z35 [AL 4 z08 r.1, I_ r.2]) Tryz.func223 q (n := 36) q q hr fun X hΨ => ?_
  refine Jq q <| z17 (z0w (z02 t0)) q q <| Ra (z1m) q q <| Ra (I_ 0) q q <| R0 <| Js <| Jq q <| z14 (z02 t0) z2j q q q q ?_
  refine Rm (I_ t1) q q <| r_bs (cc := z01) [t1] z1w zr_3_1 (.cons (A := I_ t1) q q q .nil) q q q <| z0d fun b1 h2 => z0j _ fn_106 (k_types_given _ _ _ h2) q q <| Ra (I_ b1) q q <| R0 <| Jq q <| Rm (I_ b1) q q <| z2a q q q ?_
  refine R0 <| z09 q (fun h3 => ?_) (fun h3 => ?_)
  · exact Jq q <| Rm (I_ b1) q q <| Ra (z1m) q q <| Ra (I_ b1) q q <| R0 <| z3g hΨ (z16 (As := [z1m, I_ b1]) q q (.cons (.tmp (A := z1m) q) (.cons (.tmp (A := I_ b1) q) .nil))) (fun y hy => by cases hy; exact (.tup (.cons .nil (.cons .same .nil))))
  refine z0e <| Jq q <| z14 (z02 t0) z2j q q q q <| Rm (I_ t1) q q <| z0d fun b4 h5 => r_callK [] [] [] [0] 1 [] [(0, .row 100 4 (b4.map z08))] (z0i 0) [z0w (z02 t0), I_ t1] fn_97 (k_types_attrs _ _ _ h5) .nil q (.cons .same (.cons .same .nil)) .nil (.cons q q q q (.row (NKC.flat _ _)) q q .nil) (.obj q q q) q q q <| Ra (z0i 0) q q <| R0 <| Js ?_
  refine Jq q <| Rm (z0i 0) q q <| r_lenO (cc := z08) b4 il_95 q q q <| Rm (I_ 0) q q <| R0 <| z0n <| Jn (fun x6 => ⟨fr [(5, I_ 0), (6, I_ b1), (7, z0i 0), (12, I_ b1), (13, I_ b1), (20, I_ (b4.length : Int)), (21, I_ x6.2)], hp [(0, .row 100 4 (x6.1.map z08))], 1⟩) [] [] [] q (.s2 q q (.cons (A := z0i 0) q (.obj q q q) (.same q (.s3 q q q .nil)))) (.cons q q q q (.row (NKC.flat _ _)) q q .nil) q q (fun E7 hE7 x6 => ?_)
  refine Jq q <| z1o q q q <| R0 <| Js <| z09 q (fun h12 => ?_) (fun h12 => ?_)
  rotate_left
  · exact z1j q <| z0x <| Jq q <| Rm (z0i 0) q q <| Ra (z0i 0) q q <| Ra (I_ 0) q q <| R0 <| z3g hΨ (z16 (As := [z0i 0, I_ 0]) q q (.cons (.tmp (A := z0i 0) q) (.cons (.tmp (A := I_ 0) q) .nil))) (fun y hy => by cases hy; exact (.tup (.cons (.frow q q (NKC.flat _ _)) (.cons .same .nil))))
  refine z0e <| Js <| z0n <| Jq q <| Rm (I_ x6.2) q q <| Ra (I_ x6.2) q q <| R0 <| Jr q <| Rm (z0i 0) q q ?_
  refine Rm (I_ x6.2) q q <| Rm (z0i 0) q q <| Rm (I_ x6.2) q q <| z1b (fun h13 => ?_) (fun _ => z0u)
  refine r_ixO (cc := z08) el_95 q q q h13.1 h13.2 q <| r_faR z7t q q <| r_ldR (cc := z08) x6.2 3 (AL 1 z23 ((nth x6.1 x6.2).Names)) sc_98 q q h13.1 h13.2 q q <| z0d fun b14 h15 => z0j _ fn_239 (k_slices_Clone_string _ _ h15) q q <| r_ixO (cc := z08) el_95 q q q h13.1 h13.2 q <| r_faR z7t q q <| r_stR (cc := z08) x6.2 3 (AL 1 z23 b14) (z0r.mk ((nth x6.1 x6.2).Name) ((nth x6.1 x6.2).Low) ((nth x6.1 x6.2).High) b14) sz_98 q q q h13.1 h13.2 q q q q <| R0 <| z0s ?_
  exact z0o 20 (m := (b4.length : Int)) q fun q16 => z0o 8 (m := x6.2) q fun q17 => Jr q <| z1l (x6.2 + 1) q q (z0z (by omega) (by omega)) q <| Rm (I_ (x6.2 + 1)) q q <| R0 <| z41 <| Jc [] [] [] (hE7 ((x6.1.set x6.2.toNat (z0r.mk ((nth x6.1 x6.2).Name) ((nth x6.1 x6.2).Low) ((nth x6.1 x6.2).High) b14)), x6.2 + 1)) (.s2 q q (.cons (A := z0i 0) q (.obj q q q) (.same q (.s3 q q q .nil)))) (.cons q q q q (.row (NKC.flat _ _)) q q .nil) q q
theorem k_attribute_attr (t0 : z06) (t1 : z0q) (t2 : z38) (r : z0r × Bool) (hr : attribute_attr t0 t1 t2 = some r) : FnP PP 187 [z0w (z02 t0), z0w (z0a t1), z0w (z0l t2)] (z35 [z0w (z08 r.1), z00 r.2]) := by
  refine Fo (fun (r : z0r × Bool) => z35 [z0w (z08 r.1), z00 r.2]) Tryz.func187 q (n := 45) q q hr fun X hΨ => ?_
  refine Jq q <| z17 (z0w (z02 t0)) q q <| z17 (z0w (z0a t1)) q q <| z17 (z0w (z0l t2)) q q <| z1x 0 _ z_100 q q <| Ra (z00 false) q q <| R0 <| Js <| Js ?_
  refine Jr q <| z0f (z01 t2.Node) z7s q q q <| z11 (I_ t2.Node) z1t q q q <| z0f (z07 t1.Graph) z27 q q q <| z0f ((cL 1 z01) t1.Graph.Nodes) z29 q q q <| z11 (AL 1 z01 t1.Graph.Nodes) z1s q q q <| z1a (cc := z01) z2m q q <| z0d fun b1 h2 => z7z b1 q q (Option.some.inj h2) q <| z0d fun b3 h4 => ?_
  refine z0j _ fn_186 (z59 _ _ _ _ h4) q q <| z2x q q <| R0 <| z1v q (fun h5 => ?_) (fun h5 => ?_)
  · exact Jq q <| z4p (Cs := [z1h (ByteArray.mk #[]), I_ 0, I_ 0, z1m]) (z08 (z0r.mk (ByteArray.mk #[]) 0 0 [])) pl_100 z_100 .nil q (.same (.same (.same (.nl .nil)))) q <| z2p (z0i 0) (z0w (z08 (z0r.mk (ByteArray.mk #[]) 0 0 []))) (z08 (z0r.mk (ByteArray.mk #[]) 0 0 [])) sz_100 q .obj q q q q q q <| Ra (z00 false) q q <| R0 <| Jt hΨ (z16 (As := [z0w (z08 (z0r.mk (ByteArray.mk #[]) 0 0 [])), z00 false]) q q (.cons (.boxA (cs := (z08 (z0r.mk (ByteArray.mk #[]) 0 0 []))) ag_100 q q q) (.cons (.tmp (A := z00 false) q) .nil))) q q
  refine z0e <| Js <| z2g <| z14 (z02 t0) z2j q q q q <| z0f (z07 t1.Graph) z27 q q q <| z0f ((cL 1 z01) t1.Graph.Nodes) z29 q q q <| z11 (AL 1 z01 t1.Graph.Nodes) z1s q q q <| z0f (z01 t2.Node) z7s q q q <| z11 (I_ t2.Node) z1t q q q <| z1b (fun h6 => ?_) (fun _ => z0u)
  refine z2k (cc := z01) z1w q q h6.1 h6.2 q <| z11 (I_ (nth t1.Graph.Nodes t2.Node)) z1t q q q <| z0d fun b7 h8 => z0j _ fn_223 (k_types_Attrs _ _ _ h8) q q <| Rm (z35 [AL 4 z08 b7.1, I_ b7.2]) q q <| z20 (AL 4 z08 b7.1) q q q <| z20 (I_ b7.2) q q q <| Ra (AL 4 z08 b7.1) q q <| Ra (I_ b7.2) q q <| z1y (by kernel_rfl) ?_
  refine Js <| Jq q <| z0f (z01 t2.Attr) zag q q q <| z11 (I_ t2.Attr) z1t q q q <| Rm (AL 4 z08 b7.1) q q <| z1a (cc := z08) il_95 q q <| z0d fun b9 h10 => z7z b9 q q (Option.some.inj h10) q <| z0d fun b11 h12 => ?_
  refine z0j _ fn_186 (z59 _ _ _ _ h12) q q <| z2x q q <| R0 <| z1v q (fun h13 => ?_) (fun h13 => ?_)
  · exact Jq q <| z4p (Cs := [z1h (ByteArray.mk #[]), I_ 0, I_ 0, z1m]) (z08 (z0r.mk (ByteArray.mk #[]) 0 0 [])) pl_100 z_100 .nil q (.same (.same (.same (.nl .nil)))) q <| z2p (z0i 0) (z0w (z08 (z0r.mk (ByteArray.mk #[]) 0 0 []))) (z08 (z0r.mk (ByteArray.mk #[]) 0 0 [])) sz_100 q .obj q q q q q q <| Ra (z00 false) q q <| R0 <| Jt hΨ (z16 (As := [z0w (z08 (z0r.mk (ByteArray.mk #[]) 0 0 [])), z00 false]) q q (.cons (.boxA (cs := (z08 (z0r.mk (ByteArray.mk #[]) 0 0 []))) ag_100 q q q) (.cons (.tmp (A := z00 false) q) .nil))) q q
  refine z0e <| Jq q <| Rm (AL 4 z08 b7.1) q q <| z0f (z01 t2.Attr) zag q q q <| z11 (I_ t2.Attr) z1t q q q <| z1b (fun h14 => ?_) (fun _ => z0u)
  exact z2k (cc := z08) el_95 q q h14.1 h14.2 q <| z14 (z08 (nth b7.1 t2.Attr)) ag_100 q q q q <| z2p (z0i 0) (z0w (z08 (nth b7.1 t2.Attr))) (z08 (nth b7.1 t2.Attr)) sz_100 q .obj q q q q q q <| Ra (z00 true) q q <| R0 <| Jt hΨ (z16 (As := [z0w (z08 (nth b7.1 t2.Attr)), z00 true]) q q (.cons (.boxA (cs := (z08 (nth b7.1 t2.Attr))) ag_100 q q q) (.cons (.tmp (A := z00 true) q) .nil))) q q
theorem k_difference_term (t0 : Int) (t1 : z4i) (r : Bool) (hr : z78 t0 t1 = some r) : FnP PP 240 [I_ t0, z0w (z2s t1)] (z00 r) := by
  refine Fo (fun (r : Bool) => z00 r) Tryz.func240 q (n := 24) q q hr fun X hΨ => ?_
  refine Jq q <| z17 (z0w (z2s t1)) q q <| Ra (z00 false) q q <| R0 <| Jq q <| z0f (z01 t1.Var) z5l q q q <| z11 (I_ t1.Var) z1t q q q <| z3c q q q ?_
  refine Rm (z00 (decide ((-1) ≤ t1.Var))) q q <| z1b (fun h1 => ?_) (fun h1 => ?_)
  rotate_left
  · refine Rk (z0y q q (df h1)) <| Rk (z0y q q (df h1)) <| Rk (z0y q q (df h1)) <| Rk (z0y q q (df h1)) <| z0h (z00 false) q (df h1) q q <| Rm (z00 false) q q <| Rk (z0y q q q) <| Rk (z0y q q q) <| Rk (z0y q q q) <| z0h (z00 false) q q q q ?_
    exact Rm (z00 false) q q <| Rk (z0y q q q) <| Rk (z0y q q q) <| Rk (z0y q q q) <| z0h (z00 false) q q q q <| Ra (z00 false) q q <| Rt hΨ q q q
  refine z0f (z01 t1.Var) z5l q q (g_t q q (dt h1)) <| z11 (I_ t1.Var) z1t q q (g_t q q (dt h1)) <| Rm (I_ t0) q (g_t q q (dt h1)) <| z1o q q (g_t q q (dt h1)) <| z0k (z00 (decide (t1.Var < t0))) q (dt h1) q q <| Rm (z00 (decide (t1.Var < t0))) q q <| z1b (fun h2 => ?_) (fun h2 => ?_)
  rotate_left
  · refine Rk (z0y q q (df h2)) <| Rk (z0y q q (df h2)) <| Rk (z0y q q (df h2)) <| z0h (z00 false) q (df h2) q q <| Rm (z00 false) q q <| Rk (z0y q q q) <| Rk (z0y q q q) <| Rk (z0y q q q) <| z0h (z00 false) q q q q <| Ra (z00 false) q q ?_
    exact Rt hΨ q q q
  refine z0f (z01 t1.Add) fo_154_1 q q (g_t q q (dt h2)) <| z11 (I_ t1.Add) z1t q q (g_t q q (dt h2)) <| z3c q q (g_t q q (dt h2)) <| z0k (z00 (decide ((-1000000) ≤ t1.Add))) q (dt h2) q q <| Rm (z00 (decide ((-1000000) ≤ t1.Add))) q q <| z1b (fun h3 => ?_) (fun h3 => ?_)
  · exact z0f (z01 t1.Add) fo_154_1 q q (g_t q q (dt h3)) <| z11 (I_ t1.Add) z1t q q (g_t q q (dt h3)) <| z8c q q (g_t q q (dt h3)) <| z0k (z00 (decide (t1.Add ≤ 1000000))) q (dt h3) q q <| Ra (z00 (decide (t1.Add ≤ 1000000))) q q <| Rt hΨ q q q
  exact Rk (z0y q q (df h3)) <| Rk (z0y q q (df h3)) <| Rk (z0y q q (df h3)) <| z0h (z00 false) q (df h3) q q <| Ra (z00 false) q q <| Rt hΨ q q q
theorem k_difference_one (t0 : Int) (t1 : z3x) (r : Int) (hr : difference_one t0 t1 = some r) : FnP PP 224 [I_ t0, z0w (z13 t1)] (I_ r) := by
  refine Fo (fun (r : Int) => I_ r) Tryz.func224 q (n := 27) q q hr fun X hΨ => ?_
  refine Jq q <| z17 (z0w (z13 t1)) q q <| Ra (I_ 0) q q <| R0 <| Js <| z0n <| Js ?_
  apply z2w (fun v9 => ⟨fr [(0, I_ t0), (3, z1r (z13 t1)), (7, I_ t1.Kind)], fun _ => none, 0⟩) (fun v9 => z5s t0 t1 v9)
  · intro K16
    refine Jr q <| z0f (z01 t1.Kind) fo_200_0 q q q <| z11 (I_ t1.Kind) z1t q q q <| z2a q q q <| Rm (z00 (decide (¬ (t1.Kind = 1)))) q q <| z1b (fun h1 => ?_) (fun h1 => ?_)
    rotate_left
    · exact Rk (z0y q q (df h1)) <| Rk (z0y q q (df h1)) <| Rk (z0y q q (df h1)) <| z0h (z00 false) q (df h1) q q <| Ra (z00 false) q q <| R0 <| J_cond_F q q <| Jk (K16 ()) (.c3 q q q .nil)
    refine z0f (z01 t1.Kind) fo_200_0 q q (g_t q q (dt h1)) <| z11 (I_ t1.Kind) z1t q q (g_t q q (dt h1)) <| z2a q q (g_t q q (dt h1)) <| z0k (z00 (decide (¬ (t1.Kind = 2)))) q (dt h1) q q <| Ra (z00 (decide (¬ (t1.Kind = 2)))) q q <| R0 <| z09 q (fun h2 => ?_) (fun h2 => ?_)
    rotate_left
    · exact Jk (K16 ()) (.c3 q q q .nil)
    exact Jq q <| Ra (I_ 1) q q <| Rt hΨ q q q
  intro v9
  refine Jq q <| Rm (I_ t0) q q <| z0f (z2s t1.Left) fo_200_1 q q q <| z14 (z2s t1.Left) ag_154 q q q q <| z0d fun b10 h11 => z0j _ fn_240 (k_difference_term _ _ _ h11) q q <| z2x q q <| Rm (z00 (!b10)) q q <| z1b (fun h12 => ?_) (fun h12 => ?_)
  · refine Rk (z0v q q h12) <| Rk (z0v q q h12) <| Rk (z0v q q h12) <| Rk (z0v q q h12) <| Rk (z0v q q h12) <| z0k (z00 true) q h12 q q <| Ra (z00 true) q q <| R0 <| z1d q q <| Js ?_
    exact Jr q <| Ra (I_ 6) q q <| Rt hΨ q q q
  refine Rm (I_ t0) q (g_f q q (bf h12)) <| z0f (z2s t1.Right) fo_200_2 q q (g_f q q (bf h12)) <| z14 (z2s t1.Right) ag_154 q q q (g_f q q (bf h12)) <| z0d fun b13 h14 => z0j _ fn_240 (k_difference_term _ _ _ h14) q (g_f q q (bf h12)) <| z2x q (g_f q q (bf h12)) <| z0h (z00 (!b13)) q (bf h12) q q <| Ra (z00 (!b13)) q q <| R0 <| z1v q (fun h15 => ?_) (fun h15 => ?_)
  · exact Jq q <| Ra (I_ 6) q q <| Rt hΨ q q q
  exact z0e <| z0s <| Jq q <| Ra (I_ 0) q q <| Rt hΨ q q q
theorem k_difference_Valid (t0 : Int) (t1 : (List z3x)) (r : Int) (hr : z8t t0 t1 = some r) : FnP PP 188 [I_ t0, AL 5 z13 t1] (I_ r) := by
  refine Fo (fun (r : Int) => I_ r) Tryz.func188 q (n := 30) q q hr fun X hΨ => ?_
  refine Jq q <| Ra (I_ 0) q q <| R0 <| Js <| Jq q <| Rm (I_ t0) q q <| z1o q q q <| Rm (z00 (decide (t0 < 0))) q q ?_
  refine z1b (fun h1 => ?_) (fun h1 => ?_)
  · exact Rk (z0v q q (dt h1)) <| Rk (z0v q q (dt h1)) <| z0k (z00 true) q (dt h1) q q <| R0 <| z1d q q <| Jq q <| Ra (I_ 6) q q <| Rt hΨ q q q
  refine Rm (I_ t0) q (g_f q q (df h1)) <| z3a q q (g_f q q (df h1)) <| z0h (z00 (decide (12 < t0))) q (df h1) q q <| R0 <| z09 q (fun h2 => ?_) (fun h2 => ?_)
  · exact Jq q <| Ra (I_ 6) q q <| Rt hΨ q q q
  refine z0e <| Js <| Jq q <| Rm (AL 5 z13 t1) q q <| z1a (cc := z13) il_31 q q <| z3a q q q <| R0 <| z09 q (fun h3 => ?_) (fun h3 => ?_)
  · exact Jq q <| Ra (I_ 3) q q <| Rt hΨ q q q
  refine z0e <| Js <| Jq q <| Rm (AL 5 z13 t1) q q <| z1a (cc := z13) il_31 q q <| Rm (I_ 0) q q <| R0 <| z0n <| Jn (fun x4 => ⟨fr [(0, I_ t0), (4, I_ 0), (8, I_ t0), (11, I_ t0), (15, I_ (t1.length : Int)), (17, AL 5 z13 t1), (18, I_ (t1.length : Int)), (19, I_ x4)], hp [], 0⟩) [] [] [] q (.s2 q q (.s6 q q q q q q .nil)) .nil q q (fun E5 hE5 x4 => ?_)
  refine Jq q <| z1o q q q <| R0 <| Js <| z09 q (fun h11 => ?_) (fun h11 => ?_)
  rotate_left
  · exact z1j q <| z0x <| Jq q <| Ra (I_ 0) q q <| Rt hΨ q q q
  refine z0e <| Js <| z0n <| Jq q <| z1b (fun h12 => ?_) (fun _ => z0u)
  refine z2k (cc := z13) el_31 q q h12.1 h12.2 q <| z14 (z13 (nth t1 x4)) ag_200 q q q q <| z1x 0 _ z_200 q q <| z2p (z0i 0) (z0w (z13 (nth t1 x4))) (z13 (nth t1 x4)) sz_200 q .obj q q q q q q <| R0 <| Jq q <| Rm (I_ t0) q q <| z50 (z0i 0) (z13 (nth t1 x4)) ag_200 q .obj q q q q <| z0d fun b13 h14 => ?_
  refine z0j _ fn_224 (k_difference_one _ _ _ h14) q q <| Ra (I_ b13) q q <| R0 <| Jq q <| Rm (I_ b13) q q <| z2a q q q <| R0 <| z09 q (fun h15 => ?_) (fun h15 => ?_)
  · exact Jq q <| Rm (I_ b13) q q <| Ra (I_ b13) q q <| R0 <| z0x <| Jt hΨ (z18 q) q q
  exact z0e <| z0s <| z0o 15 (m := (t1.length : Int)) q fun q16 => z0o 19 (m := x4) q fun q17 => Jr q <| z1l (x4 + 1) q q (z0z (by omega) (by omega)) q <| Rm (I_ (x4 + 1)) q q <| R0 <| z41 <| Jc [] [] [] (hE5 (x4 + 1)) (.s2 q q (.s6 q q q q q q .nil)) .nil q q
theorem k_slices_Index_bool (t0 : (List Bool)) (t1 : Bool) (r : Int) (hr : z7g t0 t1 = some r) : FnP PP 225 [AL 1 z9e t0, z00 t1] (I_ r) := by
  refine Fo (fun (r : Int) => I_ r) Tryz.func225 q (n := 19) q q hr fun X hΨ => ?_
  refine Jq q <| Ra (I_ 0) q q <| R0 <| Js <| Jq q <| Rm (AL 1 z9e t0) q q <| z1a (cc := z9e) il_213 q q <| Rm (I_ 0) q q ?_
  refine R0 <| z0n <| Jl (fun x1 => [(0, AL 1 z9e t0), (1, z00 t1), (7, I_ (t0.length : Int)), (8, I_ x1)]) (.cons q (.c3 q q q .nil)) (fun E2 hE2 x1 => ?_)
  refine Jq q <| z1o q q q <| R0 <| Js <| z09 q (fun h6 => ?_) (fun h6 => ?_)
  rotate_left
  · exact z1j q <| z0x <| Jq q <| Ra (I_ (-1)) q q <| Rt hΨ q q q
  refine z0e <| Js <| z0n <| Jq q <| Rm (I_ x1) q q <| Ra (I_ x1) q q <| R0 <| Jq q ?_
  refine Rm (z00 t1) q q <| Rm (AL 1 z9e t0) q q <| Rm (I_ x1) q q <| z1b (fun h7 => ?_) (fun _ => z0u)
  refine z2k (cc := z9e) el_213 q q h7.1 h7.2 q <| z11 (z00 (nth t0 x1)) sc_4 q q q <| r_eqB ut_4 q q q <| R0 <| z1v q (fun h8 => ?_) (fun h8 => ?_)
  · exact Jq q <| Rm (I_ x1) q q <| Ra (I_ x1) q q <| R0 <| z0x <| Jt hΨ (z18 q) q q
  exact z0e <| z0s <| z0o 7 (m := (t0.length : Int)) q fun q9 => z0o 5 (m := x1) q fun q10 => Jr q <| z1l (x1 + 1) q q (z0z (by omega) (by omega)) q <| Rm (I_ (x1 + 1)) q q <| R0 <| z41 <| Jk (hE2 (x1 + 1)) (.cons q (.c3 q q q .nil))
theorem k_slices_Contains_bool (t0 : (List Bool)) (t1 : Bool) (r : Bool) (hr : z5j t0 t1 = some r) : FnP PP 189 [AL 1 z9e t0, z00 t1] (z00 r) := by
  refine Fo (fun (r : Bool) => z00 r) Tryz.func189 q (n := 9) q q hr fun X hΨ => ?_
  refine Jq q <| Ra (z00 false) q q <| R0 <| Jq q <| Rm (AL 1 z9e t0) q q <| Rm (z00 t1) q q <| z0d fun b1 h2 => z0j _ fn_225 (k_slices_Index_bool _ _ _ h2) q q ?_
  exact z3c q q q <| Ra (z00 (decide (0 ≤ b1))) q q <| Rt hΨ q q q
theorem k_attribute_Valid (t0 : z06) (t1 : z0q) (r : Int) (hr : z5w t0 t1 = some r) : FnP PP 151 [z0w (z02 t0), z0w (z0a t1)] (I_ r) := by
  refine Fo (fun (r : Int) => I_ r) Tryz.func151 q (n := 110) q q hr fun X hΨ => ?_
  refine Jq q <| z17 (z0w (z02 t0)) q q <| z17 (z0w (z0a t1)) q q <| Ra (I_ 0) q q <| R0 <| Js <| Jq q <| z14 (z02 t0) z2j q q q q ?_
  refine z0d fun b1 h2 => z0j _ fn_31 (za7 _ _ h2) q q <| Rm (z35 [z1h b1.1, I_ b1.2]) q q <| z20 (z1h b1.1) q q q <| z20 (I_ b1.2) q q q <| Ra (z1h b1.1) q q <| Ra (I_ b1.2) q q <| R0 <| Jq q ?_
  refine Rm (I_ b1.2) q q <| z2a q q q <| R0 <| z09 q (fun h3 => ?_) (fun h3 => ?_)
  · exact Jq q <| Rm (I_ b1.2) q q <| Ra (I_ b1.2) q q <| Rt hΨ q q q
  refine z0e <| Js <| Jq q <| z0f (z07 t1.Graph) z27 q q q <| z14 (z07 t1.Graph) z4d q q q q <| z0d fun b4 h5 => z0j _ fn_86 (zac _ _ h5) q q <| Ra (I_ b4) q q <| R0 ?_
  refine Jq q <| Rm (I_ b4) q q <| z2a q q q <| R0 <| z09 q (fun h6 => ?_) (fun h6 => ?_)
  · exact Jq q <| Rm (I_ b4) q q <| Ra (I_ b4) q q <| Rt hΨ q q q
  refine z0e <| Js <| Jq q <| z0f (z07 t1.Graph) z27 q q q <| z0f ((cL 1 z01) t1.Graph.Nodes) z29 q q q <| z11 (AL 1 z01 t1.Graph.Nodes) z1s q q q <| r_mkFn [z1r (z02 t0)] (fun x => [I_ x]) (fun y => z00 y) (fun x => z5v x t0) fn_184 q (fun x y h => k_attribute_Valid_1 x t0 y h) q <| z0d fun b7 h8 => z0j _ fn_82 (z2q _ _ _ h8) q q ?_
  refine Rm (z00 b7) q q <| z1b (fun h9 => ?_) (fun h9 => ?_)
  · refine Rk (z0v q q h9) <| Rk (z0v q q h9) <| Rk (z0v q q h9) <| Rk (z0v q q h9) <| Rk (z0v q q h9) <| z0k (z00 true) q h9 q q <| R0 <| z1d q q <| Jq q ?_
    exact Ra (I_ 13) q q <| Rt hΨ q q q
  refine z0f (z07 t1.Graph) z27 q q (g_f q q (bf h9)) <| z0f ((cL 3 z0b) t1.Graph.Edges) z2r q q (g_f q q (bf h9)) <| z11 (AL 3 z0b t1.Graph.Edges) z5o q q (g_f q q (bf h9)) <| r_mkFn [z1r (z02 t0)] (fun x => [z0w (z0b x)]) (fun y => z00 y) (fun x => z5u x t0) fn_185 q (fun x y h => k_attribute_Valid_2 x t0 y h) (g_f q q (bf h9)) <| z0d fun b10 h11 => z0j _ fn_137 (z4c _ _ _ h11) q (g_f q q (bf h9)) <| z0h (z00 b10) q (bf h9) q q <| R0 <| z1v q (fun h12 => ?_) (fun h12 => ?_)
  · exact Jq q <| Ra (I_ 13) q q <| Rt hΨ q q q
  refine z0e <| Js <| Jq q <| z0f (z01 t1.Vars) z4q q q q <| z11 (I_ t1.Vars) z1t q q q <| z0d fun b13 h14 => z0j _ fn_186 (z59 _ _ _ _ h14) q q <| z2x q q <| R0 ?_
  refine z1v q (fun h15 => ?_) (fun h15 => ?_)
  · exact Jq q <| Ra (I_ 6) q q <| Rt hΨ q q q
  refine z0e <| Js <| Jq q <| z0f ((cL 4 z0l) t1.Slots) z55 q q q <| z11 (AL 4 z0l t1.Slots) sc_30 q q q <| z1a (cc := z0l) il_30 q q <| z3a q q q <| Rm (z00 (decide (10 < (t1.Slots.length : Int)))) q q <| z1b (fun h16 => ?_) (fun h16 => ?_)
  · refine Rk (z0v q q (dt h16)) <| Rk (z0v q q (dt h16)) <| Rk (z0v q q (dt h16)) <| Rk (z0v q q (dt h16)) <| z0k (z00 true) q (dt h16) q q <| R0 <| z1d q q <| Jq q <| Ra (I_ 3) q q ?_
    exact Rt hΨ q q q
  refine z0f ((cL 5 z13) t1.Tests) fo_33_3 q q (g_f q q (df h16)) <| z11 (AL 5 z13 t1.Tests) sc_31 q q (g_f q q (df h16)) <| z1a (cc := z13) il_31 q (g_f q q (df h16)) <| z3a q q (g_f q q (df h16)) <| z0h (z00 (decide (10 < (t1.Tests.length : Int)))) q (df h16) q q <| R0 <| z09 q (fun h17 => ?_) (fun h17 => ?_)
  · exact Jq q <| Ra (I_ 3) q q <| Rt hΨ q q q
  refine z0e <| Jq q <| z0f (z01 t1.Vars) z4q q q q <| z11 (I_ t1.Vars) z1t q q q <| z1b (fun h18 => ?_) (fun _ => z0u)
  refine r_make (cc := z9e) 0 false ap_213 z_4 q q h18.1 h18.2 q q <| Ra (z0i 0) q q <| R0 <| Js <| Jq q <| z0f ((cL 4 z0l) t1.Slots) z55 q q q <| z11 (AL 4 z0l t1.Slots) sc_30 q q q <| z1a (cc := z0l) il_30 q q <| Rm (I_ 0) q q ?_
  refine R0 <| z0n <| Jn (fun x19 => ⟨fr [(2, z1r (z02 t0)), (3, z1r (z0a t1)), (4, I_ 0), (6, I_ b1.2), (7, I_ b4), (8, z0i 0), (18, I_ b1.2), (19, I_ b1.2), (24, I_ b4), (25, I_ b4), (41, I_ t1.Vars), (46, I_ (t1.Slots.length : Int)), (51, I_ (t1.Tests.length : Int)), (55, I_ t1.Vars), (58, AL 4 z0l t1.Slots), (59, I_ (t1.Slots.length : Int)), (60, I_ x19.2)], hp [(0, .row 4 1 (x19.1.map z9e))], 1⟩) [] [] [] q (.s2 q q (.s3 q q q (.cons (A := z0i 0) q (.obj q q q) (.s2 q q (.s3 q q q (.s6 q q q q q q .nil)))))) (.cons q q q q (.row (NKC.flat _ _)) q q .nil) q q (fun E20 hE20 x19 => ?_)
  refine Jq q <| z1o q q q <| R0 <| Js <| z09 q (fun h38 => ?_) (fun h38 => ?_)
  rotate_left
  · refine z1j q <| z7w <| Js <| Jq q <| z0f (z01 t1.Vars) z4q q q q <| z11 (I_ t1.Vars) z1t q q q <| z0f ((cL 5 z13) t1.Tests) fo_33_3 q q q <| z11 (AL 5 z13 t1.Tests) sc_31 q q q <| z0d fun b57 h58 => ?_
    refine z0j _ fn_188 (k_difference_Valid _ _ _ h58) q q <| Ra (I_ b57) q q <| R0 <| Jq q <| Rm (I_ b57) q q <| z2a q q q <| R0 <| z09 q (fun h59 => ?_) (fun h59 => ?_)
    · exact Jq q <| Rm (I_ b57) q q <| Ra (I_ b57) q q <| Rt hΨ q q q
    refine z0e <| Js <| Jq q <| Rm (z0i 0) q q <| z0d fun b60 h61 => r_callB [(0, .row 4 1 (x19.1.map z9e))] [z0i 0, z00 false] fn_189 (k_slices_Contains_bool _ _ _ h61) (.cons q .nil) q (.cons (.frow q q (NKC.flat _ _)) (.cons .same .nil)) q <| R0 <| z1v q (fun h62 => ?_) (fun h62 => ?_)
    · exact Jq q <| Ra (I_ 9) q q <| Rt hΨ q q q
    exact z0e <| Jq q <| Ra (I_ 0) q q <| Rt hΨ q q q
  refine z0e <| Js <| z0n <| Jq q <| z1b (fun h39 => ?_) (fun _ => z0u)
  refine z2k (cc := z0l) el_30 q q h39.1 h39.2 q <| z14 (z0l (nth t1.Slots x19.2)) ag_156 q q q q <| z1x 1 _ z_156 q q <| z2p (z0i 1) (z0w (z0l (nth t1.Slots x19.2))) (z0l (nth t1.Slots x19.2)) sz_156 q .obj q q q q q q <| R0 <| Js <| Jq q <| z14 (z02 t0) z2j q q q q <| z14 (z0a t1) ag_33 q q q q ?_
  refine z50 (z0i 1) (z0l (nth t1.Slots x19.2)) ag_156 q .obj q q q q <| z0d fun b40 h41 => z0j _ fn_187 (k_attribute_attr _ _ _ _ h41) q q <| Rm (z35 [z0w (z08 b40.1), z00 b40.2]) q q <| z20 (z0w (z08 b40.1)) q q q <| z20 (z00 b40.2) q q q <| z1x 2 _ z_100 q q <| z2p (z0i 2) (z0w (z08 b40.1)) (z08 b40.1) sz_100 q .obj q q q q q q <| Ra (z00 b40.2) q q <| R0 ?_
  refine Jq q <| Rm (z00 b40.2) q q <| z2x q q <| Rm (z00 (!b40.2)) q q <| z1b (fun h42 => ?_) (fun h42 => ?_)
  · refine Rk (z0v q q h42) <| Rk (z0v q q h42) <| Rk (z0v q q h42) <| Rk (z0v q q h42) <| Rk (z0v q q h42) <| Rk (z0v q q h42) <| Rk (z0v q q h42) <| Rk (z0v q q h42) <| z0k (z00 true) q h42 q q <| Rm (z00 true) q q ?_
    refine Rk (z0v q q q) <| Rk (z0v q q q) <| Rk (z0v q q q) <| Rk (z0v q q q) <| Rk (z0v q q q) <| z0k (z00 true) q q q q <| R0 <| z1d q q <| Jq q ?_
    exact Ra (I_ 6) q q <| R0 <| z0x <| Jt hΨ (z18 q) q q
  refine z24 (z0i 1) 2 z6b q .obj q q (g_f q q (bf h42)) <| z24 (z1f 1 2) 2 z5l q .at q q (g_f q q (bf h42)) <| z2b (z1f 1 2) (I_ (((nth t1.Slots x19.2).Term).Var)) z1t q .at q q (g_f q q (bf h42)) <| z0f (z01 t1.Vars) z4q q q (g_f q q (bf h42)) <| z11 (I_ t1.Vars) z1t q q (g_f q q (bf h42)) <| z0d fun b43 h44 => z7z b43 q q (Option.some.inj h44) (g_f q q (bf h42)) <| z0d fun b45 h46 => z0j _ fn_186 (z59 _ _ _ _ h46) q (g_f q q (bf h42)) <| z2x q (g_f q q (bf h42)) ?_
  refine z0h (z00 (!b45)) q (bf h42) q q <| Rm (z00 (!b45)) q q <| z1b (fun h47 => ?_) (fun h47 => ?_)
  · refine Rk (z0v q q h47) <| Rk (z0v q q h47) <| Rk (z0v q q h47) <| Rk (z0v q q h47) <| Rk (z0v q q h47) <| z0k (z00 true) q h47 q q <| R0 <| z1d q q <| Jq q ?_
    exact Ra (I_ 6) q q <| R0 <| z0x <| Jt hΨ (z18 q) q q
  refine z24 (z0i 1) 2 z6b q .obj q q (g_f q q (bf h47)) <| z24 (z1f 1 2) 3 fo_154_1 q .at q q (g_f q q (bf h47)) <| z2b (z1f 1 3) (I_ (((nth t1.Slots x19.2).Term).Add)) z1t q .at q q (g_f q q (bf h47)) <| z0d fun b48 h49 => z0j _ fn_186 (z59 _ _ _ _ h49) q (g_f q q (bf h47)) <| z2x q (g_f q q (bf h47)) <| z0h (z00 (!b48)) q (bf h47) q q <| R0 <| z1v q (fun h50 => ?_) (fun h50 => ?_)
  · exact Jq q <| Ra (I_ 6) q q <| R0 <| z0x <| Jt hΨ (z18 q) q q
  refine z0e <| Jq q <| z24 (z0i 1) 2 z6b q .obj q q q <| z24 (z1f 1 2) 2 z5l q .at q q q <| z2b (z1f 1 2) (I_ (((nth t1.Slots x19.2).Term).Var)) z1t q .at q q q <| z3c q q q <| R0 ?_
  apply z2w (fun v53 => ⟨fr [(2, z1r (z02 t0)), (3, z1r (z0a t1)), (4, I_ 0), (6, I_ b1.2), (7, I_ b4), (8, z0i 0), (18, I_ b1.2), (19, I_ b1.2), (24, I_ b4), (25, I_ b4), (41, I_ t1.Vars), (46, I_ (t1.Slots.length : Int)), (51, I_ (t1.Tests.length : Int)), (55, I_ t1.Vars), (58, AL 4 z0l t1.Slots), (59, I_ (t1.Slots.length : Int)), (60, I_ x19.2), (76, I_ (((nth t1.Slots x19.2).Term).Var)), (78, I_ t1.Vars), (92, I_ (((nth t1.Slots x19.2).Term).Var))], hp [(0, .row 4 1 (v53.map z9e))], 1⟩) (fun v53 => z6e x19 v53)
  · intro K54
    refine z09 q (fun h51 => ?_) (fun h51 => ?_)
    rotate_left
    · exact z0e <| Jc [] [] [] (K54 x19.1) (.s2 q q (.s3 q q q (.cons (A := z0i 0) q (.obj q q q) (.s2 q q (.s6 q q q q q q (.s6 q q q q q q .nil)))))) (.cons q q q q (.row (NKC.flat _ _)) q q .nil) q q
    refine Jr q <| Rm (z0i 0) q q <| z24 (z0i 1) 2 z6b q .obj q q q <| z24 (z1f 1 2) 2 z5l q .at q q q <| z2b (z1f 1 2) (I_ (((nth t1.Slots x19.2).Term).Var)) z1t q .at q q q <| z1b (fun h52 => ?_) (fun _ => z0u)
    exact r_ixO (cc := z9e) el_213 q q q h52.1 h52.2 q <| r_stR (cc := z9e) (((nth t1.Slots x19.2).Term).Var) 0 (z00 true) true sz_4 q q q h52.1 h52.2 q q q q <| R0 <| Jc [] [] [] (K54 (x19.1.set (((nth t1.Slots x19.2).Term).Var).toNat true)) (.s2 q q (.s3 q q q (.cons (A := z0i 0) q (.obj q q q) (.s2 q q (.s6 q q q q q q (.s6 q q q q q q .nil)))))) (.cons q q q q (.row (NKC.flat _ _)) q q .nil) q q
  intro v53
  exact z0s <| z0o 46 (m := (t1.Slots.length : Int)) q fun q55 => z0o 60 (m := x19.2) q fun q56 => Jr q <| z1l (x19.2 + 1) q q (z0z (by omega) (by omega)) q <| Rm (I_ (x19.2 + 1)) q q <| R0 <| z41 <| Jc [] [] [] (hE20 (v53, x19.2 + 1)) (.s2 q q (.s3 q q q (.cons (A := z0i 0) q (.obj q q q) (.s2 q q (.s3 q q q (.s6 q q q q q q .nil)))))) (.cons q q q q (.row (NKC.flat _ _)) q q .nil) q q
theorem k_rule_typed_1 (t0 : Int) (t1 : z06) (r : Bool) (hr : rule_typed_1 t0 t1 = some r) : FnP PP 226 [I_ t0, z1r (z02 t1)] (z00 r) := by
  refine Fo (fun (r : Bool) => z00 r) Tryz.func226 q (n := 9) q q hr fun X hΨ => ?_
  refine Jq q <| Ra (z00 false) q q <| R0 <| Jq q <| Rm (I_ t0) q q <| z0f ((cL 4 z03) t1.Nodes) z2i q q q <| z11 (AL 4 z03 t1.Nodes) z4z q q q <| z1a (cc := z03) z9h q q ?_
  exact z3c q q q <| Ra (z00 (decide ((t1.Nodes.length : Int) ≤ t0))) q q <| Rt hΨ q q q
theorem k_rule_typed_2 (t0 : z1e) (t1 : z06) (r : Bool) (hr : rule_typed_2 t0 t1 = some r) : FnP PP 227 [z0w (z0b t0), z1r (z02 t1)] (z00 r) := by
  refine Fo (fun (r : Bool) => z00 r) Tryz.func227 q (n := 10) q q hr fun X hΨ => ?_
  refine Jq q <| z17 (z0w (z0b t0)) q q <| Ra (z00 false) q q <| R0 <| Jq q <| z0f (z01 t0.Type_) z77 q q q <| z11 (I_ t0.Type_) z1t q q q <| z0f ((cL 7 z0c) t1.Edges) z3w q q q ?_
  exact z11 (AL 7 z0c t1.Edges) sc_23 q q q <| z1a (cc := z0c) il_23 q q <| z3c q q q <| Ra (z00 (decide ((t1.Edges.length : Int) ≤ t0.Type_))) q q <| Rt hΨ q q q
theorem k_rule_typed (t0 : z06) (t1 : z0p) (r : Bool) (hr : rule_typed t0 t1 = some r) : FnP PP 190 [z0w (z02 t0), z0w (z07 t1)] (z00 r) := by
  refine Fo (fun (r : Bool) => z00 r) Tryz.func190 q (n := 17) q q hr fun X hΨ => ?_
  refine Jq q <| z17 (z0w (z02 t0)) q q <| z17 (z0w (z07 t1)) q q <| Ra (z00 false) q q <| R0 <| Jq q <| z0f ((cL 1 z01) t1.Nodes) z29 q q q <| z11 (AL 1 z01 t1.Nodes) z1s q q q ?_
  refine r_mkFn [z1r (z02 t0)] (fun x => [I_ x]) (fun y => z00 y) (fun x => rule_typed_1 x t0) fn_226 q (fun x y h => k_rule_typed_1 x t0 y h) q <| z0d fun b1 h2 => z0j _ fn_82 (z2q _ _ _ h2) q q <| z2x q q <| Rm (z00 (!b1)) q q <| z1b (fun h3 => ?_) (fun h3 => ?_)
  rotate_left
  · exact Rk (z0y q q (bf h3)) <| Rk (z0y q q (bf h3)) <| Rk (z0y q q (bf h3)) <| Rk (z0y q q (bf h3)) <| Rk (z0y q q (bf h3)) <| z0h (z00 false) q (bf h3) q q <| Ra (z00 false) q q <| Rt hΨ q q q
  exact z0f ((cL 3 z0b) t1.Edges) z2r q q (g_t q q h3) <| z11 (AL 3 z0b t1.Edges) z5o q q (g_t q q h3) <| r_mkFn [z1r (z02 t0)] (fun x => [z0w (z0b x)]) (fun y => z00 y) (fun x => rule_typed_2 x t0) fn_227 q (fun x y h => k_rule_typed_2 x t0 y h) (g_t q q h3) <| z0d fun b4 h5 => z0j _ fn_137 (z4c _ _ _ h5) q (g_t q q h3) <| z2x q (g_t q q h3) <| z0k (z00 (!b4)) q h3 q q <| Ra (z00 (!b4)) q q <| Rt hΨ q q q
theorem k_slices_IndexFunc_api_Slot (t0 : (List z38)) (t1 : (z38 → Option Bool)) (r : Int) (hr : z87 t0 t1 = some r) : FnP PP 241 [AL 4 z0l t0, AFn PP (fun x => [z0w (z0l x)]) (fun y => z00 y) t1] (I_ r) := by
  refine Fo (fun (r : Int) => I_ r) Tryz.func241 q (n := 19) q q hr fun X hΨ => ?_
  refine Jq q <| Ra (I_ 0) q q <| R0 <| Js <| Jq q <| Rm (AL 4 z0l t0) q q <| z1a (cc := z0l) il_30 q q <| Rm (I_ 0) q q ?_
  refine R0 <| z0n <| Jl (fun x1 => [(0, AL 4 z0l t0), (1, AFn PP (fun x => [z0w (z0l x)]) (fun y => z00 y) t1), (7, I_ (t0.length : Int)), (8, I_ x1)]) (.cons q (.c3 q q q .nil)) (fun E2 hE2 x1 => ?_)
  refine Jq q <| z1o q q q <| R0 <| Js <| z09 q (fun h8 => ?_) (fun h8 => ?_)
  rotate_left
  · exact z1j q <| z0x <| Jq q <| Ra (I_ (-1)) q q <| Rt hΨ q q q
  refine z0e <| Js <| z0n <| Jq q <| Rm (I_ x1) q q <| Ra (I_ x1) q q <| R0 <| Jq q ?_
  refine Rm (AFn PP (fun x => [z0w (z0l x)]) (fun y => z00 y) t1) q q <| Rm (AL 4 z0l t0) q q <| Rm (I_ x1) q q <| z1b (fun h9 => ?_) (fun _ => z0u)
  refine z2k (cc := z0l) el_30 q q h9.1 h9.2 q <| z14 (z0l (nth t0 x1)) ag_156 q q q q <| z0d fun b10 h11 => za6 (ga := (fun x => [z0w (z0l x)])) (rt := (fun y => z00 y)) (gg := t1) (u := (nth t0 x1)) (w := b10) q q h11 (NK.nk) q <| R0 <| z1v q (fun h12 => ?_) (fun h12 => ?_)
  · exact Jq q <| Rm (I_ x1) q q <| Ra (I_ x1) q q <| R0 <| z0x <| Jt hΨ (z18 q) q q
  exact z0e <| z0s <| z0o 7 (m := (t0.length : Int)) q fun q13 => z0o 5 (m := x1) q fun q14 => Jr q <| z1l (x1 + 1) q q (z0z (by omega) (by omega)) q <| Rm (I_ (x1 + 1)) q q <| R0 <| z41 <| Jk (hE2 (x1 + 1)) (.cons q (.c3 q q q .nil))
theorem z5z (t0 : (List z38)) (t1 : (z38 → Option Bool)) (r : Bool) (hr : z3m t0 t1 = some r) : FnP PP 228 [AL 4 z0l t0, AFn PP (fun x => [z0w (z0l x)]) (fun y => z00 y) t1] (z00 r) := by
  refine Fo (fun (r : Bool) => z00 r) Tryz.func228 q (n := 9) q q hr fun X hΨ => ?_
  refine Jq q <| Ra (z00 false) q q <| R0 <| Jq q <| Rm (AL 4 z0l t0) q q <| Rm (AFn PP (fun x => [z0w (z0l x)]) (fun y => z00 y) t1) q q <| z0d fun b1 h2 => z0j _ fn_241 (k_slices_IndexFunc_api_Slot _ _ _ h2) q q ?_
  exact z3c q q q <| Ra (z00 (decide (0 ≤ b1))) q q <| Rt hΨ q q q
theorem k_rule_slot_1 (t0 : z38) (t1 : z38) (r : Bool) (hr : rule_slot_1 t0 t1 = some r) : FnP PP 229 [z0w (z0l t0), z1r (z0l t1)] (z00 r) := by
  refine Fo (fun (r : Bool) => z00 r) Tryz.func229 q (n := 16) q q hr fun X hΨ => ?_
  refine Jq q <| z17 (z0w (z0l t0)) q q <| Ra (z00 false) q q <| R0 <| Jq q <| z0f (z01 t0.Node) z7s q q q <| z11 (I_ t0.Node) z1t q q q <| z0f (z01 t1.Node) z7s q q q ?_
  refine z11 (I_ t1.Node) z1t q q q <| z2y q q q <| Rm (z00 (decide (t0.Node = t1.Node))) q q <| z1b (fun h1 => ?_) (fun h1 => ?_)
  · exact z0f (z01 t0.Attr) zag q q (g_t q q (dt h1)) <| z11 (I_ t0.Attr) z1t q q (g_t q q (dt h1)) <| z0f (z01 t1.Attr) zag q q (g_t q q (dt h1)) <| z11 (I_ t1.Attr) z1t q q (g_t q q (dt h1)) <| z2y q q (g_t q q (dt h1)) <| z0k (z00 (decide (t0.Attr = t1.Attr))) q (dt h1) q q <| Ra (z00 (decide (t0.Attr = t1.Attr))) q q <| Rt hΨ q q q
  exact Rk (z0y q q (df h1)) <| Rk (z0y q q (df h1)) <| Rk (z0y q q (df h1)) <| Rk (z0y q q (df h1)) <| Rk (z0y q q (df h1)) <| z0h (z00 false) q (df h1) q q <| Ra (z00 false) q q <| Rt hΨ q q q
theorem k_rule_slot (t0 : z06) (t1 : z10) (t2 : Int) (r : Int) (hr : rule_slot t0 t1 t2 = some r) : FnP PP 191 [z0w (z02 t0), z0w (z0g t1), I_ t2] (I_ r) := by
  refine Fo (fun (r : Int) => I_ r) Tryz.func191 q (n := 85) q q hr fun X hΨ => ?_
  refine Jq q <| z17 (z0w (z02 t0)) q q <| z17 (z0w (z0g t1)) q q <| Ra (I_ 0) q q <| R0 <| Jq q <| z0f (z0a t1.Right) z3e q q q <| z0f ((cL 4 z0l) t1.Right.Slots) z55 q q q ?_
  refine z11 (AL 4 z0l t1.Right.Slots) sc_30 q q q <| Rm (I_ t2) q q <| z1b (fun h1 => ?_) (fun _ => z0u)
  refine z2k (cc := z0l) el_30 q q h1.1 h1.2 q <| z14 (z0l (nth t1.Right.Slots t2)) ag_156 q q q q <| z1x 0 _ z_156 q q <| z2p (z0i 0) (z0w (z0l (nth t1.Right.Slots t2))) (z0l (nth t1.Right.Slots t2)) sz_156 q .obj q q q q q q <| R0 <| Js <| Jq q <| z24 (z0i 0) 0 z7s q .obj q q q <| z2b (z1f 0 0) (I_ ((nth t1.Right.Slots t2).Node)) z1t q .at q q q ?_
  refine z1o q q q <| Rm (z00 (decide ((nth t1.Right.Slots t2).Node < 0))) q q <| z1b (fun h2 => ?_) (fun h2 => ?_)
  · refine Rk (z0v q q (dt h2)) <| Rk (z0v q q (dt h2)) <| Rk (z0v q q (dt h2)) <| Rk (z0v q q (dt h2)) <| Rk (z0v q q (dt h2)) <| Rk (z0v q q (dt h2)) <| Rk (z0v q q (dt h2)) <| Rk (z0v q q (dt h2)) <| z0k (z00 true) q (dt h2) q q <| R0 ?_
    exact z1d q q <| Jq q <| Ra (I_ 6) q q <| Rt hΨ q q q
  refine z24 (z0i 0) 0 z7s q .obj q q (g_f q q (df h2)) <| z2b (z1f 0 0) (I_ ((nth t1.Right.Slots t2).Node)) z1t q .at q q (g_f q q (df h2)) <| z0f (z0a t1.Right) z3e q q (g_f q q (df h2)) <| z0f (z07 t1.Right.Graph) z27 q q (g_f q q (df h2)) <| z0f ((cL 1 z01) t1.Right.Graph.Nodes) z29 q q (g_f q q (df h2)) <| z11 (AL 1 z01 t1.Right.Graph.Nodes) z1s q q (g_f q q (df h2)) <| z1a (cc := z01) z2m q (g_f q q (df h2)) <| z3c q q (g_f q q (df h2)) <| z0h (z00 (decide ((t1.Right.Graph.Nodes.length : Int) ≤ (nth t1.Right.Slots t2).Node))) q (df h2) q q <| R0 ?_
  refine z09 q (fun h3 => ?_) (fun h3 => ?_)
  · exact Jq q <| Ra (I_ 6) q q <| Rt hΨ q q q
  refine z0e <| Js <| z2g <| z14 (z02 t0) z2j q q q q <| z0f (z0a t1.Right) z3e q q q <| z0f (z07 t1.Right.Graph) z27 q q q <| z0f ((cL 1 z01) t1.Right.Graph.Nodes) z29 q q q <| z11 (AL 1 z01 t1.Right.Graph.Nodes) z1s q q q <| z24 (z0i 0) 0 z7s q .obj q q q <| z2b (z1f 0 0) (I_ ((nth t1.Right.Slots t2).Node)) z1t q .at q q q ?_
  refine z1b (fun h4 => ?_) (fun _ => z0u)
  refine z2k (cc := z01) z1w q q h4.1 h4.2 q <| z11 (I_ (nth t1.Right.Graph.Nodes ((nth t1.Right.Slots t2).Node))) z1t q q q <| z0d fun b5 h6 => z0j _ fn_223 (k_types_Attrs _ _ _ h6) q q <| Rm (z35 [AL 4 z08 b5.1, I_ b5.2]) q q <| z20 (AL 4 z08 b5.1) q q q <| z20 (I_ b5.2) q q q <| Ra (AL 4 z08 b5.1) q q <| Ra (I_ b5.2) q q <| z1y (by kernel_rfl) ?_
  refine Jq q <| z24 (z0i 0) 2 z6b q .obj q q q <| z50 (z1f 0 2) (z2s ((nth t1.Right.Slots t2).Term)) ag_154 q .at q q q q <| z1x 1 _ z_154 q q <| z2p (z0i 1) (z0w (z2s ((nth t1.Right.Slots t2).Term))) (z2s ((nth t1.Right.Slots t2).Term)) sz_154 q .obj q q q q q q <| R0 <| Js <| Jq q ?_
  refine z24 (z0i 0) 1 zag q .obj q q q <| z2b (z1f 0 1) (I_ ((nth t1.Right.Slots t2).Attr)) z1t q .at q q q <| z1o q q q <| Rm (z00 (decide ((nth t1.Right.Slots t2).Attr < 0))) q q <| z1b (fun h7 => ?_) (fun h7 => ?_)
  · refine Rk (z0v q q (dt h7)) <| Rk (z0v q q (dt h7)) <| Rk (z0v q q (dt h7)) <| Rk (z0v q q (dt h7)) <| Rk (z0v q q (dt h7)) <| z0k (z00 true) q (dt h7) q q <| Rm (z00 true) q q <| Rk (z0v q q q) <| Rk (z0v q q q) <| Rk (z0v q q q) ?_
    refine z0k (z00 true) q q q q <| Rm (z00 true) q q <| Rk (z0v q q q) <| Rk (z0v q q q) <| Rk (z0v q q q) <| Rk (z0v q q q) <| Rk (z0v q q q) <| Rk (z0v q q q) <| z0k (z00 true) q q q q <| Rm (z00 true) q q ?_
    refine Rk (z0v q q q) <| Rk (z0v q q q) <| Rk (z0v q q q) <| z0k (z00 true) q q q q <| Rm (z00 true) q q <| Rk (z0v q q q) <| Rk (z0v q q q) <| Rk (z0v q q q) <| z0k (z00 true) q q q q <| R0 ?_
    exact z1d q q <| Jq q <| Ra (I_ 6) q q <| Rt hΨ q q q
  refine z24 (z0i 0) 1 zag q .obj q q (g_f q q (df h7)) <| z2b (z1f 0 1) (I_ ((nth t1.Right.Slots t2).Attr)) z1t q .at q q (g_f q q (df h7)) <| Rm (AL 4 z08 b5.1) q (g_f q q (df h7)) <| z1a (cc := z08) il_95 q (g_f q q (df h7)) <| z3c q q (g_f q q (df h7)) <| z0h (z00 (decide ((b5.1.length : Int) ≤ (nth t1.Right.Slots t2).Attr))) q (df h7) q q <| Rm (z00 (decide ((b5.1.length : Int) ≤ (nth t1.Right.Slots t2).Attr))) q q <| z1b (fun h8 => ?_) (fun h8 => ?_)
  · refine Rk (z0v q q (dt h8)) <| Rk (z0v q q (dt h8)) <| Rk (z0v q q (dt h8)) <| z0k (z00 true) q (dt h8) q q <| Rm (z00 true) q q <| Rk (z0v q q q) <| Rk (z0v q q q) <| Rk (z0v q q q) <| Rk (z0v q q q) <| Rk (z0v q q q) ?_
    refine Rk (z0v q q q) <| z0k (z00 true) q q q q <| Rm (z00 true) q q <| Rk (z0v q q q) <| Rk (z0v q q q) <| Rk (z0v q q q) <| z0k (z00 true) q q q q <| Rm (z00 true) q q <| Rk (z0v q q q) <| Rk (z0v q q q) ?_
    exact Rk (z0v q q q) <| z0k (z00 true) q q q q <| R0 <| z1d q q <| Jq q <| Ra (I_ 6) q q <| Rt hΨ q q q
  refine z24 (z0i 1) 0 z5l q .obj q q (g_f q q (df h8)) <| z2b (z1f 1 0) (I_ (((nth t1.Right.Slots t2).Term).Var)) z1t q .at q q (g_f q q (df h8)) <| z1o q q (g_f q q (df h8)) <| z0h (z00 (decide (((nth t1.Right.Slots t2).Term).Var < (-1)))) q (df h8) q q <| Rm (z00 (decide (((nth t1.Right.Slots t2).Term).Var < (-1)))) q q <| z1b (fun h9 => ?_) (fun h9 => ?_)
  · refine Rk (z0v q q (dt h9)) <| Rk (z0v q q (dt h9)) <| Rk (z0v q q (dt h9)) <| Rk (z0v q q (dt h9)) <| Rk (z0v q q (dt h9)) <| Rk (z0v q q (dt h9)) <| z0k (z00 true) q (dt h9) q q <| Rm (z00 true) q q <| Rk (z0v q q q) <| Rk (z0v q q q) ?_
    refine Rk (z0v q q q) <| z0k (z00 true) q q q q <| Rm (z00 true) q q <| Rk (z0v q q q) <| Rk (z0v q q q) <| Rk (z0v q q q) <| z0k (z00 true) q q q q <| R0 <| z1d q q <| Js ?_
    exact Jr q <| Ra (I_ 6) q q <| Rt hΨ q q q
  refine z24 (z0i 1) 0 z5l q .obj q q (g_f q q (df h9)) <| z2b (z1f 1 0) (I_ (((nth t1.Right.Slots t2).Term).Var)) z1t q .at q q (g_f q q (df h9)) <| z0f (z0a t1.Right) z3e q q (g_f q q (df h9)) <| z0f (z01 t1.Right.Vars) z4q q q (g_f q q (df h9)) <| z11 (I_ t1.Right.Vars) z1t q q (g_f q q (df h9)) <| z3c q q (g_f q q (df h9)) <| z0h (z00 (decide (t1.Right.Vars ≤ ((nth t1.Right.Slots t2).Term).Var))) q (df h9) q q <| Rm (z00 (decide (t1.Right.Vars ≤ ((nth t1.Right.Slots t2).Term).Var))) q q <| z1b (fun h10 => ?_) (fun h10 => ?_)
  · refine Rk (z0v q q (dt h10)) <| Rk (z0v q q (dt h10)) <| Rk (z0v q q (dt h10)) <| z0k (z00 true) q (dt h10) q q <| Rm (z00 true) q q <| Rk (z0v q q q) <| Rk (z0v q q q) <| Rk (z0v q q q) <| z0k (z00 true) q q q q <| R0 ?_
    exact z1d q q <| Jq q <| Ra (I_ 6) q q <| Rt hΨ q q q
  refine z24 (z0i 1) 1 fo_154_1 q .obj q q (g_f q q (df h10)) <| z2b (z1f 1 1) (I_ (((nth t1.Right.Slots t2).Term).Add)) z1t q .at q q (g_f q q (df h10)) <| z1o q q (g_f q q (df h10)) <| z0h (z00 (decide (((nth t1.Right.Slots t2).Term).Add < (-1000000)))) q (df h10) q q <| Rm (z00 (decide (((nth t1.Right.Slots t2).Term).Add < (-1000000)))) q q <| z1b (fun h11 => ?_) (fun h11 => ?_)
  · refine Rk (z0v q q (dt h11)) <| Rk (z0v q q (dt h11)) <| Rk (z0v q q (dt h11)) <| z0k (z00 true) q (dt h11) q q <| R0 <| z1d q q <| Jq q <| Ra (I_ 6) q q <| R0 ?_
    exact Jt hΨ (z18 q) q q
  refine z24 (z0i 1) 1 fo_154_1 q .obj q q (g_f q q (df h11)) <| z2b (z1f 1 1) (I_ (((nth t1.Right.Slots t2).Term).Add)) z1t q .at q q (g_f q q (df h11)) <| z3a q q (g_f q q (df h11)) <| z0h (z00 (decide (1000000 < ((nth t1.Right.Slots t2).Term).Add))) q (df h11) q q <| R0 <| z09 q (fun h12 => ?_) (fun h12 => ?_)
  · exact Jq q <| Ra (I_ 6) q q <| Rt hΨ q q q
  refine z0e <| Js <| Js <| J_cv [0] [] [] 0 [(2, I_ t2), (4, z1r (z0g t1)), (6, I_ 0), (7, z1r (z0l (nth t1.Right.Slots t2))), (14, I_ t2), (18, I_ ((nth t1.Right.Slots t2).Node)), (22, I_ ((nth t1.Right.Slots t2).Node)), (27, I_ (t1.Right.Graph.Nodes.length : Int)), (37, I_ ((nth t1.Right.Slots t2).Node)), (46, I_ ((nth t1.Right.Slots t2).Attr)), (50, I_ ((nth t1.Right.Slots t2).Attr)), (52, I_ (b5.1.length : Int)), (57, I_ (((nth t1.Right.Slots t2).Term).Var)), (62, I_ (((nth t1.Right.Slots t2).Term).Var)), (65, I_ t1.Right.Vars), (70, I_ (((nth t1.Right.Slots t2).Term).Add)), (75, I_ (((nth t1.Right.Slots t2).Term).Add))] [] (.same q (.same q (.same q (.cons (A := z0i 0) q (.fbox q q (.cons .same (.cons .same (.cons .same (.cons .same .nil))))) (.same q (.same q (.same q (.same q (.same q (.same q (.same q (.same q (.same q (.same q (.same q (.same q (.same q .nil))))))))))))))))) .nil q q <| Jr q <| z0f (z0a t1.Right) z3e q q q <| z0f ((cL 4 z0l) t1.Right.Slots) z55 q q q <| z11 (AL 4 z0l t1.Right.Slots) sc_30 q q q <| Rm (I_ t2) q q <| z1b (fun h14 => ?_) (fun _ => z0u)
  refine r_cut (cc := z0l) 0 t2 el_30 q lo_n (hi_s q) h14.1 h14.2.1 h14.2.2 q <| r_mkFn [z1r (z0l (nth t1.Right.Slots t2))] (fun x => [z0w (z0l x)]) (fun y => z00 y) (fun x => rule_slot_1 x (nth t1.Right.Slots t2)) fn_229 q (fun x y h => k_rule_slot_1 x (nth t1.Right.Slots t2) y h) q <| z0d fun b15 h16 => z0j _ fn_228 (z5z _ _ _ h16) q q <| R0 <| z1v q (fun h17 => ?_) (fun h17 => ?_)
  · exact Jq q <| Ra (I_ 5) q q <| Rt hΨ q q q
  exact z0e <| Jq q <| Ra (I_ 0) q q <| Rt hΨ q q q
theorem k_rule_right (t0 : z06) (t1 : z10) (r : Int) (hr : rule_right t0 t1 = some r) : FnP PP 152 [z0w (z02 t0), z0w (z0g t1)] (I_ r) := by
  refine Fo (fun (r : Int) => I_ r) Tryz.func152 q (n := 58) q q hr fun X hΨ => ?_
  refine Jq q <| z17 (z0w (z02 t0)) q q <| z17 (z0w (z0g t1)) q q <| Ra (I_ 0) q q <| R0 <| Js <| Jq q <| z0f (z0a t1.Right) z3e q q q ?_
  refine z0f (z07 t1.Right.Graph) z27 q q q <| z14 (z07 t1.Right.Graph) z4d q q q q <| z0d fun b1 h2 => z0j _ fn_86 (zac _ _ h2) q q <| Ra (I_ b1) q q <| R0 <| Jq q <| Rm (I_ b1) q q <| z2a q q q ?_
  refine R0 <| z09 q (fun h3 => ?_) (fun h3 => ?_)
  · exact Jq q <| Rm (I_ b1) q q <| Ra (I_ b1) q q <| Rt hΨ q q q
  refine z0e <| Js <| z0n <| Jq q <| z14 (z02 t0) z2j q q q q <| z0f (z0a t1.Right) z3e q q q <| z0f (z07 t1.Right.Graph) z27 q q q <| z14 (z07 t1.Right.Graph) z4d q q q q <| z0d fun b4 h5 => ?_
  refine z0j _ fn_190 (k_rule_typed _ _ _ h5) q q <| z2x q q <| Ra (z00 (!b4)) q q <| R0 <| z1v q (fun h6 => ?_) (fun h6 => ?_)
  · exact Jq q <| Ra (I_ 13) q q <| Rt hΨ q q q
  refine Jq q <| z0f (z0a t1.Right) z3e q q q <| z0f (z01 t1.Right.Vars) z4q q q q <| z11 (I_ t1.Right.Vars) z1t q q q <| z0f (z0a t1.Left) z6q q q q <| z0f (z01 t1.Left.Vars) z4q q q q <| z11 (I_ t1.Left.Vars) z1t q q q <| z2a q q q <| Rm (z00 (decide (¬ (t1.Right.Vars = t1.Left.Vars)))) q q ?_
  refine z1b (fun h7 => ?_) (fun h7 => ?_)
  · refine Rk (z0v q q (dt h7)) <| Rk (z0v q q (dt h7)) <| Rk (z0v q q (dt h7)) <| Rk (z0v q q (dt h7)) <| Rk (z0v q q (dt h7)) <| z0k (z00 true) q (dt h7) q q <| Ra (z00 true) q q <| R0 <| z1d q q <| Js ?_
    exact Jr q <| Ra (I_ 1) q q <| Rt hΨ q q q
  refine z0f (z0a t1.Right) z3e q q (g_f q q (df h7)) <| z0f ((cL 5 z13) t1.Right.Tests) fo_33_3 q q (g_f q q (df h7)) <| z11 (AL 5 z13 t1.Right.Tests) sc_31 q q (g_f q q (df h7)) <| z1a (cc := z13) il_31 q (g_f q q (df h7)) <| z3a q q (g_f q q (df h7)) <| z0h (z00 (decide (0 < (t1.Right.Tests.length : Int)))) q (df h7) q q <| Ra (z00 (decide (0 < (t1.Right.Tests.length : Int)))) q q <| R0 <| z09 q (fun h8 => ?_) (fun h8 => ?_)
  · exact Jq q <| Ra (I_ 1) q q <| Rt hΨ q q q
  refine Jq q <| z0f (z0a t1.Right) z3e q q q <| z0f ((cL 4 z0l) t1.Right.Slots) z55 q q q <| z11 (AL 4 z0l t1.Right.Slots) sc_30 q q q <| z1a (cc := z0l) il_30 q q <| z3a q q q <| Ra (z00 (decide (10 < (t1.Right.Slots.length : Int)))) q q <| R0 <| z09 q (fun h9 => ?_) (fun h9 => ?_)
  · exact Jq q <| Ra (I_ 3) q q <| Rt hΨ q q q
  refine z0e <| z0s <| Js <| Jq q <| z0f (z0a t1.Right) z3e q q q <| z0f ((cL 4 z0l) t1.Right.Slots) z55 q q q <| z11 (AL 4 z0l t1.Right.Slots) sc_30 q q q <| z1a (cc := z0l) il_30 q q <| Rm (I_ 0) q q ?_
  refine R0 <| z0n <| Jl (fun x10 => [(2, z1r (z02 t0)), (3, z1r (z0g t1)), (4, I_ 0), (5, I_ b1), (11, I_ b1), (12, I_ b1), (25, I_ t1.Right.Vars), (28, I_ t1.Left.Vars), (34, I_ (t1.Right.Tests.length : Int)), (41, I_ (t1.Right.Slots.length : Int)), (46, I_ (t1.Right.Slots.length : Int)), (47, I_ x10)]) (.c6 q q q q q q (.c6 q q q q q q .nil)) (fun E11 hE11 x10 => ?_)
  refine Jq q <| z1o q q q <| R0 <| Js <| z09 q (fun h16 => ?_) (fun h16 => ?_)
  rotate_left
  · exact z1j q <| z0x <| Jq q <| Ra (I_ 0) q q <| Rt hΨ q q q
  refine z0e <| Js <| z0n <| Jq q <| Rm (I_ x10) q q <| Ra (I_ x10) q q <| R0 <| Jq q ?_
  refine z14 (z02 t0) z2j q q q q <| z14 (z0g t1) ag_41 q q q q <| Rm (I_ x10) q q <| z0d fun b17 h18 => z0j _ fn_191 (k_rule_slot _ _ _ _ h18) q q <| Ra (I_ b17) q q <| R0 <| Jq q <| Rm (I_ b17) q q ?_
  refine z2a q q q <| R0 <| z09 q (fun h19 => ?_) (fun h19 => ?_)
  · exact Jq q <| Rm (I_ b17) q q <| Ra (I_ b17) q q <| R0 <| z0x <| Jt hΨ (z18 q) q q
  exact z0e <| z0s <| z0o 41 (m := (t1.Right.Slots.length : Int)) q fun q20 => z0o 6 (m := x10) q fun q21 => Jr q <| z1l (x10 + 1) q q (z0z (by omega) (by omega)) q <| Rm (I_ (x10 + 1)) q q <| R0 <| z41 <| Jk (hE11 (x10 + 1)) (.c6 q q q q q q (.c6 q q q q q q .nil))
theorem z4h (t0 : (List Int)) (r : (List Int)) (hr : z36 t0 = some r) : FnK PP 20 0 [] [AL 1 z01 t0] [(0, .row 3 1 (r.map z01))] (z0i 0) := by
  refine Ko (fun (r : (List Int)) => [(0, .row 3 1 (r.map z01))]) (fun (r : (List Int)) => z0i 0) Tryz.func20 q (n := 8) q (KBL.cons inferInstance (inferInstance : KBL 0 [])).kb (InsOk.spec .nil) q hr fun X hΨ => ?_
  refine Jq q <| Ra (z1m) q q <| R0 <| Js <| Jq q <| Rm (AL 1 z01 t0) q q <| r_eqNil (cc := z01) ut_26 q q q <| R0 ?_
  refine J_condNil q (fun h2 => ?_) ?_
  · obtain rfl := List.eq_nil_of_length_eq_zero h2
    exact Jq q <| Ra (z1m) q q <| R0 <| J_retK hΨ (z4r q (.tmp (A := z1m) q)) [] [] [0] q (fun y hy => by unfold z36 at hy; simp at hy; subst hy; exact ⟨(.new q q .nil), (.nilobj q q)⟩)
  refine z0e <| Jq q <| r_bs0 0 z1w q q <| Rm (AL 1 z01 t0) q q <| z1b (fun h1 => ?_) (fun _ => z0u)
  exact r_app0 (cc := z01) (ys := t0) 1 ap_26 q q q h1 q q q <| Ra (z0i 1) q q <| R0 <| J_retK hΨ (z4r q (.tmp (A := z0i 1) q)) [] [(0, 1)] [] q (fun y hy => by cases hy; exact ⟨(.cons q q q q (.row (NKC.flat _ _)) q q .nil), (.obj q q q)⟩)
theorem k_subgraph_list (t0 : (List Int)) (t1 : Int) (r : Int) (hr : z7f t0 t1 = some r) : FnP PP 252 [AL 1 z01 t0, I_ t1] (I_ r) := by
  refine Fo (fun (r : Int) => I_ r) Tryz.func252 q (n := 33) q q hr fun X hΨ => ?_
  refine Jq q <| Ra (I_ 0) q q <| R0 <| Js <| Jq q <| Rm (AL 1 z01 t0) q q <| z1a (cc := z01) z2m q q <| Rm (I_ 0) q q ?_
  refine R0 <| z0n <| Jl (fun x1 => [(0, AL 1 z01 t0), (1, I_ t1), (7, AL 1 z01 t0), (8, I_ (t0.length : Int)), (9, I_ x1)]) (.c2 q q (.c3 q q q .nil)) (fun E2 hE2 x1 => ?_)
  refine Jq q <| z1o q q q <| R0 <| Js <| z09 q (fun h12 => ?_) (fun h12 => ?_)
  rotate_left
  · exact z1j q <| z0x <| Jq q <| Ra (I_ 0) q q <| Rt hΨ q q q
  refine z0e <| Js <| z0n <| Jq q <| Rm (I_ x1) q q <| z1b (fun h13 => ?_) (fun _ => z0u)
  refine z2k (cc := z01) z1w q q h13.1 h13.2 q <| z11 (I_ (nth t0 x1)) z1t q q q <| Ra (I_ x1) q q <| Ra (I_ (nth t0 x1)) q q <| R0 <| Js <| Jq q <| Rm (I_ (nth t0 x1)) q q <| z1o q q q ?_
  refine Rm (z00 (decide ((nth t0 x1) < 0))) q q <| z1b (fun h14 => ?_) (fun h14 => ?_)
  · refine Rk (z0v q q (dt h14)) <| Rk (z0v q q (dt h14)) <| Rk (z0v q q (dt h14)) <| z0k (z00 true) q (dt h14) q q <| R0 <| z1d q q <| Jq q <| Ra (I_ 6) q q <| R0 ?_
    exact z0x <| Jt hΨ (z18 q) q q
  refine Rm (I_ (nth t0 x1)) q (g_f q q (df h14)) <| Rm (I_ t1) q (g_f q q (df h14)) <| z3c q q (g_f q q (df h14)) <| z0h (z00 (decide (t1 ≤ (nth t0 x1)))) q (df h14) q q <| R0 <| z09 q (fun h15 => ?_) (fun h15 => ?_)
  · exact Jq q <| Ra (I_ 6) q q <| R0 <| z0x <| Jt hΨ (z18 q) q q
  refine z0e <| Js ?_
  apply z2w (fun v20 => ⟨fr [(0, AL 1 z01 t0), (1, I_ t1), (5, I_ x1), (6, I_ (nth t0 x1)), (7, AL 1 z01 t0), (8, I_ (t0.length : Int)), (9, I_ x1), (11, I_ x1), (13, I_ (nth t0 x1)), (14, I_ (nth t0 x1)), (17, I_ (nth t0 x1)), (18, I_ t1), (21, I_ x1)], fun _ => none, 0⟩) (fun v20 => subgraph_list_j20 x1 v20)
  · intro K21
    refine z0o 5 (m := x1) q fun q17 => Jr q <| Rm (I_ x1) q q <| z3a q q q <| Rm (z00 (decide (0 < x1))) q q <| z1b (fun h16 => ?_) (fun h16 => ?_)
    rotate_left
    · refine Rk (z0y q q (df h16)) <| Rk (z0y q q (df h16)) <| Rk (z0y q q (df h16)) <| Rk (z0y q q (df h16)) <| Rk (z0y q q (df h16)) <| Rk (z0y q q (df h16)) <| Rk (z0y q q (df h16)) <| z0h (z00 false) q (df h16) q q <| R0 <| J_cond_F q q ?_
      exact Jk (K21 ()) (.cons q (.c6 q q q q q q (.c6 q q q q q q .nil)))
    refine Rm (I_ (nth t0 x1)) q (g_t q q (dt h16)) <| Rm (AL 1 z01 t0) q (g_t q q (dt h16)) <| Rm (I_ x1) q (g_t q q (dt h16)) <| z7z (x1 - 1) q q (z0z (by omega) (by omega)) (g_t q q (dt h16)) <| z1b (fun h18 => ?_) (fun _ => z0u)
    refine z2k (cc := z01) z1w q q h18.1 h18.2 (g_t q q (dt h16)) <| z11 (I_ (nth t0 (x1 - 1))) z1t q q (g_t q q (dt h16)) <| z8c q q (g_t q q (dt h16)) <| z0k (z00 (decide ((nth t0 x1) ≤ (nth t0 (x1 - 1))))) q (dt h16) q q <| R0 <| z09 q (fun h19 => ?_) (fun h19 => ?_)
    rotate_left
    · exact Jk (K21 ()) (.cons q (.c6 q q q q q q (.c6 q q q q q q .nil)))
    exact Jq q <| Ra (I_ 12) q q <| R0 <| z0x <| Jt hΨ (z18 q) q q
  intro v20
  exact z0e <| z0s <| z0o 8 (m := (t0.length : Int)) q fun q22 => z0o 5 (m := x1) q fun q23 => Jr q <| z1l (x1 + 1) q q (z0z (by omega) (by omega)) q <| Rm (I_ (x1 + 1)) q q <| R0 <| z41 <| Jk (hE2 (x1 + 1)) (.c2 q q (.c3 q q q .nil))
theorem k_cmp_isNaN_int (t0 : Int) (r : Bool) (hr : cmp_isNaN_int t0 = some r) : FnP PP 254 [I_ t0] (z00 r) := by
  refine Fo (fun (r : Bool) => z00 r) Tryz.func254 q (n := 6) q q hr fun X hΨ => ?_
  refine Jq q <| Ra (z00 false) q q <| R0 <| Jq q <| Rm (I_ t0) q q <| Rm (I_ t0) q q <| z2a q q q <| Ra (z00 (decide (¬ (t0 = t0)))) q q ?_
  exact Rt hΨ q q q
theorem k_cmp_Less_int (t0 : Int) (t1 : Int) (r : Bool) (hr : cmp_Less_int t0 t1 = some r) : FnP PP 243 [I_ t0, I_ t1] (z00 r) := by
  refine Fo (fun (r : Bool) => z00 r) Tryz.func243 q (n := 17) q q hr fun X hΨ => ?_
  refine Jq q <| Ra (z00 false) q q <| R0 <| Jq q <| Rm (I_ t0) q q <| z0d fun b1 h2 => z0j _ fn_254 (k_cmp_isNaN_int _ _ h2) q q <| Rm (z00 b1) q q ?_
  refine z1b (fun h3 => ?_) (fun h3 => ?_)
  rotate_left
  · refine Rk (z0y q q (bf h3)) <| Rk (z0y q q (bf h3)) <| Rk (z0y q q (bf h3)) <| z0h (z00 false) q (bf h3) q q <| Rm (z00 false) q q <| Rm (I_ t0) q (g_f q q q) <| Rm (I_ t1) q (g_f q q q) <| z1o q q (g_f q q q) <| z0h (z00 (decide (t0 < t1))) q q q q <| Ra (z00 (decide (t0 < t1))) q q ?_
    exact Rt hΨ q q q
  refine Rm (I_ t1) q (g_t q q h3) <| z0d fun b4 h5 => z0j _ fn_254 (k_cmp_isNaN_int _ _ h5) q (g_t q q h3) <| z2x q (g_t q q h3) <| z0k (z00 (!b4)) q h3 q q <| Rm (z00 (!b4)) q q <| z1b (fun h6 => ?_) (fun h6 => ?_)
  · exact Rk (z0v q q h6) <| Rk (z0v q q h6) <| Rk (z0v q q h6) <| z0k (z00 true) q h6 q q <| Ra (z00 true) q q <| Rt hΨ q q q
  exact Rm (I_ t0) q (g_f q q (bf h6)) <| Rm (I_ t1) q (g_f q q (bf h6)) <| z1o q q (g_f q q (bf h6)) <| z0h (z00 (decide (t0 < t1))) q (bf h6) q q <| Ra (z00 (decide (t0 < t1))) q q <| Rt hΨ q q q
theorem k_slices_isNaN_int (t0 : Int) (r : Bool) (hr : z8i t0 = some r) : FnP PP 244 [I_ t0] (z00 r) := by
  refine Fo (fun (r : Bool) => z00 r) Tryz.func244 q (n := 6) q q hr fun X hΨ => ?_
  refine Jq q <| Ra (z00 false) q q <| R0 <| Jq q <| Rm (I_ t0) q q <| Rm (I_ t0) q q <| z2a q q q <| Ra (z00 (decide (¬ (t0 = t0)))) q q ?_
  exact Rt hΨ q q q
theorem z5f (t0 : (List Int)) (t1 : Int) (r : Int × Bool) (hr : z37 t0 t1 = some r) : FnP PP 231 [AL 1 z01 t0, I_ t1] (z35 [I_ r.1, z00 r.2]) := by
  refine Fo (fun (r : Int × Bool) => z35 [I_ r.1, z00 r.2]) Tryz.func231 q (n := 54) q q hr fun X hΨ => ?_
  refine Jq q <| Ra (I_ 0) q q <| Ra (z00 false) q q <| R0 <| Jq q <| Rm (AL 1 z01 t0) q q <| z1a (cc := z01) z2m q q <| Ra (I_ (t0.length : Int)) q q ?_
  refine R0 <| Jq q <| Rm (I_ (t0.length : Int)) q q <| Ra (I_ 0) q q <| Ra (I_ (t0.length : Int)) q q <| R0 <| Js <| z0n <| Jl (fun x1 => [(0, AL 1 z01 t0), (1, I_ t1), (6, I_ (t0.length : Int)), (7, I_ x1.1), (8, I_ x1.2)]) (.c2 q q (.c3 q q q .nil)) (fun E2 hE2 x1 => ?_)
  refine Js <| Jq q <| Rm (I_ x1.1) q q <| Rm (I_ x1.2) q q <| z1o q q q <| R0 <| z09 q (fun h20 => ?_) (fun h20 => ?_)
  · refine z0e <| z0n <| Jq q <| Rm (I_ x1.1) q q <| Rm (I_ x1.2) q q <| z0d fun b21 h22 => z1l b21 q q (Option.some.inj h22) q <| z0d fun b23 h24 => r_convW b23 us_3 ut_251 q (Option.some.inj h24) q ?_
    refine z0d fun b25 h26 => r_shr b25 q q (by decide) (Option.some.inj h26) q <| z0d fun b27 h28 => r_convW b27 us_251 ut_3 q (Option.some.inj h28) q <| Ra (I_ b27) q q <| R0 <| Jq q <| Rm (AL 1 z01 t0) q q <| Rm (I_ b27) q q ?_
    refine z1b (fun h29 => ?_) (fun _ => z0u)
    refine z2k (cc := z01) z1w q q h29.1 h29.2 q <| z11 (I_ (nth t0 b27)) z1t q q q <| Rm (I_ t1) q q <| z0d fun b30 h31 => z0j _ fn_243 (k_cmp_Less_int _ _ _ h31) q q <| R0 ?_
    apply z2w (fun v35 => ⟨fr [(0, AL 1 z01 t0), (1, I_ t1), (6, I_ (t0.length : Int)), (7, I_ v35.1), (8, I_ v35.2), (9, I_ b27), (13, I_ x1.1), (14, I_ x1.2), (16, I_ x1.1), (17, I_ x1.2), (21, I_ b27), (23, I_ b27)], fun _ => none, 0⟩) (fun v35 => z4y v35)
    · intro K36
      refine z1v q (fun h32 => ?_) (fun h32 => ?_)
      rotate_left
      · exact Jr q <| Rm (I_ b27) q q <| Ra (I_ b27) q q <| R0 <| Jk (K36 (x1.1, b27)) (.c6 q q q q q q (.c6 q q q q q q .nil))
      exact Jr q <| Rm (I_ b27) q q <| z0d fun b33 h34 => z1l b33 q q (Option.some.inj h34) q <| Ra (I_ b33) q q <| R0 <| Jk (K36 (b33, x1.2)) (.c6 q q q q q q (.c6 q q q q q q .nil))
    intro v35
    exact z0s <| z41 <| Jk (hE2 (v35.1, v35.2)) (.c2 q q (.c3 q q q .nil))
  refine z1j q <| z7w <| Jq q <| Rm (I_ x1.1) q q <| Rm (I_ x1.1) q q <| Rm (I_ (t0.length : Int)) q q <| z1o q q q <| Rm (z00 (decide (x1.1 < (t0.length : Int)))) q q <| z1b (fun h37 => ?_) (fun h37 => ?_)
  rotate_left
  · refine Rk (z0y q q (df h37)) <| Rk (z0y q q (df h37)) <| Rk (z0y q q (df h37)) <| Rk (z0y q q (df h37)) <| Rk (z0y q q (df h37)) <| Rk (z0y q q (df h37)) <| Rk (z0y q q (df h37)) <| Rk (g_u q q) <| Rk (g_u q q) <| Rk (g_u q q) ?_
    refine Rk (g_u q q) <| Rk (g_u q q) <| Rk (g_u q q) <| Rk (g_u q q) <| Rk (g_u q q) <| Rk (g_u q q) <| Rk (z0y q q (df h37)) <| z0h (z00 false) q (df h37) q q <| Ra (I_ x1.1) q q <| Ra (z00 false) q q ?_
    exact R0 <| Jt hΨ (z16 (As := [I_ x1.1, z00 false]) q q (.cons (.tmp (A := I_ x1.1) q) (.cons (.tmp (A := z00 false) q) .nil))) q q
  refine Rm (AL 1 z01 t0) q (g_t q q (dt h37)) <| Rm (I_ x1.1) q (g_t q q (dt h37)) <| z1b (fun h38 => ?_) (fun _ => z0u)
  refine z2k (cc := z01) z1w q q h38.1 h38.2 (g_t q q (dt h37)) <| z11 (I_ (nth t0 x1.1)) z1t q q (g_t q q (dt h37)) <| Rm (I_ t1) q (g_t q q (dt h37)) <| z2y q q (g_t q q (dt h37)) <| Rm (z00 (decide ((nth t0 x1.1) = t1))) q (g_t q q (dt h37)) <| z1b (fun h39 => ?_) (fun h39 => ?_)
  · refine Rk (z0v q q (dt h39)) <| Rk (z0v q q (dt h39)) <| Rk (z0v q q (dt h39)) <| Rk (z0v q q (dt h39)) <| Rk (z0v q q (dt h39)) <| Rk (z0v q q (dt h39)) <| Rk (g_u q q) <| Rk (g_u q q) <| Rk (z0v q q (dt h39)) <| z0k (z00 true) q (dt h39) q (g_t q q (dt h37)) ?_
    exact z0k (z00 true) q (dt h37) q q <| Ra (I_ x1.1) q q <| Ra (z00 true) q q <| R0 <| Jt hΨ (z16 (As := [I_ x1.1, z00 true]) q q (.cons (.tmp (A := I_ x1.1) q) (.cons (.tmp (A := z00 true) q) .nil))) q q
  refine Rm (AL 1 z01 t0) q (g_f q q (df h39)) <| Rm (I_ x1.1) q (g_f q q (df h39)) <| z2k (cc := z01) z1w q q h38.1 h38.2 (g_f q q (df h39)) <| z11 (I_ (nth t0 x1.1)) z1t q q (g_f q q (df h39)) <| z0d fun b40 h41 => z0j _ fn_244 (k_slices_isNaN_int _ _ h41) q (g_f q q (df h39)) <| Rm (z00 b40) q (g_f q q (df h39)) <| z1b (fun h42 => ?_) (fun h42 => ?_)
  rotate_left
  · exact Rk (z0y q q (bf h42)) <| Rk (z0y q q (bf h42)) <| z0h (z00 false) q (bf h42) q (g_f q q (df h39)) <| z0h (z00 false) q (df h39) q (g_t q q (dt h37)) <| z0k (z00 false) q (dt h37) q q <| Ra (I_ x1.1) q q <| Ra (z00 false) q q <| R0 <| Jt hΨ (z16 (As := [I_ x1.1, z00 false]) q q (.cons (.tmp (A := I_ x1.1) q) (.cons (.tmp (A := z00 false) q) .nil))) q q
  exact Rm (I_ t1) q (g_t q q h42) <| z0d fun b43 h44 => z0j _ fn_244 (k_slices_isNaN_int _ _ h44) q (g_t q q h42) <| z0k (z00 b43) q h42 q (g_f q q (df h39)) <| z0h (z00 b43) q (df h39) q (g_t q q (dt h37)) <| z0k (z00 b43) q (dt h37) q q <| Ra (I_ x1.1) q q <| Ra (z00 b43) q q <| R0 <| Jt hΨ (z16 (As := [I_ x1.1, z00 b43]) q q (.cons (.tmp (A := I_ x1.1) q) (.cons (.tmp (A := z00 b43) q) .nil))) q q
theorem k_subgraph_has (t0 : (List Int)) (t1 : Int) (r : Bool) (hr : subgraph_has t0 t1 = some r) : FnP PP 253 [AL 1 z01 t0, I_ t1] (z00 r) := by
  refine Fo (fun (r : Bool) => z00 r) Tryz.func253 q (n := 14) q q hr fun X hΨ => ?_
  refine Jq q <| Ra (z00 false) q q <| R0 <| Jq q <| Rm (AL 1 z01 t0) q q <| Rm (I_ t1) q q <| z0d fun b1 h2 => z0j _ fn_231 (z5f _ _ _ h2) q q ?_
  refine Rm (z35 [I_ b1.1, z00 b1.2]) q q <| z20 (I_ b1.1) q q q <| z20 (z00 b1.2) q q q <| Ra (I_ b1.1) q q <| Ra (z00 b1.2) q q <| R0 <| Jq q <| Rm (z00 b1.2) q q <| Ra (z00 b1.2) q q ?_
  exact Rt hΨ q q q
theorem k_subgraph_part (t0 : z0p) (t1 : z2d) (r : Int) (hr : subgraph_part t0 t1 = some r) : FnP PP 242 [z0w (z07 t0), z0w (z1i t1)] (I_ r) := by
  refine Fo (fun (r : Int) => I_ r) Tryz.func242 q (n := 57) q q hr fun X hΨ => ?_
  refine Jq q <| z17 (z0w (z07 t0)) q q <| z17 (z0w (z1i t1)) q q <| Ra (I_ 0) q q <| R0 <| Js <| Jq q <| z0f ((cL 1 z01) t1.Nodes) z6r q q q ?_
  refine z11 (AL 1 z01 t1.Nodes) z1s q q q <| z0f ((cL 1 z01) t0.Nodes) z29 q q q <| z11 (AL 1 z01 t0.Nodes) z1s q q q <| z1a (cc := z01) z2m q q <| z0d fun b1 h2 => z0j _ fn_252 (k_subgraph_list _ _ _ h2) q q <| Ra (I_ b1) q q <| R0 <| Jq q ?_
  refine Rm (I_ b1) q q <| z2a q q q <| R0 <| z09 q (fun h3 => ?_) (fun h3 => ?_)
  · exact Jq q <| Rm (I_ b1) q q <| Ra (I_ b1) q q <| Rt hΨ q q q
  refine z0e <| Js <| Jq q <| z0f ((cL 1 z01) t1.Edges) fo_35_1 q q q <| z11 (AL 1 z01 t1.Edges) z1s q q q <| z0f ((cL 3 z0b) t0.Edges) z2r q q q <| z11 (AL 3 z0b t0.Edges) z5o q q q <| z1a (cc := z0b) il_27 q q <| z0d fun b4 h5 => ?_
  refine z0j _ fn_252 (k_subgraph_list _ _ _ h5) q q <| Ra (I_ b4) q q <| R0 <| Jq q <| Rm (I_ b4) q q <| z2a q q q <| R0 <| z09 q (fun h6 => ?_) (fun h6 => ?_)
  · exact Jq q <| Rm (I_ b4) q q <| Ra (I_ b4) q q <| Rt hΨ q q q
  refine z0e <| Js <| Jq q <| z0f ((cL 1 z01) t1.Edges) fo_35_1 q q q <| z11 (AL 1 z01 t1.Edges) z1s q q q <| z1a (cc := z01) z2m q q <| Rm (I_ 0) q q <| R0 <| z0n ?_
  refine Jl (fun x7 => [(2, z1r (z07 t0)), (3, z1r (z1i t1)), (4, I_ 0), (5, I_ b1), (6, I_ b4), (14, I_ b1), (15, I_ b1), (23, I_ b4), (24, I_ b4), (28, AL 1 z01 t1.Edges), (29, I_ (t1.Edges.length : Int)), (30, I_ x7)]) (.c6 q q q q q q (.c6 q q q q q q .nil)) (fun E8 hE8 x7 => ?_)
  refine Jq q <| z1o q q q <| R0 <| Js <| z09 q (fun h18 => ?_) (fun h18 => ?_)
  rotate_left
  · exact z1j q <| z0x <| Jq q <| Ra (I_ 0) q q <| Rt hΨ q q q
  refine z0e <| Js <| z0n <| Jq q <| z1b (fun h19 => ?_) (fun _ => z0u)
  refine z2k (cc := z01) z1w q q h19.1 h19.2 q <| z11 (I_ (nth t1.Edges x7)) z1t q q q <| Ra (I_ (nth t1.Edges x7)) q q <| R0 <| Js <| z2g <| z0f ((cL 1 z01) t1.Nodes) z6r q q q <| z11 (AL 1 z01 t1.Nodes) z1s q q q <| z0f ((cL 3 z0b) t0.Edges) z2r q q q <| z11 (AL 3 z0b t0.Edges) z5o q q q ?_
  refine Rm (I_ (nth t1.Edges x7)) q q <| z1b (fun h20 => ?_) (fun _ => z0u)
  refine z2k (cc := z0b) el_27 q q h20.1 h20.2 q <| z0f (z01 ((nth t0.Edges (nth t1.Edges x7)).From)) zaf q q q <| z11 (I_ ((nth t0.Edges (nth t1.Edges x7)).From)) z1t q q q <| z0d fun b21 h22 => z0j _ fn_253 (k_subgraph_has _ _ _ h22) q q <| z2x q q <| Rm (z00 (!b21)) q q <| z1b (fun h23 => ?_) (fun h23 => ?_)
  · refine Rk (z0v q q h23) <| Rk (z0v q q h23) <| Rk (z0v q q h23) <| Rk (z0v q q h23) <| Rk (z0v q q h23) <| Rk (z0v q q h23) <| Rk (z0v q q h23) <| Rk (z0v q q h23) <| Rk (z0v q q h23) <| Rk (z0v q q h23) ?_
    exact z0k (z00 true) q h23 q q <| z1y (by kernel_rfl) <| z1d q q <| Jq q <| Ra (I_ 14) q q <| R0 <| z0x <| Jt hΨ (z18 q) q q
  refine z0f ((cL 1 z01) t1.Nodes) z6r q q (g_f q q (bf h23)) <| z11 (AL 1 z01 t1.Nodes) z1s q q (g_f q q (bf h23)) <| z0f ((cL 3 z0b) t0.Edges) z2r q q (g_f q q (bf h23)) <| z11 (AL 3 z0b t0.Edges) z5o q q (g_f q q (bf h23)) <| Rm (I_ (nth t1.Edges x7)) q (g_f q q (bf h23)) <| z2k (cc := z0b) el_27 q q h20.1 h20.2 (g_f q q (bf h23)) <| z0f (z01 ((nth t0.Edges (nth t1.Edges x7)).To)) zae q q (g_f q q (bf h23)) <| z11 (I_ ((nth t0.Edges (nth t1.Edges x7)).To)) z1t q q (g_f q q (bf h23)) <| z0d fun b24 h25 => z0j _ fn_253 (k_subgraph_has _ _ _ h25) q (g_f q q (bf h23)) ?_
  refine z2x q (g_f q q (bf h23)) <| z0h (z00 (!b24)) q (bf h23) q q <| z1y (by kernel_rfl) <| z1v q (fun h26 => ?_) (fun h26 => ?_)
  · exact Jq q <| Ra (I_ 14) q q <| R0 <| z0x <| Jt hΨ (z18 q) q q
  exact z0e <| z0s <| z0o 29 (m := (t1.Edges.length : Int)) q fun q27 => z0o 30 (m := x7) q fun q28 => Jr q <| z1l (x7 + 1) q q (z0z (by omega) (by omega)) q <| Rm (I_ (x7 + 1)) q q <| R0 <| z41 <| Jk (hE8 (x7 + 1)) (.c6 q q q q q q (.c6 q q q q q q .nil))
theorem k_subgraph_Valid (t0 : z0p) (t1 : z2d) (r : Int) (hr : subgraph_Valid t0 t1 = some r) : FnP PP 230 [z0w (z07 t0), z0w (z1i t1)] (I_ r) := by
  refine Fo (fun (r : Int) => I_ r) Tryz.func230 q (n := 14) q q hr fun X hΨ => ?_
  refine Jq q <| z17 (z0w (z07 t0)) q q <| z17 (z0w (z1i t1)) q q <| Ra (I_ 0) q q <| R0 <| Js <| Jq q <| z14 (z07 t0) z4d q q q q ?_
  refine z0d fun b1 h2 => z0j _ fn_86 (zac _ _ h2) q q <| Ra (I_ b1) q q <| R0 <| Jq q <| Rm (I_ b1) q q <| z2a q q q <| R0 <| z09 q (fun h3 => ?_) (fun h3 => ?_)
  · exact Jq q <| Rm (I_ b1) q q <| Ra (I_ b1) q q <| Rt hΨ q q q
  exact z0e <| Jq q <| z14 (z07 t0) z4d q q q q <| z14 (z1i t1) ag_35 q q q q <| z0d fun b4 h5 => z0j _ fn_242 (k_subgraph_part _ _ _ h5) q q <| Ra (I_ b4) q q <| Rt hΨ q q q
end Go.Proofs.YtngimdmkomkeoaaGreat.K
