/- Each function computes what its plain form says. -/
import Derived.Test.YtngimdmkomkeoaaGreatPure
import Derived.Test.YtngimdmkomkeoaaGreatFacts
import Derived.Test.YtngimdmkomkeoaaGreatShelf
set_option linter.unusedVariables false
set_option linter.unusedSimpArgs false
namespace Go.Proofs.YtngimdmkomkeoaaGreat.K
open Go.RowKit Go.Proofs
set_option maxHeartbeats 4000000
set_option maxRecDepth 100000
theorem k_token_letter (t0 : Int) (r : Bool) (hr : token_letter t0 = some r) : FnP PP 215 [AInt .u8 t0] (ABool r) := by
  refine Fo (fun (r : Bool) => ABool r) Tryz.func215 q (n := 17) q q hr fun X hΨ => ?_
  refine Jq q <| Ra (ABool false) q q <| R0 <| Jq q <| Rm (AInt .u8 t0) q q <| r_geq q q q <| Rm (ABool (decide (97 ≤ t0))) q q <| R_if (fun h1 => ?_) (fun h1 => ?_)
  rotate_left
  · refine Rk (g_tn q q (df h1)) <| Rk (g_tn q q (df h1)) <| r_pickF (ABool false) q (df h1) q q <| Rm (ABool false) q q <| Rm (AInt .u8 t0) q (g_f q q q) <| r_geq q q (g_f q q q) <| Rm (ABool (decide (65 ≤ t0))) q (g_f q q q) <| R_if (fun h4 => ?_) (fun h4 => ?_)
    · exact Rm (AInt .u8 t0) q (g_t q q (dt h4)) <| r_leq q q (g_t q q (dt h4)) <| r_pickT (ABool (decide (t0 ≤ 90))) q (dt h4) q (g_f q q q) <| r_pickF (ABool (decide (t0 ≤ 90))) q q q q <| Ra (ABool (decide (t0 ≤ 90))) q q <| Rt hΨ q q q
    exact Rk (g_tn q q (df h4)) <| Rk (g_tn q q (df h4)) <| r_pickF (ABool false) q (df h4) q (g_f q q q) <| r_pickF (ABool false) q q q q <| Ra (ABool false) q q <| Rt hΨ q q q
  refine Rm (AInt .u8 t0) q (g_t q q (dt h1)) <| r_leq q q (g_t q q (dt h1)) <| r_pickT (ABool (decide (t0 ≤ 122))) q (dt h1) q q <| Rm (ABool (decide (t0 ≤ 122))) q q <| R_if (fun h2 => ?_) (fun h2 => ?_)
  · exact Rk (g_fn q q (dt h2)) <| Rk (g_fn q q (dt h2)) <| Rk (g_fn q q (dt h2)) <| Rk (g_u q q) <| Rk (g_u q q) <| Rk (g_fn q q (dt h2)) <| r_pickT (ABool true) q (dt h2) q q <| Ra (ABool true) q q <| Rt hΨ q q q
  refine Rm (AInt .u8 t0) q (g_f q q (df h2)) <| r_geq q q (g_f q q (df h2)) <| Rm (ABool (decide (65 ≤ t0))) q (g_f q q (df h2)) <| R_if (fun h3 => ?_) (fun h3 => ?_)
  · exact Rm (AInt .u8 t0) q (g_t q q (dt h3)) <| r_leq q q (g_t q q (dt h3)) <| r_pickT (ABool (decide (t0 ≤ 90))) q (dt h3) q (g_f q q (df h2)) <| r_pickF (ABool (decide (t0 ≤ 90))) q (df h2) q q <| Ra (ABool (decide (t0 ≤ 90))) q q <| Rt hΨ q q q
  exact Rk (g_tn q q (df h3)) <| Rk (g_tn q q (df h3)) <| r_pickF (ABool false) q (df h3) q (g_f q q (df h2)) <| r_pickF (ABool false) q (df h2) q q <| Ra (ABool false) q q <| Rt hΨ q q q
theorem k_token_run (t0 : ByteArray) (t1 : (Int → Option Bool)) (r : Int) (hr : token_run t0 t1 = some r) : FnP PP 216 [AStr t0, AFn PP (fun x => [AInt .u8 x]) (fun y => ABool y) t1] (I_ r) := by
  refine Fo (fun (r : Int) => I_ r) Tryz.func216 q (n := 20) q q hr fun X hΨ => ?_
  refine Jq q <| Ra (I_ 0) q q <| R0 <| Jq q <| Ra (I_ 0) q q <| R0 <| Js <| J_block ?_
  refine Jl (fun x1 => [(0, AStr t0), (1, AFn PP (fun x => [AInt .u8 x]) (fun y => ABool y) t1), (5, I_ x1)]) (.c3 q q q .nil) (fun E2 hE2 x1 => ?_)
  refine Js <| Js ?_
  apply J_joinA (fun v17 => ⟨fr [(5, I_ x1), (6, I_ x1), (8, I_ (t0.size : Int))], fun _ => none, 0⟩) (fun v17 => token_run_j17 x1 v17)
  · intro K18
    refine Jr q <| Rm (I_ x1) q q <| Rm (AStr t0) q q <| r_lenS is_9 q q <| r_lss q q q <| Rm (ABool (decide (x1 < (t0.size : Int)))) q q <| R_if (fun h10 => ?_) (fun h10 => ?_)
    rotate_left
    · exact Rk (g_tn q q (df h10)) <| Rk (g_tn q q (df h10)) <| Rk (g_tn q q (df h10)) <| Rk (g_tn q q (df h10)) <| Rk (g_tn q q (df h10)) <| r_pickF (ABool false) q (df h10) q q <| R0 <| J_cond_F q q <| Jk (K18 ()) (.c3 q q q .nil)
    refine Rm (AFn PP (fun x => [AInt .u8 x]) (fun y => ABool y) t1) q (g_t q q (dt h10)) <| Rm (AStr t0) q (g_t q q (dt h10)) <| Rm (I_ x1) q (g_t q q (dt h10)) <| R_if (fun h11 => ?_) (fun _ => R_none)
    refine r_ixS ut_9 q q h11.1 h11.2 (g_t q q (dt h10)) <| R_bind fun b12 h13 => r_callFn (ga := (fun x => [AInt .u8 x])) (rt := (fun y => ABool y)) (gg := t1) (u := byteAt t0 x1) (w := b12) q q h13 (NK.nk) (g_t q q (dt h10)) <| r_pickT (ABool b12) q (dt h10) q q <| R0 <| J_cond q (fun h14 => ?_) (fun h14 => ?_)
    rotate_left
    · exact Jk (K18 ()) (.c3 q q q .nil)
    refine J_skip <| J_block <| J_range 8 (m := (t0.size : Int)) q fun q15 => J_range 5 (m := x1) q fun q16 => Jr q <| Rm (I_ x1) q q <| r_add (x1 + 1) q q (wrap_i64 (by omega) (by omega)) q <| Ra (I_ (x1 + 1)) q q <| R0 <| J_inBlock ?_
    exact J_go <| Jk (hE2 (x1 + 1)) (.c3 q q q .nil)
  intro v17
  exact J_exit q <| J_outS <| Jq q <| Rm (I_ x1) q q <| Ra (I_ x1) q q <| Rt hΨ q q q
theorem k_token_digit (t0 : Int) (r : Bool) (hr : token_digit t0 = some r) : FnP PP 218 [AInt .u8 t0] (ABool r) := by
  refine Fo (fun (r : Bool) => ABool r) Tryz.func218 q (n := 9) q q hr fun X hΨ => ?_
  refine Jq q <| Ra (ABool false) q q <| R0 <| Jq q <| Rm (AInt .u8 t0) q q <| r_geq q q q <| Rm (ABool (decide (48 ≤ t0))) q q <| R_if (fun h1 => ?_) (fun h1 => ?_)
  · exact Rm (AInt .u8 t0) q (g_t q q (dt h1)) <| r_leq q q (g_t q q (dt h1)) <| r_pickT (ABool (decide (t0 ≤ 57))) q (dt h1) q q <| Ra (ABool (decide (t0 ≤ 57))) q q <| Rt hΨ q q q
  exact Rk (g_tn q q (df h1)) <| Rk (g_tn q q (df h1)) <| r_pickF (ABool false) q (df h1) q q <| Ra (ABool false) q q <| Rt hΨ q q q
theorem k_token_part (t0 : Int) (r : Bool) (hr : token_part t0 = some r) : FnP PP 217 [AInt .u8 t0] (ABool r) := by
  refine Fo (fun (r : Bool) => ABool r) Tryz.func217 q (n := 13) q q hr fun X hΨ => ?_
  refine Jq q <| Ra (ABool false) q q <| R0 <| Jq q <| Rm (AInt .u8 t0) q q <| R_bind fun b1 h2 => r_call _ fn_215 (k_token_letter _ _ h2) q q <| Rm (ABool b1) q q ?_
  refine R_if (fun h3 => ?_) (fun h3 => ?_)
  · exact Rk (g_fn q q h3) <| Rk (g_fn q q h3) <| r_pickT (ABool true) q h3 q q <| Rm (ABool true) q q <| Rk (g_fn q q q) <| Rk (g_fn q q q) <| r_pickT (ABool true) q q q q <| Ra (ABool true) q q <| Rt hΨ q q q
  refine Rm (AInt .u8 t0) q (g_f q q (bf h3)) <| R_bind fun b4 h5 => r_call _ fn_218 (k_token_digit _ _ h5) q (g_f q q (bf h3)) <| r_pickF (ABool b4) q (bf h3) q q <| Rm (ABool b4) q q <| R_if (fun h6 => ?_) (fun h6 => ?_)
  · exact Rk (g_fn q q h6) <| Rk (g_fn q q h6) <| r_pickT (ABool true) q h6 q q <| Ra (ABool true) q q <| Rt hΨ q q q
  exact Rm (AInt .u8 t0) q (g_f q q (bf h6)) <| r_eql q q (g_f q q (bf h6)) <| r_pickF (ABool (decide (t0 = 95))) q (bf h6) q q <| Ra (ABool (decide (t0 = 95))) q q <| Rt hΨ q q q
theorem k_token_quoted_1 (t0 : Int) (r : Bool) (hr : token_quoted_1 t0 = some r) : FnP PP 237 [AInt .u8 t0] (ABool r) := by
  refine Fo (fun (r : Bool) => ABool r) Tryz.func237 q (n := 13) q q hr fun X hΨ => ?_
  refine Jq q <| Ra (ABool false) q q <| R0 <| Jq q <| Rm (AInt .u8 t0) q q <| r_geq q q q <| Rm (ABool (decide (32 ≤ t0))) q q <| R_if (fun h1 => ?_) (fun h1 => ?_)
  rotate_left
  · exact Rk (g_tn q q (df h1)) <| Rk (g_tn q q (df h1)) <| r_pickF (ABool false) q (df h1) q q <| Rm (ABool false) q q <| Rk (g_tn q q q) <| Rk (g_tn q q q) <| r_pickF (ABool false) q q q q <| Ra (ABool false) q q <| Rt hΨ q q q
  refine Rm (AInt .u8 t0) q (g_t q q (dt h1)) <| r_leq q q (g_t q q (dt h1)) <| r_pickT (ABool (decide (t0 ≤ 126))) q (dt h1) q q <| Rm (ABool (decide (t0 ≤ 126))) q q <| R_if (fun h2 => ?_) (fun h2 => ?_)
  · exact Rm (AInt .u8 t0) q (g_t q q (dt h2)) <| r_neq q q (g_t q q (dt h2)) <| r_pickT (ABool (decide (¬ (t0 = 34)))) q (dt h2) q q <| Ra (ABool (decide (¬ (t0 = 34)))) q q <| Rt hΨ q q q
  exact Rk (g_tn q q (df h2)) <| Rk (g_tn q q (df h2)) <| r_pickF (ABool false) q (df h2) q q <| Ra (ABool false) q q <| Rt hΨ q q q
theorem k_token_quoted (t0 : ByteArray) (r : Int × Int) (hr : token_quoted t0 = some r) : FnP PP 219 [AStr t0] (ATup [I_ r.1, I_ r.2]) := by
  refine Fo (fun (r : Int × Int) => ATup [I_ r.1, I_ r.2]) Tryz.func219 q (n := 24) q q hr fun X hΨ => ?_
  refine Jq q <| Ra (I_ 0) q q <| Ra (I_ 0) q q <| R0 <| Jq q <| Rm (AStr t0) q q <| R_if (fun h1 => ?_) (fun _ => R_none)
  refine r_cutS 1 (t0.size : Int) ut_9 q (lo_s q) hi_n h1.1 h1.2.1 h1.2.2 q <| R_bind fun b2 h3 => r_callB [] [AStr (cutS t0 1 (t0.size : Int)), AClo 237 []] fn_216 (k_token_run _ _ _ h3) .nil q (.cons .same (.cons (.cloFn fn_237 (fun x y h => k_token_quoted_1 x y h)) .nil)) q <| Ra (I_ b2) q q <| R0 <| Js <| Jq q <| Rm (I_ b2) q q <| R_bind fun b4 h5 => ?_
  refine r_add b4 q q (Option.some.inj h5) q <| Rm (AStr t0) q q <| r_lenS is_9 q q <| r_eql q q q <| Rm (ABool (decide (b4 = (t0.size : Int)))) q q <| R_if (fun h6 => ?_) (fun h6 => ?_)
  · refine Rk (g_fn q q (dt h6)) <| Rk (g_fn q q (dt h6)) <| Rk (g_fn q q (dt h6)) <| Rk (g_fn q q (dt h6)) <| Rk (g_fn q q (dt h6)) <| r_pickT (ABool true) q (dt h6) q q <| R0 <| J_cond_T q q <| Jq q ?_
    exact Ra (I_ 0) q q <| Ra (I_ 2) q q <| R0 <| Jt hΨ (Res_many (As := [I_ 0, I_ 2]) q q (.cons (.tmp (A := I_ 0) q) (.cons (.tmp (A := I_ 2) q) .nil))) q q
  refine Rm (AStr t0) q (g_f q q (df h6)) <| Rm (I_ b2) q (g_f q q (df h6)) <| R_bind fun b7 h8 => r_add b7 q q (Option.some.inj h8) (g_f q q (df h6)) <| R_if (fun h9 => ?_) (fun _ => R_none)
  refine r_ixS ut_9 q q h9.1 h9.2 (g_f q q (df h6)) <| r_neq q q (g_f q q (df h6)) <| r_pickF (ABool (decide (¬ (byteAt t0 b7 = 34)))) q (df h6) q q <| R0 <| J_cond_p q (fun h10 => ?_) (fun h10 => ?_)
  · exact Jq q <| Ra (I_ 0) q q <| Ra (I_ 2) q q <| R0 <| Jt hΨ (Res_many (As := [I_ 0, I_ 2]) q q (.cons (.tmp (A := I_ 0) q) (.cons (.tmp (A := I_ 2) q) .nil))) q q
  refine J_skip <| Js <| Jq q <| Rm (I_ b2) q q <| r_gtr q q q <| R0 <| J_cond_p q (fun h11 => ?_) (fun h11 => ?_)
  · exact Jq q <| Ra (I_ 0) q q <| Ra (I_ 3) q q <| R0 <| Jt hΨ (Res_many (As := [I_ 0, I_ 3]) q q (.cons (.tmp (A := I_ 0) q) (.cons (.tmp (A := I_ 3) q) .nil))) q q
  exact J_skip <| Jq q <| Rm (I_ b2) q q <| R_bind fun b12 h13 => r_add b12 q q (Option.some.inj h13) q <| Ra (I_ b12) q q <| Ra (I_ 0) q q <| R0 <| Jt hΨ (Res_many (As := [I_ b12, I_ 0]) q q (.cons (.tmp (A := I_ b12) q) (.cons (.tmp (A := I_ 0) q) .nil))) q q
theorem k_slices_Index_string (t0 : (List ByteArray)) (t1 : ByteArray) (r : Int) (hr : slices_Index_string t0 t1 = some r) : FnP PP 222 [AL 1 c_str t0, AStr t1] (I_ r) := by
  refine Fo (fun (r : Int) => I_ r) Tryz.func222 q (n := 19) q q hr fun X hΨ => ?_
  refine Jq q <| Ra (I_ 0) q q <| R0 <| Js <| Jq q <| Rm (AL 1 c_str t0) q q <| r_len (cc := c_str) il_98 q q <| Rm (I_ 0) q q ?_
  refine R0 <| J_block <| Jl (fun x1 => [(0, AL 1 c_str t0), (1, AStr t1), (7, I_ (t0.length : Int)), (8, I_ x1)]) (.cons q (.c3 q q q .nil)) (fun E2 hE2 x1 => ?_)
  refine Jq q <| r_lss q q q <| R0 <| Js <| J_cond_p q (fun h6 => ?_) (fun h6 => ?_)
  rotate_left
  · exact J_exit q <| J_outS <| Jq q <| Ra (I_ (-1)) q q <| Rt hΨ q q q
  refine J_skip <| Js <| J_block <| Jq q <| Rm (I_ x1) q q <| Ra (I_ x1) q q <| R0 <| Jq q ?_
  refine Rm (AStr t1) q q <| Rm (AL 1 c_str t0) q q <| Rm (I_ x1) q q <| R_if (fun h7 => ?_) (fun _ => R_none)
  refine r_ix (cc := c_str) el_98 q q h7.1 h7.2 q <| r_ld (AStr (nth t0 x1)) sc_9 q q q <| r_eqS q q q <| R0 <| J_cond_p q (fun h8 => ?_) (fun h8 => ?_)
  · exact Jq q <| Rm (I_ x1) q q <| Ra (I_ x1) q q <| R0 <| J_outS <| Jt hΨ (Res_one q) q q
  exact J_skip <| J_inBlock <| J_range 7 (m := (t0.length : Int)) q fun q9 => J_range 5 (m := x1) q fun q10 => Jr q <| r_add (x1 + 1) q q (wrap_i64 (by omega) (by omega)) q <| Rm (I_ (x1 + 1)) q q <| R0 <| J_go <| Jk (hE2 (x1 + 1)) (.cons q (.c3 q q q .nil))
theorem k_slices_Contains_string (t0 : (List ByteArray)) (t1 : ByteArray) (r : Bool) (hr : slices_Contains_string t0 t1 = some r) : FnP PP 183 [AL 1 c_str t0, AStr t1] (ABool r) := by
  refine Fo (fun (r : Bool) => ABool r) Tryz.func183 q (n := 9) q q hr fun X hΨ => ?_
  refine Jq q <| Ra (ABool false) q q <| R0 <| Jq q <| Rm (AL 1 c_str t0) q q <| Rm (AStr t1) q q <| R_bind fun b1 h2 => r_call _ fn_222 (k_slices_Index_string _ _ _ h2) q q ?_
  exact r_geq q q q <| Ra (ABool (decide (0 ≤ b1))) q q <| Rt hΨ q q q
theorem k_token_pair (t0 : ByteArray) (r : Bool) (hr : token_pair t0 = some r) : FnP PP 220 [AStr t0] (ABool r) := by
  refine Fo (fun (r : Bool) => ABool r) Tryz.func220 q (n := 12) q q hr fun X hΨ => ?_
  refine Jq q <| Ra (ABool false) q q <| R0 <| Jq q <| Rm (AStr t0) q q <| r_lenS is_9 q q <| r_geq q q q <| Rm (ABool (decide (2 ≤ (t0.size : Int)))) q q ?_
  refine R_if (fun h1 => ?_) (fun h1 => ?_)
  rotate_left
  · exact Rk (g_tn q q (df h1)) <| Rk (g_tn q q (df h1)) <| Rk (g_tn q q (df h1)) <| Rk (g_tn q q (df h1)) <| r_pickF (ABool false) q (df h1) q q <| Ra (ABool false) q q <| Rt hΨ q q q
  refine r_bs (cc := c_str) [(ByteArray.mk #[45, 62]), (ByteArray.mk #[60, 61]), (ByteArray.mk #[62, 61]), (ByteArray.mk #[61, 61]), (ByteArray.mk #[33, 61])] el_98 zr_9_5 (.cons (A := AStr (ByteArray.mk #[45, 62])) q q q (.cons (A := AStr (ByteArray.mk #[60, 61])) q q q (.cons (A := AStr (ByteArray.mk #[62, 61])) q q q (.cons (A := AStr (ByteArray.mk #[61, 61])) q q q (.cons (A := AStr (ByteArray.mk #[33, 61])) q q q .nil))))) q q (g_t q q (dt h1)) <| Rm (AStr t0) q (g_t q q (dt h1)) <| R_if (fun h2 => ?_) (fun _ => R_none)
  exact r_cutS 0 2 ut_9 q lo_n (hi_s q) h2.1 h2.2.1 h2.2.2 (g_t q q (dt h1)) <| R_bind fun b3 h4 => r_call _ fn_183 (k_slices_Contains_string _ _ _ h4) q (g_t q q (dt h1)) <| r_pickT (ABool b3) q (dt h1) q q <| Ra (ABool b3) q q <| Rt hΨ q q q
theorem k_stringslite_IndexByte (t0 : ByteArray) (t1 : Int) (r : Int) (hr : stringslite_IndexByte t0 t1 = some r) : FnP PP 238 [AStr t0, AInt .u8 t1] (I_ r) := by
  refine Fo (fun (r : Int) => I_ r) Tryz.func238 q (n := 8) q q hr fun X hΨ => ?_
  refine Jq q <| Ra (I_ 0) q q <| R0 <| Jq q <| Rm (AStr t0) q q <| Rm (AInt .u8 t1) q q <| r_ixByte ib_251 q q q <| Ra (I_ (byteIx t0 t1)) q q ?_
  exact Rt hΨ q q q
theorem k_strings_IndexByte (t0 : ByteArray) (t1 : Int) (r : Int) (hr : strings_IndexByte t0 t1 = some r) : FnP PP 221 [AStr t0, AInt .u8 t1] (I_ r) := by
  refine Fo (fun (r : Int) => I_ r) Tryz.func221 q (n := 8) q q hr fun X hΨ => ?_
  refine Jq q <| Ra (I_ 0) q q <| R0 <| Jq q <| Rm (AStr t0) q q <| Rm (AInt .u8 t1) q q <| R_bind fun b1 h2 => r_call _ fn_238 (k_stringslite_IndexByte _ _ _ h2) q q ?_
  exact Ra (I_ b1) q q <| Rt hΨ q q q
theorem k_token_next (t0 : ByteArray) (r : Int × Int × Int) (hr : token_next t0 = some r) : FnP PP 181 [AStr t0] (ATup [I_ r.1, I_ r.2.1, I_ r.2.2]) := by
  refine Fo (fun (r : Int × Int × Int) => ATup [I_ r.1, I_ r.2.1, I_ r.2.2]) Tryz.func181 q (n := 45) q q hr fun X hΨ => ?_
  refine Jq q <| Ra (I_ 0) q q <| Ra (I_ 0) q q <| Ra (I_ 0) q q <| R0 <| Jq q <| Rm (AStr t0) q q <| R_if (fun h1 => ?_) (fun _ => R_none)
  refine r_ixS ut_9 q q h1.1 h1.2 q <| Ra (AInt .u8 (byteAt t0 0)) q q <| R0 <| Js <| J_block <| Jq q <| Rm (AInt .u8 (byteAt t0 0)) q q <| R_bind fun b2 h3 => r_call _ fn_215 (k_token_letter _ _ h3) q q ?_
  refine Ra (ABool b2) q q <| R0 <| J_cond q (fun h4 => ?_) (fun h4 => ?_)
  · refine Jq q <| Rm (AStr t0) q q <| R_bind fun b5 h6 => r_callB [] [AStr t0, AClo 217 []] fn_216 (k_token_run _ _ _ h6) .nil q (.cons .same (.cons (.cloFn fn_217 (fun x y h => k_token_part x y h)) .nil)) q <| Ra (I_ b5) q q <| R0 <| Js <| Jq q ?_
    refine Rm (I_ b5) q q <| r_gtr q q q <| R0 <| J_cond_p q (fun h7 => ?_) (fun h7 => ?_)
    · exact Jq q <| Ra (I_ 0) q q <| Ra (I_ 0) q q <| Ra (I_ 3) q q <| R0 <| Jt hΨ (Res_many (As := [I_ 0, I_ 0, I_ 3]) q q (.cons (.tmp (A := I_ 0) q) (.cons (.tmp (A := I_ 0) q) (.cons (.tmp (A := I_ 3) q) .nil)))) q q
    exact J_skip <| Jq q <| Rm (I_ b5) q q <| Ra (I_ 1) q q <| Ra (I_ b5) q q <| Ra (I_ 0) q q <| R0 <| Jt hΨ (Res_many (As := [I_ 1, I_ b5, I_ 0]) q q (.cons (.tmp (A := I_ 1) q) (.cons (.tmp (A := I_ b5) q) (.cons (.tmp (A := I_ 0) q) .nil)))) q q
  refine Jq q <| Rm (AInt .u8 (byteAt t0 0)) q q <| R_bind fun b8 h9 => r_call _ fn_218 (k_token_digit _ _ h9) q q <| Ra (ABool b8) q q <| R0 <| J_cond q (fun h10 => ?_) (fun h10 => ?_)
  · refine Jq q <| Rm (AStr t0) q q <| R_bind fun b11 h12 => r_callB [] [AStr t0, AClo 218 []] fn_216 (k_token_run _ _ _ h12) .nil q (.cons .same (.cons (.cloFn fn_218 (fun x y h => k_token_digit x y h)) .nil)) q <| Ra (I_ b11) q q <| R0 <| Js <| Jq q ?_
    refine Rm (I_ b11) q q <| r_gtr q q q <| R0 <| J_cond_p q (fun h13 => ?_) (fun h13 => ?_)
    · exact Jq q <| Ra (I_ 0) q q <| Ra (I_ 0) q q <| Ra (I_ 3) q q <| R0 <| Jt hΨ (Res_many (As := [I_ 0, I_ 0, I_ 3]) q q (.cons (.tmp (A := I_ 0) q) (.cons (.tmp (A := I_ 0) q) (.cons (.tmp (A := I_ 3) q) .nil)))) q q
    exact J_skip <| Jq q <| Rm (I_ b11) q q <| Ra (I_ 2) q q <| Ra (I_ b11) q q <| Ra (I_ 0) q q <| R0 <| Jt hΨ (Res_many (As := [I_ 2, I_ b11, I_ 0]) q q (.cons (.tmp (A := I_ 2) q) (.cons (.tmp (A := I_ b11) q) (.cons (.tmp (A := I_ 0) q) .nil)))) q q
  refine Jq q <| Rm (AInt .u8 (byteAt t0 0)) q q <| r_eql q q q <| Ra (ABool (decide (byteAt t0 0 = 34))) q q <| R0 <| J_cond_p q (fun h14 => ?_) (fun h14 => ?_)
  · refine Jq q <| Rm (AStr t0) q q <| R_bind fun b15 h16 => r_call _ fn_219 (k_token_quoted _ _ h16) q q <| Rm (ATup [I_ b15.1, I_ b15.2]) q q <| r_ext (I_ b15.1) q q q <| r_ext (I_ b15.2) q q q <| Ra (I_ b15.1) q q <| Ra (I_ b15.2) q q ?_
    exact R0 <| Jq q <| Rm (I_ b15.1) q q <| Rm (I_ b15.2) q q <| Ra (I_ 3) q q <| Ra (I_ b15.1) q q <| Ra (I_ b15.2) q q <| R0 <| Jt hΨ (Res_many (As := [I_ 3, I_ b15.1, I_ b15.2]) q q (.cons (.tmp (A := I_ 3) q) (.cons (.tmp (A := I_ b15.1) q) (.cons (.tmp (A := I_ b15.2) q) .nil)))) q q
  refine Jq q <| Rm (AStr t0) q q <| R_bind fun b17 h18 => r_call _ fn_220 (k_token_pair _ _ h18) q q <| Ra (ABool b17) q q <| R0 <| J_cond q (fun h19 => ?_) (fun h19 => ?_)
  · exact Jq q <| Ra (I_ 4) q q <| Ra (I_ 2) q q <| Ra (I_ 0) q q <| R0 <| Jt hΨ (Res_many (As := [I_ 4, I_ 2, I_ 0]) q q (.cons (.tmp (A := I_ 4) q) (.cons (.tmp (A := I_ 2) q) (.cons (.tmp (A := I_ 0) q) .nil)))) q q
  refine Jq q <| Rm (AInt .u8 (byteAt t0 0)) q q <| R_bind fun b20 h21 => r_call _ fn_221 (k_strings_IndexByte _ _ _ h21) q q <| r_geq q q q <| Ra (ABool (decide (0 ≤ b20))) q q <| R0 <| J_cond_p q (fun h22 => ?_) (fun h22 => ?_)
  · exact Jq q <| Ra (I_ 4) q q <| Ra (I_ 1) q q <| Ra (I_ 0) q q <| R0 <| Jt hΨ (Res_many (As := [I_ 4, I_ 1, I_ 0]) q q (.cons (.tmp (A := I_ 4) q) (.cons (.tmp (A := I_ 1) q) (.cons (.tmp (A := I_ 0) q) .nil)))) q q
  exact J_skip <| J_inBlock <| Jq q <| Ra (I_ 0) q q <| Ra (I_ 0) q q <| Ra (I_ 2) q q <| R0 <| Jt hΨ (Res_many (As := [I_ 0, I_ 0, I_ 2]) q q (.cons (.tmp (A := I_ 0) q) (.cons (.tmp (A := I_ 0) q) (.cons (.tmp (A := I_ 2) q) .nil)))) q q
theorem k_token_whole (t0 : api_Token) (r : ByteArray × Bool) (hr : token_whole t0 = some r) : FnP PP 145 [AAgg (c_api_Token t0)] (ATup [AStr r.1, ABool r.2]) := by
  refine Fo (fun (r : ByteArray × Bool) => ATup [AStr r.1, ABool r.2]) Tryz.func145 q (n := 39) q q hr fun X hΨ => ?_
  refine Jq q <| r_boxV (AAgg (c_api_Token t0)) q q <| Ra (AStr (ByteArray.mk #[])) q q <| Ra (ABool false) q q <| R0 <| Jq q <| r_faT (c_str t0.Text) fo_151_1 q q q <| r_ld (AStr t0.Text) sc_9 q q q ?_
  refine Ra (AStr t0.Text) q q <| R0 <| Js <| Jq q <| r_faT (c_i64 t0.Kind) fo_151_0 q q q <| r_ld (I_ t0.Kind) sc_3 q q q <| r_eql q q q <| R0 ?_
  apply J_joinA (fun v9 => ⟨fr [(1, APtr (c_api_Token t0)), (4, AStr v9), (11, I_ t0.Kind)], fun _ => none, 0⟩) (fun v9 => token_whole_j9 t0 v9)
  · intro K15
    refine J_cond_p q (fun h1 => ?_) (fun h1 => ?_)
    rotate_left
    · exact J_skip <| Jk (K15 t0.Text) (.c3 q q q .nil)
    refine Jr q <| Rm (AStr t0.Text) q q <| R_if (fun h2 => ?_) (fun _ => R_none)
    refine r_catS q q h2 q <| R_if (fun h3 => ?_) (fun _ => R_none)
    exact r_catS q q h3 q <| Ra (AStr (((ByteArray.mk #[34]) ++ t0.Text) ++ (ByteArray.mk #[34]))) q q <| R0 <| Jk (K15 (((ByteArray.mk #[34]) ++ t0.Text) ++ (ByteArray.mk #[34]))) (.c3 q q q .nil)
  intro v9
  refine Js <| Jq q <| Rm (AStr v9) q q <| r_eqS q q q <| R0 <| J_cond_p q (fun h10 => ?_) (fun h10 => ?_)
  · exact Jq q <| Ra (AStr (ByteArray.mk #[])) q q <| Ra (ABool false) q q <| R0 <| Jt hΨ (Res_many (As := [AStr (ByteArray.mk #[]), ABool false]) q q (.cons (.tmp (A := AStr (ByteArray.mk #[])) q) (.cons (.tmp (A := ABool false) q) .nil))) q q
  refine J_skip <| Jq q <| Rm (AStr v9) q q <| R_bind fun b11 h12 => r_call _ fn_181 (k_token_next _ _ h12) q q <| Rm (ATup [I_ b11.1, I_ b11.2.1, I_ b11.2.2]) q q <| r_ext (I_ b11.1) q q q <| r_ext (I_ b11.2.1) q q q <| r_ext (I_ b11.2.2) q q q ?_
  refine Ra (I_ b11.1) q q <| Ra (I_ b11.2.1) q q <| Ra (I_ b11.2.2) q q <| R0 <| Jq q <| Rm (AStr v9) q q <| Rm (I_ b11.2.2) q q <| r_eql q q q <| Rm (ABool (decide (b11.2.2 = 0))) q q ?_
  refine R_if (fun h13 => ?_) (fun h13 => ?_)
  rotate_left
  · refine Rk (g_tn q q (df h13)) <| Rk (g_tn q q (df h13)) <| Rk (g_tn q q (df h13)) <| Rk (g_tn q q (df h13)) <| r_pickF (ABool false) q (df h13) q q <| Rm (ABool false) q q <| Rk (g_tn q q q) <| Rk (g_tn q q q) <| Rk (g_tn q q q) <| Rk (g_tn q q q) ?_
    exact r_pickF (ABool false) q q q q <| Ra (AStr v9) q q <| Ra (ABool false) q q <| R0 <| Jt hΨ (Res_many (As := [AStr v9, ABool false]) q q (.cons (.tmp (A := AStr v9) q) (.cons (.tmp (A := ABool false) q) .nil))) q q
  refine Rm (I_ b11.1) q (g_t q q (dt h13)) <| r_faT (c_i64 t0.Kind) fo_151_0 q q (g_t q q (dt h13)) <| r_ld (I_ t0.Kind) sc_3 q q (g_t q q (dt h13)) <| r_eql q q (g_t q q (dt h13)) <| r_pickT (ABool (decide (b11.1 = t0.Kind))) q (dt h13) q q <| Rm (ABool (decide (b11.1 = t0.Kind))) q q <| R_if (fun h14 => ?_) (fun h14 => ?_)
  · exact Rm (I_ b11.2.1) q (g_t q q (dt h14)) <| Rm (AStr v9) q (g_t q q (dt h14)) <| r_lenS is_9 q (g_t q q (dt h14)) <| r_eql q q (g_t q q (dt h14)) <| r_pickT (ABool (decide (b11.2.1 = (v9.size : Int)))) q (dt h14) q q <| Ra (AStr v9) q q <| Ra (ABool (decide (b11.2.1 = (v9.size : Int)))) q q <| R0 <| Jt hΨ (Res_many (As := [AStr v9, ABool (decide (b11.2.1 = (v9.size : Int)))]) q q (.cons (.tmp (A := AStr v9) q) (.cons (.tmp (A := ABool (decide (b11.2.1 = (v9.size : Int)))) q) .nil))) q q
  exact Rk (g_tn q q (df h14)) <| Rk (g_tn q q (df h14)) <| Rk (g_tn q q (df h14)) <| Rk (g_tn q q (df h14)) <| r_pickF (ABool false) q (df h14) q q <| Ra (AStr v9) q q <| Ra (ABool false) q q <| R0 <| Jt hΨ (Res_many (As := [AStr v9, ABool false]) q q (.cons (.tmp (A := AStr v9) q) (.cons (.tmp (A := ABool false) q) .nil))) q q
theorem k_token_IsName (t0 : ByteArray) (r : Bool) (hr : token_IsName t0 = some r) : FnP PP 94 [AStr t0] (ABool r) := by
  refine Fo (fun (r : Bool) => ABool r) Tryz.func94 q (n := 12) q q hr fun X hΨ => ?_
  refine Jq q <| Ra (ABool false) q q <| R0 <| Jq q <| Rm (AStr t0) q q <| r_build (c_api_Token (api_Token.mk 1 t0 0)) pl_151 z_151 (.cons (A := I_ 1) q po_151_0 q (.cons (A := AStr t0) q po_151_1 q .nil)) q q <| R_bind fun b1 h2 => r_call _ fn_145 (k_token_whole _ _ h2) q q ?_
  refine Rm (ATup [AStr b1.1, ABool b1.2]) q q <| r_ext (AStr b1.1) q q q <| r_ext (ABool b1.2) q q q <| Ra (AStr b1.1) q q <| Ra (ABool b1.2) q q <| R0 <| Jq q <| Rm (ABool b1.2) q q <| Ra (ABool b1.2) q q ?_
  exact Rt hΨ q q q
theorem k_slices_IndexFunc_api_NodeType (t0 : (List api_NodeType)) (t1 : (api_NodeType → Option Bool)) (r : Int) (hr : slices_IndexFunc_api_NodeType t0 t1 = some r) : FnP PP 146 [AL 4 c_api_NodeType t0, AFn PP (fun x => [AAgg (c_api_NodeType x)]) (fun y => ABool y) t1] (I_ r) := by
  refine Fo (fun (r : Int) => I_ r) Tryz.func146 q (n := 19) q q hr fun X hΨ => ?_
  refine Jq q <| Ra (I_ 0) q q <| R0 <| Js <| Jq q <| Rm (AL 4 c_api_NodeType t0) q q <| r_len (cc := c_api_NodeType) il_22 q q <| Rm (I_ 0) q q ?_
  refine R0 <| J_block <| Jl (fun x1 => [(0, AL 4 c_api_NodeType t0), (1, AFn PP (fun x => [AAgg (c_api_NodeType x)]) (fun y => ABool y) t1), (7, I_ (t0.length : Int)), (8, I_ x1)]) (.cons q (.c3 q q q .nil)) (fun E2 hE2 x1 => ?_)
  refine Jq q <| r_lss q q q <| R0 <| Js <| J_cond_p q (fun h8 => ?_) (fun h8 => ?_)
  rotate_left
  · exact J_exit q <| J_outS <| Jq q <| Ra (I_ (-1)) q q <| Rt hΨ q q q
  refine J_skip <| Js <| J_block <| Jq q <| Rm (I_ x1) q q <| Ra (I_ x1) q q <| R0 <| Jq q ?_
  refine Rm (AFn PP (fun x => [AAgg (c_api_NodeType x)]) (fun y => ABool y) t1) q q <| Rm (AL 4 c_api_NodeType t0) q q <| Rm (I_ x1) q q <| R_if (fun h9 => ?_) (fun _ => R_none)
  refine r_ix (cc := c_api_NodeType) el_22 q q h9.1 h9.2 q <| r_lda (c_api_NodeType (nth t0 x1)) ag_97 q q q q <| R_bind fun b10 h11 => r_callFn (ga := (fun x => [AAgg (c_api_NodeType x)])) (rt := (fun y => ABool y)) (gg := t1) (u := (nth t0 x1)) (w := b10) q q h11 (NK.nk) q <| R0 <| J_cond q (fun h12 => ?_) (fun h12 => ?_)
  · exact Jq q <| Rm (I_ x1) q q <| Ra (I_ x1) q q <| R0 <| J_outS <| Jt hΨ (Res_one q) q q
  exact J_skip <| J_inBlock <| J_range 7 (m := (t0.length : Int)) q fun q13 => J_range 5 (m := x1) q fun q14 => Jr q <| r_add (x1 + 1) q q (wrap_i64 (by omega) (by omega)) q <| Rm (I_ (x1 + 1)) q q <| R0 <| J_go <| Jk (hE2 (x1 + 1)) (.cons q (.c3 q q q .nil))
theorem k_slices_ContainsFunc_api_NodeType (t0 : (List api_NodeType)) (t1 : (api_NodeType → Option Bool)) (r : Bool) (hr : slices_ContainsFunc_api_NodeType t0 t1 = some r) : FnP PP 95 [AL 4 c_api_NodeType t0, AFn PP (fun x => [AAgg (c_api_NodeType x)]) (fun y => ABool y) t1] (ABool r) := by
  refine Fo (fun (r : Bool) => ABool r) Tryz.func95 q (n := 9) q q hr fun X hΨ => ?_
  refine Jq q <| Ra (ABool false) q q <| R0 <| Jq q <| Rm (AL 4 c_api_NodeType t0) q q <| Rm (AFn PP (fun x => [AAgg (c_api_NodeType x)]) (fun y => ABool y) t1) q q <| R_bind fun b1 h2 => r_call _ fn_146 (k_slices_IndexFunc_api_NodeType _ _ _ h2) q q ?_
  exact r_geq q q q <| Ra (ABool (decide (0 ≤ b1))) q q <| Rt hΨ q q q
theorem k_types_node_1 (t0 : api_NodeType) (t1 : api_NodeType) (r : Bool) (hr : types_node_1 t0 t1 = some r) : FnP PP 96 [AAgg (c_api_NodeType t0), APtr (c_api_NodeType t1)] (ABool r) := by
  refine Fo (fun (r : Bool) => ABool r) Tryz.func96 q (n := 9) q q hr fun X hΨ => ?_
  refine Jq q <| r_boxV (AAgg (c_api_NodeType t0)) q q <| Ra (ABool false) q q <| R0 <| Jq q <| r_faT (c_str t0.Name) fo_97_0 q q q <| r_ld (AStr t0.Name) sc_9 q q q <| r_faT (c_str t1.Name) fo_97_0 q q q ?_
  exact r_ld (AStr t1.Name) sc_9 q q q <| r_eqS q q q <| Ra (ABool (decide (t0.Name = t1.Name))) q q <| Rt hΨ q q q
theorem k_types_attrs_b (q_types_attrs : api_Types → Int → Option (List api_Attr)) (hq_types_attrs : ∀ (t0 : api_Types) (t1 : Int) (r : (List api_Attr)), q_types_attrs t0 t1 = some r → FnK PP 97 0 [] [AAgg (c_api_Types t0), I_ t1] [(0, .row 100 4 (r.map c_api_Attr))] (AObj 0)) (t0 : api_Types) (t1 : Int) (r : (List api_Attr)) (hr : types_attrs_b q_types_attrs t0 t1 = some r) : FnK PP 97 0 [] [AAgg (c_api_Types t0), I_ t1] [(0, .row 100 4 (r.map c_api_Attr))] (AObj 0) := by
  refine Ko (fun (r : (List api_Attr)) => [(0, .row 100 4 (r.map c_api_Attr))]) (fun (r : (List api_Attr)) => AObj 0) Tryz.func97 q (n := 26) q (KBL.cons inferInstance (KBL.cons inferInstance (inferInstance : KBL 0 []))).kb (InsOk.spec .nil) q hr fun X hΨ => ?_
  refine Jq q <| r_boxV (AAgg (c_api_Types t0)) q q <| Ra (ANil) q q <| R0 <| Jq q <| Ra (ANil) q q <| R0 <| Js ?_
  refine Jq q <| r_faT ((cL 4 c_api_NodeType) t0.Nodes) fo_25_0 q q q <| r_ld (AL 4 c_api_NodeType t0.Nodes) sc_22 q q q <| Rm (I_ t1) q q <| R_if (fun h1 => ?_) (fun _ => R_none)
  refine r_ix (cc := c_api_NodeType) el_22 q q h1.1 h1.2 q <| r_faT (c_i64 ((nth t0.Nodes t1).Parent)) fo_97_1 q q q <| r_ld (I_ ((nth t0.Nodes t1).Parent)) sc_3 q q q <| Ra (I_ ((nth t0.Nodes t1).Parent)) q q <| R0 <| Jq q <| Rm (I_ ((nth t0.Nodes t1).Parent)) q q <| r_geq q q q <| R0 ?_
  apply J_joinA (fun v6 => ⟨fr [(1, I_ t1), (2, APtr (c_api_Types t0)), (5, AObj 0), (6, I_ ((nth t0.Nodes t1).Parent)), (9, I_ t1), (12, I_ ((nth t0.Nodes t1).Parent)), (13, I_ ((nth t0.Nodes t1).Parent))], hp [(0, .row 100 4 (v6.map c_api_Attr))], 1⟩) (fun v6 => types_attrs_j6 t0 t1 v6)
  · intro K8
    refine J_cond_p q (fun h2 => ?_) (fun h2 => ?_)
    rotate_left
    · exact J_skip <| Jc [] [] [0] (K8 []) (.s2 q q (.cons (A := ANil) q (.nilobj q q) (.same q (.s3 q q q .nil)))) (.new q q .nil) q q
    exact Jr q <| r_lda (c_api_Types t0) ag_25 q q q q <| Rm (I_ ((nth t0.Nodes t1).Parent)) q q <| R_bind fun b3 h4 => r_callK [] [] [] [0] 1 [] [(0, .row 100 4 (b3.map c_api_Attr))] (AObj 0) [AAgg (c_api_Types t0), I_ ((nth t0.Nodes t1).Parent)] fn_97 (hq_types_attrs _ _ _ h4) .nil q (.cons .same (.cons .same .nil)) .nil (.cons q q q q (.row (NKC.flat _ _)) q q .nil) (.obj q q q) q q q <| Ra (AObj 0) q q <| R0 <| Jc [] [] [] (K8 b3) (.s2 q q (.cons (A := AObj 0) q (.obj q q q) (.same q (.s3 q q q .nil)))) (.cons q q q q (.row (NKC.flat _ _)) q q .nil) q q
  intro v6
  refine Jq q <| Rm (AObj 0) q q <| r_faT ((cL 4 c_api_NodeType) t0.Nodes) fo_25_0 q q q <| r_ld (AL 4 c_api_NodeType t0.Nodes) sc_22 q q q <| Rm (I_ t1) q q <| r_ix (cc := c_api_NodeType) el_22 q q h1.1 h1.2 q <| r_faT ((cL 4 c_api_Attr) ((nth t0.Nodes t1).Attrs)) fo_97_3 q q q <| r_ld (AL 4 c_api_Attr ((nth t0.Nodes t1).Attrs)) sc_95 q q q <| R_if (fun h7 => ?_) (fun _ => R_none)
  exact r_app (cc := c_api_Attr) (xs := v6) (ys := (nth t0.Nodes t1).Attrs) 1 ap_95 q q q h7 q q q <| Ra (AObj 1) q q <| R0 <| J_retK hΨ (Res_box q (.tmp (A := AObj 1) q)) [] [(0, 1)] [] q (fun y hy => by cases hy; exact ⟨(.cons q q q q (.row (NKC.flat _ _)) q q .nil), (.obj q q q)⟩)
theorem types_attrs_n_ok : ∀ n, (∀ (t0 : api_Types) (t1 : Int) (r : (List api_Attr)), (types_attrs_n n) t0 t1 = some r → FnK PP 97 0 [] [AAgg (c_api_Types t0), I_ t1] [(0, .row 100 4 (r.map c_api_Attr))] (AObj 0)) := by
  intro n
  induction n with
  | zero => exact (fun _ _ _ h => by cases h)
  | succ n ih => exact (fun a0 a1 r h => k_types_attrs_b _ ih a0 a1 r h)
theorem k_types_attrs (t0 : api_Types) (t1 : Int) (r : (List api_Attr)) (hr : types_attrs t0 t1 = some r) : FnK PP 97 0 [] [AAgg (c_api_Types t0), I_ t1] [(0, .row 100 4 (r.map c_api_Attr))] (AObj 0) := by
  obtain ⟨n, hn⟩ := Ev_some hr
  exact (types_attrs_n_ok n) t0 t1 r hn
theorem k_slices_IndexFunc_api_Attr (t0 : (List api_Attr)) (t1 : (api_Attr → Option Bool)) (r : Int) (hr : slices_IndexFunc_api_Attr t0 t1 = some r) : FnP PP 182 [AL 4 c_api_Attr t0, AFn PP (fun x => [AAgg (c_api_Attr x)]) (fun y => ABool y) t1] (I_ r) := by
  refine Fo (fun (r : Int) => I_ r) Tryz.func182 q (n := 19) q q hr fun X hΨ => ?_
  refine Jq q <| Ra (I_ 0) q q <| R0 <| Js <| Jq q <| Rm (AL 4 c_api_Attr t0) q q <| r_len (cc := c_api_Attr) il_95 q q <| Rm (I_ 0) q q ?_
  refine R0 <| J_block <| Jl (fun x1 => [(0, AL 4 c_api_Attr t0), (1, AFn PP (fun x => [AAgg (c_api_Attr x)]) (fun y => ABool y) t1), (7, I_ (t0.length : Int)), (8, I_ x1)]) (.cons q (.c3 q q q .nil)) (fun E2 hE2 x1 => ?_)
  refine Jq q <| r_lss q q q <| R0 <| Js <| J_cond_p q (fun h8 => ?_) (fun h8 => ?_)
  rotate_left
  · exact J_exit q <| J_outS <| Jq q <| Ra (I_ (-1)) q q <| Rt hΨ q q q
  refine J_skip <| Js <| J_block <| Jq q <| Rm (I_ x1) q q <| Ra (I_ x1) q q <| R0 <| Jq q ?_
  refine Rm (AFn PP (fun x => [AAgg (c_api_Attr x)]) (fun y => ABool y) t1) q q <| Rm (AL 4 c_api_Attr t0) q q <| Rm (I_ x1) q q <| R_if (fun h9 => ?_) (fun _ => R_none)
  refine r_ix (cc := c_api_Attr) el_95 q q h9.1 h9.2 q <| r_lda (c_api_Attr (nth t0 x1)) ag_100 q q q q <| R_bind fun b10 h11 => r_callFn (ga := (fun x => [AAgg (c_api_Attr x)])) (rt := (fun y => ABool y)) (gg := t1) (u := (nth t0 x1)) (w := b10) q q h11 (NK.nk) q <| R0 <| J_cond q (fun h12 => ?_) (fun h12 => ?_)
  · exact Jq q <| Rm (I_ x1) q q <| Ra (I_ x1) q q <| R0 <| J_outS <| Jt hΨ (Res_one q) q q
  exact J_skip <| J_inBlock <| J_range 7 (m := (t0.length : Int)) q fun q13 => J_range 5 (m := x1) q fun q14 => Jr q <| r_add (x1 + 1) q q (wrap_i64 (by omega) (by omega)) q <| Rm (I_ (x1 + 1)) q q <| R0 <| J_go <| Jk (hE2 (x1 + 1)) (.cons q (.c3 q q q .nil))
theorem k_slices_ContainsFunc_api_Attr (t0 : (List api_Attr)) (t1 : (api_Attr → Option Bool)) (r : Bool) (hr : slices_ContainsFunc_api_Attr t0 t1 = some r) : FnP PP 147 [AL 4 c_api_Attr t0, AFn PP (fun x => [AAgg (c_api_Attr x)]) (fun y => ABool y) t1] (ABool r) := by
  refine Fo (fun (r : Bool) => ABool r) Tryz.func147 q (n := 9) q q hr fun X hΨ => ?_
  refine Jq q <| Ra (ABool false) q q <| R0 <| Jq q <| Rm (AL 4 c_api_Attr t0) q q <| Rm (AFn PP (fun x => [AAgg (c_api_Attr x)]) (fun y => ABool y) t1) q q <| R_bind fun b1 h2 => r_call _ fn_182 (k_slices_IndexFunc_api_Attr _ _ _ h2) q q ?_
  exact r_geq q q q <| Ra (ABool (decide (0 ≤ b1))) q q <| Rt hΨ q q q
theorem k_types_attribute_1 (t0 : api_Attr) (t1 : api_Attr) (r : Bool) (hr : types_attribute_1 t0 t1 = some r) : FnP PP 148 [AAgg (c_api_Attr t0), APtr (c_api_Attr t1)] (ABool r) := by
  refine Fo (fun (r : Bool) => ABool r) Tryz.func148 q (n := 9) q q hr fun X hΨ => ?_
  refine Jq q <| r_boxV (AAgg (c_api_Attr t0)) q q <| Ra (ABool false) q q <| R0 <| Jq q <| r_faT (c_str t0.Name) fo_100_0 q q q <| r_ld (AStr t0.Name) sc_9 q q q <| r_faT (c_str t1.Name) fo_100_0 q q q ?_
  exact r_ld (AStr t1.Name) sc_9 q q q <| r_eqS q q q <| Ra (ABool (decide (t0.Name = t1.Name))) q q <| Rt hΨ q q q
theorem k_types_names (t0 : (List ByteArray)) (r : Int) (hr : types_names t0 = some r) : FnP PP 149 [AL 1 c_str t0] (I_ r) := by
  refine Fo (fun (r : Int) => I_ r) Tryz.func149 q (n := 26) q q hr fun X hΨ => ?_
  refine Jq q <| Ra (I_ 0) q q <| R0 <| Js <| Jq q <| Rm (AL 1 c_str t0) q q <| r_len (cc := c_str) il_98 q q <| r_gtr q q q ?_
  refine R0 <| J_cond_p q (fun h1 => ?_) (fun h1 => ?_)
  · exact Jq q <| Ra (I_ 3) q q <| Rt hΨ q q q
  refine J_skip <| Js <| Jq q <| Rm (AL 1 c_str t0) q q <| r_len (cc := c_str) il_98 q q <| Rm (I_ 0) q q <| R0 <| J_block <| Jl (fun x2 => [(0, AL 1 c_str t0), (2, I_ 0), (6, I_ (t0.length : Int)), (8, AL 1 c_str t0), (9, I_ (t0.length : Int)), (10, I_ x2)]) (.c6 q q q q q q .nil) (fun E3 hE3 x2 => ?_)
  refine Jq q <| r_lss q q q <| R0 <| Js <| J_cond_p q (fun h13 => ?_) (fun h13 => ?_)
  rotate_left
  · exact J_exit q <| J_outS <| Jq q <| Ra (I_ 0) q q <| Rt hΨ q q q
  refine J_skip <| Js <| J_block <| Jq q <| Rm (I_ x2) q q <| R_if (fun h14 => ?_) (fun _ => R_none)
  refine r_ix (cc := c_str) el_98 q q h14.1 h14.2 q <| r_ld (AStr (nth t0 x2)) sc_9 q q q <| Ra (I_ x2) q q <| Ra (AStr (nth t0 x2)) q q <| R0 <| J_block <| Jq q <| Rm (AStr (nth t0 x2)) q q <| R_bind fun b15 h16 => ?_
  refine r_call _ fn_94 (k_token_IsName _ _ h16) q q <| r_not q q <| Ra (ABool (!b15)) q q <| R0 <| J_cond q (fun h17 => ?_) (fun h17 => ?_)
  · exact Jq q <| Ra (I_ 2) q q <| R0 <| J_outS <| Jt hΨ (Res_one q) q q
  refine Jq q <| Rm (AL 1 c_str t0) q q <| Rm (I_ x2) q q <| R_if (fun h18 => ?_) (fun _ => R_none)
  refine r_cut (cc := c_str) 0 x2 el_98 q lo_n (hi_s q) h18.1 h18.2.1 h18.2.2 q <| Rm (AStr (nth t0 x2)) q q <| R_bind fun b19 h20 => r_call _ fn_183 (k_slices_Contains_string _ _ _ h20) q q <| Ra (ABool b19) q q <| R0 <| J_cond q (fun h21 => ?_) (fun h21 => ?_)
  · exact Jq q <| Ra (I_ 5) q q <| R0 <| J_outS <| Jt hΨ (Res_one q) q q
  exact J_skip <| J_inBlock <| J_inBlock <| J_range 6 (m := (t0.length : Int)) q fun q22 => J_range 3 (m := x2) q fun q23 => Jr q <| r_add (x2 + 1) q q (wrap_i64 (by omega) (by omega)) q <| Rm (I_ (x2 + 1)) q q <| R0 <| J_go <| Jk (hE3 (x2 + 1)) (.c6 q q q q q q .nil)
theorem k_types_attribute (t0 : api_Attr) (t1 : (List api_Attr)) (r : Int) (hr : types_attribute t0 t1 = some r) : FnP PP 98 [AAgg (c_api_Attr t0), AL 4 c_api_Attr t1] (I_ r) := by
  refine Fo (fun (r : Int) => I_ r) Tryz.func98 q (n := 55) q q hr fun X hΨ => ?_
  refine Jq q <| r_boxV (AAgg (c_api_Attr t0)) q q <| Ra (I_ 0) q q <| R0 <| Js <| J_block <| Jq q <| r_faT (c_str t0.Name) fo_100_0 q q q ?_
  refine r_ld (AStr t0.Name) sc_9 q q q <| R_bind fun b1 h2 => r_call _ fn_94 (k_token_IsName _ _ h2) q q <| r_not q q <| Ra (ABool (!b1)) q q <| R0 <| J_cond q (fun h3 => ?_) (fun h3 => ?_)
  · exact Jq q <| Ra (I_ 2) q q <| Rt hΨ q q q
  refine Jq q <| Rm (AL 4 c_api_Attr t1) q q <| r_mkFn [APtr (c_api_Attr t0)] (fun x => [AAgg (c_api_Attr x)]) (fun y => ABool y) (fun x => types_attribute_1 x t0) fn_148 q (fun x y h => k_types_attribute_1 x t0 y h) q <| R_bind fun b4 h5 => r_call _ fn_147 (k_slices_ContainsFunc_api_Attr _ _ _ h5) q q <| Ra (ABool b4) q q <| R0 <| J_cond q (fun h6 => ?_) (fun h6 => ?_)
  · exact Jq q <| Ra (I_ 5) q q <| Rt hΨ q q q
  refine J_skip <| J_inBlock <| Js <| Jq q <| r_faT ((cL 1 c_str) t0.Names) fo_100_3 q q q <| r_ld (AL 1 c_str t0.Names) sc_98 q q q <| R_bind fun b7 h8 => r_call _ fn_149 (k_types_names _ _ h8) q q <| Ra (I_ b7) q q ?_
  refine R0 <| Jq q <| Rm (I_ b7) q q <| r_neq q q q <| R0 <| J_cond_p q (fun h9 => ?_) (fun h9 => ?_)
  · exact Jq q <| Rm (I_ b7) q q <| Ra (I_ b7) q q <| Rt hΨ q q q
  refine J_skip <| Js ?_
  apply J_joinA (fun v21 => ⟨fr [(2, APtr (c_api_Attr t0)), (4, I_ 0), (5, I_ b7), (6, ABool v21), (18, I_ b7), (19, I_ b7), (23, I_ t0.Low)], fun _ => none, 0⟩) (fun v21 => types_attribute_j21 t0 v21)
  · intro K31
    refine Jr q <| r_faT (c_i64 t0.Low) fo_100_1 q q q <| r_ld (I_ t0.Low) sc_3 q q q <| r_leq q q q <| Rm (ABool (decide ((-1000000) ≤ t0.Low))) q q <| R_if (fun h10 => ?_) (fun h10 => ?_)
    rotate_left
    · refine Rk (g_tn q q (df h10)) <| Rk (g_tn q q (df h10)) <| Rk (g_tn q q (df h10)) <| Rk (g_tn q q (df h10)) <| Rk (g_tn q q (df h10)) <| r_pickF (ABool false) q (df h10) q q <| Rm (ABool false) q q <| Rk (g_tn q q q) <| Rk (g_tn q q q) <| Rk (g_tn q q q) ?_
      exact r_pickF (ABool false) q q q q <| Ra (ABool false) q q <| R0 <| Jk (K31 false) (.cons q (.c6 q q q q q q .nil))
    refine r_faT (c_i64 t0.Low) fo_100_1 q q (g_t q q (dt h10)) <| r_ld (I_ t0.Low) sc_3 q q (g_t q q (dt h10)) <| r_faT (c_i64 t0.High) fo_100_2 q q (g_t q q (dt h10)) <| r_ld (I_ t0.High) sc_3 q q (g_t q q (dt h10)) <| r_leq q q (g_t q q (dt h10)) <| r_pickT (ABool (decide (t0.Low ≤ t0.High))) q (dt h10) q q <| Rm (ABool (decide (t0.Low ≤ t0.High))) q q <| R_if (fun h11 => ?_) (fun h11 => ?_)
    · exact r_faT (c_i64 t0.High) fo_100_2 q q (g_t q q (dt h11)) <| r_ld (I_ t0.High) sc_3 q q (g_t q q (dt h11)) <| r_leq q q (g_t q q (dt h11)) <| r_pickT (ABool (decide (t0.High ≤ 1000000))) q (dt h11) q q <| Ra (ABool (decide (t0.High ≤ 1000000))) q q <| R0 <| Jk (K31 (decide (t0.High ≤ 1000000))) (.cons q (.c6 q q q q q q .nil))
    exact Rk (g_tn q q (df h11)) <| Rk (g_tn q q (df h11)) <| Rk (g_tn q q (df h11)) <| r_pickF (ABool false) q (df h11) q q <| Ra (ABool false) q q <| R0 <| Jk (K31 false) (.cons q (.c6 q q q q q q .nil))
  intro v21
  refine Js <| Jq q <| r_faT ((cL 1 c_str) t0.Names) fo_100_3 q q q <| r_ld (AL 1 c_str t0.Names) sc_98 q q q <| r_len (cc := c_str) il_98 q q <| r_gtr q q q <| R0 ?_
  apply J_joinA (fun v28 => ⟨fr [(4, I_ 0), (5, I_ b7), (6, ABool v28), (18, I_ b7), (19, I_ b7), (39, I_ (t0.Names.length : Int))], fun _ => none, 0⟩) (fun v28 => types_attribute_j28 v28)
  · intro K30
    refine J_cond_p q (fun h22 => ?_) (fun h22 => ?_)
    rotate_left
    · exact J_skip <| Jk (K30 v21) (.c6 q q q q q q .nil)
    apply J_joinA (fun v25 => ⟨fr [(4, I_ 0), (5, I_ b7), (6, ABool v25), (18, I_ b7), (19, I_ b7), (23, I_ t0.Low), (39, I_ (t0.Names.length : Int)), (42, I_ t0.Low)], fun _ => none, 0⟩) (fun v25 => types_attribute_j25 v25)
    · intro K26
      refine J_range 39 (m := (t0.Names.length : Int)) q fun q24 => Jr q <| r_faT (c_i64 t0.Low) fo_100_1 q q q <| r_ld (I_ t0.Low) sc_3 q q q <| r_eql q q q <| Rm (ABool (decide (t0.Low = 0))) q q <| R_if (fun h23 => ?_) (fun h23 => ?_)
      · refine r_faT (c_i64 t0.High) fo_100_2 q q (g_t q q (dt h23)) <| r_ld (I_ t0.High) sc_3 q q (g_t q q (dt h23)) <| r_faT ((cL 1 c_str) t0.Names) fo_100_3 q q (g_t q q (dt h23)) <| r_ld (AL 1 c_str t0.Names) sc_98 q q (g_t q q (dt h23)) <| r_len (cc := c_str) il_98 q (g_t q q (dt h23)) <| r_sub ((t0.Names.length : Int) - 1) q q (wrap_i64 (by omega) (by omega)) (g_t q q (dt h23)) <| r_eql q q (g_t q q (dt h23)) <| r_pickT (ABool (decide (t0.High = (t0.Names.length : Int) - 1))) q (dt h23) q q <| Ra (ABool (decide (t0.High = (t0.Names.length : Int) - 1))) q q <| R0 ?_
        exact Jk (K26 (decide (t0.High = (t0.Names.length : Int) - 1))) (.c2 q q (.c6 q q q q q q .nil))
      refine Rk (g_tn q q (df h23)) <| Rk (g_tn q q (df h23)) <| Rk (g_tn q q (df h23)) <| Rk (g_tn q q (df h23)) <| Rk (g_tn q q (df h23)) <| Rk (g_tn q q (df h23)) <| Rk (g_tn q q (df h23)) <| r_pickF (ABool false) q (df h23) q q <| Ra (ABool false) q q <| R0 ?_
      exact Jk (K26 false) (.c2 q q (.c6 q q q q q q .nil))
    intro v25
    exact Jk (K30 v25) (.c6 q q q q q q .nil)
  intro v28
  refine Js <| Jq q <| Rm (ABool v28) q q <| r_not q q <| R0 <| J_cond q (fun h29 => ?_) (fun h29 => ?_)
  · exact Jq q <| Ra (I_ 6) q q <| Rt hΨ q q q
  exact J_skip <| Jq q <| Ra (I_ 0) q q <| Rt hΨ q q q
theorem k_types_node (t0 : api_Types) (t1 : Int) (r : Int) (hr : types_node t0 t1 = some r) : FnP PP 60 [AAgg (c_api_Types t0), I_ t1] (I_ r) := by
  refine Fo (fun (r : Int) => I_ r) Tryz.func60 q (n := 70) q q hr fun X hΨ => ?_
  refine Jq q <| r_boxV (AAgg (c_api_Types t0)) q q <| Ra (I_ 0) q q <| R0 <| Jq q <| r_faT ((cL 4 c_api_NodeType) t0.Nodes) fo_25_0 q q q <| r_ld (AL 4 c_api_NodeType t0.Nodes) sc_22 q q q <| Rm (I_ t1) q q ?_
  refine R_if (fun h1 => ?_) (fun _ => R_none)
  refine r_ix (cc := c_api_NodeType) el_22 q q h1.1 h1.2 q <| r_lda (c_api_NodeType (nth t0.Nodes t1)) ag_97 q q q q <| r_alloc 0 _ z_97 q q <| r_stO (AObj 0) (AAgg (c_api_NodeType (nth t0.Nodes t1))) (c_api_NodeType (nth t0.Nodes t1)) sz_97 q .obj q q q q q q <| R0 <| Js <| J_block <| Jq q <| r_faO (AObj 0) 0 fo_97_0 q .obj q q q ?_
  refine r_ldO (ABoxAt 0 0) (AStr ((nth t0.Nodes t1).Name)) sc_9 q .at q q q <| R_bind fun b2 h3 => r_call _ fn_94 (k_token_IsName _ _ h3) q q <| r_not q q <| Ra (ABool (!b2)) q q <| R0 <| J_cond q (fun h4 => ?_) (fun h4 => ?_)
  · exact Jq q <| Ra (I_ 2) q q <| Rt hΨ q q q
  refine Js <| J_cv [0] [] [] 0 [(1, I_ t1), (2, APtr (c_api_Types t0)), (4, I_ 0), (5, APtr (c_api_NodeType (nth t0.Nodes t1))), (11, I_ t1)] [] (.same q (.same q (.same q (.cons (A := AObj 0) q (.fbox q q (.cons .same (.cons .same (.cons .same (.cons .same .nil))))) (.same q .nil))))) .nil q q <| Jr q <| r_faT ((cL 4 c_api_NodeType) t0.Nodes) fo_25_0 q q q <| r_ld (AL 4 c_api_NodeType t0.Nodes) sc_22 q q q <| Rm (I_ t1) q q <| R_if (fun h6 => ?_) (fun _ => R_none)
  refine r_cut (cc := c_api_NodeType) 0 t1 el_22 q lo_n (hi_s q) h6.1 h6.2.1 h6.2.2 q <| r_mkFn [APtr (c_api_NodeType (nth t0.Nodes t1))] (fun x => [AAgg (c_api_NodeType x)]) (fun y => ABool y) (fun x => types_node_1 x (nth t0.Nodes t1)) fn_96 q (fun x y h => k_types_node_1 x (nth t0.Nodes t1) y h) q <| R_bind fun b7 h8 => r_call _ fn_95 (k_slices_ContainsFunc_api_NodeType _ _ _ h8) q q <| Ra (ABool b7) q q <| R0 <| J_cond q (fun h9 => ?_) (fun h9 => ?_)
  · exact Jq q <| Ra (I_ 5) q q <| Rt hΨ q q q
  refine Jq q <| r_faT (c_i64 ((nth t0.Nodes t1).Parent)) fo_97_1 q q q <| r_ld (I_ ((nth t0.Nodes t1).Parent)) sc_3 q q q <| r_lss q q q <| Rm (ABool (decide ((nth t0.Nodes t1).Parent < (-1)))) q q <| R_if (fun h10 => ?_) (fun h10 => ?_)
  · refine Rk (g_fn q q (dt h10)) <| Rk (g_fn q q (dt h10)) <| Rk (g_fn q q (dt h10)) <| Rk (g_fn q q (dt h10)) <| r_pickT (ABool true) q (dt h10) q q <| Ra (ABool true) q q <| R0 <| J_cond_T q q <| Jq q ?_
    exact Ra (I_ 6) q q <| Rt hΨ q q q
  refine r_faT (c_i64 ((nth t0.Nodes t1).Parent)) fo_97_1 q q (g_f q q (df h10)) <| r_ld (I_ ((nth t0.Nodes t1).Parent)) sc_3 q q (g_f q q (df h10)) <| Rm (I_ t1) q (g_f q q (df h10)) <| r_geq q q (g_f q q (df h10)) <| r_pickF (ABool (decide (t1 ≤ (nth t0.Nodes t1).Parent))) q (df h10) q q <| Ra (ABool (decide (t1 ≤ (nth t0.Nodes t1).Parent))) q q <| R0 <| J_cond_p q (fun h11 => ?_) (fun h11 => ?_)
  · exact Jq q <| Ra (I_ 6) q q <| Rt hΨ q q q
  refine Jq q <| r_faT ((cL 4 c_api_Attr) ((nth t0.Nodes t1).Attrs)) fo_97_3 q q q <| r_ld (AL 4 c_api_Attr ((nth t0.Nodes t1).Attrs)) sc_95 q q q <| r_len (cc := c_api_Attr) il_95 q q <| r_gtr q q q <| Ra (ABool (decide (4 < (((nth t0.Nodes t1).Attrs).length : Int)))) q q <| R0 <| J_cond_p q (fun h12 => ?_) (fun h12 => ?_)
  · exact Jq q <| Ra (I_ 3) q q <| Rt hΨ q q q
  refine J_skip <| J_inBlock <| Jq q <| r_lda (c_api_Types t0) ag_25 q q q q <| Rm (I_ t1) q q <| R_bind fun b13 h14 => r_call _ fn_97 (FnK.toP (r' := AL 4 c_api_Attr b13) (k_types_attrs _ _ _ h14) (.frow q q (NKC.flat _ _))) q q <| Ra (AL 4 c_api_Attr b13) q q <| R0 ?_
  refine Js <| Jq q <| Rm (AL 4 c_api_Attr b13) q q <| r_len (cc := c_api_Attr) il_95 q q <| r_gtr q q q <| R0 <| J_cond_p q (fun h15 => ?_) (fun h15 => ?_)
  · exact Jq q <| Ra (I_ 3) q q <| Rt hΨ q q q
  refine J_skip <| Js <| Jq q <| Rm (AL 4 c_api_Attr b13) q q <| r_len (cc := c_api_Attr) il_95 q q <| r_faT ((cL 4 c_api_Attr) ((nth t0.Nodes t1).Attrs)) fo_97_3 q q q <| r_ld (AL 4 c_api_Attr ((nth t0.Nodes t1).Attrs)) sc_95 q q q <| r_len (cc := c_api_Attr) il_95 q q <| R_bind fun b16 h17 => ?_
  refine r_sub b16 q q (Option.some.inj h17) q <| Ra (I_ b16) q q <| R0 <| J_block <| Jn (fun x18 => ⟨fr [(1, I_ t1), (4, I_ 0), (6, AL 4 c_api_Attr b13), (7, I_ x18), (11, I_ t1), (22, I_ t1), (28, I_ ((nth t0.Nodes t1).Parent)), (32, I_ ((nth t0.Nodes t1).Parent)), (33, I_ t1), (39, I_ (((nth t0.Nodes t1).Attrs).length : Int)), (42, I_ t1), (45, I_ (b13.length : Int)), (48, I_ (b13.length : Int)), (51, I_ (((nth t0.Nodes t1).Attrs).length : Int))], hp [], 0⟩) [] [] [] q (.s2 q q (.s6 q q q q q q (.s6 q q q q q q .nil))) .nil q q (fun E19 hE19 x18 => ?_)
  refine Js <| Jq q <| Rm (I_ x18) q q <| Rm (AL 4 c_api_Attr b13) q q <| r_len (cc := c_api_Attr) il_95 q q <| r_lss q q q <| R0 <| J_cond_p q (fun h28 => ?_) (fun h28 => ?_)
  rotate_left
  · exact J_exit q <| J_outS <| Jq q <| Ra (I_ 0) q q <| Rt hΨ q q q
  refine J_skip <| Js <| J_block <| Js <| J_draw <| Rm (AL 4 c_api_Attr b13) q q <| Rm (I_ x18) q q <| R_if (fun h29 => ?_) (fun _ => R_none)
  refine r_ix (cc := c_api_Attr) el_95 q q h29.1 h29.2 q <| r_lda (c_api_Attr (nth b13 x18)) ag_100 q q q q <| Rm (AL 4 c_api_Attr b13) q q <| Rm (I_ x18) q q <| R_if (fun h30 => ?_) (fun _ => R_none)
  refine r_cut (cc := c_api_Attr) 0 x18 el_95 q lo_n (hi_s q) h30.1 h30.2.1 h30.2.2 q <| R_bind fun b31 h32 => r_call _ fn_98 (k_types_attribute _ _ _ h32) q q <| Ra (I_ b31) q q <| R_nilD (by kernel_rfl) <| Jq q <| Rm (I_ b31) q q <| r_neq q q q <| R0 ?_
  refine J_cond_p q (fun h33 => ?_) (fun h33 => ?_)
  · exact Jq q <| Rm (I_ b31) q q <| Ra (I_ b31) q q <| R0 <| J_outS <| Jt hΨ (Res_one q) q q
  exact J_skip <| J_inBlock <| J_range 45 (m := (b13.length : Int)) q fun q34 => J_range 7 (m := x18) q fun q35 => Jr q <| Rm (I_ x18) q q <| r_add (x18 + 1) q q (wrap_i64 (by omega) (by omega)) q <| Ra (I_ (x18 + 1)) q q <| R0 <| J_go <| Jc [] [] [] (hE19 (x18 + 1)) (.s2 q q (.s6 q q q q q q (.s6 q q q q q q .nil))) .nil q q
theorem k_types_edge_1 (t0 : Int) (t1 : api_Types) (r : Bool) (hr : types_edge_1 t0 t1 = some r) : FnP PP 99 [I_ t0, APtr (c_api_Types t1)] (ABool r) := by
  refine Fo (fun (r : Bool) => ABool r) Tryz.func99 q (n := 13) q q hr fun X hΨ => ?_
  refine Jq q <| Ra (ABool false) q q <| R0 <| Jq q <| Rm (I_ t0) q q <| r_geq q q q <| Rm (ABool (decide (0 ≤ t0))) q q <| R_if (fun h1 => ?_) (fun h1 => ?_)
  · exact Rm (I_ t0) q (g_t q q (dt h1)) <| r_faT ((cL 4 c_api_NodeType) t1.Nodes) fo_25_0 q q (g_t q q (dt h1)) <| r_ld (AL 4 c_api_NodeType t1.Nodes) sc_22 q q (g_t q q (dt h1)) <| r_len (cc := c_api_NodeType) il_22 q (g_t q q (dt h1)) <| r_lss q q (g_t q q (dt h1)) <| r_pickT (ABool (decide (t0 < (t1.Nodes.length : Int)))) q (dt h1) q q <| Ra (ABool (decide (t0 < (t1.Nodes.length : Int)))) q q <| Rt hΨ q q q
  exact Rk (g_tn q q (df h1)) <| Rk (g_tn q q (df h1)) <| Rk (g_tn q q (df h1)) <| Rk (g_tn q q (df h1)) <| Rk (g_tn q q (df h1)) <| r_pickF (ABool false) q (df h1) q q <| Ra (ABool false) q q <| Rt hΨ q q q
theorem k_slices_IndexFunc_api_EdgeType (t0 : (List api_EdgeType)) (t1 : (api_EdgeType → Option Bool)) (r : Int) (hr : slices_IndexFunc_api_EdgeType t0 t1 = some r) : FnP PP 150 [AL 7 c_api_EdgeType t0, AFn PP (fun x => [AAgg (c_api_EdgeType x)]) (fun y => ABool y) t1] (I_ r) := by
  refine Fo (fun (r : Int) => I_ r) Tryz.func150 q (n := 19) q q hr fun X hΨ => ?_
  refine Jq q <| Ra (I_ 0) q q <| R0 <| Js <| Jq q <| Rm (AL 7 c_api_EdgeType t0) q q <| r_len (cc := c_api_EdgeType) il_23 q q <| Rm (I_ 0) q q ?_
  refine R0 <| J_block <| Jl (fun x1 => [(0, AL 7 c_api_EdgeType t0), (1, AFn PP (fun x => [AAgg (c_api_EdgeType x)]) (fun y => ABool y) t1), (7, I_ (t0.length : Int)), (8, I_ x1)]) (.cons q (.c3 q q q .nil)) (fun E2 hE2 x1 => ?_)
  refine Jq q <| r_lss q q q <| R0 <| Js <| J_cond_p q (fun h8 => ?_) (fun h8 => ?_)
  rotate_left
  · exact J_exit q <| J_outS <| Jq q <| Ra (I_ (-1)) q q <| Rt hΨ q q q
  refine J_skip <| Js <| J_block <| Jq q <| Rm (I_ x1) q q <| Ra (I_ x1) q q <| R0 <| Jq q ?_
  refine Rm (AFn PP (fun x => [AAgg (c_api_EdgeType x)]) (fun y => ABool y) t1) q q <| Rm (AL 7 c_api_EdgeType t0) q q <| Rm (I_ x1) q q <| R_if (fun h9 => ?_) (fun _ => R_none)
  refine r_ix (cc := c_api_EdgeType) el_23 q q h9.1 h9.2 q <| r_lda (c_api_EdgeType (nth t0 x1)) ag_102 q q q q <| R_bind fun b10 h11 => r_callFn (ga := (fun x => [AAgg (c_api_EdgeType x)])) (rt := (fun y => ABool y)) (gg := t1) (u := (nth t0 x1)) (w := b10) q q h11 (NK.nk) q <| R0 <| J_cond q (fun h12 => ?_) (fun h12 => ?_)
  · exact Jq q <| Rm (I_ x1) q q <| Ra (I_ x1) q q <| R0 <| J_outS <| Jt hΨ (Res_one q) q q
  exact J_skip <| J_inBlock <| J_range 7 (m := (t0.length : Int)) q fun q13 => J_range 5 (m := x1) q fun q14 => Jr q <| r_add (x1 + 1) q q (wrap_i64 (by omega) (by omega)) q <| Rm (I_ (x1 + 1)) q q <| R0 <| J_go <| Jk (hE2 (x1 + 1)) (.cons q (.c3 q q q .nil))
theorem k_slices_ContainsFunc_api_EdgeType (t0 : (List api_EdgeType)) (t1 : (api_EdgeType → Option Bool)) (r : Bool) (hr : slices_ContainsFunc_api_EdgeType t0 t1 = some r) : FnP PP 100 [AL 7 c_api_EdgeType t0, AFn PP (fun x => [AAgg (c_api_EdgeType x)]) (fun y => ABool y) t1] (ABool r) := by
  refine Fo (fun (r : Bool) => ABool r) Tryz.func100 q (n := 9) q q hr fun X hΨ => ?_
  refine Jq q <| Ra (ABool false) q q <| R0 <| Jq q <| Rm (AL 7 c_api_EdgeType t0) q q <| Rm (AFn PP (fun x => [AAgg (c_api_EdgeType x)]) (fun y => ABool y) t1) q q <| R_bind fun b1 h2 => r_call _ fn_150 (k_slices_IndexFunc_api_EdgeType _ _ _ h2) q q ?_
  exact r_geq q q q <| Ra (ABool (decide (0 ≤ b1))) q q <| Rt hΨ q q q
theorem k_types_edge_2 (t0 : api_EdgeType) (t1 : api_EdgeType) (r : Bool) (hr : types_edge_2 t0 t1 = some r) : FnP PP 101 [AAgg (c_api_EdgeType t0), APtr (c_api_EdgeType t1)] (ABool r) := by
  refine Fo (fun (r : Bool) => ABool r) Tryz.func101 q (n := 9) q q hr fun X hΨ => ?_
  refine Jq q <| r_boxV (AAgg (c_api_EdgeType t0)) q q <| Ra (ABool false) q q <| R0 <| Jq q <| r_faT (c_str t0.Name) fo_102_0 q q q <| r_ld (AStr t0.Name) sc_9 q q q <| r_faT (c_str t1.Name) fo_102_0 q q q ?_
  exact r_ld (AStr t1.Name) sc_9 q q q <| r_eqS q q q <| Ra (ABool (decide (t0.Name = t1.Name))) q q <| Rt hΨ q q q
theorem k_types_bounded (t0 : Int) (t1 : Int) (r : Bool) (hr : types_bounded t0 t1 = some r) : FnP PP 102 [I_ t0, I_ t1] (ABool r) := by
  refine Fo (fun (r : Bool) => ABool r) Tryz.func102 q (n := 24) q q hr fun X hΨ => ?_
  refine Jq q <| Ra (ABool false) q q <| R0 <| Jq q <| Rm (I_ t0) q q <| r_geq q q q <| Rm (ABool (decide (0 ≤ t0))) q q <| R_if (fun h1 => ?_) (fun h1 => ?_)
  rotate_left
  · refine Rk (g_tn q q (df h1)) <| Rk (g_tn q q (df h1)) <| r_pickF (ABool false) q (df h1) q q <| Rm (ABool false) q q <| Rk (g_tn q q q) <| Rk (g_tn q q q) <| Rk (g_tn q q q) <| Rk (g_u q q) <| Rk (g_u q q) <| Rk (g_u q q) ?_
    exact Rk (g_u q q) <| Rk (g_u q q) <| Rk (g_u q q) <| Rk (g_u q q) <| Rk (g_tn q q q) <| r_pickF (ABool false) q q q q <| Ra (ABool false) q q <| Rt hΨ q q q
  refine Rm (I_ t0) q (g_t q q (dt h1)) <| r_leq q q (g_t q q (dt h1)) <| r_pickT (ABool (decide (t0 ≤ 40))) q (dt h1) q q <| Rm (ABool (decide (t0 ≤ 40))) q q <| R_if (fun h2 => ?_) (fun h2 => ?_)
  rotate_left
  · refine Rk (g_tn q q (df h2)) <| Rk (g_tn q q (df h2)) <| Rk (g_tn q q (df h2)) <| Rk (g_u q q) <| Rk (g_u q q) <| Rk (g_u q q) <| Rk (g_u q q) <| Rk (g_u q q) <| Rk (g_u q q) <| Rk (g_u q q) ?_
    exact Rk (g_tn q q (df h2)) <| r_pickF (ABool false) q (df h2) q q <| Ra (ABool false) q q <| Rt hΨ q q q
  refine Rm (I_ t1) q (g_t q q (dt h2)) <| r_eql q q (g_t q q (dt h2)) <| Rm (ABool (decide (t1 = (-1)))) q (g_t q q (dt h2)) <| R_if (fun h3 => ?_) (fun h3 => ?_)
  · refine Rk (g_fn q q (dt h3)) <| Rk (g_fn q q (dt h3)) <| Rk (g_fn q q (dt h3)) <| Rk (g_fn q q (dt h3)) <| Rk (g_u q q) <| Rk (g_u q q) <| Rk (g_fn q q (dt h3)) <| r_pickT (ABool true) q (dt h3) q (g_t q q (dt h2)) <| r_pickT (ABool true) q (dt h2) q q <| Ra (ABool true) q q ?_
    exact Rt hΨ q q q
  refine Rm (I_ t1) q (g_f q q (df h3)) <| Rm (I_ t0) q (g_f q q (df h3)) <| r_geq q q (g_f q q (df h3)) <| Rm (ABool (decide (t0 ≤ t1))) q (g_f q q (df h3)) <| R_if (fun h4 => ?_) (fun h4 => ?_)
  · exact Rm (I_ t1) q (g_t q q (dt h4)) <| r_leq q q (g_t q q (dt h4)) <| r_pickT (ABool (decide (t1 ≤ 40))) q (dt h4) q (g_f q q (df h3)) <| r_pickF (ABool (decide (t1 ≤ 40))) q (df h3) q (g_t q q (dt h2)) <| r_pickT (ABool (decide (t1 ≤ 40))) q (dt h2) q q <| Ra (ABool (decide (t1 ≤ 40))) q q <| Rt hΨ q q q
  exact Rk (g_tn q q (df h4)) <| Rk (g_tn q q (df h4)) <| r_pickF (ABool false) q (df h4) q (g_f q q (df h3)) <| r_pickF (ABool false) q (df h3) q (g_t q q (dt h2)) <| r_pickT (ABool false) q (dt h2) q q <| Ra (ABool false) q q <| Rt hΨ q q q
theorem k_types_edge (t0 : api_Types) (t1 : Int) (r : Int) (hr : types_edge t0 t1 = some r) : FnP PP 61 [AAgg (c_api_Types t0), I_ t1] (I_ r) := by
  refine Fo (fun (r : Int) => I_ r) Tryz.func61 q (n := 52) q q hr fun X hΨ => ?_
  refine Jq q <| r_boxV (AAgg (c_api_Types t0)) q q <| Ra (I_ 0) q q <| R0 <| Jq q <| r_faT ((cL 7 c_api_EdgeType) t0.Edges) fo_25_1 q q q <| r_ld (AL 7 c_api_EdgeType t0.Edges) sc_23 q q q <| Rm (I_ t1) q q ?_
  refine R_if (fun h1 => ?_) (fun _ => R_none)
  refine r_ix (cc := c_api_EdgeType) el_23 q q h1.1 h1.2 q <| r_lda (c_api_EdgeType (nth t0.Edges t1)) ag_102 q q q q <| r_alloc 0 _ z_102 q q <| r_stO (AObj 0) (AAgg (c_api_EdgeType (nth t0.Edges t1))) (c_api_EdgeType (nth t0.Edges t1)) sz_102 q .obj q q q q q q <| R0 <| Jq q <| r_mkFn [APtr (c_api_Types t0)] (fun x => [I_ x]) (fun y => ABool y) (fun x => types_edge_1 x t0) fn_99 q (fun x y h => k_types_edge_1 x t0 y h) q <| Ra (AFn PP (fun x => [I_ x]) (fun y => ABool y) (fun x => types_edge_1 x t0)) q q <| R0 ?_
  refine Js <| J_block <| Jq q <| r_faO (AObj 0) 0 fo_102_0 q .obj q q q <| r_ldO (ABoxAt 0 0) (AStr ((nth t0.Edges t1).Name)) sc_9 q .at q q q <| R_bind fun b2 h3 => r_call _ fn_94 (k_token_IsName _ _ h3) q q <| r_not q q <| Ra (ABool (!b2)) q q ?_
  refine R0 <| J_cond q (fun h4 => ?_) (fun h4 => ?_)
  · exact Jq q <| Ra (I_ 2) q q <| Rt hΨ q q q
  refine Js <| J_cv [0] [] [] 0 [(1, I_ t1), (2, APtr (c_api_Types t0)), (4, I_ 0), (5, APtr (c_api_EdgeType (nth t0.Edges t1))), (6, AFn PP (fun x => [I_ x]) (fun y => ABool y) (fun x => types_edge_1 x t0)), (9, I_ t1)] [] (.same q (.same q (.same q (.cons (A := AObj 0) q (.fbox q q (.cons .same (.cons .same (.cons .same (.cons .same (.cons .same (.cons .same (.cons .same .nil)))))))) (.same q (.same q .nil)))))) .nil q q <| Jr q <| r_faT ((cL 7 c_api_EdgeType) t0.Edges) fo_25_1 q q q <| r_ld (AL 7 c_api_EdgeType t0.Edges) sc_23 q q q <| Rm (I_ t1) q q <| R_if (fun h6 => ?_) (fun _ => R_none)
  refine r_cut (cc := c_api_EdgeType) 0 t1 el_23 q lo_n (hi_s q) h6.1 h6.2.1 h6.2.2 q <| r_mkFn [APtr (c_api_EdgeType (nth t0.Edges t1))] (fun x => [AAgg (c_api_EdgeType x)]) (fun y => ABool y) (fun x => types_edge_2 x (nth t0.Edges t1)) fn_101 q (fun x y h => k_types_edge_2 x (nth t0.Edges t1) y h) q <| R_bind fun b7 h8 => r_call _ fn_100 (k_slices_ContainsFunc_api_EdgeType _ _ _ h8) q q <| Ra (ABool b7) q q <| R0 <| J_cond q (fun h9 => ?_) (fun h9 => ?_)
  · exact Jq q <| Ra (I_ 5) q q <| Rt hΨ q q q
  refine Js <| Js ?_
  apply J_joinA (fun v26 => ⟨fr [(1, I_ t1), (4, I_ 0), (9, I_ t1), (21, I_ t1), (25, ABool v26)], hp [], 0⟩) (fun v26 => types_edge_j26 v26)
  · intro K28
    apply J_joinA (fun v16 => ⟨fr [(1, I_ t1), (4, I_ 0), (9, I_ t1), (21, I_ t1), (25, ABool v16)], hp [], 0⟩) (fun v16 => types_edge_j16 v16)
    · intro K17
      refine Jr q <| Rm (AFn PP (fun x => [I_ x]) (fun y => ABool y) (fun x => types_edge_1 x t0)) q q <| r_faT (c_i64 ((nth t0.Edges t1).From)) fo_102_1 q q q <| r_ld (I_ ((nth t0.Edges t1).From)) sc_3 q q q <| R_bind fun b10 h11 => r_callFn (ga := (fun x => [I_ x])) (rt := (fun y => ABool y)) (gg := (fun x => types_edge_1 x t0)) (u := (nth t0.Edges t1).From) (w := b10) q q h11 (NK.nk) q <| r_not q q <| Rm (ABool (!b10)) q q <| R_if (fun h12 => ?_) (fun h12 => ?_)
      · exact Rk (g_fn q q h12) <| Rk (g_fn q q h12) <| Rk (g_fn q q h12) <| Rk (g_fn q q h12) <| Rk (g_fn q q h12) <| r_pickT (ABool true) q h12 q q <| Ra (ABool true) q q <| R0 <| J_cond_T q q <| Jc [] [] [] (K17 true) (.s2 q q (.s3 q q q .nil)) .nil q q
      refine Rm (AFn PP (fun x => [I_ x]) (fun y => ABool y) (fun x => types_edge_1 x t0)) q (g_f q q (bf h12)) <| r_faT (c_i64 ((nth t0.Edges t1).To)) fo_102_2 q q (g_f q q (bf h12)) <| r_ld (I_ ((nth t0.Edges t1).To)) sc_3 q q (g_f q q (bf h12)) <| R_bind fun b13 h14 => r_callFn (ga := (fun x => [I_ x])) (rt := (fun y => ABool y)) (gg := (fun x => types_edge_1 x t0)) (u := (nth t0.Edges t1).To) (w := b13) q q h14 (NK.nk) (g_f q q (bf h12)) <| r_not q (g_f q q (bf h12)) <| r_pickF (ABool (!b13)) q (bf h12) q q <| Ra (ABool (!b13)) q q <| R0 <| J_cond q (fun h15 => ?_) (fun h15 => ?_)
      · exact Jc [] [] [] (K17 (!b13)) (.s2 q q (.s3 q q q .nil)) .nil q q
      apply J_joinA (fun v23 => ⟨fr [(1, I_ t1), (4, I_ 0), (9, I_ t1), (21, I_ t1), (25, ABool v23)], hp [], 0⟩) (fun v23 => types_edge_j23 v23)
      · intro K24
        refine Jr q <| r_faT (c_i64 ((nth t0.Edges t1).OutLow)) fo_102_3 q q q <| r_ld (I_ ((nth t0.Edges t1).OutLow)) sc_3 q q q <| r_faT (c_i64 ((nth t0.Edges t1).OutHigh)) fo_102_4 q q q <| r_ld (I_ ((nth t0.Edges t1).OutHigh)) sc_3 q q q <| R_bind fun b18 h19 => r_call _ fn_102 (k_types_bounded _ _ _ h19) q q <| r_not q q <| Rm (ABool (!b18)) q q <| R_if (fun h20 => ?_) (fun h20 => ?_)
        · exact Rk (g_fn q q h20) <| Rk (g_fn q q h20) <| Rk (g_fn q q h20) <| Rk (g_fn q q h20) <| Rk (g_fn q q h20) <| Rk (g_fn q q h20) <| r_pickT (ABool true) q h20 q q <| Ra (ABool true) q q <| R0 <| Jc [] [] [] (K24 true) (.s2 q q (.s3 q q q .nil)) .nil q q
        refine r_faT (c_i64 ((nth t0.Edges t1).InLow)) fo_102_5 q q (g_f q q (bf h20)) <| r_ld (I_ ((nth t0.Edges t1).InLow)) sc_3 q q (g_f q q (bf h20)) <| r_faT (c_i64 ((nth t0.Edges t1).InHigh)) fo_102_6 q q (g_f q q (bf h20)) <| r_ld (I_ ((nth t0.Edges t1).InHigh)) sc_3 q q (g_f q q (bf h20)) <| R_bind fun b21 h22 => r_call _ fn_102 (k_types_bounded _ _ _ h22) q (g_f q q (bf h20)) <| r_not q (g_f q q (bf h20)) <| r_pickF (ABool (!b21)) q (bf h20) q q <| Ra (ABool (!b21)) q q <| R0 ?_
        exact Jc [] [] [] (K24 (!b21)) (.s2 q q (.s3 q q q .nil)) .nil q q
      intro v23
      exact Jc [] [] [] (K28 v23) (.s2 q q (.s3 q q q .nil)) .nil q q
    intro v16
    exact J_skip <| Jc [] [] [] (K28 v16) (.s2 q q (.s3 q q q .nil)) .nil q q
  intro v26
  refine J_cond q (fun h27 => ?_) (fun h27 => ?_)
  · exact Jq q <| Ra (I_ 6) q q <| Rt hΨ q q q
  exact J_skip <| J_inBlock <| Jq q <| Ra (I_ 0) q q <| Rt hΨ q q q
theorem k_types_Valid (t0 : api_Types) (r : ByteArray × Int) (hr : types_Valid t0 = some r) : FnP PP 31 [AAgg (c_api_Types t0)] (ATup [AStr r.1, I_ r.2]) := by
  refine Fo (fun (r : ByteArray × Int) => ATup [AStr r.1, I_ r.2]) Tryz.func31 q (n := 60) q q hr fun X hΨ => ?_
  refine Jq q <| r_boxV (AAgg (c_api_Types t0)) q q <| Ra (AStr (ByteArray.mk #[])) q q <| Ra (I_ 0) q q <| R0 <| Js <| J_block <| Jq q ?_
  refine r_faT ((cL 4 c_api_NodeType) t0.Nodes) fo_25_0 q q q <| r_ld (AL 4 c_api_NodeType t0.Nodes) sc_22 q q q <| r_len (cc := c_api_NodeType) il_22 q q <| r_eql q q q <| Ra (ABool (decide ((t0.Nodes.length : Int) = 0))) q q <| R0 <| J_cond_p q (fun h1 => ?_) (fun h1 => ?_)
  · exact Jq q <| Ra (AStr (ByteArray.mk #[])) q q <| Ra (I_ 7) q q <| R0 <| Jt hΨ (Res_many (As := [AStr (ByteArray.mk #[]), I_ 7]) q q (.cons (.tmp (A := AStr (ByteArray.mk #[])) q) (.cons (.tmp (A := I_ 7) q) .nil))) q q
  refine Jq q <| r_faT ((cL 4 c_api_NodeType) t0.Nodes) fo_25_0 q q q <| r_ld (AL 4 c_api_NodeType t0.Nodes) sc_22 q q q <| r_len (cc := c_api_NodeType) il_22 q q <| r_gtr q q q <| Rm (ABool (decide (12 < (t0.Nodes.length : Int)))) q q <| R_if (fun h2 => ?_) (fun h2 => ?_)
  · refine Rk (g_fn q q (dt h2)) <| Rk (g_fn q q (dt h2)) <| Rk (g_fn q q (dt h2)) <| Rk (g_fn q q (dt h2)) <| r_pickT (ABool true) q (dt h2) q q <| Ra (ABool true) q q <| R0 <| J_cond_T q q <| Jq q ?_
    exact Ra (AStr (ByteArray.mk #[])) q q <| Ra (I_ 3) q q <| R0 <| Jt hΨ (Res_many (As := [AStr (ByteArray.mk #[]), I_ 3]) q q (.cons (.tmp (A := AStr (ByteArray.mk #[])) q) (.cons (.tmp (A := I_ 3) q) .nil))) q q
  refine r_faT ((cL 7 c_api_EdgeType) t0.Edges) fo_25_1 q q (g_f q q (df h2)) <| r_ld (AL 7 c_api_EdgeType t0.Edges) sc_23 q q (g_f q q (df h2)) <| r_len (cc := c_api_EdgeType) il_23 q (g_f q q (df h2)) <| r_gtr q q (g_f q q (df h2)) <| r_pickF (ABool (decide (20 < (t0.Edges.length : Int)))) q (df h2) q q <| Ra (ABool (decide (20 < (t0.Edges.length : Int)))) q q <| R0 <| J_cond_p q (fun h3 => ?_) (fun h3 => ?_)
  · exact Jq q <| Ra (AStr (ByteArray.mk #[])) q q <| Ra (I_ 3) q q <| R0 <| Jt hΨ (Res_many (As := [AStr (ByteArray.mk #[]), I_ 3]) q q (.cons (.tmp (A := AStr (ByteArray.mk #[])) q) (.cons (.tmp (A := I_ 3) q) .nil))) q q
  refine J_skip <| J_inBlock <| Js <| Jq q <| r_faT ((cL 4 c_api_NodeType) t0.Nodes) fo_25_0 q q q <| r_ld (AL 4 c_api_NodeType t0.Nodes) sc_22 q q q <| r_len (cc := c_api_NodeType) il_22 q q <| Rm (I_ 0) q q <| R0 ?_
  refine J_block <| Jn (fun x4 => ⟨fr [(1, APtr (c_api_Types t0)), (3, I_ 0), (13, I_ (t0.Nodes.length : Int)), (18, I_ (t0.Nodes.length : Int)), (23, I_ (t0.Edges.length : Int)), (27, AL 4 c_api_NodeType t0.Nodes), (28, I_ (t0.Nodes.length : Int)), (29, I_ x4)], hp [], 0⟩) [] [] [] q (.s2 q q (.s6 q q q q q q .nil)) .nil q q (fun E5 hE5 x4 => ?_)
  refine Jq q <| r_lss q q q <| R0 <| Js <| J_cond_p q (fun h11 => ?_) (fun h11 => ?_)
  · refine J_skip <| Js <| J_block <| Jq q <| Rm (I_ x4) q q <| R_if (fun h12 => ?_) (fun _ => R_none)
    refine r_ix (cc := c_api_NodeType) el_22 q q h12.1 h12.2 q <| r_lda (c_api_NodeType (nth t0.Nodes x4)) ag_97 q q q q <| r_alloc 0 _ z_97 q q <| Ra (I_ x4) q q <| r_stO (AObj 0) (AAgg (c_api_NodeType (nth t0.Nodes x4))) (c_api_NodeType (nth t0.Nodes x4)) sz_97 q .obj q q q q q q <| R0 <| Jq q <| r_lda (c_api_Types t0) ag_25 q q q q <| Rm (I_ x4) q q ?_
    refine R_bind fun b13 h14 => r_call _ fn_60 (k_types_node _ _ _ h14) q q <| Ra (I_ b13) q q <| R0 <| Jq q <| Rm (I_ b13) q q <| r_neq q q q <| R0 <| J_cond_p q (fun h15 => ?_) (fun h15 => ?_)
    rotate_left
    · exact J_skip <| J_inBlock <| J_range 13 (m := (t0.Nodes.length : Int)) q fun q16 => J_range 4 (m := x4) q fun q17 => Jr q <| r_add (x4 + 1) q q (wrap_i64 (by omega) (by omega)) q <| Rm (I_ (x4 + 1)) q q <| R0 <| J_go <| Jc [] [] [] (hE5 (x4 + 1)) (.s2 q q (.s6 q q q q q q .nil)) .nil q q
    exact Jq q <| r_faO (AObj 0) 0 fo_97_0 q .obj q q q <| r_ldO (ABoxAt 0 0) (AStr ((nth t0.Nodes x4).Name)) sc_9 q .at q q q <| Rm (I_ b13) q q <| Ra (AStr ((nth t0.Nodes x4).Name)) q q <| Ra (I_ b13) q q <| R0 <| J_outS <| Jt hΨ (Res_many (As := [AStr ((nth t0.Nodes x4).Name), I_ b13]) q q (.cons (.tmp (A := AStr ((nth t0.Nodes x4).Name)) q) (.cons (.tmp (A := I_ b13) q) .nil))) q q
  refine J_exit q <| J_out <| Js <| Jq q <| r_faT ((cL 7 c_api_EdgeType) t0.Edges) fo_25_1 q q q <| r_ld (AL 7 c_api_EdgeType t0.Edges) sc_23 q q q <| r_len (cc := c_api_EdgeType) il_23 q q <| Rm (I_ 0) q q <| R0 ?_
  refine J_block <| Jn (fun x18 => ⟨fr [(1, APtr (c_api_Types t0)), (3, I_ 0), (13, I_ (t0.Nodes.length : Int)), (18, I_ (t0.Nodes.length : Int)), (23, I_ (t0.Edges.length : Int)), (28, I_ (t0.Nodes.length : Int)), (29, I_ x4), (44, AL 7 c_api_EdgeType t0.Edges), (45, I_ (t0.Edges.length : Int)), (46, I_ x18)], hp [], 0⟩) [] [] [] q (.same q (.s3 q q q (.s6 q q q q q q .nil))) .nil q q (fun E19 hE19 x18 => ?_)
  refine Jq q <| r_lss q q q <| R0 <| Js <| J_cond_p q (fun h25 => ?_) (fun h25 => ?_)
  rotate_left
  · exact J_exit q <| J_outS <| Jq q <| Ra (AStr (ByteArray.mk #[])) q q <| Ra (I_ 0) q q <| R0 <| Jt hΨ (Res_many (As := [AStr (ByteArray.mk #[]), I_ 0]) q q (.cons (.tmp (A := AStr (ByteArray.mk #[])) q) (.cons (.tmp (A := I_ 0) q) .nil))) q q
  refine J_skip <| Js <| J_block <| Jq q <| Rm (I_ x18) q q <| R_if (fun h26 => ?_) (fun _ => R_none)
  refine r_ix (cc := c_api_EdgeType) el_23 q q h26.1 h26.2 q <| r_lda (c_api_EdgeType (nth t0.Edges x18)) ag_102 q q q q <| r_alloc 0 _ z_102 q q <| Ra (I_ x18) q q <| r_stO (AObj 0) (AAgg (c_api_EdgeType (nth t0.Edges x18))) (c_api_EdgeType (nth t0.Edges x18)) sz_102 q .obj q q q q q q <| R0 <| Jq q <| r_lda (c_api_Types t0) ag_25 q q q q <| Rm (I_ x18) q q ?_
  refine R_bind fun b27 h28 => r_call _ fn_61 (k_types_edge _ _ _ h28) q q <| Ra (I_ b27) q q <| R0 <| Jq q <| Rm (I_ b27) q q <| r_neq q q q <| R0 <| J_cond_p q (fun h29 => ?_) (fun h29 => ?_)
  rotate_left
  · exact J_skip <| J_inBlock <| J_range 23 (m := (t0.Edges.length : Int)) q fun q30 => J_range 7 (m := x18) q fun q31 => Jr q <| r_add (x18 + 1) q q (wrap_i64 (by omega) (by omega)) q <| Rm (I_ (x18 + 1)) q q <| R0 <| J_go <| Jc [] [] [] (hE19 (x18 + 1)) (.same q (.s3 q q q (.s6 q q q q q q .nil))) .nil q q
  exact Jq q <| r_faO (AObj 0) 0 fo_102_0 q .obj q q q <| r_ldO (ABoxAt 0 0) (AStr ((nth t0.Edges x18).Name)) sc_9 q .at q q q <| Rm (I_ b27) q q <| Ra (AStr ((nth t0.Edges x18).Name)) q q <| Ra (I_ b27) q q <| R0 <| J_outS <| Jt hΨ (Res_many (As := [AStr ((nth t0.Edges x18).Name), I_ b27]) q q (.cons (.tmp (A := AStr ((nth t0.Edges x18).Name)) q) (.cons (.tmp (A := I_ b27) q) .nil))) q q
theorem k_slices_Index_int (t0 : (List Int)) (t1 : Int) (r : Int) (hr : slices_Index_int t0 t1 = some r) : FnP PP 199 [AL 1 c_i64 t0, I_ t1] (I_ r) := by
  refine Fo (fun (r : Int) => I_ r) Tryz.func199 q (n := 19) q q hr fun X hΨ => ?_
  refine Jq q <| Ra (I_ 0) q q <| R0 <| Js <| Jq q <| Rm (AL 1 c_i64 t0) q q <| r_len (cc := c_i64) il_26 q q <| Rm (I_ 0) q q ?_
  refine R0 <| J_block <| Jl (fun x1 => [(0, AL 1 c_i64 t0), (1, I_ t1), (7, I_ (t0.length : Int)), (8, I_ x1)]) (.cons q (.c3 q q q .nil)) (fun E2 hE2 x1 => ?_)
  refine Jq q <| r_lss q q q <| R0 <| Js <| J_cond_p q (fun h6 => ?_) (fun h6 => ?_)
  rotate_left
  · exact J_exit q <| J_outS <| Jq q <| Ra (I_ (-1)) q q <| Rt hΨ q q q
  refine J_skip <| Js <| J_block <| Jq q <| Rm (I_ x1) q q <| Ra (I_ x1) q q <| R0 <| Jq q ?_
  refine Rm (I_ t1) q q <| Rm (AL 1 c_i64 t0) q q <| Rm (I_ x1) q q <| R_if (fun h7 => ?_) (fun _ => R_none)
  refine r_ix (cc := c_i64) el_26 q q h7.1 h7.2 q <| r_ld (I_ (nth t0 x1)) sc_3 q q q <| r_eql q q q <| R0 <| J_cond_p q (fun h8 => ?_) (fun h8 => ?_)
  · exact Jq q <| Rm (I_ x1) q q <| Ra (I_ x1) q q <| R0 <| J_outS <| Jt hΨ (Res_one q) q q
  exact J_skip <| J_inBlock <| J_range 7 (m := (t0.length : Int)) q fun q9 => J_range 5 (m := x1) q fun q10 => Jr q <| r_add (x1 + 1) q q (wrap_i64 (by omega) (by omega)) q <| Rm (I_ (x1 + 1)) q q <| R0 <| J_go <| Jk (hE2 (x1 + 1)) (.cons q (.c3 q q q .nil))
theorem k_slices_Contains_int (t0 : (List Int)) (t1 : Int) (r : Bool) (hr : slices_Contains_int t0 t1 = some r) : FnP PP 158 [AL 1 c_i64 t0, I_ t1] (ABool r) := by
  refine Fo (fun (r : Bool) => ABool r) Tryz.func158 q (n := 9) q q hr fun X hΨ => ?_
  refine Jq q <| Ra (ABool false) q q <| R0 <| Jq q <| Rm (AL 1 c_i64 t0) q q <| Rm (I_ t1) q q <| R_bind fun b1 h2 => r_call _ fn_199 (k_slices_Index_int _ _ _ h2) q q ?_
  exact r_geq q q q <| Ra (ABool (decide (0 ≤ b1))) q q <| Rt hΨ q q q
theorem k_rule_others (t0 : (List Int)) (t1 : Int) (r : (List Int)) (hr : rule_others t0 t1 = some r) : FnP PP 156 [AL 1 c_i64 t0, I_ t1] (AL 1 c_i64 r) := by
  refine Fo (fun (r : (List Int)) => AL 1 c_i64 r) Tryz.func156 q (n := 21) q q hr fun X hΨ => ?_
  refine Jq q <| Ra (ANil) q q <| R0 <| Jq q <| Ra (ANil) q q <| R0 <| Js <| Js ?_
  refine Jr q <| Rm (I_ t1) q q <| Rm (I_ 0) q q <| R0 <| J_block <| Jn (fun x1 => ⟨fr [(0, AL 1 c_i64 t0), (5, AObj 0), (7, I_ t1), (8, I_ x1.2)], hp [(0, .row 3 1 (x1.1.map c_i64))], 1⟩) [] [] [0] q (.same q (.cons (A := ANil) q (.nilobj q q) (.s2 q q .nil))) (.new q q .nil) q q (fun E2 hE2 x1 => ?_)
  refine Jq q <| r_lss q q q <| R0 <| Js <| J_cond_p q (fun h9 => ?_) (fun h9 => ?_)
  rotate_left
  · exact J_exit q <| J_outS <| Jq q <| Rm (AObj 0) q q <| Ra (AObj 0) q q <| R0 <| J_retF hΨ (Res_box q (.tmp (A := AObj 0) q)) (fun y hy => by cases hy; exact (.frow q q (NKC.flat _ _)))
  refine J_skip <| Js <| J_block <| Jq q <| Rm (I_ x1.2) q q <| Ra (I_ x1.2) q q <| R0 <| Jq q ?_
  refine Rm (AL 1 c_i64 t0) q q <| Rm (I_ x1.2) q q <| R_bind fun b10 h11 => r_call _ fn_158 (k_slices_Contains_int _ _ _ h11) q q <| r_not q q <| R0 ?_
  apply J_joinA (fun v14 => ⟨fr [(0, AL 1 c_i64 t0), (5, AObj 0), (6, I_ x1.2), (7, I_ t1), (8, I_ x1.2), (10, I_ x1.2), (12, I_ x1.2)], hp [(0, .row 3 1 (v14.map c_i64))], 1⟩) (fun v14 => rule_others_j14 x1 v14)
  · intro K15
    refine J_cond q (fun h12 => ?_) (fun h12 => ?_)
    rotate_left
    · exact J_skip <| Jc [] [] [] (K15 x1.1) (.same q (.cons (A := AObj 0) q (.obj q q q) (.s2 q q (.s3 q q q .nil)))) (.cons q q q q (.row (NKC.flat _ _)) q q .nil) q q
    refine Jr q <| Rm (AObj 0) q q <| Rm (I_ x1.2) q q <| r_bs (cc := c_i64) [x1.2] el_26 zr_3_1 (.cons (A := I_ x1.2) q q q .nil) q q q <| R_if (fun h13 => ?_) (fun _ => R_none)
    exact r_app (cc := c_i64) (xs := x1.1) (ys := [x1.2]) 1 ap_26 q q q h13 q q q <| Ra (AObj 1) q q <| R0 <| Jc [] [(0, 1)] [] (K15 (x1.1 ++ [x1.2])) (.same q (.cons (A := AObj 1) q (.obj q q q) (.s2 q q (.s3 q q q .nil)))) (.cons q q q q (.row (NKC.flat _ _)) q q .nil) q q
  intro v14
  exact J_inBlock <| J_range 7 (m := t1) q fun q16 => J_range 6 (m := x1.2) q fun q17 => Jr q <| r_add (x1.2 + 1) q q (wrap_i64 (by omega) (by omega)) q <| Rm (I_ (x1.2 + 1)) q q <| R0 <| J_go <| Jc [] [] [] (hE2 (v14, x1.2 + 1)) (.same q (.cons (A := AObj 0) q (.obj q q q) (.s2 q q .nil))) (.cons q q q q (.row (NKC.flat _ _)) q q .nil) q q
theorem k_rule_created (t0 : api_Rule) (r : (List Int) × (List Int)) (hr : rule_created t0 = some r) : FnP PP 105 [AAgg (c_api_Rule t0)] (ATup [AL 1 c_i64 r.1, AL 1 c_i64 r.2]) := by
  refine Fo (fun (r : (List Int) × (List Int)) => ATup [AL 1 c_i64 r.1, AL 1 c_i64 r.2]) Tryz.func105 q (n := 22) q q hr fun X hΨ => ?_
  refine Jq q <| r_boxV (AAgg (c_api_Rule t0)) q q <| Ra (ANil) q q <| Ra (ANil) q q <| R0 <| Js <| J_draw <| r_faT (c_api_Morphism t0.Into) fo_41_4 q q q <| r_faT ((cL 1 c_i64) t0.Into.Nodes) fo_36_0 q q q ?_
  refine r_ld (AL 1 c_i64 t0.Into.Nodes) sc_26 q q q <| r_faT (c_api_Pattern t0.Right) fo_41_2 q q q <| r_faT (c_api_Graph t0.Right.Graph) fo_33_0 q q q <| r_faT ((cL 1 c_i64) t0.Right.Graph.Nodes) fo_29_0 q q q <| r_ld (AL 1 c_i64 t0.Right.Graph.Nodes) sc_26 q q q <| r_len (cc := c_i64) il_26 q q <| R_bind fun b1 h2 => r_call _ fn_156 (k_rule_others _ _ _ h2) q q <| r_faT (c_api_Morphism t0.Into) fo_41_4 q q q <| r_faT ((cL 1 c_i64) t0.Into.Edges) fo_36_1 q q q ?_
  refine r_ld (AL 1 c_i64 t0.Into.Edges) sc_26 q q q <| r_faT (c_api_Pattern t0.Right) fo_41_2 q q q <| r_faT (c_api_Graph t0.Right.Graph) fo_33_0 q q q <| r_faT ((cL 3 c_api_Edge) t0.Right.Graph.Edges) fo_29_1 q q q <| r_ld (AL 3 c_api_Edge t0.Right.Graph.Edges) sc_27 q q q <| r_len (cc := c_api_Edge) il_27 q q <| R_bind fun b3 h4 => r_call _ fn_156 (k_rule_others _ _ _ h4) q q <| Ra (AL 1 c_i64 b1) q q <| Ra (AL 1 c_i64 b3) q q ?_
  exact R_nilD (by kernel_rfl) <| Jt hΨ (Res_many (As := [AL 1 c_i64 b1, AL 1 c_i64 b3]) q q (.cons (.tmp (A := AL 1 c_i64 b1) q) (.cons (.tmp (A := AL 1 c_i64 b3) q) .nil))) q q
theorem k_slices_IndexFunc_int (t0 : (List Int)) (t1 : (Int → Option Bool)) (r : Int) (hr : slices_IndexFunc_int t0 t1 = some r) : FnP PP 126 [AL 1 c_i64 t0, AFn PP (fun x => [I_ x]) (fun y => ABool y) t1] (I_ r) := by
  refine Fo (fun (r : Int) => I_ r) Tryz.func126 q (n := 19) q q hr fun X hΨ => ?_
  refine Jq q <| Ra (I_ 0) q q <| R0 <| Js <| Jq q <| Rm (AL 1 c_i64 t0) q q <| r_len (cc := c_i64) il_26 q q <| Rm (I_ 0) q q ?_
  refine R0 <| J_block <| Jl (fun x1 => [(0, AL 1 c_i64 t0), (1, AFn PP (fun x => [I_ x]) (fun y => ABool y) t1), (7, I_ (t0.length : Int)), (8, I_ x1)]) (.cons q (.c3 q q q .nil)) (fun E2 hE2 x1 => ?_)
  refine Jq q <| r_lss q q q <| R0 <| Js <| J_cond_p q (fun h8 => ?_) (fun h8 => ?_)
  rotate_left
  · exact J_exit q <| J_outS <| Jq q <| Ra (I_ (-1)) q q <| Rt hΨ q q q
  refine J_skip <| Js <| J_block <| Jq q <| Rm (I_ x1) q q <| Ra (I_ x1) q q <| R0 <| Jq q ?_
  refine Rm (AFn PP (fun x => [I_ x]) (fun y => ABool y) t1) q q <| Rm (AL 1 c_i64 t0) q q <| Rm (I_ x1) q q <| R_if (fun h9 => ?_) (fun _ => R_none)
  refine r_ix (cc := c_i64) el_26 q q h9.1 h9.2 q <| r_ld (I_ (nth t0 x1)) sc_3 q q q <| R_bind fun b10 h11 => r_callFn (ga := (fun x => [I_ x])) (rt := (fun y => ABool y)) (gg := t1) (u := (nth t0 x1)) (w := b10) q q h11 (NK.nk) q <| R0 <| J_cond q (fun h12 => ?_) (fun h12 => ?_)
  · exact Jq q <| Rm (I_ x1) q q <| Ra (I_ x1) q q <| R0 <| J_outS <| Jt hΨ (Res_one q) q q
  exact J_skip <| J_inBlock <| J_range 7 (m := (t0.length : Int)) q fun q13 => J_range 5 (m := x1) q fun q14 => Jr q <| r_add (x1 + 1) q q (wrap_i64 (by omega) (by omega)) q <| Rm (I_ (x1 + 1)) q q <| R0 <| J_go <| Jk (hE2 (x1 + 1)) (.cons q (.c3 q q q .nil))
theorem k_slices_ContainsFunc_int (t0 : (List Int)) (t1 : (Int → Option Bool)) (r : Bool) (hr : slices_ContainsFunc_int t0 t1 = some r) : FnP PP 82 [AL 1 c_i64 t0, AFn PP (fun x => [I_ x]) (fun y => ABool y) t1] (ABool r) := by
  refine Fo (fun (r : Bool) => ABool r) Tryz.func82 q (n := 9) q q hr fun X hΨ => ?_
  refine Jq q <| Ra (ABool false) q q <| R0 <| Jq q <| Rm (AL 1 c_i64 t0) q q <| Rm (AFn PP (fun x => [I_ x]) (fun y => ABool y) t1) q q <| R_bind fun b1 h2 => r_call _ fn_126 (k_slices_IndexFunc_int _ _ _ h2) q q ?_
  exact r_geq q q q <| Ra (ABool (decide (0 ≤ b1))) q q <| Rt hΨ q q q
theorem k_graph_within (t0 : Int) (t1 : Int) (r : Bool) (hr : graph_within t0 t1 = some r) : FnP PP 136 [I_ t0, I_ t1] (ABool r) := by
  refine Fo (fun (r : Bool) => ABool r) Tryz.func136 q (n := 12) q q hr fun X hΨ => ?_
  refine Jq q <| Ra (ABool false) q q <| R0 <| Jq q <| Rm (I_ t0) q q <| r_geq q q q <| Rm (ABool (decide (0 ≤ t0))) q q <| R_if (fun h1 => ?_) (fun h1 => ?_)
  · exact Rm (I_ t0) q (g_t q q (dt h1)) <| Rm (I_ t1) q (g_t q q (dt h1)) <| r_leq q q (g_t q q (dt h1)) <| r_pickT (ABool (decide (t0 ≤ t1))) q (dt h1) q q <| Ra (ABool (decide (t0 ≤ t1))) q q <| Rt hΨ q q q
  exact Rk (g_tn q q (df h1)) <| Rk (g_tn q q (df h1)) <| Rk (g_tn q q (df h1)) <| r_pickF (ABool false) q (df h1) q q <| Ra (ABool false) q q <| Rt hΨ q q q
theorem k_graph_Valid_1 (t0 : Int) (r : Bool) (hr : graph_Valid_1 t0 = some r) : FnP PP 135 [I_ t0] (ABool r) := by
  refine Fo (fun (r : Bool) => ABool r) Tryz.func135 q (n := 6) q q hr fun X hΨ => ?_
  refine Jq q <| Ra (ABool false) q q <| R0 <| Jq q <| Rm (I_ t0) q q <| R_bind fun b1 h2 => r_call _ fn_136 (k_graph_within _ _ _ h2) q q <| r_not q q ?_
  exact Ra (ABool (!b1)) q q <| Rt hΨ q q q
theorem k_slices_IndexFunc_api_Edge (t0 : (List api_Edge)) (t1 : (api_Edge → Option Bool)) (r : Int) (hr : slices_IndexFunc_api_Edge t0 t1 = some r) : FnP PP 180 [AL 3 c_api_Edge t0, AFn PP (fun x => [AAgg (c_api_Edge x)]) (fun y => ABool y) t1] (I_ r) := by
  refine Fo (fun (r : Int) => I_ r) Tryz.func180 q (n := 19) q q hr fun X hΨ => ?_
  refine Jq q <| Ra (I_ 0) q q <| R0 <| Js <| Jq q <| Rm (AL 3 c_api_Edge t0) q q <| r_len (cc := c_api_Edge) il_27 q q <| Rm (I_ 0) q q ?_
  refine R0 <| J_block <| Jl (fun x1 => [(0, AL 3 c_api_Edge t0), (1, AFn PP (fun x => [AAgg (c_api_Edge x)]) (fun y => ABool y) t1), (7, I_ (t0.length : Int)), (8, I_ x1)]) (.cons q (.c3 q q q .nil)) (fun E2 hE2 x1 => ?_)
  refine Jq q <| r_lss q q q <| R0 <| Js <| J_cond_p q (fun h8 => ?_) (fun h8 => ?_)
  rotate_left
  · exact J_exit q <| J_outS <| Jq q <| Ra (I_ (-1)) q q <| Rt hΨ q q q
  refine J_skip <| Js <| J_block <| Jq q <| Rm (I_ x1) q q <| Ra (I_ x1) q q <| R0 <| Jq q ?_
  refine Rm (AFn PP (fun x => [AAgg (c_api_Edge x)]) (fun y => ABool y) t1) q q <| Rm (AL 3 c_api_Edge t0) q q <| Rm (I_ x1) q q <| R_if (fun h9 => ?_) (fun _ => R_none)
  refine r_ix (cc := c_api_Edge) el_27 q q h9.1 h9.2 q <| r_lda (c_api_Edge (nth t0 x1)) ag_77 q q q q <| R_bind fun b10 h11 => r_callFn (ga := (fun x => [AAgg (c_api_Edge x)])) (rt := (fun y => ABool y)) (gg := t1) (u := (nth t0 x1)) (w := b10) q q h11 (NK.nk) q <| R0 <| J_cond q (fun h12 => ?_) (fun h12 => ?_)
  · exact Jq q <| Rm (I_ x1) q q <| Ra (I_ x1) q q <| R0 <| J_outS <| Jt hΨ (Res_one q) q q
  exact J_skip <| J_inBlock <| J_range 7 (m := (t0.length : Int)) q fun q13 => J_range 5 (m := x1) q fun q14 => Jr q <| r_add (x1 + 1) q q (wrap_i64 (by omega) (by omega)) q <| Rm (I_ (x1 + 1)) q q <| R0 <| J_go <| Jk (hE2 (x1 + 1)) (.cons q (.c3 q q q .nil))
theorem k_slices_ContainsFunc_api_Edge (t0 : (List api_Edge)) (t1 : (api_Edge → Option Bool)) (r : Bool) (hr : slices_ContainsFunc_api_Edge t0 t1 = some r) : FnP PP 137 [AL 3 c_api_Edge t0, AFn PP (fun x => [AAgg (c_api_Edge x)]) (fun y => ABool y) t1] (ABool r) := by
  refine Fo (fun (r : Bool) => ABool r) Tryz.func137 q (n := 9) q q hr fun X hΨ => ?_
  refine Jq q <| Ra (ABool false) q q <| R0 <| Jq q <| Rm (AL 3 c_api_Edge t0) q q <| Rm (AFn PP (fun x => [AAgg (c_api_Edge x)]) (fun y => ABool y) t1) q q <| R_bind fun b1 h2 => r_call _ fn_180 (k_slices_IndexFunc_api_Edge _ _ _ h2) q q ?_
  exact r_geq q q q <| Ra (ABool (decide (0 ≤ b1))) q q <| Rt hΨ q q q
theorem k_graph_fits (t0 : api_Edge) (t1 : Int) (r : Bool) (hr : graph_fits t0 t1 = some r) : FnP PP 139 [AAgg (c_api_Edge t0), I_ t1] (ABool r) := by
  refine Fo (fun (r : Bool) => ABool r) Tryz.func139 q (n := 22) q q hr fun X hΨ => ?_
  refine Jq q <| r_boxV (AAgg (c_api_Edge t0)) q q <| Ra (ABool false) q q <| R0 <| Jq q <| r_faT (c_i64 t0.Type_) fo_77_0 q q q <| r_ld (I_ t0.Type_) sc_3 q q q <| R_bind fun b1 h2 => ?_
  refine r_call _ fn_136 (k_graph_within _ _ _ h2) q q <| Rm (ABool b1) q q <| R_if (fun h3 => ?_) (fun h3 => ?_)
  rotate_left
  · refine Rk (g_tn q q (bf h3)) <| Rk (g_tn q q (bf h3)) <| Rk (g_tn q q (bf h3)) <| Rk (g_tn q q (bf h3)) <| Rk (g_tn q q (bf h3)) <| r_pickF (ABool false) q (bf h3) q q <| Rm (ABool false) q q <| Rk (g_tn q q q) <| Rk (g_tn q q q) <| Rk (g_tn q q q) ?_
    exact Rk (g_tn q q q) <| Rk (g_tn q q q) <| r_pickF (ABool false) q q q q <| Ra (ABool false) q q <| Rt hΨ q q q
  refine r_faT (c_i64 t0.From) fo_77_1 q q (g_t q q h3) <| r_ld (I_ t0.From) sc_3 q q (g_t q q h3) <| Rm (I_ t1) q (g_t q q h3) <| R_bind fun b4 h5 => r_sub b4 q q (Option.some.inj h5) (g_t q q h3) <| R_bind fun b6 h7 => r_call _ fn_136 (k_graph_within _ _ _ h7) q (g_t q q h3) <| r_pickT (ABool b6) q h3 q q <| Rm (ABool b6) q q <| R_if (fun h8 => ?_) (fun h8 => ?_)
  rotate_left
  · exact Rk (g_tn q q (bf h8)) <| Rk (g_tn q q (bf h8)) <| Rk (g_tn q q (bf h8)) <| Rk (g_tn q q (bf h8)) <| Rk (g_tn q q (bf h8)) <| r_pickF (ABool false) q (bf h8) q q <| Ra (ABool false) q q <| Rt hΨ q q q
  refine r_faT (c_i64 t0.To) fo_77_2 q q (g_t q q h8) <| r_ld (I_ t0.To) sc_3 q q (g_t q q h8) <| Rm (I_ t1) q (g_t q q h8) <| R_bind fun b9 h10 => r_sub b9 q q (Option.some.inj h10) (g_t q q h8) <| R_bind fun b11 h12 => r_call _ fn_136 (k_graph_within _ _ _ h12) q (g_t q q h8) <| r_pickT (ABool b11) q h8 q q <| Ra (ABool b11) q q <| R0 ?_
  exact Jt hΨ (Res_one q) q q
theorem k_graph_Valid_2 (t0 : api_Edge) (t1 : api_Graph) (r : Bool) (hr : graph_Valid_2 t0 t1 = some r) : FnP PP 138 [AAgg (c_api_Edge t0), APtr (c_api_Graph t1)] (ABool r) := by
  refine Fo (fun (r : Bool) => ABool r) Tryz.func138 q (n := 10) q q hr fun X hΨ => ?_
  refine Jq q <| r_boxV (AAgg (c_api_Edge t0)) q q <| Ra (ABool false) q q <| R0 <| Jq q <| r_lda (c_api_Edge t0) ag_77 q q q q <| r_faT ((cL 1 c_i64) t1.Nodes) fo_29_0 q q q <| r_ld (AL 1 c_i64 t1.Nodes) sc_26 q q q ?_
  exact r_len (cc := c_i64) il_26 q q <| R_bind fun b1 h2 => r_call _ fn_139 (k_graph_fits _ _ _ h2) q q <| r_not q q <| Ra (ABool (!b1)) q q <| Rt hΨ q q q
theorem k_graph_Valid (t0 : api_Graph) (r : Int) (hr : graph_Valid t0 = some r) : FnP PP 86 [AAgg (c_api_Graph t0)] (I_ r) := by
  refine Fo (fun (r : Int) => I_ r) Tryz.func86 q (n := 20) q q hr fun X hΨ => ?_
  refine Jq q <| r_boxV (AAgg (c_api_Graph t0)) q q <| Ra (I_ 0) q q <| R0 <| Js <| Jq q <| r_faT ((cL 1 c_i64) t0.Nodes) fo_29_0 q q q <| r_ld (AL 1 c_i64 t0.Nodes) sc_26 q q q ?_
  refine r_len (cc := c_i64) il_26 q q <| r_gtr q q q <| Rm (ABool (decide (40 < (t0.Nodes.length : Int)))) q q <| R_if (fun h1 => ?_) (fun h1 => ?_)
  · refine Rk (g_fn q q (dt h1)) <| Rk (g_fn q q (dt h1)) <| Rk (g_fn q q (dt h1)) <| Rk (g_fn q q (dt h1)) <| r_pickT (ABool true) q (dt h1) q q <| R0 <| J_cond_T q q <| Jq q <| Ra (I_ 3) q q ?_
    exact Rt hΨ q q q
  refine r_faT ((cL 3 c_api_Edge) t0.Edges) fo_29_1 q q (g_f q q (df h1)) <| r_ld (AL 3 c_api_Edge t0.Edges) sc_27 q q (g_f q q (df h1)) <| r_len (cc := c_api_Edge) il_27 q (g_f q q (df h1)) <| r_gtr q q (g_f q q (df h1)) <| r_pickF (ABool (decide (80 < (t0.Edges.length : Int)))) q (df h1) q q <| R0 <| J_cond_p q (fun h2 => ?_) (fun h2 => ?_)
  · exact Jq q <| Ra (I_ 3) q q <| Rt hΨ q q q
  refine J_skip <| Js <| Jq q <| r_faT ((cL 1 c_i64) t0.Nodes) fo_29_0 q q q <| r_ld (AL 1 c_i64 t0.Nodes) sc_26 q q q <| R_bind fun b3 h4 => r_callB [] [AL 1 c_i64 t0.Nodes, AClo 135 []] fn_82 (k_slices_ContainsFunc_int _ _ _ h4) .nil q (.cons .same (.cons (.cloFn fn_135 (fun x y h => k_graph_Valid_1 x y h)) .nil)) q <| R0 <| J_cond q (fun h5 => ?_) (fun h5 => ?_)
  · exact Jq q <| Ra (I_ 6) q q <| Rt hΨ q q q
  refine J_skip <| Js <| Jq q <| r_faT ((cL 3 c_api_Edge) t0.Edges) fo_29_1 q q q <| r_ld (AL 3 c_api_Edge t0.Edges) sc_27 q q q <| r_mkFn [APtr (c_api_Graph t0)] (fun x => [AAgg (c_api_Edge x)]) (fun y => ABool y) (fun x => graph_Valid_2 x t0) fn_138 q (fun x y h => k_graph_Valid_2 x t0 y h) q <| R_bind fun b6 h7 => r_call _ fn_137 (k_slices_ContainsFunc_api_Edge _ _ _ h7) q q <| R0 ?_
  refine J_cond q (fun h8 => ?_) (fun h8 => ?_)
  · exact Jq q <| Ra (I_ 6) q q <| Rt hΨ q q q
  exact J_skip <| Jq q <| Ra (I_ 0) q q <| Rt hΨ q q q
theorem k_attribute_Valid_1 (t0 : Int) (t1 : api_Types) (r : Bool) (hr : attribute_Valid_1 t0 t1 = some r) : FnP PP 184 [I_ t0, APtr (c_api_Types t1)] (ABool r) := by
  refine Fo (fun (r : Bool) => ABool r) Tryz.func184 q (n := 9) q q hr fun X hΨ => ?_
  refine Jq q <| Ra (ABool false) q q <| R0 <| Jq q <| Rm (I_ t0) q q <| r_faT ((cL 4 c_api_NodeType) t1.Nodes) fo_25_0 q q q <| r_ld (AL 4 c_api_NodeType t1.Nodes) sc_22 q q q <| r_len (cc := c_api_NodeType) il_22 q q ?_
  exact r_geq q q q <| Ra (ABool (decide ((t1.Nodes.length : Int) ≤ t0))) q q <| Rt hΨ q q q
theorem k_attribute_Valid_2 (t0 : api_Edge) (t1 : api_Types) (r : Bool) (hr : attribute_Valid_2 t0 t1 = some r) : FnP PP 185 [AAgg (c_api_Edge t0), APtr (c_api_Types t1)] (ABool r) := by
  refine Fo (fun (r : Bool) => ABool r) Tryz.func185 q (n := 10) q q hr fun X hΨ => ?_
  refine Jq q <| r_boxV (AAgg (c_api_Edge t0)) q q <| Ra (ABool false) q q <| R0 <| Jq q <| r_faT (c_i64 t0.Type_) fo_77_0 q q q <| r_ld (I_ t0.Type_) sc_3 q q q <| r_faT ((cL 7 c_api_EdgeType) t1.Edges) fo_25_1 q q q ?_
  exact r_ld (AL 7 c_api_EdgeType t1.Edges) sc_23 q q q <| r_len (cc := c_api_EdgeType) il_23 q q <| r_geq q q q <| Ra (ABool (decide ((t1.Edges.length : Int) ≤ t0.Type_))) q q <| Rt hΨ q q q
theorem k_attribute_within (t0 : Int) (t1 : Int) (t2 : Int) (r : Bool) (hr : attribute_within t0 t1 t2 = some r) : FnP PP 186 [I_ t0, I_ t1, I_ t2] (ABool r) := by
  refine Fo (fun (r : Bool) => ABool r) Tryz.func186 q (n := 15) q q hr fun X hΨ => ?_
  refine Jq q <| Ra (ABool false) q q <| R0 <| Jq q <| Rm (I_ t0) q q <| Rm (I_ t1) q q <| r_geq q q q <| Rm (ABool (decide (t1 ≤ t0))) q q ?_
  refine R_if (fun h1 => ?_) (fun h1 => ?_)
  · exact Rm (I_ t0) q (g_t q q (dt h1)) <| Rm (I_ t2) q (g_t q q (dt h1)) <| r_leq q q (g_t q q (dt h1)) <| r_pickT (ABool (decide (t0 ≤ t2))) q (dt h1) q q <| Ra (ABool (decide (t0 ≤ t2))) q q <| Rt hΨ q q q
  exact Rk (g_tn q q (df h1)) <| Rk (g_tn q q (df h1)) <| Rk (g_tn q q (df h1)) <| r_pickF (ABool false) q (df h1) q q <| Ra (ABool false) q q <| Rt hΨ q q q
theorem k_types_given_1 (t0 : Int) (t1 : api_Types) (r : Bool) (hr : types_given_1 t0 t1 = some r) : FnP PP 157 [I_ t0, APtr (c_api_Types t1)] (ABool r) := by
  refine Fo (fun (r : Bool) => ABool r) Tryz.func157 q (n := 13) q q hr fun X hΨ => ?_
  refine Jq q <| Ra (ABool false) q q <| R0 <| Jq q <| Rm (I_ t0) q q <| r_lss q q q <| Rm (ABool (decide (t0 < 0))) q q <| R_if (fun h1 => ?_) (fun h1 => ?_)
  · exact Rk (g_fn q q (dt h1)) <| Rk (g_fn q q (dt h1)) <| Rk (g_fn q q (dt h1)) <| Rk (g_fn q q (dt h1)) <| Rk (g_fn q q (dt h1)) <| r_pickT (ABool true) q (dt h1) q q <| Ra (ABool true) q q <| Rt hΨ q q q
  exact Rm (I_ t0) q (g_f q q (df h1)) <| r_faT ((cL 4 c_api_NodeType) t1.Nodes) fo_25_0 q q (g_f q q (df h1)) <| r_ld (AL 4 c_api_NodeType t1.Nodes) sc_22 q q (g_f q q (df h1)) <| r_len (cc := c_api_NodeType) il_22 q (g_f q q (df h1)) <| r_geq q q (g_f q q (df h1)) <| r_pickF (ABool (decide ((t1.Nodes.length : Int) ≤ t0))) q (df h1) q q <| Ra (ABool (decide ((t1.Nodes.length : Int) ≤ t0))) q q <| Rt hΨ q q q
theorem k_types_given (t0 : api_Types) (t1 : (List Int)) (r : Int) (hr : types_given t0 t1 = some r) : FnP PP 106 [AAgg (c_api_Types t0), AL 1 c_i64 t1] (I_ r) := by
  refine Fo (fun (r : Int) => I_ r) Tryz.func106 q (n := 18) q q hr fun X hΨ => ?_
  refine Jq q <| r_boxV (AAgg (c_api_Types t0)) q q <| Ra (I_ 0) q q <| R0 <| Js <| Jq q <| r_lda (c_api_Types t0) ag_25 q q q q <| R_bind fun b1 h2 => ?_
  refine r_call _ fn_31 (k_types_Valid _ _ h2) q q <| Rm (ATup [AStr b1.1, I_ b1.2]) q q <| r_ext (AStr b1.1) q q q <| r_ext (I_ b1.2) q q q <| Ra (AStr b1.1) q q <| Ra (I_ b1.2) q q <| R0 <| Jq q <| Rm (I_ b1.2) q q ?_
  refine r_neq q q q <| R0 <| J_cond_p q (fun h3 => ?_) (fun h3 => ?_)
  · exact Jq q <| Rm (I_ b1.2) q q <| Ra (I_ b1.2) q q <| Rt hΨ q q q
  refine J_skip <| Js <| Jq q <| Rm (AL 1 c_i64 t1) q q <| r_mkFn [APtr (c_api_Types t0)] (fun x => [I_ x]) (fun y => ABool y) (fun x => types_given_1 x t0) fn_157 q (fun x y h => k_types_given_1 x t0 y h) q <| R_bind fun b4 h5 => r_call _ fn_82 (k_slices_ContainsFunc_int _ _ _ h5) q q <| R0 <| J_cond q (fun h6 => ?_) (fun h6 => ?_)
  · exact Jq q <| Ra (I_ 6) q q <| Rt hΨ q q q
  exact J_skip <| Jq q <| Ra (I_ 0) q q <| Rt hΨ q q q
theorem k_slices_Clone_string (t0 : (List ByteArray)) (r : (List ByteArray)) (hr : slices_Clone_string t0 = some r) : FnP PP 239 [AL 1 c_str t0] (AL 1 c_str r) := by
  refine Fo (fun (r : (List ByteArray)) => AL 1 c_str r) Tryz.func239 q (n := 8) q q hr fun X hΨ => ?_
  refine Jq q <| Ra (ANil) q q <| R0 <| Js <| Jq q <| Rm (AL 1 c_str t0) q q <| r_eqNil (cc := c_str) ut_98 q q q <| R0 ?_
  refine J_condNil q (fun h2 => ?_) ?_
  · obtain rfl := List.eq_nil_of_length_eq_zero h2
    exact Jq q <| Ra (ANil) q q <| R0 <| J_retF hΨ (Res_box q (.tmp (A := ANil) q)) (fun y hy => by unfold slices_Clone_string at hy; simp at hy; subst hy; exact .nil)
  refine J_skip <| Jq q <| r_bs0 0 el_98 q q <| Rm (AL 1 c_str t0) q q <| R_if (fun h1 => ?_) (fun _ => R_none)
  exact r_app0 (cc := c_str) (ys := t0) 1 ap_98 q q q h1 q q q <| Ra (AObj 1) q q <| R0 <| J_retF hΨ (Res_box q (.tmp (A := AObj 1) q)) (fun y hy => by cases hy; exact (.frow q q (NKC.flat _ _)))
theorem k_types_Attrs (t0 : api_Types) (t1 : Int) (r : (List api_Attr) × Int) (hr : types_Attrs t0 t1 = some r) : FnP PP 223 [AAgg (c_api_Types t0), I_ t1] (ATup [AL 4 c_api_Attr r.1, I_ r.2]) := by
  refine Fo (fun (r : (List api_Attr) × Int) => ATup [AL 4 c_api_Attr r.1, I_ r.2]) Tryz.func223 q (n := 36) q q hr fun X hΨ => ?_
  refine Jq q <| r_boxV (AAgg (c_api_Types t0)) q q <| Ra (ANil) q q <| Ra (I_ 0) q q <| R0 <| Js <| Jq q <| r_lda (c_api_Types t0) ag_25 q q q q ?_
  refine Rm (I_ t1) q q <| r_bs (cc := c_i64) [t1] el_26 zr_3_1 (.cons (A := I_ t1) q q q .nil) q q q <| R_bind fun b1 h2 => r_call _ fn_106 (k_types_given _ _ _ h2) q q <| Ra (I_ b1) q q <| R0 <| Jq q <| Rm (I_ b1) q q <| r_neq q q q ?_
  refine R0 <| J_cond_p q (fun h3 => ?_) (fun h3 => ?_)
  · exact Jq q <| Rm (I_ b1) q q <| Ra (ANil) q q <| Ra (I_ b1) q q <| R0 <| J_retF hΨ (Res_many (As := [ANil, I_ b1]) q q (.cons (.tmp (A := ANil) q) (.cons (.tmp (A := I_ b1) q) .nil))) (fun y hy => by cases hy; exact (.tup (.cons .nil (.cons .same .nil))))
  refine J_skip <| Jq q <| r_lda (c_api_Types t0) ag_25 q q q q <| Rm (I_ t1) q q <| R_bind fun b4 h5 => r_callK [] [] [] [0] 1 [] [(0, .row 100 4 (b4.map c_api_Attr))] (AObj 0) [AAgg (c_api_Types t0), I_ t1] fn_97 (k_types_attrs _ _ _ h5) .nil q (.cons .same (.cons .same .nil)) .nil (.cons q q q q (.row (NKC.flat _ _)) q q .nil) (.obj q q q) q q q <| Ra (AObj 0) q q <| R0 <| Js ?_
  refine Jq q <| Rm (AObj 0) q q <| r_lenO (cc := c_api_Attr) b4 il_95 q q q <| Rm (I_ 0) q q <| R0 <| J_block <| Jn (fun x6 => ⟨fr [(5, I_ 0), (6, I_ b1), (7, AObj 0), (12, I_ b1), (13, I_ b1), (20, I_ (b4.length : Int)), (21, I_ x6.2)], hp [(0, .row 100 4 (x6.1.map c_api_Attr))], 1⟩) [] [] [] q (.s2 q q (.cons (A := AObj 0) q (.obj q q q) (.same q (.s3 q q q .nil)))) (.cons q q q q (.row (NKC.flat _ _)) q q .nil) q q (fun E7 hE7 x6 => ?_)
  refine Jq q <| r_lss q q q <| R0 <| Js <| J_cond_p q (fun h12 => ?_) (fun h12 => ?_)
  rotate_left
  · exact J_exit q <| J_outS <| Jq q <| Rm (AObj 0) q q <| Ra (AObj 0) q q <| Ra (I_ 0) q q <| R0 <| J_retF hΨ (Res_many (As := [AObj 0, I_ 0]) q q (.cons (.tmp (A := AObj 0) q) (.cons (.tmp (A := I_ 0) q) .nil))) (fun y hy => by cases hy; exact (.tup (.cons (.frow q q (NKC.flat _ _)) (.cons .same .nil))))
  refine J_skip <| Js <| J_block <| Jq q <| Rm (I_ x6.2) q q <| Ra (I_ x6.2) q q <| R0 <| Jr q <| Rm (AObj 0) q q ?_
  refine Rm (I_ x6.2) q q <| Rm (AObj 0) q q <| Rm (I_ x6.2) q q <| R_if (fun h13 => ?_) (fun _ => R_none)
  refine r_ixO (cc := c_api_Attr) el_95 q q q h13.1 h13.2 q <| r_faR fo_100_3 q q <| r_ldR (cc := c_api_Attr) x6.2 3 (AL 1 c_str ((nth x6.1 x6.2).Names)) sc_98 q q h13.1 h13.2 q q <| R_bind fun b14 h15 => r_call _ fn_239 (k_slices_Clone_string _ _ h15) q q <| r_ixO (cc := c_api_Attr) el_95 q q q h13.1 h13.2 q <| r_faR fo_100_3 q q <| r_stR (cc := c_api_Attr) x6.2 3 (AL 1 c_str b14) (api_Attr.mk ((nth x6.1 x6.2).Name) ((nth x6.1 x6.2).Low) ((nth x6.1 x6.2).High) b14) sz_98 q q q h13.1 h13.2 q q q q <| R0 <| J_inBlock ?_
  exact J_range 20 (m := (b4.length : Int)) q fun q16 => J_range 8 (m := x6.2) q fun q17 => Jr q <| r_add (x6.2 + 1) q q (wrap_i64 (by omega) (by omega)) q <| Rm (I_ (x6.2 + 1)) q q <| R0 <| J_go <| Jc [] [] [] (hE7 ((x6.1.set x6.2.toNat (api_Attr.mk ((nth x6.1 x6.2).Name) ((nth x6.1 x6.2).Low) ((nth x6.1 x6.2).High) b14)), x6.2 + 1)) (.s2 q q (.cons (A := AObj 0) q (.obj q q q) (.same q (.s3 q q q .nil)))) (.cons q q q q (.row (NKC.flat _ _)) q q .nil) q q
theorem k_attribute_attr (t0 : api_Types) (t1 : api_Pattern) (t2 : api_Slot) (r : api_Attr × Bool) (hr : attribute_attr t0 t1 t2 = some r) : FnP PP 187 [AAgg (c_api_Types t0), AAgg (c_api_Pattern t1), AAgg (c_api_Slot t2)] (ATup [AAgg (c_api_Attr r.1), ABool r.2]) := by
  refine Fo (fun (r : api_Attr × Bool) => ATup [AAgg (c_api_Attr r.1), ABool r.2]) Tryz.func187 q (n := 45) q q hr fun X hΨ => ?_
  refine Jq q <| r_boxV (AAgg (c_api_Types t0)) q q <| r_boxV (AAgg (c_api_Pattern t1)) q q <| r_boxV (AAgg (c_api_Slot t2)) q q <| r_alloc 0 _ z_100 q q <| Ra (ABool false) q q <| R0 <| Js <| Js ?_
  refine Jr q <| r_faT (c_i64 t2.Node) fo_156_0 q q q <| r_ld (I_ t2.Node) sc_3 q q q <| r_faT (c_api_Graph t1.Graph) fo_33_0 q q q <| r_faT ((cL 1 c_i64) t1.Graph.Nodes) fo_29_0 q q q <| r_ld (AL 1 c_i64 t1.Graph.Nodes) sc_26 q q q <| r_len (cc := c_i64) il_26 q q <| R_bind fun b1 h2 => r_sub b1 q q (Option.some.inj h2) q <| R_bind fun b3 h4 => ?_
  refine r_call _ fn_186 (k_attribute_within _ _ _ _ h4) q q <| r_not q q <| R0 <| J_cond q (fun h5 => ?_) (fun h5 => ?_)
  · exact Jq q <| r_buildI (Cs := [AStr (ByteArray.mk #[]), I_ 0, I_ 0, ANil]) (c_api_Attr (api_Attr.mk (ByteArray.mk #[]) 0 0 [])) pl_100 z_100 .nil q (.same (.same (.same (.nl .nil)))) q <| r_stO (AObj 0) (AAgg (c_api_Attr (api_Attr.mk (ByteArray.mk #[]) 0 0 []))) (c_api_Attr (api_Attr.mk (ByteArray.mk #[]) 0 0 [])) sz_100 q .obj q q q q q q <| Ra (ABool false) q q <| R0 <| Jt hΨ (Res_many (As := [AAgg (c_api_Attr (api_Attr.mk (ByteArray.mk #[]) 0 0 [])), ABool false]) q q (.cons (.boxA (cs := (c_api_Attr (api_Attr.mk (ByteArray.mk #[]) 0 0 []))) ag_100 q q q) (.cons (.tmp (A := ABool false) q) .nil))) q q
  refine J_skip <| Js <| J_draw <| r_lda (c_api_Types t0) ag_25 q q q q <| r_faT (c_api_Graph t1.Graph) fo_33_0 q q q <| r_faT ((cL 1 c_i64) t1.Graph.Nodes) fo_29_0 q q q <| r_ld (AL 1 c_i64 t1.Graph.Nodes) sc_26 q q q <| r_faT (c_i64 t2.Node) fo_156_0 q q q <| r_ld (I_ t2.Node) sc_3 q q q <| R_if (fun h6 => ?_) (fun _ => R_none)
  refine r_ix (cc := c_i64) el_26 q q h6.1 h6.2 q <| r_ld (I_ (nth t1.Graph.Nodes t2.Node)) sc_3 q q q <| R_bind fun b7 h8 => r_call _ fn_223 (k_types_Attrs _ _ _ h8) q q <| Rm (ATup [AL 4 c_api_Attr b7.1, I_ b7.2]) q q <| r_ext (AL 4 c_api_Attr b7.1) q q q <| r_ext (I_ b7.2) q q q <| Ra (AL 4 c_api_Attr b7.1) q q <| Ra (I_ b7.2) q q <| R_nilD (by kernel_rfl) ?_
  refine Js <| Jq q <| r_faT (c_i64 t2.Attr) fo_156_1 q q q <| r_ld (I_ t2.Attr) sc_3 q q q <| Rm (AL 4 c_api_Attr b7.1) q q <| r_len (cc := c_api_Attr) il_95 q q <| R_bind fun b9 h10 => r_sub b9 q q (Option.some.inj h10) q <| R_bind fun b11 h12 => ?_
  refine r_call _ fn_186 (k_attribute_within _ _ _ _ h12) q q <| r_not q q <| R0 <| J_cond q (fun h13 => ?_) (fun h13 => ?_)
  · exact Jq q <| r_buildI (Cs := [AStr (ByteArray.mk #[]), I_ 0, I_ 0, ANil]) (c_api_Attr (api_Attr.mk (ByteArray.mk #[]) 0 0 [])) pl_100 z_100 .nil q (.same (.same (.same (.nl .nil)))) q <| r_stO (AObj 0) (AAgg (c_api_Attr (api_Attr.mk (ByteArray.mk #[]) 0 0 []))) (c_api_Attr (api_Attr.mk (ByteArray.mk #[]) 0 0 [])) sz_100 q .obj q q q q q q <| Ra (ABool false) q q <| R0 <| Jt hΨ (Res_many (As := [AAgg (c_api_Attr (api_Attr.mk (ByteArray.mk #[]) 0 0 [])), ABool false]) q q (.cons (.boxA (cs := (c_api_Attr (api_Attr.mk (ByteArray.mk #[]) 0 0 []))) ag_100 q q q) (.cons (.tmp (A := ABool false) q) .nil))) q q
  refine J_skip <| Jq q <| Rm (AL 4 c_api_Attr b7.1) q q <| r_faT (c_i64 t2.Attr) fo_156_1 q q q <| r_ld (I_ t2.Attr) sc_3 q q q <| R_if (fun h14 => ?_) (fun _ => R_none)
  exact r_ix (cc := c_api_Attr) el_95 q q h14.1 h14.2 q <| r_lda (c_api_Attr (nth b7.1 t2.Attr)) ag_100 q q q q <| r_stO (AObj 0) (AAgg (c_api_Attr (nth b7.1 t2.Attr))) (c_api_Attr (nth b7.1 t2.Attr)) sz_100 q .obj q q q q q q <| Ra (ABool true) q q <| R0 <| Jt hΨ (Res_many (As := [AAgg (c_api_Attr (nth b7.1 t2.Attr)), ABool true]) q q (.cons (.boxA (cs := (c_api_Attr (nth b7.1 t2.Attr))) ag_100 q q q) (.cons (.tmp (A := ABool true) q) .nil))) q q
theorem k_difference_term (t0 : Int) (t1 : api_Term) (r : Bool) (hr : difference_term t0 t1 = some r) : FnP PP 240 [I_ t0, AAgg (c_api_Term t1)] (ABool r) := by
  refine Fo (fun (r : Bool) => ABool r) Tryz.func240 q (n := 24) q q hr fun X hΨ => ?_
  refine Jq q <| r_boxV (AAgg (c_api_Term t1)) q q <| Ra (ABool false) q q <| R0 <| Jq q <| r_faT (c_i64 t1.Var) fo_154_0 q q q <| r_ld (I_ t1.Var) sc_3 q q q <| r_geq q q q ?_
  refine Rm (ABool (decide ((-1) ≤ t1.Var))) q q <| R_if (fun h1 => ?_) (fun h1 => ?_)
  rotate_left
  · refine Rk (g_tn q q (df h1)) <| Rk (g_tn q q (df h1)) <| Rk (g_tn q q (df h1)) <| Rk (g_tn q q (df h1)) <| r_pickF (ABool false) q (df h1) q q <| Rm (ABool false) q q <| Rk (g_tn q q q) <| Rk (g_tn q q q) <| Rk (g_tn q q q) <| r_pickF (ABool false) q q q q ?_
    exact Rm (ABool false) q q <| Rk (g_tn q q q) <| Rk (g_tn q q q) <| Rk (g_tn q q q) <| r_pickF (ABool false) q q q q <| Ra (ABool false) q q <| Rt hΨ q q q
  refine r_faT (c_i64 t1.Var) fo_154_0 q q (g_t q q (dt h1)) <| r_ld (I_ t1.Var) sc_3 q q (g_t q q (dt h1)) <| Rm (I_ t0) q (g_t q q (dt h1)) <| r_lss q q (g_t q q (dt h1)) <| r_pickT (ABool (decide (t1.Var < t0))) q (dt h1) q q <| Rm (ABool (decide (t1.Var < t0))) q q <| R_if (fun h2 => ?_) (fun h2 => ?_)
  rotate_left
  · refine Rk (g_tn q q (df h2)) <| Rk (g_tn q q (df h2)) <| Rk (g_tn q q (df h2)) <| r_pickF (ABool false) q (df h2) q q <| Rm (ABool false) q q <| Rk (g_tn q q q) <| Rk (g_tn q q q) <| Rk (g_tn q q q) <| r_pickF (ABool false) q q q q <| Ra (ABool false) q q ?_
    exact Rt hΨ q q q
  refine r_faT (c_i64 t1.Add) fo_154_1 q q (g_t q q (dt h2)) <| r_ld (I_ t1.Add) sc_3 q q (g_t q q (dt h2)) <| r_geq q q (g_t q q (dt h2)) <| r_pickT (ABool (decide ((-1000000) ≤ t1.Add))) q (dt h2) q q <| Rm (ABool (decide ((-1000000) ≤ t1.Add))) q q <| R_if (fun h3 => ?_) (fun h3 => ?_)
  · exact r_faT (c_i64 t1.Add) fo_154_1 q q (g_t q q (dt h3)) <| r_ld (I_ t1.Add) sc_3 q q (g_t q q (dt h3)) <| r_leq q q (g_t q q (dt h3)) <| r_pickT (ABool (decide (t1.Add ≤ 1000000))) q (dt h3) q q <| Ra (ABool (decide (t1.Add ≤ 1000000))) q q <| Rt hΨ q q q
  exact Rk (g_tn q q (df h3)) <| Rk (g_tn q q (df h3)) <| Rk (g_tn q q (df h3)) <| r_pickF (ABool false) q (df h3) q q <| Ra (ABool false) q q <| Rt hΨ q q q
theorem k_difference_one (t0 : Int) (t1 : api_Test) (r : Int) (hr : difference_one t0 t1 = some r) : FnP PP 224 [I_ t0, AAgg (c_api_Test t1)] (I_ r) := by
  refine Fo (fun (r : Int) => I_ r) Tryz.func224 q (n := 27) q q hr fun X hΨ => ?_
  refine Jq q <| r_boxV (AAgg (c_api_Test t1)) q q <| Ra (I_ 0) q q <| R0 <| Js <| J_block <| Js ?_
  apply J_joinA (fun v9 => ⟨fr [(0, I_ t0), (3, APtr (c_api_Test t1)), (7, I_ t1.Kind)], fun _ => none, 0⟩) (fun v9 => difference_one_j9 t0 t1 v9)
  · intro K16
    refine Jr q <| r_faT (c_i64 t1.Kind) fo_200_0 q q q <| r_ld (I_ t1.Kind) sc_3 q q q <| r_neq q q q <| Rm (ABool (decide (¬ (t1.Kind = 1)))) q q <| R_if (fun h1 => ?_) (fun h1 => ?_)
    rotate_left
    · exact Rk (g_tn q q (df h1)) <| Rk (g_tn q q (df h1)) <| Rk (g_tn q q (df h1)) <| r_pickF (ABool false) q (df h1) q q <| Ra (ABool false) q q <| R0 <| J_cond_F q q <| Jk (K16 ()) (.c3 q q q .nil)
    refine r_faT (c_i64 t1.Kind) fo_200_0 q q (g_t q q (dt h1)) <| r_ld (I_ t1.Kind) sc_3 q q (g_t q q (dt h1)) <| r_neq q q (g_t q q (dt h1)) <| r_pickT (ABool (decide (¬ (t1.Kind = 2)))) q (dt h1) q q <| Ra (ABool (decide (¬ (t1.Kind = 2)))) q q <| R0 <| J_cond_p q (fun h2 => ?_) (fun h2 => ?_)
    rotate_left
    · exact Jk (K16 ()) (.c3 q q q .nil)
    exact Jq q <| Ra (I_ 1) q q <| Rt hΨ q q q
  intro v9
  refine Jq q <| Rm (I_ t0) q q <| r_faT (c_api_Term t1.Left) fo_200_1 q q q <| r_lda (c_api_Term t1.Left) ag_154 q q q q <| R_bind fun b10 h11 => r_call _ fn_240 (k_difference_term _ _ _ h11) q q <| r_not q q <| Rm (ABool (!b10)) q q <| R_if (fun h12 => ?_) (fun h12 => ?_)
  · refine Rk (g_fn q q h12) <| Rk (g_fn q q h12) <| Rk (g_fn q q h12) <| Rk (g_fn q q h12) <| Rk (g_fn q q h12) <| r_pickT (ABool true) q h12 q q <| Ra (ABool true) q q <| R0 <| J_cond_T q q <| Js ?_
    exact Jr q <| Ra (I_ 6) q q <| Rt hΨ q q q
  refine Rm (I_ t0) q (g_f q q (bf h12)) <| r_faT (c_api_Term t1.Right) fo_200_2 q q (g_f q q (bf h12)) <| r_lda (c_api_Term t1.Right) ag_154 q q q (g_f q q (bf h12)) <| R_bind fun b13 h14 => r_call _ fn_240 (k_difference_term _ _ _ h14) q (g_f q q (bf h12)) <| r_not q (g_f q q (bf h12)) <| r_pickF (ABool (!b13)) q (bf h12) q q <| Ra (ABool (!b13)) q q <| R0 <| J_cond q (fun h15 => ?_) (fun h15 => ?_)
  · exact Jq q <| Ra (I_ 6) q q <| Rt hΨ q q q
  exact J_skip <| J_inBlock <| Jq q <| Ra (I_ 0) q q <| Rt hΨ q q q
theorem k_difference_Valid (t0 : Int) (t1 : (List api_Test)) (r : Int) (hr : difference_Valid t0 t1 = some r) : FnP PP 188 [I_ t0, AL 5 c_api_Test t1] (I_ r) := by
  refine Fo (fun (r : Int) => I_ r) Tryz.func188 q (n := 30) q q hr fun X hΨ => ?_
  refine Jq q <| Ra (I_ 0) q q <| R0 <| Js <| Jq q <| Rm (I_ t0) q q <| r_lss q q q <| Rm (ABool (decide (t0 < 0))) q q ?_
  refine R_if (fun h1 => ?_) (fun h1 => ?_)
  · exact Rk (g_fn q q (dt h1)) <| Rk (g_fn q q (dt h1)) <| r_pickT (ABool true) q (dt h1) q q <| R0 <| J_cond_T q q <| Jq q <| Ra (I_ 6) q q <| Rt hΨ q q q
  refine Rm (I_ t0) q (g_f q q (df h1)) <| r_gtr q q (g_f q q (df h1)) <| r_pickF (ABool (decide (12 < t0))) q (df h1) q q <| R0 <| J_cond_p q (fun h2 => ?_) (fun h2 => ?_)
  · exact Jq q <| Ra (I_ 6) q q <| Rt hΨ q q q
  refine J_skip <| Js <| Jq q <| Rm (AL 5 c_api_Test t1) q q <| r_len (cc := c_api_Test) il_31 q q <| r_gtr q q q <| R0 <| J_cond_p q (fun h3 => ?_) (fun h3 => ?_)
  · exact Jq q <| Ra (I_ 3) q q <| Rt hΨ q q q
  refine J_skip <| Js <| Jq q <| Rm (AL 5 c_api_Test t1) q q <| r_len (cc := c_api_Test) il_31 q q <| Rm (I_ 0) q q <| R0 <| J_block <| Jn (fun x4 => ⟨fr [(0, I_ t0), (4, I_ 0), (8, I_ t0), (11, I_ t0), (15, I_ (t1.length : Int)), (17, AL 5 c_api_Test t1), (18, I_ (t1.length : Int)), (19, I_ x4)], hp [], 0⟩) [] [] [] q (.s2 q q (.s6 q q q q q q .nil)) .nil q q (fun E5 hE5 x4 => ?_)
  refine Jq q <| r_lss q q q <| R0 <| Js <| J_cond_p q (fun h11 => ?_) (fun h11 => ?_)
  rotate_left
  · exact J_exit q <| J_outS <| Jq q <| Ra (I_ 0) q q <| Rt hΨ q q q
  refine J_skip <| Js <| J_block <| Jq q <| R_if (fun h12 => ?_) (fun _ => R_none)
  refine r_ix (cc := c_api_Test) el_31 q q h12.1 h12.2 q <| r_lda (c_api_Test (nth t1 x4)) ag_200 q q q q <| r_alloc 0 _ z_200 q q <| r_stO (AObj 0) (AAgg (c_api_Test (nth t1 x4))) (c_api_Test (nth t1 x4)) sz_200 q .obj q q q q q q <| R0 <| Jq q <| Rm (I_ t0) q q <| r_ldaO (AObj 0) (c_api_Test (nth t1 x4)) ag_200 q .obj q q q q <| R_bind fun b13 h14 => ?_
  refine r_call _ fn_224 (k_difference_one _ _ _ h14) q q <| Ra (I_ b13) q q <| R0 <| Jq q <| Rm (I_ b13) q q <| r_neq q q q <| R0 <| J_cond_p q (fun h15 => ?_) (fun h15 => ?_)
  · exact Jq q <| Rm (I_ b13) q q <| Ra (I_ b13) q q <| R0 <| J_outS <| Jt hΨ (Res_one q) q q
  exact J_skip <| J_inBlock <| J_range 15 (m := (t1.length : Int)) q fun q16 => J_range 19 (m := x4) q fun q17 => Jr q <| r_add (x4 + 1) q q (wrap_i64 (by omega) (by omega)) q <| Rm (I_ (x4 + 1)) q q <| R0 <| J_go <| Jc [] [] [] (hE5 (x4 + 1)) (.s2 q q (.s6 q q q q q q .nil)) .nil q q
theorem k_slices_Index_bool (t0 : (List Bool)) (t1 : Bool) (r : Int) (hr : slices_Index_bool t0 t1 = some r) : FnP PP 225 [AL 1 c_bool t0, ABool t1] (I_ r) := by
  refine Fo (fun (r : Int) => I_ r) Tryz.func225 q (n := 19) q q hr fun X hΨ => ?_
  refine Jq q <| Ra (I_ 0) q q <| R0 <| Js <| Jq q <| Rm (AL 1 c_bool t0) q q <| r_len (cc := c_bool) il_213 q q <| Rm (I_ 0) q q ?_
  refine R0 <| J_block <| Jl (fun x1 => [(0, AL 1 c_bool t0), (1, ABool t1), (7, I_ (t0.length : Int)), (8, I_ x1)]) (.cons q (.c3 q q q .nil)) (fun E2 hE2 x1 => ?_)
  refine Jq q <| r_lss q q q <| R0 <| Js <| J_cond_p q (fun h6 => ?_) (fun h6 => ?_)
  rotate_left
  · exact J_exit q <| J_outS <| Jq q <| Ra (I_ (-1)) q q <| Rt hΨ q q q
  refine J_skip <| Js <| J_block <| Jq q <| Rm (I_ x1) q q <| Ra (I_ x1) q q <| R0 <| Jq q ?_
  refine Rm (ABool t1) q q <| Rm (AL 1 c_bool t0) q q <| Rm (I_ x1) q q <| R_if (fun h7 => ?_) (fun _ => R_none)
  refine r_ix (cc := c_bool) el_213 q q h7.1 h7.2 q <| r_ld (ABool (nth t0 x1)) sc_4 q q q <| r_eqB ut_4 q q q <| R0 <| J_cond q (fun h8 => ?_) (fun h8 => ?_)
  · exact Jq q <| Rm (I_ x1) q q <| Ra (I_ x1) q q <| R0 <| J_outS <| Jt hΨ (Res_one q) q q
  exact J_skip <| J_inBlock <| J_range 7 (m := (t0.length : Int)) q fun q9 => J_range 5 (m := x1) q fun q10 => Jr q <| r_add (x1 + 1) q q (wrap_i64 (by omega) (by omega)) q <| Rm (I_ (x1 + 1)) q q <| R0 <| J_go <| Jk (hE2 (x1 + 1)) (.cons q (.c3 q q q .nil))
theorem k_slices_Contains_bool (t0 : (List Bool)) (t1 : Bool) (r : Bool) (hr : slices_Contains_bool t0 t1 = some r) : FnP PP 189 [AL 1 c_bool t0, ABool t1] (ABool r) := by
  refine Fo (fun (r : Bool) => ABool r) Tryz.func189 q (n := 9) q q hr fun X hΨ => ?_
  refine Jq q <| Ra (ABool false) q q <| R0 <| Jq q <| Rm (AL 1 c_bool t0) q q <| Rm (ABool t1) q q <| R_bind fun b1 h2 => r_call _ fn_225 (k_slices_Index_bool _ _ _ h2) q q ?_
  exact r_geq q q q <| Ra (ABool (decide (0 ≤ b1))) q q <| Rt hΨ q q q
theorem k_attribute_Valid (t0 : api_Types) (t1 : api_Pattern) (r : Int) (hr : attribute_Valid t0 t1 = some r) : FnP PP 151 [AAgg (c_api_Types t0), AAgg (c_api_Pattern t1)] (I_ r) := by
  refine Fo (fun (r : Int) => I_ r) Tryz.func151 q (n := 110) q q hr fun X hΨ => ?_
  refine Jq q <| r_boxV (AAgg (c_api_Types t0)) q q <| r_boxV (AAgg (c_api_Pattern t1)) q q <| Ra (I_ 0) q q <| R0 <| Js <| Jq q <| r_lda (c_api_Types t0) ag_25 q q q q ?_
  refine R_bind fun b1 h2 => r_call _ fn_31 (k_types_Valid _ _ h2) q q <| Rm (ATup [AStr b1.1, I_ b1.2]) q q <| r_ext (AStr b1.1) q q q <| r_ext (I_ b1.2) q q q <| Ra (AStr b1.1) q q <| Ra (I_ b1.2) q q <| R0 <| Jq q ?_
  refine Rm (I_ b1.2) q q <| r_neq q q q <| R0 <| J_cond_p q (fun h3 => ?_) (fun h3 => ?_)
  · exact Jq q <| Rm (I_ b1.2) q q <| Ra (I_ b1.2) q q <| Rt hΨ q q q
  refine J_skip <| Js <| Jq q <| r_faT (c_api_Graph t1.Graph) fo_33_0 q q q <| r_lda (c_api_Graph t1.Graph) ag_29 q q q q <| R_bind fun b4 h5 => r_call _ fn_86 (k_graph_Valid _ _ h5) q q <| Ra (I_ b4) q q <| R0 ?_
  refine Jq q <| Rm (I_ b4) q q <| r_neq q q q <| R0 <| J_cond_p q (fun h6 => ?_) (fun h6 => ?_)
  · exact Jq q <| Rm (I_ b4) q q <| Ra (I_ b4) q q <| Rt hΨ q q q
  refine J_skip <| Js <| Jq q <| r_faT (c_api_Graph t1.Graph) fo_33_0 q q q <| r_faT ((cL 1 c_i64) t1.Graph.Nodes) fo_29_0 q q q <| r_ld (AL 1 c_i64 t1.Graph.Nodes) sc_26 q q q <| r_mkFn [APtr (c_api_Types t0)] (fun x => [I_ x]) (fun y => ABool y) (fun x => attribute_Valid_1 x t0) fn_184 q (fun x y h => k_attribute_Valid_1 x t0 y h) q <| R_bind fun b7 h8 => r_call _ fn_82 (k_slices_ContainsFunc_int _ _ _ h8) q q ?_
  refine Rm (ABool b7) q q <| R_if (fun h9 => ?_) (fun h9 => ?_)
  · refine Rk (g_fn q q h9) <| Rk (g_fn q q h9) <| Rk (g_fn q q h9) <| Rk (g_fn q q h9) <| Rk (g_fn q q h9) <| r_pickT (ABool true) q h9 q q <| R0 <| J_cond_T q q <| Jq q ?_
    exact Ra (I_ 13) q q <| Rt hΨ q q q
  refine r_faT (c_api_Graph t1.Graph) fo_33_0 q q (g_f q q (bf h9)) <| r_faT ((cL 3 c_api_Edge) t1.Graph.Edges) fo_29_1 q q (g_f q q (bf h9)) <| r_ld (AL 3 c_api_Edge t1.Graph.Edges) sc_27 q q (g_f q q (bf h9)) <| r_mkFn [APtr (c_api_Types t0)] (fun x => [AAgg (c_api_Edge x)]) (fun y => ABool y) (fun x => attribute_Valid_2 x t0) fn_185 q (fun x y h => k_attribute_Valid_2 x t0 y h) (g_f q q (bf h9)) <| R_bind fun b10 h11 => r_call _ fn_137 (k_slices_ContainsFunc_api_Edge _ _ _ h11) q (g_f q q (bf h9)) <| r_pickF (ABool b10) q (bf h9) q q <| R0 <| J_cond q (fun h12 => ?_) (fun h12 => ?_)
  · exact Jq q <| Ra (I_ 13) q q <| Rt hΨ q q q
  refine J_skip <| Js <| Jq q <| r_faT (c_i64 t1.Vars) fo_33_2 q q q <| r_ld (I_ t1.Vars) sc_3 q q q <| R_bind fun b13 h14 => r_call _ fn_186 (k_attribute_within _ _ _ _ h14) q q <| r_not q q <| R0 ?_
  refine J_cond q (fun h15 => ?_) (fun h15 => ?_)
  · exact Jq q <| Ra (I_ 6) q q <| Rt hΨ q q q
  refine J_skip <| Js <| Jq q <| r_faT ((cL 4 c_api_Slot) t1.Slots) fo_33_1 q q q <| r_ld (AL 4 c_api_Slot t1.Slots) sc_30 q q q <| r_len (cc := c_api_Slot) il_30 q q <| r_gtr q q q <| Rm (ABool (decide (10 < (t1.Slots.length : Int)))) q q <| R_if (fun h16 => ?_) (fun h16 => ?_)
  · refine Rk (g_fn q q (dt h16)) <| Rk (g_fn q q (dt h16)) <| Rk (g_fn q q (dt h16)) <| Rk (g_fn q q (dt h16)) <| r_pickT (ABool true) q (dt h16) q q <| R0 <| J_cond_T q q <| Jq q <| Ra (I_ 3) q q ?_
    exact Rt hΨ q q q
  refine r_faT ((cL 5 c_api_Test) t1.Tests) fo_33_3 q q (g_f q q (df h16)) <| r_ld (AL 5 c_api_Test t1.Tests) sc_31 q q (g_f q q (df h16)) <| r_len (cc := c_api_Test) il_31 q (g_f q q (df h16)) <| r_gtr q q (g_f q q (df h16)) <| r_pickF (ABool (decide (10 < (t1.Tests.length : Int)))) q (df h16) q q <| R0 <| J_cond_p q (fun h17 => ?_) (fun h17 => ?_)
  · exact Jq q <| Ra (I_ 3) q q <| Rt hΨ q q q
  refine J_skip <| Jq q <| r_faT (c_i64 t1.Vars) fo_33_2 q q q <| r_ld (I_ t1.Vars) sc_3 q q q <| R_if (fun h18 => ?_) (fun _ => R_none)
  refine r_make (cc := c_bool) 0 false ap_213 z_4 q q h18.1 h18.2 q q <| Ra (AObj 0) q q <| R0 <| Js <| Jq q <| r_faT ((cL 4 c_api_Slot) t1.Slots) fo_33_1 q q q <| r_ld (AL 4 c_api_Slot t1.Slots) sc_30 q q q <| r_len (cc := c_api_Slot) il_30 q q <| Rm (I_ 0) q q ?_
  refine R0 <| J_block <| Jn (fun x19 => ⟨fr [(2, APtr (c_api_Types t0)), (3, APtr (c_api_Pattern t1)), (4, I_ 0), (6, I_ b1.2), (7, I_ b4), (8, AObj 0), (18, I_ b1.2), (19, I_ b1.2), (24, I_ b4), (25, I_ b4), (41, I_ t1.Vars), (46, I_ (t1.Slots.length : Int)), (51, I_ (t1.Tests.length : Int)), (55, I_ t1.Vars), (58, AL 4 c_api_Slot t1.Slots), (59, I_ (t1.Slots.length : Int)), (60, I_ x19.2)], hp [(0, .row 4 1 (x19.1.map c_bool))], 1⟩) [] [] [] q (.s2 q q (.s3 q q q (.cons (A := AObj 0) q (.obj q q q) (.s2 q q (.s3 q q q (.s6 q q q q q q .nil)))))) (.cons q q q q (.row (NKC.flat _ _)) q q .nil) q q (fun E20 hE20 x19 => ?_)
  refine Jq q <| r_lss q q q <| R0 <| Js <| J_cond_p q (fun h38 => ?_) (fun h38 => ?_)
  rotate_left
  · refine J_exit q <| J_out <| Js <| Jq q <| r_faT (c_i64 t1.Vars) fo_33_2 q q q <| r_ld (I_ t1.Vars) sc_3 q q q <| r_faT ((cL 5 c_api_Test) t1.Tests) fo_33_3 q q q <| r_ld (AL 5 c_api_Test t1.Tests) sc_31 q q q <| R_bind fun b57 h58 => ?_
    refine r_call _ fn_188 (k_difference_Valid _ _ _ h58) q q <| Ra (I_ b57) q q <| R0 <| Jq q <| Rm (I_ b57) q q <| r_neq q q q <| R0 <| J_cond_p q (fun h59 => ?_) (fun h59 => ?_)
    · exact Jq q <| Rm (I_ b57) q q <| Ra (I_ b57) q q <| Rt hΨ q q q
    refine J_skip <| Js <| Jq q <| Rm (AObj 0) q q <| R_bind fun b60 h61 => r_callB [(0, .row 4 1 (x19.1.map c_bool))] [AObj 0, ABool false] fn_189 (k_slices_Contains_bool _ _ _ h61) (.cons q .nil) q (.cons (.frow q q (NKC.flat _ _)) (.cons .same .nil)) q <| R0 <| J_cond q (fun h62 => ?_) (fun h62 => ?_)
    · exact Jq q <| Ra (I_ 9) q q <| Rt hΨ q q q
    exact J_skip <| Jq q <| Ra (I_ 0) q q <| Rt hΨ q q q
  refine J_skip <| Js <| J_block <| Jq q <| R_if (fun h39 => ?_) (fun _ => R_none)
  refine r_ix (cc := c_api_Slot) el_30 q q h39.1 h39.2 q <| r_lda (c_api_Slot (nth t1.Slots x19.2)) ag_156 q q q q <| r_alloc 1 _ z_156 q q <| r_stO (AObj 1) (AAgg (c_api_Slot (nth t1.Slots x19.2))) (c_api_Slot (nth t1.Slots x19.2)) sz_156 q .obj q q q q q q <| R0 <| Js <| Jq q <| r_lda (c_api_Types t0) ag_25 q q q q <| r_lda (c_api_Pattern t1) ag_33 q q q q ?_
  refine r_ldaO (AObj 1) (c_api_Slot (nth t1.Slots x19.2)) ag_156 q .obj q q q q <| R_bind fun b40 h41 => r_call _ fn_187 (k_attribute_attr _ _ _ _ h41) q q <| Rm (ATup [AAgg (c_api_Attr b40.1), ABool b40.2]) q q <| r_ext (AAgg (c_api_Attr b40.1)) q q q <| r_ext (ABool b40.2) q q q <| r_alloc 2 _ z_100 q q <| r_stO (AObj 2) (AAgg (c_api_Attr b40.1)) (c_api_Attr b40.1) sz_100 q .obj q q q q q q <| Ra (ABool b40.2) q q <| R0 ?_
  refine Jq q <| Rm (ABool b40.2) q q <| r_not q q <| Rm (ABool (!b40.2)) q q <| R_if (fun h42 => ?_) (fun h42 => ?_)
  · refine Rk (g_fn q q h42) <| Rk (g_fn q q h42) <| Rk (g_fn q q h42) <| Rk (g_fn q q h42) <| Rk (g_fn q q h42) <| Rk (g_fn q q h42) <| Rk (g_fn q q h42) <| Rk (g_fn q q h42) <| r_pickT (ABool true) q h42 q q <| Rm (ABool true) q q ?_
    refine Rk (g_fn q q q) <| Rk (g_fn q q q) <| Rk (g_fn q q q) <| Rk (g_fn q q q) <| Rk (g_fn q q q) <| r_pickT (ABool true) q q q q <| R0 <| J_cond_T q q <| Jq q ?_
    exact Ra (I_ 6) q q <| R0 <| J_outS <| Jt hΨ (Res_one q) q q
  refine r_faO (AObj 1) 2 fo_156_2 q .obj q q (g_f q q (bf h42)) <| r_faO (ABoxAt 1 2) 2 fo_154_0 q .at q q (g_f q q (bf h42)) <| r_ldO (ABoxAt 1 2) (I_ (((nth t1.Slots x19.2).Term).Var)) sc_3 q .at q q (g_f q q (bf h42)) <| r_faT (c_i64 t1.Vars) fo_33_2 q q (g_f q q (bf h42)) <| r_ld (I_ t1.Vars) sc_3 q q (g_f q q (bf h42)) <| R_bind fun b43 h44 => r_sub b43 q q (Option.some.inj h44) (g_f q q (bf h42)) <| R_bind fun b45 h46 => r_call _ fn_186 (k_attribute_within _ _ _ _ h46) q (g_f q q (bf h42)) <| r_not q (g_f q q (bf h42)) ?_
  refine r_pickF (ABool (!b45)) q (bf h42) q q <| Rm (ABool (!b45)) q q <| R_if (fun h47 => ?_) (fun h47 => ?_)
  · refine Rk (g_fn q q h47) <| Rk (g_fn q q h47) <| Rk (g_fn q q h47) <| Rk (g_fn q q h47) <| Rk (g_fn q q h47) <| r_pickT (ABool true) q h47 q q <| R0 <| J_cond_T q q <| Jq q ?_
    exact Ra (I_ 6) q q <| R0 <| J_outS <| Jt hΨ (Res_one q) q q
  refine r_faO (AObj 1) 2 fo_156_2 q .obj q q (g_f q q (bf h47)) <| r_faO (ABoxAt 1 2) 3 fo_154_1 q .at q q (g_f q q (bf h47)) <| r_ldO (ABoxAt 1 3) (I_ (((nth t1.Slots x19.2).Term).Add)) sc_3 q .at q q (g_f q q (bf h47)) <| R_bind fun b48 h49 => r_call _ fn_186 (k_attribute_within _ _ _ _ h49) q (g_f q q (bf h47)) <| r_not q (g_f q q (bf h47)) <| r_pickF (ABool (!b48)) q (bf h47) q q <| R0 <| J_cond q (fun h50 => ?_) (fun h50 => ?_)
  · exact Jq q <| Ra (I_ 6) q q <| R0 <| J_outS <| Jt hΨ (Res_one q) q q
  refine J_skip <| Jq q <| r_faO (AObj 1) 2 fo_156_2 q .obj q q q <| r_faO (ABoxAt 1 2) 2 fo_154_0 q .at q q q <| r_ldO (ABoxAt 1 2) (I_ (((nth t1.Slots x19.2).Term).Var)) sc_3 q .at q q q <| r_geq q q q <| R0 ?_
  apply J_joinA (fun v53 => ⟨fr [(2, APtr (c_api_Types t0)), (3, APtr (c_api_Pattern t1)), (4, I_ 0), (6, I_ b1.2), (7, I_ b4), (8, AObj 0), (18, I_ b1.2), (19, I_ b1.2), (24, I_ b4), (25, I_ b4), (41, I_ t1.Vars), (46, I_ (t1.Slots.length : Int)), (51, I_ (t1.Tests.length : Int)), (55, I_ t1.Vars), (58, AL 4 c_api_Slot t1.Slots), (59, I_ (t1.Slots.length : Int)), (60, I_ x19.2), (76, I_ (((nth t1.Slots x19.2).Term).Var)), (78, I_ t1.Vars), (92, I_ (((nth t1.Slots x19.2).Term).Var))], hp [(0, .row 4 1 (v53.map c_bool))], 1⟩) (fun v53 => attribute_Valid_j53 x19 v53)
  · intro K54
    refine J_cond_p q (fun h51 => ?_) (fun h51 => ?_)
    rotate_left
    · exact J_skip <| Jc [] [] [] (K54 x19.1) (.s2 q q (.s3 q q q (.cons (A := AObj 0) q (.obj q q q) (.s2 q q (.s6 q q q q q q (.s6 q q q q q q .nil)))))) (.cons q q q q (.row (NKC.flat _ _)) q q .nil) q q
    refine Jr q <| Rm (AObj 0) q q <| r_faO (AObj 1) 2 fo_156_2 q .obj q q q <| r_faO (ABoxAt 1 2) 2 fo_154_0 q .at q q q <| r_ldO (ABoxAt 1 2) (I_ (((nth t1.Slots x19.2).Term).Var)) sc_3 q .at q q q <| R_if (fun h52 => ?_) (fun _ => R_none)
    exact r_ixO (cc := c_bool) el_213 q q q h52.1 h52.2 q <| r_stR (cc := c_bool) (((nth t1.Slots x19.2).Term).Var) 0 (ABool true) true sz_4 q q q h52.1 h52.2 q q q q <| R0 <| Jc [] [] [] (K54 (x19.1.set (((nth t1.Slots x19.2).Term).Var).toNat true)) (.s2 q q (.s3 q q q (.cons (A := AObj 0) q (.obj q q q) (.s2 q q (.s6 q q q q q q (.s6 q q q q q q .nil)))))) (.cons q q q q (.row (NKC.flat _ _)) q q .nil) q q
  intro v53
  exact J_inBlock <| J_range 46 (m := (t1.Slots.length : Int)) q fun q55 => J_range 60 (m := x19.2) q fun q56 => Jr q <| r_add (x19.2 + 1) q q (wrap_i64 (by omega) (by omega)) q <| Rm (I_ (x19.2 + 1)) q q <| R0 <| J_go <| Jc [] [] [] (hE20 (v53, x19.2 + 1)) (.s2 q q (.s3 q q q (.cons (A := AObj 0) q (.obj q q q) (.s2 q q (.s3 q q q (.s6 q q q q q q .nil)))))) (.cons q q q q (.row (NKC.flat _ _)) q q .nil) q q
theorem k_rule_typed_1 (t0 : Int) (t1 : api_Types) (r : Bool) (hr : rule_typed_1 t0 t1 = some r) : FnP PP 226 [I_ t0, APtr (c_api_Types t1)] (ABool r) := by
  refine Fo (fun (r : Bool) => ABool r) Tryz.func226 q (n := 9) q q hr fun X hΨ => ?_
  refine Jq q <| Ra (ABool false) q q <| R0 <| Jq q <| Rm (I_ t0) q q <| r_faT ((cL 4 c_api_NodeType) t1.Nodes) fo_25_0 q q q <| r_ld (AL 4 c_api_NodeType t1.Nodes) sc_22 q q q <| r_len (cc := c_api_NodeType) il_22 q q ?_
  exact r_geq q q q <| Ra (ABool (decide ((t1.Nodes.length : Int) ≤ t0))) q q <| Rt hΨ q q q
theorem k_rule_typed_2 (t0 : api_Edge) (t1 : api_Types) (r : Bool) (hr : rule_typed_2 t0 t1 = some r) : FnP PP 227 [AAgg (c_api_Edge t0), APtr (c_api_Types t1)] (ABool r) := by
  refine Fo (fun (r : Bool) => ABool r) Tryz.func227 q (n := 10) q q hr fun X hΨ => ?_
  refine Jq q <| r_boxV (AAgg (c_api_Edge t0)) q q <| Ra (ABool false) q q <| R0 <| Jq q <| r_faT (c_i64 t0.Type_) fo_77_0 q q q <| r_ld (I_ t0.Type_) sc_3 q q q <| r_faT ((cL 7 c_api_EdgeType) t1.Edges) fo_25_1 q q q ?_
  exact r_ld (AL 7 c_api_EdgeType t1.Edges) sc_23 q q q <| r_len (cc := c_api_EdgeType) il_23 q q <| r_geq q q q <| Ra (ABool (decide ((t1.Edges.length : Int) ≤ t0.Type_))) q q <| Rt hΨ q q q
theorem k_rule_typed (t0 : api_Types) (t1 : api_Graph) (r : Bool) (hr : rule_typed t0 t1 = some r) : FnP PP 190 [AAgg (c_api_Types t0), AAgg (c_api_Graph t1)] (ABool r) := by
  refine Fo (fun (r : Bool) => ABool r) Tryz.func190 q (n := 17) q q hr fun X hΨ => ?_
  refine Jq q <| r_boxV (AAgg (c_api_Types t0)) q q <| r_boxV (AAgg (c_api_Graph t1)) q q <| Ra (ABool false) q q <| R0 <| Jq q <| r_faT ((cL 1 c_i64) t1.Nodes) fo_29_0 q q q <| r_ld (AL 1 c_i64 t1.Nodes) sc_26 q q q ?_
  refine r_mkFn [APtr (c_api_Types t0)] (fun x => [I_ x]) (fun y => ABool y) (fun x => rule_typed_1 x t0) fn_226 q (fun x y h => k_rule_typed_1 x t0 y h) q <| R_bind fun b1 h2 => r_call _ fn_82 (k_slices_ContainsFunc_int _ _ _ h2) q q <| r_not q q <| Rm (ABool (!b1)) q q <| R_if (fun h3 => ?_) (fun h3 => ?_)
  rotate_left
  · exact Rk (g_tn q q (bf h3)) <| Rk (g_tn q q (bf h3)) <| Rk (g_tn q q (bf h3)) <| Rk (g_tn q q (bf h3)) <| Rk (g_tn q q (bf h3)) <| r_pickF (ABool false) q (bf h3) q q <| Ra (ABool false) q q <| Rt hΨ q q q
  exact r_faT ((cL 3 c_api_Edge) t1.Edges) fo_29_1 q q (g_t q q h3) <| r_ld (AL 3 c_api_Edge t1.Edges) sc_27 q q (g_t q q h3) <| r_mkFn [APtr (c_api_Types t0)] (fun x => [AAgg (c_api_Edge x)]) (fun y => ABool y) (fun x => rule_typed_2 x t0) fn_227 q (fun x y h => k_rule_typed_2 x t0 y h) (g_t q q h3) <| R_bind fun b4 h5 => r_call _ fn_137 (k_slices_ContainsFunc_api_Edge _ _ _ h5) q (g_t q q h3) <| r_not q (g_t q q h3) <| r_pickT (ABool (!b4)) q h3 q q <| Ra (ABool (!b4)) q q <| Rt hΨ q q q
theorem k_slices_IndexFunc_api_Slot (t0 : (List api_Slot)) (t1 : (api_Slot → Option Bool)) (r : Int) (hr : slices_IndexFunc_api_Slot t0 t1 = some r) : FnP PP 241 [AL 4 c_api_Slot t0, AFn PP (fun x => [AAgg (c_api_Slot x)]) (fun y => ABool y) t1] (I_ r) := by
  refine Fo (fun (r : Int) => I_ r) Tryz.func241 q (n := 19) q q hr fun X hΨ => ?_
  refine Jq q <| Ra (I_ 0) q q <| R0 <| Js <| Jq q <| Rm (AL 4 c_api_Slot t0) q q <| r_len (cc := c_api_Slot) il_30 q q <| Rm (I_ 0) q q ?_
  refine R0 <| J_block <| Jl (fun x1 => [(0, AL 4 c_api_Slot t0), (1, AFn PP (fun x => [AAgg (c_api_Slot x)]) (fun y => ABool y) t1), (7, I_ (t0.length : Int)), (8, I_ x1)]) (.cons q (.c3 q q q .nil)) (fun E2 hE2 x1 => ?_)
  refine Jq q <| r_lss q q q <| R0 <| Js <| J_cond_p q (fun h8 => ?_) (fun h8 => ?_)
  rotate_left
  · exact J_exit q <| J_outS <| Jq q <| Ra (I_ (-1)) q q <| Rt hΨ q q q
  refine J_skip <| Js <| J_block <| Jq q <| Rm (I_ x1) q q <| Ra (I_ x1) q q <| R0 <| Jq q ?_
  refine Rm (AFn PP (fun x => [AAgg (c_api_Slot x)]) (fun y => ABool y) t1) q q <| Rm (AL 4 c_api_Slot t0) q q <| Rm (I_ x1) q q <| R_if (fun h9 => ?_) (fun _ => R_none)
  refine r_ix (cc := c_api_Slot) el_30 q q h9.1 h9.2 q <| r_lda (c_api_Slot (nth t0 x1)) ag_156 q q q q <| R_bind fun b10 h11 => r_callFn (ga := (fun x => [AAgg (c_api_Slot x)])) (rt := (fun y => ABool y)) (gg := t1) (u := (nth t0 x1)) (w := b10) q q h11 (NK.nk) q <| R0 <| J_cond q (fun h12 => ?_) (fun h12 => ?_)
  · exact Jq q <| Rm (I_ x1) q q <| Ra (I_ x1) q q <| R0 <| J_outS <| Jt hΨ (Res_one q) q q
  exact J_skip <| J_inBlock <| J_range 7 (m := (t0.length : Int)) q fun q13 => J_range 5 (m := x1) q fun q14 => Jr q <| r_add (x1 + 1) q q (wrap_i64 (by omega) (by omega)) q <| Rm (I_ (x1 + 1)) q q <| R0 <| J_go <| Jk (hE2 (x1 + 1)) (.cons q (.c3 q q q .nil))
theorem k_slices_ContainsFunc_api_Slot (t0 : (List api_Slot)) (t1 : (api_Slot → Option Bool)) (r : Bool) (hr : slices_ContainsFunc_api_Slot t0 t1 = some r) : FnP PP 228 [AL 4 c_api_Slot t0, AFn PP (fun x => [AAgg (c_api_Slot x)]) (fun y => ABool y) t1] (ABool r) := by
  refine Fo (fun (r : Bool) => ABool r) Tryz.func228 q (n := 9) q q hr fun X hΨ => ?_
  refine Jq q <| Ra (ABool false) q q <| R0 <| Jq q <| Rm (AL 4 c_api_Slot t0) q q <| Rm (AFn PP (fun x => [AAgg (c_api_Slot x)]) (fun y => ABool y) t1) q q <| R_bind fun b1 h2 => r_call _ fn_241 (k_slices_IndexFunc_api_Slot _ _ _ h2) q q ?_
  exact r_geq q q q <| Ra (ABool (decide (0 ≤ b1))) q q <| Rt hΨ q q q
theorem k_rule_slot_1 (t0 : api_Slot) (t1 : api_Slot) (r : Bool) (hr : rule_slot_1 t0 t1 = some r) : FnP PP 229 [AAgg (c_api_Slot t0), APtr (c_api_Slot t1)] (ABool r) := by
  refine Fo (fun (r : Bool) => ABool r) Tryz.func229 q (n := 16) q q hr fun X hΨ => ?_
  refine Jq q <| r_boxV (AAgg (c_api_Slot t0)) q q <| Ra (ABool false) q q <| R0 <| Jq q <| r_faT (c_i64 t0.Node) fo_156_0 q q q <| r_ld (I_ t0.Node) sc_3 q q q <| r_faT (c_i64 t1.Node) fo_156_0 q q q ?_
  refine r_ld (I_ t1.Node) sc_3 q q q <| r_eql q q q <| Rm (ABool (decide (t0.Node = t1.Node))) q q <| R_if (fun h1 => ?_) (fun h1 => ?_)
  · exact r_faT (c_i64 t0.Attr) fo_156_1 q q (g_t q q (dt h1)) <| r_ld (I_ t0.Attr) sc_3 q q (g_t q q (dt h1)) <| r_faT (c_i64 t1.Attr) fo_156_1 q q (g_t q q (dt h1)) <| r_ld (I_ t1.Attr) sc_3 q q (g_t q q (dt h1)) <| r_eql q q (g_t q q (dt h1)) <| r_pickT (ABool (decide (t0.Attr = t1.Attr))) q (dt h1) q q <| Ra (ABool (decide (t0.Attr = t1.Attr))) q q <| Rt hΨ q q q
  exact Rk (g_tn q q (df h1)) <| Rk (g_tn q q (df h1)) <| Rk (g_tn q q (df h1)) <| Rk (g_tn q q (df h1)) <| Rk (g_tn q q (df h1)) <| r_pickF (ABool false) q (df h1) q q <| Ra (ABool false) q q <| Rt hΨ q q q
theorem k_rule_slot (t0 : api_Types) (t1 : api_Rule) (t2 : Int) (r : Int) (hr : rule_slot t0 t1 t2 = some r) : FnP PP 191 [AAgg (c_api_Types t0), AAgg (c_api_Rule t1), I_ t2] (I_ r) := by
  refine Fo (fun (r : Int) => I_ r) Tryz.func191 q (n := 85) q q hr fun X hΨ => ?_
  refine Jq q <| r_boxV (AAgg (c_api_Types t0)) q q <| r_boxV (AAgg (c_api_Rule t1)) q q <| Ra (I_ 0) q q <| R0 <| Jq q <| r_faT (c_api_Pattern t1.Right) fo_41_2 q q q <| r_faT ((cL 4 c_api_Slot) t1.Right.Slots) fo_33_1 q q q ?_
  refine r_ld (AL 4 c_api_Slot t1.Right.Slots) sc_30 q q q <| Rm (I_ t2) q q <| R_if (fun h1 => ?_) (fun _ => R_none)
  refine r_ix (cc := c_api_Slot) el_30 q q h1.1 h1.2 q <| r_lda (c_api_Slot (nth t1.Right.Slots t2)) ag_156 q q q q <| r_alloc 0 _ z_156 q q <| r_stO (AObj 0) (AAgg (c_api_Slot (nth t1.Right.Slots t2))) (c_api_Slot (nth t1.Right.Slots t2)) sz_156 q .obj q q q q q q <| R0 <| Js <| Jq q <| r_faO (AObj 0) 0 fo_156_0 q .obj q q q <| r_ldO (ABoxAt 0 0) (I_ ((nth t1.Right.Slots t2).Node)) sc_3 q .at q q q ?_
  refine r_lss q q q <| Rm (ABool (decide ((nth t1.Right.Slots t2).Node < 0))) q q <| R_if (fun h2 => ?_) (fun h2 => ?_)
  · refine Rk (g_fn q q (dt h2)) <| Rk (g_fn q q (dt h2)) <| Rk (g_fn q q (dt h2)) <| Rk (g_fn q q (dt h2)) <| Rk (g_fn q q (dt h2)) <| Rk (g_fn q q (dt h2)) <| Rk (g_fn q q (dt h2)) <| Rk (g_fn q q (dt h2)) <| r_pickT (ABool true) q (dt h2) q q <| R0 ?_
    exact J_cond_T q q <| Jq q <| Ra (I_ 6) q q <| Rt hΨ q q q
  refine r_faO (AObj 0) 0 fo_156_0 q .obj q q (g_f q q (df h2)) <| r_ldO (ABoxAt 0 0) (I_ ((nth t1.Right.Slots t2).Node)) sc_3 q .at q q (g_f q q (df h2)) <| r_faT (c_api_Pattern t1.Right) fo_41_2 q q (g_f q q (df h2)) <| r_faT (c_api_Graph t1.Right.Graph) fo_33_0 q q (g_f q q (df h2)) <| r_faT ((cL 1 c_i64) t1.Right.Graph.Nodes) fo_29_0 q q (g_f q q (df h2)) <| r_ld (AL 1 c_i64 t1.Right.Graph.Nodes) sc_26 q q (g_f q q (df h2)) <| r_len (cc := c_i64) il_26 q (g_f q q (df h2)) <| r_geq q q (g_f q q (df h2)) <| r_pickF (ABool (decide ((t1.Right.Graph.Nodes.length : Int) ≤ (nth t1.Right.Slots t2).Node))) q (df h2) q q <| R0 ?_
  refine J_cond_p q (fun h3 => ?_) (fun h3 => ?_)
  · exact Jq q <| Ra (I_ 6) q q <| Rt hΨ q q q
  refine J_skip <| Js <| J_draw <| r_lda (c_api_Types t0) ag_25 q q q q <| r_faT (c_api_Pattern t1.Right) fo_41_2 q q q <| r_faT (c_api_Graph t1.Right.Graph) fo_33_0 q q q <| r_faT ((cL 1 c_i64) t1.Right.Graph.Nodes) fo_29_0 q q q <| r_ld (AL 1 c_i64 t1.Right.Graph.Nodes) sc_26 q q q <| r_faO (AObj 0) 0 fo_156_0 q .obj q q q <| r_ldO (ABoxAt 0 0) (I_ ((nth t1.Right.Slots t2).Node)) sc_3 q .at q q q ?_
  refine R_if (fun h4 => ?_) (fun _ => R_none)
  refine r_ix (cc := c_i64) el_26 q q h4.1 h4.2 q <| r_ld (I_ (nth t1.Right.Graph.Nodes ((nth t1.Right.Slots t2).Node))) sc_3 q q q <| R_bind fun b5 h6 => r_call _ fn_223 (k_types_Attrs _ _ _ h6) q q <| Rm (ATup [AL 4 c_api_Attr b5.1, I_ b5.2]) q q <| r_ext (AL 4 c_api_Attr b5.1) q q q <| r_ext (I_ b5.2) q q q <| Ra (AL 4 c_api_Attr b5.1) q q <| Ra (I_ b5.2) q q <| R_nilD (by kernel_rfl) ?_
  refine Jq q <| r_faO (AObj 0) 2 fo_156_2 q .obj q q q <| r_ldaO (ABoxAt 0 2) (c_api_Term ((nth t1.Right.Slots t2).Term)) ag_154 q .at q q q q <| r_alloc 1 _ z_154 q q <| r_stO (AObj 1) (AAgg (c_api_Term ((nth t1.Right.Slots t2).Term))) (c_api_Term ((nth t1.Right.Slots t2).Term)) sz_154 q .obj q q q q q q <| R0 <| Js <| Jq q ?_
  refine r_faO (AObj 0) 1 fo_156_1 q .obj q q q <| r_ldO (ABoxAt 0 1) (I_ ((nth t1.Right.Slots t2).Attr)) sc_3 q .at q q q <| r_lss q q q <| Rm (ABool (decide ((nth t1.Right.Slots t2).Attr < 0))) q q <| R_if (fun h7 => ?_) (fun h7 => ?_)
  · refine Rk (g_fn q q (dt h7)) <| Rk (g_fn q q (dt h7)) <| Rk (g_fn q q (dt h7)) <| Rk (g_fn q q (dt h7)) <| Rk (g_fn q q (dt h7)) <| r_pickT (ABool true) q (dt h7) q q <| Rm (ABool true) q q <| Rk (g_fn q q q) <| Rk (g_fn q q q) <| Rk (g_fn q q q) ?_
    refine r_pickT (ABool true) q q q q <| Rm (ABool true) q q <| Rk (g_fn q q q) <| Rk (g_fn q q q) <| Rk (g_fn q q q) <| Rk (g_fn q q q) <| Rk (g_fn q q q) <| Rk (g_fn q q q) <| r_pickT (ABool true) q q q q <| Rm (ABool true) q q ?_
    refine Rk (g_fn q q q) <| Rk (g_fn q q q) <| Rk (g_fn q q q) <| r_pickT (ABool true) q q q q <| Rm (ABool true) q q <| Rk (g_fn q q q) <| Rk (g_fn q q q) <| Rk (g_fn q q q) <| r_pickT (ABool true) q q q q <| R0 ?_
    exact J_cond_T q q <| Jq q <| Ra (I_ 6) q q <| Rt hΨ q q q
  refine r_faO (AObj 0) 1 fo_156_1 q .obj q q (g_f q q (df h7)) <| r_ldO (ABoxAt 0 1) (I_ ((nth t1.Right.Slots t2).Attr)) sc_3 q .at q q (g_f q q (df h7)) <| Rm (AL 4 c_api_Attr b5.1) q (g_f q q (df h7)) <| r_len (cc := c_api_Attr) il_95 q (g_f q q (df h7)) <| r_geq q q (g_f q q (df h7)) <| r_pickF (ABool (decide ((b5.1.length : Int) ≤ (nth t1.Right.Slots t2).Attr))) q (df h7) q q <| Rm (ABool (decide ((b5.1.length : Int) ≤ (nth t1.Right.Slots t2).Attr))) q q <| R_if (fun h8 => ?_) (fun h8 => ?_)
  · refine Rk (g_fn q q (dt h8)) <| Rk (g_fn q q (dt h8)) <| Rk (g_fn q q (dt h8)) <| r_pickT (ABool true) q (dt h8) q q <| Rm (ABool true) q q <| Rk (g_fn q q q) <| Rk (g_fn q q q) <| Rk (g_fn q q q) <| Rk (g_fn q q q) <| Rk (g_fn q q q) ?_
    refine Rk (g_fn q q q) <| r_pickT (ABool true) q q q q <| Rm (ABool true) q q <| Rk (g_fn q q q) <| Rk (g_fn q q q) <| Rk (g_fn q q q) <| r_pickT (ABool true) q q q q <| Rm (ABool true) q q <| Rk (g_fn q q q) <| Rk (g_fn q q q) ?_
    exact Rk (g_fn q q q) <| r_pickT (ABool true) q q q q <| R0 <| J_cond_T q q <| Jq q <| Ra (I_ 6) q q <| Rt hΨ q q q
  refine r_faO (AObj 1) 0 fo_154_0 q .obj q q (g_f q q (df h8)) <| r_ldO (ABoxAt 1 0) (I_ (((nth t1.Right.Slots t2).Term).Var)) sc_3 q .at q q (g_f q q (df h8)) <| r_lss q q (g_f q q (df h8)) <| r_pickF (ABool (decide (((nth t1.Right.Slots t2).Term).Var < (-1)))) q (df h8) q q <| Rm (ABool (decide (((nth t1.Right.Slots t2).Term).Var < (-1)))) q q <| R_if (fun h9 => ?_) (fun h9 => ?_)
  · refine Rk (g_fn q q (dt h9)) <| Rk (g_fn q q (dt h9)) <| Rk (g_fn q q (dt h9)) <| Rk (g_fn q q (dt h9)) <| Rk (g_fn q q (dt h9)) <| Rk (g_fn q q (dt h9)) <| r_pickT (ABool true) q (dt h9) q q <| Rm (ABool true) q q <| Rk (g_fn q q q) <| Rk (g_fn q q q) ?_
    refine Rk (g_fn q q q) <| r_pickT (ABool true) q q q q <| Rm (ABool true) q q <| Rk (g_fn q q q) <| Rk (g_fn q q q) <| Rk (g_fn q q q) <| r_pickT (ABool true) q q q q <| R0 <| J_cond_T q q <| Js ?_
    exact Jr q <| Ra (I_ 6) q q <| Rt hΨ q q q
  refine r_faO (AObj 1) 0 fo_154_0 q .obj q q (g_f q q (df h9)) <| r_ldO (ABoxAt 1 0) (I_ (((nth t1.Right.Slots t2).Term).Var)) sc_3 q .at q q (g_f q q (df h9)) <| r_faT (c_api_Pattern t1.Right) fo_41_2 q q (g_f q q (df h9)) <| r_faT (c_i64 t1.Right.Vars) fo_33_2 q q (g_f q q (df h9)) <| r_ld (I_ t1.Right.Vars) sc_3 q q (g_f q q (df h9)) <| r_geq q q (g_f q q (df h9)) <| r_pickF (ABool (decide (t1.Right.Vars ≤ ((nth t1.Right.Slots t2).Term).Var))) q (df h9) q q <| Rm (ABool (decide (t1.Right.Vars ≤ ((nth t1.Right.Slots t2).Term).Var))) q q <| R_if (fun h10 => ?_) (fun h10 => ?_)
  · refine Rk (g_fn q q (dt h10)) <| Rk (g_fn q q (dt h10)) <| Rk (g_fn q q (dt h10)) <| r_pickT (ABool true) q (dt h10) q q <| Rm (ABool true) q q <| Rk (g_fn q q q) <| Rk (g_fn q q q) <| Rk (g_fn q q q) <| r_pickT (ABool true) q q q q <| R0 ?_
    exact J_cond_T q q <| Jq q <| Ra (I_ 6) q q <| Rt hΨ q q q
  refine r_faO (AObj 1) 1 fo_154_1 q .obj q q (g_f q q (df h10)) <| r_ldO (ABoxAt 1 1) (I_ (((nth t1.Right.Slots t2).Term).Add)) sc_3 q .at q q (g_f q q (df h10)) <| r_lss q q (g_f q q (df h10)) <| r_pickF (ABool (decide (((nth t1.Right.Slots t2).Term).Add < (-1000000)))) q (df h10) q q <| Rm (ABool (decide (((nth t1.Right.Slots t2).Term).Add < (-1000000)))) q q <| R_if (fun h11 => ?_) (fun h11 => ?_)
  · refine Rk (g_fn q q (dt h11)) <| Rk (g_fn q q (dt h11)) <| Rk (g_fn q q (dt h11)) <| r_pickT (ABool true) q (dt h11) q q <| R0 <| J_cond_T q q <| Jq q <| Ra (I_ 6) q q <| R0 ?_
    exact Jt hΨ (Res_one q) q q
  refine r_faO (AObj 1) 1 fo_154_1 q .obj q q (g_f q q (df h11)) <| r_ldO (ABoxAt 1 1) (I_ (((nth t1.Right.Slots t2).Term).Add)) sc_3 q .at q q (g_f q q (df h11)) <| r_gtr q q (g_f q q (df h11)) <| r_pickF (ABool (decide (1000000 < ((nth t1.Right.Slots t2).Term).Add))) q (df h11) q q <| R0 <| J_cond_p q (fun h12 => ?_) (fun h12 => ?_)
  · exact Jq q <| Ra (I_ 6) q q <| Rt hΨ q q q
  refine J_skip <| Js <| Js <| J_cv [0] [] [] 0 [(2, I_ t2), (4, APtr (c_api_Rule t1)), (6, I_ 0), (7, APtr (c_api_Slot (nth t1.Right.Slots t2))), (14, I_ t2), (18, I_ ((nth t1.Right.Slots t2).Node)), (22, I_ ((nth t1.Right.Slots t2).Node)), (27, I_ (t1.Right.Graph.Nodes.length : Int)), (37, I_ ((nth t1.Right.Slots t2).Node)), (46, I_ ((nth t1.Right.Slots t2).Attr)), (50, I_ ((nth t1.Right.Slots t2).Attr)), (52, I_ (b5.1.length : Int)), (57, I_ (((nth t1.Right.Slots t2).Term).Var)), (62, I_ (((nth t1.Right.Slots t2).Term).Var)), (65, I_ t1.Right.Vars), (70, I_ (((nth t1.Right.Slots t2).Term).Add)), (75, I_ (((nth t1.Right.Slots t2).Term).Add))] [] (.same q (.same q (.same q (.cons (A := AObj 0) q (.fbox q q (.cons .same (.cons .same (.cons .same (.cons .same .nil))))) (.same q (.same q (.same q (.same q (.same q (.same q (.same q (.same q (.same q (.same q (.same q (.same q (.same q .nil))))))))))))))))) .nil q q <| Jr q <| r_faT (c_api_Pattern t1.Right) fo_41_2 q q q <| r_faT ((cL 4 c_api_Slot) t1.Right.Slots) fo_33_1 q q q <| r_ld (AL 4 c_api_Slot t1.Right.Slots) sc_30 q q q <| Rm (I_ t2) q q <| R_if (fun h14 => ?_) (fun _ => R_none)
  refine r_cut (cc := c_api_Slot) 0 t2 el_30 q lo_n (hi_s q) h14.1 h14.2.1 h14.2.2 q <| r_mkFn [APtr (c_api_Slot (nth t1.Right.Slots t2))] (fun x => [AAgg (c_api_Slot x)]) (fun y => ABool y) (fun x => rule_slot_1 x (nth t1.Right.Slots t2)) fn_229 q (fun x y h => k_rule_slot_1 x (nth t1.Right.Slots t2) y h) q <| R_bind fun b15 h16 => r_call _ fn_228 (k_slices_ContainsFunc_api_Slot _ _ _ h16) q q <| R0 <| J_cond q (fun h17 => ?_) (fun h17 => ?_)
  · exact Jq q <| Ra (I_ 5) q q <| Rt hΨ q q q
  exact J_skip <| Jq q <| Ra (I_ 0) q q <| Rt hΨ q q q
theorem k_rule_right (t0 : api_Types) (t1 : api_Rule) (r : Int) (hr : rule_right t0 t1 = some r) : FnP PP 152 [AAgg (c_api_Types t0), AAgg (c_api_Rule t1)] (I_ r) := by
  refine Fo (fun (r : Int) => I_ r) Tryz.func152 q (n := 58) q q hr fun X hΨ => ?_
  refine Jq q <| r_boxV (AAgg (c_api_Types t0)) q q <| r_boxV (AAgg (c_api_Rule t1)) q q <| Ra (I_ 0) q q <| R0 <| Js <| Jq q <| r_faT (c_api_Pattern t1.Right) fo_41_2 q q q ?_
  refine r_faT (c_api_Graph t1.Right.Graph) fo_33_0 q q q <| r_lda (c_api_Graph t1.Right.Graph) ag_29 q q q q <| R_bind fun b1 h2 => r_call _ fn_86 (k_graph_Valid _ _ h2) q q <| Ra (I_ b1) q q <| R0 <| Jq q <| Rm (I_ b1) q q <| r_neq q q q ?_
  refine R0 <| J_cond_p q (fun h3 => ?_) (fun h3 => ?_)
  · exact Jq q <| Rm (I_ b1) q q <| Ra (I_ b1) q q <| Rt hΨ q q q
  refine J_skip <| Js <| J_block <| Jq q <| r_lda (c_api_Types t0) ag_25 q q q q <| r_faT (c_api_Pattern t1.Right) fo_41_2 q q q <| r_faT (c_api_Graph t1.Right.Graph) fo_33_0 q q q <| r_lda (c_api_Graph t1.Right.Graph) ag_29 q q q q <| R_bind fun b4 h5 => ?_
  refine r_call _ fn_190 (k_rule_typed _ _ _ h5) q q <| r_not q q <| Ra (ABool (!b4)) q q <| R0 <| J_cond q (fun h6 => ?_) (fun h6 => ?_)
  · exact Jq q <| Ra (I_ 13) q q <| Rt hΨ q q q
  refine Jq q <| r_faT (c_api_Pattern t1.Right) fo_41_2 q q q <| r_faT (c_i64 t1.Right.Vars) fo_33_2 q q q <| r_ld (I_ t1.Right.Vars) sc_3 q q q <| r_faT (c_api_Pattern t1.Left) fo_41_1 q q q <| r_faT (c_i64 t1.Left.Vars) fo_33_2 q q q <| r_ld (I_ t1.Left.Vars) sc_3 q q q <| r_neq q q q <| Rm (ABool (decide (¬ (t1.Right.Vars = t1.Left.Vars)))) q q ?_
  refine R_if (fun h7 => ?_) (fun h7 => ?_)
  · refine Rk (g_fn q q (dt h7)) <| Rk (g_fn q q (dt h7)) <| Rk (g_fn q q (dt h7)) <| Rk (g_fn q q (dt h7)) <| Rk (g_fn q q (dt h7)) <| r_pickT (ABool true) q (dt h7) q q <| Ra (ABool true) q q <| R0 <| J_cond_T q q <| Js ?_
    exact Jr q <| Ra (I_ 1) q q <| Rt hΨ q q q
  refine r_faT (c_api_Pattern t1.Right) fo_41_2 q q (g_f q q (df h7)) <| r_faT ((cL 5 c_api_Test) t1.Right.Tests) fo_33_3 q q (g_f q q (df h7)) <| r_ld (AL 5 c_api_Test t1.Right.Tests) sc_31 q q (g_f q q (df h7)) <| r_len (cc := c_api_Test) il_31 q (g_f q q (df h7)) <| r_gtr q q (g_f q q (df h7)) <| r_pickF (ABool (decide (0 < (t1.Right.Tests.length : Int)))) q (df h7) q q <| Ra (ABool (decide (0 < (t1.Right.Tests.length : Int)))) q q <| R0 <| J_cond_p q (fun h8 => ?_) (fun h8 => ?_)
  · exact Jq q <| Ra (I_ 1) q q <| Rt hΨ q q q
  refine Jq q <| r_faT (c_api_Pattern t1.Right) fo_41_2 q q q <| r_faT ((cL 4 c_api_Slot) t1.Right.Slots) fo_33_1 q q q <| r_ld (AL 4 c_api_Slot t1.Right.Slots) sc_30 q q q <| r_len (cc := c_api_Slot) il_30 q q <| r_gtr q q q <| Ra (ABool (decide (10 < (t1.Right.Slots.length : Int)))) q q <| R0 <| J_cond_p q (fun h9 => ?_) (fun h9 => ?_)
  · exact Jq q <| Ra (I_ 3) q q <| Rt hΨ q q q
  refine J_skip <| J_inBlock <| Js <| Jq q <| r_faT (c_api_Pattern t1.Right) fo_41_2 q q q <| r_faT ((cL 4 c_api_Slot) t1.Right.Slots) fo_33_1 q q q <| r_ld (AL 4 c_api_Slot t1.Right.Slots) sc_30 q q q <| r_len (cc := c_api_Slot) il_30 q q <| Rm (I_ 0) q q ?_
  refine R0 <| J_block <| Jl (fun x10 => [(2, APtr (c_api_Types t0)), (3, APtr (c_api_Rule t1)), (4, I_ 0), (5, I_ b1), (11, I_ b1), (12, I_ b1), (25, I_ t1.Right.Vars), (28, I_ t1.Left.Vars), (34, I_ (t1.Right.Tests.length : Int)), (41, I_ (t1.Right.Slots.length : Int)), (46, I_ (t1.Right.Slots.length : Int)), (47, I_ x10)]) (.c6 q q q q q q (.c6 q q q q q q .nil)) (fun E11 hE11 x10 => ?_)
  refine Jq q <| r_lss q q q <| R0 <| Js <| J_cond_p q (fun h16 => ?_) (fun h16 => ?_)
  rotate_left
  · exact J_exit q <| J_outS <| Jq q <| Ra (I_ 0) q q <| Rt hΨ q q q
  refine J_skip <| Js <| J_block <| Jq q <| Rm (I_ x10) q q <| Ra (I_ x10) q q <| R0 <| Jq q ?_
  refine r_lda (c_api_Types t0) ag_25 q q q q <| r_lda (c_api_Rule t1) ag_41 q q q q <| Rm (I_ x10) q q <| R_bind fun b17 h18 => r_call _ fn_191 (k_rule_slot _ _ _ _ h18) q q <| Ra (I_ b17) q q <| R0 <| Jq q <| Rm (I_ b17) q q ?_
  refine r_neq q q q <| R0 <| J_cond_p q (fun h19 => ?_) (fun h19 => ?_)
  · exact Jq q <| Rm (I_ b17) q q <| Ra (I_ b17) q q <| R0 <| J_outS <| Jt hΨ (Res_one q) q q
  exact J_skip <| J_inBlock <| J_range 41 (m := (t1.Right.Slots.length : Int)) q fun q20 => J_range 6 (m := x10) q fun q21 => Jr q <| r_add (x10 + 1) q q (wrap_i64 (by omega) (by omega)) q <| Rm (I_ (x10 + 1)) q q <| R0 <| J_go <| Jk (hE11 (x10 + 1)) (.c6 q q q q q q (.c6 q q q q q q .nil))
theorem k_slices_Clone_int (t0 : (List Int)) (r : (List Int)) (hr : slices_Clone_int t0 = some r) : FnK PP 20 0 [] [AL 1 c_i64 t0] [(0, .row 3 1 (r.map c_i64))] (AObj 0) := by
  refine Ko (fun (r : (List Int)) => [(0, .row 3 1 (r.map c_i64))]) (fun (r : (List Int)) => AObj 0) Tryz.func20 q (n := 8) q (KBL.cons inferInstance (inferInstance : KBL 0 [])).kb (InsOk.spec .nil) q hr fun X hΨ => ?_
  refine Jq q <| Ra (ANil) q q <| R0 <| Js <| Jq q <| Rm (AL 1 c_i64 t0) q q <| r_eqNil (cc := c_i64) ut_26 q q q <| R0 ?_
  refine J_condNil q (fun h2 => ?_) ?_
  · obtain rfl := List.eq_nil_of_length_eq_zero h2
    exact Jq q <| Ra (ANil) q q <| R0 <| J_retK hΨ (Res_box q (.tmp (A := ANil) q)) [] [] [0] q (fun y hy => by unfold slices_Clone_int at hy; simp at hy; subst hy; exact ⟨(.new q q .nil), (.nilobj q q)⟩)
  refine J_skip <| Jq q <| r_bs0 0 el_26 q q <| Rm (AL 1 c_i64 t0) q q <| R_if (fun h1 => ?_) (fun _ => R_none)
  exact r_app0 (cc := c_i64) (ys := t0) 1 ap_26 q q q h1 q q q <| Ra (AObj 1) q q <| R0 <| J_retK hΨ (Res_box q (.tmp (A := AObj 1) q)) [] [(0, 1)] [] q (fun y hy => by cases hy; exact ⟨(.cons q q q q (.row (NKC.flat _ _)) q q .nil), (.obj q q q)⟩)
theorem k_subgraph_list (t0 : (List Int)) (t1 : Int) (r : Int) (hr : subgraph_list t0 t1 = some r) : FnP PP 252 [AL 1 c_i64 t0, I_ t1] (I_ r) := by
  refine Fo (fun (r : Int) => I_ r) Tryz.func252 q (n := 33) q q hr fun X hΨ => ?_
  refine Jq q <| Ra (I_ 0) q q <| R0 <| Js <| Jq q <| Rm (AL 1 c_i64 t0) q q <| r_len (cc := c_i64) il_26 q q <| Rm (I_ 0) q q ?_
  refine R0 <| J_block <| Jl (fun x1 => [(0, AL 1 c_i64 t0), (1, I_ t1), (7, AL 1 c_i64 t0), (8, I_ (t0.length : Int)), (9, I_ x1)]) (.c2 q q (.c3 q q q .nil)) (fun E2 hE2 x1 => ?_)
  refine Jq q <| r_lss q q q <| R0 <| Js <| J_cond_p q (fun h12 => ?_) (fun h12 => ?_)
  rotate_left
  · exact J_exit q <| J_outS <| Jq q <| Ra (I_ 0) q q <| Rt hΨ q q q
  refine J_skip <| Js <| J_block <| Jq q <| Rm (I_ x1) q q <| R_if (fun h13 => ?_) (fun _ => R_none)
  refine r_ix (cc := c_i64) el_26 q q h13.1 h13.2 q <| r_ld (I_ (nth t0 x1)) sc_3 q q q <| Ra (I_ x1) q q <| Ra (I_ (nth t0 x1)) q q <| R0 <| Js <| Jq q <| Rm (I_ (nth t0 x1)) q q <| r_lss q q q ?_
  refine Rm (ABool (decide ((nth t0 x1) < 0))) q q <| R_if (fun h14 => ?_) (fun h14 => ?_)
  · refine Rk (g_fn q q (dt h14)) <| Rk (g_fn q q (dt h14)) <| Rk (g_fn q q (dt h14)) <| r_pickT (ABool true) q (dt h14) q q <| R0 <| J_cond_T q q <| Jq q <| Ra (I_ 6) q q <| R0 ?_
    exact J_outS <| Jt hΨ (Res_one q) q q
  refine Rm (I_ (nth t0 x1)) q (g_f q q (df h14)) <| Rm (I_ t1) q (g_f q q (df h14)) <| r_geq q q (g_f q q (df h14)) <| r_pickF (ABool (decide (t1 ≤ (nth t0 x1)))) q (df h14) q q <| R0 <| J_cond_p q (fun h15 => ?_) (fun h15 => ?_)
  · exact Jq q <| Ra (I_ 6) q q <| R0 <| J_outS <| Jt hΨ (Res_one q) q q
  refine J_skip <| Js ?_
  apply J_joinA (fun v20 => ⟨fr [(0, AL 1 c_i64 t0), (1, I_ t1), (5, I_ x1), (6, I_ (nth t0 x1)), (7, AL 1 c_i64 t0), (8, I_ (t0.length : Int)), (9, I_ x1), (11, I_ x1), (13, I_ (nth t0 x1)), (14, I_ (nth t0 x1)), (17, I_ (nth t0 x1)), (18, I_ t1), (21, I_ x1)], fun _ => none, 0⟩) (fun v20 => subgraph_list_j20 x1 v20)
  · intro K21
    refine J_range 5 (m := x1) q fun q17 => Jr q <| Rm (I_ x1) q q <| r_gtr q q q <| Rm (ABool (decide (0 < x1))) q q <| R_if (fun h16 => ?_) (fun h16 => ?_)
    rotate_left
    · refine Rk (g_tn q q (df h16)) <| Rk (g_tn q q (df h16)) <| Rk (g_tn q q (df h16)) <| Rk (g_tn q q (df h16)) <| Rk (g_tn q q (df h16)) <| Rk (g_tn q q (df h16)) <| Rk (g_tn q q (df h16)) <| r_pickF (ABool false) q (df h16) q q <| R0 <| J_cond_F q q ?_
      exact Jk (K21 ()) (.cons q (.c6 q q q q q q (.c6 q q q q q q .nil)))
    refine Rm (I_ (nth t0 x1)) q (g_t q q (dt h16)) <| Rm (AL 1 c_i64 t0) q (g_t q q (dt h16)) <| Rm (I_ x1) q (g_t q q (dt h16)) <| r_sub (x1 - 1) q q (wrap_i64 (by omega) (by omega)) (g_t q q (dt h16)) <| R_if (fun h18 => ?_) (fun _ => R_none)
    refine r_ix (cc := c_i64) el_26 q q h18.1 h18.2 (g_t q q (dt h16)) <| r_ld (I_ (nth t0 (x1 - 1))) sc_3 q q (g_t q q (dt h16)) <| r_leq q q (g_t q q (dt h16)) <| r_pickT (ABool (decide ((nth t0 x1) ≤ (nth t0 (x1 - 1))))) q (dt h16) q q <| R0 <| J_cond_p q (fun h19 => ?_) (fun h19 => ?_)
    rotate_left
    · exact Jk (K21 ()) (.cons q (.c6 q q q q q q (.c6 q q q q q q .nil)))
    exact Jq q <| Ra (I_ 12) q q <| R0 <| J_outS <| Jt hΨ (Res_one q) q q
  intro v20
  exact J_skip <| J_inBlock <| J_range 8 (m := (t0.length : Int)) q fun q22 => J_range 5 (m := x1) q fun q23 => Jr q <| r_add (x1 + 1) q q (wrap_i64 (by omega) (by omega)) q <| Rm (I_ (x1 + 1)) q q <| R0 <| J_go <| Jk (hE2 (x1 + 1)) (.c2 q q (.c3 q q q .nil))
theorem k_cmp_isNaN_int (t0 : Int) (r : Bool) (hr : cmp_isNaN_int t0 = some r) : FnP PP 254 [I_ t0] (ABool r) := by
  refine Fo (fun (r : Bool) => ABool r) Tryz.func254 q (n := 6) q q hr fun X hΨ => ?_
  refine Jq q <| Ra (ABool false) q q <| R0 <| Jq q <| Rm (I_ t0) q q <| Rm (I_ t0) q q <| r_neq q q q <| Ra (ABool (decide (¬ (t0 = t0)))) q q ?_
  exact Rt hΨ q q q
theorem k_cmp_Less_int (t0 : Int) (t1 : Int) (r : Bool) (hr : cmp_Less_int t0 t1 = some r) : FnP PP 243 [I_ t0, I_ t1] (ABool r) := by
  refine Fo (fun (r : Bool) => ABool r) Tryz.func243 q (n := 17) q q hr fun X hΨ => ?_
  refine Jq q <| Ra (ABool false) q q <| R0 <| Jq q <| Rm (I_ t0) q q <| R_bind fun b1 h2 => r_call _ fn_254 (k_cmp_isNaN_int _ _ h2) q q <| Rm (ABool b1) q q ?_
  refine R_if (fun h3 => ?_) (fun h3 => ?_)
  rotate_left
  · refine Rk (g_tn q q (bf h3)) <| Rk (g_tn q q (bf h3)) <| Rk (g_tn q q (bf h3)) <| r_pickF (ABool false) q (bf h3) q q <| Rm (ABool false) q q <| Rm (I_ t0) q (g_f q q q) <| Rm (I_ t1) q (g_f q q q) <| r_lss q q (g_f q q q) <| r_pickF (ABool (decide (t0 < t1))) q q q q <| Ra (ABool (decide (t0 < t1))) q q ?_
    exact Rt hΨ q q q
  refine Rm (I_ t1) q (g_t q q h3) <| R_bind fun b4 h5 => r_call _ fn_254 (k_cmp_isNaN_int _ _ h5) q (g_t q q h3) <| r_not q (g_t q q h3) <| r_pickT (ABool (!b4)) q h3 q q <| Rm (ABool (!b4)) q q <| R_if (fun h6 => ?_) (fun h6 => ?_)
  · exact Rk (g_fn q q h6) <| Rk (g_fn q q h6) <| Rk (g_fn q q h6) <| r_pickT (ABool true) q h6 q q <| Ra (ABool true) q q <| Rt hΨ q q q
  exact Rm (I_ t0) q (g_f q q (bf h6)) <| Rm (I_ t1) q (g_f q q (bf h6)) <| r_lss q q (g_f q q (bf h6)) <| r_pickF (ABool (decide (t0 < t1))) q (bf h6) q q <| Ra (ABool (decide (t0 < t1))) q q <| Rt hΨ q q q
theorem k_slices_isNaN_int (t0 : Int) (r : Bool) (hr : slices_isNaN_int t0 = some r) : FnP PP 244 [I_ t0] (ABool r) := by
  refine Fo (fun (r : Bool) => ABool r) Tryz.func244 q (n := 6) q q hr fun X hΨ => ?_
  refine Jq q <| Ra (ABool false) q q <| R0 <| Jq q <| Rm (I_ t0) q q <| Rm (I_ t0) q q <| r_neq q q q <| Ra (ABool (decide (¬ (t0 = t0)))) q q ?_
  exact Rt hΨ q q q
theorem k_slices_BinarySearch_int (t0 : (List Int)) (t1 : Int) (r : Int × Bool) (hr : slices_BinarySearch_int t0 t1 = some r) : FnP PP 231 [AL 1 c_i64 t0, I_ t1] (ATup [I_ r.1, ABool r.2]) := by
  refine Fo (fun (r : Int × Bool) => ATup [I_ r.1, ABool r.2]) Tryz.func231 q (n := 54) q q hr fun X hΨ => ?_
  refine Jq q <| Ra (I_ 0) q q <| Ra (ABool false) q q <| R0 <| Jq q <| Rm (AL 1 c_i64 t0) q q <| r_len (cc := c_i64) il_26 q q <| Ra (I_ (t0.length : Int)) q q ?_
  refine R0 <| Jq q <| Rm (I_ (t0.length : Int)) q q <| Ra (I_ 0) q q <| Ra (I_ (t0.length : Int)) q q <| R0 <| Js <| J_block <| Jl (fun x1 => [(0, AL 1 c_i64 t0), (1, I_ t1), (6, I_ (t0.length : Int)), (7, I_ x1.1), (8, I_ x1.2)]) (.c2 q q (.c3 q q q .nil)) (fun E2 hE2 x1 => ?_)
  refine Js <| Jq q <| Rm (I_ x1.1) q q <| Rm (I_ x1.2) q q <| r_lss q q q <| R0 <| J_cond_p q (fun h20 => ?_) (fun h20 => ?_)
  · refine J_skip <| J_block <| Jq q <| Rm (I_ x1.1) q q <| Rm (I_ x1.2) q q <| R_bind fun b21 h22 => r_add b21 q q (Option.some.inj h22) q <| R_bind fun b23 h24 => r_convW b23 us_3 ut_251 q (Option.some.inj h24) q ?_
    refine R_bind fun b25 h26 => r_shr b25 q q (by decide) (Option.some.inj h26) q <| R_bind fun b27 h28 => r_convW b27 us_251 ut_3 q (Option.some.inj h28) q <| Ra (I_ b27) q q <| R0 <| Jq q <| Rm (AL 1 c_i64 t0) q q <| Rm (I_ b27) q q ?_
    refine R_if (fun h29 => ?_) (fun _ => R_none)
    refine r_ix (cc := c_i64) el_26 q q h29.1 h29.2 q <| r_ld (I_ (nth t0 b27)) sc_3 q q q <| Rm (I_ t1) q q <| R_bind fun b30 h31 => r_call _ fn_243 (k_cmp_Less_int _ _ _ h31) q q <| R0 ?_
    apply J_joinA (fun v35 => ⟨fr [(0, AL 1 c_i64 t0), (1, I_ t1), (6, I_ (t0.length : Int)), (7, I_ v35.1), (8, I_ v35.2), (9, I_ b27), (13, I_ x1.1), (14, I_ x1.2), (16, I_ x1.1), (17, I_ x1.2), (21, I_ b27), (23, I_ b27)], fun _ => none, 0⟩) (fun v35 => slices_BinarySearch_int_j35 v35)
    · intro K36
      refine J_cond q (fun h32 => ?_) (fun h32 => ?_)
      rotate_left
      · exact Jr q <| Rm (I_ b27) q q <| Ra (I_ b27) q q <| R0 <| Jk (K36 (x1.1, b27)) (.c6 q q q q q q (.c6 q q q q q q .nil))
      exact Jr q <| Rm (I_ b27) q q <| R_bind fun b33 h34 => r_add b33 q q (Option.some.inj h34) q <| Ra (I_ b33) q q <| R0 <| Jk (K36 (b33, x1.2)) (.c6 q q q q q q (.c6 q q q q q q .nil))
    intro v35
    exact J_inBlock <| J_go <| Jk (hE2 (v35.1, v35.2)) (.c2 q q (.c3 q q q .nil))
  refine J_exit q <| J_out <| Jq q <| Rm (I_ x1.1) q q <| Rm (I_ x1.1) q q <| Rm (I_ (t0.length : Int)) q q <| r_lss q q q <| Rm (ABool (decide (x1.1 < (t0.length : Int)))) q q <| R_if (fun h37 => ?_) (fun h37 => ?_)
  rotate_left
  · refine Rk (g_tn q q (df h37)) <| Rk (g_tn q q (df h37)) <| Rk (g_tn q q (df h37)) <| Rk (g_tn q q (df h37)) <| Rk (g_tn q q (df h37)) <| Rk (g_tn q q (df h37)) <| Rk (g_tn q q (df h37)) <| Rk (g_u q q) <| Rk (g_u q q) <| Rk (g_u q q) ?_
    refine Rk (g_u q q) <| Rk (g_u q q) <| Rk (g_u q q) <| Rk (g_u q q) <| Rk (g_u q q) <| Rk (g_u q q) <| Rk (g_tn q q (df h37)) <| r_pickF (ABool false) q (df h37) q q <| Ra (I_ x1.1) q q <| Ra (ABool false) q q ?_
    exact R0 <| Jt hΨ (Res_many (As := [I_ x1.1, ABool false]) q q (.cons (.tmp (A := I_ x1.1) q) (.cons (.tmp (A := ABool false) q) .nil))) q q
  refine Rm (AL 1 c_i64 t0) q (g_t q q (dt h37)) <| Rm (I_ x1.1) q (g_t q q (dt h37)) <| R_if (fun h38 => ?_) (fun _ => R_none)
  refine r_ix (cc := c_i64) el_26 q q h38.1 h38.2 (g_t q q (dt h37)) <| r_ld (I_ (nth t0 x1.1)) sc_3 q q (g_t q q (dt h37)) <| Rm (I_ t1) q (g_t q q (dt h37)) <| r_eql q q (g_t q q (dt h37)) <| Rm (ABool (decide ((nth t0 x1.1) = t1))) q (g_t q q (dt h37)) <| R_if (fun h39 => ?_) (fun h39 => ?_)
  · refine Rk (g_fn q q (dt h39)) <| Rk (g_fn q q (dt h39)) <| Rk (g_fn q q (dt h39)) <| Rk (g_fn q q (dt h39)) <| Rk (g_fn q q (dt h39)) <| Rk (g_fn q q (dt h39)) <| Rk (g_u q q) <| Rk (g_u q q) <| Rk (g_fn q q (dt h39)) <| r_pickT (ABool true) q (dt h39) q (g_t q q (dt h37)) ?_
    exact r_pickT (ABool true) q (dt h37) q q <| Ra (I_ x1.1) q q <| Ra (ABool true) q q <| R0 <| Jt hΨ (Res_many (As := [I_ x1.1, ABool true]) q q (.cons (.tmp (A := I_ x1.1) q) (.cons (.tmp (A := ABool true) q) .nil))) q q
  refine Rm (AL 1 c_i64 t0) q (g_f q q (df h39)) <| Rm (I_ x1.1) q (g_f q q (df h39)) <| r_ix (cc := c_i64) el_26 q q h38.1 h38.2 (g_f q q (df h39)) <| r_ld (I_ (nth t0 x1.1)) sc_3 q q (g_f q q (df h39)) <| R_bind fun b40 h41 => r_call _ fn_244 (k_slices_isNaN_int _ _ h41) q (g_f q q (df h39)) <| Rm (ABool b40) q (g_f q q (df h39)) <| R_if (fun h42 => ?_) (fun h42 => ?_)
  rotate_left
  · exact Rk (g_tn q q (bf h42)) <| Rk (g_tn q q (bf h42)) <| r_pickF (ABool false) q (bf h42) q (g_f q q (df h39)) <| r_pickF (ABool false) q (df h39) q (g_t q q (dt h37)) <| r_pickT (ABool false) q (dt h37) q q <| Ra (I_ x1.1) q q <| Ra (ABool false) q q <| R0 <| Jt hΨ (Res_many (As := [I_ x1.1, ABool false]) q q (.cons (.tmp (A := I_ x1.1) q) (.cons (.tmp (A := ABool false) q) .nil))) q q
  exact Rm (I_ t1) q (g_t q q h42) <| R_bind fun b43 h44 => r_call _ fn_244 (k_slices_isNaN_int _ _ h44) q (g_t q q h42) <| r_pickT (ABool b43) q h42 q (g_f q q (df h39)) <| r_pickF (ABool b43) q (df h39) q (g_t q q (dt h37)) <| r_pickT (ABool b43) q (dt h37) q q <| Ra (I_ x1.1) q q <| Ra (ABool b43) q q <| R0 <| Jt hΨ (Res_many (As := [I_ x1.1, ABool b43]) q q (.cons (.tmp (A := I_ x1.1) q) (.cons (.tmp (A := ABool b43) q) .nil))) q q
theorem k_subgraph_has (t0 : (List Int)) (t1 : Int) (r : Bool) (hr : subgraph_has t0 t1 = some r) : FnP PP 253 [AL 1 c_i64 t0, I_ t1] (ABool r) := by
  refine Fo (fun (r : Bool) => ABool r) Tryz.func253 q (n := 14) q q hr fun X hΨ => ?_
  refine Jq q <| Ra (ABool false) q q <| R0 <| Jq q <| Rm (AL 1 c_i64 t0) q q <| Rm (I_ t1) q q <| R_bind fun b1 h2 => r_call _ fn_231 (k_slices_BinarySearch_int _ _ _ h2) q q ?_
  refine Rm (ATup [I_ b1.1, ABool b1.2]) q q <| r_ext (I_ b1.1) q q q <| r_ext (ABool b1.2) q q q <| Ra (I_ b1.1) q q <| Ra (ABool b1.2) q q <| R0 <| Jq q <| Rm (ABool b1.2) q q <| Ra (ABool b1.2) q q ?_
  exact Rt hΨ q q q
theorem k_subgraph_part (t0 : api_Graph) (t1 : api_Part) (r : Int) (hr : subgraph_part t0 t1 = some r) : FnP PP 242 [AAgg (c_api_Graph t0), AAgg (c_api_Part t1)] (I_ r) := by
  refine Fo (fun (r : Int) => I_ r) Tryz.func242 q (n := 57) q q hr fun X hΨ => ?_
  refine Jq q <| r_boxV (AAgg (c_api_Graph t0)) q q <| r_boxV (AAgg (c_api_Part t1)) q q <| Ra (I_ 0) q q <| R0 <| Js <| Jq q <| r_faT ((cL 1 c_i64) t1.Nodes) fo_35_0 q q q ?_
  refine r_ld (AL 1 c_i64 t1.Nodes) sc_26 q q q <| r_faT ((cL 1 c_i64) t0.Nodes) fo_29_0 q q q <| r_ld (AL 1 c_i64 t0.Nodes) sc_26 q q q <| r_len (cc := c_i64) il_26 q q <| R_bind fun b1 h2 => r_call _ fn_252 (k_subgraph_list _ _ _ h2) q q <| Ra (I_ b1) q q <| R0 <| Jq q ?_
  refine Rm (I_ b1) q q <| r_neq q q q <| R0 <| J_cond_p q (fun h3 => ?_) (fun h3 => ?_)
  · exact Jq q <| Rm (I_ b1) q q <| Ra (I_ b1) q q <| Rt hΨ q q q
  refine J_skip <| Js <| Jq q <| r_faT ((cL 1 c_i64) t1.Edges) fo_35_1 q q q <| r_ld (AL 1 c_i64 t1.Edges) sc_26 q q q <| r_faT ((cL 3 c_api_Edge) t0.Edges) fo_29_1 q q q <| r_ld (AL 3 c_api_Edge t0.Edges) sc_27 q q q <| r_len (cc := c_api_Edge) il_27 q q <| R_bind fun b4 h5 => ?_
  refine r_call _ fn_252 (k_subgraph_list _ _ _ h5) q q <| Ra (I_ b4) q q <| R0 <| Jq q <| Rm (I_ b4) q q <| r_neq q q q <| R0 <| J_cond_p q (fun h6 => ?_) (fun h6 => ?_)
  · exact Jq q <| Rm (I_ b4) q q <| Ra (I_ b4) q q <| Rt hΨ q q q
  refine J_skip <| Js <| Jq q <| r_faT ((cL 1 c_i64) t1.Edges) fo_35_1 q q q <| r_ld (AL 1 c_i64 t1.Edges) sc_26 q q q <| r_len (cc := c_i64) il_26 q q <| Rm (I_ 0) q q <| R0 <| J_block ?_
  refine Jl (fun x7 => [(2, APtr (c_api_Graph t0)), (3, APtr (c_api_Part t1)), (4, I_ 0), (5, I_ b1), (6, I_ b4), (14, I_ b1), (15, I_ b1), (23, I_ b4), (24, I_ b4), (28, AL 1 c_i64 t1.Edges), (29, I_ (t1.Edges.length : Int)), (30, I_ x7)]) (.c6 q q q q q q (.c6 q q q q q q .nil)) (fun E8 hE8 x7 => ?_)
  refine Jq q <| r_lss q q q <| R0 <| Js <| J_cond_p q (fun h18 => ?_) (fun h18 => ?_)
  rotate_left
  · exact J_exit q <| J_outS <| Jq q <| Ra (I_ 0) q q <| Rt hΨ q q q
  refine J_skip <| Js <| J_block <| Jq q <| R_if (fun h19 => ?_) (fun _ => R_none)
  refine r_ix (cc := c_i64) el_26 q q h19.1 h19.2 q <| r_ld (I_ (nth t1.Edges x7)) sc_3 q q q <| Ra (I_ (nth t1.Edges x7)) q q <| R0 <| Js <| J_draw <| r_faT ((cL 1 c_i64) t1.Nodes) fo_35_0 q q q <| r_ld (AL 1 c_i64 t1.Nodes) sc_26 q q q <| r_faT ((cL 3 c_api_Edge) t0.Edges) fo_29_1 q q q <| r_ld (AL 3 c_api_Edge t0.Edges) sc_27 q q q ?_
  refine Rm (I_ (nth t1.Edges x7)) q q <| R_if (fun h20 => ?_) (fun _ => R_none)
  refine r_ix (cc := c_api_Edge) el_27 q q h20.1 h20.2 q <| r_faT (c_i64 ((nth t0.Edges (nth t1.Edges x7)).From)) fo_77_1 q q q <| r_ld (I_ ((nth t0.Edges (nth t1.Edges x7)).From)) sc_3 q q q <| R_bind fun b21 h22 => r_call _ fn_253 (k_subgraph_has _ _ _ h22) q q <| r_not q q <| Rm (ABool (!b21)) q q <| R_if (fun h23 => ?_) (fun h23 => ?_)
  · refine Rk (g_fn q q h23) <| Rk (g_fn q q h23) <| Rk (g_fn q q h23) <| Rk (g_fn q q h23) <| Rk (g_fn q q h23) <| Rk (g_fn q q h23) <| Rk (g_fn q q h23) <| Rk (g_fn q q h23) <| Rk (g_fn q q h23) <| Rk (g_fn q q h23) ?_
    exact r_pickT (ABool true) q h23 q q <| R_nilD (by kernel_rfl) <| J_cond_T q q <| Jq q <| Ra (I_ 14) q q <| R0 <| J_outS <| Jt hΨ (Res_one q) q q
  refine r_faT ((cL 1 c_i64) t1.Nodes) fo_35_0 q q (g_f q q (bf h23)) <| r_ld (AL 1 c_i64 t1.Nodes) sc_26 q q (g_f q q (bf h23)) <| r_faT ((cL 3 c_api_Edge) t0.Edges) fo_29_1 q q (g_f q q (bf h23)) <| r_ld (AL 3 c_api_Edge t0.Edges) sc_27 q q (g_f q q (bf h23)) <| Rm (I_ (nth t1.Edges x7)) q (g_f q q (bf h23)) <| r_ix (cc := c_api_Edge) el_27 q q h20.1 h20.2 (g_f q q (bf h23)) <| r_faT (c_i64 ((nth t0.Edges (nth t1.Edges x7)).To)) fo_77_2 q q (g_f q q (bf h23)) <| r_ld (I_ ((nth t0.Edges (nth t1.Edges x7)).To)) sc_3 q q (g_f q q (bf h23)) <| R_bind fun b24 h25 => r_call _ fn_253 (k_subgraph_has _ _ _ h25) q (g_f q q (bf h23)) ?_
  refine r_not q (g_f q q (bf h23)) <| r_pickF (ABool (!b24)) q (bf h23) q q <| R_nilD (by kernel_rfl) <| J_cond q (fun h26 => ?_) (fun h26 => ?_)
  · exact Jq q <| Ra (I_ 14) q q <| R0 <| J_outS <| Jt hΨ (Res_one q) q q
  exact J_skip <| J_inBlock <| J_range 29 (m := (t1.Edges.length : Int)) q fun q27 => J_range 30 (m := x7) q fun q28 => Jr q <| r_add (x7 + 1) q q (wrap_i64 (by omega) (by omega)) q <| Rm (I_ (x7 + 1)) q q <| R0 <| J_go <| Jk (hE8 (x7 + 1)) (.c6 q q q q q q (.c6 q q q q q q .nil))
theorem k_subgraph_Valid (t0 : api_Graph) (t1 : api_Part) (r : Int) (hr : subgraph_Valid t0 t1 = some r) : FnP PP 230 [AAgg (c_api_Graph t0), AAgg (c_api_Part t1)] (I_ r) := by
  refine Fo (fun (r : Int) => I_ r) Tryz.func230 q (n := 14) q q hr fun X hΨ => ?_
  refine Jq q <| r_boxV (AAgg (c_api_Graph t0)) q q <| r_boxV (AAgg (c_api_Part t1)) q q <| Ra (I_ 0) q q <| R0 <| Js <| Jq q <| r_lda (c_api_Graph t0) ag_29 q q q q ?_
  refine R_bind fun b1 h2 => r_call _ fn_86 (k_graph_Valid _ _ h2) q q <| Ra (I_ b1) q q <| R0 <| Jq q <| Rm (I_ b1) q q <| r_neq q q q <| R0 <| J_cond_p q (fun h3 => ?_) (fun h3 => ?_)
  · exact Jq q <| Rm (I_ b1) q q <| Ra (I_ b1) q q <| Rt hΨ q q q
  exact J_skip <| Jq q <| r_lda (c_api_Graph t0) ag_29 q q q q <| r_lda (c_api_Part t1) ag_35 q q q q <| R_bind fun b4 h5 => r_call _ fn_242 (k_subgraph_part _ _ _ h5) q q <| Ra (I_ b4) q q <| Rt hΨ q q q
end Go.Proofs.YtngimdmkomkeoaaGreat.K
