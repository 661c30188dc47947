/- Each function computes what its plain form says. -/
import Derived.Test.YtpnfoacmgfklaaaGreatWalk1
set_option linter.unusedVariables false
set_option linter.unusedSimpArgs false
namespace Go.Proofs.YtpnfoacmgfklaaaGreat.K
open Go.RowKit Go.Proofs
set_option maxHeartbeats 4000000
set_option maxRecDepth 100000
theorem k_condition_wellFormed_b (q_condition_wellFormed : api_Condition → Option Bool) (hq_condition_wellFormed : ∀ (t0 : api_Condition) (r : Bool), q_condition_wellFormed t0 = some r → FnP PP 189 [AAgg (c_api_Condition t0)] (ABool r)) (q_condition_wellFormed_1 : api_Condition → Option Bool) (hq_condition_wellFormed_1 : ∀ (t0 : api_Condition) (r : Bool), q_condition_wellFormed_1 t0 = some r → FnP PP 245 [AAgg (c_api_Condition t0)] (ABool r)) (t0 : api_Condition) (r : Bool) (hr : condition_wellFormed_b q_condition_wellFormed q_condition_wellFormed_1 t0 = some r) : FnP PP 189 [AAgg (c_api_Condition t0)] (ABool r) := by
  refine FnP.of mixed_ Tryz.func189 rfl (n := 46) rfl (fun (r : Bool) => ABool r) nk_args NK.nk rfl hr fun X hΨ => ?_
  refine J_seq ?_
  refine J_region rfl ?_
  refine r_boxV (AAgg (c_api_Condition t0)) rfl rfl ?_
  refine r_assign (ABool false) rfl rfl ?_
  refine R_nil0 ?_
  refine J_seq ?_
  refine J_region rfl ?_
  refine r_faT (k_api_Condition t0.Kids) fo_35_1 rfl rfl rfl ?_
  refine r_ld (AL 9 c_api_Condition t0.Kids) sc_33 rfl (kid_api_Condition _) rfl ?_
  refine r_len (cc := c_api_Condition) il_33 rfl rfl ?_
  refine r_assign (I_ (t0.Kids.length : Int)) rfl rfl ?_
  refine R_nil0 ?_
  refine J_seq ?_
  refine J_region rfl ?_
  refine r_assign (ABool false) rfl rfl ?_
  refine R_nil0 ?_
  refine J_seq ?_
  refine J_seq ?_
  refine J_region rfl ?_
  refine r_faT (c_i64 t0.Kind) fo_35_0 rfl rfl rfl ?_
  refine r_ld (I_ t0.Kind) sc_3 rfl rfl rfl ?_
  refine R_nil0 ?_
  refine J_block ?_
  refine J_seq ?_
  refine J_region rfl ?_
  refine r_eql rfl rfl rfl ?_
  refine r_assign (ABool (decide (t0.Kind = 1))) rfl rfl ?_
  refine R_nil0 ?_
  apply J_joinA (fun v34 => ⟨fr [(1, APtr (c_api_Condition t0)), (4, ABool v34), (9, I_ t0.Kind)], fun _ => none, 0⟩) (fun v34 => condition_wellFormed_j34 q_condition_wellFormed_1 t0 v34)
  · intro K35
    refine J_cond_p rfl (fun h1 => ?_) (fun h1 => ?_)
    · apply J_joinA (fun v5 => ⟨fr [(1, APtr (c_api_Condition t0)), (3, I_ (t0.Kids.length : Int)), (4, ABool v5), (7, I_ (t0.Kids.length : Int)), (9, I_ t0.Kind), (12, I_ (t0.Kids.length : Int))], fun _ => none, 0⟩) (fun v5 => condition_wellFormed_j5 q_condition_wellFormed_1 t0 v5)
      · intro K6
        refine J_region rfl ?_
        refine r_move (I_ (t0.Kids.length : Int)) rfl rfl ?_
        refine r_eql rfl rfl rfl ?_
        refine r_move (ABool (decide ((t0.Kids.length : Int) = 0))) rfl rfl ?_
        refine R_if (fun h2 => ?_) (fun h2 => ?_)
        rotate_left
        · refine R_skip (g_tn rfl rfl (df h2)) ?_
          refine R_skip (g_tn rfl rfl (df h2)) ?_
          refine r_pickF (ABool false) rfl (df h2) rfl rfl ?_
          refine r_assign (ABool false) rfl rfl ?_
          refine R_nil0 ?_
          refine J_to [(1, APtr (c_api_Condition t0)), (3, I_ (t0.Kids.length : Int)), (4, ABool false), (7, I_ (t0.Kids.length : Int)), (9, I_ t0.Kind), (12, I_ (t0.Kids.length : Int))] (.cons rfl (.cons rfl (.cons rfl (.cons rfl (.cons rfl (.cons rfl .nil)))))) ?_
          exact K6 false
        refine r_lda (c_api_Condition t0) ag_35 rfl rfl rfl (g_t rfl rfl (dt h2)) ?_
        refine R_bind fun b3 h4 => ?_
        refine r_call _ fn_243 (k_condition_bare _ _ h4) rfl (g_t rfl rfl (dt h2)) ?_
        refine r_pickT (ABool b3) rfl (dt h2) rfl rfl ?_
        refine r_assign (ABool b3) rfl rfl ?_
        refine R_nil0 ?_
        refine J_to [(1, APtr (c_api_Condition t0)), (3, I_ (t0.Kids.length : Int)), (4, ABool b3), (7, I_ (t0.Kids.length : Int)), (9, I_ t0.Kind), (12, I_ (t0.Kids.length : Int))] (.cons rfl (.cons rfl (.cons rfl (.cons rfl (.cons rfl (.cons rfl .nil)))))) ?_
        exact K6 b3
      intro v5
      refine J_to [(1, APtr (c_api_Condition t0)), (4, ABool v5), (9, I_ t0.Kind)] (.cons rfl (.cons rfl (.cons rfl .nil))) ?_
      exact K35 v5
    refine J_seq ?_
    refine J_region rfl ?_
    refine r_eql rfl rfl rfl ?_
    refine r_assign (ABool (decide (t0.Kind = 2))) rfl rfl ?_
    refine R_nil0 ?_
    apply J_joinA (fun v32 => ⟨fr [(1, APtr (c_api_Condition t0)), (4, ABool v32), (9, I_ t0.Kind)], fun _ => none, 0⟩) (fun v32 => condition_wellFormed_j32 q_condition_wellFormed_1 t0 v32)
    · intro K33
      refine J_cond_p rfl (fun h7 => ?_) (fun h7 => ?_)
      · apply J_joinA (fun v11 => ⟨fr [(1, APtr (c_api_Condition t0)), (3, I_ (t0.Kids.length : Int)), (4, ABool v11), (7, I_ (t0.Kids.length : Int)), (9, I_ t0.Kind), (20, I_ (t0.Kids.length : Int))], fun _ => none, 0⟩) (fun v11 => condition_wellFormed_j11 q_condition_wellFormed_1 t0 v11)
        · intro K12
          refine J_region rfl ?_
          refine r_move (I_ (t0.Kids.length : Int)) rfl rfl ?_
          refine r_eql rfl rfl rfl ?_
          refine r_move (ABool (decide ((t0.Kids.length : Int) = 1))) rfl rfl ?_
          refine R_if (fun h8 => ?_) (fun h8 => ?_)
          rotate_left
          · refine R_skip (g_tn rfl rfl (df h8)) ?_
            refine R_skip (g_tn rfl rfl (df h8)) ?_
            refine r_pickF (ABool false) rfl (df h8) rfl rfl ?_
            refine r_assign (ABool false) rfl rfl ?_
            refine R_nil0 ?_
            refine J_to [(1, APtr (c_api_Condition t0)), (3, I_ (t0.Kids.length : Int)), (4, ABool false), (7, I_ (t0.Kids.length : Int)), (9, I_ t0.Kind), (20, I_ (t0.Kids.length : Int))] (.cons rfl (.cons rfl (.cons rfl (.cons rfl (.cons rfl (.cons rfl .nil)))))) ?_
            exact K12 false
          refine r_lda (c_api_Condition t0) ag_35 rfl rfl rfl (g_t rfl rfl (dt h8)) ?_
          refine R_bind fun b9 h10 => ?_
          refine r_call _ fn_243 (k_condition_bare _ _ h10) rfl (g_t rfl rfl (dt h8)) ?_
          refine r_pickT (ABool b9) rfl (dt h8) rfl rfl ?_
          refine r_assign (ABool b9) rfl rfl ?_
          refine R_nil0 ?_
          refine J_to [(1, APtr (c_api_Condition t0)), (3, I_ (t0.Kids.length : Int)), (4, ABool b9), (7, I_ (t0.Kids.length : Int)), (9, I_ t0.Kind), (20, I_ (t0.Kids.length : Int))] (.cons rfl (.cons rfl (.cons rfl (.cons rfl (.cons rfl (.cons rfl .nil)))))) ?_
          exact K12 b9
        intro v11
        refine J_to [(1, APtr (c_api_Condition t0)), (4, ABool v11), (9, I_ t0.Kind)] (.cons rfl (.cons rfl (.cons rfl .nil))) ?_
        exact K33 v11
      refine J_seq ?_
      refine J_seq ?_
      refine J_region rfl ?_
      refine r_eql rfl rfl rfl ?_
      refine r_assign (ABool (decide (t0.Kind = 3))) rfl rfl ?_
      refine R_nil0 ?_
      apply J_joinA (fun v19 => ⟨fr [(1, APtr (c_api_Condition t0)), (3, I_ (t0.Kids.length : Int)), (4, ABool false), (9, I_ t0.Kind), (26, ABool v19)], fun _ => none, 0⟩) (fun v19 => condition_wellFormed_j19 q_condition_wellFormed_1 t0 v19)
      · intro K31
        refine J_cond_p rfl (fun h13 => ?_) (fun h13 => ?_)
        · refine J_skip ?_
          refine J_to [(1, APtr (c_api_Condition t0)), (3, I_ (t0.Kids.length : Int)), (4, ABool false), (9, I_ t0.Kind), (26, ABool (decide (t0.Kind = 3)))] (.cons rfl (.cons rfl (.cons rfl (.cons rfl (.cons rfl .nil))))) ?_
          exact K31 (decide (t0.Kind = 3))
        refine J_region rfl ?_
        refine r_eql rfl rfl rfl ?_
        refine r_assign (ABool (decide (t0.Kind = 4))) rfl rfl ?_
        refine R_nil0 ?_
        refine J_to [(1, APtr (c_api_Condition t0)), (3, I_ (t0.Kids.length : Int)), (4, ABool false), (9, I_ t0.Kind), (26, ABool (decide (t0.Kind = 4)))] (.cons rfl (.cons rfl (.cons rfl (.cons rfl (.cons rfl .nil))))) ?_
        exact K31 (decide (t0.Kind = 4))
      intro v19
      apply J_joinA (fun v29 => ⟨fr [(1, APtr (c_api_Condition t0)), (4, ABool v29), (9, I_ t0.Kind)], fun _ => none, 0⟩) (fun v29 => condition_wellFormed_j29 q_condition_wellFormed_1 t0 v29)
      · intro K30
        refine J_cond rfl (fun h20 => ?_) (fun h20 => ?_)
        rotate_left
        · refine J_seq ?_
          refine J_region rfl ?_
          refine r_eql rfl rfl rfl ?_
          refine r_assign (ABool (decide (t0.Kind = 5))) rfl rfl ?_
          refine R_nil0 ?_
          apply J_joinA (fun v27 => ⟨fr [(1, APtr (c_api_Condition t0)), (4, ABool v27), (9, I_ t0.Kind)], fun _ => none, 0⟩) (fun v27 => condition_wellFormed_j27 q_condition_wellFormed_1 t0 v27)
          · intro K28
            refine J_cond_p rfl (fun h26 => ?_) (fun h26 => ?_)
            rotate_left
            · refine J_skip ?_
              refine J_to [(1, APtr (c_api_Condition t0)), (4, ABool false), (9, I_ t0.Kind)] (.cons rfl (.cons rfl (.cons rfl .nil))) ?_
              exact K28 false
            refine J_region rfl ?_
            refine r_move (I_ (t0.Kids.length : Int)) rfl rfl ?_
            refine r_eql rfl rfl rfl ?_
            refine r_assign (ABool (decide ((t0.Kids.length : Int) = 1))) rfl rfl ?_
            refine R_nil0 ?_
            refine J_to [(1, APtr (c_api_Condition t0)), (4, ABool (decide ((t0.Kids.length : Int) = 1))), (9, I_ t0.Kind)] (.cons rfl (.cons rfl (.cons rfl .nil))) ?_
            exact K28 (decide ((t0.Kids.length : Int) = 1))
          intro v27
          refine J_to [(1, APtr (c_api_Condition t0)), (4, ABool v27), (9, I_ t0.Kind)] (.cons rfl (.cons rfl (.cons rfl .nil))) ?_
          exact K30 v27
        apply J_joinA (fun v24 => ⟨fr [(1, APtr (c_api_Condition t0)), (3, I_ (t0.Kids.length : Int)), (4, ABool v24), (9, I_ t0.Kind), (29, I_ (t0.Kids.length : Int))], fun _ => none, 0⟩) (fun v24 => condition_wellFormed_j24 q_condition_wellFormed_1 t0 v24)
        · intro K25
          refine J_region rfl ?_
          refine r_move (I_ (t0.Kids.length : Int)) rfl rfl ?_
          refine r_geq rfl rfl rfl ?_
          refine r_move (ABool (decide (1 ≤ (t0.Kids.length : Int)))) rfl rfl ?_
          refine R_if (fun h21 => ?_) (fun h21 => ?_)
          rotate_left
          · refine R_skip (g_tn rfl rfl (df h21)) ?_
            refine R_skip (g_tn rfl rfl (df h21)) ?_
            refine r_pickF (ABool false) rfl (df h21) rfl rfl ?_
            refine r_assign (ABool false) rfl rfl ?_
            refine R_nil0 ?_
            refine J_to [(1, APtr (c_api_Condition t0)), (3, I_ (t0.Kids.length : Int)), (4, ABool false), (9, I_ t0.Kind), (29, I_ (t0.Kids.length : Int))] (.cons rfl (.cons rfl (.cons rfl (.cons rfl (.cons rfl .nil))))) ?_
            exact K25 false
          refine r_lda (c_api_Condition t0) ag_35 rfl rfl rfl (g_t rfl rfl (dt h21)) ?_
          refine R_bind fun b22 h23 => ?_
          refine r_call _ fn_243 (k_condition_bare _ _ h23) rfl (g_t rfl rfl (dt h21)) ?_
          refine r_pickT (ABool b22) rfl (dt h21) rfl rfl ?_
          refine r_assign (ABool b22) rfl rfl ?_
          refine R_nil0 ?_
          refine J_to [(1, APtr (c_api_Condition t0)), (3, I_ (t0.Kids.length : Int)), (4, ABool b22), (9, I_ t0.Kind), (29, I_ (t0.Kids.length : Int))] (.cons rfl (.cons rfl (.cons rfl (.cons rfl (.cons rfl .nil))))) ?_
          exact K25 b22
        intro v24
        refine J_to [(1, APtr (c_api_Condition t0)), (4, ABool v24), (9, I_ t0.Kind)] (.cons rfl (.cons rfl (.cons rfl .nil))) ?_
        exact K30 v24
      intro v29
      refine J_to [(1, APtr (c_api_Condition t0)), (4, ABool v29), (9, I_ t0.Kind)] (.cons rfl (.cons rfl (.cons rfl .nil))) ?_
      exact K33 v29
    intro v32
    refine J_to [(1, APtr (c_api_Condition t0)), (4, ABool v32), (9, I_ t0.Kind)] (.cons rfl (.cons rfl (.cons rfl .nil))) ?_
    exact K35 v32
  intro v34
  refine J_inBlock ?_
  refine J_seq ?_
  refine J_region rfl ?_
  refine r_move (ABool v34) rfl rfl ?_
  refine r_move (ABool v34) rfl rfl ?_
  refine R_if (fun h36 => ?_) (fun h36 => ?_)
  rotate_left
  · refine R_skip (g_tn rfl rfl (bf h36)) ?_
    refine R_skip (g_tn rfl rfl (bf h36)) ?_
    refine R_skip (g_tn rfl rfl (bf h36)) ?_
    refine R_skip (g_tn rfl rfl (bf h36)) ?_
    refine r_pickF (ABool false) rfl (bf h36) rfl rfl ?_
    refine r_assign (ABool false) rfl rfl ?_
    refine R_nil0 ?_
    exact J_ret hΨ (Res_one rfl) (fun y hy => by cases hy; rfl)
  refine r_faT (k_api_Condition t0.Kids) fo_35_1 rfl rfl (g_t rfl rfl h36) ?_
  refine r_ld (AL 9 c_api_Condition t0.Kids) sc_33 rfl (kid_api_Condition _) (g_t rfl rfl h36) ?_
  refine R_bind fun b37 h38 => ?_
  refine r_callB [] [AL 9 c_api_Condition t0.Kids, AClo 245 []] fn_244 (k_slices_ContainsFunc_api_Condition _ _ _ h38) .nil rfl (.cons .same (.cons (.cloFn fn_245 (fun x y h => hq_condition_wellFormed_1 x y h)) .nil)) (g_t rfl rfl h36) ?_
  refine r_not rfl (g_t rfl rfl h36) ?_
  refine r_pickT (ABool (!b37)) rfl h36 rfl rfl ?_
  refine r_assign (ABool (!b37)) rfl rfl ?_
  refine R_nil0 ?_
  exact J_ret hΨ (Res_one rfl) (fun y hy => by cases hy; rfl)
theorem k_condition_wellFormed_1_b (q_condition_wellFormed : api_Condition → Option Bool) (hq_condition_wellFormed : ∀ (t0 : api_Condition) (r : Bool), q_condition_wellFormed t0 = some r → FnP PP 189 [AAgg (c_api_Condition t0)] (ABool r)) (q_condition_wellFormed_1 : api_Condition → Option Bool) (hq_condition_wellFormed_1 : ∀ (t0 : api_Condition) (r : Bool), q_condition_wellFormed_1 t0 = some r → FnP PP 245 [AAgg (c_api_Condition t0)] (ABool r)) (t0 : api_Condition) (r : Bool) (hr : condition_wellFormed_1_b q_condition_wellFormed q_condition_wellFormed_1 t0 = some r) : FnP PP 245 [AAgg (c_api_Condition t0)] (ABool r) := by
  refine FnP.of mixed_ Tryz.func245 rfl (n := 6) rfl (fun (r : Bool) => ABool r) nk_args NK.nk rfl hr fun X hΨ => ?_
  refine J_seq ?_
  refine J_region rfl ?_
  refine r_boxV (AAgg (c_api_Condition t0)) rfl rfl ?_
  refine r_assign (ABool false) rfl rfl ?_
  refine R_nil0 ?_
  refine J_seq ?_
  refine J_region rfl ?_
  refine r_lda (c_api_Condition t0) ag_35 rfl rfl rfl rfl ?_
  refine R_bind fun b1 h2 => ?_
  refine r_call _ fn_189 (hq_condition_wellFormed _ _ h2) rfl rfl ?_
  refine r_not rfl rfl ?_
  refine r_assign (ABool (!b1)) rfl rfl ?_
  refine R_nil0 ?_
  exact J_ret hΨ (Res_one rfl) (fun y hy => by cases hy; rfl)
theorem condition_wellFormed_n_ok : ∀ n, (∀ (t0 : api_Condition) (r : Bool), (condition_wellFormed_n n).1 t0 = some r → FnP PP 189 [AAgg (c_api_Condition t0)] (ABool r)) ∧ (∀ (t0 : api_Condition) (r : Bool), (condition_wellFormed_n n).2 t0 = some r → FnP PP 245 [AAgg (c_api_Condition t0)] (ABool r)) := by
  intro n
  induction n with
  | zero => exact ⟨(fun _ _ h => by cases h), (fun _ _ h => by cases h)⟩
  | succ n ih => exact ⟨(fun a0 r h => k_condition_wellFormed_b _ ih.1 _ ih.2 a0 r h), (fun a0 r h => k_condition_wellFormed_1_b _ ih.1 _ ih.2 a0 r h)⟩
theorem k_condition_wellFormed (t0 : api_Condition) (r : Bool) (hr : condition_wellFormed t0 = some r) : FnP PP 189 [AAgg (c_api_Condition t0)] (ABool r) := by
  obtain ⟨n, hn⟩ := Ev_some hr
  exact (condition_wellFormed_n_ok n).1 t0 r hn
theorem k_condition_wellFormed_1 (t0 : api_Condition) (r : Bool) (hr : condition_wellFormed_1 t0 = some r) : FnP PP 245 [AAgg (c_api_Condition t0)] (ABool r) := by
  obtain ⟨n, hn⟩ := Ev_some hr
  exact (condition_wellFormed_n_ok n).2 t0 r hn
theorem k_condition_measure_b (q_condition_measure : api_Condition → Option (Int × Int)) (hq_condition_measure : ∀ (t0 : api_Condition) (r : Int × Int), q_condition_measure t0 = some r → FnP PP 190 [AAgg (c_api_Condition t0)] (ATup [I_ r.1, I_ r.2])) (t0 : api_Condition) (r : Int × Int) (hr : condition_measure_b q_condition_measure t0 = some r) : FnP PP 190 [AAgg (c_api_Condition t0)] (ATup [I_ r.1, I_ r.2]) := by
  refine FnP.of mixed_ Tryz.func190 rfl (n := 36) rfl (fun (r : Int × Int) => ATup [I_ r.1, I_ r.2]) nk_args NK.nk rfl hr fun X hΨ => ?_
  refine J_seq ?_
  refine J_region rfl ?_
  refine r_boxV (AAgg (c_api_Condition t0)) rfl rfl ?_
  refine r_assign (I_ 0) rfl rfl ?_
  refine r_assign (I_ 0) rfl rfl ?_
  refine R_nil0 ?_
  refine J_seq ?_
  refine J_region rfl ?_
  refine r_assign (I_ 1) rfl rfl ?_
  refine r_assign (I_ 0) rfl rfl ?_
  refine R_nil0 ?_
  refine J_seq ?_
  refine J_seq ?_
  refine J_region rfl ?_
  refine r_faT (k_api_Condition t0.Kids) fo_35_1 rfl rfl rfl ?_
  refine r_ld (AL 9 c_api_Condition t0.Kids) sc_33 rfl (kid_api_Condition _) rfl ?_
  refine r_len (cc := c_api_Condition) il_33 rfl rfl ?_
  refine r_move (I_ 0) rfl rfl ?_
  refine R_nil0 ?_
  refine J_block ?_
  refine J_cv [] [] [] 0 [(1, APtr (c_api_Condition t0)), (4, I_ 1), (5, I_ 0), (11, AL 9 c_api_Condition t0.Kids), (12, I_ (t0.Kids.length : Int)), (13, I_ 0)] [] (.same rfl (.same rfl (.same rfl (.same rfl (.same rfl (.same rfl .nil)))))) .nil rfl rfl ?_
  refine J_it (fun x1 => ⟨fr [(1, APtr (c_api_Condition t0)), (4, I_ x1.1), (5, I_ x1.2.1), (11, AL 9 c_api_Condition t0.Kids), (12, I_ (t0.Kids.length : Int)), (13, I_ x1.2.2)], hp [], 0⟩) (fun E2 hE2 x1 => ?_) (by rfl)
  refine J_seq ?_
  refine J_region rfl ?_
  refine r_lss rfl rfl rfl ?_
  refine R_nil0 ?_
  refine J_seq ?_
  refine J_cond_p rfl (fun h9 => ?_) (fun h9 => ?_)
  rotate_left
  · refine J_exit rfl ?_
    refine J_out ?_
    refine J_seq ?_
    refine J_seq ?_
    refine J_region rfl ?_
    refine r_faT (c_i64 t0.Kind) fo_35_0 rfl rfl rfl ?_
    refine r_ld (I_ t0.Kind) sc_3 rfl rfl rfl ?_
    refine r_eql rfl rfl rfl ?_
    refine R_nil0 ?_
    apply J_joinA (fun v20 => ⟨fr [(4, I_ x1.1), (5, I_ v20), (12, I_ (t0.Kids.length : Int)), (13, I_ x1.2.2), (30, I_ t0.Kind)], hp [], 0⟩) (fun v20 => condition_measure_j20 x1 v20)
    · intro K21
      refine J_cond_p rfl (fun h17 => ?_) (fun h17 => ?_)
      rotate_left
      · refine J_skip ?_
        refine J_cv [] [] [] 0 [(4, I_ x1.1), (5, I_ x1.2.1), (12, I_ (t0.Kids.length : Int)), (13, I_ x1.2.2), (30, I_ t0.Kind)] [] (.same rfl (.same rfl (.same rfl (.same rfl (.same rfl .nil))))) .nil rfl rfl ?_
        exact K21 x1.2.1
      refine J_region rfl ?_
      refine r_move (I_ x1.2.1) rfl rfl ?_
      refine R_bind fun b18 h19 => ?_
      refine r_add b18 rfl rfl (Option.some.inj h19) rfl ?_
      refine r_assign (I_ b18) rfl rfl ?_
      refine R_nil0 ?_
      refine J_cv [] [] [] 0 [(4, I_ x1.1), (5, I_ b18), (12, I_ (t0.Kids.length : Int)), (13, I_ x1.2.2), (30, I_ t0.Kind)] [] (.same rfl (.same rfl (.same rfl (.same rfl (.same rfl .nil))))) .nil rfl rfl ?_
      exact K21 b18
    intro v20
    refine J_seq ?_
    refine J_region rfl ?_
    refine r_move (I_ x1.1) rfl rfl ?_
    refine r_move (I_ v20) rfl rfl ?_
    refine r_assign (I_ x1.1) rfl rfl ?_
    refine r_assign (I_ v20) rfl rfl ?_
    refine R_nil0 ?_
    exact J_ret hΨ (Res_many (As := [I_ x1.1, I_ v20]) rfl rfl (.cons (.tmp (A := I_ x1.1) rfl) (.cons (.tmp (A := I_ v20) rfl) .nil))) (fun y hy => by cases hy; rfl)
  refine J_skip ?_
  refine J_seq ?_
  refine J_block ?_
  refine J_seq ?_
  refine J_region rfl ?_
  refine R_if (fun h10 => ?_) (fun _ => R_none)
  refine r_ix (cc := c_api_Condition) el_33 rfl rfl h10.1 h10.2 rfl ?_
  refine r_lda (c_api_Condition (nth t0.Kids x1.2.2)) ag_35 rfl rfl rfl rfl ?_
  refine r_alloc 0 _ z_35 rfl rfl ?_
  refine r_stO (AObj 0) (AAgg (c_api_Condition (nth t0.Kids x1.2.2))) (c_api_Condition (nth t0.Kids x1.2.2)) sz_35 rfl .obj rfl rfl rfl rfl rfl rfl ?_
  refine R_nil0 ?_
  refine J_seq ?_
  refine J_region rfl ?_
  refine r_ldaO (AObj 0) (c_api_Condition (nth t0.Kids x1.2.2)) ag_35 rfl .obj rfl rfl rfl rfl ?_
  refine R_bind fun b11 h12 => ?_
  refine r_call _ fn_190 (hq_condition_measure _ _ h12) rfl rfl ?_
  refine r_move (ATup [I_ b11.1, I_ b11.2]) rfl rfl ?_
  refine r_ext (I_ b11.1) rfl rfl rfl ?_
  refine r_ext (I_ b11.2) rfl rfl rfl ?_
  refine r_assign (I_ b11.1) rfl rfl ?_
  refine r_assign (I_ b11.2) rfl rfl ?_
  refine R_nil0 ?_
  refine J_region rfl ?_
  refine r_move (I_ x1.1) rfl rfl ?_
  refine r_move (I_ b11.1) rfl rfl ?_
  refine R_bind fun b13 h14 => ?_
  refine r_add b13 rfl rfl (Option.some.inj h14) rfl ?_
  refine r_move (I_ x1.2.1) rfl rfl ?_
  refine r_move (I_ b11.2) rfl rfl ?_
  refine r_max rfl rfl rfl ?_
  refine r_assign (I_ b13) rfl rfl ?_
  refine r_assign (I_ (if x1.2.1 < b11.2 then b11.2 else x1.2.1)) rfl rfl ?_
  refine R_nil0 ?_
  refine J_inBlock ?_
  refine J_range 12 (m := (t0.Kids.length : Int)) rfl fun q15 => ?_
  refine J_range 13 (m := x1.2.2) rfl fun q16 => ?_
  refine J_region rfl ?_
  refine r_add (x1.2.2 + 1) rfl rfl (wrap_i64 (by omega) (by omega)) rfl ?_
  refine r_move (I_ (x1.2.2 + 1)) rfl rfl ?_
  refine R_nil0 ?_
  refine J_go ?_
  refine J_cv [] [] [] 0 [(1, APtr (c_api_Condition t0)), (4, I_ b13), (5, I_ (if x1.2.1 < b11.2 then b11.2 else x1.2.1)), (11, AL 9 c_api_Condition t0.Kids), (12, I_ (t0.Kids.length : Int)), (13, I_ (x1.2.2 + 1))] [] (.same rfl (.same rfl (.same rfl (.same rfl (.same rfl (.same rfl .nil)))))) .nil rfl rfl ?_
  exact hE2 (b13, (if x1.2.1 < b11.2 then b11.2 else x1.2.1), x1.2.2 + 1)
theorem condition_measure_n_ok : ∀ n, (∀ (t0 : api_Condition) (r : Int × Int), (condition_measure_n n) t0 = some r → FnP PP 190 [AAgg (c_api_Condition t0)] (ATup [I_ r.1, I_ r.2])) := by
  intro n
  induction n with
  | zero => exact (fun _ _ h => by cases h)
  | succ n ih => exact (fun a0 r h => k_condition_measure_b _ ih a0 r h)
theorem k_condition_measure (t0 : api_Condition) (r : Int × Int) (hr : condition_measure t0 = some r) : FnP PP 190 [AAgg (c_api_Condition t0)] (ATup [I_ r.1, I_ r.2]) := by
  obtain ⟨n, hn⟩ := Ev_some hr
  exact (condition_measure_n_ok n) t0 r hn
theorem k_condition_shape (t0 : api_Condition) (r : Int) (hr : condition_shape t0 = some r) : FnP PP 136 [AAgg (c_api_Condition t0)] (I_ r) := by
  refine FnP.of mixed_ Tryz.func136 rfl (n := 19) rfl (fun (r : Int) => I_ r) nk_args NK.nk rfl hr fun X hΨ => ?_
  refine J_seq ?_
  refine J_region rfl ?_
  refine r_boxV (AAgg (c_api_Condition t0)) rfl rfl ?_
  refine r_assign (I_ 0) rfl rfl ?_
  refine R_nil0 ?_
  refine J_seq ?_
  refine J_seq ?_
  refine J_region rfl ?_
  refine r_lda (c_api_Condition t0) ag_35 rfl rfl rfl rfl ?_
  refine R_bind fun b1 h2 => ?_
  refine r_call _ fn_189 (k_condition_wellFormed _ _ h2) rfl rfl ?_
  refine r_not rfl rfl ?_
  refine R_nil0 ?_
  refine J_cond rfl (fun h3 => ?_) (fun h3 => ?_)
  · refine J_seq ?_
    refine J_region rfl ?_
    refine r_assign (I_ 1) rfl rfl ?_
    refine R_nil0 ?_
    exact J_ret hΨ (Res_one rfl) (fun y hy => by cases hy; rfl)
  refine J_skip ?_
  refine J_seq ?_
  refine J_seq ?_
  refine J_region rfl ?_
  refine r_lda (c_api_Condition t0) ag_35 rfl rfl rfl rfl ?_
  refine R_bind fun b4 h5 => ?_
  refine r_call _ fn_190 (k_condition_measure _ _ h5) rfl rfl ?_
  refine r_move (ATup [I_ b4.1, I_ b4.2]) rfl rfl ?_
  refine r_ext (I_ b4.1) rfl rfl rfl ?_
  refine r_ext (I_ b4.2) rfl rfl rfl ?_
  refine r_assign (I_ b4.1) rfl rfl ?_
  refine r_assign (I_ b4.2) rfl rfl ?_
  refine R_nil0 ?_
  refine J_seq ?_
  refine J_region rfl ?_
  refine r_move (I_ b4.1) rfl rfl ?_
  refine r_gtr rfl rfl rfl ?_
  refine r_move (ABool (decide (12 < b4.1))) rfl rfl ?_
  refine R_if (fun h6 => ?_) (fun h6 => ?_)
  · refine R_skip (g_fn rfl rfl (dt h6)) ?_
    refine R_skip (g_fn rfl rfl (dt h6)) ?_
    refine r_pickT (ABool true) rfl (dt h6) rfl rfl ?_
    refine R_nil0 ?_
    refine J_cond_T rfl rfl ?_
    refine J_seq ?_
    refine J_region rfl ?_
    refine r_assign (I_ 3) rfl rfl ?_
    refine R_nil0 ?_
    exact J_ret hΨ (Res_one rfl) (fun y hy => by cases hy; rfl)
  refine r_move (I_ b4.2) rfl (g_f rfl rfl (df h6)) ?_
  refine r_gtr rfl rfl (g_f rfl rfl (df h6)) ?_
  refine r_pickF (ABool (decide (3 < b4.2))) rfl (df h6) rfl rfl ?_
  refine R_nil0 ?_
  refine J_cond_p rfl (fun h7 => ?_) (fun h7 => ?_)
  · refine J_seq ?_
    refine J_region rfl ?_
    refine r_assign (I_ 3) rfl rfl ?_
    refine R_nil0 ?_
    exact J_ret hΨ (Res_one rfl) (fun y hy => by cases hy; rfl)
  refine J_skip ?_
  refine J_seq ?_
  refine J_region rfl ?_
  refine r_assign (I_ 0) rfl rfl ?_
  refine R_nil0 ?_
  exact J_ret hΨ (Res_one rfl) (fun y hy => by cases hy; rfl)
theorem k_condition_pattern_1 (t0 : api_Slot) (t1 : Int) (r : Bool) (hr : condition_pattern_1 t0 t1 = some r) : FnP PP 246 [AAgg (c_api_Slot t0), APtr (c_i64 t1)] (ABool r) := by
  refine FnP.of mixed_ Tryz.func246 rfl (n := 9) rfl (fun (r : Bool) => ABool r) nk_args NK.nk rfl hr fun X hΨ => ?_
  refine J_seq ?_
  refine J_region rfl ?_
  refine r_boxV (AAgg (c_api_Slot t0)) rfl rfl ?_
  refine r_assign (ABool false) rfl rfl ?_
  refine R_nil0 ?_
  refine J_seq ?_
  refine J_region rfl ?_
  refine r_faT (c_api_Term t0.Term) fo_156_2 rfl rfl rfl ?_
  refine r_faT (c_i64 t0.Term.Var) fo_154_0 rfl rfl rfl ?_
  refine r_ld (I_ t0.Term.Var) sc_3 rfl rfl rfl ?_
  refine r_ld (I_ t1) sc_3 rfl rfl rfl ?_
  refine r_eql rfl rfl rfl ?_
  refine r_assign (ABool (decide (t0.Term.Var = t1))) rfl rfl ?_
  refine R_nil0 ?_
  exact J_ret hΨ (Res_one rfl) (fun y hy => by cases hy; rfl)
theorem k_condition_pattern (t0 : api_Types) (t1 : api_Pattern) (t2 : Int) (r : Int) (hr : condition_pattern t0 t1 t2 = some r) : FnP PP 191 [AAgg (c_api_Types t0), AAgg (c_api_Pattern t1), I_ t2] (I_ r) := by
  refine FnP.of mixed_ Tryz.func191 rfl (n := 29) rfl (fun (r : Int) => I_ r) nk_args NK.nk rfl hr fun X hΨ => ?_
  refine J_seq ?_
  refine J_region rfl ?_
  refine r_boxV (AAgg (c_api_Types t0)) rfl rfl ?_
  refine r_boxV (AAgg (c_api_Pattern t1)) rfl rfl ?_
  refine r_assign (I_ 0) rfl rfl ?_
  refine R_nil0 ?_
  refine J_seq ?_
  refine J_region rfl ?_
  refine r_lda (c_api_Types t0) ag_59 rfl rfl rfl rfl ?_
  refine r_lda (c_api_Pattern t1) ag_29 rfl rfl rfl rfl ?_
  refine R_bind fun b1 h2 => ?_
  refine r_call _ fn_69 (k_attribute_Valid _ _ _ h2) rfl rfl ?_
  refine r_assign (I_ b1) rfl rfl ?_
  refine R_nil0 ?_
  refine J_seq ?_
  refine J_seq ?_
  refine J_region rfl ?_
  refine r_move (I_ b1) rfl rfl ?_
  refine r_neq rfl rfl rfl ?_
  refine R_nil0 ?_
  refine J_cond_p rfl (fun h3 => ?_) (fun h3 => ?_)
  · refine J_seq ?_
    refine J_region rfl ?_
    refine r_move (I_ b1) rfl rfl ?_
    refine r_assign (I_ b1) rfl rfl ?_
    refine R_nil0 ?_
    exact J_ret hΨ (Res_one rfl) (fun y hy => by cases hy; rfl)
  refine J_skip ?_
  refine J_seq ?_
  refine J_seq ?_
  refine J_region rfl ?_
  refine r_move (I_ t2) rfl rfl ?_
  refine r_alloc 0 _ z_3 rfl rfl ?_
  refine r_stO (AObj 0) (I_ t2) (c_i64 t2) sz_3 rfl .obj rfl rfl rfl rfl rfl rfl ?_
  refine R_nil0 ?_
  refine J_block ?_
  refine J_cv [] [] [] 1 [(4, APtr (c_api_Pattern t1)), (7, I_ b1), (8, AObj 0), (11, I_ b1), (12, I_ b1)] [(0, .box 3 (c_i64 t2))] (.same rfl (.same rfl (.cons (A := AObj 0) rfl (.obj rfl rfl rfl) (.same rfl (.same rfl .nil))))) (.cons rfl rfl rfl rfl (.box (.cons .same .nil)) rfl rfl .nil) rfl rfl ?_
  refine J_it (fun x4 => ⟨fr [(4, APtr (c_api_Pattern t1)), (7, I_ b1), (8, AObj 0), (11, I_ b1), (12, I_ b1)], hp [(0, .box 3 (c_i64 x4))], 1⟩) (fun E5 hE5 x4 => ?_) (by rfl)
  refine J_seq ?_
  refine J_seq ?_
  refine J_region rfl ?_
  refine r_ldO (AObj 0) (I_ x4) sc_3 rfl .obj rfl rfl rfl ?_
  refine r_faT (c_i64 t1.Vars) fo_29_2 rfl rfl rfl ?_
  refine r_ld (I_ t1.Vars) sc_3 rfl rfl rfl ?_
  refine r_lss rfl rfl rfl ?_
  refine R_nil0 ?_
  refine J_cond_p rfl (fun h12 => ?_) (fun h12 => ?_)
  rotate_left
  · refine J_exit rfl ?_
    refine J_outS ?_
    refine J_seq ?_
    refine J_region rfl ?_
    refine r_assign (I_ 0) rfl rfl ?_
    refine R_nil0 ?_
    exact J_ret hΨ (Res_one rfl) (fun y hy => by cases hy; rfl)
  refine J_skip ?_
  refine J_seq ?_
  refine J_block ?_
  refine J_seq ?_
  refine J_cv [0] [] [] 0 [(4, APtr (c_api_Pattern t1)), (7, I_ b1), (8, APtr (c_i64 x4)), (11, I_ b1), (12, I_ b1), (16, I_ x4), (18, I_ t1.Vars)] [] (.same rfl (.same rfl (.cons (A := AObj 0) rfl (.fbox rfl rfl (.cons .same .nil)) (.same rfl (.same rfl (.same rfl (.same rfl .nil))))))) .nil rfl rfl ?_
  refine J_region rfl ?_
  refine r_faT ((cL 4 c_api_Slot) t1.Slots) fo_29_1 rfl rfl rfl ?_
  refine r_ld (AL 4 c_api_Slot t1.Slots) sc_26 rfl rfl rfl ?_
  refine r_mkFn [APtr (c_i64 x4)] (fun x => [AAgg (c_api_Slot x)]) (fun y => ABool y) (fun x => condition_pattern_1 x x4) fn_246 rfl (fun x y h => k_condition_pattern_1 x x4 y h) rfl ?_
  refine R_bind fun b13 h14 => ?_
  refine r_call _ fn_186 (k_slices_ContainsFunc_api_Slot _ _ _ h14) rfl rfl ?_
  refine r_not rfl rfl ?_
  refine R_nil0 ?_
  refine J_cond rfl (fun h15 => ?_) (fun h15 => ?_)
  · refine J_seq ?_
    refine J_region rfl ?_
    refine r_move (I_ b1) rfl rfl ?_
    refine r_assign (I_ b1) rfl rfl ?_
    refine R_nil0 ?_
    refine J_outS ?_
    exact J_ret hΨ (Res_one rfl) (fun y hy => by cases hy; rfl)
  refine J_skip ?_
  refine J_inBlock ?_
  refine J_seq ?_
  refine J_seq ?_
  refine J_region rfl ?_
  refine r_ld (I_ x4) sc_3 rfl rfl rfl ?_
  refine R_nil0 ?_
  refine J_region rfl ?_
  refine r_alloc 0 _ z_3 rfl rfl ?_
  refine r_stO (AObj 0) (I_ x4) (c_i64 x4) sz_3 rfl .obj rfl rfl rfl rfl rfl rfl ?_
  refine R_nil0 ?_
  refine J_range 18 (m := t1.Vars) rfl fun q16 => ?_
  refine J_range 16 (m := x4) rfl fun q17 => ?_
  refine J_region rfl ?_
  refine r_ldO (AObj 0) (I_ x4) sc_3 rfl .obj rfl rfl rfl ?_
  refine r_add (x4 + 1) rfl rfl (wrap_i64 (by omega) (by omega)) rfl ?_
  refine r_stO (AObj 0) (I_ (x4 + 1)) (c_i64 (x4 + 1)) sz_3 rfl .obj rfl rfl rfl rfl rfl rfl ?_
  refine R_nil0 ?_
  refine J_go ?_
  refine J_cv [] [] [] 1 [(4, APtr (c_api_Pattern t1)), (7, I_ b1), (8, AObj 0), (11, I_ b1), (12, I_ b1)] [(0, .box 3 (c_i64 (x4 + 1)))] (.same rfl (.same rfl (.cons (A := AObj 0) rfl (.obj rfl rfl rfl) (.same rfl (.same rfl .nil))))) (.cons rfl rfl rfl rfl (.box (.cons .same .nil)) rfl rfl .nil) rfl rfl ?_
  exact hE5 (x4 + 1)
theorem k_condition_inside_b (q_condition_inside : api_Types → api_Pattern → api_Condition → Option Int) (hq_condition_inside : ∀ (t0 : api_Types) (t1 : api_Pattern) (t2 : api_Condition) (r : Int), q_condition_inside t0 t1 t2 = some r → FnP PP 137 [AAgg (c_api_Types t0), AAgg (c_api_Pattern t1), AAgg (c_api_Condition t2)] (I_ r)) (t0 : api_Types) (t1 : api_Pattern) (t2 : api_Condition) (r : Int) (hr : condition_inside_b q_condition_inside t0 t1 t2 = some r) : FnP PP 137 [AAgg (c_api_Types t0), AAgg (c_api_Pattern t1), AAgg (c_api_Condition t2)] (I_ r) := by
  refine FnP.of mixed_ Tryz.func137 rfl (n := 65) rfl (fun (r : Int) => I_ r) nk_args NK.nk rfl hr fun X hΨ => ?_
  refine J_seq ?_
  refine J_region rfl ?_
  refine r_boxV (AAgg (c_api_Types t0)) rfl rfl ?_
  refine r_boxO 0 (AAgg (c_api_Pattern t1)) rfl rfl rfl ?_
  refine r_boxV (AAgg (c_api_Condition t2)) rfl rfl ?_
  refine r_assign (I_ 0) rfl rfl ?_
  refine R_nil0 ?_
  refine J_seq ?_
  refine J_seq ?_
  refine J_region rfl ?_
  refine r_faT (c_i64 t2.Kind) fo_35_0 rfl rfl rfl ?_
  refine r_ld (I_ t2.Kind) sc_3 rfl rfl rfl ?_
  refine r_eql rfl rfl rfl ?_
  refine R_nil0 ?_
  apply J_joinA (fun v26 => ⟨fr [(3, APtr (c_api_Types t0)), (4, AObj 0), (5, APtr (c_api_Condition t2)), (6, I_ 0), (14, I_ t2.Kind)], hp [(0, .box 29 (c_api_Pattern v26))], 1⟩) (fun v26 => condition_inside_j26 q_condition_inside t0 t2 v26)
  · intro K41
    refine J_cond_p rfl (fun h1 => ?_) (fun h1 => ?_)
    rotate_left
    · refine J_skip ?_
      refine J_cv [] [] [] 1 [(3, APtr (c_api_Types t0)), (4, AObj 0), (5, APtr (c_api_Condition t2)), (6, I_ 0), (14, I_ t2.Kind)] [(0, .box 29 (c_api_Pattern t1))] (.same rfl (.cons (A := AObj 0) rfl (.obj rfl rfl rfl) (.same rfl (.same rfl (.same rfl .nil))))) (.cons rfl rfl rfl rfl (.box (CvL.sames)) rfl rfl .nil) rfl rfl ?_
      exact K41 t1
    refine J_seq ?_
    refine J_region rfl ?_
    refine r_faT (c_api_Pattern t2.Pattern) fo_35_3 rfl rfl rfl ?_
    refine r_lda (c_api_Pattern t2.Pattern) ag_29 rfl rfl rfl rfl ?_
    refine r_alloc 1 _ z_29 rfl rfl ?_
    refine r_stO (AObj 1) (AAgg (c_api_Pattern t2.Pattern)) (c_api_Pattern t2.Pattern) sz_29 rfl .obj rfl rfl rfl rfl rfl rfl ?_
    refine R_nil0 ?_
    refine J_seq ?_
    refine J_seq ?_
    refine J_region rfl ?_
    refine r_faO (AObj 1) 3 fo_29_2 rfl .obj rfl rfl rfl ?_
    refine r_ldO (ABoxAt 1 3) (I_ t2.Pattern.Vars) sc_3 rfl .at rfl rfl rfl ?_
    refine r_faO (AObj 0) 3 fo_29_2 rfl .obj rfl rfl rfl ?_
    refine r_ldO (ABoxAt 0 3) (I_ t1.Vars) sc_3 rfl .at rfl rfl rfl ?_
    refine r_lss rfl rfl rfl ?_
    refine R_nil0 ?_
    refine J_cond_p rfl (fun h2 => ?_) (fun h2 => ?_)
    · refine J_seq ?_
      refine J_region rfl ?_
      refine r_assign (I_ 20) rfl rfl ?_
      refine R_nil0 ?_
      exact J_ret hΨ (Res_one rfl) (fun y hy => by cases hy; rfl)
    refine J_skip ?_
    refine J_seq ?_
    refine J_seq ?_
    refine J_region rfl ?_
    refine r_lda (c_api_Types t0) ag_59 rfl rfl rfl rfl ?_
    refine r_ldaO (AObj 1) (c_api_Pattern t2.Pattern) ag_29 rfl .obj rfl rfl rfl rfl ?_
    refine r_faO (AObj 0) 3 fo_29_2 rfl .obj rfl rfl rfl ?_
    refine r_ldO (ABoxAt 0 3) (I_ t1.Vars) sc_3 rfl .at rfl rfl rfl ?_
    refine R_bind fun b3 h4 => ?_
    refine r_call _ fn_191 (k_condition_pattern _ _ _ _ h4) rfl rfl ?_
    refine r_assign (I_ b3) rfl rfl ?_
    refine R_nil0 ?_
    refine J_seq ?_
    refine J_region rfl ?_
    refine r_move (I_ b3) rfl rfl ?_
    refine r_neq rfl rfl rfl ?_
    refine R_nil0 ?_
    refine J_cond_p rfl (fun h5 => ?_) (fun h5 => ?_)
    · refine J_seq ?_
      refine J_region rfl ?_
      refine r_move (I_ b3) rfl rfl ?_
      refine r_assign (I_ b3) rfl rfl ?_
      refine R_nil0 ?_
      exact J_ret hΨ (Res_one rfl) (fun y hy => by cases hy; rfl)
    refine J_skip ?_
    refine J_seq ?_
    refine J_seq ?_
    refine J_region rfl ?_
    refine r_faO (AObj 0) 0 fo_29_0 rfl .obj rfl rfl rfl ?_
    refine r_ldaO (ABoxAt 0 0) (c_api_Graph t1.Graph) ag_25 rfl .at rfl rfl rfl rfl ?_
    refine r_faO (AObj 1) 0 fo_29_0 rfl .obj rfl rfl rfl ?_
    refine r_ldaO (ABoxAt 1 0) (c_api_Graph t2.Pattern.Graph) ag_25 rfl .at rfl rfl rfl rfl ?_
    refine r_faT (c_api_Morphism t2.Map) fo_35_2 rfl rfl rfl ?_
    refine r_lda (c_api_Morphism t2.Map) ag_32 rfl rfl rfl rfl ?_
    refine R_bind fun b6 h7 => ?_
    refine r_call _ fn_38 (k_morphism_Valid _ _ _ _ h7) rfl rfl ?_
    refine r_assign (I_ b6) rfl rfl ?_
    refine R_nil0 ?_
    refine J_seq ?_
    refine J_region rfl ?_
    refine r_move (I_ b6) rfl rfl ?_
    refine r_neq rfl rfl rfl ?_
    refine R_nil0 ?_
    refine J_cond_p rfl (fun h8 => ?_) (fun h8 => ?_)
    · refine J_seq ?_
      refine J_region rfl ?_
      refine r_move (I_ b6) rfl rfl ?_
      refine r_assign (I_ b6) rfl rfl ?_
      refine R_nil0 ?_
      exact J_ret hΨ (Res_one rfl) (fun y hy => by cases hy; rfl)
    refine J_skip ?_
    refine J_seq ?_
    refine J_seq ?_
    refine J_region rfl ?_
    refine r_faO (AObj 0) 0 fo_29_0 rfl .obj rfl rfl rfl ?_
    refine r_ldaO (ABoxAt 0 0) (c_api_Graph t1.Graph) ag_25 rfl .at rfl rfl rfl rfl ?_
    refine r_faO (AObj 1) 0 fo_29_0 rfl .obj rfl rfl rfl ?_
    refine r_ldaO (ABoxAt 1 0) (c_api_Graph t2.Pattern.Graph) ag_25 rfl .at rfl rfl rfl rfl ?_
    refine r_faT (c_api_Morphism t2.Map) fo_35_2 rfl rfl rfl ?_
    refine r_lda (c_api_Morphism t2.Map) ag_32 rfl rfl rfl rfl ?_
    refine R_bind fun b9 h10 => ?_
    refine r_call _ fn_135 (k_morphism_Injective _ _ _ _ h10) rfl rfl ?_
    refine r_not rfl rfl ?_
    refine R_nil0 ?_
    refine J_cond rfl (fun h11 => ?_) (fun h11 => ?_)
    · refine J_seq ?_
      refine J_region rfl ?_
      refine r_assign (I_ 1) rfl rfl ?_
      refine R_nil0 ?_
      exact J_ret hΨ (Res_one rfl) (fun y hy => by cases hy; rfl)
    refine J_skip ?_
    refine J_region rfl ?_
    refine r_ldaO (AObj 1) (c_api_Pattern t2.Pattern) ag_29 rfl .obj rfl rfl rfl rfl ?_
    refine r_stO (AObj 0) (AAgg (c_api_Pattern t2.Pattern)) (c_api_Pattern t2.Pattern) sz_29 rfl .obj rfl rfl rfl rfl rfl rfl ?_
    refine R_nil0 ?_
    refine J_cv [] [] [] 1 [(3, APtr (c_api_Types t0)), (4, AObj 0), (5, APtr (c_api_Condition t2)), (6, I_ 0), (14, I_ t2.Kind)] [(0, .box 29 (c_api_Pattern t2.Pattern))] (.same rfl (.cons (A := AObj 0) rfl (.obj rfl rfl rfl) (.same rfl (.same rfl (.same rfl .nil))))) (.cons rfl rfl rfl rfl (.box (CvL.sames)) rfl rfl .nil) rfl rfl ?_
    exact K41 t2.Pattern
  intro v26
  refine J_seq ?_
  refine J_seq ?_
  refine J_region rfl ?_
  refine r_faT (k_api_Condition t2.Kids) fo_35_1 rfl rfl rfl ?_
  refine r_ld (AL 9 c_api_Condition t2.Kids) sc_33 rfl (kid_api_Condition _) rfl ?_
  refine r_len (cc := c_api_Condition) il_33 rfl rfl ?_
  refine r_move (I_ 0) rfl rfl ?_
  refine R_nil0 ?_
  refine J_block ?_
  refine J_cv [] [] [] 1 [(3, APtr (c_api_Types t0)), (4, AObj 0), (51, AL 9 c_api_Condition t2.Kids), (52, I_ (t2.Kids.length : Int)), (53, I_ 0)] [(0, .box 29 (c_api_Pattern v26))] (.same rfl (.cons (A := AObj 0) rfl (.obj rfl rfl rfl) (.same rfl (.same rfl (.same rfl .nil))))) (.cons rfl rfl rfl rfl (.box (CvL.sames)) rfl rfl .nil) rfl rfl ?_
  refine J_it (fun x27 => ⟨fr [(3, APtr (c_api_Types t0)), (4, AObj 0), (51, AL 9 c_api_Condition t2.Kids), (52, I_ (t2.Kids.length : Int)), (53, I_ x27)], hp [(0, .box 29 (c_api_Pattern v26))], 1⟩) (fun E28 hE28 x27 => ?_) (by rfl)
  refine J_seq ?_
  refine J_region rfl ?_
  refine r_lss rfl rfl rfl ?_
  refine R_nil0 ?_
  refine J_seq ?_
  refine J_cond_p rfl (fun h34 => ?_) (fun h34 => ?_)
  rotate_left
  · refine J_exit rfl ?_
    refine J_outS ?_
    refine J_seq ?_
    refine J_region rfl ?_
    refine r_assign (I_ 0) rfl rfl ?_
    refine R_nil0 ?_
    exact J_ret hΨ (Res_one rfl) (fun y hy => by cases hy; rfl)
  refine J_skip ?_
  refine J_seq ?_
  refine J_block ?_
  refine J_seq ?_
  refine J_region rfl ?_
  refine R_if (fun h35 => ?_) (fun _ => R_none)
  refine r_ix (cc := c_api_Condition) el_33 rfl rfl h35.1 h35.2 rfl ?_
  refine r_lda (c_api_Condition (nth t2.Kids x27)) ag_35 rfl rfl rfl rfl ?_
  refine r_alloc 1 _ z_35 rfl rfl ?_
  refine r_stO (AObj 1) (AAgg (c_api_Condition (nth t2.Kids x27))) (c_api_Condition (nth t2.Kids x27)) sz_35 rfl .obj rfl rfl rfl rfl rfl rfl ?_
  refine R_nil0 ?_
  refine J_seq ?_
  refine J_region rfl ?_
  refine r_lda (c_api_Types t0) ag_59 rfl rfl rfl rfl ?_
  refine r_ldaO (AObj 0) (c_api_Pattern v26) ag_29 rfl .obj rfl rfl rfl rfl ?_
  refine r_ldaO (AObj 1) (c_api_Condition (nth t2.Kids x27)) ag_35 rfl .obj rfl rfl rfl rfl ?_
  refine R_bind fun b36 h37 => ?_
  refine r_call _ fn_137 (hq_condition_inside _ _ _ _ h37) rfl rfl ?_
  refine r_assign (I_ b36) rfl rfl ?_
  refine R_nil0 ?_
  refine J_seq ?_
  refine J_region rfl ?_
  refine r_move (I_ b36) rfl rfl ?_
  refine r_neq rfl rfl rfl ?_
  refine R_nil0 ?_
  refine J_cond_p rfl (fun h38 => ?_) (fun h38 => ?_)
  · refine J_seq ?_
    refine J_region rfl ?_
    refine r_move (I_ b36) rfl rfl ?_
    refine r_assign (I_ b36) rfl rfl ?_
    refine R_nil0 ?_
    refine J_outS ?_
    exact J_ret hΨ (Res_one rfl) (fun y hy => by cases hy; rfl)
  refine J_skip ?_
  refine J_inBlock ?_
  refine J_range 52 (m := (t2.Kids.length : Int)) rfl fun q39 => ?_
  refine J_range 53 (m := x27) rfl fun q40 => ?_
  refine J_region rfl ?_
  refine r_add (x27 + 1) rfl rfl (wrap_i64 (by omega) (by omega)) rfl ?_
  refine r_move (I_ (x27 + 1)) rfl rfl ?_
  refine R_nil0 ?_
  refine J_go ?_
  refine J_cv [] [] [] 1 [(3, APtr (c_api_Types t0)), (4, AObj 0), (51, AL 9 c_api_Condition t2.Kids), (52, I_ (t2.Kids.length : Int)), (53, I_ (x27 + 1))] [(0, .box 29 (c_api_Pattern v26))] (.same rfl (.cons (A := AObj 0) rfl (.obj rfl rfl rfl) (.same rfl (.same rfl (.same rfl .nil))))) (.cons rfl rfl rfl rfl (.box (CvL.sames)) rfl rfl .nil) rfl rfl ?_
  exact hE28 (x27 + 1)
theorem condition_inside_n_ok : ∀ n, (∀ (t0 : api_Types) (t1 : api_Pattern) (t2 : api_Condition) (r : Int), (condition_inside_n n) t0 t1 t2 = some r → FnP PP 137 [AAgg (c_api_Types t0), AAgg (c_api_Pattern t1), AAgg (c_api_Condition t2)] (I_ r)) := by
  intro n
  induction n with
  | zero => exact (fun _ _ _ _ h => by cases h)
  | succ n ih => exact (fun a0 a1 a2 r h => k_condition_inside_b _ ih a0 a1 a2 r h)
theorem k_condition_inside (t0 : api_Types) (t1 : api_Pattern) (t2 : api_Condition) (r : Int) (hr : condition_inside t0 t1 t2 = some r) : FnP PP 137 [AAgg (c_api_Types t0), AAgg (c_api_Pattern t1), AAgg (c_api_Condition t2)] (I_ r) := by
  obtain ⟨n, hn⟩ := Ev_some hr
  exact (condition_inside_n_ok n) t0 t1 t2 r hn
theorem k_condition_Valid (t0 : api_Types) (t1 : api_Pattern) (t2 : api_Condition) (r : Int) (hr : condition_Valid t0 t1 t2 = some r) : FnP PP 72 [AAgg (c_api_Types t0), AAgg (c_api_Pattern t1), AAgg (c_api_Condition t2)] (I_ r) := by
  refine FnP.of mixed_ Tryz.func72 rfl (n := 24) rfl (fun (r : Int) => I_ r) nk_args NK.nk rfl hr fun X hΨ => ?_
  refine J_seq ?_
  refine J_region rfl ?_
  refine r_boxV (AAgg (c_api_Types t0)) rfl rfl ?_
  refine r_boxV (AAgg (c_api_Pattern t1)) rfl rfl ?_
  refine r_boxV (AAgg (c_api_Condition t2)) rfl rfl ?_
  refine r_assign (I_ 0) rfl rfl ?_
  refine R_nil0 ?_
  refine J_seq ?_
  refine J_seq ?_
  refine J_region rfl ?_
  refine r_lda (c_api_Types t0) ag_59 rfl rfl rfl rfl ?_
  refine r_lda (c_api_Pattern t1) ag_29 rfl rfl rfl rfl ?_
  refine R_bind fun b1 h2 => ?_
  refine r_call _ fn_69 (k_attribute_Valid _ _ _ h2) rfl rfl ?_
  refine r_assign (I_ b1) rfl rfl ?_
  refine R_nil0 ?_
  refine J_seq ?_
  refine J_region rfl ?_
  refine r_move (I_ b1) rfl rfl ?_
  refine r_neq rfl rfl rfl ?_
  refine R_nil0 ?_
  refine J_cond_p rfl (fun h3 => ?_) (fun h3 => ?_)
  · refine J_seq ?_
    refine J_region rfl ?_
    refine r_move (I_ b1) rfl rfl ?_
    refine r_assign (I_ b1) rfl rfl ?_
    refine R_nil0 ?_
    exact J_ret hΨ (Res_one rfl) (fun y hy => by cases hy; rfl)
  refine J_skip ?_
  refine J_seq ?_
  refine J_seq ?_
  refine J_region rfl ?_
  refine r_lda (c_api_Condition t2) ag_35 rfl rfl rfl rfl ?_
  refine R_bind fun b4 h5 => ?_
  refine r_call _ fn_136 (k_condition_shape _ _ h5) rfl rfl ?_
  refine r_assign (I_ b4) rfl rfl ?_
  refine R_nil0 ?_
  refine J_seq ?_
  refine J_region rfl ?_
  refine r_move (I_ b4) rfl rfl ?_
  refine r_neq rfl rfl rfl ?_
  refine R_nil0 ?_
  refine J_cond_p rfl (fun h6 => ?_) (fun h6 => ?_)
  · refine J_seq ?_
    refine J_region rfl ?_
    refine r_move (I_ b4) rfl rfl ?_
    refine r_assign (I_ b4) rfl rfl ?_
    refine R_nil0 ?_
    exact J_ret hΨ (Res_one rfl) (fun y hy => by cases hy; rfl)
  refine J_skip ?_
  refine J_seq ?_
  refine J_region rfl ?_
  refine r_lda (c_api_Types t0) ag_59 rfl rfl rfl rfl ?_
  refine r_lda (c_api_Pattern t1) ag_29 rfl rfl rfl rfl ?_
  refine r_lda (c_api_Condition t2) ag_35 rfl rfl rfl rfl ?_
  refine R_bind fun b7 h8 => ?_
  refine r_call _ fn_137 (k_condition_inside _ _ _ _ h8) rfl rfl ?_
  refine r_assign (I_ b7) rfl rfl ?_
  refine R_nil0 ?_
  exact J_ret hΨ (Res_one rfl) (fun y hy => by cases hy; rfl)
theorem k_rule_Valid (t0 : api_Types) (t1 : api_Rule) (r : Int) (hr : rule_Valid t0 t1 = some r) : FnP PP 25 [AAgg (c_api_Types t0), AAgg (c_api_Rule t1)] (I_ r) := by
  refine FnP.of mixed_ Tryz.func25 rfl (n := 61) rfl (fun (r : Int) => I_ r) nk_args NK.nk rfl hr fun X hΨ => ?_
  refine J_seq ?_
  refine J_region rfl ?_
  refine r_boxV (AAgg (c_api_Types t0)) rfl rfl ?_
  refine r_boxV (AAgg (c_api_Rule t1)) rfl rfl ?_
  refine r_assign (I_ 0) rfl rfl ?_
  refine R_nil0 ?_
  refine J_seq ?_
  refine J_seq ?_
  refine J_region rfl ?_
  refine r_lda (c_api_Types t0) ag_59 rfl rfl rfl rfl ?_
  refine R_bind fun b1 h2 => ?_
  refine r_call _ fn_67 (k_types_Valid _ _ h2) rfl rfl ?_
  refine r_move (ATup [AStr b1.1, I_ b1.2]) rfl rfl ?_
  refine r_ext (AStr b1.1) rfl rfl rfl ?_
  refine r_ext (I_ b1.2) rfl rfl rfl ?_
  refine r_assign (AStr b1.1) rfl rfl ?_
  refine r_assign (I_ b1.2) rfl rfl ?_
  refine R_nil0 ?_
  refine J_seq ?_
  refine J_region rfl ?_
  refine r_move (I_ b1.2) rfl rfl ?_
  refine r_neq rfl rfl rfl ?_
  refine R_nil0 ?_
  refine J_cond_p rfl (fun h3 => ?_) (fun h3 => ?_)
  · refine J_seq ?_
    refine J_region rfl ?_
    refine r_move (I_ b1.2) rfl rfl ?_
    refine r_assign (I_ b1.2) rfl rfl ?_
    refine R_nil0 ?_
    exact J_ret hΨ (Res_one rfl) (fun y hy => by cases hy; rfl)
  refine J_skip ?_
  refine J_seq ?_
  refine J_seq ?_
  refine J_region rfl ?_
  refine r_faT (c_str t1.Name) fo_37_0 rfl rfl rfl ?_
  refine r_ld (AStr t1.Name) sc_9 rfl rfl rfl ?_
  refine R_bind fun b4 h5 => ?_
  refine r_call _ fn_68 (k_token_IsName _ _ h5) rfl rfl ?_
  refine r_not rfl rfl ?_
  refine R_nil0 ?_
  refine J_cond rfl (fun h6 => ?_) (fun h6 => ?_)
  · refine J_seq ?_
    refine J_region rfl ?_
    refine r_assign (I_ 2) rfl rfl ?_
    refine R_nil0 ?_
    exact J_ret hΨ (Res_one rfl) (fun y hy => by cases hy; rfl)
  refine J_skip ?_
  refine J_seq ?_
  refine J_seq ?_
  refine J_region rfl ?_
  refine r_lda (c_api_Types t0) ag_59 rfl rfl rfl rfl ?_
  refine r_faT (c_api_Pattern t1.Left) fo_37_1 rfl rfl rfl ?_
  refine r_lda (c_api_Pattern t1.Left) ag_29 rfl rfl rfl rfl ?_
  refine R_bind fun b7 h8 => ?_
  refine r_call _ fn_69 (k_attribute_Valid _ _ _ h8) rfl rfl ?_
  refine r_assign (I_ b7) rfl rfl ?_
  refine R_nil0 ?_
  refine J_seq ?_
  refine J_region rfl ?_
  refine r_move (I_ b7) rfl rfl ?_
  refine r_neq rfl rfl rfl ?_
  refine R_nil0 ?_
  refine J_cond_p rfl (fun h9 => ?_) (fun h9 => ?_)
  · refine J_seq ?_
    refine J_region rfl ?_
    refine r_move (I_ b7) rfl rfl ?_
    refine r_assign (I_ b7) rfl rfl ?_
    refine R_nil0 ?_
    exact J_ret hΨ (Res_one rfl) (fun y hy => by cases hy; rfl)
  refine J_skip ?_
  refine J_seq ?_
  refine J_seq ?_
  refine J_region rfl ?_
  refine r_lda (c_api_Types t0) ag_59 rfl rfl rfl rfl ?_
  refine r_lda (c_api_Rule t1) ag_37 rfl rfl rfl rfl ?_
  refine R_bind fun b10 h11 => ?_
  refine r_call _ fn_70 (k_rule_right _ _ _ h11) rfl rfl ?_
  refine r_assign (I_ b10) rfl rfl ?_
  refine R_nil0 ?_
  refine J_seq ?_
  refine J_region rfl ?_
  refine r_move (I_ b10) rfl rfl ?_
  refine r_neq rfl rfl rfl ?_
  refine R_nil0 ?_
  refine J_cond_p rfl (fun h12 => ?_) (fun h12 => ?_)
  · refine J_seq ?_
    refine J_region rfl ?_
    refine r_move (I_ b10) rfl rfl ?_
    refine r_assign (I_ b10) rfl rfl ?_
    refine R_nil0 ?_
    exact J_ret hΨ (Res_one rfl) (fun y hy => by cases hy; rfl)
  refine J_skip ?_
  refine J_seq ?_
  refine J_seq ?_
  refine J_region rfl ?_
  refine r_lda (c_api_Rule t1) ag_37 rfl rfl rfl rfl ?_
  refine R_bind fun b13 h14 => ?_
  refine r_call _ fn_71 (k_rule_kept _ _ h14) rfl rfl ?_
  refine r_assign (I_ b13) rfl rfl ?_
  refine R_nil0 ?_
  refine J_seq ?_
  refine J_region rfl ?_
  refine r_move (I_ b13) rfl rfl ?_
  refine r_neq rfl rfl rfl ?_
  refine R_nil0 ?_
  refine J_cond_p rfl (fun h15 => ?_) (fun h15 => ?_)
  · refine J_seq ?_
    refine J_region rfl ?_
    refine r_move (I_ b13) rfl rfl ?_
    refine r_assign (I_ b13) rfl rfl ?_
    refine R_nil0 ?_
    exact J_ret hΨ (Res_one rfl) (fun y hy => by cases hy; rfl)
  refine J_skip ?_
  refine J_seq ?_
  refine J_region rfl ?_
  refine r_lda (c_api_Rule t1) ag_37 rfl rfl rfl rfl ?_
  refine R_bind fun b16 h17 => ?_
  refine r_call _ fn_62 (k_rule_created _ _ h17) rfl rfl ?_
  refine r_move (ATup [AL 1 c_i64 b16.1, AL 1 c_i64 b16.2]) rfl rfl ?_
  refine r_ext (AL 1 c_i64 b16.1) rfl rfl rfl ?_
  refine r_ext (AL 1 c_i64 b16.2) rfl rfl rfl ?_
  refine r_assign (AL 1 c_i64 b16.1) rfl rfl ?_
  refine r_assign (AL 1 c_i64 b16.2) rfl rfl ?_
  refine R_nil0 ?_
  refine J_seq ?_
  refine J_seq ?_
  refine J_region rfl ?_
  refine r_lda (c_api_Types t0) ag_59 rfl rfl rfl rfl ?_
  refine r_faT (c_api_Pattern t1.Right) fo_37_2 rfl rfl rfl ?_
  refine r_faT (c_api_Graph t1.Right.Graph) fo_29_0 rfl rfl rfl ?_
  refine r_lda (c_api_Graph t1.Right.Graph) ag_25 rfl rfl rfl rfl ?_
  refine r_move (AL 1 c_i64 b16.1) rfl rfl ?_
  refine r_move (AL 1 c_i64 b16.2) rfl rfl ?_
  refine R_bind fun b18 h19 => ?_
  refine r_call _ fn_60 (k_rule_makable _ _ _ _ _ h19) rfl rfl ?_
  refine r_not rfl rfl ?_
  refine R_nil0 ?_
  refine J_cond rfl (fun h20 => ?_) (fun h20 => ?_)
  · refine J_seq ?_
    refine J_region rfl ?_
    refine r_assign (I_ 13) rfl rfl ?_
    refine R_nil0 ?_
    exact J_ret hΨ (Res_one rfl) (fun y hy => by cases hy; rfl)
  refine J_skip ?_
  refine J_seq ?_
  refine J_region rfl ?_
  refine r_lda (c_api_Types t0) ag_59 rfl rfl rfl rfl ?_
  refine r_faT (c_api_Pattern t1.Left) fo_37_1 rfl rfl rfl ?_
  refine r_lda (c_api_Pattern t1.Left) ag_29 rfl rfl rfl rfl ?_
  refine r_faT (c_api_Condition t1.Condition) fo_37_6 rfl rfl rfl ?_
  refine r_lda (c_api_Condition t1.Condition) ag_35 rfl rfl rfl rfl ?_
  refine R_bind fun b21 h22 => ?_
  refine r_call _ fn_72 (k_condition_Valid _ _ _ _ h22) rfl rfl ?_
  refine r_assign (I_ b21) rfl rfl ?_
  refine R_nil0 ?_
  exact J_ret hΨ (Res_one rfl) (fun y hy => by cases hy; rfl)
theorem k_rule_simple (t0 : api_Rule) (r : Bool) (hr : rule_simple t0 = some r) : FnP PP 111 [AAgg (c_api_Rule t0)] (ABool r) := by
  refine FnP.of mixed_ Tryz.func111 rfl (n := 30) rfl (fun (r : Bool) => ABool r) nk_args NK.nk rfl hr fun X hΨ => ?_
  refine J_seq ?_
  refine J_region rfl ?_
  refine r_boxV (AAgg (c_api_Rule t0)) rfl rfl ?_
  refine r_assign (ABool false) rfl rfl ?_
  refine R_nil0 ?_
  refine J_seq ?_
  refine J_region rfl ?_
  refine r_faT (c_api_Pattern t0.Left) fo_37_1 rfl rfl rfl ?_
  refine r_faT (c_i64 t0.Left.Vars) fo_29_2 rfl rfl rfl ?_
  refine r_ld (I_ t0.Left.Vars) sc_3 rfl rfl rfl ?_
  refine r_eql rfl rfl rfl ?_
  refine r_move (ABool (decide (t0.Left.Vars = 0))) rfl rfl ?_
  refine R_if (fun h1 => ?_) (fun h1 => ?_)
  rotate_left
  · refine R_skip (g_tn rfl rfl (df h1)) ?_
    refine R_skip (g_tn rfl rfl (df h1)) ?_
    refine R_skip (g_tn rfl rfl (df h1)) ?_
    refine R_skip (g_tn rfl rfl (df h1)) ?_
    refine R_skip (g_tn rfl rfl (df h1)) ?_
    refine R_skip (g_tn rfl rfl (df h1)) ?_
    refine R_skip (g_tn rfl rfl (df h1)) ?_
    refine R_skip (g_tn rfl rfl (df h1)) ?_
    refine R_skip (g_tn rfl rfl (df h1)) ?_
    refine R_skip (g_tn rfl rfl (df h1)) ?_
    refine R_skip (g_tn rfl rfl (df h1)) ?_
    refine R_skip (g_tn rfl rfl (df h1)) ?_
    refine R_skip (g_tn rfl rfl (df h1)) ?_
    refine R_skip (g_tn rfl rfl (df h1)) ?_
    refine R_skip (g_tn rfl rfl (df h1)) ?_
    refine r_pickF (ABool false) rfl (df h1) rfl rfl ?_
    refine r_move (ABool false) rfl rfl ?_
    refine R_skip (g_tn rfl rfl rfl) ?_
    refine R_skip (g_tn rfl rfl rfl) ?_
    refine R_skip (g_tn rfl rfl rfl) ?_
    refine R_skip (g_tn rfl rfl rfl) ?_
    refine r_pickF (ABool false) rfl rfl rfl rfl ?_
    refine r_assign (ABool false) rfl rfl ?_
    refine R_nil0 ?_
    exact J_ret hΨ (Res_one rfl) (fun y hy => by cases hy; rfl)
  refine r_faT (c_api_Pattern t0.Left) fo_37_1 rfl rfl (g_t rfl rfl (dt h1)) ?_
  refine r_faT ((cL 4 c_api_Slot) t0.Left.Slots) fo_29_1 rfl rfl (g_t rfl rfl (dt h1)) ?_
  refine r_ld (AL 4 c_api_Slot t0.Left.Slots) sc_26 rfl rfl (g_t rfl rfl (dt h1)) ?_
  refine r_len (cc := c_api_Slot) il_26 rfl (g_t rfl rfl (dt h1)) ?_
  refine r_faT (c_api_Pattern t0.Left) fo_37_1 rfl rfl (g_t rfl rfl (dt h1)) ?_
  refine r_faT ((cL 5 c_api_Test) t0.Left.Tests) fo_29_3 rfl rfl (g_t rfl rfl (dt h1)) ?_
  refine r_ld (AL 5 c_api_Test t0.Left.Tests) sc_27 rfl rfl (g_t rfl rfl (dt h1)) ?_
  refine r_len (cc := c_api_Test) il_27 rfl (g_t rfl rfl (dt h1)) ?_
  refine R_bind fun b2 h3 => ?_
  refine r_add b2 rfl rfl (Option.some.inj h3) (g_t rfl rfl (dt h1)) ?_
  refine r_faT (c_api_Pattern t0.Right) fo_37_2 rfl rfl (g_t rfl rfl (dt h1)) ?_
  refine r_faT ((cL 4 c_api_Slot) t0.Right.Slots) fo_29_1 rfl rfl (g_t rfl rfl (dt h1)) ?_
  refine r_ld (AL 4 c_api_Slot t0.Right.Slots) sc_26 rfl rfl (g_t rfl rfl (dt h1)) ?_
  refine r_len (cc := c_api_Slot) il_26 rfl (g_t rfl rfl (dt h1)) ?_
  refine R_bind fun b4 h5 => ?_
  refine r_add b4 rfl rfl (Option.some.inj h5) (g_t rfl rfl (dt h1)) ?_
  refine r_eql rfl rfl (g_t rfl rfl (dt h1)) ?_
  refine r_pickT (ABool (decide (b4 = 0))) rfl (dt h1) rfl rfl ?_
  refine r_move (ABool (decide (b4 = 0))) rfl rfl ?_
  refine R_if (fun h6 => ?_) (fun h6 => ?_)
  · refine r_faT (c_api_Condition t0.Condition) fo_37_6 rfl rfl (g_t rfl rfl (dt h6)) ?_
    refine r_faT (c_i64 t0.Condition.Kind) fo_35_0 rfl rfl (g_t rfl rfl (dt h6)) ?_
    refine r_ld (I_ t0.Condition.Kind) sc_3 rfl rfl (g_t rfl rfl (dt h6)) ?_
    refine r_eql rfl rfl (g_t rfl rfl (dt h6)) ?_
    refine r_pickT (ABool (decide (t0.Condition.Kind = 1))) rfl (dt h6) rfl rfl ?_
    refine r_assign (ABool (decide (t0.Condition.Kind = 1))) rfl rfl ?_
    refine R_nil0 ?_
    exact J_ret hΨ (Res_one rfl) (fun y hy => by cases hy; rfl)
  refine R_skip (g_tn rfl rfl (df h6)) ?_
  refine R_skip (g_tn rfl rfl (df h6)) ?_
  refine R_skip (g_tn rfl rfl (df h6)) ?_
  refine R_skip (g_tn rfl rfl (df h6)) ?_
  refine r_pickF (ABool false) rfl (df h6) rfl rfl ?_
  refine r_assign (ABool false) rfl rfl ?_
  refine R_nil0 ?_
  exact J_ret hΨ (Res_one rfl) (fun y hy => by cases hy; rfl)
theorem k_rule_given (t0 : api_Types) (t1 : api_Rule) (r : Int) (hr : rule_given t0 t1 = some r) : FnP PP 58 [AAgg (c_api_Types t0), AAgg (c_api_Rule t1)] (I_ r) := by
  refine FnP.of mixed_ Tryz.func58 rfl (n := 15) rfl (fun (r : Int) => I_ r) nk_args NK.nk rfl hr fun X hΨ => ?_
  refine J_seq ?_
  refine J_region rfl ?_
  refine r_boxV (AAgg (c_api_Types t0)) rfl rfl ?_
  refine r_boxV (AAgg (c_api_Rule t1)) rfl rfl ?_
  refine r_assign (I_ 0) rfl rfl ?_
  refine R_nil0 ?_
  refine J_seq ?_
  refine J_seq ?_
  refine J_region rfl ?_
  refine r_lda (c_api_Types t0) ag_59 rfl rfl rfl rfl ?_
  refine r_lda (c_api_Rule t1) ag_37 rfl rfl rfl rfl ?_
  refine R_bind fun b1 h2 => ?_
  refine r_call _ fn_25 (k_rule_Valid _ _ _ h2) rfl rfl ?_
  refine r_assign (I_ b1) rfl rfl ?_
  refine R_nil0 ?_
  refine J_seq ?_
  refine J_region rfl ?_
  refine r_move (I_ b1) rfl rfl ?_
  refine r_neq rfl rfl rfl ?_
  refine R_nil0 ?_
  refine J_cond_p rfl (fun h3 => ?_) (fun h3 => ?_)
  · refine J_seq ?_
    refine J_region rfl ?_
    refine r_move (I_ b1) rfl rfl ?_
    refine r_assign (I_ b1) rfl rfl ?_
    refine R_nil0 ?_
    exact J_ret hΨ (Res_one rfl) (fun y hy => by cases hy; rfl)
  refine J_skip ?_
  refine J_seq ?_
  refine J_seq ?_
  refine J_region rfl ?_
  refine r_lda (c_api_Rule t1) ag_37 rfl rfl rfl rfl ?_
  refine R_bind fun b4 h5 => ?_
  refine r_call _ fn_111 (k_rule_simple _ _ h5) rfl rfl ?_
  refine r_not rfl rfl ?_
  refine R_nil0 ?_
  refine J_cond rfl (fun h6 => ?_) (fun h6 => ?_)
  · refine J_seq ?_
    refine J_region rfl ?_
    refine r_assign (I_ 8) rfl rfl ?_
    refine R_nil0 ?_
    exact J_ret hΨ (Res_one rfl) (fun y hy => by cases hy; rfl)
  refine J_skip ?_
  refine J_seq ?_
  refine J_region rfl ?_
  refine r_assign (I_ 0) rfl rfl ?_
  refine R_nil0 ?_
  exact J_ret hΨ (Res_one rfl) (fun y hy => by cases hy; rfl)
theorem k_rule_deleted (t0 : api_Rule) (r : (List Int) × (List Int)) (hr : rule_deleted t0 = some r) : FnP PP 59 [AAgg (c_api_Rule t0)] (ATup [AL 1 c_i64 r.1, AL 1 c_i64 r.2]) := by
  refine FnP.of mixed_ Tryz.func59 rfl (n := 22) rfl (fun (r : (List Int) × (List Int)) => ATup [AL 1 c_i64 r.1, AL 1 c_i64 r.2]) nk_args NK.nk rfl hr fun X hΨ => ?_
  refine J_seq ?_
  refine J_region rfl ?_
  refine r_boxV (AAgg (c_api_Rule t0)) rfl rfl ?_
  refine r_assign (ANil) rfl rfl ?_
  refine r_assign (ANil) rfl rfl ?_
  refine R_nil0 ?_
  refine J_seq ?_
  refine J_draw ?_
  refine r_faT (c_api_Part t0.Keep) fo_37_3 rfl rfl rfl ?_
  refine r_faT ((cL 1 c_i64) t0.Keep.Nodes) fo_31_0 rfl rfl rfl ?_
  refine r_ld (AL 1 c_i64 t0.Keep.Nodes) sc_22 rfl rfl rfl ?_
  refine r_faT (c_api_Pattern t0.Left) fo_37_1 rfl rfl rfl ?_
  refine r_faT (c_api_Graph t0.Left.Graph) fo_29_0 rfl rfl rfl ?_
  refine r_faT ((cL 1 c_i64) t0.Left.Graph.Nodes) fo_25_0 rfl rfl rfl ?_
  refine r_ld (AL 1 c_i64 t0.Left.Graph.Nodes) sc_22 rfl rfl rfl ?_
  refine r_len (cc := c_i64) il_22 rfl rfl ?_
  refine R_bind fun b1 h2 => ?_
  refine r_call _ fn_112 (k_rule_others _ _ _ h2) rfl rfl ?_
  refine r_faT (c_api_Part t0.Keep) fo_37_3 rfl rfl rfl ?_
  refine r_faT ((cL 1 c_i64) t0.Keep.Edges) fo_31_1 rfl rfl rfl ?_
  refine r_ld (AL 1 c_i64 t0.Keep.Edges) sc_22 rfl rfl rfl ?_
  refine r_faT (c_api_Pattern t0.Left) fo_37_1 rfl rfl rfl ?_
  refine r_faT (c_api_Graph t0.Left.Graph) fo_29_0 rfl rfl rfl ?_
  refine r_faT ((cL 3 c_api_Edge) t0.Left.Graph.Edges) fo_25_1 rfl rfl rfl ?_
  refine r_ld (AL 3 c_api_Edge t0.Left.Graph.Edges) sc_23 rfl rfl rfl ?_
  refine r_len (cc := c_api_Edge) il_23 rfl rfl ?_
  refine R_bind fun b3 h4 => ?_
  refine r_call _ fn_112 (k_rule_others _ _ _ h4) rfl rfl ?_
  refine r_assign (AL 1 c_i64 b1) rfl rfl ?_
  refine r_assign (AL 1 c_i64 b3) rfl rfl ?_
  refine R_nilD rfl ?_
  exact J_ret hΨ (Res_many (As := [AL 1 c_i64 b1, AL 1 c_i64 b3]) rfl rfl (.cons (.tmp (A := AL 1 c_i64 b1) rfl) (.cons (.tmp (A := AL 1 c_i64 b3) rfl) .nil))) (fun y hy => by cases hy; rfl)
theorem k_rule_turned (t0 : (List Int)) (t1 : (List Int)) (r : (List Int) × (List Int)) (hr : rule_turned t0 t1 = some r) : FnP PP 61 [AL 1 c_i64 t0, AL 1 c_i64 t1] (ATup [AL 1 c_i64 r.1, AL 1 c_i64 r.2]) := by
  refine FnP.of mixed_ Tryz.func61 rfl (n := 32) rfl (fun (r : (List Int) × (List Int)) => ATup [AL 1 c_i64 r.1, AL 1 c_i64 r.2]) nk_args NK.nk rfl hr fun X hΨ => ?_
  refine J_seq ?_
  refine J_region rfl ?_
  refine r_assign (ANil) rfl rfl ?_
  refine r_assign (ANil) rfl rfl ?_
  refine R_nil0 ?_
  refine J_seq ?_
  refine J_region rfl ?_
  refine r_move (AL 1 c_i64 t1) rfl rfl ?_
  refine R_bind fun b1 h2 => ?_
  refine r_callK [] [] [] [0] 1 [] [(0, .row 3 1 (b1.map c_i64))] (AObj 0) [AL 1 c_i64 t1] fn_88 (k_slices_Clone_int _ _ h2) .nil rfl (.cons .same .nil) .nil (.cons rfl rfl rfl rfl (.row (NKC.flat _ _)) rfl rfl .nil) (.obj rfl rfl rfl) rfl rfl rfl ?_
  refine r_assign (AObj 0) rfl rfl ?_
  refine R_nil0 ?_
  refine J_seq ?_
  refine J_region rfl ?_
  refine r_move (AObj 0) rfl rfl ?_
  refine R_bind fun b3 h4 => ?_
  refine r_callK [] [] [] [] 1 [(0, .row 3 1 (b1.map c_i64))] [(0, .row 3 1 (b3.map c_i64))] (ATup []) [AObj 0] fn_116 (k_slices_Sort_int _ _ h4) (.cons rfl .nil) rfl (.cons (.obj rfl rfl rfl) .nil) (.cons rfl rfl rfl rfl (.row (NKC.flat _ _)) rfl rfl .nil) (.cons rfl rfl rfl rfl (.row (NKC.flat _ _)) rfl rfl .nil) (.tup .nil) rfl rfl rfl ?_
  refine R_nil0 ?_
  refine J_seq ?_
  refine J_region rfl ?_
  refine r_assign (ANil) rfl rfl ?_
  refine R_nil0 ?_
  refine J_seq ?_
  refine J_seq ?_
  refine J_region rfl ?_
  refine r_move (AObj 0) rfl rfl ?_
  refine r_lenO (cc := c_i64) b3 il_22 rfl rfl rfl ?_
  refine r_move (I_ 0) rfl rfl ?_
  refine R_nil0 ?_
  refine J_block ?_
  refine J_cv [] [] [1] 2 [(0, AL 1 c_i64 t0), (1, AL 1 c_i64 t1), (6, AObj 0), (7, AObj 1), (14, AObj 0), (15, I_ (b3.length : Int)), (16, I_ 0)] [(0, .row 3 1 (b3.map c_i64)), (1, .row 3 1 ([].map c_i64))] (.same rfl (.same rfl (.cons (A := AObj 0) rfl (.obj rfl rfl rfl) (.cons (A := ANil) rfl (.nilobj rfl rfl) (.cons (A := AObj 0) rfl (.obj rfl rfl rfl) (.same rfl (.same rfl .nil))))))) (.cons rfl rfl rfl rfl (.row (NKC.flat _ _)) rfl rfl (.new rfl rfl .nil)) rfl rfl ?_
  refine J_it (fun x5 => ⟨fr [(0, AL 1 c_i64 t0), (1, AL 1 c_i64 t1), (6, AObj 0), (7, AObj 1), (14, AObj 0), (15, I_ (b3.length : Int)), (16, I_ x5.2)], hp [(0, .row 3 1 (b3.map c_i64)), (1, .row 3 1 (x5.1.map c_i64))], 2⟩) (fun E6 hE6 x5 => ?_) (by rfl)
  refine J_seq ?_
  refine J_region rfl ?_
  refine r_lss rfl rfl rfl ?_
  refine R_nil0 ?_
  refine J_seq ?_
  refine J_cond_p rfl (fun h12 => ?_) (fun h12 => ?_)
  rotate_left
  · refine J_exit rfl ?_
    refine J_outS ?_
    refine J_seq ?_
    refine J_region rfl ?_
    refine r_move (AObj 0) rfl rfl ?_
    refine r_move (AObj 1) rfl rfl ?_
    refine r_assign (AObj 0) rfl rfl ?_
    refine r_assign (AObj 1) rfl rfl ?_
    refine R_nil0 ?_
    exact J_retF hΨ (Res_many (As := [AObj 0, AObj 1]) rfl rfl (.cons (.tmp (A := AObj 0) rfl) (.cons (.tmp (A := AObj 1) rfl) .nil))) (fun y hy => by cases hy; exact (.tup (.cons (.frow rfl rfl (NKC.flat _ _)) (.cons (.frow rfl rfl (NKC.flat _ _)) .nil))))
  refine J_skip ?_
  refine J_seq ?_
  refine J_block ?_
  refine J_seq ?_
  refine J_region rfl ?_
  refine R_if (fun h13 => ?_) (fun _ => R_none)
  refine r_ixO (cc := c_i64) el_22 rfl rfl rfl h13.1 h13.2 rfl ?_
  refine r_ldR (cc := c_i64) x5.2 0 (I_ (nth b3 x5.2)) sc_3 rfl rfl h13.1 h13.2 rfl rfl ?_
  refine r_assign (I_ (nth b3 x5.2)) rfl rfl ?_
  refine R_nil0 ?_
  refine J_region rfl ?_
  refine r_move (AObj 1) rfl rfl ?_
  refine r_move (AL 1 c_i64 t0) rfl rfl ?_
  refine r_move (AL 1 c_i64 t1) rfl rfl ?_
  refine r_move (I_ (nth b3 x5.2)) rfl rfl ?_
  refine R_bind fun b14 h15 => ?_
  refine r_call _ fn_117 (k_slices_Index_int _ _ _ h15) rfl rfl ?_
  refine R_if (fun h16 => ?_) (fun _ => R_none)
  refine r_ix (cc := c_i64) el_22 rfl rfl h16.1 h16.2 rfl ?_
  refine r_ld (I_ (nth t0 b14)) sc_3 rfl rfl rfl ?_
  refine r_bs (cc := c_i64) [(nth t0 b14)] el_22 zr_3_1 (.cons (A := I_ (nth t0 b14)) rfl rfl rfl .nil) rfl rfl rfl ?_
  refine R_if (fun h17 => ?_) (fun _ => R_none)
  refine r_app (cc := c_i64) (xs := x5.1) (ys := [(nth t0 b14)]) 2 ap_22 rfl rfl rfl h17 rfl rfl rfl ?_
  refine r_assign (AObj 2) rfl rfl ?_
  refine R_nil0 ?_
  refine J_inBlock ?_
  refine J_range 15 (m := (b3.length : Int)) rfl fun q18 => ?_
  refine J_range 16 (m := x5.2) rfl fun q19 => ?_
  refine J_region rfl ?_
  refine r_add (x5.2 + 1) rfl rfl (wrap_i64 (by omega) (by omega)) rfl ?_
  refine r_move (I_ (x5.2 + 1)) rfl rfl ?_
  refine R_nil0 ?_
  refine J_go ?_
  refine J_cv [] [(1, 2)] [] 2 [(0, AL 1 c_i64 t0), (1, AL 1 c_i64 t1), (6, AObj 0), (7, AObj 1), (14, AObj 0), (15, I_ (b3.length : Int)), (16, I_ (x5.2 + 1))] [(0, .row 3 1 (b3.map c_i64)), (1, .row 3 1 ((x5.1 ++ [(nth t0 b14)]).map c_i64))] (.same rfl (.same rfl (.cons (A := AObj 0) rfl (.obj rfl rfl rfl) (.cons (A := AObj 2) rfl (.obj rfl rfl rfl) (.cons (A := AObj 0) rfl (.obj rfl rfl rfl) (.same rfl (.same rfl .nil))))))) (.cons rfl rfl rfl rfl (.row (NKC.flat _ _)) rfl rfl (.cons rfl rfl rfl rfl (.row (NKC.flat _ _)) rfl rfl .nil)) rfl rfl ?_
  exact hE6 ((x5.1 ++ [(nth t0 b14)]), x5.2 + 1)
theorem k_rule_Inverse (t0 : api_Types) (t1 : api_Rule) (r : api_Rule × Int) (hr : rule_Inverse t0 t1 = some r) : FnP PP 16 [AAgg (c_api_Types t0), AAgg (c_api_Rule t1)] (ATup [AAgg (c_api_Rule r.1), I_ r.2]) := by
  refine FnP.of mixed_ Tryz.func16 rfl (n := 68) rfl (fun (r : api_Rule × Int) => ATup [AAgg (c_api_Rule r.1), I_ r.2]) nk_args NK.nk rfl hr fun X hΨ => ?_
  refine J_seq ?_
  refine J_region rfl ?_
  refine r_boxV (AAgg (c_api_Types t0)) rfl rfl ?_
  refine r_boxV (AAgg (c_api_Rule t1)) rfl rfl ?_
  refine r_alloc 0 _ z_37 rfl rfl ?_
  refine r_assign (I_ 0) rfl rfl ?_
  refine R_nil0 ?_
  refine J_seq ?_
  refine J_seq ?_
  refine J_region rfl ?_
  refine r_lda (c_api_Types t0) ag_59 rfl rfl rfl rfl ?_
  refine r_lda (c_api_Rule t1) ag_37 rfl rfl rfl rfl ?_
  refine R_bind fun b1 h2 => ?_
  refine r_call _ fn_58 (k_rule_given _ _ _ h2) rfl rfl ?_
  refine r_assign (I_ b1) rfl rfl ?_
  refine R_nil0 ?_
  refine J_seq ?_
  refine J_region rfl ?_
  refine r_move (I_ b1) rfl rfl ?_
  refine r_neq rfl rfl rfl ?_
  refine R_nil0 ?_
  refine J_cond_p rfl (fun h3 => ?_) (fun h3 => ?_)
  · refine J_seq ?_
    refine J_region rfl ?_
    refine r_buildI (Cs := [AStr (ByteArray.mk #[]), ANil, ANil, ANil, I_ 0, ANil, ANil, ANil, ANil, I_ 0, ANil, ANil, ANil, ANil, ANil, ABool false, I_ 0, ANil, ANil, ANil, ANil, ANil, ANil, I_ 0, ANil]) (c_api_Rule (api_Rule.mk (ByteArray.mk #[]) (api_Pattern.mk (api_Graph.mk [] []) [] 0 []) (api_Pattern.mk (api_Graph.mk [] []) [] 0 []) (api_Part.mk [] []) (api_Morphism.mk [] []) false (api_Condition.mk 0 [] (api_Morphism.mk [] []) (api_Pattern.mk (api_Graph.mk [] []) [] 0 [])))) pl_37 z_37 .nil rfl (.same (.nl (.nl (.nl (.same (.nl (.nl (.nl (.nl (.same (.nl (.nl (.nl (.nl (.nl (.same (.same (.nl (.nl (.nl (.nl (.nl (.nl (.same (.nl .nil))))))))))))))))))))))))) rfl ?_
    refine r_move (I_ b1) rfl rfl ?_
    refine r_stO (AObj 0) (AAgg (c_api_Rule (api_Rule.mk (ByteArray.mk #[]) (api_Pattern.mk (api_Graph.mk [] []) [] 0 []) (api_Pattern.mk (api_Graph.mk [] []) [] 0 []) (api_Part.mk [] []) (api_Morphism.mk [] []) false (api_Condition.mk 0 [] (api_Morphism.mk [] []) (api_Pattern.mk (api_Graph.mk [] []) [] 0 []))))) (c_api_Rule (api_Rule.mk (ByteArray.mk #[]) (api_Pattern.mk (api_Graph.mk [] []) [] 0 []) (api_Pattern.mk (api_Graph.mk [] []) [] 0 []) (api_Part.mk [] []) (api_Morphism.mk [] []) false (api_Condition.mk 0 [] (api_Morphism.mk [] []) (api_Pattern.mk (api_Graph.mk [] []) [] 0 [])))) sz_37 rfl .obj rfl rfl rfl rfl rfl rfl ?_
    refine r_assign (I_ b1) rfl rfl ?_
    refine R_nil0 ?_
    exact J_ret hΨ (Res_many (As := [AAgg (c_api_Rule (api_Rule.mk (ByteArray.mk #[]) (api_Pattern.mk (api_Graph.mk [] []) [] 0 []) (api_Pattern.mk (api_Graph.mk [] []) [] 0 []) (api_Part.mk [] []) (api_Morphism.mk [] []) false (api_Condition.mk 0 [] (api_Morphism.mk [] []) (api_Pattern.mk (api_Graph.mk [] []) [] 0 [])))), I_ b1]) rfl rfl (.cons (.boxA (cs := (c_api_Rule (api_Rule.mk (ByteArray.mk #[]) (api_Pattern.mk (api_Graph.mk [] []) [] 0 []) (api_Pattern.mk (api_Graph.mk [] []) [] 0 []) (api_Part.mk [] []) (api_Morphism.mk [] []) false (api_Condition.mk 0 [] (api_Morphism.mk [] []) (api_Pattern.mk (api_Graph.mk [] []) [] 0 []))))) ag_37 rfl rfl rfl) (.cons (.tmp (A := I_ b1) rfl) .nil))) (fun y hy => by cases hy; rfl)
  refine J_skip ?_
  refine J_seq ?_
  refine J_region rfl ?_
  refine r_lda (c_api_Rule t1) ag_37 rfl rfl rfl rfl ?_
  refine R_bind fun b4 h5 => ?_
  refine r_call _ fn_59 (k_rule_deleted _ _ h5) rfl rfl ?_
  refine r_move (ATup [AL 1 c_i64 b4.1, AL 1 c_i64 b4.2]) rfl rfl ?_
  refine r_ext (AL 1 c_i64 b4.1) rfl rfl rfl ?_
  refine r_ext (AL 1 c_i64 b4.2) rfl rfl rfl ?_
  refine r_assign (AL 1 c_i64 b4.1) rfl rfl ?_
  refine r_assign (AL 1 c_i64 b4.2) rfl rfl ?_
  refine R_nil0 ?_
  refine J_seq ?_
  refine J_seq ?_
  refine J_region rfl ?_
  refine r_lda (c_api_Types t0) ag_59 rfl rfl rfl rfl ?_
  refine r_faT (c_api_Pattern t1.Left) fo_37_1 rfl rfl rfl ?_
  refine r_faT (c_api_Graph t1.Left.Graph) fo_29_0 rfl rfl rfl ?_
  refine r_lda (c_api_Graph t1.Left.Graph) ag_25 rfl rfl rfl rfl ?_
  refine r_move (AL 1 c_i64 b4.1) rfl rfl ?_
  refine r_move (AL 1 c_i64 b4.2) rfl rfl ?_
  refine R_bind fun b6 h7 => ?_
  refine r_call _ fn_60 (k_rule_makable _ _ _ _ _ h7) rfl rfl ?_
  refine r_not rfl rfl ?_
  refine R_nil0 ?_
  refine J_cond rfl (fun h8 => ?_) (fun h8 => ?_)
  · refine J_seq ?_
    refine J_region rfl ?_
    refine r_buildI (Cs := [AStr (ByteArray.mk #[]), ANil, ANil, ANil, I_ 0, ANil, ANil, ANil, ANil, I_ 0, ANil, ANil, ANil, ANil, ANil, ABool false, I_ 0, ANil, ANil, ANil, ANil, ANil, ANil, I_ 0, ANil]) (c_api_Rule (api_Rule.mk (ByteArray.mk #[]) (api_Pattern.mk (api_Graph.mk [] []) [] 0 []) (api_Pattern.mk (api_Graph.mk [] []) [] 0 []) (api_Part.mk [] []) (api_Morphism.mk [] []) false (api_Condition.mk 0 [] (api_Morphism.mk [] []) (api_Pattern.mk (api_Graph.mk [] []) [] 0 [])))) pl_37 z_37 .nil rfl (.same (.nl (.nl (.nl (.same (.nl (.nl (.nl (.nl (.same (.nl (.nl (.nl (.nl (.nl (.same (.same (.nl (.nl (.nl (.nl (.nl (.nl (.same (.nl .nil))))))))))))))))))))))))) rfl ?_
    refine r_stO (AObj 0) (AAgg (c_api_Rule (api_Rule.mk (ByteArray.mk #[]) (api_Pattern.mk (api_Graph.mk [] []) [] 0 []) (api_Pattern.mk (api_Graph.mk [] []) [] 0 []) (api_Part.mk [] []) (api_Morphism.mk [] []) false (api_Condition.mk 0 [] (api_Morphism.mk [] []) (api_Pattern.mk (api_Graph.mk [] []) [] 0 []))))) (c_api_Rule (api_Rule.mk (ByteArray.mk #[]) (api_Pattern.mk (api_Graph.mk [] []) [] 0 []) (api_Pattern.mk (api_Graph.mk [] []) [] 0 []) (api_Part.mk [] []) (api_Morphism.mk [] []) false (api_Condition.mk 0 [] (api_Morphism.mk [] []) (api_Pattern.mk (api_Graph.mk [] []) [] 0 [])))) sz_37 rfl .obj rfl rfl rfl rfl rfl rfl ?_
    refine r_assign (I_ 13) rfl rfl ?_
    refine R_nil0 ?_
    exact J_ret hΨ (Res_many (As := [AAgg (c_api_Rule (api_Rule.mk (ByteArray.mk #[]) (api_Pattern.mk (api_Graph.mk [] []) [] 0 []) (api_Pattern.mk (api_Graph.mk [] []) [] 0 []) (api_Part.mk [] []) (api_Morphism.mk [] []) false (api_Condition.mk 0 [] (api_Morphism.mk [] []) (api_Pattern.mk (api_Graph.mk [] []) [] 0 [])))), I_ 13]) rfl rfl (.cons (.boxA (cs := (c_api_Rule (api_Rule.mk (ByteArray.mk #[]) (api_Pattern.mk (api_Graph.mk [] []) [] 0 []) (api_Pattern.mk (api_Graph.mk [] []) [] 0 []) (api_Part.mk [] []) (api_Morphism.mk [] []) false (api_Condition.mk 0 [] (api_Morphism.mk [] []) (api_Pattern.mk (api_Graph.mk [] []) [] 0 []))))) ag_37 rfl rfl rfl) (.cons (.tmp (A := I_ 13) rfl) .nil))) (fun y hy => by cases hy; rfl)
  refine J_skip ?_
  refine J_seq ?_
  refine J_region rfl ?_
  refine r_lda (c_api_Rule t1) ag_37 rfl rfl rfl rfl ?_
  refine R_bind fun b9 h10 => ?_
  refine r_call _ fn_39 (k_rule_plain _ _ h10) rfl rfl ?_
  refine r_alloc 1 _ z_37 rfl rfl ?_
  refine r_stO (AObj 1) (AAgg (c_api_Rule b9)) (c_api_Rule b9) sz_37 rfl .obj rfl rfl rfl rfl rfl rfl ?_
  refine R_nil0 ?_
  refine J_seq ?_
  refine J_region rfl ?_
  refine r_faO (AObj 1) 6 fo_37_2 rfl .obj rfl rfl rfl ?_
  refine r_ldaO (ABoxAt 1 6) (c_api_Pattern b9.Right) ag_29 rfl .at rfl rfl rfl rfl ?_
  refine r_faO (AObj 1) 1 fo_37_1 rfl .obj rfl rfl rfl ?_
  refine r_ldaO (ABoxAt 1 1) (c_api_Pattern b9.Left) ag_29 rfl .at rfl rfl rfl rfl ?_
  refine r_faO (AObj 1) 1 fo_37_1 rfl .obj rfl rfl rfl ?_
  refine r_stO (ABoxAt 1 1) (AAgg (c_api_Pattern b9.Right)) (c_api_Rule (api_Rule.mk b9.Name b9.Right b9.Right b9.Keep b9.Into b9.Injective b9.Condition)) sz_29 rfl .at rfl rfl rfl rfl rfl rfl ?_
  refine r_faO (AObj 1) 6 fo_37_2 rfl .obj rfl rfl rfl ?_
  refine r_stO (ABoxAt 1 6) (AAgg (c_api_Pattern b9.Left)) (c_api_Rule (api_Rule.mk b9.Name b9.Right b9.Left b9.Keep b9.Into b9.Injective b9.Condition)) sz_29 rfl .at rfl rfl rfl rfl rfl rfl ?_
  refine R_nil0 ?_
  refine J_seq ?_
  refine J_region rfl ?_
  refine r_faT (c_api_Part t1.Keep) fo_37_3 rfl rfl rfl ?_
  refine r_faT ((cL 1 c_i64) t1.Keep.Nodes) fo_31_0 rfl rfl rfl ?_
  refine r_ld (AL 1 c_i64 t1.Keep.Nodes) sc_22 rfl rfl rfl ?_
  refine r_faT (c_api_Morphism t1.Into) fo_37_4 rfl rfl rfl ?_
  refine r_faT ((cL 1 c_i64) t1.Into.Nodes) fo_32_0 rfl rfl rfl ?_
  refine r_ld (AL 1 c_i64 t1.Into.Nodes) sc_22 rfl rfl rfl ?_
  refine R_bind fun b11 h12 => ?_
  refine r_call _ fn_61 (k_rule_turned _ _ _ h12) rfl rfl ?_
  refine r_move (ATup [AL 1 c_i64 b11.1, AL 1 c_i64 b11.2]) rfl rfl ?_
  refine r_ext (AL 1 c_i64 b11.1) rfl rfl rfl ?_
  refine r_ext (AL 1 c_i64 b11.2) rfl rfl rfl ?_
  refine r_faO (AObj 1) 11 fo_37_3 rfl .obj rfl rfl rfl ?_
  refine r_faO (ABoxAt 1 11) 11 fo_31_0 rfl .at rfl rfl rfl ?_
  refine r_stO (ABoxAt 1 11) (AL 1 c_i64 b11.1) (c_api_Rule (api_Rule.mk b9.Name b9.Right b9.Left (api_Part.mk b11.1 b9.Keep.Edges) b9.Into b9.Injective b9.Condition)) sz_22 rfl .at rfl rfl rfl rfl rfl rfl ?_
  refine r_faO (AObj 1) 13 fo_37_4 rfl .obj rfl rfl rfl ?_
  refine r_faO (ABoxAt 1 13) 13 fo_32_0 rfl .at rfl rfl rfl ?_
  refine r_stO (ABoxAt 1 13) (AL 1 c_i64 b11.2) (c_api_Rule (api_Rule.mk b9.Name b9.Right b9.Left (api_Part.mk b11.1 b9.Keep.Edges) (api_Morphism.mk b11.2 b9.Into.Edges) b9.Injective b9.Condition)) sz_22 rfl .at rfl rfl rfl rfl rfl rfl ?_
  refine R_nil0 ?_
  refine J_seq ?_
  refine J_region rfl ?_
  refine r_faT (c_api_Part t1.Keep) fo_37_3 rfl rfl rfl ?_
  refine r_faT ((cL 1 c_i64) t1.Keep.Edges) fo_31_1 rfl rfl rfl ?_
  refine r_ld (AL 1 c_i64 t1.Keep.Edges) sc_22 rfl rfl rfl ?_
  refine r_faT (c_api_Morphism t1.Into) fo_37_4 rfl rfl rfl ?_
  refine r_faT ((cL 1 c_i64) t1.Into.Edges) fo_32_1 rfl rfl rfl ?_
  refine r_ld (AL 1 c_i64 t1.Into.Edges) sc_22 rfl rfl rfl ?_
  refine R_bind fun b13 h14 => ?_
  refine r_call _ fn_61 (k_rule_turned _ _ _ h14) rfl rfl ?_
  refine r_move (ATup [AL 1 c_i64 b13.1, AL 1 c_i64 b13.2]) rfl rfl ?_
  refine r_ext (AL 1 c_i64 b13.1) rfl rfl rfl ?_
  refine r_ext (AL 1 c_i64 b13.2) rfl rfl rfl ?_
  refine r_faO (AObj 1) 11 fo_37_3 rfl .obj rfl rfl rfl ?_
  refine r_faO (ABoxAt 1 11) 12 fo_31_1 rfl .at rfl rfl rfl ?_
  refine r_stO (ABoxAt 1 12) (AL 1 c_i64 b13.1) (c_api_Rule (api_Rule.mk b9.Name b9.Right b9.Left (api_Part.mk b11.1 b13.1) (api_Morphism.mk b11.2 b9.Into.Edges) b9.Injective b9.Condition)) sz_22 rfl .at rfl rfl rfl rfl rfl rfl ?_
  refine r_faO (AObj 1) 13 fo_37_4 rfl .obj rfl rfl rfl ?_
  refine r_faO (ABoxAt 1 13) 14 fo_32_1 rfl .at rfl rfl rfl ?_
  refine r_stO (ABoxAt 1 14) (AL 1 c_i64 b13.2) (c_api_Rule (api_Rule.mk b9.Name b9.Right b9.Left (api_Part.mk b11.1 b13.1) (api_Morphism.mk b11.2 b13.2) b9.Injective b9.Condition)) sz_22 rfl .at rfl rfl rfl rfl rfl rfl ?_
  refine R_nil0 ?_
  refine J_seq ?_
  refine J_region rfl ?_
  refine r_ldaO (AObj 1) (c_api_Rule (api_Rule.mk b9.Name b9.Right b9.Left (api_Part.mk b11.1 b13.1) (api_Morphism.mk b11.2 b13.2) b9.Injective b9.Condition)) ag_37 rfl .obj rfl rfl rfl rfl ?_
  refine r_stO (AObj 0) (AAgg (c_api_Rule (api_Rule.mk b9.Name b9.Right b9.Left (api_Part.mk b11.1 b13.1) (api_Morphism.mk b11.2 b13.2) b9.Injective b9.Condition))) (c_api_Rule (api_Rule.mk b9.Name b9.Right b9.Left (api_Part.mk b11.1 b13.1) (api_Morphism.mk b11.2 b13.2) b9.Injective b9.Condition)) sz_37 rfl .obj rfl rfl rfl rfl rfl rfl ?_
  refine r_assign (I_ 0) rfl rfl ?_
  refine R_nil0 ?_
  exact J_ret hΨ (Res_many (As := [AAgg (c_api_Rule (api_Rule.mk b9.Name b9.Right b9.Left (api_Part.mk b11.1 b13.1) (api_Morphism.mk b11.2 b13.2) b9.Injective b9.Condition)), I_ 0]) rfl rfl (.cons (.boxA (cs := (c_api_Rule (api_Rule.mk b9.Name b9.Right b9.Left (api_Part.mk b11.1 b13.1) (api_Morphism.mk b11.2 b13.2) b9.Injective b9.Condition))) ag_37 rfl rfl rfl) (.cons (.tmp (A := I_ 0) rfl) .nil))) (fun y hy => by cases hy; rfl)
theorem k_rule_Deleted (t0 : api_Types) (t1 : api_Rule) (r : (List Int) × (List Int) × Int) (hr : rule_Deleted t0 t1 = some r) : FnP PP 17 [AAgg (c_api_Types t0), AAgg (c_api_Rule t1)] (ATup [AL 1 c_i64 r.1, AL 1 c_i64 r.2.1, I_ r.2.2]) := by
  refine FnP.of mixed_ Tryz.func17 rfl (n := 23) rfl (fun (r : (List Int) × (List Int) × Int) => ATup [AL 1 c_i64 r.1, AL 1 c_i64 r.2.1, I_ r.2.2]) nk_args NK.nk rfl hr fun X hΨ => ?_
  refine J_seq ?_
  refine J_region rfl ?_
  refine r_boxV (AAgg (c_api_Types t0)) rfl rfl ?_
  refine r_boxV (AAgg (c_api_Rule t1)) rfl rfl ?_
  refine r_assign (ANil) rfl rfl ?_
  refine r_assign (ANil) rfl rfl ?_
  refine r_assign (I_ 0) rfl rfl ?_
  refine R_nil0 ?_
  refine J_seq ?_
  refine J_seq ?_
  refine J_region rfl ?_
  refine r_lda (c_api_Types t0) ag_59 rfl rfl rfl rfl ?_
  refine r_lda (c_api_Rule t1) ag_37 rfl rfl rfl rfl ?_
  refine R_bind fun b1 h2 => ?_
  refine r_call _ fn_25 (k_rule_Valid _ _ _ h2) rfl rfl ?_
  refine r_assign (I_ b1) rfl rfl ?_
  refine R_nil0 ?_
  refine J_seq ?_
  refine J_region rfl ?_
  refine r_move (I_ b1) rfl rfl ?_
  refine r_neq rfl rfl rfl ?_
  refine R_nil0 ?_
  refine J_cond_p rfl (fun h3 => ?_) (fun h3 => ?_)
  · refine J_seq ?_
    refine J_region rfl ?_
    refine r_move (I_ b1) rfl rfl ?_
    refine r_assign (ANil) rfl rfl ?_
    refine r_assign (ANil) rfl rfl ?_
    refine r_assign (I_ b1) rfl rfl ?_
    refine R_nil0 ?_
    exact J_retF hΨ (Res_many (As := [ANil, ANil, I_ b1]) rfl rfl (.cons (.tmp (A := ANil) rfl) (.cons (.tmp (A := ANil) rfl) (.cons (.tmp (A := I_ b1) rfl) .nil)))) (fun y hy => by cases hy; exact (.tup (.cons .nil (.cons .nil (.cons .same .nil)))))
  refine J_skip ?_
  refine J_seq ?_
  refine J_region rfl ?_
  refine r_lda (c_api_Rule t1) ag_37 rfl rfl rfl rfl ?_
  refine R_bind fun b4 h5 => ?_
  refine r_call _ fn_59 (k_rule_deleted _ _ h5) rfl rfl ?_
  refine r_move (ATup [AL 1 c_i64 b4.1, AL 1 c_i64 b4.2]) rfl rfl ?_
  refine r_ext (AL 1 c_i64 b4.1) rfl rfl rfl ?_
  refine r_ext (AL 1 c_i64 b4.2) rfl rfl rfl ?_
  refine r_assign (AL 1 c_i64 b4.1) rfl rfl ?_
  refine r_assign (AL 1 c_i64 b4.2) rfl rfl ?_
  refine R_nil0 ?_
  refine J_seq ?_
  refine J_region rfl ?_
  refine r_move (AL 1 c_i64 b4.1) rfl rfl ?_
  refine r_move (AL 1 c_i64 b4.2) rfl rfl ?_
  refine r_assign (AL 1 c_i64 b4.1) rfl rfl ?_
  refine r_assign (AL 1 c_i64 b4.2) rfl rfl ?_
  refine r_assign (I_ 0) rfl rfl ?_
  refine R_nil0 ?_
  exact J_ret hΨ (Res_many (As := [AL 1 c_i64 b4.1, AL 1 c_i64 b4.2, I_ 0]) rfl rfl (.cons (.tmp (A := AL 1 c_i64 b4.1) rfl) (.cons (.tmp (A := AL 1 c_i64 b4.2) rfl) (.cons (.tmp (A := I_ 0) rfl) .nil)))) (fun y hy => by cases hy; rfl)
theorem k_rule_Created (t0 : api_Types) (t1 : api_Rule) (r : (List Int) × (List Int) × Int) (hr : rule_Created t0 t1 = some r) : FnP PP 18 [AAgg (c_api_Types t0), AAgg (c_api_Rule t1)] (ATup [AL 1 c_i64 r.1, AL 1 c_i64 r.2.1, I_ r.2.2]) := by
  refine FnP.of mixed_ Tryz.func18 rfl (n := 23) rfl (fun (r : (List Int) × (List Int) × Int) => ATup [AL 1 c_i64 r.1, AL 1 c_i64 r.2.1, I_ r.2.2]) nk_args NK.nk rfl hr fun X hΨ => ?_
  refine J_seq ?_
  refine J_region rfl ?_
  refine r_boxV (AAgg (c_api_Types t0)) rfl rfl ?_
  refine r_boxV (AAgg (c_api_Rule t1)) rfl rfl ?_
  refine r_assign (ANil) rfl rfl ?_
  refine r_assign (ANil) rfl rfl ?_
  refine r_assign (I_ 0) rfl rfl ?_
  refine R_nil0 ?_
  refine J_seq ?_
  refine J_seq ?_
  refine J_region rfl ?_
  refine r_lda (c_api_Types t0) ag_59 rfl rfl rfl rfl ?_
  refine r_lda (c_api_Rule t1) ag_37 rfl rfl rfl rfl ?_
  refine R_bind fun b1 h2 => ?_
  refine r_call _ fn_25 (k_rule_Valid _ _ _ h2) rfl rfl ?_
  refine r_assign (I_ b1) rfl rfl ?_
  refine R_nil0 ?_
  refine J_seq ?_
  refine J_region rfl ?_
  refine r_move (I_ b1) rfl rfl ?_
  refine r_neq rfl rfl rfl ?_
  refine R_nil0 ?_
  refine J_cond_p rfl (fun h3 => ?_) (fun h3 => ?_)
  · refine J_seq ?_
    refine J_region rfl ?_
    refine r_move (I_ b1) rfl rfl ?_
    refine r_assign (ANil) rfl rfl ?_
    refine r_assign (ANil) rfl rfl ?_
    refine r_assign (I_ b1) rfl rfl ?_
    refine R_nil0 ?_
    exact J_retF hΨ (Res_many (As := [ANil, ANil, I_ b1]) rfl rfl (.cons (.tmp (A := ANil) rfl) (.cons (.tmp (A := ANil) rfl) (.cons (.tmp (A := I_ b1) rfl) .nil)))) (fun y hy => by cases hy; exact (.tup (.cons .nil (.cons .nil (.cons .same .nil)))))
  refine J_skip ?_
  refine J_seq ?_
  refine J_region rfl ?_
  refine r_lda (c_api_Rule t1) ag_37 rfl rfl rfl rfl ?_
  refine R_bind fun b4 h5 => ?_
  refine r_call _ fn_62 (k_rule_created _ _ h5) rfl rfl ?_
  refine r_move (ATup [AL 1 c_i64 b4.1, AL 1 c_i64 b4.2]) rfl rfl ?_
  refine r_ext (AL 1 c_i64 b4.1) rfl rfl rfl ?_
  refine r_ext (AL 1 c_i64 b4.2) rfl rfl rfl ?_
  refine r_assign (AL 1 c_i64 b4.1) rfl rfl ?_
  refine r_assign (AL 1 c_i64 b4.2) rfl rfl ?_
  refine R_nil0 ?_
  refine J_seq ?_
  refine J_region rfl ?_
  refine r_move (AL 1 c_i64 b4.1) rfl rfl ?_
  refine r_move (AL 1 c_i64 b4.2) rfl rfl ?_
  refine r_assign (AL 1 c_i64 b4.1) rfl rfl ?_
  refine r_assign (AL 1 c_i64 b4.2) rfl rfl ?_
  refine r_assign (I_ 0) rfl rfl ?_
  refine R_nil0 ?_
  exact J_ret hΨ (Res_many (As := [AL 1 c_i64 b4.1, AL 1 c_i64 b4.2, I_ 0]) rfl rfl (.cons (.tmp (A := AL 1 c_i64 b4.1) rfl) (.cons (.tmp (A := AL 1 c_i64 b4.2) rfl) (.cons (.tmp (A := I_ 0) rfl) .nil)))) (fun y hy => by cases hy; rfl)
theorem k_slices_Equal_int (t0 : (List Int)) (t1 : (List Int)) (r : Bool) (hr : slices_Equal_int t0 t1 = some r) : FnP PP 19 [AL 1 c_i64 t0, AL 1 c_i64 t1] (ABool r) := by
  refine FnP.of mixed_ Tryz.func19 rfl (n := 26) rfl (fun (r : Bool) => ABool r) nk_args NK.nk rfl hr fun X hΨ => ?_
  refine J_seq ?_
  refine J_region rfl ?_
  refine r_assign (ABool false) rfl rfl ?_
  refine R_nil0 ?_
  refine J_seq ?_
  refine J_seq ?_
  refine J_region rfl ?_
  refine r_move (AL 1 c_i64 t0) rfl rfl ?_
  refine r_len (cc := c_i64) il_22 rfl rfl ?_
  refine r_move (AL 1 c_i64 t1) rfl rfl ?_
  refine r_len (cc := c_i64) il_22 rfl rfl ?_
  refine r_neq rfl rfl rfl ?_
  refine R_nil0 ?_
  refine J_cond_p rfl (fun h1 => ?_) (fun h1 => ?_)
  · refine J_seq ?_
    refine J_region rfl ?_
    refine r_assign (ABool false) rfl rfl ?_
    refine R_nil0 ?_
    exact J_ret hΨ (Res_one rfl) (fun y hy => by cases hy; rfl)
  refine J_skip ?_
  refine J_seq ?_
  refine J_seq ?_
  refine J_region rfl ?_
  refine r_move (AL 1 c_i64 t0) rfl rfl ?_
  refine r_len (cc := c_i64) il_22 rfl rfl ?_
  refine r_move (I_ 0) rfl rfl ?_
  refine R_nil0 ?_
  refine J_block ?_
  refine J_to [(0, AL 1 c_i64 t0), (1, AL 1 c_i64 t1), (7, I_ (t0.length : Int)), (9, I_ (t1.length : Int)), (12, I_ (t0.length : Int)), (13, I_ 0)] (.cons rfl (.cons rfl (.cons rfl (.cons rfl (.cons rfl (.cons rfl .nil)))))) ?_
  refine J_it (fun x2 => ⟨fr [(0, AL 1 c_i64 t0), (1, AL 1 c_i64 t1), (7, I_ (t0.length : Int)), (9, I_ (t1.length : Int)), (12, I_ (t0.length : Int)), (13, I_ x2)], fun _ => none, 0⟩) (fun E3 hE3 x2 => ?_) (by rfl)
  refine J_seq ?_
  refine J_region rfl ?_
  refine r_lss rfl rfl rfl ?_
  refine R_nil0 ?_
  refine J_seq ?_
  refine J_cond_p rfl (fun h8 => ?_) (fun h8 => ?_)
  rotate_left
  · refine J_exit rfl ?_
    refine J_outS ?_
    refine J_seq ?_
    refine J_region rfl ?_
    refine r_assign (ABool true) rfl rfl ?_
    refine R_nil0 ?_
    exact J_ret hΨ (Res_one rfl) (fun y hy => by cases hy; rfl)
  refine J_skip ?_
  refine J_seq ?_
  refine J_block ?_
  refine J_seq ?_
  refine J_region rfl ?_
  refine r_move (I_ x2) rfl rfl ?_
  refine r_assign (I_ x2) rfl rfl ?_
  refine R_nil0 ?_
  refine J_seq ?_
  refine J_draw ?_
  refine r_move (AL 1 c_i64 t0) rfl rfl ?_
  refine r_move (I_ x2) rfl rfl ?_
  refine R_if (fun h9 => ?_) (fun _ => R_none)
  refine r_ix (cc := c_i64) el_22 rfl rfl h9.1 h9.2 rfl ?_
  refine r_ld (I_ (nth t0 x2)) sc_3 rfl rfl rfl ?_
  refine r_move (AL 1 c_i64 t1) rfl rfl ?_
  refine r_move (I_ x2) rfl rfl ?_
  refine R_if (fun h10 => ?_) (fun _ => R_none)
  refine r_ix (cc := c_i64) el_22 rfl rfl h10.1 h10.2 rfl ?_
  refine r_ld (I_ (nth t1 x2)) sc_3 rfl rfl rfl ?_
  refine r_neq rfl rfl rfl ?_
  refine R_nilD rfl ?_
  refine J_cond_p rfl (fun h11 => ?_) (fun h11 => ?_)
  · refine J_seq ?_
    refine J_region rfl ?_
    refine r_assign (ABool false) rfl rfl ?_
    refine R_nil0 ?_
    refine J_outS ?_
    exact J_ret hΨ (Res_one rfl) (fun y hy => by cases hy; rfl)
  refine J_skip ?_
  refine J_inBlock ?_
  refine J_range 7 (m := (t0.length : Int)) rfl fun q12 => ?_
  refine J_range 5 (m := x2) rfl fun q13 => ?_
  refine J_region rfl ?_
  refine r_add (x2 + 1) rfl rfl (wrap_i64 (by omega) (by omega)) rfl ?_
  refine r_move (I_ (x2 + 1)) rfl rfl ?_
  refine R_nil0 ?_
  refine J_go ?_
  refine J_to [(0, AL 1 c_i64 t0), (1, AL 1 c_i64 t1), (7, I_ (t0.length : Int)), (9, I_ (t1.length : Int)), (12, I_ (t0.length : Int)), (13, I_ (x2 + 1))] (.cons rfl (.cons rfl (.cons rfl (.cons rfl (.cons rfl (.cons rfl .nil)))))) ?_
  exact hE3 (x2 + 1)
theorem k_ref04_Example  (r : api_Types) (hr : ref04_Example  = some r) : FnP PP 31 [] (AAgg (c_api_Types r)) := by
  refine FnP.of mixed_ Tryz.func31 rfl (n := 15) rfl (fun (r : api_Types) => AAgg (c_api_Types r)) nk_args NK.nk rfl hr fun X hΨ => ?_
  refine J_seq ?_
  refine J_region rfl ?_
  refine r_alloc 0 _ z_59 rfl rfl ?_
  refine R_nil0 ?_
  refine J_seq ?_
  refine J_region rfl ?_
  refine r_buildI (Cs := [AStr (ByteArray.mk #[98, 97, 108, 97, 110, 99, 101]), I_ (-1000), I_ 1000, ANil]) (c_api_Attr (api_Attr.mk (ByteArray.mk #[98, 97, 108, 97, 110, 99, 101]) (-1000) 1000 [])) pl_109 z_109 (.cons (A := AStr (ByteArray.mk #[98, 97, 108, 97, 110, 99, 101])) rfl po_109_0 rfl (.cons (A := I_ (-1000)) rfl po_109_1 rfl (.cons (A := I_ 1000) rfl po_109_2 rfl .nil))) rfl (.same (.same (.same (.nl .nil)))) rfl ?_
  refine r_bs (cc := c_api_Attr) [(api_Attr.mk (ByteArray.mk #[98, 97, 108, 97, 110, 99, 101]) (-1000) 1000 [])] el_104 zr_109_1 (.cons (A := AAgg (c_api_Attr (api_Attr.mk (ByteArray.mk #[98, 97, 108, 97, 110, 99, 101]) (-1000) 1000 []))) rfl rfl rfl .nil) rfl rfl rfl ?_
  refine r_build (c_api_NodeType (api_NodeType.mk (ByteArray.mk #[65, 99, 99, 111, 117, 110, 116]) (-1) true [(api_Attr.mk (ByteArray.mk #[98, 97, 108, 97, 110, 99, 101]) (-1000) 1000 [])])) pl_106 z_106 (.cons (A := AStr (ByteArray.mk #[65, 99, 99, 111, 117, 110, 116])) rfl po_106_0 rfl (.cons (A := I_ (-1)) rfl po_106_1 rfl (.cons (A := ABool true) rfl po_106_2 rfl (.cons (A := AL 4 c_api_Attr [(api_Attr.mk (ByteArray.mk #[98, 97, 108, 97, 110, 99, 101]) (-1000) 1000 [])]) rfl po_106_3 rfl .nil)))) rfl rfl ?_
  refine r_buildI (Cs := [AStr (ByteArray.mk #[67, 97, 115, 104]), I_ 0, ABool false, ANil]) (c_api_NodeType (api_NodeType.mk (ByteArray.mk #[67, 97, 115, 104]) 0 false [])) pl_106 z_106 (.cons (A := AStr (ByteArray.mk #[67, 97, 115, 104])) rfl po_106_0 rfl (.cons (A := I_ 0) rfl po_106_1 rfl .nil)) rfl (.same (.same (.same (.nl .nil)))) rfl ?_
  refine r_bs (cc := c_str) [(ByteArray.mk #[111, 112, 101, 110]), (ByteArray.mk #[99, 108, 111, 115, 101, 100])] el_107 zr_9_2 (.cons (A := AStr (ByteArray.mk #[111, 112, 101, 110])) rfl rfl rfl (.cons (A := AStr (ByteArray.mk #[99, 108, 111, 115, 101, 100])) rfl rfl rfl .nil)) rfl rfl rfl ?_
  refine r_build (c_api_Attr (api_Attr.mk (ByteArray.mk #[115, 116, 97, 116, 101]) 0 1 [(ByteArray.mk #[111, 112, 101, 110]), (ByteArray.mk #[99, 108, 111, 115, 101, 100])])) pl_109 z_109 (.cons (A := AStr (ByteArray.mk #[115, 116, 97, 116, 101])) rfl po_109_0 rfl (.cons (A := I_ 1) rfl po_109_2 rfl (.cons (A := AL 1 c_str [(ByteArray.mk #[111, 112, 101, 110]), (ByteArray.mk #[99, 108, 111, 115, 101, 100])]) rfl po_109_3 rfl .nil))) rfl rfl ?_
  refine r_bs (cc := c_api_Attr) [(api_Attr.mk (ByteArray.mk #[115, 116, 97, 116, 101]) 0 1 [(ByteArray.mk #[111, 112, 101, 110]), (ByteArray.mk #[99, 108, 111, 115, 101, 100])])] el_104 zr_109_1 (.cons (A := AAgg (c_api_Attr (api_Attr.mk (ByteArray.mk #[115, 116, 97, 116, 101]) 0 1 [(ByteArray.mk #[111, 112, 101, 110]), (ByteArray.mk #[99, 108, 111, 115, 101, 100])]))) rfl rfl rfl .nil) rfl rfl rfl ?_
  refine r_build (c_api_NodeType (api_NodeType.mk (ByteArray.mk #[76, 111, 97, 110]) 0 false [(api_Attr.mk (ByteArray.mk #[115, 116, 97, 116, 101]) 0 1 [(ByteArray.mk #[111, 112, 101, 110]), (ByteArray.mk #[99, 108, 111, 115, 101, 100])])])) pl_106 z_106 (.cons (A := AStr (ByteArray.mk #[76, 111, 97, 110])) rfl po_106_0 rfl (.cons (A := I_ 0) rfl po_106_1 rfl (.cons (A := AL 4 c_api_Attr [(api_Attr.mk (ByteArray.mk #[115, 116, 97, 116, 101]) 0 1 [(ByteArray.mk #[111, 112, 101, 110]), (ByteArray.mk #[99, 108, 111, 115, 101, 100])])]) rfl po_106_3 rfl .nil))) rfl rfl ?_
  refine r_buildI (Cs := [AStr (ByteArray.mk #[80, 101, 114, 115, 111, 110]), I_ (-1), ABool false, ANil]) (c_api_NodeType (api_NodeType.mk (ByteArray.mk #[80, 101, 114, 115, 111, 110]) (-1) false [])) pl_106 z_106 (.cons (A := AStr (ByteArray.mk #[80, 101, 114, 115, 111, 110])) rfl po_106_0 rfl (.cons (A := I_ (-1)) rfl po_106_1 rfl .nil)) rfl (.same (.same (.same (.nl .nil)))) rfl ?_
  refine r_bs (cc := c_api_NodeType) [(api_NodeType.mk (ByteArray.mk #[65, 99, 99, 111, 117, 110, 116]) (-1) true [(api_Attr.mk (ByteArray.mk #[98, 97, 108, 97, 110, 99, 101]) (-1000) 1000 [])]), (api_NodeType.mk (ByteArray.mk #[67, 97, 115, 104]) 0 false []), (api_NodeType.mk (ByteArray.mk #[76, 111, 97, 110]) 0 false [(api_Attr.mk (ByteArray.mk #[115, 116, 97, 116, 101]) 0 1 [(ByteArray.mk #[111, 112, 101, 110]), (ByteArray.mk #[99, 108, 111, 115, 101, 100])])]), (api_NodeType.mk (ByteArray.mk #[80, 101, 114, 115, 111, 110]) (-1) false [])] el_56 zr_106_4 (.cons (A := AAgg (c_api_NodeType (api_NodeType.mk (ByteArray.mk #[65, 99, 99, 111, 117, 110, 116]) (-1) true [(api_Attr.mk (ByteArray.mk #[98, 97, 108, 97, 110, 99, 101]) (-1000) 1000 [])]))) rfl rfl rfl (.cons (A := AAgg (c_api_NodeType (api_NodeType.mk (ByteArray.mk #[67, 97, 115, 104]) 0 false []))) rfl rfl rfl (.cons (A := AAgg (c_api_NodeType (api_NodeType.mk (ByteArray.mk #[76, 111, 97, 110]) 0 false [(api_Attr.mk (ByteArray.mk #[115, 116, 97, 116, 101]) 0 1 [(ByteArray.mk #[111, 112, 101, 110]), (ByteArray.mk #[99, 108, 111, 115, 101, 100])])]))) rfl rfl rfl (.cons (A := AAgg (c_api_NodeType (api_NodeType.mk (ByteArray.mk #[80, 101, 114, 115, 111, 110]) (-1) false []))) rfl rfl rfl .nil)))) rfl rfl rfl ?_
  refine r_build (c_api_EdgeType (api_EdgeType.mk (ByteArray.mk #[111, 119, 110, 115]) 3 0 0 (-1) 1 1)) pl_111 z_111 (.cons (A := AStr (ByteArray.mk #[111, 119, 110, 115])) rfl po_111_0 rfl (.cons (A := I_ 3) rfl po_111_1 rfl (.cons (A := I_ 0) rfl po_111_2 rfl (.cons (A := I_ (-1)) rfl po_111_4 rfl (.cons (A := I_ 1) rfl po_111_5 rfl (.cons (A := I_ 1) rfl po_111_6 rfl .nil)))))) rfl rfl ?_
  refine r_build (c_api_EdgeType (api_EdgeType.mk (ByteArray.mk #[112, 97, 121, 115]) 1 1 0 (-1) 0 (-1))) pl_111 z_111 (.cons (A := AStr (ByteArray.mk #[112, 97, 121, 115])) rfl po_111_0 rfl (.cons (A := I_ 1) rfl po_111_1 rfl (.cons (A := I_ 1) rfl po_111_2 rfl (.cons (A := I_ (-1)) rfl po_111_4 rfl (.cons (A := I_ (-1)) rfl po_111_6 rfl .nil))))) rfl rfl ?_
  refine r_bs (cc := c_api_EdgeType) [(api_EdgeType.mk (ByteArray.mk #[111, 119, 110, 115]) 3 0 0 (-1) 1 1), (api_EdgeType.mk (ByteArray.mk #[112, 97, 121, 115]) 1 1 0 (-1) 0 (-1))] el_57 zr_111_2 (.cons (A := AAgg (c_api_EdgeType (api_EdgeType.mk (ByteArray.mk #[111, 119, 110, 115]) 3 0 0 (-1) 1 1))) rfl rfl rfl (.cons (A := AAgg (c_api_EdgeType (api_EdgeType.mk (ByteArray.mk #[112, 97, 121, 115]) 1 1 0 (-1) 0 (-1)))) rfl rfl rfl .nil)) rfl rfl rfl ?_
  refine r_build (c_api_Types (api_Types.mk [(api_NodeType.mk (ByteArray.mk #[65, 99, 99, 111, 117, 110, 116]) (-1) true [(api_Attr.mk (ByteArray.mk #[98, 97, 108, 97, 110, 99, 101]) (-1000) 1000 [])]), (api_NodeType.mk (ByteArray.mk #[67, 97, 115, 104]) 0 false []), (api_NodeType.mk (ByteArray.mk #[76, 111, 97, 110]) 0 false [(api_Attr.mk (ByteArray.mk #[115, 116, 97, 116, 101]) 0 1 [(ByteArray.mk #[111, 112, 101, 110]), (ByteArray.mk #[99, 108, 111, 115, 101, 100])])]), (api_NodeType.mk (ByteArray.mk #[80, 101, 114, 115, 111, 110]) (-1) false [])] [(api_EdgeType.mk (ByteArray.mk #[111, 119, 110, 115]) 3 0 0 (-1) 1 1), (api_EdgeType.mk (ByteArray.mk #[112, 97, 121, 115]) 1 1 0 (-1) 0 (-1))])) pl_59 z_59 (.cons (A := AL 4 c_api_NodeType [(api_NodeType.mk (ByteArray.mk #[65, 99, 99, 111, 117, 110, 116]) (-1) true [(api_Attr.mk (ByteArray.mk #[98, 97, 108, 97, 110, 99, 101]) (-1000) 1000 [])]), (api_NodeType.mk (ByteArray.mk #[67, 97, 115, 104]) 0 false []), (api_NodeType.mk (ByteArray.mk #[76, 111, 97, 110]) 0 false [(api_Attr.mk (ByteArray.mk #[115, 116, 97, 116, 101]) 0 1 [(ByteArray.mk #[111, 112, 101, 110]), (ByteArray.mk #[99, 108, 111, 115, 101, 100])])]), (api_NodeType.mk (ByteArray.mk #[80, 101, 114, 115, 111, 110]) (-1) false [])]) rfl po_59_0 rfl (.cons (A := AL 7 c_api_EdgeType [(api_EdgeType.mk (ByteArray.mk #[111, 119, 110, 115]) 3 0 0 (-1) 1 1), (api_EdgeType.mk (ByteArray.mk #[112, 97, 121, 115]) 1 1 0 (-1) 0 (-1))]) rfl po_59_1 rfl .nil)) rfl rfl ?_
  refine r_stO (AObj 0) (AAgg (c_api_Types (api_Types.mk [(api_NodeType.mk (ByteArray.mk #[65, 99, 99, 111, 117, 110, 116]) (-1) true [(api_Attr.mk (ByteArray.mk #[98, 97, 108, 97, 110, 99, 101]) (-1000) 1000 [])]), (api_NodeType.mk (ByteArray.mk #[67, 97, 115, 104]) 0 false []), (api_NodeType.mk (ByteArray.mk #[76, 111, 97, 110]) 0 false [(api_Attr.mk (ByteArray.mk #[115, 116, 97, 116, 101]) 0 1 [(ByteArray.mk #[111, 112, 101, 110]), (ByteArray.mk #[99, 108, 111, 115, 101, 100])])]), (api_NodeType.mk (ByteArray.mk #[80, 101, 114, 115, 111, 110]) (-1) false [])] [(api_EdgeType.mk (ByteArray.mk #[111, 119, 110, 115]) 3 0 0 (-1) 1 1), (api_EdgeType.mk (ByteArray.mk #[112, 97, 121, 115]) 1 1 0 (-1) 0 (-1))]))) (c_api_Types (api_Types.mk [(api_NodeType.mk (ByteArray.mk #[65, 99, 99, 111, 117, 110, 116]) (-1) true [(api_Attr.mk (ByteArray.mk #[98, 97, 108, 97, 110, 99, 101]) (-1000) 1000 [])]), (api_NodeType.mk (ByteArray.mk #[67, 97, 115, 104]) 0 false []), (api_NodeType.mk (ByteArray.mk #[76, 111, 97, 110]) 0 false [(api_Attr.mk (ByteArray.mk #[115, 116, 97, 116, 101]) 0 1 [(ByteArray.mk #[111, 112, 101, 110]), (ByteArray.mk #[99, 108, 111, 115, 101, 100])])]), (api_NodeType.mk (ByteArray.mk #[80, 101, 114, 115, 111, 110]) (-1) false [])] [(api_EdgeType.mk (ByteArray.mk #[111, 119, 110, 115]) 3 0 0 (-1) 1 1), (api_EdgeType.mk (ByteArray.mk #[112, 97, 121, 115]) 1 1 0 (-1) 0 (-1))])) sz_59 rfl .obj rfl rfl rfl rfl rfl rfl ?_
  refine R_nil0 ?_
  exact J_ret hΨ (Res_box rfl (.boxA (cs := (c_api_Types (api_Types.mk [(api_NodeType.mk (ByteArray.mk #[65, 99, 99, 111, 117, 110, 116]) (-1) true [(api_Attr.mk (ByteArray.mk #[98, 97, 108, 97, 110, 99, 101]) (-1000) 1000 [])]), (api_NodeType.mk (ByteArray.mk #[67, 97, 115, 104]) 0 false []), (api_NodeType.mk (ByteArray.mk #[76, 111, 97, 110]) 0 false [(api_Attr.mk (ByteArray.mk #[115, 116, 97, 116, 101]) 0 1 [(ByteArray.mk #[111, 112, 101, 110]), (ByteArray.mk #[99, 108, 111, 115, 101, 100])])]), (api_NodeType.mk (ByteArray.mk #[80, 101, 114, 115, 111, 110]) (-1) false [])] [(api_EdgeType.mk (ByteArray.mk #[111, 119, 110, 115]) 3 0 0 (-1) 1 1), (api_EdgeType.mk (ByteArray.mk #[112, 97, 121, 115]) 1 1 0 (-1) 0 (-1))]))) ag_59 rfl rfl rfl)) (fun y hy => by cases hy; rfl)
theorem k_law24_example  (r : api_Rule) (hr : law24_example  = some r) : FnP PP 32 [] (AAgg (c_api_Rule r)) := by
  refine FnP.of mixed_ Tryz.func32 rfl (n := 24) rfl (fun (r : api_Rule) => AAgg (c_api_Rule r)) nk_args NK.nk rfl hr fun X hΨ => ?_
  refine J_seq ?_
  refine J_region rfl ?_
  refine r_alloc 0 _ z_37 rfl rfl ?_
  refine R_nil0 ?_
  refine J_seq ?_
  refine J_region rfl ?_
  refine r_bs (cc := c_i64) [3, 1] el_22 zr_3_2 (.cons (A := I_ 3) rfl rfl rfl (.cons (A := I_ 1) rfl rfl rfl .nil)) rfl rfl rfl ?_
  refine r_build (c_api_Edge (api_Edge.mk 0 0 1)) pl_135 z_135 (.cons (A := I_ 0) rfl po_135_1 rfl (.cons (A := I_ 1) rfl po_135_2 rfl .nil)) rfl rfl ?_
  refine r_bs (cc := c_api_Edge) [(api_Edge.mk 0 0 1)] el_23 zr_135_1 (.cons (A := AAgg (c_api_Edge (api_Edge.mk 0 0 1))) rfl rfl rfl .nil) rfl rfl rfl ?_
  refine r_build (c_api_Graph (api_Graph.mk [3, 1] [(api_Edge.mk 0 0 1)])) pl_25 z_25 (.cons (A := AL 1 c_i64 [3, 1]) rfl po_25_0 rfl (.cons (A := AL 3 c_api_Edge [(api_Edge.mk 0 0 1)]) rfl po_25_1 rfl .nil)) rfl rfl ?_
  refine r_alloc 1 _ z_25 rfl rfl ?_
  refine r_stO (AObj 1) (AAgg (c_api_Graph (api_Graph.mk [3, 1] [(api_Edge.mk 0 0 1)]))) (c_api_Graph (api_Graph.mk [3, 1] [(api_Edge.mk 0 0 1)])) sz_25 rfl .obj rfl rfl rfl rfl rfl rfl ?_
  refine R_nil0 ?_
  refine J_seq ?_
  refine J_region rfl ?_
  refine r_bs (cc := c_i64) [3, 1, 1] el_22 zr_3_3 (.cons (A := I_ 3) rfl rfl rfl (.cons (A := I_ 1) rfl rfl rfl (.cons (A := I_ 1) rfl rfl rfl .nil))) rfl rfl rfl ?_
  refine r_build (c_api_Edge (api_Edge.mk 0 0 1)) pl_135 z_135 (.cons (A := I_ 0) rfl po_135_1 rfl (.cons (A := I_ 1) rfl po_135_2 rfl .nil)) rfl rfl ?_
  refine r_build (c_api_Edge (api_Edge.mk 0 0 2)) pl_135 z_135 (.cons (A := I_ 0) rfl po_135_1 rfl (.cons (A := I_ 2) rfl po_135_2 rfl .nil)) rfl rfl ?_
  refine r_bs (cc := c_api_Edge) [(api_Edge.mk 0 0 1), (api_Edge.mk 0 0 2)] el_23 zr_135_2 (.cons (A := AAgg (c_api_Edge (api_Edge.mk 0 0 1))) rfl rfl rfl (.cons (A := AAgg (c_api_Edge (api_Edge.mk 0 0 2))) rfl rfl rfl .nil)) rfl rfl rfl ?_
  refine r_build (c_api_Graph (api_Graph.mk [3, 1, 1] [(api_Edge.mk 0 0 1), (api_Edge.mk 0 0 2)])) pl_25 z_25 (.cons (A := AL 1 c_i64 [3, 1, 1]) rfl po_25_0 rfl (.cons (A := AL 3 c_api_Edge [(api_Edge.mk 0 0 1), (api_Edge.mk 0 0 2)]) rfl po_25_1 rfl .nil)) rfl rfl ?_
  refine r_alloc 2 _ z_25 rfl rfl ?_
  refine r_stO (AObj 2) (AAgg (c_api_Graph (api_Graph.mk [3, 1, 1] [(api_Edge.mk 0 0 1), (api_Edge.mk 0 0 2)]))) (c_api_Graph (api_Graph.mk [3, 1, 1] [(api_Edge.mk 0 0 1), (api_Edge.mk 0 0 2)])) sz_25 rfl .obj rfl rfl rfl rfl rfl rfl ?_
  refine R_nil0 ?_
  refine J_seq ?_
  refine J_region rfl ?_
  refine r_ldaO (AObj 1) (c_api_Graph (api_Graph.mk [3, 1] [(api_Edge.mk 0 0 1)])) ag_25 rfl .obj rfl rfl rfl rfl ?_
  refine r_buildI (Cs := [AL 1 c_i64 [3, 1], AL 3 c_api_Edge [(api_Edge.mk 0 0 1)], ANil, I_ 0, ANil]) (c_api_Pattern (api_Pattern.mk (api_Graph.mk [3, 1] [(api_Edge.mk 0 0 1)]) [] 0 [])) pl_29 z_29 (.cons (A := AAgg (c_api_Graph (api_Graph.mk [3, 1] [(api_Edge.mk 0 0 1)]))) rfl po_29_0 rfl .nil) rfl (.same (.same (.nl (.same (.nl .nil))))) rfl ?_
  refine r_ldaO (AObj 2) (c_api_Graph (api_Graph.mk [3, 1, 1] [(api_Edge.mk 0 0 1), (api_Edge.mk 0 0 2)])) ag_25 rfl .obj rfl rfl rfl rfl ?_
  refine r_buildI (Cs := [AL 1 c_i64 [3, 1, 1], AL 3 c_api_Edge [(api_Edge.mk 0 0 1), (api_Edge.mk 0 0 2)], ANil, I_ 0, ANil]) (c_api_Pattern (api_Pattern.mk (api_Graph.mk [3, 1, 1] [(api_Edge.mk 0 0 1), (api_Edge.mk 0 0 2)]) [] 0 [])) pl_29 z_29 (.cons (A := AAgg (c_api_Graph (api_Graph.mk [3, 1, 1] [(api_Edge.mk 0 0 1), (api_Edge.mk 0 0 2)]))) rfl po_29_0 rfl .nil) rfl (.same (.same (.nl (.same (.nl .nil))))) rfl ?_
  refine r_bs (cc := c_i64) [0, 1] el_22 zr_3_2 (.cons (A := I_ 0) rfl rfl rfl (.cons (A := I_ 1) rfl rfl rfl .nil)) rfl rfl rfl ?_
  refine r_bs (cc := c_i64) [0] el_22 zr_3_1 (.cons (A := I_ 0) rfl rfl rfl .nil) rfl rfl rfl ?_
  refine r_build (c_api_Part (api_Part.mk [0, 1] [0])) pl_31 z_31 (.cons (A := AL 1 c_i64 [0, 1]) rfl po_31_0 rfl (.cons (A := AL 1 c_i64 [0]) rfl po_31_1 rfl .nil)) rfl rfl ?_
  refine r_bs (cc := c_i64) [0, 1] el_22 zr_3_2 (.cons (A := I_ 0) rfl rfl rfl (.cons (A := I_ 1) rfl rfl rfl .nil)) rfl rfl rfl ?_
  refine r_bs (cc := c_i64) [0] el_22 zr_3_1 (.cons (A := I_ 0) rfl rfl rfl .nil) rfl rfl rfl ?_
  refine r_build (c_api_Morphism (api_Morphism.mk [0, 1] [0])) pl_32 z_32 (.cons (A := AL 1 c_i64 [0, 1]) rfl po_32_0 rfl (.cons (A := AL 1 c_i64 [0]) rfl po_32_1 rfl .nil)) rfl rfl ?_
  refine r_buildI (Cs := [I_ 1, ANil, ANil, ANil, ANil, ANil, ANil, I_ 0, ANil]) (c_api_Condition (api_Condition.mk 1 [] (api_Morphism.mk [] []) (api_Pattern.mk (api_Graph.mk [] []) [] 0 []))) pl_35 z_35 (.cons (A := I_ 1) rfl po_35_0 rfl .nil) rfl (by rw [c_api_Condition_def]; exact (.same (.nl (.nl (.nl (.nl (.nl (.nl (.same (.nl .nil)))))))))) rfl ?_
  refine r_build (c_api_Rule (api_Rule.mk (ByteArray.mk #[112, 97, 121]) (api_Pattern.mk (api_Graph.mk [3, 1] [(api_Edge.mk 0 0 1)]) [] 0 []) (api_Pattern.mk (api_Graph.mk [3, 1, 1] [(api_Edge.mk 0 0 1), (api_Edge.mk 0 0 2)]) [] 0 []) (api_Part.mk [0, 1] [0]) (api_Morphism.mk [0, 1] [0]) false (api_Condition.mk 1 [] (api_Morphism.mk [] []) (api_Pattern.mk (api_Graph.mk [] []) [] 0 [])))) pl_37 z_37 (.cons (A := AStr (ByteArray.mk #[112, 97, 121])) rfl po_37_0 rfl (.cons (A := AAgg (c_api_Pattern (api_Pattern.mk (api_Graph.mk [3, 1] [(api_Edge.mk 0 0 1)]) [] 0 []))) rfl po_37_1 rfl (.cons (A := AAgg (c_api_Pattern (api_Pattern.mk (api_Graph.mk [3, 1, 1] [(api_Edge.mk 0 0 1), (api_Edge.mk 0 0 2)]) [] 0 []))) rfl po_37_2 rfl (.cons (A := AAgg (c_api_Part (api_Part.mk [0, 1] [0]))) rfl po_37_3 rfl (.cons (A := AAgg (c_api_Morphism (api_Morphism.mk [0, 1] [0]))) rfl po_37_4 rfl (.cons (A := AAgg (c_api_Condition (api_Condition.mk 1 [] (api_Morphism.mk [] []) (api_Pattern.mk (api_Graph.mk [] []) [] 0 [])))) rfl po_37_6 rfl .nil)))))) rfl rfl ?_
  refine r_stO (AObj 0) (AAgg (c_api_Rule (api_Rule.mk (ByteArray.mk #[112, 97, 121]) (api_Pattern.mk (api_Graph.mk [3, 1] [(api_Edge.mk 0 0 1)]) [] 0 []) (api_Pattern.mk (api_Graph.mk [3, 1, 1] [(api_Edge.mk 0 0 1), (api_Edge.mk 0 0 2)]) [] 0 []) (api_Part.mk [0, 1] [0]) (api_Morphism.mk [0, 1] [0]) false (api_Condition.mk 1 [] (api_Morphism.mk [] []) (api_Pattern.mk (api_Graph.mk [] []) [] 0 []))))) (c_api_Rule (api_Rule.mk (ByteArray.mk #[112, 97, 121]) (api_Pattern.mk (api_Graph.mk [3, 1] [(api_Edge.mk 0 0 1)]) [] 0 []) (api_Pattern.mk (api_Graph.mk [3, 1, 1] [(api_Edge.mk 0 0 1), (api_Edge.mk 0 0 2)]) [] 0 []) (api_Part.mk [0, 1] [0]) (api_Morphism.mk [0, 1] [0]) false (api_Condition.mk 1 [] (api_Morphism.mk [] []) (api_Pattern.mk (api_Graph.mk [] []) [] 0 [])))) sz_37 rfl .obj rfl rfl rfl rfl rfl rfl ?_
  refine R_nil0 ?_
  exact J_ret hΨ (Res_box rfl (.boxA (cs := (c_api_Rule (api_Rule.mk (ByteArray.mk #[112, 97, 121]) (api_Pattern.mk (api_Graph.mk [3, 1] [(api_Edge.mk 0 0 1)]) [] 0 []) (api_Pattern.mk (api_Graph.mk [3, 1, 1] [(api_Edge.mk 0 0 1), (api_Edge.mk 0 0 2)]) [] 0 []) (api_Part.mk [0, 1] [0]) (api_Morphism.mk [0, 1] [0]) false (api_Condition.mk 1 [] (api_Morphism.mk [] []) (api_Pattern.mk (api_Graph.mk [] []) [] 0 []))))) ag_37 rfl rfl rfl)) (fun y hy => by cases hy; rfl)
theorem k_law24_awake  (r : Bool) (hr : law24_awake  = some r) : FnP PP 8 [] (ABool r) := by
  refine FnP.of mixed_ Tryz.func8 rfl (n := 83) rfl (fun (r : Bool) => ABool r) nk_args NK.nk rfl hr fun X hΨ => ?_
  refine J_seq ?_
  refine J_region rfl ?_
  refine r_assign (ABool false) rfl rfl ?_
  refine R_nil0 ?_
  refine J_seq ?_
  refine J_region rfl ?_
  refine R_bind fun b1 h2 => ?_
  refine r_call _ fn_31 (k_ref04_Example  _ h2) rfl rfl ?_
  refine r_alloc 0 _ z_59 rfl rfl ?_
  refine r_stO (AObj 0) (AAgg (c_api_Types b1)) (c_api_Types b1) sz_59 rfl .obj rfl rfl rfl rfl rfl rfl ?_
  refine R_nil0 ?_
  refine J_seq ?_
  refine J_draw ?_
  refine r_ldaO (AObj 0) (c_api_Types b1) ag_59 rfl .obj rfl rfl rfl rfl ?_
  refine R_bind fun b3 h4 => ?_
  refine r_call _ fn_32 (k_law24_example  _ h4) rfl rfl ?_
  refine R_bind fun b5 h6 => ?_
  refine r_call _ fn_17 (k_rule_Deleted _ _ _ h6) rfl rfl ?_
  refine r_move (ATup [AL 1 c_i64 b5.1, AL 1 c_i64 b5.2.1, I_ b5.2.2]) rfl rfl ?_
  refine r_ext (AL 1 c_i64 b5.1) rfl rfl rfl ?_
  refine r_ext (AL 1 c_i64 b5.2.1) rfl rfl rfl ?_
  refine r_ext (I_ b5.2.2) rfl rfl rfl ?_
  refine r_assign (AL 1 c_i64 b5.1) rfl rfl ?_
  refine r_assign (AL 1 c_i64 b5.2.1) rfl rfl ?_
  refine r_assign (I_ b5.2.2) rfl rfl ?_
  refine R_nilD rfl ?_
  refine J_seq ?_
  refine J_draw ?_
  refine r_ldaO (AObj 0) (c_api_Types b1) ag_59 rfl .obj rfl rfl rfl rfl ?_
  refine R_bind fun b7 h8 => ?_
  refine r_call _ fn_32 (k_law24_example  _ h8) rfl rfl ?_
  refine R_bind fun b9 h10 => ?_
  refine r_call _ fn_18 (k_rule_Created _ _ _ h10) rfl rfl ?_
  refine r_move (ATup [AL 1 c_i64 b9.1, AL 1 c_i64 b9.2.1, I_ b9.2.2]) rfl rfl ?_
  refine r_ext (AL 1 c_i64 b9.1) rfl rfl rfl ?_
  refine r_ext (AL 1 c_i64 b9.2.1) rfl rfl rfl ?_
  refine r_ext (I_ b9.2.2) rfl rfl rfl ?_
  refine r_assign (AL 1 c_i64 b9.1) rfl rfl ?_
  refine r_assign (AL 1 c_i64 b9.2.1) rfl rfl ?_
  refine r_assign (I_ b9.2.2) rfl rfl ?_
  refine R_nilD rfl ?_
  refine J_seq ?_
  refine J_draw ?_
  refine r_ldaO (AObj 0) (c_api_Types b1) ag_59 rfl .obj rfl rfl rfl rfl ?_
  refine R_bind fun b11 h12 => ?_
  refine r_call _ fn_32 (k_law24_example  _ h12) rfl rfl ?_
  refine R_bind fun b13 h14 => ?_
  refine r_call _ fn_16 (k_rule_Inverse _ _ _ h14) rfl rfl ?_
  refine r_move (ATup [AAgg (c_api_Rule b13.1), I_ b13.2]) rfl rfl ?_
  refine r_ext (AAgg (c_api_Rule b13.1)) rfl rfl rfl ?_
  refine r_ext (I_ b13.2) rfl rfl rfl ?_
  refine r_alloc 1 _ z_37 rfl rfl ?_
  refine r_stO (AObj 1) (AAgg (c_api_Rule b13.1)) (c_api_Rule b13.1) sz_37 rfl .obj rfl rfl rfl rfl rfl rfl ?_
  refine r_assign (I_ b13.2) rfl rfl ?_
  refine R_nilD rfl ?_
  refine J_seq ?_
  refine J_region rfl ?_
  refine r_ldaO (AObj 0) (c_api_Types b1) ag_59 rfl .obj rfl rfl rfl rfl ?_
  refine r_ldaO (AObj 1) (c_api_Rule b13.1) ag_37 rfl .obj rfl rfl rfl rfl ?_
  refine R_bind fun b15 h16 => ?_
  refine r_call _ fn_17 (k_rule_Deleted _ _ _ h16) rfl rfl ?_
  refine r_move (ATup [AL 1 c_i64 b15.1, AL 1 c_i64 b15.2.1, I_ b15.2.2]) rfl rfl ?_
  refine r_ext (AL 1 c_i64 b15.1) rfl rfl rfl ?_
  refine r_ext (AL 1 c_i64 b15.2.1) rfl rfl rfl ?_
  refine r_ext (I_ b15.2.2) rfl rfl rfl ?_
  refine r_assign (AL 1 c_i64 b15.1) rfl rfl ?_
  refine r_assign (AL 1 c_i64 b15.2.1) rfl rfl ?_
  refine r_assign (I_ b15.2.2) rfl rfl ?_
  refine R_nil0 ?_
  refine J_seq ?_
  refine J_region rfl ?_
  refine r_move (I_ b5.2.2) rfl rfl ?_
  refine r_eql rfl rfl rfl ?_
  refine r_move (ABool (decide (b5.2.2 = 0))) rfl rfl ?_
  refine R_if (fun h17 => ?_) (fun h17 => ?_)
  rotate_left
  · refine R_skip (g_tn rfl rfl (df h17)) ?_
    refine R_skip (g_tn rfl rfl (df h17)) ?_
    refine R_skip (g_tn rfl rfl (df h17)) ?_
    refine R_skip (g_tn rfl rfl (df h17)) ?_
    refine R_skip (g_tn rfl rfl (df h17)) ?_
    refine R_skip (g_tn rfl rfl (df h17)) ?_
    refine r_pickF (ABool false) rfl (df h17) rfl rfl ?_
    refine r_move (ABool false) rfl rfl ?_
    refine R_skip (g_tn rfl rfl rfl) ?_
    refine R_skip (g_tn rfl rfl rfl) ?_
    refine r_pickF (ABool false) rfl rfl rfl rfl ?_
    refine r_move (ABool false) rfl rfl ?_
    refine R_skip (g_tn rfl rfl rfl) ?_
    refine R_skip (g_tn rfl rfl rfl) ?_
    refine R_skip (g_tn rfl rfl rfl) ?_
    refine r_pickF (ABool false) rfl rfl rfl rfl ?_
    refine r_move (ABool false) rfl rfl ?_
    refine R_skip (g_tn rfl rfl rfl) ?_
    refine R_skip (g_tn rfl rfl rfl) ?_
    refine R_skip (g_tn rfl rfl rfl) ?_
    refine r_pickF (ABool false) rfl rfl rfl rfl ?_
    refine r_move (ABool false) rfl rfl ?_
    refine R_skip (g_tn rfl rfl rfl) ?_
    refine R_skip (g_tn rfl rfl rfl) ?_
    refine r_pickF (ABool false) rfl rfl rfl rfl ?_
    refine r_move (ABool false) rfl rfl ?_
    refine R_skip (g_tn rfl rfl rfl) ?_
    refine R_skip (g_tn rfl rfl rfl) ?_
    refine r_pickF (ABool false) rfl rfl rfl rfl ?_
    refine r_move (ABool false) rfl rfl ?_
    refine R_skip (g_tn rfl rfl rfl) ?_
    refine R_skip (g_tn rfl rfl rfl) ?_
    refine R_skip (g_tn rfl rfl rfl) ?_
    refine r_pickF (ABool false) rfl rfl rfl rfl ?_
    refine r_move (ABool false) rfl rfl ?_
    refine R_skip (g_tn rfl rfl rfl) ?_
    refine R_skip (g_tn rfl rfl rfl) ?_
    refine R_skip (g_tn rfl rfl rfl) ?_
    refine r_pickF (ABool false) rfl rfl rfl rfl ?_
    refine r_assign (ABool false) rfl rfl ?_
    refine R_nil0 ?_
    exact J_ret hΨ (Res_one rfl) (fun y hy => by cases hy; rfl)
  refine r_move (AL 1 c_i64 b5.1) rfl (g_t rfl rfl (dt h17)) ?_
  refine r_len (cc := c_i64) il_22 rfl (g_t rfl rfl (dt h17)) ?_
  refine r_move (AL 1 c_i64 b5.2.1) rfl (g_t rfl rfl (dt h17)) ?_
  refine r_len (cc := c_i64) il_22 rfl (g_t rfl rfl (dt h17)) ?_
  refine R_bind fun b18 h19 => ?_
  refine r_add b18 rfl rfl (Option.some.inj h19) (g_t rfl rfl (dt h17)) ?_
  refine r_eql rfl rfl (g_t rfl rfl (dt h17)) ?_
  refine r_pickT (ABool (decide (b18 = 0))) rfl (dt h17) rfl rfl ?_
  refine r_move (ABool (decide (b18 = 0))) rfl rfl ?_
  refine R_if (fun h20 => ?_) (fun h20 => ?_)
  rotate_left
  · refine R_skip (g_tn rfl rfl (df h20)) ?_
    refine R_skip (g_tn rfl rfl (df h20)) ?_
    refine r_pickF (ABool false) rfl (df h20) rfl rfl ?_
    refine r_move (ABool false) rfl rfl ?_
    refine R_skip (g_tn rfl rfl rfl) ?_
    refine R_skip (g_tn rfl rfl rfl) ?_
    refine R_skip (g_tn rfl rfl rfl) ?_
    refine r_pickF (ABool false) rfl rfl rfl rfl ?_
    refine r_move (ABool false) rfl rfl ?_
    refine R_skip (g_tn rfl rfl rfl) ?_
    refine R_skip (g_tn rfl rfl rfl) ?_
    refine R_skip (g_tn rfl rfl rfl) ?_
    refine r_pickF (ABool false) rfl rfl rfl rfl ?_
    refine r_move (ABool false) rfl rfl ?_
    refine R_skip (g_tn rfl rfl rfl) ?_
    refine R_skip (g_tn rfl rfl rfl) ?_
    refine r_pickF (ABool false) rfl rfl rfl rfl ?_
    refine r_move (ABool false) rfl rfl ?_
    refine R_skip (g_tn rfl rfl rfl) ?_
    refine R_skip (g_tn rfl rfl rfl) ?_
    refine r_pickF (ABool false) rfl rfl rfl rfl ?_
    refine r_move (ABool false) rfl rfl ?_
    refine R_skip (g_tn rfl rfl rfl) ?_
    refine R_skip (g_tn rfl rfl rfl) ?_
    refine R_skip (g_tn rfl rfl rfl) ?_
    refine r_pickF (ABool false) rfl rfl rfl rfl ?_
    refine r_move (ABool false) rfl rfl ?_
    refine R_skip (g_tn rfl rfl rfl) ?_
    refine R_skip (g_tn rfl rfl rfl) ?_
    refine R_skip (g_tn rfl rfl rfl) ?_
    refine r_pickF (ABool false) rfl rfl rfl rfl ?_
    refine r_assign (ABool false) rfl rfl ?_
    refine R_nil0 ?_
    exact J_ret hΨ (Res_one rfl) (fun y hy => by cases hy; rfl)
  refine r_move (I_ b9.2.2) rfl (g_t rfl rfl (dt h20)) ?_
  refine r_eql rfl rfl (g_t rfl rfl (dt h20)) ?_
  refine r_pickT (ABool (decide (b9.2.2 = 0))) rfl (dt h20) rfl rfl ?_
  refine r_move (ABool (decide (b9.2.2 = 0))) rfl rfl ?_
  refine R_if (fun h21 => ?_) (fun h21 => ?_)
  rotate_left
  · refine R_skip (g_tn rfl rfl (df h21)) ?_
    refine R_skip (g_tn rfl rfl (df h21)) ?_
    refine R_skip (g_tn rfl rfl (df h21)) ?_
    refine r_pickF (ABool false) rfl (df h21) rfl rfl ?_
    refine r_move (ABool false) rfl rfl ?_
    refine R_skip (g_tn rfl rfl rfl) ?_
    refine R_skip (g_tn rfl rfl rfl) ?_
    refine R_skip (g_tn rfl rfl rfl) ?_
    refine r_pickF (ABool false) rfl rfl rfl rfl ?_
    refine r_move (ABool false) rfl rfl ?_
    refine R_skip (g_tn rfl rfl rfl) ?_
    refine R_skip (g_tn rfl rfl rfl) ?_
    refine r_pickF (ABool false) rfl rfl rfl rfl ?_
    refine r_move (ABool false) rfl rfl ?_
    refine R_skip (g_tn rfl rfl rfl) ?_
    refine R_skip (g_tn rfl rfl rfl) ?_
    refine r_pickF (ABool false) rfl rfl rfl rfl ?_
    refine r_move (ABool false) rfl rfl ?_
    refine R_skip (g_tn rfl rfl rfl) ?_
    refine R_skip (g_tn rfl rfl rfl) ?_
    refine R_skip (g_tn rfl rfl rfl) ?_
    refine r_pickF (ABool false) rfl rfl rfl rfl ?_
    refine r_move (ABool false) rfl rfl ?_
    refine R_skip (g_tn rfl rfl rfl) ?_
    refine R_skip (g_tn rfl rfl rfl) ?_
    refine R_skip (g_tn rfl rfl rfl) ?_
    refine r_pickF (ABool false) rfl rfl rfl rfl ?_
    refine r_assign (ABool false) rfl rfl ?_
    refine R_nil0 ?_
    exact J_ret hΨ (Res_one rfl) (fun y hy => by cases hy; rfl)
  refine r_move (AL 1 c_i64 b9.1) rfl (g_t rfl rfl (dt h21)) ?_
  refine r_bs (cc := c_i64) [2] el_22 zr_3_1 (.cons (A := I_ 2) rfl rfl rfl .nil) rfl rfl (g_t rfl rfl (dt h21)) ?_
  refine R_bind fun b22 h23 => ?_
  refine r_call _ fn_19 (k_slices_Equal_int _ _ _ h23) rfl (g_t rfl rfl (dt h21)) ?_
  refine r_pickT (ABool b22) rfl (dt h21) rfl rfl ?_
  refine r_move (ABool b22) rfl rfl ?_
  refine R_if (fun h24 => ?_) (fun h24 => ?_)
  rotate_left
  · refine R_skip (g_tn rfl rfl (bf h24)) ?_
    refine R_skip (g_tn rfl rfl (bf h24)) ?_
    refine R_skip (g_tn rfl rfl (bf h24)) ?_
    refine r_pickF (ABool false) rfl (bf h24) rfl rfl ?_
    refine r_move (ABool false) rfl rfl ?_
    refine R_skip (g_tn rfl rfl rfl) ?_
    refine R_skip (g_tn rfl rfl rfl) ?_
    refine r_pickF (ABool false) rfl rfl rfl rfl ?_
    refine r_move (ABool false) rfl rfl ?_
    refine R_skip (g_tn rfl rfl rfl) ?_
    refine R_skip (g_tn rfl rfl rfl) ?_
    refine r_pickF (ABool false) rfl rfl rfl rfl ?_
    refine r_move (ABool false) rfl rfl ?_
    refine R_skip (g_tn rfl rfl rfl) ?_
    refine R_skip (g_tn rfl rfl rfl) ?_
    refine R_skip (g_tn rfl rfl rfl) ?_
    refine r_pickF (ABool false) rfl rfl rfl rfl ?_
    refine r_move (ABool false) rfl rfl ?_
    refine R_skip (g_tn rfl rfl rfl) ?_
    refine R_skip (g_tn rfl rfl rfl) ?_
    refine R_skip (g_tn rfl rfl rfl) ?_
    refine r_pickF (ABool false) rfl rfl rfl rfl ?_
    refine r_assign (ABool false) rfl rfl ?_
    refine R_nil0 ?_
    exact J_ret hΨ (Res_one rfl) (fun y hy => by cases hy; rfl)
  refine r_move (AL 1 c_i64 b9.2.1) rfl (g_t rfl rfl h24) ?_
  refine r_bs (cc := c_i64) [1] el_22 zr_3_1 (.cons (A := I_ 1) rfl rfl rfl .nil) rfl rfl (g_t rfl rfl h24) ?_
  refine R_bind fun b25 h26 => ?_
  refine r_call _ fn_19 (k_slices_Equal_int _ _ _ h26) rfl (g_t rfl rfl h24) ?_
  refine r_pickT (ABool b25) rfl h24 rfl rfl ?_
  refine r_move (ABool b25) rfl rfl ?_
  refine R_if (fun h27 => ?_) (fun h27 => ?_)
  rotate_left
  · refine R_skip (g_tn rfl rfl (bf h27)) ?_
    refine R_skip (g_tn rfl rfl (bf h27)) ?_
    refine r_pickF (ABool false) rfl (bf h27) rfl rfl ?_
    refine r_move (ABool false) rfl rfl ?_
    refine R_skip (g_tn rfl rfl rfl) ?_
    refine R_skip (g_tn rfl rfl rfl) ?_
    refine r_pickF (ABool false) rfl rfl rfl rfl ?_
    refine r_move (ABool false) rfl rfl ?_
    refine R_skip (g_tn rfl rfl rfl) ?_
    refine R_skip (g_tn rfl rfl rfl) ?_
    refine R_skip (g_tn rfl rfl rfl) ?_
    refine r_pickF (ABool false) rfl rfl rfl rfl ?_
    refine r_move (ABool false) rfl rfl ?_
    refine R_skip (g_tn rfl rfl rfl) ?_
    refine R_skip (g_tn rfl rfl rfl) ?_
    refine R_skip (g_tn rfl rfl rfl) ?_
    refine r_pickF (ABool false) rfl rfl rfl rfl ?_
    refine r_assign (ABool false) rfl rfl ?_
    refine R_nil0 ?_
    exact J_ret hΨ (Res_one rfl) (fun y hy => by cases hy; rfl)
  refine r_move (I_ b13.2) rfl (g_t rfl rfl h27) ?_
  refine r_eql rfl rfl (g_t rfl rfl h27) ?_
  refine r_pickT (ABool (decide (b13.2 = 0))) rfl h27 rfl rfl ?_
  refine r_move (ABool (decide (b13.2 = 0))) rfl rfl ?_
  refine R_if (fun h28 => ?_) (fun h28 => ?_)
  rotate_left
  · refine R_skip (g_tn rfl rfl (df h28)) ?_
    refine R_skip (g_tn rfl rfl (df h28)) ?_
    refine r_pickF (ABool false) rfl (df h28) rfl rfl ?_
    refine r_move (ABool false) rfl rfl ?_
    refine R_skip (g_tn rfl rfl rfl) ?_
    refine R_skip (g_tn rfl rfl rfl) ?_
    refine R_skip (g_tn rfl rfl rfl) ?_
    refine r_pickF (ABool false) rfl rfl rfl rfl ?_
    refine r_move (ABool false) rfl rfl ?_
    refine R_skip (g_tn rfl rfl rfl) ?_
    refine R_skip (g_tn rfl rfl rfl) ?_
    refine R_skip (g_tn rfl rfl rfl) ?_
    refine r_pickF (ABool false) rfl rfl rfl rfl ?_
    refine r_assign (ABool false) rfl rfl ?_
    refine R_nil0 ?_
    exact J_ret hΨ (Res_one rfl) (fun y hy => by cases hy; rfl)
  refine r_move (I_ b15.2.2) rfl (g_t rfl rfl (dt h28)) ?_
  refine r_eql rfl rfl (g_t rfl rfl (dt h28)) ?_
  refine r_pickT (ABool (decide (b15.2.2 = 0))) rfl (dt h28) rfl rfl ?_
  refine r_move (ABool (decide (b15.2.2 = 0))) rfl rfl ?_
  refine R_if (fun h29 => ?_) (fun h29 => ?_)
  rotate_left
  · refine R_skip (g_tn rfl rfl (df h29)) ?_
    refine R_skip (g_tn rfl rfl (df h29)) ?_
    refine R_skip (g_tn rfl rfl (df h29)) ?_
    refine r_pickF (ABool false) rfl (df h29) rfl rfl ?_
    refine r_move (ABool false) rfl rfl ?_
    refine R_skip (g_tn rfl rfl rfl) ?_
    refine R_skip (g_tn rfl rfl rfl) ?_
    refine R_skip (g_tn rfl rfl rfl) ?_
    refine r_pickF (ABool false) rfl rfl rfl rfl ?_
    refine r_assign (ABool false) rfl rfl ?_
    refine R_nil0 ?_
    exact J_ret hΨ (Res_one rfl) (fun y hy => by cases hy; rfl)
  refine r_move (AL 1 c_i64 b15.1) rfl (g_t rfl rfl (dt h29)) ?_
  refine r_bs (cc := c_i64) [2] el_22 zr_3_1 (.cons (A := I_ 2) rfl rfl rfl .nil) rfl rfl (g_t rfl rfl (dt h29)) ?_
  refine R_bind fun b30 h31 => ?_
  refine r_call _ fn_19 (k_slices_Equal_int _ _ _ h31) rfl (g_t rfl rfl (dt h29)) ?_
  refine r_pickT (ABool b30) rfl (dt h29) rfl rfl ?_
  refine r_move (ABool b30) rfl rfl ?_
  refine R_if (fun h32 => ?_) (fun h32 => ?_)
  rotate_left
  · refine R_skip (g_tn rfl rfl (bf h32)) ?_
    refine R_skip (g_tn rfl rfl (bf h32)) ?_
    refine R_skip (g_tn rfl rfl (bf h32)) ?_
    refine r_pickF (ABool false) rfl (bf h32) rfl rfl ?_
    refine r_assign (ABool false) rfl rfl ?_
    refine R_nil0 ?_
    exact J_ret hΨ (Res_one rfl) (fun y hy => by cases hy; rfl)
  refine r_move (AL 1 c_i64 b15.2.1) rfl (g_t rfl rfl h32) ?_
  refine r_bs (cc := c_i64) [1] el_22 zr_3_1 (.cons (A := I_ 1) rfl rfl rfl .nil) rfl rfl (g_t rfl rfl h32) ?_
  refine R_bind fun b33 h34 => ?_
  refine r_call _ fn_19 (k_slices_Equal_int _ _ _ h34) rfl (g_t rfl rfl h32) ?_
  refine r_pickT (ABool b33) rfl h32 rfl rfl ?_
  refine r_assign (ABool b33) rfl rfl ?_
  refine R_nil0 ?_
  exact J_ret hΨ (Res_one rfl) (fun y hy => by cases hy; rfl)
theorem k_ref06_Few (t0 : api_Morphism) (t1 : Int) (r : Bool) (hr : ref06_Few t0 t1 = some r) : FnP PP 22 [AAgg (c_api_Morphism t0), I_ t1] (ABool r) := by
  refine FnP.of mixed_ Tryz.func22 rfl (n := 14) rfl (fun (r : Bool) => ABool r) nk_args NK.nk rfl hr fun X hΨ => ?_
  refine J_seq ?_
  refine J_region rfl ?_
  refine r_boxV (AAgg (c_api_Morphism t0)) rfl rfl ?_
  refine r_assign (ABool false) rfl rfl ?_
  refine R_nil0 ?_
  refine J_seq ?_
  refine J_region rfl ?_
  refine r_faT ((cL 1 c_i64) t0.Nodes) fo_32_0 rfl rfl rfl ?_
  refine r_ld (AL 1 c_i64 t0.Nodes) sc_22 rfl rfl rfl ?_
  refine r_len (cc := c_i64) il_22 rfl rfl ?_
  refine r_faT ((cL 1 c_i64) t0.Edges) fo_32_1 rfl rfl rfl ?_
  refine r_ld (AL 1 c_i64 t0.Edges) sc_22 rfl rfl rfl ?_
  refine r_len (cc := c_i64) il_22 rfl rfl ?_
  refine R_bind fun b1 h2 => ?_
  refine r_add b1 rfl rfl (Option.some.inj h2) rfl ?_
  refine r_move (I_ t1) rfl rfl ?_
  refine r_leq rfl rfl rfl ?_
  refine r_assign (ABool (decide (b1 ≤ t1))) rfl rfl ?_
  refine R_nil0 ?_
  exact J_ret hΨ (Res_one rfl) (fun y hy => by cases hy; rfl)
theorem k_ref05_Few (t0 : api_Graph) (r : Bool) (hr : ref05_Few t0 = some r) : FnP PP 21 [AAgg (c_api_Graph t0)] (ABool r) := by
  refine FnP.of mixed_ Tryz.func21 rfl (n := 13) rfl (fun (r : Bool) => ABool r) nk_args NK.nk rfl hr fun X hΨ => ?_
  refine J_seq ?_
  refine J_region rfl ?_
  refine r_boxV (AAgg (c_api_Graph t0)) rfl rfl ?_
  refine r_assign (ABool false) rfl rfl ?_
  refine R_nil0 ?_
  refine J_seq ?_
  refine J_region rfl ?_
  refine r_faT ((cL 1 c_i64) t0.Nodes) fo_25_0 rfl rfl rfl ?_
  refine r_ld (AL 1 c_i64 t0.Nodes) sc_22 rfl rfl rfl ?_
  refine r_len (cc := c_i64) il_22 rfl rfl ?_
  refine r_leq rfl rfl rfl ?_
  refine r_move (ABool (decide ((t0.Nodes.length : Int) ≤ 45))) rfl rfl ?_
  refine R_if (fun h1 => ?_) (fun h1 => ?_)
  · refine r_faT ((cL 3 c_api_Edge) t0.Edges) fo_25_1 rfl rfl (g_t rfl rfl (dt h1)) ?_
    refine r_ld (AL 3 c_api_Edge t0.Edges) sc_23 rfl rfl (g_t rfl rfl (dt h1)) ?_
    refine r_len (cc := c_api_Edge) il_23 rfl (g_t rfl rfl (dt h1)) ?_
    refine r_leq rfl rfl (g_t rfl rfl (dt h1)) ?_
    refine r_pickT (ABool (decide ((t0.Edges.length : Int) ≤ 90))) rfl (dt h1) rfl rfl ?_
    refine r_assign (ABool (decide ((t0.Edges.length : Int) ≤ 90))) rfl rfl ?_
    refine R_nil0 ?_
    exact J_ret hΨ (Res_one rfl) (fun y hy => by cases hy; rfl)
  refine R_skip (g_tn rfl rfl (df h1)) ?_
  refine R_skip (g_tn rfl rfl (df h1)) ?_
  refine R_skip (g_tn rfl rfl (df h1)) ?_
  refine R_skip (g_tn rfl rfl (df h1)) ?_
  refine r_pickF (ABool false) rfl (df h1) rfl rfl ?_
  refine r_assign (ABool false) rfl rfl ?_
  refine R_nil0 ?_
  exact J_ret hΨ (Res_one rfl) (fun y hy => by cases hy; rfl)
theorem k_ref21_Few (t0 : api_Pattern) (r : Bool) (hr : ref21_Few t0 = some r) : FnP PP 33 [AAgg (c_api_Pattern t0)] (ABool r) := by
  refine FnP.of mixed_ Tryz.func33 rfl (n := 18) rfl (fun (r : Bool) => ABool r) nk_args NK.nk rfl hr fun X hΨ => ?_
  refine J_seq ?_
  refine J_region rfl ?_
  refine r_boxV (AAgg (c_api_Pattern t0)) rfl rfl ?_
  refine r_assign (ABool false) rfl rfl ?_
  refine R_nil0 ?_
  refine J_seq ?_
  refine J_region rfl ?_
  refine r_faT (c_api_Graph t0.Graph) fo_29_0 rfl rfl rfl ?_
  refine r_lda (c_api_Graph t0.Graph) ag_25 rfl rfl rfl rfl ?_
  refine R_bind fun b1 h2 => ?_
  refine r_call _ fn_21 (k_ref05_Few _ _ h2) rfl rfl ?_
  refine r_move (ABool b1) rfl rfl ?_
  refine R_if (fun h3 => ?_) (fun h3 => ?_)
  rotate_left
  · refine R_skip (g_tn rfl rfl (bf h3)) ?_
    refine R_skip (g_tn rfl rfl (bf h3)) ?_
    refine R_skip (g_tn rfl rfl (bf h3)) ?_
    refine R_skip (g_tn rfl rfl (bf h3)) ?_
    refine r_pickF (ABool false) rfl (bf h3) rfl rfl ?_
    refine r_move (ABool false) rfl rfl ?_
    refine R_skip (g_tn rfl rfl rfl) ?_
    refine R_skip (g_tn rfl rfl rfl) ?_
    refine R_skip (g_tn rfl rfl rfl) ?_
    refine R_skip (g_tn rfl rfl rfl) ?_
    refine r_pickF (ABool false) rfl rfl rfl rfl ?_
    refine r_assign (ABool false) rfl rfl ?_
    refine R_nil0 ?_
    exact J_ret hΨ (Res_one rfl) (fun y hy => by cases hy; rfl)
  refine r_faT ((cL 4 c_api_Slot) t0.Slots) fo_29_1 rfl rfl (g_t rfl rfl h3) ?_
  refine r_ld (AL 4 c_api_Slot t0.Slots) sc_26 rfl rfl (g_t rfl rfl h3) ?_
  refine r_len (cc := c_api_Slot) il_26 rfl (g_t rfl rfl h3) ?_
  refine r_leq rfl rfl (g_t rfl rfl h3) ?_
  refine r_pickT (ABool (decide ((t0.Slots.length : Int) ≤ 15))) rfl h3 rfl rfl ?_
  refine r_move (ABool (decide ((t0.Slots.length : Int) ≤ 15))) rfl rfl ?_
  refine R_if (fun h4 => ?_) (fun h4 => ?_)
  · refine r_faT ((cL 5 c_api_Test) t0.Tests) fo_29_3 rfl rfl (g_t rfl rfl (dt h4)) ?_
    refine r_ld (AL 5 c_api_Test t0.Tests) sc_27 rfl rfl (g_t rfl rfl (dt h4)) ?_
    refine r_len (cc := c_api_Test) il_27 rfl (g_t rfl rfl (dt h4)) ?_
    refine r_leq rfl rfl (g_t rfl rfl (dt h4)) ?_
    refine r_pickT (ABool (decide ((t0.Tests.length : Int) ≤ 15))) rfl (dt h4) rfl rfl ?_
    refine r_assign (ABool (decide ((t0.Tests.length : Int) ≤ 15))) rfl rfl ?_
    refine R_nil0 ?_
    exact J_ret hΨ (Res_one rfl) (fun y hy => by cases hy; rfl)
  refine R_skip (g_tn rfl rfl (df h4)) ?_
  refine R_skip (g_tn rfl rfl (df h4)) ?_
  refine R_skip (g_tn rfl rfl (df h4)) ?_
  refine R_skip (g_tn rfl rfl (df h4)) ?_
  refine r_pickF (ABool false) rfl (df h4) rfl rfl ?_
  refine r_assign (ABool false) rfl rfl ?_
  refine R_nil0 ?_
  exact J_ret hΨ (Res_one rfl) (fun y hy => by cases hy; rfl)
theorem k_ref07_Few (t0 : api_Part) (t1 : Int) (r : Bool) (hr : ref07_Few t0 t1 = some r) : FnP PP 34 [AAgg (c_api_Part t0), I_ t1] (ABool r) := by
  refine FnP.of mixed_ Tryz.func34 rfl (n := 14) rfl (fun (r : Bool) => ABool r) nk_args NK.nk rfl hr fun X hΨ => ?_
  refine J_seq ?_
  refine J_region rfl ?_
  refine r_boxV (AAgg (c_api_Part t0)) rfl rfl ?_
  refine r_assign (ABool false) rfl rfl ?_
  refine R_nil0 ?_
  refine J_seq ?_
  refine J_region rfl ?_
  refine r_faT ((cL 1 c_i64) t0.Nodes) fo_31_0 rfl rfl rfl ?_
  refine r_ld (AL 1 c_i64 t0.Nodes) sc_22 rfl rfl rfl ?_
  refine r_len (cc := c_i64) il_22 rfl rfl ?_
  refine r_faT ((cL 1 c_i64) t0.Edges) fo_31_1 rfl rfl rfl ?_
  refine r_ld (AL 1 c_i64 t0.Edges) sc_22 rfl rfl rfl ?_
  refine r_len (cc := c_i64) il_22 rfl rfl ?_
  refine R_bind fun b1 h2 => ?_
  refine r_add b1 rfl rfl (Option.some.inj h2) rfl ?_
  refine r_move (I_ t1) rfl rfl ?_
  refine r_leq rfl rfl rfl ?_
  refine r_assign (ABool (decide (b1 ≤ t1))) rfl rfl ?_
  refine R_nil0 ?_
  exact J_ret hΨ (Res_one rfl) (fun y hy => by cases hy; rfl)
theorem k_ref22_left_b (q_ref22_left : api_Condition → Int → Option Int) (hq_ref22_left : ∀ (t0 : api_Condition) (t1 : Int) (r : Int), q_ref22_left t0 t1 = some r → FnP PP 79 [AAgg (c_api_Condition t0), I_ t1] (I_ r)) (t0 : api_Condition) (t1 : Int) (r : Int) (hr : ref22_left_b q_ref22_left t0 t1 = some r) : FnP PP 79 [AAgg (c_api_Condition t0), I_ t1] (I_ r) := by
  refine FnP.of mixed_ Tryz.func79 rfl (n := 37) rfl (fun (r : Int) => I_ r) nk_args NK.nk rfl hr fun X hΨ => ?_
  refine J_seq ?_
  refine J_region rfl ?_
  refine r_boxV (AAgg (c_api_Condition t0)) rfl rfl ?_
  refine r_assign (I_ 0) rfl rfl ?_
  refine R_nil0 ?_
  refine J_seq ?_
  refine J_region rfl ?_
  refine r_move (I_ t1) rfl rfl ?_
  refine R_bind fun b1 h2 => ?_
  refine r_sub b1 rfl rfl (Option.some.inj h2) rfl ?_
  refine r_assign (I_ b1) rfl rfl ?_
  refine R_nil0 ?_
  refine J_seq ?_
  refine J_seq ?_
  refine J_region rfl ?_
  refine r_faT (c_api_Pattern t0.Pattern) fo_35_3 rfl rfl rfl ?_
  refine r_lda (c_api_Pattern t0.Pattern) ag_29 rfl rfl rfl rfl ?_
  refine R_bind fun b3 h4 => ?_
  refine r_call _ fn_33 (k_ref21_Few _ _ h4) rfl rfl ?_
  refine r_not rfl rfl ?_
  refine r_move (ABool (!b3)) rfl rfl ?_
  refine R_if (fun h5 => ?_) (fun h5 => ?_)
  · refine R_skip (g_fn rfl rfl h5) ?_
    refine R_skip (g_fn rfl rfl h5) ?_
    refine R_skip (g_fn rfl rfl h5) ?_
    refine R_skip (g_fn rfl rfl h5) ?_
    refine r_pickT (ABool true) rfl h5 rfl rfl ?_
    refine R_nil0 ?_
    refine J_cond_T rfl rfl ?_
    refine J_seq ?_
    refine J_region rfl ?_
    refine r_assign (I_ (-1)) rfl rfl ?_
    refine R_nil0 ?_
    exact J_ret hΨ (Res_one rfl) (fun y hy => by cases hy; rfl)
  refine r_faT (c_api_Morphism t0.Map) fo_35_2 rfl rfl (g_f rfl rfl (bf h5)) ?_
  refine r_lda (c_api_Morphism t0.Map) ag_32 rfl rfl rfl (g_f rfl rfl (bf h5)) ?_
  refine R_bind fun b6 h7 => ?_
  refine r_call _ fn_22 (k_ref06_Few _ _ _ h7) rfl (g_f rfl rfl (bf h5)) ?_
  refine r_not rfl (g_f rfl rfl (bf h5)) ?_
  refine r_pickF (ABool (!b6)) rfl (bf h5) rfl rfl ?_
  refine R_nil0 ?_
  refine J_cond rfl (fun h8 => ?_) (fun h8 => ?_)
  · refine J_seq ?_
    refine J_region rfl ?_
    refine r_assign (I_ (-1)) rfl rfl ?_
    refine R_nil0 ?_
    exact J_ret hΨ (Res_one rfl) (fun y hy => by cases hy; rfl)
  refine J_skip ?_
  refine J_seq ?_
  refine J_seq ?_
  refine J_region rfl ?_
  refine r_assign (I_ 0) rfl rfl ?_
  refine R_nil0 ?_
  refine J_block ?_
  refine J_to [(1, I_ b1), (2, APtr (c_api_Condition t0)), (5, I_ 0)] (.cons rfl (.cons rfl (.cons rfl .nil))) ?_
  refine J_it (fun x9 => ⟨fr [(1, I_ x9.1), (2, APtr (c_api_Condition t0)), (5, I_ x9.2)], fun _ => none, 0⟩) (fun E10 hE10 x9 => ?_) (by rfl)
  refine J_seq ?_
  refine J_seq ?_
  apply J_joinA (fun v25 => ⟨fr [(1, I_ x9.1), (5, I_ x9.2), (18, I_ x9.2), (21, I_ (t0.Kids.length : Int))], fun _ => none, 0⟩) (fun v25 => ref22_left_j25 x9 v25)
  · intro K26
    refine J_region rfl ?_
    refine r_move (I_ x9.2) rfl rfl ?_
    refine r_faT (k_api_Condition t0.Kids) fo_35_1 rfl rfl rfl ?_
    refine r_ld (AL 9 c_api_Condition t0.Kids) sc_33 rfl (kid_api_Condition _) rfl ?_
    refine r_len (cc := c_api_Condition) il_33 rfl rfl ?_
    refine r_lss rfl rfl rfl ?_
    refine r_move (ABool (decide (x9.2 < (t0.Kids.length : Int)))) rfl rfl ?_
    refine R_if (fun h18 => ?_) (fun h18 => ?_)
    rotate_left
    · refine R_skip (g_tn rfl rfl (df h18)) ?_
      refine R_skip (g_tn rfl rfl (df h18)) ?_
      refine r_pickF (ABool false) rfl (df h18) rfl rfl ?_
      refine R_nil0 ?_
      refine J_cond_F rfl rfl ?_
      refine J_to [(1, I_ x9.1), (5, I_ x9.2), (18, I_ x9.2), (21, I_ (t0.Kids.length : Int))] (.cons rfl (.cons rfl (.cons rfl (.cons rfl .nil)))) ?_
      exact K26 ()
    refine r_move (I_ x9.1) rfl (g_t rfl rfl (dt h18)) ?_
    refine r_geq rfl rfl (g_t rfl rfl (dt h18)) ?_
    refine r_pickT (ABool (decide (0 ≤ x9.1))) rfl (dt h18) rfl rfl ?_
    refine R_nil0 ?_
    refine J_cond_p rfl (fun h19 => ?_) (fun h19 => ?_)
    rotate_left
    · refine J_to [(1, I_ x9.1), (5, I_ x9.2), (18, I_ x9.2), (21, I_ (t0.Kids.length : Int))] (.cons rfl (.cons rfl (.cons rfl (.cons rfl .nil)))) ?_
      exact K26 ()
    refine J_skip ?_
    refine J_seq ?_
    refine J_block ?_
    refine J_region rfl ?_
    refine r_faT (k_api_Condition t0.Kids) fo_35_1 rfl rfl rfl ?_
    refine r_ld (AL 9 c_api_Condition t0.Kids) sc_33 rfl (kid_api_Condition _) rfl ?_
    refine r_move (I_ x9.2) rfl rfl ?_
    refine R_if (fun h20 => ?_) (fun _ => R_none)
    refine r_ix (cc := c_api_Condition) el_33 rfl rfl h20.1 h20.2 rfl ?_
    refine r_lda (c_api_Condition (nth t0.Kids x9.2)) ag_35 rfl rfl rfl rfl ?_
    refine r_move (I_ x9.1) rfl rfl ?_
    refine R_bind fun b21 h22 => ?_
    refine r_call _ fn_79 (hq_ref22_left _ _ _ h22) rfl rfl ?_
    refine r_assign (I_ b21) rfl rfl ?_
    refine R_nil0 ?_
    refine J_inBlock ?_
    refine J_range 21 (m := (t0.Kids.length : Int)) rfl fun q23 => ?_
    refine J_range 5 (m := x9.2) rfl fun q24 => ?_
    refine J_region rfl ?_
    refine r_move (I_ x9.2) rfl rfl ?_
    refine r_add (x9.2 + 1) rfl rfl (wrap_i64 (by omega) (by omega)) rfl ?_
    refine r_assign (I_ (x9.2 + 1)) rfl rfl ?_
    refine R_nil0 ?_
    refine J_go ?_
    refine J_to [(1, I_ b21), (2, APtr (c_api_Condition t0)), (5, I_ (x9.2 + 1))] (.cons rfl (.cons rfl (.cons rfl .nil))) ?_
    exact hE10 (b21, x9.2 + 1)
  intro v25
  refine J_exit rfl ?_
  refine J_outS ?_
  refine J_seq ?_
  refine J_region rfl ?_
  refine r_move (I_ x9.1) rfl rfl ?_
  refine r_assign (I_ x9.1) rfl rfl ?_
  refine R_nil0 ?_
  exact J_ret hΨ (Res_one rfl) (fun y hy => by cases hy; rfl)
theorem ref22_left_n_ok : ∀ n, (∀ (t0 : api_Condition) (t1 : Int) (r : Int), (ref22_left_n n) t0 t1 = some r → FnP PP 79 [AAgg (c_api_Condition t0), I_ t1] (I_ r)) := by
  intro n
  induction n with
  | zero => exact (fun _ _ _ h => by cases h)
  | succ n ih => exact (fun a0 a1 r h => k_ref22_left_b _ ih a0 a1 r h)
theorem k_ref22_left (t0 : api_Condition) (t1 : Int) (r : Int) (hr : ref22_left t0 t1 = some r) : FnP PP 79 [AAgg (c_api_Condition t0), I_ t1] (I_ r) := by
  obtain ⟨n, hn⟩ := Ev_some hr
  exact (ref22_left_n_ok n) t0 t1 r hn
theorem k_ref22_Few (t0 : api_Condition) (r : Bool) (hr : ref22_Few t0 = some r) : FnP PP 35 [AAgg (c_api_Condition t0)] (ABool r) := by
  refine FnP.of mixed_ Tryz.func35 rfl (n := 6) rfl (fun (r : Bool) => ABool r) nk_args NK.nk rfl hr fun X hΨ => ?_
  refine J_seq ?_
  refine J_region rfl ?_
  refine r_boxV (AAgg (c_api_Condition t0)) rfl rfl ?_
  refine r_assign (ABool false) rfl rfl ?_
  refine R_nil0 ?_
  refine J_seq ?_
  refine J_region rfl ?_
  refine r_lda (c_api_Condition t0) ag_35 rfl rfl rfl rfl ?_
  refine R_bind fun b1 h2 => ?_
  refine r_call _ fn_79 (k_ref22_left _ _ _ h2) rfl rfl ?_
  refine r_geq rfl rfl rfl ?_
  refine r_assign (ABool (decide (0 ≤ b1))) rfl rfl ?_
  refine R_nil0 ?_
  exact J_ret hΨ (Res_one rfl) (fun y hy => by cases hy; rfl)
theorem k_ref24_Few (t0 : api_Rule) (r : Bool) (hr : ref24_Few t0 = some r) : FnP PP 9 [AAgg (c_api_Rule t0)] (ABool r) := by
  refine FnP.of mixed_ Tryz.func9 rfl (n := 32) rfl (fun (r : Bool) => ABool r) nk_args NK.nk rfl hr fun X hΨ => ?_
  refine J_seq ?_
  refine J_region rfl ?_
  refine r_boxV (AAgg (c_api_Rule t0)) rfl rfl ?_
  refine r_assign (ABool false) rfl rfl ?_
  refine R_nil0 ?_
  refine J_seq ?_
  refine J_region rfl ?_
  refine r_faT (c_str t0.Name) fo_37_0 rfl rfl rfl ?_
  refine r_ld (AStr t0.Name) sc_9 rfl rfl rfl ?_
  refine r_lenS is_9 rfl rfl ?_
  refine r_leq rfl rfl rfl ?_
  refine r_move (ABool (decide ((t0.Name.size : Int) ≤ 60))) rfl rfl ?_
  refine R_if (fun h1 => ?_) (fun h1 => ?_)
  rotate_left
  · refine R_skip (g_tn rfl rfl (df h1)) ?_
    refine R_skip (g_tn rfl rfl (df h1)) ?_
    refine R_skip (g_tn rfl rfl (df h1)) ?_
    refine r_pickF (ABool false) rfl (df h1) rfl rfl ?_
    refine r_move (ABool false) rfl rfl ?_
    refine R_skip (g_tn rfl rfl rfl) ?_
    refine R_skip (g_tn rfl rfl rfl) ?_
    refine R_skip (g_tn rfl rfl rfl) ?_
    refine r_pickF (ABool false) rfl rfl rfl rfl ?_
    refine r_move (ABool false) rfl rfl ?_
    refine R_skip (g_tn rfl rfl rfl) ?_
    refine R_skip (g_tn rfl rfl rfl) ?_
    refine R_skip (g_tn rfl rfl rfl) ?_
    refine r_pickF (ABool false) rfl rfl rfl rfl ?_
    refine r_move (ABool false) rfl rfl ?_
    refine R_skip (g_tn rfl rfl rfl) ?_
    refine R_skip (g_tn rfl rfl rfl) ?_
    refine R_skip (g_tn rfl rfl rfl) ?_
    refine r_pickF (ABool false) rfl rfl rfl rfl ?_
    refine r_move (ABool false) rfl rfl ?_
    refine R_skip (g_tn rfl rfl rfl) ?_
    refine R_skip (g_tn rfl rfl rfl) ?_
    refine R_skip (g_tn rfl rfl rfl) ?_
    refine r_pickF (ABool false) rfl rfl rfl rfl ?_
    refine r_assign (ABool false) rfl rfl ?_
    refine R_nil0 ?_
    exact J_ret hΨ (Res_one rfl) (fun y hy => by cases hy; rfl)
  refine r_faT (c_api_Pattern t0.Left) fo_37_1 rfl rfl (g_t rfl rfl (dt h1)) ?_
  refine r_lda (c_api_Pattern t0.Left) ag_29 rfl rfl rfl (g_t rfl rfl (dt h1)) ?_
  refine R_bind fun b2 h3 => ?_
  refine r_call _ fn_33 (k_ref21_Few _ _ h3) rfl (g_t rfl rfl (dt h1)) ?_
  refine r_pickT (ABool b2) rfl (dt h1) rfl rfl ?_
  refine r_move (ABool b2) rfl rfl ?_
  refine R_if (fun h4 => ?_) (fun h4 => ?_)
  rotate_left
  · refine R_skip (g_tn rfl rfl (bf h4)) ?_
    refine R_skip (g_tn rfl rfl (bf h4)) ?_
    refine R_skip (g_tn rfl rfl (bf h4)) ?_
    refine r_pickF (ABool false) rfl (bf h4) rfl rfl ?_
    refine r_move (ABool false) rfl rfl ?_
    refine R_skip (g_tn rfl rfl rfl) ?_
    refine R_skip (g_tn rfl rfl rfl) ?_
    refine R_skip (g_tn rfl rfl rfl) ?_
    refine r_pickF (ABool false) rfl rfl rfl rfl ?_
    refine r_move (ABool false) rfl rfl ?_
    refine R_skip (g_tn rfl rfl rfl) ?_
    refine R_skip (g_tn rfl rfl rfl) ?_
    refine R_skip (g_tn rfl rfl rfl) ?_
    refine r_pickF (ABool false) rfl rfl rfl rfl ?_
    refine r_move (ABool false) rfl rfl ?_
    refine R_skip (g_tn rfl rfl rfl) ?_
    refine R_skip (g_tn rfl rfl rfl) ?_
    refine R_skip (g_tn rfl rfl rfl) ?_
    refine r_pickF (ABool false) rfl rfl rfl rfl ?_
    refine r_assign (ABool false) rfl rfl ?_
    refine R_nil0 ?_
    exact J_ret hΨ (Res_one rfl) (fun y hy => by cases hy; rfl)
  refine r_faT (c_api_Pattern t0.Right) fo_37_2 rfl rfl (g_t rfl rfl h4) ?_
  refine r_lda (c_api_Pattern t0.Right) ag_29 rfl rfl rfl (g_t rfl rfl h4) ?_
  refine R_bind fun b5 h6 => ?_
  refine r_call _ fn_33 (k_ref21_Few _ _ h6) rfl (g_t rfl rfl h4) ?_
  refine r_pickT (ABool b5) rfl h4 rfl rfl ?_
  refine r_move (ABool b5) rfl rfl ?_
  refine R_if (fun h7 => ?_) (fun h7 => ?_)
  rotate_left
  · refine R_skip (g_tn rfl rfl (bf h7)) ?_
    refine R_skip (g_tn rfl rfl (bf h7)) ?_
    refine R_skip (g_tn rfl rfl (bf h7)) ?_
    refine r_pickF (ABool false) rfl (bf h7) rfl rfl ?_
    refine r_move (ABool false) rfl rfl ?_
    refine R_skip (g_tn rfl rfl rfl) ?_
    refine R_skip (g_tn rfl rfl rfl) ?_
    refine R_skip (g_tn rfl rfl rfl) ?_
    refine r_pickF (ABool false) rfl rfl rfl rfl ?_
    refine r_move (ABool false) rfl rfl ?_
    refine R_skip (g_tn rfl rfl rfl) ?_
    refine R_skip (g_tn rfl rfl rfl) ?_
    refine R_skip (g_tn rfl rfl rfl) ?_
    refine r_pickF (ABool false) rfl rfl rfl rfl ?_
    refine r_assign (ABool false) rfl rfl ?_
    refine R_nil0 ?_
    exact J_ret hΨ (Res_one rfl) (fun y hy => by cases hy; rfl)
  refine r_faT (c_api_Part t0.Keep) fo_37_3 rfl rfl (g_t rfl rfl h7) ?_
  refine r_lda (c_api_Part t0.Keep) ag_31 rfl rfl rfl (g_t rfl rfl h7) ?_
  refine R_bind fun b8 h9 => ?_
  refine r_call _ fn_34 (k_ref07_Few _ _ _ h9) rfl (g_t rfl rfl h7) ?_
  refine r_pickT (ABool b8) rfl h7 rfl rfl ?_
  refine r_move (ABool b8) rfl rfl ?_
  refine R_if (fun h10 => ?_) (fun h10 => ?_)
  rotate_left
  · refine R_skip (g_tn rfl rfl (bf h10)) ?_
    refine R_skip (g_tn rfl rfl (bf h10)) ?_
    refine R_skip (g_tn rfl rfl (bf h10)) ?_
    refine r_pickF (ABool false) rfl (bf h10) rfl rfl ?_
    refine r_move (ABool false) rfl rfl ?_
    refine R_skip (g_tn rfl rfl rfl) ?_
    refine R_skip (g_tn rfl rfl rfl) ?_
    refine R_skip (g_tn rfl rfl rfl) ?_
    refine r_pickF (ABool false) rfl rfl rfl rfl ?_
    refine r_assign (ABool false) rfl rfl ?_
    refine R_nil0 ?_
    exact J_ret hΨ (Res_one rfl) (fun y hy => by cases hy; rfl)
  refine r_faT (c_api_Morphism t0.Into) fo_37_4 rfl rfl (g_t rfl rfl h10) ?_
  refine r_lda (c_api_Morphism t0.Into) ag_32 rfl rfl rfl (g_t rfl rfl h10) ?_
  refine R_bind fun b11 h12 => ?_
  refine r_call _ fn_22 (k_ref06_Few _ _ _ h12) rfl (g_t rfl rfl h10) ?_
  refine r_pickT (ABool b11) rfl h10 rfl rfl ?_
  refine r_move (ABool b11) rfl rfl ?_
  refine R_if (fun h13 => ?_) (fun h13 => ?_)
  rotate_left
  · refine R_skip (g_tn rfl rfl (bf h13)) ?_
    refine R_skip (g_tn rfl rfl (bf h13)) ?_
    refine R_skip (g_tn rfl rfl (bf h13)) ?_
    refine r_pickF (ABool false) rfl (bf h13) rfl rfl ?_
    refine r_assign (ABool false) rfl rfl ?_
    refine R_nil0 ?_
    exact J_ret hΨ (Res_one rfl) (fun y hy => by cases hy; rfl)
  refine r_faT (c_api_Condition t0.Condition) fo_37_6 rfl rfl (g_t rfl rfl h13) ?_
  refine r_lda (c_api_Condition t0.Condition) ag_35 rfl rfl rfl (g_t rfl rfl h13) ?_
  refine R_bind fun b14 h15 => ?_
  refine r_call _ fn_35 (k_ref22_Few _ _ h15) rfl (g_t rfl rfl h13) ?_
  refine r_pickT (ABool b14) rfl h13 rfl rfl ?_
  refine r_assign (ABool b14) rfl rfl ?_
  refine R_nil0 ?_
  exact J_ret hΨ (Res_one rfl) (fun y hy => by cases hy; rfl)
theorem k_rule_Plain (t0 : api_Rule) (r : api_Rule × Int) (hr : rule_Plain t0 = some r) : FnP PP 10 [AAgg (c_api_Rule t0)] (ATup [AAgg (c_api_Rule r.1), I_ r.2]) := by
  refine FnP.of mixed_ Tryz.func10 rfl (n := 53) rfl (fun (r : api_Rule × Int) => ATup [AAgg (c_api_Rule r.1), I_ r.2]) nk_args NK.nk rfl hr fun X hΨ => ?_
  refine J_seq ?_
  refine J_region rfl ?_
  refine r_boxV (AAgg (c_api_Rule t0)) rfl rfl ?_
  refine r_alloc 0 _ z_37 rfl rfl ?_
  refine r_assign (I_ 0) rfl rfl ?_
  refine R_nil0 ?_
  refine J_seq ?_
  refine J_seq ?_
  refine J_region rfl ?_
  refine r_faT (c_api_Pattern t0.Left) fo_37_1 rfl rfl rfl ?_
  refine r_faT (c_api_Graph t0.Left.Graph) fo_29_0 rfl rfl rfl ?_
  refine r_lda (c_api_Graph t0.Left.Graph) ag_25 rfl rfl rfl rfl ?_
  refine R_bind fun b1 h2 => ?_
  refine r_call _ fn_36 (k_graph_Valid _ _ h2) rfl rfl ?_
  refine r_assign (I_ b1) rfl rfl ?_
  refine R_nil0 ?_
  refine J_seq ?_
  refine J_region rfl ?_
  refine r_move (I_ b1) rfl rfl ?_
  refine r_neq rfl rfl rfl ?_
  refine R_nil0 ?_
  refine J_cond_p rfl (fun h3 => ?_) (fun h3 => ?_)
  · refine J_seq ?_
    refine J_region rfl ?_
    refine r_buildI (Cs := [AStr (ByteArray.mk #[]), ANil, ANil, ANil, I_ 0, ANil, ANil, ANil, ANil, I_ 0, ANil, ANil, ANil, ANil, ANil, ABool false, I_ 0, ANil, ANil, ANil, ANil, ANil, ANil, I_ 0, ANil]) (c_api_Rule (api_Rule.mk (ByteArray.mk #[]) (api_Pattern.mk (api_Graph.mk [] []) [] 0 []) (api_Pattern.mk (api_Graph.mk [] []) [] 0 []) (api_Part.mk [] []) (api_Morphism.mk [] []) false (api_Condition.mk 0 [] (api_Morphism.mk [] []) (api_Pattern.mk (api_Graph.mk [] []) [] 0 [])))) pl_37 z_37 .nil rfl (.same (.nl (.nl (.nl (.same (.nl (.nl (.nl (.nl (.same (.nl (.nl (.nl (.nl (.nl (.same (.same (.nl (.nl (.nl (.nl (.nl (.nl (.same (.nl .nil))))))))))))))))))))))))) rfl ?_
    refine r_move (I_ b1) rfl rfl ?_
    refine r_stO (AObj 0) (AAgg (c_api_Rule (api_Rule.mk (ByteArray.mk #[]) (api_Pattern.mk (api_Graph.mk [] []) [] 0 []) (api_Pattern.mk (api_Graph.mk [] []) [] 0 []) (api_Part.mk [] []) (api_Morphism.mk [] []) false (api_Condition.mk 0 [] (api_Morphism.mk [] []) (api_Pattern.mk (api_Graph.mk [] []) [] 0 []))))) (c_api_Rule (api_Rule.mk (ByteArray.mk #[]) (api_Pattern.mk (api_Graph.mk [] []) [] 0 []) (api_Pattern.mk (api_Graph.mk [] []) [] 0 []) (api_Part.mk [] []) (api_Morphism.mk [] []) false (api_Condition.mk 0 [] (api_Morphism.mk [] []) (api_Pattern.mk (api_Graph.mk [] []) [] 0 [])))) sz_37 rfl .obj rfl rfl rfl rfl rfl rfl ?_
    refine r_assign (I_ b1) rfl rfl ?_
    refine R_nil0 ?_
    exact J_ret hΨ (Res_many (As := [AAgg (c_api_Rule (api_Rule.mk (ByteArray.mk #[]) (api_Pattern.mk (api_Graph.mk [] []) [] 0 []) (api_Pattern.mk (api_Graph.mk [] []) [] 0 []) (api_Part.mk [] []) (api_Morphism.mk [] []) false (api_Condition.mk 0 [] (api_Morphism.mk [] []) (api_Pattern.mk (api_Graph.mk [] []) [] 0 [])))), I_ b1]) rfl rfl (.cons (.boxA (cs := (c_api_Rule (api_Rule.mk (ByteArray.mk #[]) (api_Pattern.mk (api_Graph.mk [] []) [] 0 []) (api_Pattern.mk (api_Graph.mk [] []) [] 0 []) (api_Part.mk [] []) (api_Morphism.mk [] []) false (api_Condition.mk 0 [] (api_Morphism.mk [] []) (api_Pattern.mk (api_Graph.mk [] []) [] 0 []))))) ag_37 rfl rfl rfl) (.cons (.tmp (A := I_ b1) rfl) .nil))) (fun y hy => by cases hy; rfl)
  refine J_skip ?_
  refine J_seq ?_
  refine J_seq ?_
  refine J_region rfl ?_
  refine r_faT (c_api_Pattern t0.Right) fo_37_2 rfl rfl rfl ?_
  refine r_faT (c_api_Graph t0.Right.Graph) fo_29_0 rfl rfl rfl ?_
  refine r_lda (c_api_Graph t0.Right.Graph) ag_25 rfl rfl rfl rfl ?_
  refine R_bind fun b4 h5 => ?_
  refine r_call _ fn_36 (k_graph_Valid _ _ h5) rfl rfl ?_
  refine r_assign (I_ b4) rfl rfl ?_
  refine R_nil0 ?_
  refine J_seq ?_
  refine J_region rfl ?_
  refine r_move (I_ b4) rfl rfl ?_
  refine r_neq rfl rfl rfl ?_
  refine R_nil0 ?_
  refine J_cond_p rfl (fun h6 => ?_) (fun h6 => ?_)
  · refine J_seq ?_
    refine J_region rfl ?_
    refine r_buildI (Cs := [AStr (ByteArray.mk #[]), ANil, ANil, ANil, I_ 0, ANil, ANil, ANil, ANil, I_ 0, ANil, ANil, ANil, ANil, ANil, ABool false, I_ 0, ANil, ANil, ANil, ANil, ANil, ANil, I_ 0, ANil]) (c_api_Rule (api_Rule.mk (ByteArray.mk #[]) (api_Pattern.mk (api_Graph.mk [] []) [] 0 []) (api_Pattern.mk (api_Graph.mk [] []) [] 0 []) (api_Part.mk [] []) (api_Morphism.mk [] []) false (api_Condition.mk 0 [] (api_Morphism.mk [] []) (api_Pattern.mk (api_Graph.mk [] []) [] 0 [])))) pl_37 z_37 .nil rfl (.same (.nl (.nl (.nl (.same (.nl (.nl (.nl (.nl (.same (.nl (.nl (.nl (.nl (.nl (.same (.same (.nl (.nl (.nl (.nl (.nl (.nl (.same (.nl .nil))))))))))))))))))))))))) rfl ?_
    refine r_move (I_ b4) rfl rfl ?_
    refine r_stO (AObj 0) (AAgg (c_api_Rule (api_Rule.mk (ByteArray.mk #[]) (api_Pattern.mk (api_Graph.mk [] []) [] 0 []) (api_Pattern.mk (api_Graph.mk [] []) [] 0 []) (api_Part.mk [] []) (api_Morphism.mk [] []) false (api_Condition.mk 0 [] (api_Morphism.mk [] []) (api_Pattern.mk (api_Graph.mk [] []) [] 0 []))))) (c_api_Rule (api_Rule.mk (ByteArray.mk #[]) (api_Pattern.mk (api_Graph.mk [] []) [] 0 []) (api_Pattern.mk (api_Graph.mk [] []) [] 0 []) (api_Part.mk [] []) (api_Morphism.mk [] []) false (api_Condition.mk 0 [] (api_Morphism.mk [] []) (api_Pattern.mk (api_Graph.mk [] []) [] 0 [])))) sz_37 rfl .obj rfl rfl rfl rfl rfl rfl ?_
    refine r_assign (I_ b4) rfl rfl ?_
    refine R_nil0 ?_
    exact J_ret hΨ (Res_many (As := [AAgg (c_api_Rule (api_Rule.mk (ByteArray.mk #[]) (api_Pattern.mk (api_Graph.mk [] []) [] 0 []) (api_Pattern.mk (api_Graph.mk [] []) [] 0 []) (api_Part.mk [] []) (api_Morphism.mk [] []) false (api_Condition.mk 0 [] (api_Morphism.mk [] []) (api_Pattern.mk (api_Graph.mk [] []) [] 0 [])))), I_ b4]) rfl rfl (.cons (.boxA (cs := (c_api_Rule (api_Rule.mk (ByteArray.mk #[]) (api_Pattern.mk (api_Graph.mk [] []) [] 0 []) (api_Pattern.mk (api_Graph.mk [] []) [] 0 []) (api_Part.mk [] []) (api_Morphism.mk [] []) false (api_Condition.mk 0 [] (api_Morphism.mk [] []) (api_Pattern.mk (api_Graph.mk [] []) [] 0 []))))) ag_37 rfl rfl rfl) (.cons (.tmp (A := I_ b4) rfl) .nil))) (fun y hy => by cases hy; rfl)
  refine J_skip ?_
  refine J_seq ?_
  refine J_region rfl ?_
  refine r_faT (c_api_Pattern t0.Left) fo_37_1 rfl rfl rfl ?_
  refine r_faT (c_api_Graph t0.Left.Graph) fo_29_0 rfl rfl rfl ?_
  refine r_lda (c_api_Graph t0.Left.Graph) ag_25 rfl rfl rfl rfl ?_
  refine r_faT (c_api_Part t0.Keep) fo_37_3 rfl rfl rfl ?_
  refine r_lda (c_api_Part t0.Keep) ag_31 rfl rfl rfl rfl ?_
  refine R_bind fun b7 h8 => ?_
  refine r_call _ fn_37 (k_subgraph_Extract _ _ _ h8) rfl rfl ?_
  refine r_move (ATup [AAgg (c_api_Graph b7.1), AAgg (c_api_Morphism b7.2.1), I_ b7.2.2]) rfl rfl ?_
  refine r_ext (AAgg (c_api_Graph b7.1)) rfl rfl rfl ?_
  refine r_ext (AAgg (c_api_Morphism b7.2.1)) rfl rfl rfl ?_
  refine r_ext (I_ b7.2.2) rfl rfl rfl ?_
  refine r_alloc 1 _ z_25 rfl rfl ?_
  refine r_alloc 2 _ z_32 rfl rfl ?_
  refine r_stO (AObj 1) (AAgg (c_api_Graph b7.1)) (c_api_Graph b7.1) sz_25 rfl .obj rfl rfl rfl rfl rfl rfl ?_
  refine r_stO (AObj 2) (AAgg (c_api_Morphism b7.2.1)) (c_api_Morphism b7.2.1) sz_32 rfl .obj rfl rfl rfl rfl rfl rfl ?_
  refine r_assign (I_ b7.2.2) rfl rfl ?_
  refine R_nil0 ?_
  refine J_seq ?_
  refine J_seq ?_
  refine J_region rfl ?_
  refine r_move (I_ b7.2.2) rfl rfl ?_
  refine r_neq rfl rfl rfl ?_
  refine R_nil0 ?_
  refine J_cond_p rfl (fun h9 => ?_) (fun h9 => ?_)
  · refine J_seq ?_
    refine J_region rfl ?_
    refine r_buildI (Cs := [AStr (ByteArray.mk #[]), ANil, ANil, ANil, I_ 0, ANil, ANil, ANil, ANil, I_ 0, ANil, ANil, ANil, ANil, ANil, ABool false, I_ 0, ANil, ANil, ANil, ANil, ANil, ANil, I_ 0, ANil]) (c_api_Rule (api_Rule.mk (ByteArray.mk #[]) (api_Pattern.mk (api_Graph.mk [] []) [] 0 []) (api_Pattern.mk (api_Graph.mk [] []) [] 0 []) (api_Part.mk [] []) (api_Morphism.mk [] []) false (api_Condition.mk 0 [] (api_Morphism.mk [] []) (api_Pattern.mk (api_Graph.mk [] []) [] 0 [])))) pl_37 z_37 .nil rfl (.same (.nl (.nl (.nl (.same (.nl (.nl (.nl (.nl (.same (.nl (.nl (.nl (.nl (.nl (.same (.same (.nl (.nl (.nl (.nl (.nl (.nl (.same (.nl .nil))))))))))))))))))))))))) rfl ?_
    refine r_move (I_ b7.2.2) rfl rfl ?_
    refine r_stO (AObj 0) (AAgg (c_api_Rule (api_Rule.mk (ByteArray.mk #[]) (api_Pattern.mk (api_Graph.mk [] []) [] 0 []) (api_Pattern.mk (api_Graph.mk [] []) [] 0 []) (api_Part.mk [] []) (api_Morphism.mk [] []) false (api_Condition.mk 0 [] (api_Morphism.mk [] []) (api_Pattern.mk (api_Graph.mk [] []) [] 0 []))))) (c_api_Rule (api_Rule.mk (ByteArray.mk #[]) (api_Pattern.mk (api_Graph.mk [] []) [] 0 []) (api_Pattern.mk (api_Graph.mk [] []) [] 0 []) (api_Part.mk [] []) (api_Morphism.mk [] []) false (api_Condition.mk 0 [] (api_Morphism.mk [] []) (api_Pattern.mk (api_Graph.mk [] []) [] 0 [])))) sz_37 rfl .obj rfl rfl rfl rfl rfl rfl ?_
    refine r_assign (I_ b7.2.2) rfl rfl ?_
    refine R_nil0 ?_
    exact J_ret hΨ (Res_many (As := [AAgg (c_api_Rule (api_Rule.mk (ByteArray.mk #[]) (api_Pattern.mk (api_Graph.mk [] []) [] 0 []) (api_Pattern.mk (api_Graph.mk [] []) [] 0 []) (api_Part.mk [] []) (api_Morphism.mk [] []) false (api_Condition.mk 0 [] (api_Morphism.mk [] []) (api_Pattern.mk (api_Graph.mk [] []) [] 0 [])))), I_ b7.2.2]) rfl rfl (.cons (.boxA (cs := (c_api_Rule (api_Rule.mk (ByteArray.mk #[]) (api_Pattern.mk (api_Graph.mk [] []) [] 0 []) (api_Pattern.mk (api_Graph.mk [] []) [] 0 []) (api_Part.mk [] []) (api_Morphism.mk [] []) false (api_Condition.mk 0 [] (api_Morphism.mk [] []) (api_Pattern.mk (api_Graph.mk [] []) [] 0 []))))) ag_37 rfl rfl rfl) (.cons (.tmp (A := I_ b7.2.2) rfl) .nil))) (fun y hy => by cases hy; rfl)
  refine J_skip ?_
  refine J_seq ?_
  refine J_seq ?_
  refine J_region rfl ?_
  refine r_ldaO (AObj 1) (c_api_Graph b7.1) ag_25 rfl .obj rfl rfl rfl rfl ?_
  refine r_faT (c_api_Pattern t0.Right) fo_37_2 rfl rfl rfl ?_
  refine r_faT (c_api_Graph t0.Right.Graph) fo_29_0 rfl rfl rfl ?_
  refine r_lda (c_api_Graph t0.Right.Graph) ag_25 rfl rfl rfl rfl ?_
  refine r_faT (c_api_Morphism t0.Into) fo_37_4 rfl rfl rfl ?_
  refine r_lda (c_api_Morphism t0.Into) ag_32 rfl rfl rfl rfl ?_
  refine R_bind fun b10 h11 => ?_
  refine r_call _ fn_38 (k_morphism_Valid _ _ _ _ h11) rfl rfl ?_
  refine r_assign (I_ b10) rfl rfl ?_
  refine R_nil0 ?_
  refine J_seq ?_
  refine J_region rfl ?_
  refine r_move (I_ b10) rfl rfl ?_
  refine r_neq rfl rfl rfl ?_
  refine R_nil0 ?_
  refine J_cond_p rfl (fun h12 => ?_) (fun h12 => ?_)
  · refine J_seq ?_
    refine J_region rfl ?_
    refine r_buildI (Cs := [AStr (ByteArray.mk #[]), ANil, ANil, ANil, I_ 0, ANil, ANil, ANil, ANil, I_ 0, ANil, ANil, ANil, ANil, ANil, ABool false, I_ 0, ANil, ANil, ANil, ANil, ANil, ANil, I_ 0, ANil]) (c_api_Rule (api_Rule.mk (ByteArray.mk #[]) (api_Pattern.mk (api_Graph.mk [] []) [] 0 []) (api_Pattern.mk (api_Graph.mk [] []) [] 0 []) (api_Part.mk [] []) (api_Morphism.mk [] []) false (api_Condition.mk 0 [] (api_Morphism.mk [] []) (api_Pattern.mk (api_Graph.mk [] []) [] 0 [])))) pl_37 z_37 .nil rfl (.same (.nl (.nl (.nl (.same (.nl (.nl (.nl (.nl (.same (.nl (.nl (.nl (.nl (.nl (.same (.same (.nl (.nl (.nl (.nl (.nl (.nl (.same (.nl .nil))))))))))))))))))))))))) rfl ?_
    refine r_move (I_ b10) rfl rfl ?_
    refine r_stO (AObj 0) (AAgg (c_api_Rule (api_Rule.mk (ByteArray.mk #[]) (api_Pattern.mk (api_Graph.mk [] []) [] 0 []) (api_Pattern.mk (api_Graph.mk [] []) [] 0 []) (api_Part.mk [] []) (api_Morphism.mk [] []) false (api_Condition.mk 0 [] (api_Morphism.mk [] []) (api_Pattern.mk (api_Graph.mk [] []) [] 0 []))))) (c_api_Rule (api_Rule.mk (ByteArray.mk #[]) (api_Pattern.mk (api_Graph.mk [] []) [] 0 []) (api_Pattern.mk (api_Graph.mk [] []) [] 0 []) (api_Part.mk [] []) (api_Morphism.mk [] []) false (api_Condition.mk 0 [] (api_Morphism.mk [] []) (api_Pattern.mk (api_Graph.mk [] []) [] 0 [])))) sz_37 rfl .obj rfl rfl rfl rfl rfl rfl ?_
    refine r_assign (I_ b10) rfl rfl ?_
    refine R_nil0 ?_
    exact J_ret hΨ (Res_many (As := [AAgg (c_api_Rule (api_Rule.mk (ByteArray.mk #[]) (api_Pattern.mk (api_Graph.mk [] []) [] 0 []) (api_Pattern.mk (api_Graph.mk [] []) [] 0 []) (api_Part.mk [] []) (api_Morphism.mk [] []) false (api_Condition.mk 0 [] (api_Morphism.mk [] []) (api_Pattern.mk (api_Graph.mk [] []) [] 0 [])))), I_ b10]) rfl rfl (.cons (.boxA (cs := (c_api_Rule (api_Rule.mk (ByteArray.mk #[]) (api_Pattern.mk (api_Graph.mk [] []) [] 0 []) (api_Pattern.mk (api_Graph.mk [] []) [] 0 []) (api_Part.mk [] []) (api_Morphism.mk [] []) false (api_Condition.mk 0 [] (api_Morphism.mk [] []) (api_Pattern.mk (api_Graph.mk [] []) [] 0 []))))) ag_37 rfl rfl rfl) (.cons (.tmp (A := I_ b10) rfl) .nil))) (fun y hy => by cases hy; rfl)
  refine J_skip ?_
  refine J_seq ?_
  refine J_region rfl ?_
  refine r_lda (c_api_Rule t0) ag_37 rfl rfl rfl rfl ?_
  refine R_bind fun b13 h14 => ?_
  refine r_call _ fn_39 (k_rule_plain _ _ h14) rfl rfl ?_
  refine r_stO (AObj 0) (AAgg (c_api_Rule b13)) (c_api_Rule b13) sz_37 rfl .obj rfl rfl rfl rfl rfl rfl ?_
  refine r_assign (I_ 0) rfl rfl ?_
  refine R_nil0 ?_
  exact J_ret hΨ (Res_many (As := [AAgg (c_api_Rule b13), I_ 0]) rfl rfl (.cons (.boxA (cs := (c_api_Rule b13)) ag_37 rfl rfl rfl) (.cons (.tmp (A := I_ 0) rfl) .nil))) (fun y hy => by cases hy; rfl)
theorem k_ref05_kind (t0 : Int) (r : Bool) (hr : ref05_kind t0 = some r) : FnP PP 90 [I_ t0] (ABool r) := by
  refine FnP.of mixed_ Tryz.func90 rfl (n := 9) rfl (fun (r : Bool) => ABool r) nk_args NK.nk rfl hr fun X hΨ => ?_
  refine J_seq ?_
  refine J_region rfl ?_
  refine r_assign (ABool false) rfl rfl ?_
  refine R_nil0 ?_
  refine J_seq ?_
  refine J_region rfl ?_
  refine r_move (I_ t0) rfl rfl ?_
  refine r_geq rfl rfl rfl ?_
  refine r_move (ABool (decide (0 ≤ t0))) rfl rfl ?_
  refine R_if (fun h1 => ?_) (fun h1 => ?_)
  · refine r_move (I_ t0) rfl (g_t rfl rfl (dt h1)) ?_
    refine r_leq rfl rfl (g_t rfl rfl (dt h1)) ?_
    refine r_pickT (ABool (decide (t0 ≤ 99))) rfl (dt h1) rfl rfl ?_
    refine r_assign (ABool (decide (t0 ≤ 99))) rfl rfl ?_
    refine R_nil0 ?_
    exact J_ret hΨ (Res_one rfl) (fun y hy => by cases hy; rfl)
  refine R_skip (g_tn rfl rfl (df h1)) ?_
  refine R_skip (g_tn rfl rfl (df h1)) ?_
  refine r_pickF (ABool false) rfl (df h1) rfl rfl ?_
  refine r_assign (ABool false) rfl rfl ?_
  refine R_nil0 ?_
  exact J_ret hΨ (Res_one rfl) (fun y hy => by cases hy; rfl)
theorem k_ref05_right (t0 : api_Edge) (t1 : Int) (r : Bool) (hr : ref05_right t0 t1 = some r) : FnP PP 91 [AAgg (c_api_Edge t0), I_ t1] (ABool r) := by
  refine FnP.of mixed_ Tryz.func91 rfl (n := 30) rfl (fun (r : Bool) => ABool r) nk_args NK.nk rfl hr fun X hΨ => ?_
  refine J_seq ?_
  refine J_region rfl ?_
  refine r_boxV (AAgg (c_api_Edge t0)) rfl rfl ?_
  refine r_assign (ABool false) rfl rfl ?_
  refine R_nil0 ?_
  refine J_seq ?_
  refine J_region rfl ?_
  refine r_faT (c_i64 t0.Type_) fo_135_0 rfl rfl rfl ?_
  refine r_ld (I_ t0.Type_) sc_3 rfl rfl rfl ?_
  refine R_bind fun b1 h2 => ?_
  refine r_call _ fn_90 (k_ref05_kind _ _ h2) rfl rfl ?_
  refine r_move (ABool b1) rfl rfl ?_
  refine R_if (fun h3 => ?_) (fun h3 => ?_)
  rotate_left
  · refine R_skip (g_tn rfl rfl (bf h3)) ?_
    refine R_skip (g_tn rfl rfl (bf h3)) ?_
    refine R_skip (g_tn rfl rfl (bf h3)) ?_
    refine r_pickF (ABool false) rfl (bf h3) rfl rfl ?_
    refine r_move (ABool false) rfl rfl ?_
    refine R_skip (g_tn rfl rfl rfl) ?_
    refine R_skip (g_tn rfl rfl rfl) ?_
    refine R_skip (g_tn rfl rfl rfl) ?_
    refine R_skip (g_tn rfl rfl rfl) ?_
    refine r_pickF (ABool false) rfl rfl rfl rfl ?_
    refine r_move (ABool false) rfl rfl ?_
    refine R_skip (g_tn rfl rfl rfl) ?_
    refine R_skip (g_tn rfl rfl rfl) ?_
    refine R_skip (g_tn rfl rfl rfl) ?_
    refine r_pickF (ABool false) rfl rfl rfl rfl ?_
    refine r_move (ABool false) rfl rfl ?_
    refine R_skip (g_tn rfl rfl rfl) ?_
    refine R_skip (g_tn rfl rfl rfl) ?_
    refine R_skip (g_tn rfl rfl rfl) ?_
    refine R_skip (g_tn rfl rfl rfl) ?_
    refine r_pickF (ABool false) rfl rfl rfl rfl ?_
    refine r_assign (ABool false) rfl rfl ?_
    refine R_nil0 ?_
    exact J_ret hΨ (Res_one rfl) (fun y hy => by cases hy; rfl)
  refine r_faT (c_i64 t0.From) fo_135_1 rfl rfl (g_t rfl rfl h3) ?_
  refine r_ld (I_ t0.From) sc_3 rfl rfl (g_t rfl rfl h3) ?_
  refine r_geq rfl rfl (g_t rfl rfl h3) ?_
  refine r_pickT (ABool (decide (0 ≤ t0.From))) rfl h3 rfl rfl ?_
  refine r_move (ABool (decide (0 ≤ t0.From))) rfl rfl ?_
  refine R_if (fun h4 => ?_) (fun h4 => ?_)
  rotate_left
  · refine R_skip (g_tn rfl rfl (df h4)) ?_
    refine R_skip (g_tn rfl rfl (df h4)) ?_
    refine R_skip (g_tn rfl rfl (df h4)) ?_
    refine R_skip (g_tn rfl rfl (df h4)) ?_
    refine r_pickF (ABool false) rfl (df h4) rfl rfl ?_
    refine r_move (ABool false) rfl rfl ?_
    refine R_skip (g_tn rfl rfl rfl) ?_
    refine R_skip (g_tn rfl rfl rfl) ?_
    refine R_skip (g_tn rfl rfl rfl) ?_
    refine r_pickF (ABool false) rfl rfl rfl rfl ?_
    refine r_move (ABool false) rfl rfl ?_
    refine R_skip (g_tn rfl rfl rfl) ?_
    refine R_skip (g_tn rfl rfl rfl) ?_
    refine R_skip (g_tn rfl rfl rfl) ?_
    refine R_skip (g_tn rfl rfl rfl) ?_
    refine r_pickF (ABool false) rfl rfl rfl rfl ?_
    refine r_assign (ABool false) rfl rfl ?_
    refine R_nil0 ?_
    exact J_ret hΨ (Res_one rfl) (fun y hy => by cases hy; rfl)
  refine r_faT (c_i64 t0.From) fo_135_1 rfl rfl (g_t rfl rfl (dt h4)) ?_
  refine r_ld (I_ t0.From) sc_3 rfl rfl (g_t rfl rfl (dt h4)) ?_
  refine r_move (I_ t1) rfl (g_t rfl rfl (dt h4)) ?_
  refine r_lss rfl rfl (g_t rfl rfl (dt h4)) ?_
  refine r_pickT (ABool (decide (t0.From < t1))) rfl (dt h4) rfl rfl ?_
  refine r_move (ABool (decide (t0.From < t1))) rfl rfl ?_
  refine R_if (fun h5 => ?_) (fun h5 => ?_)
  rotate_left
  · refine R_skip (g_tn rfl rfl (df h5)) ?_
    refine R_skip (g_tn rfl rfl (df h5)) ?_
    refine R_skip (g_tn rfl rfl (df h5)) ?_
    refine r_pickF (ABool false) rfl (df h5) rfl rfl ?_
    refine r_move (ABool false) rfl rfl ?_
    refine R_skip (g_tn rfl rfl rfl) ?_
    refine R_skip (g_tn rfl rfl rfl) ?_
    refine R_skip (g_tn rfl rfl rfl) ?_
    refine R_skip (g_tn rfl rfl rfl) ?_
    refine r_pickF (ABool false) rfl rfl rfl rfl ?_
    refine r_assign (ABool false) rfl rfl ?_
    refine R_nil0 ?_
    exact J_ret hΨ (Res_one rfl) (fun y hy => by cases hy; rfl)
  refine r_faT (c_i64 t0.To) fo_135_2 rfl rfl (g_t rfl rfl (dt h5)) ?_
  refine r_ld (I_ t0.To) sc_3 rfl rfl (g_t rfl rfl (dt h5)) ?_
  refine r_geq rfl rfl (g_t rfl rfl (dt h5)) ?_
  refine r_pickT (ABool (decide (0 ≤ t0.To))) rfl (dt h5) rfl rfl ?_
  refine r_move (ABool (decide (0 ≤ t0.To))) rfl rfl ?_
  refine R_if (fun h6 => ?_) (fun h6 => ?_)
  · refine r_faT (c_i64 t0.To) fo_135_2 rfl rfl (g_t rfl rfl (dt h6)) ?_
    refine r_ld (I_ t0.To) sc_3 rfl rfl (g_t rfl rfl (dt h6)) ?_
    refine r_move (I_ t1) rfl (g_t rfl rfl (dt h6)) ?_
    refine r_lss rfl rfl (g_t rfl rfl (dt h6)) ?_
    refine r_pickT (ABool (decide (t0.To < t1))) rfl (dt h6) rfl rfl ?_
    refine r_assign (ABool (decide (t0.To < t1))) rfl rfl ?_
    refine R_nil0 ?_
    exact J_ret hΨ (Res_one rfl) (fun y hy => by cases hy; rfl)
  refine R_skip (g_tn rfl rfl (df h6)) ?_
  refine R_skip (g_tn rfl rfl (df h6)) ?_
  refine R_skip (g_tn rfl rfl (df h6)) ?_
  refine R_skip (g_tn rfl rfl (df h6)) ?_
  refine r_pickF (ABool false) rfl (df h6) rfl rfl ?_
  refine r_assign (ABool false) rfl rfl ?_
  refine R_nil0 ?_
  exact J_ret hΨ (Res_one rfl) (fun y hy => by cases hy; rfl)
theorem k_ref05_Valid (t0 : api_Graph) (r : Int) (hr : ref05_Valid t0 = some r) : FnP PP 40 [AAgg (c_api_Graph t0)] (I_ r) := by
  refine FnP.of mixed_ Tryz.func40 rfl (n := 46) rfl (fun (r : Int) => I_ r) nk_args NK.nk rfl hr fun X hΨ => ?_
  refine J_seq ?_
  refine J_region rfl ?_
  refine r_boxV (AAgg (c_api_Graph t0)) rfl rfl ?_
  refine r_assign (I_ 0) rfl rfl ?_
  refine R_nil0 ?_
  refine J_seq ?_
  refine J_seq ?_
  refine J_region rfl ?_
  refine r_faT ((cL 1 c_i64) t0.Nodes) fo_25_0 rfl rfl rfl ?_
  refine r_ld (AL 1 c_i64 t0.Nodes) sc_22 rfl rfl rfl ?_
  refine r_len (cc := c_i64) il_22 rfl rfl ?_
  refine r_gtr rfl rfl rfl ?_
  refine r_move (ABool (decide (40 < (t0.Nodes.length : Int)))) rfl rfl ?_
  refine R_if (fun h1 => ?_) (fun h1 => ?_)
  · refine R_skip (g_fn rfl rfl (dt h1)) ?_
    refine R_skip (g_fn rfl rfl (dt h1)) ?_
    refine R_skip (g_fn rfl rfl (dt h1)) ?_
    refine R_skip (g_fn rfl rfl (dt h1)) ?_
    refine r_pickT (ABool true) rfl (dt h1) rfl rfl ?_
    refine R_nil0 ?_
    refine J_cond_T rfl rfl ?_
    refine J_seq ?_
    refine J_region rfl ?_
    refine r_assign (I_ 3) rfl rfl ?_
    refine R_nil0 ?_
    exact J_ret hΨ (Res_one rfl) (fun y hy => by cases hy; rfl)
  refine r_faT ((cL 3 c_api_Edge) t0.Edges) fo_25_1 rfl rfl (g_f rfl rfl (df h1)) ?_
  refine r_ld (AL 3 c_api_Edge t0.Edges) sc_23 rfl rfl (g_f rfl rfl (df h1)) ?_
  refine r_len (cc := c_api_Edge) il_23 rfl (g_f rfl rfl (df h1)) ?_
  refine r_gtr rfl rfl (g_f rfl rfl (df h1)) ?_
  refine r_pickF (ABool (decide (80 < (t0.Edges.length : Int)))) rfl (df h1) rfl rfl ?_
  refine R_nil0 ?_
  refine J_cond_p rfl (fun h2 => ?_) (fun h2 => ?_)
  · refine J_seq ?_
    refine J_region rfl ?_
    refine r_assign (I_ 3) rfl rfl ?_
    refine R_nil0 ?_
    exact J_ret hΨ (Res_one rfl) (fun y hy => by cases hy; rfl)
  refine J_skip ?_
  refine J_seq ?_
  refine J_seq ?_
  refine J_region rfl ?_
  refine r_assign (I_ 0) rfl rfl ?_
  refine R_nil0 ?_
  refine J_block ?_
  refine J_to [(1, APtr (c_api_Graph t0)), (2, I_ 0), (3, I_ 0), (7, I_ (t0.Nodes.length : Int)), (12, I_ (t0.Edges.length : Int))] (.cons rfl (.cons rfl (.cons rfl (.cons rfl (.cons rfl .nil))))) ?_
  refine J_it (fun x3 => ⟨fr [(1, APtr (c_api_Graph t0)), (2, I_ 0), (3, I_ x3), (7, I_ (t0.Nodes.length : Int)), (12, I_ (t0.Edges.length : Int))], fun _ => none, 0⟩) (fun E4 hE4 x3 => ?_) (by rfl)
  refine J_seq ?_
  refine J_seq ?_
  refine J_region rfl ?_
  refine r_move (I_ x3) rfl rfl ?_
  refine r_faT ((cL 1 c_i64) t0.Nodes) fo_25_0 rfl rfl rfl ?_
  refine r_ld (AL 1 c_i64 t0.Nodes) sc_22 rfl rfl rfl ?_
  refine r_len (cc := c_i64) il_22 rfl rfl ?_
  refine r_lss rfl rfl rfl ?_
  refine R_nil0 ?_
  refine J_cond_p rfl (fun h10 => ?_) (fun h10 => ?_)
  · refine J_skip ?_
    refine J_seq ?_
    refine J_block ?_
    refine J_seq ?_
    refine J_region rfl ?_
    refine r_faT ((cL 1 c_i64) t0.Nodes) fo_25_0 rfl rfl rfl ?_
    refine r_ld (AL 1 c_i64 t0.Nodes) sc_22 rfl rfl rfl ?_
    refine r_move (I_ x3) rfl rfl ?_
    refine R_if (fun h11 => ?_) (fun _ => R_none)
    refine r_ix (cc := c_i64) el_22 rfl rfl h11.1 h11.2 rfl ?_
    refine r_ld (I_ (nth t0.Nodes x3)) sc_3 rfl rfl rfl ?_
    refine R_bind fun b12 h13 => ?_
    refine r_call _ fn_90 (k_ref05_kind _ _ h13) rfl rfl ?_
    refine r_not rfl rfl ?_
    refine R_nil0 ?_
    refine J_cond rfl (fun h14 => ?_) (fun h14 => ?_)
    · refine J_seq ?_
      refine J_region rfl ?_
      refine r_assign (I_ 6) rfl rfl ?_
      refine R_nil0 ?_
      refine J_outS ?_
      exact J_ret hΨ (Res_one rfl) (fun y hy => by cases hy; rfl)
    refine J_skip ?_
    refine J_inBlock ?_
    refine J_range 7 (m := (t0.Nodes.length : Int)) rfl fun q15 => ?_
    refine J_range 3 (m := x3) rfl fun q16 => ?_
    refine J_region rfl ?_
    refine r_move (I_ x3) rfl rfl ?_
    refine r_add (x3 + 1) rfl rfl (wrap_i64 (by omega) (by omega)) rfl ?_
    refine r_assign (I_ (x3 + 1)) rfl rfl ?_
    refine R_nil0 ?_
    refine J_go ?_
    refine J_to [(1, APtr (c_api_Graph t0)), (2, I_ 0), (3, I_ (x3 + 1)), (7, I_ (t0.Nodes.length : Int)), (12, I_ (t0.Edges.length : Int))] (.cons rfl (.cons rfl (.cons rfl (.cons rfl (.cons rfl .nil))))) ?_
    exact hE4 (x3 + 1)
  refine J_exit rfl ?_
  refine J_out ?_
  refine J_seq ?_
  refine J_seq ?_
  refine J_region rfl ?_
  refine r_assign (I_ 0) rfl rfl ?_
  refine R_nil0 ?_
  refine J_block ?_
  refine J_to [(1, APtr (c_api_Graph t0)), (2, I_ 0), (3, I_ x3), (4, I_ 0), (7, I_ (t0.Nodes.length : Int)), (12, I_ (t0.Edges.length : Int)), (15, I_ x3), (18, I_ (t0.Nodes.length : Int))] (.cons rfl (.cons rfl (.cons rfl (.cons rfl (.cons rfl (.cons rfl (.cons rfl (.cons rfl .nil)))))))) ?_
  refine J_it (fun x17 => ⟨fr [(1, APtr (c_api_Graph t0)), (2, I_ 0), (3, I_ x3), (4, I_ x17), (7, I_ (t0.Nodes.length : Int)), (12, I_ (t0.Edges.length : Int)), (15, I_ x3), (18, I_ (t0.Nodes.length : Int))], fun _ => none, 0⟩) (fun E18 hE18 x17 => ?_) (by rfl)
  refine J_seq ?_
  refine J_seq ?_
  refine J_region rfl ?_
  refine r_move (I_ x17) rfl rfl ?_
  refine r_faT ((cL 3 c_api_Edge) t0.Edges) fo_25_1 rfl rfl rfl ?_
  refine r_ld (AL 3 c_api_Edge t0.Edges) sc_23 rfl rfl rfl ?_
  refine r_len (cc := c_api_Edge) il_23 rfl rfl ?_
  refine r_lss rfl rfl rfl ?_
  refine R_nil0 ?_
  refine J_cond_p rfl (fun h24 => ?_) (fun h24 => ?_)
  rotate_left
  · refine J_exit rfl ?_
    refine J_outS ?_
    refine J_seq ?_
    refine J_region rfl ?_
    refine r_assign (I_ 0) rfl rfl ?_
    refine R_nil0 ?_
    exact J_ret hΨ (Res_one rfl) (fun y hy => by cases hy; rfl)
  refine J_skip ?_
  refine J_seq ?_
  refine J_block ?_
  refine J_seq ?_
  refine J_draw ?_
  refine r_faT ((cL 3 c_api_Edge) t0.Edges) fo_25_1 rfl rfl rfl ?_
  refine r_ld (AL 3 c_api_Edge t0.Edges) sc_23 rfl rfl rfl ?_
  refine r_move (I_ x17) rfl rfl ?_
  refine R_if (fun h25 => ?_) (fun _ => R_none)
  refine r_ix (cc := c_api_Edge) el_23 rfl rfl h25.1 h25.2 rfl ?_
  refine r_lda (c_api_Edge (nth t0.Edges x17)) ag_135 rfl rfl rfl rfl ?_
  refine r_faT ((cL 1 c_i64) t0.Nodes) fo_25_0 rfl rfl rfl ?_
  refine r_ld (AL 1 c_i64 t0.Nodes) sc_22 rfl rfl rfl ?_
  refine r_len (cc := c_i64) il_22 rfl rfl ?_
  refine R_bind fun b26 h27 => ?_
  refine r_call _ fn_91 (k_ref05_right _ _ _ h27) rfl rfl ?_
  refine r_not rfl rfl ?_
  refine R_nilD rfl ?_
  refine J_cond rfl (fun h28 => ?_) (fun h28 => ?_)
  · refine J_seq ?_
    refine J_region rfl ?_
    refine r_assign (I_ 6) rfl rfl ?_
    refine R_nil0 ?_
    refine J_outS ?_
    exact J_ret hΨ (Res_one rfl) (fun y hy => by cases hy; rfl)
  refine J_skip ?_
  refine J_inBlock ?_
  refine J_range 12 (m := (t0.Edges.length : Int)) rfl fun q29 => ?_
  refine J_range 4 (m := x17) rfl fun q30 => ?_
  refine J_region rfl ?_
  refine r_move (I_ x17) rfl rfl ?_
  refine r_add (x17 + 1) rfl rfl (wrap_i64 (by omega) (by omega)) rfl ?_
  refine r_assign (I_ (x17 + 1)) rfl rfl ?_
  refine R_nil0 ?_
  refine J_go ?_
  refine J_to [(1, APtr (c_api_Graph t0)), (2, I_ 0), (3, I_ x3), (4, I_ (x17 + 1)), (7, I_ (t0.Nodes.length : Int)), (12, I_ (t0.Edges.length : Int)), (15, I_ x3), (18, I_ (t0.Nodes.length : Int))] (.cons rfl (.cons rfl (.cons rfl (.cons rfl (.cons rfl (.cons rfl (.cons rfl (.cons rfl .nil)))))))) ?_
  exact hE18 (x17 + 1)
theorem k_ref07_ascending (t0 : (List Int)) (t1 : Int) (r : Int) (hr : ref07_ascending t0 t1 = some r) : FnP PP 200 [AL 1 c_i64 t0, I_ t1] (I_ r) := by
  refine FnP.of mixed_ Tryz.func200 rfl (n := 39) rfl (fun (r : Int) => I_ r) nk_args NK.nk rfl hr fun X hΨ => ?_
  refine J_seq ?_
  refine J_region rfl ?_
  refine r_assign (I_ 0) rfl rfl ?_
  refine R_nil0 ?_
  refine J_seq ?_
  refine J_seq ?_
  refine J_region rfl ?_
  refine r_assign (I_ 0) rfl rfl ?_
  refine R_nil0 ?_
  refine J_block ?_
  refine J_to [(0, AL 1 c_i64 t0), (1, I_ t1), (5, I_ 0)] (.cons rfl (.cons rfl (.cons rfl .nil))) ?_
  refine J_it (fun x1 => ⟨fr [(0, AL 1 c_i64 t0), (1, I_ t1), (5, I_ x1)], fun _ => none, 0⟩) (fun E2 hE2 x1 => ?_) (by rfl)
  refine J_seq ?_
  refine J_seq ?_
  refine J_region rfl ?_
  refine r_move (I_ x1) rfl rfl ?_
  refine r_move (AL 1 c_i64 t0) rfl rfl ?_
  refine r_len (cc := c_i64) il_22 rfl rfl ?_
  refine r_lss rfl rfl rfl ?_
  refine R_nil0 ?_
  refine J_cond_p rfl (fun h12 => ?_) (fun h12 => ?_)
  rotate_left
  · refine J_exit rfl ?_
    refine J_outS ?_
    refine J_seq ?_
    refine J_region rfl ?_
    refine r_assign (I_ 0) rfl rfl ?_
    refine R_nil0 ?_
    exact J_ret hΨ (Res_one rfl) (fun y hy => by cases hy; rfl)
  refine J_skip ?_
  refine J_seq ?_
  refine J_block ?_
  refine J_seq ?_
  refine J_seq ?_
  refine J_region rfl ?_
  refine r_move (AL 1 c_i64 t0) rfl rfl ?_
  refine r_move (I_ x1) rfl rfl ?_
  refine R_if (fun h13 => ?_) (fun _ => R_none)
  refine r_ix (cc := c_i64) el_22 rfl rfl h13.1 h13.2 rfl ?_
  refine r_ld (I_ (nth t0 x1)) sc_3 rfl rfl rfl ?_
  refine r_lss rfl rfl rfl ?_
  refine r_move (ABool (decide ((nth t0 x1) < 0))) rfl rfl ?_
  refine R_if (fun h14 => ?_) (fun h14 => ?_)
  · refine R_skip (g_fn rfl rfl (dt h14)) ?_
    refine R_skip (g_fn rfl rfl (dt h14)) ?_
    refine R_skip (g_fn rfl rfl (dt h14)) ?_
    refine R_skip (g_fn rfl rfl (dt h14)) ?_
    refine R_skip (g_fn rfl rfl (dt h14)) ?_
    refine R_skip (g_fn rfl rfl (dt h14)) ?_
    refine r_pickT (ABool true) rfl (dt h14) rfl rfl ?_
    refine R_nil0 ?_
    refine J_cond_T rfl rfl ?_
    refine J_seq ?_
    refine J_region rfl ?_
    refine r_assign (I_ 6) rfl rfl ?_
    refine R_nil0 ?_
    refine J_outS ?_
    exact J_ret hΨ (Res_one rfl) (fun y hy => by cases hy; rfl)
  refine r_move (AL 1 c_i64 t0) rfl (g_f rfl rfl (df h14)) ?_
  refine r_move (I_ x1) rfl (g_f rfl rfl (df h14)) ?_
  refine r_ix (cc := c_i64) el_22 rfl rfl h13.1 h13.2 (g_f rfl rfl (df h14)) ?_
  refine r_ld (I_ (nth t0 x1)) sc_3 rfl rfl (g_f rfl rfl (df h14)) ?_
  refine r_move (I_ t1) rfl (g_f rfl rfl (df h14)) ?_
  refine r_geq rfl rfl (g_f rfl rfl (df h14)) ?_
  refine r_pickF (ABool (decide (t1 ≤ (nth t0 x1)))) rfl (df h14) rfl rfl ?_
  refine R_nil0 ?_
  refine J_cond_p rfl (fun h15 => ?_) (fun h15 => ?_)
  · refine J_seq ?_
    refine J_region rfl ?_
    refine r_assign (I_ 6) rfl rfl ?_
    refine R_nil0 ?_
    refine J_outS ?_
    exact J_ret hΨ (Res_one rfl) (fun y hy => by cases hy; rfl)
  refine J_skip ?_
  refine J_seq ?_
  apply J_joinA (fun v20 => ⟨fr [(0, AL 1 c_i64 t0), (1, I_ t1), (5, I_ x1), (6, I_ x1), (8, I_ (t0.length : Int)), (13, I_ x1), (15, I_ (nth t0 x1)), (19, I_ x1), (21, I_ (nth t0 x1)), (22, I_ t1), (25, I_ x1)], fun _ => none, 0⟩) (fun v20 => ref07_ascending_j20 x1 v20)
  · intro K21
    refine J_range 5 (m := x1) rfl fun q17 => ?_
    refine J_draw ?_
    refine r_move (I_ x1) rfl rfl ?_
    refine r_gtr rfl rfl rfl ?_
    refine r_move (ABool (decide (0 < x1))) rfl rfl ?_
    refine R_if (fun h16 => ?_) (fun h16 => ?_)
    rotate_left
    · refine R_skip (g_tn rfl rfl (df h16)) ?_
      refine R_skip (g_tn rfl rfl (df h16)) ?_
      refine R_skip (g_tn rfl rfl (df h16)) ?_
      refine R_skip (g_tn rfl rfl (df h16)) ?_
      refine R_skip (g_tn rfl rfl (df h16)) ?_
      refine R_skip (g_tn rfl rfl (df h16)) ?_
      refine R_skip (g_tn rfl rfl (df h16)) ?_
      refine R_skip (g_tn rfl rfl (df h16)) ?_
      refine R_skip (g_tn rfl rfl (df h16)) ?_
      refine R_skip (g_tn rfl rfl (df h16)) ?_
      refine r_pickF (ABool false) rfl (df h16) rfl rfl ?_
      refine R_nilD rfl ?_
      refine J_cond_F rfl rfl ?_
      refine J_to [(0, AL 1 c_i64 t0), (1, I_ t1), (5, I_ x1), (6, I_ x1), (8, I_ (t0.length : Int)), (13, I_ x1), (15, I_ (nth t0 x1)), (19, I_ x1), (21, I_ (nth t0 x1)), (22, I_ t1), (25, I_ x1)] (.cons rfl (.cons rfl (.cons rfl (.cons rfl (.cons rfl (.cons rfl (.cons rfl (.cons rfl (.cons rfl (.cons rfl (.cons rfl .nil))))))))))) ?_
      exact K21 ()
    refine r_move (AL 1 c_i64 t0) rfl (g_t rfl rfl (dt h16)) ?_
    refine r_move (I_ x1) rfl (g_t rfl rfl (dt h16)) ?_
    refine r_ix (cc := c_i64) el_22 rfl rfl h13.1 h13.2 (g_t rfl rfl (dt h16)) ?_
    refine r_ld (I_ (nth t0 x1)) sc_3 rfl rfl (g_t rfl rfl (dt h16)) ?_
    refine r_move (AL 1 c_i64 t0) rfl (g_t rfl rfl (dt h16)) ?_
    refine r_move (I_ x1) rfl (g_t rfl rfl (dt h16)) ?_
    refine r_sub (x1 - 1) rfl rfl (wrap_i64 (by omega) (by omega)) (g_t rfl rfl (dt h16)) ?_
    refine R_if (fun h18 => ?_) (fun _ => R_none)
    refine r_ix (cc := c_i64) el_22 rfl rfl h18.1 h18.2 (g_t rfl rfl (dt h16)) ?_
    refine r_ld (I_ (nth t0 (x1 - 1))) sc_3 rfl rfl (g_t rfl rfl (dt h16)) ?_
    refine r_leq rfl rfl (g_t rfl rfl (dt h16)) ?_
    refine r_pickT (ABool (decide ((nth t0 x1) ≤ (nth t0 (x1 - 1))))) rfl (dt h16) rfl rfl ?_
    refine R_nilD rfl ?_
    refine J_cond_p rfl (fun h19 => ?_) (fun h19 => ?_)
    rotate_left
    · refine J_to [(0, AL 1 c_i64 t0), (1, I_ t1), (5, I_ x1), (6, I_ x1), (8, I_ (t0.length : Int)), (13, I_ x1), (15, I_ (nth t0 x1)), (19, I_ x1), (21, I_ (nth t0 x1)), (22, I_ t1), (25, I_ x1)] (.cons rfl (.cons rfl (.cons rfl (.cons rfl (.cons rfl (.cons rfl (.cons rfl (.cons rfl (.cons rfl (.cons rfl (.cons rfl .nil))))))))))) ?_
      exact K21 ()
    refine J_seq ?_
    refine J_region rfl ?_
    refine r_assign (I_ 12) rfl rfl ?_
    refine R_nil0 ?_
    refine J_outS ?_
    exact J_ret hΨ (Res_one rfl) (fun y hy => by cases hy; rfl)
  intro v20
  refine J_skip ?_
  refine J_inBlock ?_
  refine J_range 8 (m := (t0.length : Int)) rfl fun q22 => ?_
  refine J_range 5 (m := x1) rfl fun q23 => ?_
  refine J_region rfl ?_
  refine r_move (I_ x1) rfl rfl ?_
  refine r_add (x1 + 1) rfl rfl (wrap_i64 (by omega) (by omega)) rfl ?_
  refine r_assign (I_ (x1 + 1)) rfl rfl ?_
  refine R_nil0 ?_
  refine J_go ?_
  refine J_to [(0, AL 1 c_i64 t0), (1, I_ t1), (5, I_ (x1 + 1))] (.cons rfl (.cons rfl (.cons rfl .nil))) ?_
  exact hE2 (x1 + 1)
theorem k_ref07_has (t0 : (List Int)) (t1 : Int) (r : Bool) (hr : ref07_has t0 t1 = some r) : FnP PP 201 [AL 1 c_i64 t0, I_ t1] (ABool r) := by
  refine FnP.of mixed_ Tryz.func201 rfl (n := 18) rfl (fun (r : Bool) => ABool r) nk_args NK.nk rfl hr fun X hΨ => ?_
  refine J_seq ?_
  refine J_region rfl ?_
  refine r_assign (ABool false) rfl rfl ?_
  refine R_nil0 ?_
  refine J_seq ?_
  refine J_seq ?_
  refine J_region rfl ?_
  refine r_assign (I_ 0) rfl rfl ?_
  refine R_nil0 ?_
  refine J_block ?_
  refine J_to [(0, AL 1 c_i64 t0), (1, I_ t1), (5, I_ 0)] (.cons rfl (.cons rfl (.cons rfl .nil))) ?_
  refine J_it (fun x1 => ⟨fr [(0, AL 1 c_i64 t0), (1, I_ t1), (5, I_ x1)], fun _ => none, 0⟩) (fun E2 hE2 x1 => ?_) (by rfl)
  refine J_seq ?_
  refine J_seq ?_
  refine J_region rfl ?_
  refine r_move (I_ x1) rfl rfl ?_
  refine r_move (AL 1 c_i64 t0) rfl rfl ?_
  refine r_len (cc := c_i64) il_22 rfl rfl ?_
  refine r_lss rfl rfl rfl ?_
  refine R_nil0 ?_
  refine J_cond_p rfl (fun h6 => ?_) (fun h6 => ?_)
  rotate_left
  · refine J_exit rfl ?_
    refine J_outS ?_
    refine J_seq ?_
    refine J_region rfl ?_
    refine r_assign (ABool false) rfl rfl ?_
    refine R_nil0 ?_
    exact J_ret hΨ (Res_one rfl) (fun y hy => by cases hy; rfl)
  refine J_skip ?_
  refine J_seq ?_
  refine J_block ?_
  refine J_seq ?_
  refine J_region rfl ?_
  refine r_move (AL 1 c_i64 t0) rfl rfl ?_
  refine r_move (I_ x1) rfl rfl ?_
  refine R_if (fun h7 => ?_) (fun _ => R_none)
  refine r_ix (cc := c_i64) el_22 rfl rfl h7.1 h7.2 rfl ?_
  refine r_ld (I_ (nth t0 x1)) sc_3 rfl rfl rfl ?_
  refine r_move (I_ t1) rfl rfl ?_
  refine r_eql rfl rfl rfl ?_
  refine R_nil0 ?_
  refine J_cond_p rfl (fun h8 => ?_) (fun h8 => ?_)
  · refine J_seq ?_
    refine J_region rfl ?_
    refine r_assign (ABool true) rfl rfl ?_
    refine R_nil0 ?_
    refine J_outS ?_
    exact J_ret hΨ (Res_one rfl) (fun y hy => by cases hy; rfl)
  refine J_skip ?_
  refine J_inBlock ?_
  refine J_range 8 (m := (t0.length : Int)) rfl fun q9 => ?_
  refine J_range 5 (m := x1) rfl fun q10 => ?_
  refine J_region rfl ?_
  refine r_move (I_ x1) rfl rfl ?_
  refine r_add (x1 + 1) rfl rfl (wrap_i64 (by omega) (by omega)) rfl ?_
  refine r_assign (I_ (x1 + 1)) rfl rfl ?_
  refine R_nil0 ?_
  refine J_go ?_
  refine J_to [(0, AL 1 c_i64 t0), (1, I_ t1), (5, I_ (x1 + 1))] (.cons rfl (.cons rfl (.cons rfl .nil))) ?_
  exact hE2 (x1 + 1)
theorem k_ref07_Right (t0 : api_Graph) (t1 : api_Part) (r : Int) (hr : ref07_Right t0 t1 = some r) : FnP PP 148 [AAgg (c_api_Graph t0), AAgg (c_api_Part t1)] (I_ r) := by
  refine FnP.of mixed_ Tryz.func148 rfl (n := 57) rfl (fun (r : Int) => I_ r) nk_args NK.nk rfl hr fun X hΨ => ?_
  refine J_seq ?_
  refine J_region rfl ?_
  refine r_boxV (AAgg (c_api_Graph t0)) rfl rfl ?_
  refine r_boxV (AAgg (c_api_Part t1)) rfl rfl ?_
  refine r_assign (I_ 0) rfl rfl ?_
  refine R_nil0 ?_
  refine J_seq ?_
  refine J_seq ?_
  refine J_region rfl ?_
  refine r_faT ((cL 1 c_i64) t1.Nodes) fo_31_0 rfl rfl rfl ?_
  refine r_ld (AL 1 c_i64 t1.Nodes) sc_22 rfl rfl rfl ?_
  refine r_faT ((cL 1 c_i64) t0.Nodes) fo_25_0 rfl rfl rfl ?_
  refine r_ld (AL 1 c_i64 t0.Nodes) sc_22 rfl rfl rfl ?_
  refine r_len (cc := c_i64) il_22 rfl rfl ?_
  refine R_bind fun b1 h2 => ?_
  refine r_call _ fn_200 (k_ref07_ascending _ _ _ h2) rfl rfl ?_
  refine r_assign (I_ b1) rfl rfl ?_
  refine R_nil0 ?_
  refine J_seq ?_
  refine J_region rfl ?_
  refine r_move (I_ b1) rfl rfl ?_
  refine r_neq rfl rfl rfl ?_
  refine R_nil0 ?_
  refine J_cond_p rfl (fun h3 => ?_) (fun h3 => ?_)
  · refine J_seq ?_
    refine J_region rfl ?_
    refine r_move (I_ b1) rfl rfl ?_
    refine r_assign (I_ b1) rfl rfl ?_
    refine R_nil0 ?_
    exact J_ret hΨ (Res_one rfl) (fun y hy => by cases hy; rfl)
  refine J_skip ?_
  refine J_seq ?_
  refine J_seq ?_
  refine J_region rfl ?_
  refine r_faT ((cL 1 c_i64) t1.Edges) fo_31_1 rfl rfl rfl ?_
  refine r_ld (AL 1 c_i64 t1.Edges) sc_22 rfl rfl rfl ?_
  refine r_faT ((cL 3 c_api_Edge) t0.Edges) fo_25_1 rfl rfl rfl ?_
  refine r_ld (AL 3 c_api_Edge t0.Edges) sc_23 rfl rfl rfl ?_
  refine r_len (cc := c_api_Edge) il_23 rfl rfl ?_
  refine R_bind fun b4 h5 => ?_
  refine r_call _ fn_200 (k_ref07_ascending _ _ _ h5) rfl rfl ?_
  refine r_assign (I_ b4) rfl rfl ?_
  refine R_nil0 ?_
  refine J_seq ?_
  refine J_region rfl ?_
  refine r_move (I_ b4) rfl rfl ?_
  refine r_neq rfl rfl rfl ?_
  refine R_nil0 ?_
  refine J_cond_p rfl (fun h6 => ?_) (fun h6 => ?_)
  · refine J_seq ?_
    refine J_region rfl ?_
    refine r_move (I_ b4) rfl rfl ?_
    refine r_assign (I_ b4) rfl rfl ?_
    refine R_nil0 ?_
    exact J_ret hΨ (Res_one rfl) (fun y hy => by cases hy; rfl)
  refine J_skip ?_
  refine J_seq ?_
  refine J_seq ?_
  refine J_region rfl ?_
  refine r_assign (I_ 0) rfl rfl ?_
  refine R_nil0 ?_
  refine J_block ?_
  refine J_cv [] [] [] 0 [(2, APtr (c_api_Graph t0)), (3, APtr (c_api_Part t1)), (4, I_ 0), (5, I_ b1), (6, I_ b4), (7, I_ 0), (14, I_ b1), (15, I_ b1), (23, I_ b4), (24, I_ b4)] [] (.same rfl (.same rfl (.same rfl (.same rfl (.same rfl (.same rfl (.same rfl (.same rfl (.same rfl (.same rfl .nil)))))))))) .nil rfl rfl ?_
  refine J_it (fun x7 => ⟨fr [(2, APtr (c_api_Graph t0)), (3, APtr (c_api_Part t1)), (4, I_ 0), (5, I_ b1), (6, I_ b4), (7, I_ x7), (14, I_ b1), (15, I_ b1), (23, I_ b4), (24, I_ b4)], hp [], 0⟩) (fun E8 hE8 x7 => ?_) (by rfl)
  refine J_seq ?_
  refine J_seq ?_
  refine J_region rfl ?_
  refine r_move (I_ x7) rfl rfl ?_
  refine r_faT ((cL 1 c_i64) t1.Edges) fo_31_1 rfl rfl rfl ?_
  refine r_ld (AL 1 c_i64 t1.Edges) sc_22 rfl rfl rfl ?_
  refine r_len (cc := c_i64) il_22 rfl rfl ?_
  refine r_lss rfl rfl rfl ?_
  refine R_nil0 ?_
  refine J_cond_p rfl (fun h18 => ?_) (fun h18 => ?_)
  rotate_left
  · refine J_exit rfl ?_
    refine J_outS ?_
    refine J_seq ?_
    refine J_region rfl ?_
    refine r_assign (I_ 0) rfl rfl ?_
    refine R_nil0 ?_
    exact J_ret hΨ (Res_one rfl) (fun y hy => by cases hy; rfl)
  refine J_skip ?_
  refine J_seq ?_
  refine J_block ?_
  refine J_seq ?_
  refine J_draw ?_
  refine r_faT ((cL 3 c_api_Edge) t0.Edges) fo_25_1 rfl rfl rfl ?_
  refine r_ld (AL 3 c_api_Edge t0.Edges) sc_23 rfl rfl rfl ?_
  refine r_faT ((cL 1 c_i64) t1.Edges) fo_31_1 rfl rfl rfl ?_
  refine r_ld (AL 1 c_i64 t1.Edges) sc_22 rfl rfl rfl ?_
  refine r_move (I_ x7) rfl rfl ?_
  refine R_if (fun h19 => ?_) (fun _ => R_none)
  refine r_ix (cc := c_i64) el_22 rfl rfl h19.1 h19.2 rfl ?_
  refine r_ld (I_ (nth t1.Edges x7)) sc_3 rfl rfl rfl ?_
  refine R_if (fun h20 => ?_) (fun _ => R_none)
  refine r_ix (cc := c_api_Edge) el_23 rfl rfl h20.1 h20.2 rfl ?_
  refine r_lda (c_api_Edge (nth t0.Edges (nth t1.Edges x7))) ag_135 rfl rfl rfl rfl ?_
  refine r_alloc 0 _ z_135 rfl rfl ?_
  refine r_stO (AObj 0) (AAgg (c_api_Edge (nth t0.Edges (nth t1.Edges x7)))) (c_api_Edge (nth t0.Edges (nth t1.Edges x7))) sz_135 rfl .obj rfl rfl rfl rfl rfl rfl ?_
  refine R_nilD rfl ?_
  refine J_seq ?_
  refine J_region rfl ?_
  refine r_faT ((cL 1 c_i64) t1.Nodes) fo_31_0 rfl rfl rfl ?_
  refine r_ld (AL 1 c_i64 t1.Nodes) sc_22 rfl rfl rfl ?_
  refine r_faO (AObj 0) 1 fo_135_1 rfl .obj rfl rfl rfl ?_
  refine r_ldO (ABoxAt 0 1) (I_ ((nth t0.Edges (nth t1.Edges x7)).From)) sc_3 rfl .at rfl rfl rfl ?_
  refine R_bind fun b21 h22 => ?_
  refine r_call _ fn_201 (k_ref07_has _ _ _ h22) rfl rfl ?_
  refine r_not rfl rfl ?_
  refine r_move (ABool (!b21)) rfl rfl ?_
  refine R_if (fun h23 => ?_) (fun h23 => ?_)
  · refine R_skip (g_fn rfl rfl h23) ?_
    refine R_skip (g_fn rfl rfl h23) ?_
    refine R_skip (g_fn rfl rfl h23) ?_
    refine R_skip (g_fn rfl rfl h23) ?_
    refine R_skip (g_fn rfl rfl h23) ?_
    refine R_skip (g_fn rfl rfl h23) ?_
    refine r_pickT (ABool true) rfl h23 rfl rfl ?_
    refine R_nil0 ?_
    refine J_cond_T rfl rfl ?_
    refine J_seq ?_
    refine J_region rfl ?_
    refine r_assign (I_ 14) rfl rfl ?_
    refine R_nil0 ?_
    refine J_outS ?_
    exact J_ret hΨ (Res_one rfl) (fun y hy => by cases hy; rfl)
  refine r_faT ((cL 1 c_i64) t1.Nodes) fo_31_0 rfl rfl (g_f rfl rfl (bf h23)) ?_
  refine r_ld (AL 1 c_i64 t1.Nodes) sc_22 rfl rfl (g_f rfl rfl (bf h23)) ?_
  refine r_faO (AObj 0) 2 fo_135_2 rfl .obj rfl rfl (g_f rfl rfl (bf h23)) ?_
  refine r_ldO (ABoxAt 0 2) (I_ ((nth t0.Edges (nth t1.Edges x7)).To)) sc_3 rfl .at rfl rfl (g_f rfl rfl (bf h23)) ?_
  refine R_bind fun b24 h25 => ?_
  refine r_call _ fn_201 (k_ref07_has _ _ _ h25) rfl (g_f rfl rfl (bf h23)) ?_
  refine r_not rfl (g_f rfl rfl (bf h23)) ?_
  refine r_pickF (ABool (!b24)) rfl (bf h23) rfl rfl ?_
  refine R_nil0 ?_
  refine J_cond rfl (fun h26 => ?_) (fun h26 => ?_)
  · refine J_seq ?_
    refine J_region rfl ?_
    refine r_assign (I_ 14) rfl rfl ?_
    refine R_nil0 ?_
    refine J_outS ?_
    exact J_ret hΨ (Res_one rfl) (fun y hy => by cases hy; rfl)
  refine J_skip ?_
  refine J_inBlock ?_
  refine J_range 30 (m := (t1.Edges.length : Int)) rfl fun q27 => ?_
  refine J_range 7 (m := x7) rfl fun q28 => ?_
  refine J_region rfl ?_
  refine r_move (I_ x7) rfl rfl ?_
  refine r_add (x7 + 1) rfl rfl (wrap_i64 (by omega) (by omega)) rfl ?_
  refine r_assign (I_ (x7 + 1)) rfl rfl ?_
  refine R_nil0 ?_
  refine J_go ?_
  refine J_cv [] [] [] 0 [(2, APtr (c_api_Graph t0)), (3, APtr (c_api_Part t1)), (4, I_ 0), (5, I_ b1), (6, I_ b4), (7, I_ (x7 + 1)), (14, I_ b1), (15, I_ b1), (23, I_ b4), (24, I_ b4)] [] (.same rfl (.same rfl (.same rfl (.same rfl (.same rfl (.same rfl (.same rfl (.same rfl (.same rfl (.same rfl .nil)))))))))) .nil rfl rfl ?_
  exact hE8 (x7 + 1)
theorem k_ref07_Valid (t0 : api_Graph) (t1 : api_Part) (r : Int) (hr : ref07_Valid t0 t1 = some r) : FnP PP 92 [AAgg (c_api_Graph t0), AAgg (c_api_Part t1)] (I_ r) := by
  refine FnP.of mixed_ Tryz.func92 rfl (n := 14) rfl (fun (r : Int) => I_ r) nk_args NK.nk rfl hr fun X hΨ => ?_
  refine J_seq ?_
  refine J_region rfl ?_
  refine r_boxV (AAgg (c_api_Graph t0)) rfl rfl ?_
  refine r_boxV (AAgg (c_api_Part t1)) rfl rfl ?_
  refine r_assign (I_ 0) rfl rfl ?_
  refine R_nil0 ?_
  refine J_seq ?_
  refine J_seq ?_
  refine J_region rfl ?_
  refine r_lda (c_api_Graph t0) ag_25 rfl rfl rfl rfl ?_
  refine R_bind fun b1 h2 => ?_
  refine r_call _ fn_40 (k_ref05_Valid _ _ h2) rfl rfl ?_
  refine r_assign (I_ b1) rfl rfl ?_
  refine R_nil0 ?_
  refine J_seq ?_
  refine J_region rfl ?_
  refine r_move (I_ b1) rfl rfl ?_
  refine r_neq rfl rfl rfl ?_
  refine R_nil0 ?_
  refine J_cond_p rfl (fun h3 => ?_) (fun h3 => ?_)
  · refine J_seq ?_
    refine J_region rfl ?_
    refine r_move (I_ b1) rfl rfl ?_
    refine r_assign (I_ b1) rfl rfl ?_
    refine R_nil0 ?_
    exact J_ret hΨ (Res_one rfl) (fun y hy => by cases hy; rfl)
  refine J_skip ?_
  refine J_seq ?_
  refine J_region rfl ?_
  refine r_lda (c_api_Graph t0) ag_25 rfl rfl rfl rfl ?_
  refine r_lda (c_api_Part t1) ag_31 rfl rfl rfl rfl ?_
  refine R_bind fun b4 h5 => ?_
  refine r_call _ fn_148 (k_ref07_Right _ _ _ h5) rfl rfl ?_
  refine r_assign (I_ b4) rfl rfl ?_
  refine R_nil0 ?_
  exact J_ret hΨ (Res_one rfl) (fun y hy => by cases hy; rfl)
theorem k_ref07_index (t0 : (List Int)) (t1 : Int) (r : Int) (hr : ref07_index t0 t1 = some r) : FnP PP 106 [AL 1 c_i64 t0, I_ t1] (I_ r) := by
  refine FnP.of mixed_ Tryz.func106 rfl (n := 19) rfl (fun (r : Int) => I_ r) nk_args NK.nk rfl hr fun X hΨ => ?_
  refine J_seq ?_
  refine J_region rfl ?_
  refine r_assign (I_ 0) rfl rfl ?_
  refine R_nil0 ?_
  refine J_seq ?_
  refine J_seq ?_
  refine J_region rfl ?_
  refine r_assign (I_ 0) rfl rfl ?_
  refine R_nil0 ?_
  refine J_block ?_
  refine J_to [(0, AL 1 c_i64 t0), (1, I_ t1), (5, I_ 0)] (.cons rfl (.cons rfl (.cons rfl .nil))) ?_
  refine J_it (fun x1 => ⟨fr [(0, AL 1 c_i64 t0), (1, I_ t1), (5, I_ x1)], fun _ => none, 0⟩) (fun E2 hE2 x1 => ?_) (by rfl)
  refine J_seq ?_
  refine J_seq ?_
  refine J_region rfl ?_
  refine r_move (I_ x1) rfl rfl ?_
  refine r_move (AL 1 c_i64 t0) rfl rfl ?_
  refine r_len (cc := c_i64) il_22 rfl rfl ?_
  refine r_lss rfl rfl rfl ?_
  refine R_nil0 ?_
  refine J_cond_p rfl (fun h6 => ?_) (fun h6 => ?_)
  rotate_left
  · refine J_exit rfl ?_
    refine J_outS ?_
    refine J_seq ?_
    refine J_region rfl ?_
    refine r_assign (I_ (-1)) rfl rfl ?_
    refine R_nil0 ?_
    exact J_ret hΨ (Res_one rfl) (fun y hy => by cases hy; rfl)
  refine J_skip ?_
  refine J_seq ?_
  refine J_block ?_
  refine J_seq ?_
  refine J_region rfl ?_
  refine r_move (AL 1 c_i64 t0) rfl rfl ?_
  refine r_move (I_ x1) rfl rfl ?_
  refine R_if (fun h7 => ?_) (fun _ => R_none)
  refine r_ix (cc := c_i64) el_22 rfl rfl h7.1 h7.2 rfl ?_
  refine r_ld (I_ (nth t0 x1)) sc_3 rfl rfl rfl ?_
  refine r_move (I_ t1) rfl rfl ?_
  refine r_eql rfl rfl rfl ?_
  refine R_nil0 ?_
  refine J_cond_p rfl (fun h8 => ?_) (fun h8 => ?_)
  · refine J_seq ?_
    refine J_region rfl ?_
    refine r_move (I_ x1) rfl rfl ?_
    refine r_assign (I_ x1) rfl rfl ?_
    refine R_nil0 ?_
    refine J_outS ?_
    exact J_ret hΨ (Res_one rfl) (fun y hy => by cases hy; rfl)
  refine J_skip ?_
  refine J_inBlock ?_
  refine J_range 8 (m := (t0.length : Int)) rfl fun q9 => ?_
  refine J_range 5 (m := x1) rfl fun q10 => ?_
  refine J_region rfl ?_
  refine r_move (I_ x1) rfl rfl ?_
  refine r_add (x1 + 1) rfl rfl (wrap_i64 (by omega) (by omega)) rfl ?_
  refine r_assign (I_ (x1 + 1)) rfl rfl ?_
  refine R_nil0 ?_
  refine J_go ?_
  refine J_to [(0, AL 1 c_i64 t0), (1, I_ t1), (5, I_ (x1 + 1))] (.cons rfl (.cons rfl (.cons rfl .nil))) ?_
  exact hE2 (x1 + 1)
theorem k_ref07_Extract (t0 : api_Graph) (t1 : api_Part) (r : api_Graph × api_Morphism × Int) (hr : ref07_Extract t0 t1 = some r) : FnP PP 52 [AAgg (c_api_Graph t0), AAgg (c_api_Part t1)] (ATup [AAgg (c_api_Graph r.1), AAgg (c_api_Morphism r.2.1), I_ r.2.2]) := by
  refine FnP.of mixed_ Tryz.func52 rfl (n := 85) rfl (fun (r : api_Graph × api_Morphism × Int) => ATup [AAgg (c_api_Graph r.1), AAgg (c_api_Morphism r.2.1), I_ r.2.2]) nk_args NK.nk rfl hr fun X hΨ => ?_
  refine J_seq ?_
  refine J_region rfl ?_
  refine r_boxV (AAgg (c_api_Graph t0)) rfl rfl ?_
  refine r_boxV (AAgg (c_api_Part t1)) rfl rfl ?_
  refine r_alloc 0 _ z_25 rfl rfl ?_
  refine r_alloc 1 _ z_32 rfl rfl ?_
  refine r_assign (I_ 0) rfl rfl ?_
  refine R_nil0 ?_
  refine J_seq ?_
  refine J_seq ?_
  refine J_region rfl ?_
  refine r_lda (c_api_Graph t0) ag_25 rfl rfl rfl rfl ?_
  refine r_lda (c_api_Part t1) ag_31 rfl rfl rfl rfl ?_
  refine R_bind fun b1 h2 => ?_
  refine r_call _ fn_92 (k_ref07_Valid _ _ _ h2) rfl rfl ?_
  refine r_assign (I_ b1) rfl rfl ?_
  refine R_nil0 ?_
  refine J_seq ?_
  refine J_region rfl ?_
  refine r_move (I_ b1) rfl rfl ?_
  refine r_neq rfl rfl rfl ?_
  refine R_nil0 ?_
  refine J_cond_p rfl (fun h3 => ?_) (fun h3 => ?_)
  · refine J_seq ?_
    refine J_region rfl ?_
    refine r_buildI (Cs := [ANil, ANil]) (c_api_Graph (api_Graph.mk [] [])) pl_25 z_25 .nil rfl (.nl (.nl .nil)) rfl ?_
    refine r_buildI (Cs := [ANil, ANil]) (c_api_Morphism (api_Morphism.mk [] [])) pl_32 z_32 .nil rfl (.nl (.nl .nil)) rfl ?_
    refine r_move (I_ b1) rfl rfl ?_
    refine r_stO (AObj 0) (AAgg (c_api_Graph (api_Graph.mk [] []))) (c_api_Graph (api_Graph.mk [] [])) sz_25 rfl .obj rfl rfl rfl rfl rfl rfl ?_
    refine r_stO (AObj 1) (AAgg (c_api_Morphism (api_Morphism.mk [] []))) (c_api_Morphism (api_Morphism.mk [] [])) sz_32 rfl .obj rfl rfl rfl rfl rfl rfl ?_
    refine r_assign (I_ b1) rfl rfl ?_
    refine R_nil0 ?_
    exact J_ret hΨ (Res_many (As := [AAgg (c_api_Graph (api_Graph.mk [] [])), AAgg (c_api_Morphism (api_Morphism.mk [] [])), I_ b1]) rfl rfl (.cons (.boxA (cs := (c_api_Graph (api_Graph.mk [] []))) ag_25 rfl rfl rfl) (.cons (.boxA (cs := (c_api_Morphism (api_Morphism.mk [] []))) ag_32 rfl rfl rfl) (.cons (.tmp (A := I_ b1) rfl) .nil)))) (fun y hy => by cases hy; rfl)
  refine J_skip ?_
  refine J_seq ?_
  refine J_region rfl ?_
  refine r_alloc 2 _ z_25 rfl rfl ?_
  refine R_nil0 ?_
  refine J_seq ?_
  refine J_seq ?_
  refine J_region rfl ?_
  refine r_assign (I_ 0) rfl rfl ?_
  refine R_nil0 ?_
  refine J_block ?_
  refine J_cv [] [] [3] 4 [(2, APtr (c_api_Graph t0)), (3, APtr (c_api_Part t1)), (4, AObj 0), (5, AObj 1), (6, I_ 0), (7, I_ b1), (8, AObj 2), (9, I_ 0), (14, I_ b1), (15, I_ b1)] [(0, .box 25 [ANil, ANil]), (1, .box 32 [ANil, ANil]), (2, .box 25 [AObj 3, ANil]), (3, .row 3 1 ([].map c_i64))] (.same rfl (.same rfl (.cons (A := AObj 0) rfl (.obj rfl rfl rfl) (.cons (A := AObj 1) rfl (.obj rfl rfl rfl) (.same rfl (.same rfl (.cons (A := AObj 2) rfl (.obj rfl rfl rfl) (.same rfl (.same rfl (.same rfl .nil)))))))))) (.cons rfl rfl rfl rfl (.box (.cons .same (.cons .same .nil))) rfl rfl (.cons rfl rfl rfl rfl (.box (.cons .same (.cons .same .nil))) rfl rfl (.cons rfl rfl rfl rfl (.box (.cons (.nilobj rfl rfl) (.cons .same .nil))) rfl rfl (.new rfl rfl .nil)))) rfl rfl ?_
  refine J_it (fun x4 => ⟨fr [(2, APtr (c_api_Graph t0)), (3, APtr (c_api_Part t1)), (4, AObj 0), (5, AObj 1), (6, I_ 0), (7, I_ b1), (8, AObj 2), (9, I_ x4.2), (14, I_ b1), (15, I_ b1)], hp [(0, .box 25 [ANil, ANil]), (1, .box 32 [ANil, ANil]), (2, .box 25 [AObj 3, ANil]), (3, .row 3 1 (x4.1.map c_i64))], 4⟩) (fun E5 hE5 x4 => ?_) (by rfl)
  refine J_seq ?_
  refine J_seq ?_
  refine J_region rfl ?_
  refine r_move (I_ x4.2) rfl rfl ?_
  refine r_faT ((cL 1 c_i64) t1.Nodes) fo_31_0 rfl rfl rfl ?_
  refine r_ld (AL 1 c_i64 t1.Nodes) sc_22 rfl rfl rfl ?_
  refine r_len (cc := c_i64) il_22 rfl rfl ?_
  refine r_lss rfl rfl rfl ?_
  refine R_nil0 ?_
  refine J_cond_p rfl (fun h9 => ?_) (fun h9 => ?_)
  · refine J_skip ?_
    refine J_seq ?_
    refine J_block ?_
    refine J_draw ?_
    refine r_faO (AObj 2) 0 fo_25_0 rfl .obj rfl rfl rfl ?_
    refine r_ldO (ABoxAt 2 0) (AObj 3) sc_22 rfl .at rfl rfl rfl ?_
    refine r_faT ((cL 1 c_i64) t0.Nodes) fo_25_0 rfl rfl rfl ?_
    refine r_ld (AL 1 c_i64 t0.Nodes) sc_22 rfl rfl rfl ?_
    refine r_faT ((cL 1 c_i64) t1.Nodes) fo_31_0 rfl rfl rfl ?_
    refine r_ld (AL 1 c_i64 t1.Nodes) sc_22 rfl rfl rfl ?_
    refine r_move (I_ x4.2) rfl rfl ?_
    refine R_if (fun h10 => ?_) (fun _ => R_none)
    refine r_ix (cc := c_i64) el_22 rfl rfl h10.1 h10.2 rfl ?_
    refine r_ld (I_ (nth t1.Nodes x4.2)) sc_3 rfl rfl rfl ?_
    refine R_if (fun h11 => ?_) (fun _ => R_none)
    refine r_ix (cc := c_i64) el_22 rfl rfl h11.1 h11.2 rfl ?_
    refine r_ld (I_ (nth t0.Nodes (nth t1.Nodes x4.2))) sc_3 rfl rfl rfl ?_
    refine r_bs (cc := c_i64) [(nth t0.Nodes (nth t1.Nodes x4.2))] el_22 zr_3_1 (.cons (A := I_ (nth t0.Nodes (nth t1.Nodes x4.2))) rfl rfl rfl .nil) rfl rfl rfl ?_
    refine R_if (fun h12 => ?_) (fun _ => R_none)
    refine r_app (cc := c_i64) (xs := x4.1) (ys := [(nth t0.Nodes (nth t1.Nodes x4.2))]) 4 ap_22 rfl rfl rfl h12 rfl rfl rfl ?_
    refine r_faO (AObj 2) 0 fo_25_0 rfl .obj rfl rfl rfl ?_
    refine r_stO (ABoxAt 2 0) (AObj 4) [AObj 4, ANil] sz_22 rfl .at rfl rfl rfl rfl rfl rfl ?_
    refine R_nilD rfl ?_
    refine J_inBlock ?_
    refine J_range 23 (m := (t1.Nodes.length : Int)) rfl fun q13 => ?_
    refine J_range 9 (m := x4.2) rfl fun q14 => ?_
    refine J_region rfl ?_
    refine r_move (I_ x4.2) rfl rfl ?_
    refine r_add (x4.2 + 1) rfl rfl (wrap_i64 (by omega) (by omega)) rfl ?_
    refine r_assign (I_ (x4.2 + 1)) rfl rfl ?_
    refine R_nil0 ?_
    refine J_go ?_
    refine J_cv [] [(3, 4)] [] 4 [(2, APtr (c_api_Graph t0)), (3, APtr (c_api_Part t1)), (4, AObj 0), (5, AObj 1), (6, I_ 0), (7, I_ b1), (8, AObj 2), (9, I_ (x4.2 + 1)), (14, I_ b1), (15, I_ b1)] [(0, .box 25 [ANil, ANil]), (1, .box 32 [ANil, ANil]), (2, .box 25 [AObj 3, ANil]), (3, .row 3 1 ((x4.1 ++ [(nth t0.Nodes (nth t1.Nodes x4.2))]).map c_i64))] (.same rfl (.same rfl (.cons (A := AObj 0) rfl (.obj rfl rfl rfl) (.cons (A := AObj 1) rfl (.obj rfl rfl rfl) (.same rfl (.same rfl (.cons (A := AObj 2) rfl (.obj rfl rfl rfl) (.same rfl (.same rfl (.same rfl .nil)))))))))) (.cons rfl rfl rfl rfl (.box (.cons .same (.cons .same .nil))) rfl rfl (.cons rfl rfl rfl rfl (.box (.cons .same (.cons .same .nil))) rfl rfl (.cons rfl rfl rfl rfl (.box (.cons (.obj rfl rfl rfl) (.cons .same .nil))) rfl rfl (.cons rfl rfl rfl rfl (.row (NKC.flat _ _)) rfl rfl .nil)))) rfl rfl ?_
    exact hE5 ((x4.1 ++ [(nth t0.Nodes (nth t1.Nodes x4.2))]), x4.2 + 1)
  refine J_exit rfl ?_
  refine J_out ?_
  refine J_seq ?_
  refine J_seq ?_
  refine J_region rfl ?_
  refine r_assign (I_ 0) rfl rfl ?_
  refine R_nil0 ?_
  refine J_block ?_
  refine J_cv [] [] [4] 5 [(2, APtr (c_api_Graph t0)), (3, APtr (c_api_Part t1)), (4, AObj 0), (5, AObj 1), (6, I_ 0), (7, I_ b1), (8, AObj 2), (9, I_ x4.2), (10, I_ 0), (14, I_ b1), (15, I_ b1), (20, I_ x4.2), (23, I_ (t1.Nodes.length : Int))] [(0, .box 25 [ANil, ANil]), (1, .box 32 [ANil, ANil]), (2, .box 25 [AObj 3, AObj 4]), (3, .row 3 1 (x4.1.map c_i64)), (4, .row 135 3 ([].map c_api_Edge))] (.same rfl (.same rfl (.cons (A := AObj 0) rfl (.obj rfl rfl rfl) (.cons (A := AObj 1) rfl (.obj rfl rfl rfl) (.same rfl (.same rfl (.cons (A := AObj 2) rfl (.obj rfl rfl rfl) (.same rfl (.same rfl (.same rfl (.same rfl (.same rfl (.same rfl .nil))))))))))))) (.cons rfl rfl rfl rfl (.box (.cons .same (.cons .same .nil))) rfl rfl (.cons rfl rfl rfl rfl (.box (.cons .same (.cons .same .nil))) rfl rfl (.cons rfl rfl rfl rfl (.box (.cons (.obj rfl rfl rfl) (.cons (.nilobj rfl rfl) .nil))) rfl rfl (.cons rfl rfl rfl rfl (.row (NKC.flat _ _)) rfl rfl (.new rfl rfl .nil))))) rfl rfl ?_
  refine J_it (fun x15 => ⟨fr [(2, APtr (c_api_Graph t0)), (3, APtr (c_api_Part t1)), (4, AObj 0), (5, AObj 1), (6, I_ 0), (7, I_ b1), (8, AObj 2), (9, I_ x4.2), (10, I_ x15.2), (14, I_ b1), (15, I_ b1), (20, I_ x4.2), (23, I_ (t1.Nodes.length : Int))], hp [(0, .box 25 [ANil, ANil]), (1, .box 32 [ANil, ANil]), (2, .box 25 [AObj 3, AObj 4]), (3, .row 3 1 (x4.1.map c_i64)), (4, .row 135 3 (x15.1.map c_api_Edge))], 5⟩) (fun E16 hE16 x15 => ?_) (by rfl)
  refine J_seq ?_
  refine J_seq ?_
  refine J_region rfl ?_
  refine r_move (I_ x15.2) rfl rfl ?_
  refine r_faT ((cL 1 c_i64) t1.Edges) fo_31_1 rfl rfl rfl ?_
  refine r_ld (AL 1 c_i64 t1.Edges) sc_22 rfl rfl rfl ?_
  refine r_len (cc := c_i64) il_22 rfl rfl ?_
  refine r_lss rfl rfl rfl ?_
  refine R_nil0 ?_
  refine J_cond_p rfl (fun h24 => ?_) (fun h24 => ?_)
  rotate_left
  · refine J_exit rfl ?_
    refine J_out ?_
    refine J_seq ?_
    refine J_draw ?_
    refine r_ldaO (AObj 2) [AObj 3, AObj 4] ag_25 rfl .obj rfl rfl rfl rfl ?_
    refine r_bs0 5 el_22 rfl rfl ?_
    refine r_faT ((cL 1 c_i64) t1.Nodes) fo_31_0 rfl rfl rfl ?_
    refine r_ld (AL 1 c_i64 t1.Nodes) sc_22 rfl rfl rfl ?_
    refine R_if (fun h34 => ?_) (fun _ => R_none)
    refine r_app0 (cc := c_i64) (ys := t1.Nodes) 6 ap_22 rfl rfl rfl h34 rfl rfl rfl ?_
    refine r_bs0 7 el_22 rfl rfl ?_
    refine r_faT ((cL 1 c_i64) t1.Edges) fo_31_1 rfl rfl rfl ?_
    refine r_ld (AL 1 c_i64 t1.Edges) sc_22 rfl rfl rfl ?_
    refine R_if (fun h35 => ?_) (fun _ => R_none)
    refine r_app0 (cc := c_i64) (ys := t1.Edges) 8 ap_22 rfl rfl rfl h35 rfl rfl rfl ?_
    refine r_build [AObj 6, AObj 8] pl_32 z_32 (.cons (A := AObj 6) rfl po_32_0 rfl (.cons (A := AObj 8) rfl po_32_1 rfl .nil)) rfl rfl ?_
    refine r_stO (AObj 0) (AAgg [AObj 3, AObj 4]) [AObj 3, AObj 4] sz_25 rfl .obj rfl rfl rfl rfl rfl rfl ?_
    refine r_stO (AObj 1) (AAgg [AObj 6, AObj 8]) [AObj 6, AObj 8] sz_32 rfl .obj rfl rfl rfl rfl rfl rfl ?_
    refine r_assign (I_ 0) rfl rfl ?_
    refine R_nilD rfl ?_
    exact J_retF hΨ (Res_many (As := [AAgg [AObj 3, AObj 4], AAgg [AObj 6, AObj 8], I_ 0]) rfl rfl (.cons (.boxA (cs := [AObj 3, AObj 4]) ag_25 rfl rfl rfl) (.cons (.boxA (cs := [AObj 6, AObj 8]) ag_32 rfl rfl rfl) (.cons (.tmp (A := I_ 0) rfl) .nil)))) (fun y hy => by cases hy; exact (.tup (.cons (.agg (.cons (.frow rfl rfl (NKC.flat _ _)) (.cons (.frow rfl rfl (NKC.flat _ _)) .nil))) (.cons (.agg (.cons (.frow rfl rfl (NKC.flat _ _)) (.cons (.frow rfl rfl (NKC.flat _ _)) .nil))) (.cons .same .nil)))))
  refine J_skip ?_
  refine J_seq ?_
  refine J_block ?_
  refine J_seq ?_
  refine J_draw ?_
  refine r_faT ((cL 3 c_api_Edge) t0.Edges) fo_25_1 rfl rfl rfl ?_
  refine r_ld (AL 3 c_api_Edge t0.Edges) sc_23 rfl rfl rfl ?_
  refine r_faT ((cL 1 c_i64) t1.Edges) fo_31_1 rfl rfl rfl ?_
  refine r_ld (AL 1 c_i64 t1.Edges) sc_22 rfl rfl rfl ?_
  refine r_move (I_ x15.2) rfl rfl ?_
  refine R_if (fun h25 => ?_) (fun _ => R_none)
  refine r_ix (cc := c_i64) el_22 rfl rfl h25.1 h25.2 rfl ?_
  refine r_ld (I_ (nth t1.Edges x15.2)) sc_3 rfl rfl rfl ?_
  refine R_if (fun h26 => ?_) (fun _ => R_none)
  refine r_ix (cc := c_api_Edge) el_23 rfl rfl h26.1 h26.2 rfl ?_
  refine r_lda (c_api_Edge (nth t0.Edges (nth t1.Edges x15.2))) ag_135 rfl rfl rfl rfl ?_
  refine r_alloc 5 _ z_135 rfl rfl ?_
  refine r_stO (AObj 5) (AAgg (c_api_Edge (nth t0.Edges (nth t1.Edges x15.2)))) (c_api_Edge (nth t0.Edges (nth t1.Edges x15.2))) sz_135 rfl .obj rfl rfl rfl rfl rfl rfl ?_
  refine R_nilD rfl ?_
  refine J_draw ?_
  refine r_faO (AObj 2) 1 fo_25_1 rfl .obj rfl rfl rfl ?_
  refine r_ldO (ABoxAt 2 1) (AObj 4) sc_23 rfl .at rfl rfl rfl ?_
  refine r_faO (AObj 5) 0 fo_135_0 rfl .obj rfl rfl rfl ?_
  refine r_ldO (ABoxAt 5 0) (I_ ((nth t0.Edges (nth t1.Edges x15.2)).Type_)) sc_3 rfl .at rfl rfl rfl ?_
  refine r_faT ((cL 1 c_i64) t1.Nodes) fo_31_0 rfl rfl rfl ?_
  refine r_ld (AL 1 c_i64 t1.Nodes) sc_22 rfl rfl rfl ?_
  refine r_faO (AObj 5) 1 fo_135_1 rfl .obj rfl rfl rfl ?_
  refine r_ldO (ABoxAt 5 1) (I_ ((nth t0.Edges (nth t1.Edges x15.2)).From)) sc_3 rfl .at rfl rfl rfl ?_
  refine R_bind fun b27 h28 => ?_
  refine r_call _ fn_106 (k_ref07_index _ _ _ h28) rfl rfl ?_
  refine r_faT ((cL 1 c_i64) t1.Nodes) fo_31_0 rfl rfl rfl ?_
  refine r_ld (AL 1 c_i64 t1.Nodes) sc_22 rfl rfl rfl ?_
  refine r_faO (AObj 5) 2 fo_135_2 rfl .obj rfl rfl rfl ?_
  refine r_ldO (ABoxAt 5 2) (I_ ((nth t0.Edges (nth t1.Edges x15.2)).To)) sc_3 rfl .at rfl rfl rfl ?_
  refine R_bind fun b29 h30 => ?_
  refine r_call _ fn_106 (k_ref07_index _ _ _ h30) rfl rfl ?_
  refine r_build (c_api_Edge (api_Edge.mk ((nth t0.Edges (nth t1.Edges x15.2)).Type_) b27 b29)) pl_135 z_135 (.cons (A := I_ ((nth t0.Edges (nth t1.Edges x15.2)).Type_)) rfl po_135_0 rfl (.cons (A := I_ b27) rfl po_135_1 rfl (.cons (A := I_ b29) rfl po_135_2 rfl .nil))) rfl rfl ?_
  refine r_bs (cc := c_api_Edge) [(api_Edge.mk ((nth t0.Edges (nth t1.Edges x15.2)).Type_) b27 b29)] el_23 zr_135_1 (.cons (A := AAgg (c_api_Edge (api_Edge.mk ((nth t0.Edges (nth t1.Edges x15.2)).Type_) b27 b29))) rfl rfl rfl .nil) rfl rfl rfl ?_
  refine R_if (fun h31 => ?_) (fun _ => R_none)
  refine r_app (cc := c_api_Edge) (xs := x15.1) (ys := [(api_Edge.mk ((nth t0.Edges (nth t1.Edges x15.2)).Type_) b27 b29)]) 6 ap_23 rfl rfl rfl h31 rfl rfl rfl ?_
  refine r_faO (AObj 2) 1 fo_25_1 rfl .obj rfl rfl rfl ?_
  refine r_stO (ABoxAt 2 1) (AObj 6) [AObj 3, AObj 6] sz_23 rfl .at rfl rfl rfl rfl rfl rfl ?_
  refine R_nilD rfl ?_
  refine J_inBlock ?_
  refine J_range 44 (m := (t1.Edges.length : Int)) rfl fun q32 => ?_
  refine J_range 10 (m := x15.2) rfl fun q33 => ?_
  refine J_region rfl ?_
  refine r_move (I_ x15.2) rfl rfl ?_
  refine r_add (x15.2 + 1) rfl rfl (wrap_i64 (by omega) (by omega)) rfl ?_
  refine r_assign (I_ (x15.2 + 1)) rfl rfl ?_
  refine R_nil0 ?_
  refine J_go ?_
  refine J_cv [] [(4, 6)] [] 5 [(2, APtr (c_api_Graph t0)), (3, APtr (c_api_Part t1)), (4, AObj 0), (5, AObj 1), (6, I_ 0), (7, I_ b1), (8, AObj 2), (9, I_ x4.2), (10, I_ (x15.2 + 1)), (14, I_ b1), (15, I_ b1), (20, I_ x4.2), (23, I_ (t1.Nodes.length : Int))] [(0, .box 25 [ANil, ANil]), (1, .box 32 [ANil, ANil]), (2, .box 25 [AObj 3, AObj 4]), (3, .row 3 1 (x4.1.map c_i64)), (4, .row 135 3 ((x15.1 ++ [(api_Edge.mk ((nth t0.Edges (nth t1.Edges x15.2)).Type_) b27 b29)]).map c_api_Edge))] (.same rfl (.same rfl (.cons (A := AObj 0) rfl (.obj rfl rfl rfl) (.cons (A := AObj 1) rfl (.obj rfl rfl rfl) (.same rfl (.same rfl (.cons (A := AObj 2) rfl (.obj rfl rfl rfl) (.same rfl (.same rfl (.same rfl (.same rfl (.same rfl (.same rfl .nil))))))))))))) (.cons rfl rfl rfl rfl (.box (.cons .same (.cons .same .nil))) rfl rfl (.cons rfl rfl rfl rfl (.box (.cons .same (.cons .same .nil))) rfl rfl (.cons rfl rfl rfl rfl (.box (.cons (.obj rfl rfl rfl) (.cons (.obj rfl rfl rfl) .nil))) rfl rfl (.cons rfl rfl rfl rfl (.row (NKC.flat _ _)) rfl rfl (.cons rfl rfl rfl rfl (.row (NKC.flat _ _)) rfl rfl .nil))))) rfl rfl ?_
  exact hE16 ((x15.1 ++ [(api_Edge.mk ((nth t0.Edges (nth t1.Edges x15.2)).Type_) b27 b29)]), x15.2 + 1)
end Go.Proofs.YtpnfoacmgfklaaaGreat.K
