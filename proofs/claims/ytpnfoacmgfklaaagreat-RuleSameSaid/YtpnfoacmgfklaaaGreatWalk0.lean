/- Each function computes what its plain form says. -/
import Derived.Test.YtpnfoacmgfklaaaGreatPure
import Derived.Test.YtpnfoacmgfklaaaGreatFacts
set_option linter.unusedVariables false
set_option linter.unusedSimpArgs false
namespace Go.Proofs.YtpnfoacmgfklaaaGreat.K
open Go.RowKit Go.Proofs
set_option maxHeartbeats 4000000
set_option maxRecDepth 100000
theorem k_slices_Clone_int (t0 : (List Int)) (r : (List Int)) (hr : slices_Clone_int t0 = some r) : FnK PP 88 0 [] [AL 1 c_i64 t0] [(0, .row 3 1 (r.map c_i64))] (AObj 0) := by
  refine FnK.of mixed_ Tryz.func88 rfl (n := 8) rfl (N0 := 0) (ins := []) (args := [AL 1 c_i64 t0]) (fun (r : (List Int)) => [(0, .row 3 1 (r.map c_i64))]) (fun (r : (List Int)) => AObj 0) (KBL.cons inferInstance (inferInstance : KBL 0 [])).kb (InsOk.spec .nil) rfl hr fun X hΨ => ?_
  refine J_seq ?_
  refine J_region rfl ?_
  refine r_assign (ANil) rfl rfl ?_
  refine R_nil0 ?_
  refine J_seq ?_
  refine J_seq ?_
  refine J_region rfl ?_
  refine r_move (AL 1 c_i64 t0) rfl rfl ?_
  refine r_eqNil (cc := c_i64) ut_22 rfl rfl rfl ?_
  refine R_nil0 ?_
  refine J_condNil rfl (fun h2 => ?_) ?_
  · obtain rfl := List.eq_nil_of_length_eq_zero h2
    refine J_seq ?_
    refine J_region rfl ?_
    refine r_assign (ANil) rfl rfl ?_
    refine R_nil0 ?_
    exact J_retK hΨ (Res_box rfl (.tmp (A := ANil) rfl)) [] [] [0] rfl (fun y hy => by unfold slices_Clone_int at hy; simp at hy; subst hy; exact ⟨(.new rfl rfl .nil), (.nilobj rfl rfl)⟩)
  refine J_skip ?_
  refine J_seq ?_
  refine J_region rfl ?_
  refine r_bs0 0 el_22 rfl rfl ?_
  refine r_move (AL 1 c_i64 t0) rfl rfl ?_
  refine R_if (fun h1 => ?_) (fun _ => R_none)
  refine r_app0 (cc := c_i64) (ys := t0) 1 ap_22 rfl rfl rfl h1 rfl rfl rfl ?_
  refine r_assign (AObj 1) rfl rfl ?_
  refine R_nil0 ?_
  exact J_retK hΨ (Res_box rfl (.tmp (A := AObj 1) rfl)) [] [(0, 1)] [] rfl (fun y hy => by cases hy; exact ⟨(.cons rfl rfl rfl rfl (.row (NKC.flat _ _)) rfl rfl .nil), (.obj rfl rfl rfl)⟩)
theorem k_slices_Clone_api_Edge (t0 : (List api_Edge)) (r : (List api_Edge)) (hr : slices_Clone_api_Edge t0 = some r) : FnP PP 147 [AL 3 c_api_Edge t0] (AL 3 c_api_Edge r) := by
  refine FnP.of mixed_ Tryz.func147 rfl (n := 8) rfl (fun (r : (List api_Edge)) => AL 3 c_api_Edge r) nk_args NK.nk rfl hr fun X hΨ => ?_
  refine J_seq ?_
  refine J_region rfl ?_
  refine r_assign (ANil) rfl rfl ?_
  refine R_nil0 ?_
  refine J_seq ?_
  refine J_seq ?_
  refine J_region rfl ?_
  refine r_move (AL 3 c_api_Edge t0) rfl rfl ?_
  refine r_eqNil (cc := c_api_Edge) ut_23 rfl rfl rfl ?_
  refine R_nil0 ?_
  refine J_condNil rfl (fun h2 => ?_) ?_
  · obtain rfl := List.eq_nil_of_length_eq_zero h2
    refine J_seq ?_
    refine J_region rfl ?_
    refine r_assign (ANil) rfl rfl ?_
    refine R_nil0 ?_
    exact J_retF hΨ (Res_box rfl (.tmp (A := ANil) rfl)) (fun y hy => by unfold slices_Clone_api_Edge at hy; simp at hy; subst hy; exact .nil)
  refine J_skip ?_
  refine J_seq ?_
  refine J_region rfl ?_
  refine r_bs0 0 el_23 rfl rfl ?_
  refine r_move (AL 3 c_api_Edge t0) rfl rfl ?_
  refine R_if (fun h1 => ?_) (fun _ => R_none)
  refine r_app0 (cc := c_api_Edge) (ys := t0) 1 ap_23 rfl rfl rfl h1 rfl rfl rfl ?_
  refine r_assign (AObj 1) rfl rfl ?_
  refine R_nil0 ?_
  exact J_retF hΨ (Res_box rfl (.tmp (A := AObj 1) rfl)) (fun y hy => by cases hy; exact (.frow rfl rfl (NKC.flat _ _)))
theorem k_rule_copied (t0 : api_Graph) (r : api_Graph) (hr : rule_copied t0 = some r) : FnP PP 89 [AAgg (c_api_Graph t0)] (AAgg (c_api_Graph r)) := by
  refine FnP.of mixed_ Tryz.func89 rfl (n := 10) rfl (fun (r : api_Graph) => AAgg (c_api_Graph r)) nk_args NK.nk rfl hr fun X hΨ => ?_
  refine J_seq ?_
  refine J_region rfl ?_
  refine r_boxV (AAgg (c_api_Graph t0)) rfl rfl ?_
  refine r_alloc 0 _ z_25 rfl rfl ?_
  refine R_nil0 ?_
  refine J_seq ?_
  refine J_draw ?_
  refine r_faT ((cL 1 c_i64) t0.Nodes) fo_25_0 rfl rfl rfl ?_
  refine r_ld (AL 1 c_i64 t0.Nodes) sc_22 rfl rfl rfl ?_
  refine R_bind fun b1 h2 => ?_
  refine r_call _ fn_88 (FnK.toP (r' := AL 1 c_i64 b1) (k_slices_Clone_int _ _ h2) (.frow rfl rfl (NKC.flat _ _))) rfl rfl ?_
  refine r_faT ((cL 3 c_api_Edge) t0.Edges) fo_25_1 rfl rfl rfl ?_
  refine r_ld (AL 3 c_api_Edge t0.Edges) sc_23 rfl rfl rfl ?_
  refine R_bind fun b3 h4 => ?_
  refine r_call _ fn_147 (k_slices_Clone_api_Edge _ _ h4) rfl rfl ?_
  refine r_build (c_api_Graph (api_Graph.mk b1 b3)) pl_25 z_25 (.cons (A := AL 1 c_i64 b1) rfl po_25_0 rfl (.cons (A := AL 3 c_api_Edge b3) rfl po_25_1 rfl .nil)) rfl rfl ?_
  refine r_stO (AObj 0) (AAgg (c_api_Graph (api_Graph.mk b1 b3))) (c_api_Graph (api_Graph.mk b1 b3)) sz_25 rfl .obj rfl rfl rfl rfl rfl rfl ?_
  refine R_nilD rfl ?_
  exact J_ret hΨ (Res_box rfl (.boxA (cs := (c_api_Graph (api_Graph.mk b1 b3))) ag_25 rfl rfl rfl)) (fun y hy => by cases hy; rfl)
theorem k_rule_plain (t0 : api_Rule) (r : api_Rule) (hr : rule_plain t0 = some r) : FnP PP 39 [AAgg (c_api_Rule t0)] (AAgg (c_api_Rule r)) := by
  refine FnP.of mixed_ Tryz.func39 rfl (n := 37) rfl (fun (r : api_Rule) => AAgg (c_api_Rule r)) nk_args NK.nk rfl hr fun X hΨ => ?_
  refine J_seq ?_
  refine J_region rfl ?_
  refine r_boxV (AAgg (c_api_Rule t0)) rfl rfl ?_
  refine r_alloc 0 _ z_37 rfl rfl ?_
  refine R_nil0 ?_
  refine J_seq ?_
  refine J_draw ?_
  refine r_faT (c_str t0.Name) fo_37_0 rfl rfl rfl ?_
  refine r_ld (AStr t0.Name) sc_9 rfl rfl rfl ?_
  refine r_faT (c_api_Pattern t0.Left) fo_37_1 rfl rfl rfl ?_
  refine r_faT (c_api_Graph t0.Left.Graph) fo_29_0 rfl rfl rfl ?_
  refine r_lda (c_api_Graph t0.Left.Graph) ag_25 rfl rfl rfl rfl ?_
  refine R_bind fun b1 h2 => ?_
  refine r_call _ fn_89 (k_rule_copied _ _ h2) rfl rfl ?_
  refine r_buildI (Cs := [AL 1 c_i64 b1.Nodes, AL 3 c_api_Edge b1.Edges, ANil, I_ 0, ANil]) (c_api_Pattern (api_Pattern.mk b1 [] 0 [])) pl_29 z_29 (.cons (A := AAgg (c_api_Graph b1)) rfl po_29_0 rfl .nil) rfl (.same (.same (.nl (.same (.nl .nil))))) rfl ?_
  refine r_faT (c_api_Pattern t0.Right) fo_37_2 rfl rfl rfl ?_
  refine r_faT (c_api_Graph t0.Right.Graph) fo_29_0 rfl rfl rfl ?_
  refine r_lda (c_api_Graph t0.Right.Graph) ag_25 rfl rfl rfl rfl ?_
  refine R_bind fun b3 h4 => ?_
  refine r_call _ fn_89 (k_rule_copied _ _ h4) rfl rfl ?_
  refine r_buildI (Cs := [AL 1 c_i64 b3.Nodes, AL 3 c_api_Edge b3.Edges, ANil, I_ 0, ANil]) (c_api_Pattern (api_Pattern.mk b3 [] 0 [])) pl_29 z_29 (.cons (A := AAgg (c_api_Graph b3)) rfl po_29_0 rfl .nil) rfl (.same (.same (.nl (.same (.nl .nil))))) rfl ?_
  refine r_faT (c_api_Part t0.Keep) fo_37_3 rfl rfl rfl ?_
  refine r_faT ((cL 1 c_i64) t0.Keep.Nodes) fo_31_0 rfl rfl rfl ?_
  refine r_ld (AL 1 c_i64 t0.Keep.Nodes) sc_22 rfl rfl rfl ?_
  refine R_bind fun b5 h6 => ?_
  refine r_call _ fn_88 (FnK.toP (r' := AL 1 c_i64 b5) (k_slices_Clone_int _ _ h6) (.frow rfl rfl (NKC.flat _ _))) rfl rfl ?_
  refine r_faT (c_api_Part t0.Keep) fo_37_3 rfl rfl rfl ?_
  refine r_faT ((cL 1 c_i64) t0.Keep.Edges) fo_31_1 rfl rfl rfl ?_
  refine r_ld (AL 1 c_i64 t0.Keep.Edges) sc_22 rfl rfl rfl ?_
  refine R_bind fun b7 h8 => ?_
  refine r_call _ fn_88 (FnK.toP (r' := AL 1 c_i64 b7) (k_slices_Clone_int _ _ h8) (.frow rfl rfl (NKC.flat _ _))) rfl rfl ?_
  refine r_build (c_api_Part (api_Part.mk b5 b7)) pl_31 z_31 (.cons (A := AL 1 c_i64 b5) rfl po_31_0 rfl (.cons (A := AL 1 c_i64 b7) rfl po_31_1 rfl .nil)) rfl rfl ?_
  refine r_faT (c_api_Morphism t0.Into) fo_37_4 rfl rfl rfl ?_
  refine r_faT ((cL 1 c_i64) t0.Into.Nodes) fo_32_0 rfl rfl rfl ?_
  refine r_ld (AL 1 c_i64 t0.Into.Nodes) sc_22 rfl rfl rfl ?_
  refine R_bind fun b9 h10 => ?_
  refine r_call _ fn_88 (FnK.toP (r' := AL 1 c_i64 b9) (k_slices_Clone_int _ _ h10) (.frow rfl rfl (NKC.flat _ _))) rfl rfl ?_
  refine r_faT (c_api_Morphism t0.Into) fo_37_4 rfl rfl rfl ?_
  refine r_faT ((cL 1 c_i64) t0.Into.Edges) fo_32_1 rfl rfl rfl ?_
  refine r_ld (AL 1 c_i64 t0.Into.Edges) sc_22 rfl rfl rfl ?_
  refine R_bind fun b11 h12 => ?_
  refine r_call _ fn_88 (FnK.toP (r' := AL 1 c_i64 b11) (k_slices_Clone_int _ _ h12) (.frow rfl rfl (NKC.flat _ _))) rfl rfl ?_
  refine r_build (c_api_Morphism (api_Morphism.mk b9 b11)) pl_32 z_32 (.cons (A := AL 1 c_i64 b9) rfl po_32_0 rfl (.cons (A := AL 1 c_i64 b11) rfl po_32_1 rfl .nil)) rfl rfl ?_
  refine r_faT (c_bool t0.Injective) fo_37_5 rfl rfl rfl ?_
  refine r_ld (ABool t0.Injective) sc_4 rfl rfl rfl ?_
  refine r_buildI (Cs := [I_ 1, ANil, ANil, ANil, ANil, ANil, ANil, I_ 0, ANil]) (c_api_Condition (api_Condition.mk 1 [] (api_Morphism.mk [] []) (api_Pattern.mk (api_Graph.mk [] []) [] 0 []))) pl_35 z_35 (.cons (A := I_ 1) rfl po_35_0 rfl .nil) rfl (by rw [c_api_Condition_def]; exact (.same (.nl (.nl (.nl (.nl (.nl (.nl (.same (.nl .nil)))))))))) rfl ?_
  refine r_build (c_api_Rule (api_Rule.mk t0.Name (api_Pattern.mk b1 [] 0 []) (api_Pattern.mk b3 [] 0 []) (api_Part.mk b5 b7) (api_Morphism.mk b9 b11) t0.Injective (api_Condition.mk 1 [] (api_Morphism.mk [] []) (api_Pattern.mk (api_Graph.mk [] []) [] 0 [])))) pl_37 z_37 (.cons (A := AStr t0.Name) rfl po_37_0 rfl (.cons (A := AAgg (c_api_Pattern (api_Pattern.mk b1 [] 0 []))) rfl po_37_1 rfl (.cons (A := AAgg (c_api_Pattern (api_Pattern.mk b3 [] 0 []))) rfl po_37_2 rfl (.cons (A := AAgg (c_api_Part (api_Part.mk b5 b7))) rfl po_37_3 rfl (.cons (A := AAgg (c_api_Morphism (api_Morphism.mk b9 b11))) rfl po_37_4 rfl (.cons (A := ABool t0.Injective) rfl po_37_5 rfl (.cons (A := AAgg (c_api_Condition (api_Condition.mk 1 [] (api_Morphism.mk [] []) (api_Pattern.mk (api_Graph.mk [] []) [] 0 [])))) rfl po_37_6 rfl .nil))))))) rfl rfl ?_
  refine r_stO (AObj 0) (AAgg (c_api_Rule (api_Rule.mk t0.Name (api_Pattern.mk b1 [] 0 []) (api_Pattern.mk b3 [] 0 []) (api_Part.mk b5 b7) (api_Morphism.mk b9 b11) t0.Injective (api_Condition.mk 1 [] (api_Morphism.mk [] []) (api_Pattern.mk (api_Graph.mk [] []) [] 0 []))))) (c_api_Rule (api_Rule.mk t0.Name (api_Pattern.mk b1 [] 0 []) (api_Pattern.mk b3 [] 0 []) (api_Part.mk b5 b7) (api_Morphism.mk b9 b11) t0.Injective (api_Condition.mk 1 [] (api_Morphism.mk [] []) (api_Pattern.mk (api_Graph.mk [] []) [] 0 [])))) sz_37 rfl .obj rfl rfl rfl rfl rfl rfl ?_
  refine R_nilD rfl ?_
  exact J_ret hΨ (Res_box rfl (.boxA (cs := (c_api_Rule (api_Rule.mk t0.Name (api_Pattern.mk b1 [] 0 []) (api_Pattern.mk b3 [] 0 []) (api_Part.mk b5 b7) (api_Morphism.mk b9 b11) t0.Injective (api_Condition.mk 1 [] (api_Morphism.mk [] []) (api_Pattern.mk (api_Graph.mk [] []) [] 0 []))))) ag_37 rfl rfl rfl)) (fun y hy => by cases hy; rfl)
theorem k_slices_IndexFunc_int (t0 : (List Int)) (t1 : (Int → Option Bool)) (r : Int) (hr : slices_IndexFunc_int t0 t1 = some r) : FnP PP 142 [AL 1 c_i64 t0, AFn PP (fun x => [I_ x]) (fun y => ABool y) t1] (I_ r) := by
  refine FnP.of mixed_ Tryz.func142 rfl (n := 19) rfl (fun (r : Int) => I_ r) nk_args NK.nk rfl hr fun X hΨ => ?_
  refine J_seq ?_
  refine J_region rfl ?_
  refine r_assign (I_ 0) rfl rfl ?_
  refine R_nil0 ?_
  refine J_seq ?_
  refine J_seq ?_
  refine J_region rfl ?_
  refine r_move (AL 1 c_i64 t0) rfl rfl ?_
  refine r_len (cc := c_i64) il_22 rfl rfl ?_
  refine r_move (I_ 0) rfl rfl ?_
  refine R_nil0 ?_
  refine J_block ?_
  refine J_to [(0, AL 1 c_i64 t0), (1, AFn PP (fun x => [I_ x]) (fun y => ABool y) t1), (7, I_ (t0.length : Int)), (8, I_ 0)] (.cons rfl (.cons rfl (.cons rfl (.cons rfl .nil)))) ?_
  refine J_it (fun x1 => ⟨fr [(0, AL 1 c_i64 t0), (1, AFn PP (fun x => [I_ x]) (fun y => ABool y) t1), (7, I_ (t0.length : Int)), (8, I_ x1)], fun _ => none, 0⟩) (fun E2 hE2 x1 => ?_) (by rfl)
  refine J_seq ?_
  refine J_region rfl ?_
  refine r_lss rfl rfl rfl ?_
  refine R_nil0 ?_
  refine J_seq ?_
  refine J_cond_p rfl (fun h8 => ?_) (fun h8 => ?_)
  rotate_left
  · refine J_exit rfl ?_
    refine J_outS ?_
    refine J_seq ?_
    refine J_region rfl ?_
    refine r_assign (I_ (-1)) rfl rfl ?_
    refine R_nil0 ?_
    exact J_ret hΨ (Res_one rfl) (fun y hy => by cases hy; rfl)
  refine J_skip ?_
  refine J_seq ?_
  refine J_block ?_
  refine J_seq ?_
  refine J_region rfl ?_
  refine r_move (I_ x1) rfl rfl ?_
  refine r_assign (I_ x1) rfl rfl ?_
  refine R_nil0 ?_
  refine J_seq ?_
  refine J_region rfl ?_
  refine r_move (AFn PP (fun x => [I_ x]) (fun y => ABool y) t1) rfl rfl ?_
  refine r_move (AL 1 c_i64 t0) rfl rfl ?_
  refine r_move (I_ x1) rfl rfl ?_
  refine R_if (fun h9 => ?_) (fun _ => R_none)
  refine r_ix (cc := c_i64) el_22 rfl rfl h9.1 h9.2 rfl ?_
  refine r_ld (I_ (nth t0 x1)) sc_3 rfl rfl rfl ?_
  refine R_bind fun b10 h11 => ?_
  refine r_callFn (ga := (fun x => [I_ x])) (rt := (fun y => ABool y)) (gg := t1) (u := (nth t0 x1)) (w := b10) rfl rfl h11 (NK.nk) rfl ?_
  refine R_nil0 ?_
  refine J_cond rfl (fun h12 => ?_) (fun h12 => ?_)
  · refine J_seq ?_
    refine J_region rfl ?_
    refine r_move (I_ x1) rfl rfl ?_
    refine r_assign (I_ x1) rfl rfl ?_
    refine R_nil0 ?_
    refine J_outS ?_
    exact J_ret hΨ (Res_one rfl) (fun y hy => by cases hy; rfl)
  refine J_skip ?_
  refine J_inBlock ?_
  refine J_range 7 (m := (t0.length : Int)) rfl fun q13 => ?_
  refine J_range 5 (m := x1) rfl fun q14 => ?_
  refine J_region rfl ?_
  refine r_add (x1 + 1) rfl rfl (wrap_i64 (by omega) (by omega)) rfl ?_
  refine r_move (I_ (x1 + 1)) rfl rfl ?_
  refine R_nil0 ?_
  refine J_go ?_
  refine J_to [(0, AL 1 c_i64 t0), (1, AFn PP (fun x => [I_ x]) (fun y => ABool y) t1), (7, I_ (t0.length : Int)), (8, I_ (x1 + 1))] (.cons rfl (.cons rfl (.cons rfl (.cons rfl .nil)))) ?_
  exact hE2 (x1 + 1)
theorem k_slices_ContainsFunc_int (t0 : (List Int)) (t1 : (Int → Option Bool)) (r : Bool) (hr : slices_ContainsFunc_int t0 t1 = some r) : FnP PP 80 [AL 1 c_i64 t0, AFn PP (fun x => [I_ x]) (fun y => ABool y) t1] (ABool r) := by
  refine FnP.of mixed_ Tryz.func80 rfl (n := 9) rfl (fun (r : Bool) => ABool r) nk_args NK.nk rfl hr fun X hΨ => ?_
  refine J_seq ?_
  refine J_region rfl ?_
  refine r_assign (ABool false) rfl rfl ?_
  refine R_nil0 ?_
  refine J_seq ?_
  refine J_region rfl ?_
  refine r_move (AL 1 c_i64 t0) rfl rfl ?_
  refine r_move (AFn PP (fun x => [I_ x]) (fun y => ABool y) t1) rfl rfl ?_
  refine R_bind fun b1 h2 => ?_
  refine r_call _ fn_142 (k_slices_IndexFunc_int _ _ _ h2) rfl rfl ?_
  refine r_geq rfl rfl rfl ?_
  refine r_assign (ABool (decide (0 ≤ b1))) rfl rfl ?_
  refine R_nil0 ?_
  exact J_ret hΨ (Res_one rfl) (fun y hy => by cases hy; rfl)
theorem k_rule_makable_1 (t0 : Int) (t1 : api_Types) (t2 : api_Graph) (r : Bool) (hr : rule_makable_1 t0 t1 t2 = some r) : FnP PP 113 [I_ t0, APtr (c_api_Types t1), APtr (c_api_Graph t2)] (ABool r) := by
  refine FnP.of mixed_ Tryz.func113 rfl (n := 15) rfl (fun (r : Bool) => ABool r) nk_args NK.nk rfl hr fun X hΨ => ?_
  refine J_seq ?_
  refine J_region rfl ?_
  refine r_assign (ABool false) rfl rfl ?_
  refine R_nil0 ?_
  refine J_seq ?_
  refine J_draw ?_
  refine r_faT ((cL 4 c_api_NodeType) t1.Nodes) fo_59_0 rfl rfl rfl ?_
  refine r_ld (AL 4 c_api_NodeType t1.Nodes) sc_56 rfl rfl rfl ?_
  refine r_faT ((cL 1 c_i64) t2.Nodes) fo_25_0 rfl rfl rfl ?_
  refine r_ld (AL 1 c_i64 t2.Nodes) sc_22 rfl rfl rfl ?_
  refine r_move (I_ t0) rfl rfl ?_
  refine R_if (fun h1 => ?_) (fun _ => R_none)
  refine r_ix (cc := c_i64) el_22 rfl rfl h1.1 h1.2 rfl ?_
  refine r_ld (I_ (nth t2.Nodes t0)) sc_3 rfl rfl rfl ?_
  refine R_if (fun h2 => ?_) (fun _ => R_none)
  refine r_ix (cc := c_api_NodeType) el_56 rfl rfl h2.1 h2.2 rfl ?_
  refine r_faT (c_bool ((nth t1.Nodes (nth t2.Nodes t0)).Abstract)) fo_106_2 rfl rfl rfl ?_
  refine r_ld (ABool ((nth t1.Nodes (nth t2.Nodes t0)).Abstract)) sc_4 rfl rfl rfl ?_
  refine r_assign (ABool ((nth t1.Nodes (nth t2.Nodes t0)).Abstract)) rfl rfl ?_
  refine R_nilD rfl ?_
  exact J_ret hΨ (Res_one rfl) (fun y hy => by cases hy; rfl)
theorem k_token_letter (t0 : Int) (r : Bool) (hr : token_letter t0 = some r) : FnP PP 233 [AInt .u8 t0] (ABool r) := by
  refine FnP.of mixed_ Tryz.func233 rfl (n := 17) rfl (fun (r : Bool) => ABool r) nk_args NK.nk rfl hr fun X hΨ => ?_
  refine J_seq ?_
  refine J_region rfl ?_
  refine r_assign (ABool false) rfl rfl ?_
  refine R_nil0 ?_
  refine J_seq ?_
  refine J_region rfl ?_
  refine r_move (AInt .u8 t0) rfl rfl ?_
  refine r_geq rfl rfl rfl ?_
  refine r_move (ABool (decide (97 ≤ t0))) rfl rfl ?_
  refine R_if (fun h1 => ?_) (fun h1 => ?_)
  rotate_left
  · refine R_skip (g_tn rfl rfl (df h1)) ?_
    refine R_skip (g_tn rfl rfl (df h1)) ?_
    refine r_pickF (ABool false) rfl (df h1) rfl rfl ?_
    refine r_move (ABool false) rfl rfl ?_
    refine r_move (AInt .u8 t0) rfl (g_f rfl rfl rfl) ?_
    refine r_geq rfl rfl (g_f rfl rfl rfl) ?_
    refine r_move (ABool (decide (65 ≤ t0))) rfl (g_f rfl rfl rfl) ?_
    refine R_if (fun h4 => ?_) (fun h4 => ?_)
    · refine r_move (AInt .u8 t0) rfl (g_t rfl rfl (dt h4)) ?_
      refine r_leq rfl rfl (g_t rfl rfl (dt h4)) ?_
      refine r_pickT (ABool (decide (t0 ≤ 90))) rfl (dt h4) rfl (g_f rfl rfl rfl) ?_
      refine r_pickF (ABool (decide (t0 ≤ 90))) rfl rfl rfl rfl ?_
      refine r_assign (ABool (decide (t0 ≤ 90))) rfl rfl ?_
      refine R_nil0 ?_
      exact J_ret hΨ (Res_one rfl) (fun y hy => by cases hy; rfl)
    refine R_skip (g_tn rfl rfl (df h4)) ?_
    refine R_skip (g_tn rfl rfl (df h4)) ?_
    refine r_pickF (ABool false) rfl (df h4) rfl (g_f rfl rfl rfl) ?_
    refine r_pickF (ABool false) rfl rfl rfl rfl ?_
    refine r_assign (ABool false) rfl rfl ?_
    refine R_nil0 ?_
    exact J_ret hΨ (Res_one rfl) (fun y hy => by cases hy; rfl)
  refine r_move (AInt .u8 t0) rfl (g_t rfl rfl (dt h1)) ?_
  refine r_leq rfl rfl (g_t rfl rfl (dt h1)) ?_
  refine r_pickT (ABool (decide (t0 ≤ 122))) rfl (dt h1) rfl rfl ?_
  refine r_move (ABool (decide (t0 ≤ 122))) rfl rfl ?_
  refine R_if (fun h2 => ?_) (fun h2 => ?_)
  · refine R_skip (g_fn rfl rfl (dt h2)) ?_
    refine R_skip (g_fn rfl rfl (dt h2)) ?_
    refine R_skip (g_fn rfl rfl (dt h2)) ?_
    refine R_skip (g_u rfl rfl) ?_
    refine R_skip (g_u rfl rfl) ?_
    refine R_skip (g_fn rfl rfl (dt h2)) ?_
    refine r_pickT (ABool true) rfl (dt h2) rfl rfl ?_
    refine r_assign (ABool true) rfl rfl ?_
    refine R_nil0 ?_
    exact J_ret hΨ (Res_one rfl) (fun y hy => by cases hy; rfl)
  refine r_move (AInt .u8 t0) rfl (g_f rfl rfl (df h2)) ?_
  refine r_geq rfl rfl (g_f rfl rfl (df h2)) ?_
  refine r_move (ABool (decide (65 ≤ t0))) rfl (g_f rfl rfl (df h2)) ?_
  refine R_if (fun h3 => ?_) (fun h3 => ?_)
  · refine r_move (AInt .u8 t0) rfl (g_t rfl rfl (dt h3)) ?_
    refine r_leq rfl rfl (g_t rfl rfl (dt h3)) ?_
    refine r_pickT (ABool (decide (t0 ≤ 90))) rfl (dt h3) rfl (g_f rfl rfl (df h2)) ?_
    refine r_pickF (ABool (decide (t0 ≤ 90))) rfl (df h2) rfl rfl ?_
    refine r_assign (ABool (decide (t0 ≤ 90))) rfl rfl ?_
    refine R_nil0 ?_
    exact J_ret hΨ (Res_one rfl) (fun y hy => by cases hy; rfl)
  refine R_skip (g_tn rfl rfl (df h3)) ?_
  refine R_skip (g_tn rfl rfl (df h3)) ?_
  refine r_pickF (ABool false) rfl (df h3) rfl (g_f rfl rfl (df h2)) ?_
  refine r_pickF (ABool false) rfl (df h2) rfl rfl ?_
  refine r_assign (ABool false) rfl rfl ?_
  refine R_nil0 ?_
  exact J_ret hΨ (Res_one rfl) (fun y hy => by cases hy; rfl)
theorem k_token_run (t0 : ByteArray) (t1 : (Int → Option Bool)) (r : Int) (hr : token_run t0 t1 = some r) : FnP PP 234 [AStr t0, AFn PP (fun x => [AInt .u8 x]) (fun y => ABool y) t1] (I_ r) := by
  refine FnP.of mixed_ Tryz.func234 rfl (n := 20) rfl (fun (r : Int) => I_ r) nk_args NK.nk rfl hr fun X hΨ => ?_
  refine J_seq ?_
  refine J_region rfl ?_
  refine r_assign (I_ 0) rfl rfl ?_
  refine R_nil0 ?_
  refine J_seq ?_
  refine J_region rfl ?_
  refine r_assign (I_ 0) rfl rfl ?_
  refine R_nil0 ?_
  refine J_seq ?_
  refine J_block ?_
  refine J_to [(0, AStr t0), (1, AFn PP (fun x => [AInt .u8 x]) (fun y => ABool y) t1), (5, I_ 0)] (.cons rfl (.cons rfl (.cons rfl .nil))) ?_
  refine J_it (fun x1 => ⟨fr [(0, AStr t0), (1, AFn PP (fun x => [AInt .u8 x]) (fun y => ABool y) t1), (5, I_ x1)], fun _ => none, 0⟩) (fun E2 hE2 x1 => ?_) (by rfl)
  refine J_seq ?_
  refine J_seq ?_
  apply J_joinA (fun v17 => ⟨fr [(5, I_ x1), (6, I_ x1), (8, I_ (t0.size : Int))], fun _ => none, 0⟩) (fun v17 => token_run_j17 x1 v17)
  · intro K18
    refine J_region rfl ?_
    refine r_move (I_ x1) rfl rfl ?_
    refine r_move (AStr t0) rfl rfl ?_
    refine r_lenS is_9 rfl rfl ?_
    refine r_lss rfl rfl rfl ?_
    refine r_move (ABool (decide (x1 < (t0.size : Int)))) rfl rfl ?_
    refine R_if (fun h10 => ?_) (fun h10 => ?_)
    rotate_left
    · refine R_skip (g_tn rfl rfl (df h10)) ?_
      refine R_skip (g_tn rfl rfl (df h10)) ?_
      refine R_skip (g_tn rfl rfl (df h10)) ?_
      refine R_skip (g_tn rfl rfl (df h10)) ?_
      refine R_skip (g_tn rfl rfl (df h10)) ?_
      refine r_pickF (ABool false) rfl (df h10) rfl rfl ?_
      refine R_nil0 ?_
      refine J_cond_F rfl rfl ?_
      refine J_to [(5, I_ x1), (6, I_ x1), (8, I_ (t0.size : Int))] (.cons rfl (.cons rfl (.cons rfl .nil))) ?_
      exact K18 ()
    refine r_move (AFn PP (fun x => [AInt .u8 x]) (fun y => ABool y) t1) rfl (g_t rfl rfl (dt h10)) ?_
    refine r_move (AStr t0) rfl (g_t rfl rfl (dt h10)) ?_
    refine r_move (I_ x1) rfl (g_t rfl rfl (dt h10)) ?_
    refine R_if (fun h11 => ?_) (fun _ => R_none)
    refine r_ixS ut_9 rfl rfl h11.1 h11.2 (g_t rfl rfl (dt h10)) ?_
    refine R_bind fun b12 h13 => ?_
    refine r_callFn (ga := (fun x => [AInt .u8 x])) (rt := (fun y => ABool y)) (gg := t1) (u := byteAt t0 x1) (w := b12) rfl rfl h13 (NK.nk) (g_t rfl rfl (dt h10)) ?_
    refine r_pickT (ABool b12) rfl (dt h10) rfl rfl ?_
    refine R_nil0 ?_
    refine J_cond rfl (fun h14 => ?_) (fun h14 => ?_)
    rotate_left
    · refine J_to [(5, I_ x1), (6, I_ x1), (8, I_ (t0.size : Int))] (.cons rfl (.cons rfl (.cons rfl .nil))) ?_
      exact K18 ()
    refine J_skip ?_
    refine J_block ?_
    refine J_range 8 (m := (t0.size : Int)) rfl fun q15 => ?_
    refine J_range 5 (m := x1) rfl fun q16 => ?_
    refine J_region rfl ?_
    refine r_move (I_ x1) rfl rfl ?_
    refine r_add (x1 + 1) rfl rfl (wrap_i64 (by omega) (by omega)) rfl ?_
    refine r_assign (I_ (x1 + 1)) rfl rfl ?_
    refine R_nil0 ?_
    refine J_inBlock ?_
    refine J_go ?_
    refine J_to [(0, AStr t0), (1, AFn PP (fun x => [AInt .u8 x]) (fun y => ABool y) t1), (5, I_ (x1 + 1))] (.cons rfl (.cons rfl (.cons rfl .nil))) ?_
    exact hE2 (x1 + 1)
  intro v17
  refine J_exit rfl ?_
  refine J_outS ?_
  refine J_seq ?_
  refine J_region rfl ?_
  refine r_move (I_ x1) rfl rfl ?_
  refine r_assign (I_ x1) rfl rfl ?_
  refine R_nil0 ?_
  exact J_ret hΨ (Res_one rfl) (fun y hy => by cases hy; rfl)
theorem k_token_digit (t0 : Int) (r : Bool) (hr : token_digit t0 = some r) : FnP PP 236 [AInt .u8 t0] (ABool r) := by
  refine FnP.of mixed_ Tryz.func236 rfl (n := 9) rfl (fun (r : Bool) => ABool r) nk_args NK.nk rfl hr fun X hΨ => ?_
  refine J_seq ?_
  refine J_region rfl ?_
  refine r_assign (ABool false) rfl rfl ?_
  refine R_nil0 ?_
  refine J_seq ?_
  refine J_region rfl ?_
  refine r_move (AInt .u8 t0) rfl rfl ?_
  refine r_geq rfl rfl rfl ?_
  refine r_move (ABool (decide (48 ≤ t0))) rfl rfl ?_
  refine R_if (fun h1 => ?_) (fun h1 => ?_)
  · refine r_move (AInt .u8 t0) rfl (g_t rfl rfl (dt h1)) ?_
    refine r_leq rfl rfl (g_t rfl rfl (dt h1)) ?_
    refine r_pickT (ABool (decide (t0 ≤ 57))) rfl (dt h1) rfl rfl ?_
    refine r_assign (ABool (decide (t0 ≤ 57))) rfl rfl ?_
    refine R_nil0 ?_
    exact J_ret hΨ (Res_one rfl) (fun y hy => by cases hy; rfl)
  refine R_skip (g_tn rfl rfl (df h1)) ?_
  refine R_skip (g_tn rfl rfl (df h1)) ?_
  refine r_pickF (ABool false) rfl (df h1) rfl rfl ?_
  refine r_assign (ABool false) rfl rfl ?_
  refine R_nil0 ?_
  exact J_ret hΨ (Res_one rfl) (fun y hy => by cases hy; rfl)
theorem k_token_part (t0 : Int) (r : Bool) (hr : token_part t0 = some r) : FnP PP 235 [AInt .u8 t0] (ABool r) := by
  refine FnP.of mixed_ Tryz.func235 rfl (n := 13) rfl (fun (r : Bool) => ABool r) nk_args NK.nk rfl hr fun X hΨ => ?_
  refine J_seq ?_
  refine J_region rfl ?_
  refine r_assign (ABool false) rfl rfl ?_
  refine R_nil0 ?_
  refine J_seq ?_
  refine J_region rfl ?_
  refine r_move (AInt .u8 t0) rfl rfl ?_
  refine R_bind fun b1 h2 => ?_
  refine r_call _ fn_233 (k_token_letter _ _ h2) rfl rfl ?_
  refine r_move (ABool b1) rfl rfl ?_
  refine R_if (fun h3 => ?_) (fun h3 => ?_)
  · refine R_skip (g_fn rfl rfl h3) ?_
    refine R_skip (g_fn rfl rfl h3) ?_
    refine r_pickT (ABool true) rfl h3 rfl rfl ?_
    refine r_move (ABool true) rfl rfl ?_
    refine R_skip (g_fn rfl rfl rfl) ?_
    refine R_skip (g_fn rfl rfl rfl) ?_
    refine r_pickT (ABool true) rfl rfl rfl rfl ?_
    refine r_assign (ABool true) rfl rfl ?_
    refine R_nil0 ?_
    exact J_ret hΨ (Res_one rfl) (fun y hy => by cases hy; rfl)
  refine r_move (AInt .u8 t0) rfl (g_f rfl rfl (bf h3)) ?_
  refine R_bind fun b4 h5 => ?_
  refine r_call _ fn_236 (k_token_digit _ _ h5) rfl (g_f rfl rfl (bf h3)) ?_
  refine r_pickF (ABool b4) rfl (bf h3) rfl rfl ?_
  refine r_move (ABool b4) rfl rfl ?_
  refine R_if (fun h6 => ?_) (fun h6 => ?_)
  · refine R_skip (g_fn rfl rfl h6) ?_
    refine R_skip (g_fn rfl rfl h6) ?_
    refine r_pickT (ABool true) rfl h6 rfl rfl ?_
    refine r_assign (ABool true) rfl rfl ?_
    refine R_nil0 ?_
    exact J_ret hΨ (Res_one rfl) (fun y hy => by cases hy; rfl)
  refine r_move (AInt .u8 t0) rfl (g_f rfl rfl (bf h6)) ?_
  refine r_eql rfl rfl (g_f rfl rfl (bf h6)) ?_
  refine r_pickF (ABool (decide (t0 = 95))) rfl (bf h6) rfl rfl ?_
  refine r_assign (ABool (decide (t0 = 95))) rfl rfl ?_
  refine R_nil0 ?_
  exact J_ret hΨ (Res_one rfl) (fun y hy => by cases hy; rfl)
theorem k_token_quoted_1 (t0 : Int) (r : Bool) (hr : token_quoted_1 t0 = some r) : FnP PP 266 [AInt .u8 t0] (ABool r) := by
  refine FnP.of mixed_ Tryz.func266 rfl (n := 13) rfl (fun (r : Bool) => ABool r) nk_args NK.nk rfl hr fun X hΨ => ?_
  refine J_seq ?_
  refine J_region rfl ?_
  refine r_assign (ABool false) rfl rfl ?_
  refine R_nil0 ?_
  refine J_seq ?_
  refine J_region rfl ?_
  refine r_move (AInt .u8 t0) rfl rfl ?_
  refine r_geq rfl rfl rfl ?_
  refine r_move (ABool (decide (32 ≤ t0))) rfl rfl ?_
  refine R_if (fun h1 => ?_) (fun h1 => ?_)
  rotate_left
  · refine R_skip (g_tn rfl rfl (df h1)) ?_
    refine R_skip (g_tn rfl rfl (df h1)) ?_
    refine r_pickF (ABool false) rfl (df h1) rfl rfl ?_
    refine r_move (ABool false) rfl rfl ?_
    refine R_skip (g_tn rfl rfl rfl) ?_
    refine R_skip (g_tn rfl rfl rfl) ?_
    refine r_pickF (ABool false) rfl rfl rfl rfl ?_
    refine r_assign (ABool false) rfl rfl ?_
    refine R_nil0 ?_
    exact J_ret hΨ (Res_one rfl) (fun y hy => by cases hy; rfl)
  refine r_move (AInt .u8 t0) rfl (g_t rfl rfl (dt h1)) ?_
  refine r_leq rfl rfl (g_t rfl rfl (dt h1)) ?_
  refine r_pickT (ABool (decide (t0 ≤ 126))) rfl (dt h1) rfl rfl ?_
  refine r_move (ABool (decide (t0 ≤ 126))) rfl rfl ?_
  refine R_if (fun h2 => ?_) (fun h2 => ?_)
  · refine r_move (AInt .u8 t0) rfl (g_t rfl rfl (dt h2)) ?_
    refine r_neq rfl rfl (g_t rfl rfl (dt h2)) ?_
    refine r_pickT (ABool (decide (¬ (t0 = 34)))) rfl (dt h2) rfl rfl ?_
    refine r_assign (ABool (decide (¬ (t0 = 34)))) rfl rfl ?_
    refine R_nil0 ?_
    exact J_ret hΨ (Res_one rfl) (fun y hy => by cases hy; rfl)
  refine R_skip (g_tn rfl rfl (df h2)) ?_
  refine R_skip (g_tn rfl rfl (df h2)) ?_
  refine r_pickF (ABool false) rfl (df h2) rfl rfl ?_
  refine r_assign (ABool false) rfl rfl ?_
  refine R_nil0 ?_
  exact J_ret hΨ (Res_one rfl) (fun y hy => by cases hy; rfl)
theorem k_token_quoted (t0 : ByteArray) (r : Int × Int) (hr : token_quoted t0 = some r) : FnP PP 237 [AStr t0] (ATup [I_ r.1, I_ r.2]) := by
  refine FnP.of mixed_ Tryz.func237 rfl (n := 24) rfl (fun (r : Int × Int) => ATup [I_ r.1, I_ r.2]) nk_args NK.nk rfl hr fun X hΨ => ?_
  refine J_seq ?_
  refine J_region rfl ?_
  refine r_assign (I_ 0) rfl rfl ?_
  refine r_assign (I_ 0) rfl rfl ?_
  refine R_nil0 ?_
  refine J_seq ?_
  refine J_region rfl ?_
  refine r_move (AStr t0) rfl rfl ?_
  refine R_if (fun h1 => ?_) (fun _ => R_none)
  refine r_cutS 1 (t0.size : Int) ut_9 rfl (lo_s rfl) hi_n h1.1 h1.2.1 h1.2.2 rfl ?_
  refine R_bind fun b2 h3 => ?_
  refine r_callB [] [AStr (cutS t0 1 (t0.size : Int)), AClo 266 []] fn_234 (k_token_run _ _ _ h3) .nil rfl (.cons .same (.cons (.cloFn fn_266 (fun x y h => k_token_quoted_1 x y h)) .nil)) rfl ?_
  refine r_assign (I_ b2) rfl rfl ?_
  refine R_nil0 ?_
  refine J_seq ?_
  refine J_seq ?_
  refine J_region rfl ?_
  refine r_move (I_ b2) rfl rfl ?_
  refine R_bind fun b4 h5 => ?_
  refine r_add b4 rfl rfl (Option.some.inj h5) rfl ?_
  refine r_move (AStr t0) rfl rfl ?_
  refine r_lenS is_9 rfl rfl ?_
  refine r_eql rfl rfl rfl ?_
  refine r_move (ABool (decide (b4 = (t0.size : Int)))) rfl rfl ?_
  refine R_if (fun h6 => ?_) (fun h6 => ?_)
  · refine R_skip (g_fn rfl rfl (dt h6)) ?_
    refine R_skip (g_fn rfl rfl (dt h6)) ?_
    refine R_skip (g_fn rfl rfl (dt h6)) ?_
    refine R_skip (g_fn rfl rfl (dt h6)) ?_
    refine R_skip (g_fn rfl rfl (dt h6)) ?_
    refine r_pickT (ABool true) rfl (dt h6) rfl rfl ?_
    refine R_nil0 ?_
    refine J_cond_T rfl rfl ?_
    refine J_seq ?_
    refine J_region rfl ?_
    refine r_assign (I_ 0) rfl rfl ?_
    refine r_assign (I_ 2) rfl rfl ?_
    refine R_nil0 ?_
    exact J_ret hΨ (Res_many (As := [I_ 0, I_ 2]) rfl rfl (.cons (.tmp (A := I_ 0) rfl) (.cons (.tmp (A := I_ 2) rfl) .nil))) (fun y hy => by cases hy; rfl)
  refine r_move (AStr t0) rfl (g_f rfl rfl (df h6)) ?_
  refine r_move (I_ b2) rfl (g_f rfl rfl (df h6)) ?_
  refine R_bind fun b7 h8 => ?_
  refine r_add b7 rfl rfl (Option.some.inj h8) (g_f rfl rfl (df h6)) ?_
  refine R_if (fun h9 => ?_) (fun _ => R_none)
  refine r_ixS ut_9 rfl rfl h9.1 h9.2 (g_f rfl rfl (df h6)) ?_
  refine r_neq rfl rfl (g_f rfl rfl (df h6)) ?_
  refine r_pickF (ABool (decide (¬ (byteAt t0 b7 = 34)))) rfl (df h6) rfl rfl ?_
  refine R_nil0 ?_
  refine J_cond_p rfl (fun h10 => ?_) (fun h10 => ?_)
  · refine J_seq ?_
    refine J_region rfl ?_
    refine r_assign (I_ 0) rfl rfl ?_
    refine r_assign (I_ 2) rfl rfl ?_
    refine R_nil0 ?_
    exact J_ret hΨ (Res_many (As := [I_ 0, I_ 2]) rfl rfl (.cons (.tmp (A := I_ 0) rfl) (.cons (.tmp (A := I_ 2) rfl) .nil))) (fun y hy => by cases hy; rfl)
  refine J_skip ?_
  refine J_seq ?_
  refine J_seq ?_
  refine J_region rfl ?_
  refine r_move (I_ b2) rfl rfl ?_
  refine r_gtr rfl rfl rfl ?_
  refine R_nil0 ?_
  refine J_cond_p rfl (fun h11 => ?_) (fun h11 => ?_)
  · refine J_seq ?_
    refine J_region rfl ?_
    refine r_assign (I_ 0) rfl rfl ?_
    refine r_assign (I_ 3) rfl rfl ?_
    refine R_nil0 ?_
    exact J_ret hΨ (Res_many (As := [I_ 0, I_ 3]) rfl rfl (.cons (.tmp (A := I_ 0) rfl) (.cons (.tmp (A := I_ 3) rfl) .nil))) (fun y hy => by cases hy; rfl)
  refine J_skip ?_
  refine J_seq ?_
  refine J_region rfl ?_
  refine r_move (I_ b2) rfl rfl ?_
  refine R_bind fun b12 h13 => ?_
  refine r_add b12 rfl rfl (Option.some.inj h13) rfl ?_
  refine r_assign (I_ b12) rfl rfl ?_
  refine r_assign (I_ 0) rfl rfl ?_
  refine R_nil0 ?_
  exact J_ret hΨ (Res_many (As := [I_ b12, I_ 0]) rfl rfl (.cons (.tmp (A := I_ b12) rfl) (.cons (.tmp (A := I_ 0) rfl) .nil))) (fun y hy => by cases hy; rfl)
theorem k_slices_Index_string (t0 : (List ByteArray)) (t1 : ByteArray) (r : Int) (hr : slices_Index_string t0 t1 = some r) : FnP PP 279 [AL 1 c_str t0, AStr t1] (I_ r) := by
  refine FnP.of mixed_ Tryz.func279 rfl (n := 19) rfl (fun (r : Int) => I_ r) nk_args NK.nk rfl hr fun X hΨ => ?_
  refine J_seq ?_
  refine J_region rfl ?_
  refine r_assign (I_ 0) rfl rfl ?_
  refine R_nil0 ?_
  refine J_seq ?_
  refine J_seq ?_
  refine J_region rfl ?_
  refine r_move (AL 1 c_str t0) rfl rfl ?_
  refine r_len (cc := c_str) il_107 rfl rfl ?_
  refine r_move (I_ 0) rfl rfl ?_
  refine R_nil0 ?_
  refine J_block ?_
  refine J_to [(0, AL 1 c_str t0), (1, AStr t1), (7, I_ (t0.length : Int)), (8, I_ 0)] (.cons rfl (.cons rfl (.cons rfl (.cons rfl .nil)))) ?_
  refine J_it (fun x1 => ⟨fr [(0, AL 1 c_str t0), (1, AStr t1), (7, I_ (t0.length : Int)), (8, I_ x1)], fun _ => none, 0⟩) (fun E2 hE2 x1 => ?_) (by rfl)
  refine J_seq ?_
  refine J_region rfl ?_
  refine r_lss rfl rfl rfl ?_
  refine R_nil0 ?_
  refine J_seq ?_
  refine J_cond_p rfl (fun h6 => ?_) (fun h6 => ?_)
  rotate_left
  · refine J_exit rfl ?_
    refine J_outS ?_
    refine J_seq ?_
    refine J_region rfl ?_
    refine r_assign (I_ (-1)) rfl rfl ?_
    refine R_nil0 ?_
    exact J_ret hΨ (Res_one rfl) (fun y hy => by cases hy; rfl)
  refine J_skip ?_
  refine J_seq ?_
  refine J_block ?_
  refine J_seq ?_
  refine J_region rfl ?_
  refine r_move (I_ x1) rfl rfl ?_
  refine r_assign (I_ x1) rfl rfl ?_
  refine R_nil0 ?_
  refine J_seq ?_
  refine J_region rfl ?_
  refine r_move (AStr t1) rfl rfl ?_
  refine r_move (AL 1 c_str t0) rfl rfl ?_
  refine r_move (I_ x1) rfl rfl ?_
  refine R_if (fun h7 => ?_) (fun _ => R_none)
  refine r_ix (cc := c_str) el_107 rfl rfl h7.1 h7.2 rfl ?_
  refine r_ld (AStr (nth t0 x1)) sc_9 rfl rfl rfl ?_
  refine r_eqS rfl rfl rfl ?_
  refine R_nil0 ?_
  refine J_cond_p rfl (fun h8 => ?_) (fun h8 => ?_)
  · refine J_seq ?_
    refine J_region rfl ?_
    refine r_move (I_ x1) rfl rfl ?_
    refine r_assign (I_ x1) rfl rfl ?_
    refine R_nil0 ?_
    refine J_outS ?_
    exact J_ret hΨ (Res_one rfl) (fun y hy => by cases hy; rfl)
  refine J_skip ?_
  refine J_inBlock ?_
  refine J_range 7 (m := (t0.length : Int)) rfl fun q9 => ?_
  refine J_range 5 (m := x1) rfl fun q10 => ?_
  refine J_region rfl ?_
  refine r_add (x1 + 1) rfl rfl (wrap_i64 (by omega) (by omega)) rfl ?_
  refine r_move (I_ (x1 + 1)) rfl rfl ?_
  refine R_nil0 ?_
  refine J_go ?_
  refine J_to [(0, AL 1 c_str t0), (1, AStr t1), (7, I_ (t0.length : Int)), (8, I_ (x1 + 1))] (.cons rfl (.cons rfl (.cons rfl (.cons rfl .nil)))) ?_
  exact hE2 (x1 + 1)
theorem k_slices_Contains_string (t0 : (List ByteArray)) (t1 : ByteArray) (r : Bool) (hr : slices_Contains_string t0 t1 = some r) : FnP PP 265 [AL 1 c_str t0, AStr t1] (ABool r) := by
  refine FnP.of mixed_ Tryz.func265 rfl (n := 9) rfl (fun (r : Bool) => ABool r) nk_args NK.nk rfl hr fun X hΨ => ?_
  refine J_seq ?_
  refine J_region rfl ?_
  refine r_assign (ABool false) rfl rfl ?_
  refine R_nil0 ?_
  refine J_seq ?_
  refine J_region rfl ?_
  refine r_move (AL 1 c_str t0) rfl rfl ?_
  refine r_move (AStr t1) rfl rfl ?_
  refine R_bind fun b1 h2 => ?_
  refine r_call _ fn_279 (k_slices_Index_string _ _ _ h2) rfl rfl ?_
  refine r_geq rfl rfl rfl ?_
  refine r_assign (ABool (decide (0 ≤ b1))) rfl rfl ?_
  refine R_nil0 ?_
  exact J_ret hΨ (Res_one rfl) (fun y hy => by cases hy; rfl)
theorem k_token_pair (t0 : ByteArray) (r : Bool) (hr : token_pair t0 = some r) : FnP PP 238 [AStr t0] (ABool r) := by
  refine FnP.of mixed_ Tryz.func238 rfl (n := 12) rfl (fun (r : Bool) => ABool r) nk_args NK.nk rfl hr fun X hΨ => ?_
  refine J_seq ?_
  refine J_region rfl ?_
  refine r_assign (ABool false) rfl rfl ?_
  refine R_nil0 ?_
  refine J_seq ?_
  refine J_region rfl ?_
  refine r_move (AStr t0) rfl rfl ?_
  refine r_lenS is_9 rfl rfl ?_
  refine r_geq rfl rfl rfl ?_
  refine r_move (ABool (decide (2 ≤ (t0.size : Int)))) rfl rfl ?_
  refine R_if (fun h1 => ?_) (fun h1 => ?_)
  rotate_left
  · refine R_skip (g_tn rfl rfl (df h1)) ?_
    refine R_skip (g_tn rfl rfl (df h1)) ?_
    refine R_skip (g_tn rfl rfl (df h1)) ?_
    refine R_skip (g_tn rfl rfl (df h1)) ?_
    refine r_pickF (ABool false) rfl (df h1) rfl rfl ?_
    refine r_assign (ABool false) rfl rfl ?_
    refine R_nil0 ?_
    exact J_ret hΨ (Res_one rfl) (fun y hy => by cases hy; rfl)
  refine r_bs (cc := c_str) [(ByteArray.mk #[45, 62]), (ByteArray.mk #[60, 61]), (ByteArray.mk #[62, 61]), (ByteArray.mk #[61, 61]), (ByteArray.mk #[33, 61])] el_107 zr_9_5 (.cons (A := AStr (ByteArray.mk #[45, 62])) rfl rfl rfl (.cons (A := AStr (ByteArray.mk #[60, 61])) rfl rfl rfl (.cons (A := AStr (ByteArray.mk #[62, 61])) rfl rfl rfl (.cons (A := AStr (ByteArray.mk #[61, 61])) rfl rfl rfl (.cons (A := AStr (ByteArray.mk #[33, 61])) rfl rfl rfl .nil))))) rfl rfl (g_t rfl rfl (dt h1)) ?_
  refine r_move (AStr t0) rfl (g_t rfl rfl (dt h1)) ?_
  refine R_if (fun h2 => ?_) (fun _ => R_none)
  refine r_cutS 0 2 ut_9 rfl lo_n (hi_s rfl) h2.1 h2.2.1 h2.2.2 (g_t rfl rfl (dt h1)) ?_
  refine R_bind fun b3 h4 => ?_
  refine r_call _ fn_265 (k_slices_Contains_string _ _ _ h4) rfl (g_t rfl rfl (dt h1)) ?_
  refine r_pickT (ABool b3) rfl (dt h1) rfl rfl ?_
  refine r_assign (ABool b3) rfl rfl ?_
  refine R_nil0 ?_
  exact J_ret hΨ (Res_one rfl) (fun y hy => by cases hy; rfl)
theorem k_stringslite_IndexByte (t0 : ByteArray) (t1 : Int) (r : Int) (hr : stringslite_IndexByte t0 t1 = some r) : FnP PP 267 [AStr t0, AInt .u8 t1] (I_ r) := by
  refine FnP.of mixed_ Tryz.func267 rfl (n := 8) rfl (fun (r : Int) => I_ r) nk_args NK.nk rfl hr fun X hΨ => ?_
  refine J_seq ?_
  refine J_region rfl ?_
  refine r_assign (I_ 0) rfl rfl ?_
  refine R_nil0 ?_
  refine J_seq ?_
  refine J_region rfl ?_
  refine r_move (AStr t0) rfl rfl ?_
  refine r_move (AInt .u8 t1) rfl rfl ?_
  exact R_none
theorem k_strings_IndexByte (t0 : ByteArray) (t1 : Int) (r : Int) (hr : strings_IndexByte t0 t1 = some r) : FnP PP 239 [AStr t0, AInt .u8 t1] (I_ r) := by
  refine FnP.of mixed_ Tryz.func239 rfl (n := 8) rfl (fun (r : Int) => I_ r) nk_args NK.nk rfl hr fun X hΨ => ?_
  refine J_seq ?_
  refine J_region rfl ?_
  refine r_assign (I_ 0) rfl rfl ?_
  refine R_nil0 ?_
  refine J_seq ?_
  refine J_region rfl ?_
  refine r_move (AStr t0) rfl rfl ?_
  refine r_move (AInt .u8 t1) rfl rfl ?_
  refine R_bind fun b1 h2 => ?_
  refine r_call _ fn_267 (k_stringslite_IndexByte _ _ _ h2) rfl rfl ?_
  refine r_assign (I_ b1) rfl rfl ?_
  refine R_nil0 ?_
  exact J_ret hΨ (Res_one rfl) (fun y hy => by cases hy; rfl)
theorem k_token_next (t0 : ByteArray) (r : Int × Int × Int) (hr : token_next t0 = some r) : FnP PP 180 [AStr t0] (ATup [I_ r.1, I_ r.2.1, I_ r.2.2]) := by
  refine FnP.of mixed_ Tryz.func180 rfl (n := 45) rfl (fun (r : Int × Int × Int) => ATup [I_ r.1, I_ r.2.1, I_ r.2.2]) nk_args NK.nk rfl hr fun X hΨ => ?_
  refine J_seq ?_
  refine J_region rfl ?_
  refine r_assign (I_ 0) rfl rfl ?_
  refine r_assign (I_ 0) rfl rfl ?_
  refine r_assign (I_ 0) rfl rfl ?_
  refine R_nil0 ?_
  refine J_seq ?_
  refine J_region rfl ?_
  refine r_move (AStr t0) rfl rfl ?_
  refine R_if (fun h1 => ?_) (fun _ => R_none)
  refine r_ixS ut_9 rfl rfl h1.1 h1.2 rfl ?_
  refine r_assign (AInt .u8 (byteAt t0 0)) rfl rfl ?_
  refine R_nil0 ?_
  refine J_seq ?_
  refine J_block ?_
  refine J_seq ?_
  refine J_region rfl ?_
  refine r_move (AInt .u8 (byteAt t0 0)) rfl rfl ?_
  refine R_bind fun b2 h3 => ?_
  refine r_call _ fn_233 (k_token_letter _ _ h3) rfl rfl ?_
  refine r_assign (ABool b2) rfl rfl ?_
  refine R_nil0 ?_
  refine J_cond rfl (fun h4 => ?_) (fun h4 => ?_)
  · refine J_seq ?_
    refine J_region rfl ?_
    refine r_move (AStr t0) rfl rfl ?_
    refine R_bind fun b5 h6 => ?_
    refine r_callB [] [AStr t0, AClo 235 []] fn_234 (k_token_run _ _ _ h6) .nil rfl (.cons .same (.cons (.cloFn fn_235 (fun x y h => k_token_part x y h)) .nil)) rfl ?_
    refine r_assign (I_ b5) rfl rfl ?_
    refine R_nil0 ?_
    refine J_seq ?_
    refine J_seq ?_
    refine J_region rfl ?_
    refine r_move (I_ b5) rfl rfl ?_
    refine r_gtr rfl rfl rfl ?_
    refine R_nil0 ?_
    refine J_cond_p rfl (fun h7 => ?_) (fun h7 => ?_)
    · refine J_seq ?_
      refine J_region rfl ?_
      refine r_assign (I_ 0) rfl rfl ?_
      refine r_assign (I_ 0) rfl rfl ?_
      refine r_assign (I_ 3) rfl rfl ?_
      refine R_nil0 ?_
      exact J_ret hΨ (Res_many (As := [I_ 0, I_ 0, I_ 3]) rfl rfl (.cons (.tmp (A := I_ 0) rfl) (.cons (.tmp (A := I_ 0) rfl) (.cons (.tmp (A := I_ 3) rfl) .nil)))) (fun y hy => by cases hy; rfl)
    refine J_skip ?_
    refine J_seq ?_
    refine J_region rfl ?_
    refine r_move (I_ b5) rfl rfl ?_
    refine r_assign (I_ 1) rfl rfl ?_
    refine r_assign (I_ b5) rfl rfl ?_
    refine r_assign (I_ 0) rfl rfl ?_
    refine R_nil0 ?_
    exact J_ret hΨ (Res_many (As := [I_ 1, I_ b5, I_ 0]) rfl rfl (.cons (.tmp (A := I_ 1) rfl) (.cons (.tmp (A := I_ b5) rfl) (.cons (.tmp (A := I_ 0) rfl) .nil)))) (fun y hy => by cases hy; rfl)
  refine J_seq ?_
  refine J_region rfl ?_
  refine r_move (AInt .u8 (byteAt t0 0)) rfl rfl ?_
  refine R_bind fun b8 h9 => ?_
  refine r_call _ fn_236 (k_token_digit _ _ h9) rfl rfl ?_
  refine r_assign (ABool b8) rfl rfl ?_
  refine R_nil0 ?_
  refine J_cond rfl (fun h10 => ?_) (fun h10 => ?_)
  · refine J_seq ?_
    refine J_region rfl ?_
    refine r_move (AStr t0) rfl rfl ?_
    refine R_bind fun b11 h12 => ?_
    refine r_callB [] [AStr t0, AClo 236 []] fn_234 (k_token_run _ _ _ h12) .nil rfl (.cons .same (.cons (.cloFn fn_236 (fun x y h => k_token_digit x y h)) .nil)) rfl ?_
    refine r_assign (I_ b11) rfl rfl ?_
    refine R_nil0 ?_
    refine J_seq ?_
    refine J_seq ?_
    refine J_region rfl ?_
    refine r_move (I_ b11) rfl rfl ?_
    refine r_gtr rfl rfl rfl ?_
    refine R_nil0 ?_
    refine J_cond_p rfl (fun h13 => ?_) (fun h13 => ?_)
    · refine J_seq ?_
      refine J_region rfl ?_
      refine r_assign (I_ 0) rfl rfl ?_
      refine r_assign (I_ 0) rfl rfl ?_
      refine r_assign (I_ 3) rfl rfl ?_
      refine R_nil0 ?_
      exact J_ret hΨ (Res_many (As := [I_ 0, I_ 0, I_ 3]) rfl rfl (.cons (.tmp (A := I_ 0) rfl) (.cons (.tmp (A := I_ 0) rfl) (.cons (.tmp (A := I_ 3) rfl) .nil)))) (fun y hy => by cases hy; rfl)
    refine J_skip ?_
    refine J_seq ?_
    refine J_region rfl ?_
    refine r_move (I_ b11) rfl rfl ?_
    refine r_assign (I_ 2) rfl rfl ?_
    refine r_assign (I_ b11) rfl rfl ?_
    refine r_assign (I_ 0) rfl rfl ?_
    refine R_nil0 ?_
    exact J_ret hΨ (Res_many (As := [I_ 2, I_ b11, I_ 0]) rfl rfl (.cons (.tmp (A := I_ 2) rfl) (.cons (.tmp (A := I_ b11) rfl) (.cons (.tmp (A := I_ 0) rfl) .nil)))) (fun y hy => by cases hy; rfl)
  refine J_seq ?_
  refine J_region rfl ?_
  refine r_move (AInt .u8 (byteAt t0 0)) rfl rfl ?_
  refine r_eql rfl rfl rfl ?_
  refine r_assign (ABool (decide (byteAt t0 0 = 34))) rfl rfl ?_
  refine R_nil0 ?_
  refine J_cond_p rfl (fun h14 => ?_) (fun h14 => ?_)
  · refine J_seq ?_
    refine J_region rfl ?_
    refine r_move (AStr t0) rfl rfl ?_
    refine R_bind fun b15 h16 => ?_
    refine r_call _ fn_237 (k_token_quoted _ _ h16) rfl rfl ?_
    refine r_move (ATup [I_ b15.1, I_ b15.2]) rfl rfl ?_
    refine r_ext (I_ b15.1) rfl rfl rfl ?_
    refine r_ext (I_ b15.2) rfl rfl rfl ?_
    refine r_assign (I_ b15.1) rfl rfl ?_
    refine r_assign (I_ b15.2) rfl rfl ?_
    refine R_nil0 ?_
    refine J_seq ?_
    refine J_region rfl ?_
    refine r_move (I_ b15.1) rfl rfl ?_
    refine r_move (I_ b15.2) rfl rfl ?_
    refine r_assign (I_ 3) rfl rfl ?_
    refine r_assign (I_ b15.1) rfl rfl ?_
    refine r_assign (I_ b15.2) rfl rfl ?_
    refine R_nil0 ?_
    exact J_ret hΨ (Res_many (As := [I_ 3, I_ b15.1, I_ b15.2]) rfl rfl (.cons (.tmp (A := I_ 3) rfl) (.cons (.tmp (A := I_ b15.1) rfl) (.cons (.tmp (A := I_ b15.2) rfl) .nil)))) (fun y hy => by cases hy; rfl)
  refine J_seq ?_
  refine J_region rfl ?_
  refine r_move (AStr t0) rfl rfl ?_
  refine R_bind fun b17 h18 => ?_
  refine r_call _ fn_238 (k_token_pair _ _ h18) rfl rfl ?_
  refine r_assign (ABool b17) rfl rfl ?_
  refine R_nil0 ?_
  refine J_cond rfl (fun h19 => ?_) (fun h19 => ?_)
  · refine J_seq ?_
    refine J_region rfl ?_
    refine r_assign (I_ 4) rfl rfl ?_
    refine r_assign (I_ 2) rfl rfl ?_
    refine r_assign (I_ 0) rfl rfl ?_
    refine R_nil0 ?_
    exact J_ret hΨ (Res_many (As := [I_ 4, I_ 2, I_ 0]) rfl rfl (.cons (.tmp (A := I_ 4) rfl) (.cons (.tmp (A := I_ 2) rfl) (.cons (.tmp (A := I_ 0) rfl) .nil)))) (fun y hy => by cases hy; rfl)
  refine J_seq ?_
  refine J_region rfl ?_
  refine r_move (AInt .u8 (byteAt t0 0)) rfl rfl ?_
  refine R_bind fun b20 h21 => ?_
  refine r_call _ fn_239 (k_strings_IndexByte _ _ _ h21) rfl rfl ?_
  refine r_geq rfl rfl rfl ?_
  refine r_assign (ABool (decide (0 ≤ b20))) rfl rfl ?_
  refine R_nil0 ?_
  refine J_cond_p rfl (fun h22 => ?_) (fun h22 => ?_)
  · refine J_seq ?_
    refine J_region rfl ?_
    refine r_assign (I_ 4) rfl rfl ?_
    refine r_assign (I_ 1) rfl rfl ?_
    refine r_assign (I_ 0) rfl rfl ?_
    refine R_nil0 ?_
    exact J_ret hΨ (Res_many (As := [I_ 4, I_ 1, I_ 0]) rfl rfl (.cons (.tmp (A := I_ 4) rfl) (.cons (.tmp (A := I_ 1) rfl) (.cons (.tmp (A := I_ 0) rfl) .nil)))) (fun y hy => by cases hy; rfl)
  refine J_skip ?_
  refine J_inBlock ?_
  refine J_seq ?_
  refine J_region rfl ?_
  refine r_assign (I_ 0) rfl rfl ?_
  refine r_assign (I_ 0) rfl rfl ?_
  refine r_assign (I_ 2) rfl rfl ?_
  refine R_nil0 ?_
  exact J_ret hΨ (Res_many (As := [I_ 0, I_ 0, I_ 2]) rfl rfl (.cons (.tmp (A := I_ 0) rfl) (.cons (.tmp (A := I_ 0) rfl) (.cons (.tmp (A := I_ 2) rfl) .nil)))) (fun y hy => by cases hy; rfl)
theorem k_token_whole (t0 : api_Token) (r : ByteArray × Bool) (hr : token_whole t0 = some r) : FnP PP 126 [AAgg (c_api_Token t0)] (ATup [AStr r.1, ABool r.2]) := by
  refine FnP.of mixed_ Tryz.func126 rfl (n := 39) rfl (fun (r : ByteArray × Bool) => ATup [AStr r.1, ABool r.2]) nk_args NK.nk rfl hr fun X hΨ => ?_
  refine J_seq ?_
  refine J_region rfl ?_
  refine r_boxV (AAgg (c_api_Token t0)) rfl rfl ?_
  refine r_assign (AStr (ByteArray.mk #[])) rfl rfl ?_
  refine r_assign (ABool false) rfl rfl ?_
  refine R_nil0 ?_
  refine J_seq ?_
  refine J_region rfl ?_
  refine r_faT (c_str t0.Text) fo_185_1 rfl rfl rfl ?_
  refine r_ld (AStr t0.Text) sc_9 rfl rfl rfl ?_
  refine r_assign (AStr t0.Text) rfl rfl ?_
  refine R_nil0 ?_
  refine J_seq ?_
  refine J_seq ?_
  refine J_region rfl ?_
  refine r_faT (c_i64 t0.Kind) fo_185_0 rfl rfl rfl ?_
  refine r_ld (I_ t0.Kind) sc_3 rfl rfl rfl ?_
  refine r_eql rfl rfl rfl ?_
  refine R_nil0 ?_
  apply J_joinA (fun v9 => ⟨fr [(1, APtr (c_api_Token t0)), (4, AStr v9), (11, I_ t0.Kind)], fun _ => none, 0⟩) (fun v9 => token_whole_j9 t0 v9)
  · intro K15
    refine J_cond_p rfl (fun h1 => ?_) (fun h1 => ?_)
    rotate_left
    · refine J_skip ?_
      refine J_to [(1, APtr (c_api_Token t0)), (4, AStr t0.Text), (11, I_ t0.Kind)] (.cons rfl (.cons rfl (.cons rfl .nil))) ?_
      exact K15 t0.Text
    refine J_region rfl ?_
    refine r_move (AStr t0.Text) rfl rfl ?_
    refine R_if (fun h2 => ?_) (fun _ => R_none)
    refine r_catS rfl rfl h2 rfl ?_
    refine R_if (fun h3 => ?_) (fun _ => R_none)
    refine r_catS rfl rfl h3 rfl ?_
    refine r_assign (AStr (((ByteArray.mk #[34]) ++ t0.Text) ++ (ByteArray.mk #[34]))) rfl rfl ?_
    refine R_nil0 ?_
    refine J_to [(1, APtr (c_api_Token t0)), (4, AStr (((ByteArray.mk #[34]) ++ t0.Text) ++ (ByteArray.mk #[34]))), (11, I_ t0.Kind)] (.cons rfl (.cons rfl (.cons rfl .nil))) ?_
    exact K15 (((ByteArray.mk #[34]) ++ t0.Text) ++ (ByteArray.mk #[34]))
  intro v9
  refine J_seq ?_
  refine J_seq ?_
  refine J_region rfl ?_
  refine r_move (AStr v9) rfl rfl ?_
  refine r_eqS rfl rfl rfl ?_
  refine R_nil0 ?_
  refine J_cond_p rfl (fun h10 => ?_) (fun h10 => ?_)
  · refine J_seq ?_
    refine J_region rfl ?_
    refine r_assign (AStr (ByteArray.mk #[])) rfl rfl ?_
    refine r_assign (ABool false) rfl rfl ?_
    refine R_nil0 ?_
    exact J_ret hΨ (Res_many (As := [AStr (ByteArray.mk #[]), ABool false]) rfl rfl (.cons (.tmp (A := AStr (ByteArray.mk #[])) rfl) (.cons (.tmp (A := ABool false) rfl) .nil))) (fun y hy => by cases hy; rfl)
  refine J_skip ?_
  refine J_seq ?_
  refine J_region rfl ?_
  refine r_move (AStr v9) rfl rfl ?_
  refine R_bind fun b11 h12 => ?_
  refine r_call _ fn_180 (k_token_next _ _ h12) rfl rfl ?_
  refine r_move (ATup [I_ b11.1, I_ b11.2.1, I_ b11.2.2]) rfl rfl ?_
  refine r_ext (I_ b11.1) rfl rfl rfl ?_
  refine r_ext (I_ b11.2.1) rfl rfl rfl ?_
  refine r_ext (I_ b11.2.2) rfl rfl rfl ?_
  refine r_assign (I_ b11.1) rfl rfl ?_
  refine r_assign (I_ b11.2.1) rfl rfl ?_
  refine r_assign (I_ b11.2.2) rfl rfl ?_
  refine R_nil0 ?_
  refine J_seq ?_
  refine J_region rfl ?_
  refine r_move (AStr v9) rfl rfl ?_
  refine r_move (I_ b11.2.2) rfl rfl ?_
  refine r_eql rfl rfl rfl ?_
  refine r_move (ABool (decide (b11.2.2 = 0))) rfl rfl ?_
  refine R_if (fun h13 => ?_) (fun h13 => ?_)
  rotate_left
  · refine R_skip (g_tn rfl rfl (df h13)) ?_
    refine R_skip (g_tn rfl rfl (df h13)) ?_
    refine R_skip (g_tn rfl rfl (df h13)) ?_
    refine R_skip (g_tn rfl rfl (df h13)) ?_
    refine r_pickF (ABool false) rfl (df h13) rfl rfl ?_
    refine r_move (ABool false) rfl rfl ?_
    refine R_skip (g_tn rfl rfl rfl) ?_
    refine R_skip (g_tn rfl rfl rfl) ?_
    refine R_skip (g_tn rfl rfl rfl) ?_
    refine R_skip (g_tn rfl rfl rfl) ?_
    refine r_pickF (ABool false) rfl rfl rfl rfl ?_
    refine r_assign (AStr v9) rfl rfl ?_
    refine r_assign (ABool false) rfl rfl ?_
    refine R_nil0 ?_
    exact J_ret hΨ (Res_many (As := [AStr v9, ABool false]) rfl rfl (.cons (.tmp (A := AStr v9) rfl) (.cons (.tmp (A := ABool false) rfl) .nil))) (fun y hy => by cases hy; rfl)
  refine r_move (I_ b11.1) rfl (g_t rfl rfl (dt h13)) ?_
  refine r_faT (c_i64 t0.Kind) fo_185_0 rfl rfl (g_t rfl rfl (dt h13)) ?_
  refine r_ld (I_ t0.Kind) sc_3 rfl rfl (g_t rfl rfl (dt h13)) ?_
  refine r_eql rfl rfl (g_t rfl rfl (dt h13)) ?_
  refine r_pickT (ABool (decide (b11.1 = t0.Kind))) rfl (dt h13) rfl rfl ?_
  refine r_move (ABool (decide (b11.1 = t0.Kind))) rfl rfl ?_
  refine R_if (fun h14 => ?_) (fun h14 => ?_)
  · refine r_move (I_ b11.2.1) rfl (g_t rfl rfl (dt h14)) ?_
    refine r_move (AStr v9) rfl (g_t rfl rfl (dt h14)) ?_
    refine r_lenS is_9 rfl (g_t rfl rfl (dt h14)) ?_
    refine r_eql rfl rfl (g_t rfl rfl (dt h14)) ?_
    refine r_pickT (ABool (decide (b11.2.1 = (v9.size : Int)))) rfl (dt h14) rfl rfl ?_
    refine r_assign (AStr v9) rfl rfl ?_
    refine r_assign (ABool (decide (b11.2.1 = (v9.size : Int)))) rfl rfl ?_
    refine R_nil0 ?_
    exact J_ret hΨ (Res_many (As := [AStr v9, ABool (decide (b11.2.1 = (v9.size : Int)))]) rfl rfl (.cons (.tmp (A := AStr v9) rfl) (.cons (.tmp (A := ABool (decide (b11.2.1 = (v9.size : Int)))) rfl) .nil))) (fun y hy => by cases hy; rfl)
  refine R_skip (g_tn rfl rfl (df h14)) ?_
  refine R_skip (g_tn rfl rfl (df h14)) ?_
  refine R_skip (g_tn rfl rfl (df h14)) ?_
  refine R_skip (g_tn rfl rfl (df h14)) ?_
  refine r_pickF (ABool false) rfl (df h14) rfl rfl ?_
  refine r_assign (AStr v9) rfl rfl ?_
  refine r_assign (ABool false) rfl rfl ?_
  refine R_nil0 ?_
  exact J_ret hΨ (Res_many (As := [AStr v9, ABool false]) rfl rfl (.cons (.tmp (A := AStr v9) rfl) (.cons (.tmp (A := ABool false) rfl) .nil))) (fun y hy => by cases hy; rfl)
theorem k_token_IsName (t0 : ByteArray) (r : Bool) (hr : token_IsName t0 = some r) : FnP PP 68 [AStr t0] (ABool r) := by
  refine FnP.of mixed_ Tryz.func68 rfl (n := 12) rfl (fun (r : Bool) => ABool r) nk_args NK.nk rfl hr fun X hΨ => ?_
  refine J_seq ?_
  refine J_region rfl ?_
  refine r_assign (ABool false) rfl rfl ?_
  refine R_nil0 ?_
  refine J_seq ?_
  refine J_region rfl ?_
  refine r_move (AStr t0) rfl rfl ?_
  refine r_build (c_api_Token (api_Token.mk 1 t0 0)) pl_185 z_185 (.cons (A := I_ 1) rfl po_185_0 rfl (.cons (A := AStr t0) rfl po_185_1 rfl .nil)) rfl rfl ?_
  refine R_bind fun b1 h2 => ?_
  refine r_call _ fn_126 (k_token_whole _ _ h2) rfl rfl ?_
  refine r_move (ATup [AStr b1.1, ABool b1.2]) rfl rfl ?_
  refine r_ext (AStr b1.1) rfl rfl rfl ?_
  refine r_ext (ABool b1.2) rfl rfl rfl ?_
  refine r_assign (AStr b1.1) rfl rfl ?_
  refine r_assign (ABool b1.2) rfl rfl ?_
  refine R_nil0 ?_
  refine J_seq ?_
  refine J_region rfl ?_
  refine r_move (ABool b1.2) rfl rfl ?_
  refine r_assign (ABool b1.2) rfl rfl ?_
  refine R_nil0 ?_
  exact J_ret hΨ (Res_one rfl) (fun y hy => by cases hy; rfl)
theorem k_slices_IndexFunc_api_NodeType (t0 : (List api_NodeType)) (t1 : (api_NodeType → Option Bool)) (r : Int) (hr : slices_IndexFunc_api_NodeType t0 t1 = some r) : FnP PP 228 [AL 4 c_api_NodeType t0, AFn PP (fun x => [AAgg (c_api_NodeType x)]) (fun y => ABool y) t1] (I_ r) := by
  refine FnP.of mixed_ Tryz.func228 rfl (n := 19) rfl (fun (r : Int) => I_ r) nk_args NK.nk rfl hr fun X hΨ => ?_
  refine J_seq ?_
  refine J_region rfl ?_
  refine r_assign (I_ 0) rfl rfl ?_
  refine R_nil0 ?_
  refine J_seq ?_
  refine J_seq ?_
  refine J_region rfl ?_
  refine r_move (AL 4 c_api_NodeType t0) rfl rfl ?_
  refine r_len (cc := c_api_NodeType) il_56 rfl rfl ?_
  refine r_move (I_ 0) rfl rfl ?_
  refine R_nil0 ?_
  refine J_block ?_
  refine J_to [(0, AL 4 c_api_NodeType t0), (1, AFn PP (fun x => [AAgg (c_api_NodeType x)]) (fun y => ABool y) t1), (7, I_ (t0.length : Int)), (8, I_ 0)] (.cons rfl (.cons rfl (.cons rfl (.cons rfl .nil)))) ?_
  refine J_it (fun x1 => ⟨fr [(0, AL 4 c_api_NodeType t0), (1, AFn PP (fun x => [AAgg (c_api_NodeType x)]) (fun y => ABool y) t1), (7, I_ (t0.length : Int)), (8, I_ x1)], fun _ => none, 0⟩) (fun E2 hE2 x1 => ?_) (by rfl)
  refine J_seq ?_
  refine J_region rfl ?_
  refine r_lss rfl rfl rfl ?_
  refine R_nil0 ?_
  refine J_seq ?_
  refine J_cond_p rfl (fun h8 => ?_) (fun h8 => ?_)
  rotate_left
  · refine J_exit rfl ?_
    refine J_outS ?_
    refine J_seq ?_
    refine J_region rfl ?_
    refine r_assign (I_ (-1)) rfl rfl ?_
    refine R_nil0 ?_
    exact J_ret hΨ (Res_one rfl) (fun y hy => by cases hy; rfl)
  refine J_skip ?_
  refine J_seq ?_
  refine J_block ?_
  refine J_seq ?_
  refine J_region rfl ?_
  refine r_move (I_ x1) rfl rfl ?_
  refine r_assign (I_ x1) rfl rfl ?_
  refine R_nil0 ?_
  refine J_seq ?_
  refine J_region rfl ?_
  refine r_move (AFn PP (fun x => [AAgg (c_api_NodeType x)]) (fun y => ABool y) t1) rfl rfl ?_
  refine r_move (AL 4 c_api_NodeType t0) rfl rfl ?_
  refine r_move (I_ x1) rfl rfl ?_
  refine R_if (fun h9 => ?_) (fun _ => R_none)
  refine r_ix (cc := c_api_NodeType) el_56 rfl rfl h9.1 h9.2 rfl ?_
  refine r_lda (c_api_NodeType (nth t0 x1)) ag_106 rfl rfl rfl rfl ?_
  refine R_bind fun b10 h11 => ?_
  refine r_callFn (ga := (fun x => [AAgg (c_api_NodeType x)])) (rt := (fun y => ABool y)) (gg := t1) (u := (nth t0 x1)) (w := b10) rfl rfl h11 (NK.nk) rfl ?_
  refine R_nil0 ?_
  refine J_cond rfl (fun h12 => ?_) (fun h12 => ?_)
  · refine J_seq ?_
    refine J_region rfl ?_
    refine r_move (I_ x1) rfl rfl ?_
    refine r_assign (I_ x1) rfl rfl ?_
    refine R_nil0 ?_
    refine J_outS ?_
    exact J_ret hΨ (Res_one rfl) (fun y hy => by cases hy; rfl)
  refine J_skip ?_
  refine J_inBlock ?_
  refine J_range 7 (m := (t0.length : Int)) rfl fun q13 => ?_
  refine J_range 5 (m := x1) rfl fun q14 => ?_
  refine J_region rfl ?_
  refine r_add (x1 + 1) rfl rfl (wrap_i64 (by omega) (by omega)) rfl ?_
  refine r_move (I_ (x1 + 1)) rfl rfl ?_
  refine R_nil0 ?_
  refine J_go ?_
  refine J_to [(0, AL 4 c_api_NodeType t0), (1, AFn PP (fun x => [AAgg (c_api_NodeType x)]) (fun y => ABool y) t1), (7, I_ (t0.length : Int)), (8, I_ (x1 + 1))] (.cons rfl (.cons rfl (.cons rfl (.cons rfl .nil)))) ?_
  exact hE2 (x1 + 1)
theorem k_slices_ContainsFunc_api_NodeType (t0 : (List api_NodeType)) (t1 : (api_NodeType → Option Bool)) (r : Bool) (hr : slices_ContainsFunc_api_NodeType t0 t1 = some r) : FnP PP 172 [AL 4 c_api_NodeType t0, AFn PP (fun x => [AAgg (c_api_NodeType x)]) (fun y => ABool y) t1] (ABool r) := by
  refine FnP.of mixed_ Tryz.func172 rfl (n := 9) rfl (fun (r : Bool) => ABool r) nk_args NK.nk rfl hr fun X hΨ => ?_
  refine J_seq ?_
  refine J_region rfl ?_
  refine r_assign (ABool false) rfl rfl ?_
  refine R_nil0 ?_
  refine J_seq ?_
  refine J_region rfl ?_
  refine r_move (AL 4 c_api_NodeType t0) rfl rfl ?_
  refine r_move (AFn PP (fun x => [AAgg (c_api_NodeType x)]) (fun y => ABool y) t1) rfl rfl ?_
  refine R_bind fun b1 h2 => ?_
  refine r_call _ fn_228 (k_slices_IndexFunc_api_NodeType _ _ _ h2) rfl rfl ?_
  refine r_geq rfl rfl rfl ?_
  refine r_assign (ABool (decide (0 ≤ b1))) rfl rfl ?_
  refine R_nil0 ?_
  exact J_ret hΨ (Res_one rfl) (fun y hy => by cases hy; rfl)
theorem k_types_node_1 (t0 : api_NodeType) (t1 : api_NodeType) (r : Bool) (hr : types_node_1 t0 t1 = some r) : FnP PP 173 [AAgg (c_api_NodeType t0), APtr (c_api_NodeType t1)] (ABool r) := by
  refine FnP.of mixed_ Tryz.func173 rfl (n := 9) rfl (fun (r : Bool) => ABool r) nk_args NK.nk rfl hr fun X hΨ => ?_
  refine J_seq ?_
  refine J_region rfl ?_
  refine r_boxV (AAgg (c_api_NodeType t0)) rfl rfl ?_
  refine r_assign (ABool false) rfl rfl ?_
  refine R_nil0 ?_
  refine J_seq ?_
  refine J_region rfl ?_
  refine r_faT (c_str t0.Name) fo_106_0 rfl rfl rfl ?_
  refine r_ld (AStr t0.Name) sc_9 rfl rfl rfl ?_
  refine r_faT (c_str t1.Name) fo_106_0 rfl rfl rfl ?_
  refine r_ld (AStr t1.Name) sc_9 rfl rfl rfl ?_
  refine r_eqS rfl rfl rfl ?_
  refine r_assign (ABool (decide (t0.Name = t1.Name))) rfl rfl ?_
  refine R_nil0 ?_
  exact J_ret hΨ (Res_one rfl) (fun y hy => by cases hy; rfl)
theorem k_types_attrs_b (q_types_attrs : api_Types → Int → Option (List api_Attr)) (hq_types_attrs : ∀ (t0 : api_Types) (t1 : Int) (r : (List api_Attr)), q_types_attrs t0 t1 = some r → FnK PP 174 0 [] [AAgg (c_api_Types t0), I_ t1] [(0, .row 109 4 (r.map c_api_Attr))] (AObj 0)) (t0 : api_Types) (t1 : Int) (r : (List api_Attr)) (hr : types_attrs_b q_types_attrs t0 t1 = some r) : FnK PP 174 0 [] [AAgg (c_api_Types t0), I_ t1] [(0, .row 109 4 (r.map c_api_Attr))] (AObj 0) := by
  refine FnK.of mixed_ Tryz.func174 rfl (n := 26) rfl (N0 := 0) (ins := []) (args := [AAgg (c_api_Types t0), I_ t1]) (fun (r : (List api_Attr)) => [(0, .row 109 4 (r.map c_api_Attr))]) (fun (r : (List api_Attr)) => AObj 0) (KBL.cons inferInstance (KBL.cons inferInstance (inferInstance : KBL 0 []))).kb (InsOk.spec .nil) rfl hr fun X hΨ => ?_
  refine J_seq ?_
  refine J_region rfl ?_
  refine r_boxV (AAgg (c_api_Types t0)) rfl rfl ?_
  refine r_assign (ANil) rfl rfl ?_
  refine R_nil0 ?_
  refine J_seq ?_
  refine J_region rfl ?_
  refine r_assign (ANil) rfl rfl ?_
  refine R_nil0 ?_
  refine J_seq ?_
  refine J_seq ?_
  refine J_region rfl ?_
  refine r_faT ((cL 4 c_api_NodeType) t0.Nodes) fo_59_0 rfl rfl rfl ?_
  refine r_ld (AL 4 c_api_NodeType t0.Nodes) sc_56 rfl rfl rfl ?_
  refine r_move (I_ t1) rfl rfl ?_
  refine R_if (fun h1 => ?_) (fun _ => R_none)
  refine r_ix (cc := c_api_NodeType) el_56 rfl rfl h1.1 h1.2 rfl ?_
  refine r_faT (c_i64 ((nth t0.Nodes t1).Parent)) fo_106_1 rfl rfl rfl ?_
  refine r_ld (I_ ((nth t0.Nodes t1).Parent)) sc_3 rfl rfl rfl ?_
  refine r_assign (I_ ((nth t0.Nodes t1).Parent)) rfl rfl ?_
  refine R_nil0 ?_
  refine J_seq ?_
  refine J_region rfl ?_
  refine r_move (I_ ((nth t0.Nodes t1).Parent)) rfl rfl ?_
  refine r_geq rfl rfl rfl ?_
  refine R_nil0 ?_
  apply J_joinA (fun v6 => ⟨fr [(1, I_ t1), (2, APtr (c_api_Types t0)), (5, AObj 0), (6, I_ ((nth t0.Nodes t1).Parent)), (9, I_ t1), (12, I_ ((nth t0.Nodes t1).Parent)), (13, I_ ((nth t0.Nodes t1).Parent))], hp [(0, .row 109 4 (v6.map c_api_Attr))], 1⟩) (fun v6 => types_attrs_j6 t0 t1 v6)
  · intro K8
    refine J_cond_p rfl (fun h2 => ?_) (fun h2 => ?_)
    rotate_left
    · refine J_skip ?_
      refine J_cv [] [] [0] 1 [(1, I_ t1), (2, APtr (c_api_Types t0)), (5, AObj 0), (6, I_ ((nth t0.Nodes t1).Parent)), (9, I_ t1), (12, I_ ((nth t0.Nodes t1).Parent)), (13, I_ ((nth t0.Nodes t1).Parent))] [(0, .row 109 4 ([].map c_api_Attr))] (.same rfl (.same rfl (.cons (A := ANil) rfl (.nilobj rfl rfl) (.same rfl (.same rfl (.same rfl (.same rfl .nil))))))) (.new rfl rfl .nil) rfl rfl ?_
      exact K8 []
    refine J_region rfl ?_
    refine r_lda (c_api_Types t0) ag_59 rfl rfl rfl rfl ?_
    refine r_move (I_ ((nth t0.Nodes t1).Parent)) rfl rfl ?_
    refine R_bind fun b3 h4 => ?_
    refine r_callK [] [] [] [0] 1 [] [(0, .row 109 4 (b3.map c_api_Attr))] (AObj 0) [AAgg (c_api_Types t0), I_ ((nth t0.Nodes t1).Parent)] fn_174 (hq_types_attrs _ _ _ h4) .nil rfl (.cons .same (.cons .same .nil)) .nil (.cons rfl rfl rfl rfl (.row (NKC.flat _ _)) rfl rfl .nil) (.obj rfl rfl rfl) rfl rfl rfl ?_
    refine r_assign (AObj 0) rfl rfl ?_
    refine R_nil0 ?_
    refine J_cv [] [] [] 1 [(1, I_ t1), (2, APtr (c_api_Types t0)), (5, AObj 0), (6, I_ ((nth t0.Nodes t1).Parent)), (9, I_ t1), (12, I_ ((nth t0.Nodes t1).Parent)), (13, I_ ((nth t0.Nodes t1).Parent))] [(0, .row 109 4 (b3.map c_api_Attr))] (.same rfl (.same rfl (.cons (A := AObj 0) rfl (.obj rfl rfl rfl) (.same rfl (.same rfl (.same rfl (.same rfl .nil))))))) (.cons rfl rfl rfl rfl (.row (NKC.flat _ _)) rfl rfl .nil) rfl rfl ?_
    exact K8 b3
  intro v6
  refine J_seq ?_
  refine J_region rfl ?_
  refine r_move (AObj 0) rfl rfl ?_
  refine r_faT ((cL 4 c_api_NodeType) t0.Nodes) fo_59_0 rfl rfl rfl ?_
  refine r_ld (AL 4 c_api_NodeType t0.Nodes) sc_56 rfl rfl rfl ?_
  refine r_move (I_ t1) rfl rfl ?_
  refine r_ix (cc := c_api_NodeType) el_56 rfl rfl h1.1 h1.2 rfl ?_
  refine r_faT ((cL 4 c_api_Attr) ((nth t0.Nodes t1).Attrs)) fo_106_3 rfl rfl rfl ?_
  refine r_ld (AL 4 c_api_Attr ((nth t0.Nodes t1).Attrs)) sc_104 rfl rfl rfl ?_
  refine R_if (fun h7 => ?_) (fun _ => R_none)
  refine r_app (cc := c_api_Attr) (xs := v6) (ys := (nth t0.Nodes t1).Attrs) 1 ap_104 rfl rfl rfl h7 rfl rfl rfl ?_
  refine r_assign (AObj 1) rfl rfl ?_
  refine R_nil0 ?_
  exact J_retK hΨ (Res_box rfl (.tmp (A := AObj 1) rfl)) [] [(0, 1)] [] rfl (fun y hy => by cases hy; exact ⟨(.cons rfl rfl rfl rfl (.row (NKC.flat _ _)) rfl rfl .nil), (.obj rfl rfl rfl)⟩)
theorem types_attrs_n_ok : ∀ n, (∀ (t0 : api_Types) (t1 : Int) (r : (List api_Attr)), (types_attrs_n n) t0 t1 = some r → FnK PP 174 0 [] [AAgg (c_api_Types t0), I_ t1] [(0, .row 109 4 (r.map c_api_Attr))] (AObj 0)) := by
  intro n
  induction n with
  | zero => exact (fun _ _ _ h => by cases h)
  | succ n ih => exact (fun a0 a1 r h => k_types_attrs_b _ ih a0 a1 r h)
theorem k_types_attrs (t0 : api_Types) (t1 : Int) (r : (List api_Attr)) (hr : types_attrs t0 t1 = some r) : FnK PP 174 0 [] [AAgg (c_api_Types t0), I_ t1] [(0, .row 109 4 (r.map c_api_Attr))] (AObj 0) := by
  obtain ⟨n, hn⟩ := Ev_some hr
  exact (types_attrs_n_ok n) t0 t1 r hn
theorem k_slices_IndexFunc_api_Attr (t0 : (List api_Attr)) (t1 : (api_Attr → Option Bool)) (r : Int) (hr : slices_IndexFunc_api_Attr t0 t1 = some r) : FnP PP 264 [AL 4 c_api_Attr t0, AFn PP (fun x => [AAgg (c_api_Attr x)]) (fun y => ABool y) t1] (I_ r) := by
  refine FnP.of mixed_ Tryz.func264 rfl (n := 19) rfl (fun (r : Int) => I_ r) nk_args NK.nk rfl hr fun X hΨ => ?_
  refine J_seq ?_
  refine J_region rfl ?_
  refine r_assign (I_ 0) rfl rfl ?_
  refine R_nil0 ?_
  refine J_seq ?_
  refine J_seq ?_
  refine J_region rfl ?_
  refine r_move (AL 4 c_api_Attr t0) rfl rfl ?_
  refine r_len (cc := c_api_Attr) il_104 rfl rfl ?_
  refine r_move (I_ 0) rfl rfl ?_
  refine R_nil0 ?_
  refine J_block ?_
  refine J_to [(0, AL 4 c_api_Attr t0), (1, AFn PP (fun x => [AAgg (c_api_Attr x)]) (fun y => ABool y) t1), (7, I_ (t0.length : Int)), (8, I_ 0)] (.cons rfl (.cons rfl (.cons rfl (.cons rfl .nil)))) ?_
  refine J_it (fun x1 => ⟨fr [(0, AL 4 c_api_Attr t0), (1, AFn PP (fun x => [AAgg (c_api_Attr x)]) (fun y => ABool y) t1), (7, I_ (t0.length : Int)), (8, I_ x1)], fun _ => none, 0⟩) (fun E2 hE2 x1 => ?_) (by rfl)
  refine J_seq ?_
  refine J_region rfl ?_
  refine r_lss rfl rfl rfl ?_
  refine R_nil0 ?_
  refine J_seq ?_
  refine J_cond_p rfl (fun h8 => ?_) (fun h8 => ?_)
  rotate_left
  · refine J_exit rfl ?_
    refine J_outS ?_
    refine J_seq ?_
    refine J_region rfl ?_
    refine r_assign (I_ (-1)) rfl rfl ?_
    refine R_nil0 ?_
    exact J_ret hΨ (Res_one rfl) (fun y hy => by cases hy; rfl)
  refine J_skip ?_
  refine J_seq ?_
  refine J_block ?_
  refine J_seq ?_
  refine J_region rfl ?_
  refine r_move (I_ x1) rfl rfl ?_
  refine r_assign (I_ x1) rfl rfl ?_
  refine R_nil0 ?_
  refine J_seq ?_
  refine J_region rfl ?_
  refine r_move (AFn PP (fun x => [AAgg (c_api_Attr x)]) (fun y => ABool y) t1) rfl rfl ?_
  refine r_move (AL 4 c_api_Attr t0) rfl rfl ?_
  refine r_move (I_ x1) rfl rfl ?_
  refine R_if (fun h9 => ?_) (fun _ => R_none)
  refine r_ix (cc := c_api_Attr) el_104 rfl rfl h9.1 h9.2 rfl ?_
  refine r_lda (c_api_Attr (nth t0 x1)) ag_109 rfl rfl rfl rfl ?_
  refine R_bind fun b10 h11 => ?_
  refine r_callFn (ga := (fun x => [AAgg (c_api_Attr x)])) (rt := (fun y => ABool y)) (gg := t1) (u := (nth t0 x1)) (w := b10) rfl rfl h11 (NK.nk) rfl ?_
  refine R_nil0 ?_
  refine J_cond rfl (fun h12 => ?_) (fun h12 => ?_)
  · refine J_seq ?_
    refine J_region rfl ?_
    refine r_move (I_ x1) rfl rfl ?_
    refine r_assign (I_ x1) rfl rfl ?_
    refine R_nil0 ?_
    refine J_outS ?_
    exact J_ret hΨ (Res_one rfl) (fun y hy => by cases hy; rfl)
  refine J_skip ?_
  refine J_inBlock ?_
  refine J_range 7 (m := (t0.length : Int)) rfl fun q13 => ?_
  refine J_range 5 (m := x1) rfl fun q14 => ?_
  refine J_region rfl ?_
  refine r_add (x1 + 1) rfl rfl (wrap_i64 (by omega) (by omega)) rfl ?_
  refine r_move (I_ (x1 + 1)) rfl rfl ?_
  refine R_nil0 ?_
  refine J_go ?_
  refine J_to [(0, AL 4 c_api_Attr t0), (1, AFn PP (fun x => [AAgg (c_api_Attr x)]) (fun y => ABool y) t1), (7, I_ (t0.length : Int)), (8, I_ (x1 + 1))] (.cons rfl (.cons rfl (.cons rfl (.cons rfl .nil)))) ?_
  exact hE2 (x1 + 1)
theorem k_slices_ContainsFunc_api_Attr (t0 : (List api_Attr)) (t1 : (api_Attr → Option Bool)) (r : Bool) (hr : slices_ContainsFunc_api_Attr t0 t1 = some r) : FnP PP 229 [AL 4 c_api_Attr t0, AFn PP (fun x => [AAgg (c_api_Attr x)]) (fun y => ABool y) t1] (ABool r) := by
  refine FnP.of mixed_ Tryz.func229 rfl (n := 9) rfl (fun (r : Bool) => ABool r) nk_args NK.nk rfl hr fun X hΨ => ?_
  refine J_seq ?_
  refine J_region rfl ?_
  refine r_assign (ABool false) rfl rfl ?_
  refine R_nil0 ?_
  refine J_seq ?_
  refine J_region rfl ?_
  refine r_move (AL 4 c_api_Attr t0) rfl rfl ?_
  refine r_move (AFn PP (fun x => [AAgg (c_api_Attr x)]) (fun y => ABool y) t1) rfl rfl ?_
  refine R_bind fun b1 h2 => ?_
  refine r_call _ fn_264 (k_slices_IndexFunc_api_Attr _ _ _ h2) rfl rfl ?_
  refine r_geq rfl rfl rfl ?_
  refine r_assign (ABool (decide (0 ≤ b1))) rfl rfl ?_
  refine R_nil0 ?_
  exact J_ret hΨ (Res_one rfl) (fun y hy => by cases hy; rfl)
theorem k_types_attribute_1 (t0 : api_Attr) (t1 : api_Attr) (r : Bool) (hr : types_attribute_1 t0 t1 = some r) : FnP PP 230 [AAgg (c_api_Attr t0), APtr (c_api_Attr t1)] (ABool r) := by
  refine FnP.of mixed_ Tryz.func230 rfl (n := 9) rfl (fun (r : Bool) => ABool r) nk_args NK.nk rfl hr fun X hΨ => ?_
  refine J_seq ?_
  refine J_region rfl ?_
  refine r_boxV (AAgg (c_api_Attr t0)) rfl rfl ?_
  refine r_assign (ABool false) rfl rfl ?_
  refine R_nil0 ?_
  refine J_seq ?_
  refine J_region rfl ?_
  refine r_faT (c_str t0.Name) fo_109_0 rfl rfl rfl ?_
  refine r_ld (AStr t0.Name) sc_9 rfl rfl rfl ?_
  refine r_faT (c_str t1.Name) fo_109_0 rfl rfl rfl ?_
  refine r_ld (AStr t1.Name) sc_9 rfl rfl rfl ?_
  refine r_eqS rfl rfl rfl ?_
  refine r_assign (ABool (decide (t0.Name = t1.Name))) rfl rfl ?_
  refine R_nil0 ?_
  exact J_ret hΨ (Res_one rfl) (fun y hy => by cases hy; rfl)
theorem k_types_names (t0 : (List ByteArray)) (r : Int) (hr : types_names t0 = some r) : FnP PP 231 [AL 1 c_str t0] (I_ r) := by
  refine FnP.of mixed_ Tryz.func231 rfl (n := 26) rfl (fun (r : Int) => I_ r) nk_args NK.nk rfl hr fun X hΨ => ?_
  refine J_seq ?_
  refine J_region rfl ?_
  refine r_assign (I_ 0) rfl rfl ?_
  refine R_nil0 ?_
  refine J_seq ?_
  refine J_seq ?_
  refine J_region rfl ?_
  refine r_move (AL 1 c_str t0) rfl rfl ?_
  refine r_len (cc := c_str) il_107 rfl rfl ?_
  refine r_gtr rfl rfl rfl ?_
  refine R_nil0 ?_
  refine J_cond_p rfl (fun h1 => ?_) (fun h1 => ?_)
  · refine J_seq ?_
    refine J_region rfl ?_
    refine r_assign (I_ 3) rfl rfl ?_
    refine R_nil0 ?_
    exact J_ret hΨ (Res_one rfl) (fun y hy => by cases hy; rfl)
  refine J_skip ?_
  refine J_seq ?_
  refine J_seq ?_
  refine J_region rfl ?_
  refine r_move (AL 1 c_str t0) rfl rfl ?_
  refine r_len (cc := c_str) il_107 rfl rfl ?_
  refine r_move (I_ 0) rfl rfl ?_
  refine R_nil0 ?_
  refine J_block ?_
  refine J_to [(0, AL 1 c_str t0), (2, I_ 0), (6, I_ (t0.length : Int)), (8, AL 1 c_str t0), (9, I_ (t0.length : Int)), (10, I_ 0)] (.cons rfl (.cons rfl (.cons rfl (.cons rfl (.cons rfl (.cons rfl .nil)))))) ?_
  refine J_it (fun x2 => ⟨fr [(0, AL 1 c_str t0), (2, I_ 0), (6, I_ (t0.length : Int)), (8, AL 1 c_str t0), (9, I_ (t0.length : Int)), (10, I_ x2)], fun _ => none, 0⟩) (fun E3 hE3 x2 => ?_) (by rfl)
  refine J_seq ?_
  refine J_region rfl ?_
  refine r_lss rfl rfl rfl ?_
  refine R_nil0 ?_
  refine J_seq ?_
  refine J_cond_p rfl (fun h13 => ?_) (fun h13 => ?_)
  rotate_left
  · refine J_exit rfl ?_
    refine J_outS ?_
    refine J_seq ?_
    refine J_region rfl ?_
    refine r_assign (I_ 0) rfl rfl ?_
    refine R_nil0 ?_
    exact J_ret hΨ (Res_one rfl) (fun y hy => by cases hy; rfl)
  refine J_skip ?_
  refine J_seq ?_
  refine J_block ?_
  refine J_seq ?_
  refine J_region rfl ?_
  refine r_move (I_ x2) rfl rfl ?_
  refine R_if (fun h14 => ?_) (fun _ => R_none)
  refine r_ix (cc := c_str) el_107 rfl rfl h14.1 h14.2 rfl ?_
  refine r_ld (AStr (nth t0 x2)) sc_9 rfl rfl rfl ?_
  refine r_assign (I_ x2) rfl rfl ?_
  refine r_assign (AStr (nth t0 x2)) rfl rfl ?_
  refine R_nil0 ?_
  refine J_block ?_
  refine J_seq ?_
  refine J_region rfl ?_
  refine r_move (AStr (nth t0 x2)) rfl rfl ?_
  refine R_bind fun b15 h16 => ?_
  refine r_call _ fn_68 (k_token_IsName _ _ h16) rfl rfl ?_
  refine r_not rfl rfl ?_
  refine r_assign (ABool (!b15)) rfl rfl ?_
  refine R_nil0 ?_
  refine J_cond rfl (fun h17 => ?_) (fun h17 => ?_)
  · refine J_seq ?_
    refine J_region rfl ?_
    refine r_assign (I_ 2) rfl rfl ?_
    refine R_nil0 ?_
    refine J_outS ?_
    exact J_ret hΨ (Res_one rfl) (fun y hy => by cases hy; rfl)
  refine J_seq ?_
  refine J_region rfl ?_
  refine r_move (AL 1 c_str t0) rfl rfl ?_
  refine r_move (I_ x2) rfl rfl ?_
  refine R_if (fun h18 => ?_) (fun _ => R_none)
  refine r_cut (cc := c_str) 0 x2 el_107 rfl lo_n (hi_s rfl) h18.1 h18.2.1 h18.2.2 rfl ?_
  refine r_move (AStr (nth t0 x2)) rfl rfl ?_
  refine R_bind fun b19 h20 => ?_
  refine r_call _ fn_265 (k_slices_Contains_string _ _ _ h20) rfl rfl ?_
  refine r_assign (ABool b19) rfl rfl ?_
  refine R_nil0 ?_
  refine J_cond rfl (fun h21 => ?_) (fun h21 => ?_)
  · refine J_seq ?_
    refine J_region rfl ?_
    refine r_assign (I_ 5) rfl rfl ?_
    refine R_nil0 ?_
    refine J_outS ?_
    exact J_ret hΨ (Res_one rfl) (fun y hy => by cases hy; rfl)
  refine J_skip ?_
  refine J_inBlock ?_
  refine J_inBlock ?_
  refine J_range 6 (m := (t0.length : Int)) rfl fun q22 => ?_
  refine J_range 3 (m := x2) rfl fun q23 => ?_
  refine J_region rfl ?_
  refine r_add (x2 + 1) rfl rfl (wrap_i64 (by omega) (by omega)) rfl ?_
  refine r_move (I_ (x2 + 1)) rfl rfl ?_
  refine R_nil0 ?_
  refine J_go ?_
  refine J_to [(0, AL 1 c_str t0), (2, I_ 0), (6, I_ (t0.length : Int)), (8, AL 1 c_str t0), (9, I_ (t0.length : Int)), (10, I_ (x2 + 1))] (.cons rfl (.cons rfl (.cons rfl (.cons rfl (.cons rfl (.cons rfl .nil)))))) ?_
  exact hE3 (x2 + 1)
theorem k_types_attribute (t0 : api_Attr) (t1 : (List api_Attr)) (r : Int) (hr : types_attribute t0 t1 = some r) : FnP PP 175 [AAgg (c_api_Attr t0), AL 4 c_api_Attr t1] (I_ r) := by
  refine FnP.of mixed_ Tryz.func175 rfl (n := 55) rfl (fun (r : Int) => I_ r) nk_args NK.nk rfl hr fun X hΨ => ?_
  refine J_seq ?_
  refine J_region rfl ?_
  refine r_boxV (AAgg (c_api_Attr t0)) rfl rfl ?_
  refine r_assign (I_ 0) rfl rfl ?_
  refine R_nil0 ?_
  refine J_seq ?_
  refine J_block ?_
  refine J_seq ?_
  refine J_region rfl ?_
  refine r_faT (c_str t0.Name) fo_109_0 rfl rfl rfl ?_
  refine r_ld (AStr t0.Name) sc_9 rfl rfl rfl ?_
  refine R_bind fun b1 h2 => ?_
  refine r_call _ fn_68 (k_token_IsName _ _ h2) rfl rfl ?_
  refine r_not rfl rfl ?_
  refine r_assign (ABool (!b1)) rfl rfl ?_
  refine R_nil0 ?_
  refine J_cond rfl (fun h3 => ?_) (fun h3 => ?_)
  · refine J_seq ?_
    refine J_region rfl ?_
    refine r_assign (I_ 2) rfl rfl ?_
    refine R_nil0 ?_
    exact J_ret hΨ (Res_one rfl) (fun y hy => by cases hy; rfl)
  refine J_seq ?_
  refine J_region rfl ?_
  refine r_move (AL 4 c_api_Attr t1) rfl rfl ?_
  refine r_mkFn [APtr (c_api_Attr t0)] (fun x => [AAgg (c_api_Attr x)]) (fun y => ABool y) (fun x => types_attribute_1 x t0) fn_230 rfl (fun x y h => k_types_attribute_1 x t0 y h) rfl ?_
  refine R_bind fun b4 h5 => ?_
  refine r_call _ fn_229 (k_slices_ContainsFunc_api_Attr _ _ _ h5) rfl rfl ?_
  refine r_assign (ABool b4) rfl rfl ?_
  refine R_nil0 ?_
  refine J_cond rfl (fun h6 => ?_) (fun h6 => ?_)
  · refine J_seq ?_
    refine J_region rfl ?_
    refine r_assign (I_ 5) rfl rfl ?_
    refine R_nil0 ?_
    exact J_ret hΨ (Res_one rfl) (fun y hy => by cases hy; rfl)
  refine J_skip ?_
  refine J_inBlock ?_
  refine J_seq ?_
  refine J_seq ?_
  refine J_region rfl ?_
  refine r_faT ((cL 1 c_str) t0.Names) fo_109_3 rfl rfl rfl ?_
  refine r_ld (AL 1 c_str t0.Names) sc_107 rfl rfl rfl ?_
  refine R_bind fun b7 h8 => ?_
  refine r_call _ fn_231 (k_types_names _ _ h8) rfl rfl ?_
  refine r_assign (I_ b7) rfl rfl ?_
  refine R_nil0 ?_
  refine J_seq ?_
  refine J_region rfl ?_
  refine r_move (I_ b7) rfl rfl ?_
  refine r_neq rfl rfl rfl ?_
  refine R_nil0 ?_
  refine J_cond_p rfl (fun h9 => ?_) (fun h9 => ?_)
  · refine J_seq ?_
    refine J_region rfl ?_
    refine r_move (I_ b7) rfl rfl ?_
    refine r_assign (I_ b7) rfl rfl ?_
    refine R_nil0 ?_
    exact J_ret hΨ (Res_one rfl) (fun y hy => by cases hy; rfl)
  refine J_skip ?_
  refine J_seq ?_
  apply J_joinA (fun v21 => ⟨fr [(2, APtr (c_api_Attr t0)), (4, I_ 0), (5, I_ b7), (6, ABool v21), (18, I_ b7), (19, I_ b7), (23, I_ t0.Low)], fun _ => none, 0⟩) (fun v21 => types_attribute_j21 t0 v21)
  · intro K31
    refine J_region rfl ?_
    refine r_faT (c_i64 t0.Low) fo_109_1 rfl rfl rfl ?_
    refine r_ld (I_ t0.Low) sc_3 rfl rfl rfl ?_
    refine r_leq rfl rfl rfl ?_
    refine r_move (ABool (decide ((-1000000) ≤ t0.Low))) rfl rfl ?_
    refine R_if (fun h10 => ?_) (fun h10 => ?_)
    rotate_left
    · refine R_skip (g_tn rfl rfl (df h10)) ?_
      refine R_skip (g_tn rfl rfl (df h10)) ?_
      refine R_skip (g_tn rfl rfl (df h10)) ?_
      refine R_skip (g_tn rfl rfl (df h10)) ?_
      refine R_skip (g_tn rfl rfl (df h10)) ?_
      refine r_pickF (ABool false) rfl (df h10) rfl rfl ?_
      refine r_move (ABool false) rfl rfl ?_
      refine R_skip (g_tn rfl rfl rfl) ?_
      refine R_skip (g_tn rfl rfl rfl) ?_
      refine R_skip (g_tn rfl rfl rfl) ?_
      refine r_pickF (ABool false) rfl rfl rfl rfl ?_
      refine r_assign (ABool false) rfl rfl ?_
      refine R_nil0 ?_
      refine J_to [(2, APtr (c_api_Attr t0)), (4, I_ 0), (5, I_ b7), (6, ABool false), (18, I_ b7), (19, I_ b7), (23, I_ t0.Low)] (.cons rfl (.cons rfl (.cons rfl (.cons rfl (.cons rfl (.cons rfl (.cons rfl .nil))))))) ?_
      exact K31 false
    refine r_faT (c_i64 t0.Low) fo_109_1 rfl rfl (g_t rfl rfl (dt h10)) ?_
    refine r_ld (I_ t0.Low) sc_3 rfl rfl (g_t rfl rfl (dt h10)) ?_
    refine r_faT (c_i64 t0.High) fo_109_2 rfl rfl (g_t rfl rfl (dt h10)) ?_
    refine r_ld (I_ t0.High) sc_3 rfl rfl (g_t rfl rfl (dt h10)) ?_
    refine r_leq rfl rfl (g_t rfl rfl (dt h10)) ?_
    refine r_pickT (ABool (decide (t0.Low ≤ t0.High))) rfl (dt h10) rfl rfl ?_
    refine r_move (ABool (decide (t0.Low ≤ t0.High))) rfl rfl ?_
    refine R_if (fun h11 => ?_) (fun h11 => ?_)
    · refine r_faT (c_i64 t0.High) fo_109_2 rfl rfl (g_t rfl rfl (dt h11)) ?_
      refine r_ld (I_ t0.High) sc_3 rfl rfl (g_t rfl rfl (dt h11)) ?_
      refine r_leq rfl rfl (g_t rfl rfl (dt h11)) ?_
      refine r_pickT (ABool (decide (t0.High ≤ 1000000))) rfl (dt h11) rfl rfl ?_
      refine r_assign (ABool (decide (t0.High ≤ 1000000))) rfl rfl ?_
      refine R_nil0 ?_
      refine J_to [(2, APtr (c_api_Attr t0)), (4, I_ 0), (5, I_ b7), (6, ABool (decide (t0.High ≤ 1000000))), (18, I_ b7), (19, I_ b7), (23, I_ t0.Low)] (.cons rfl (.cons rfl (.cons rfl (.cons rfl (.cons rfl (.cons rfl (.cons rfl .nil))))))) ?_
      exact K31 (decide (t0.High ≤ 1000000))
    refine R_skip (g_tn rfl rfl (df h11)) ?_
    refine R_skip (g_tn rfl rfl (df h11)) ?_
    refine R_skip (g_tn rfl rfl (df h11)) ?_
    refine r_pickF (ABool false) rfl (df h11) rfl rfl ?_
    refine r_assign (ABool false) rfl rfl ?_
    refine R_nil0 ?_
    refine J_to [(2, APtr (c_api_Attr t0)), (4, I_ 0), (5, I_ b7), (6, ABool false), (18, I_ b7), (19, I_ b7), (23, I_ t0.Low)] (.cons rfl (.cons rfl (.cons rfl (.cons rfl (.cons rfl (.cons rfl (.cons rfl .nil))))))) ?_
    exact K31 false
  intro v21
  refine J_seq ?_
  refine J_seq ?_
  refine J_region rfl ?_
  refine r_faT ((cL 1 c_str) t0.Names) fo_109_3 rfl rfl rfl ?_
  refine r_ld (AL 1 c_str t0.Names) sc_107 rfl rfl rfl ?_
  refine r_len (cc := c_str) il_107 rfl rfl ?_
  refine r_gtr rfl rfl rfl ?_
  refine R_nil0 ?_
  apply J_joinA (fun v28 => ⟨fr [(4, I_ 0), (5, I_ b7), (6, ABool v28), (18, I_ b7), (19, I_ b7), (39, I_ (t0.Names.length : Int))], fun _ => none, 0⟩) (fun v28 => types_attribute_j28 v28)
  · intro K30
    refine J_cond_p rfl (fun h22 => ?_) (fun h22 => ?_)
    rotate_left
    · refine J_skip ?_
      refine J_to [(4, I_ 0), (5, I_ b7), (6, ABool v21), (18, I_ b7), (19, I_ b7), (39, I_ (t0.Names.length : Int))] (.cons rfl (.cons rfl (.cons rfl (.cons rfl (.cons rfl (.cons rfl .nil)))))) ?_
      exact K30 v21
    apply J_joinA (fun v25 => ⟨fr [(4, I_ 0), (5, I_ b7), (6, ABool v25), (18, I_ b7), (19, I_ b7), (23, I_ t0.Low), (39, I_ (t0.Names.length : Int)), (42, I_ t0.Low)], fun _ => none, 0⟩) (fun v25 => types_attribute_j25 v25)
    · intro K26
      refine J_range 39 (m := (t0.Names.length : Int)) rfl fun q24 => ?_
      refine J_region rfl ?_
      refine r_faT (c_i64 t0.Low) fo_109_1 rfl rfl rfl ?_
      refine r_ld (I_ t0.Low) sc_3 rfl rfl rfl ?_
      refine r_eql rfl rfl rfl ?_
      refine r_move (ABool (decide (t0.Low = 0))) rfl rfl ?_
      refine R_if (fun h23 => ?_) (fun h23 => ?_)
      · refine r_faT (c_i64 t0.High) fo_109_2 rfl rfl (g_t rfl rfl (dt h23)) ?_
        refine r_ld (I_ t0.High) sc_3 rfl rfl (g_t rfl rfl (dt h23)) ?_
        refine r_faT ((cL 1 c_str) t0.Names) fo_109_3 rfl rfl (g_t rfl rfl (dt h23)) ?_
        refine r_ld (AL 1 c_str t0.Names) sc_107 rfl rfl (g_t rfl rfl (dt h23)) ?_
        refine r_len (cc := c_str) il_107 rfl (g_t rfl rfl (dt h23)) ?_
        refine r_sub ((t0.Names.length : Int) - 1) rfl rfl (wrap_i64 (by omega) (by omega)) (g_t rfl rfl (dt h23)) ?_
        refine r_eql rfl rfl (g_t rfl rfl (dt h23)) ?_
        refine r_pickT (ABool (decide (t0.High = (t0.Names.length : Int) - 1))) rfl (dt h23) rfl rfl ?_
        refine r_assign (ABool (decide (t0.High = (t0.Names.length : Int) - 1))) rfl rfl ?_
        refine R_nil0 ?_
        refine J_to [(4, I_ 0), (5, I_ b7), (6, ABool (decide (t0.High = (t0.Names.length : Int) - 1))), (18, I_ b7), (19, I_ b7), (23, I_ t0.Low), (39, I_ (t0.Names.length : Int)), (42, I_ t0.Low)] (.cons rfl (.cons rfl (.cons rfl (.cons rfl (.cons rfl (.cons rfl (.cons rfl (.cons rfl .nil)))))))) ?_
        exact K26 (decide (t0.High = (t0.Names.length : Int) - 1))
      refine R_skip (g_tn rfl rfl (df h23)) ?_
      refine R_skip (g_tn rfl rfl (df h23)) ?_
      refine R_skip (g_tn rfl rfl (df h23)) ?_
      refine R_skip (g_tn rfl rfl (df h23)) ?_
      refine R_skip (g_tn rfl rfl (df h23)) ?_
      refine R_skip (g_tn rfl rfl (df h23)) ?_
      refine R_skip (g_tn rfl rfl (df h23)) ?_
      refine r_pickF (ABool false) rfl (df h23) rfl rfl ?_
      refine r_assign (ABool false) rfl rfl ?_
      refine R_nil0 ?_
      refine J_to [(4, I_ 0), (5, I_ b7), (6, ABool false), (18, I_ b7), (19, I_ b7), (23, I_ t0.Low), (39, I_ (t0.Names.length : Int)), (42, I_ t0.Low)] (.cons rfl (.cons rfl (.cons rfl (.cons rfl (.cons rfl (.cons rfl (.cons rfl (.cons rfl .nil)))))))) ?_
      exact K26 false
    intro v25
    refine J_to [(4, I_ 0), (5, I_ b7), (6, ABool v25), (18, I_ b7), (19, I_ b7), (39, I_ (t0.Names.length : Int))] (.cons rfl (.cons rfl (.cons rfl (.cons rfl (.cons rfl (.cons rfl .nil)))))) ?_
    exact K30 v25
  intro v28
  refine J_seq ?_
  refine J_seq ?_
  refine J_region rfl ?_
  refine r_move (ABool v28) rfl rfl ?_
  refine r_not rfl rfl ?_
  refine R_nil0 ?_
  refine J_cond rfl (fun h29 => ?_) (fun h29 => ?_)
  · refine J_seq ?_
    refine J_region rfl ?_
    refine r_assign (I_ 6) rfl rfl ?_
    refine R_nil0 ?_
    exact J_ret hΨ (Res_one rfl) (fun y hy => by cases hy; rfl)
  refine J_skip ?_
  refine J_seq ?_
  refine J_region rfl ?_
  refine r_assign (I_ 0) rfl rfl ?_
  refine R_nil0 ?_
  exact J_ret hΨ (Res_one rfl) (fun y hy => by cases hy; rfl)
theorem k_types_node (t0 : api_Types) (t1 : Int) (r : Int) (hr : types_node t0 t1 = some r) : FnP PP 124 [AAgg (c_api_Types t0), I_ t1] (I_ r) := by
  refine FnP.of mixed_ Tryz.func124 rfl (n := 70) rfl (fun (r : Int) => I_ r) nk_args NK.nk rfl hr fun X hΨ => ?_
  refine J_seq ?_
  refine J_region rfl ?_
  refine r_boxV (AAgg (c_api_Types t0)) rfl rfl ?_
  refine r_assign (I_ 0) rfl rfl ?_
  refine R_nil0 ?_
  refine J_seq ?_
  refine J_region rfl ?_
  refine r_faT ((cL 4 c_api_NodeType) t0.Nodes) fo_59_0 rfl rfl rfl ?_
  refine r_ld (AL 4 c_api_NodeType t0.Nodes) sc_56 rfl rfl rfl ?_
  refine r_move (I_ t1) rfl rfl ?_
  refine R_if (fun h1 => ?_) (fun _ => R_none)
  refine r_ix (cc := c_api_NodeType) el_56 rfl rfl h1.1 h1.2 rfl ?_
  refine r_lda (c_api_NodeType (nth t0.Nodes t1)) ag_106 rfl rfl rfl rfl ?_
  refine r_alloc 0 _ z_106 rfl rfl ?_
  refine r_stO (AObj 0) (AAgg (c_api_NodeType (nth t0.Nodes t1))) (c_api_NodeType (nth t0.Nodes t1)) sz_106 rfl .obj rfl rfl rfl rfl rfl rfl ?_
  refine R_nil0 ?_
  refine J_seq ?_
  refine J_block ?_
  refine J_seq ?_
  refine J_region rfl ?_
  refine r_faO (AObj 0) 0 fo_106_0 rfl .obj rfl rfl rfl ?_
  refine r_ldO (ABoxAt 0 0) (AStr ((nth t0.Nodes t1).Name)) sc_9 rfl .at rfl rfl rfl ?_
  refine R_bind fun b2 h3 => ?_
  refine r_call _ fn_68 (k_token_IsName _ _ h3) rfl rfl ?_
  refine r_not rfl rfl ?_
  refine r_assign (ABool (!b2)) rfl rfl ?_
  refine R_nil0 ?_
  refine J_cond rfl (fun h4 => ?_) (fun h4 => ?_)
  · refine J_seq ?_
    refine J_region rfl ?_
    refine r_assign (I_ 2) rfl rfl ?_
    refine R_nil0 ?_
    exact J_ret hΨ (Res_one rfl) (fun y hy => by cases hy; rfl)
  refine J_seq ?_
  refine J_cv [0] [] [] 0 [(1, I_ t1), (2, APtr (c_api_Types t0)), (4, I_ 0), (5, APtr (c_api_NodeType (nth t0.Nodes t1))), (11, I_ t1)] [] (.same rfl (.same rfl (.same rfl (.cons (A := AObj 0) rfl (.fbox rfl rfl (.cons .same (.cons .same (.cons .same (.cons .same .nil))))) (.same rfl .nil))))) .nil rfl rfl ?_
  refine J_region rfl ?_
  refine r_faT ((cL 4 c_api_NodeType) t0.Nodes) fo_59_0 rfl rfl rfl ?_
  refine r_ld (AL 4 c_api_NodeType t0.Nodes) sc_56 rfl rfl rfl ?_
  refine r_move (I_ t1) rfl rfl ?_
  refine R_if (fun h6 => ?_) (fun _ => R_none)
  refine r_cut (cc := c_api_NodeType) 0 t1 el_56 rfl lo_n (hi_s rfl) h6.1 h6.2.1 h6.2.2 rfl ?_
  refine r_mkFn [APtr (c_api_NodeType (nth t0.Nodes t1))] (fun x => [AAgg (c_api_NodeType x)]) (fun y => ABool y) (fun x => types_node_1 x (nth t0.Nodes t1)) fn_173 rfl (fun x y h => k_types_node_1 x (nth t0.Nodes t1) y h) rfl ?_
  refine R_bind fun b7 h8 => ?_
  refine r_call _ fn_172 (k_slices_ContainsFunc_api_NodeType _ _ _ h8) rfl rfl ?_
  refine r_assign (ABool b7) rfl rfl ?_
  refine R_nil0 ?_
  refine J_cond rfl (fun h9 => ?_) (fun h9 => ?_)
  · refine J_seq ?_
    refine J_region rfl ?_
    refine r_assign (I_ 5) rfl rfl ?_
    refine R_nil0 ?_
    exact J_ret hΨ (Res_one rfl) (fun y hy => by cases hy; rfl)
  refine J_seq ?_
  refine J_region rfl ?_
  refine r_faT (c_i64 ((nth t0.Nodes t1).Parent)) fo_106_1 rfl rfl rfl ?_
  refine r_ld (I_ ((nth t0.Nodes t1).Parent)) sc_3 rfl rfl rfl ?_
  refine r_lss rfl rfl rfl ?_
  refine r_move (ABool (decide ((nth t0.Nodes t1).Parent < (-1)))) rfl rfl ?_
  refine R_if (fun h10 => ?_) (fun h10 => ?_)
  · refine R_skip (g_fn rfl rfl (dt h10)) ?_
    refine R_skip (g_fn rfl rfl (dt h10)) ?_
    refine R_skip (g_fn rfl rfl (dt h10)) ?_
    refine R_skip (g_fn rfl rfl (dt h10)) ?_
    refine r_pickT (ABool true) rfl (dt h10) rfl rfl ?_
    refine r_assign (ABool true) rfl rfl ?_
    refine R_nil0 ?_
    refine J_cond_T rfl rfl ?_
    refine J_seq ?_
    refine J_region rfl ?_
    refine r_assign (I_ 6) rfl rfl ?_
    refine R_nil0 ?_
    exact J_ret hΨ (Res_one rfl) (fun y hy => by cases hy; rfl)
  refine r_faT (c_i64 ((nth t0.Nodes t1).Parent)) fo_106_1 rfl rfl (g_f rfl rfl (df h10)) ?_
  refine r_ld (I_ ((nth t0.Nodes t1).Parent)) sc_3 rfl rfl (g_f rfl rfl (df h10)) ?_
  refine r_move (I_ t1) rfl (g_f rfl rfl (df h10)) ?_
  refine r_geq rfl rfl (g_f rfl rfl (df h10)) ?_
  refine r_pickF (ABool (decide (t1 ≤ (nth t0.Nodes t1).Parent))) rfl (df h10) rfl rfl ?_
  refine r_assign (ABool (decide (t1 ≤ (nth t0.Nodes t1).Parent))) rfl rfl ?_
  refine R_nil0 ?_
  refine J_cond_p rfl (fun h11 => ?_) (fun h11 => ?_)
  · refine J_seq ?_
    refine J_region rfl ?_
    refine r_assign (I_ 6) rfl rfl ?_
    refine R_nil0 ?_
    exact J_ret hΨ (Res_one rfl) (fun y hy => by cases hy; rfl)
  refine J_seq ?_
  refine J_region rfl ?_
  refine r_faT ((cL 4 c_api_Attr) ((nth t0.Nodes t1).Attrs)) fo_106_3 rfl rfl rfl ?_
  refine r_ld (AL 4 c_api_Attr ((nth t0.Nodes t1).Attrs)) sc_104 rfl rfl rfl ?_
  refine r_len (cc := c_api_Attr) il_104 rfl rfl ?_
  refine r_gtr rfl rfl rfl ?_
  refine r_assign (ABool (decide (4 < (((nth t0.Nodes t1).Attrs).length : Int)))) rfl rfl ?_
  refine R_nil0 ?_
  refine J_cond_p rfl (fun h12 => ?_) (fun h12 => ?_)
  · refine J_seq ?_
    refine J_region rfl ?_
    refine r_assign (I_ 3) rfl rfl ?_
    refine R_nil0 ?_
    exact J_ret hΨ (Res_one rfl) (fun y hy => by cases hy; rfl)
  refine J_skip ?_
  refine J_inBlock ?_
  refine J_seq ?_
  refine J_region rfl ?_
  refine r_lda (c_api_Types t0) ag_59 rfl rfl rfl rfl ?_
  refine r_move (I_ t1) rfl rfl ?_
  refine R_bind fun b13 h14 => ?_
  refine r_call _ fn_174 (FnK.toP (r' := AL 4 c_api_Attr b13) (k_types_attrs _ _ _ h14) (.frow rfl rfl (NKC.flat _ _))) rfl rfl ?_
  refine r_assign (AL 4 c_api_Attr b13) rfl rfl ?_
  refine R_nil0 ?_
  refine J_seq ?_
  refine J_seq ?_
  refine J_region rfl ?_
  refine r_move (AL 4 c_api_Attr b13) rfl rfl ?_
  refine r_len (cc := c_api_Attr) il_104 rfl rfl ?_
  refine r_gtr rfl rfl rfl ?_
  refine R_nil0 ?_
  refine J_cond_p rfl (fun h15 => ?_) (fun h15 => ?_)
  · refine J_seq ?_
    refine J_region rfl ?_
    refine r_assign (I_ 3) rfl rfl ?_
    refine R_nil0 ?_
    exact J_ret hΨ (Res_one rfl) (fun y hy => by cases hy; rfl)
  refine J_skip ?_
  refine J_seq ?_
  refine J_seq ?_
  refine J_region rfl ?_
  refine r_move (AL 4 c_api_Attr b13) rfl rfl ?_
  refine r_len (cc := c_api_Attr) il_104 rfl rfl ?_
  refine r_faT ((cL 4 c_api_Attr) ((nth t0.Nodes t1).Attrs)) fo_106_3 rfl rfl rfl ?_
  refine r_ld (AL 4 c_api_Attr ((nth t0.Nodes t1).Attrs)) sc_104 rfl rfl rfl ?_
  refine r_len (cc := c_api_Attr) il_104 rfl rfl ?_
  refine R_bind fun b16 h17 => ?_
  refine r_sub b16 rfl rfl (Option.some.inj h17) rfl ?_
  refine r_assign (I_ b16) rfl rfl ?_
  refine R_nil0 ?_
  refine J_block ?_
  refine J_cv [] [] [] 0 [(1, I_ t1), (4, I_ 0), (6, AL 4 c_api_Attr b13), (7, I_ b16), (11, I_ t1), (22, I_ t1), (28, I_ ((nth t0.Nodes t1).Parent)), (32, I_ ((nth t0.Nodes t1).Parent)), (33, I_ t1), (39, I_ (((nth t0.Nodes t1).Attrs).length : Int)), (42, I_ t1), (45, I_ (b13.length : Int)), (48, I_ (b13.length : Int)), (51, I_ (((nth t0.Nodes t1).Attrs).length : Int))] [] (.same rfl (.same rfl (.same rfl (.same rfl (.same rfl (.same rfl (.same rfl (.same rfl (.same rfl (.same rfl (.same rfl (.same rfl (.same rfl (.same rfl .nil)))))))))))))) .nil rfl rfl ?_
  refine J_it (fun x18 => ⟨fr [(1, I_ t1), (4, I_ 0), (6, AL 4 c_api_Attr b13), (7, I_ x18), (11, I_ t1), (22, I_ t1), (28, I_ ((nth t0.Nodes t1).Parent)), (32, I_ ((nth t0.Nodes t1).Parent)), (33, I_ t1), (39, I_ (((nth t0.Nodes t1).Attrs).length : Int)), (42, I_ t1), (45, I_ (b13.length : Int)), (48, I_ (b13.length : Int)), (51, I_ (((nth t0.Nodes t1).Attrs).length : Int))], hp [], 0⟩) (fun E19 hE19 x18 => ?_) (by rfl)
  refine J_seq ?_
  refine J_seq ?_
  refine J_region rfl ?_
  refine r_move (I_ x18) rfl rfl ?_
  refine r_move (AL 4 c_api_Attr b13) rfl rfl ?_
  refine r_len (cc := c_api_Attr) il_104 rfl rfl ?_
  refine r_lss rfl rfl rfl ?_
  refine R_nil0 ?_
  refine J_cond_p rfl (fun h28 => ?_) (fun h28 => ?_)
  rotate_left
  · refine J_exit rfl ?_
    refine J_outS ?_
    refine J_seq ?_
    refine J_region rfl ?_
    refine r_assign (I_ 0) rfl rfl ?_
    refine R_nil0 ?_
    exact J_ret hΨ (Res_one rfl) (fun y hy => by cases hy; rfl)
  refine J_skip ?_
  refine J_seq ?_
  refine J_block ?_
  refine J_seq ?_
  refine J_draw ?_
  refine r_move (AL 4 c_api_Attr b13) rfl rfl ?_
  refine r_move (I_ x18) rfl rfl ?_
  refine R_if (fun h29 => ?_) (fun _ => R_none)
  refine r_ix (cc := c_api_Attr) el_104 rfl rfl h29.1 h29.2 rfl ?_
  refine r_lda (c_api_Attr (nth b13 x18)) ag_109 rfl rfl rfl rfl ?_
  refine r_move (AL 4 c_api_Attr b13) rfl rfl ?_
  refine r_move (I_ x18) rfl rfl ?_
  refine R_if (fun h30 => ?_) (fun _ => R_none)
  refine r_cut (cc := c_api_Attr) 0 x18 el_104 rfl lo_n (hi_s rfl) h30.1 h30.2.1 h30.2.2 rfl ?_
  refine R_bind fun b31 h32 => ?_
  refine r_call _ fn_175 (k_types_attribute _ _ _ h32) rfl rfl ?_
  refine r_assign (I_ b31) rfl rfl ?_
  refine R_nilD rfl ?_
  refine J_seq ?_
  refine J_region rfl ?_
  refine r_move (I_ b31) rfl rfl ?_
  refine r_neq rfl rfl rfl ?_
  refine R_nil0 ?_
  refine J_cond_p rfl (fun h33 => ?_) (fun h33 => ?_)
  · refine J_seq ?_
    refine J_region rfl ?_
    refine r_move (I_ b31) rfl rfl ?_
    refine r_assign (I_ b31) rfl rfl ?_
    refine R_nil0 ?_
    refine J_outS ?_
    exact J_ret hΨ (Res_one rfl) (fun y hy => by cases hy; rfl)
  refine J_skip ?_
  refine J_inBlock ?_
  refine J_range 45 (m := (b13.length : Int)) rfl fun q34 => ?_
  refine J_range 7 (m := x18) rfl fun q35 => ?_
  refine J_region rfl ?_
  refine r_move (I_ x18) rfl rfl ?_
  refine r_add (x18 + 1) rfl rfl (wrap_i64 (by omega) (by omega)) rfl ?_
  refine r_assign (I_ (x18 + 1)) rfl rfl ?_
  refine R_nil0 ?_
  refine J_go ?_
  refine J_cv [] [] [] 0 [(1, I_ t1), (4, I_ 0), (6, AL 4 c_api_Attr b13), (7, I_ (x18 + 1)), (11, I_ t1), (22, I_ t1), (28, I_ ((nth t0.Nodes t1).Parent)), (32, I_ ((nth t0.Nodes t1).Parent)), (33, I_ t1), (39, I_ (((nth t0.Nodes t1).Attrs).length : Int)), (42, I_ t1), (45, I_ (b13.length : Int)), (48, I_ (b13.length : Int)), (51, I_ (((nth t0.Nodes t1).Attrs).length : Int))] [] (.same rfl (.same rfl (.same rfl (.same rfl (.same rfl (.same rfl (.same rfl (.same rfl (.same rfl (.same rfl (.same rfl (.same rfl (.same rfl (.same rfl .nil)))))))))))))) .nil rfl rfl ?_
  exact hE19 (x18 + 1)
theorem k_types_edge_1 (t0 : Int) (t1 : api_Types) (r : Bool) (hr : types_edge_1 t0 t1 = some r) : FnP PP 176 [I_ t0, APtr (c_api_Types t1)] (ABool r) := by
  refine FnP.of mixed_ Tryz.func176 rfl (n := 13) rfl (fun (r : Bool) => ABool r) nk_args NK.nk rfl hr fun X hΨ => ?_
  refine J_seq ?_
  refine J_region rfl ?_
  refine r_assign (ABool false) rfl rfl ?_
  refine R_nil0 ?_
  refine J_seq ?_
  refine J_region rfl ?_
  refine r_move (I_ t0) rfl rfl ?_
  refine r_geq rfl rfl rfl ?_
  refine r_move (ABool (decide (0 ≤ t0))) rfl rfl ?_
  refine R_if (fun h1 => ?_) (fun h1 => ?_)
  · refine r_move (I_ t0) rfl (g_t rfl rfl (dt h1)) ?_
    refine r_faT ((cL 4 c_api_NodeType) t1.Nodes) fo_59_0 rfl rfl (g_t rfl rfl (dt h1)) ?_
    refine r_ld (AL 4 c_api_NodeType t1.Nodes) sc_56 rfl rfl (g_t rfl rfl (dt h1)) ?_
    refine r_len (cc := c_api_NodeType) il_56 rfl (g_t rfl rfl (dt h1)) ?_
    refine r_lss rfl rfl (g_t rfl rfl (dt h1)) ?_
    refine r_pickT (ABool (decide (t0 < (t1.Nodes.length : Int)))) rfl (dt h1) rfl rfl ?_
    refine r_assign (ABool (decide (t0 < (t1.Nodes.length : Int)))) rfl rfl ?_
    refine R_nil0 ?_
    exact J_ret hΨ (Res_one rfl) (fun y hy => by cases hy; rfl)
  refine R_skip (g_tn rfl rfl (df h1)) ?_
  refine R_skip (g_tn rfl rfl (df h1)) ?_
  refine R_skip (g_tn rfl rfl (df h1)) ?_
  refine R_skip (g_tn rfl rfl (df h1)) ?_
  refine R_skip (g_tn rfl rfl (df h1)) ?_
  refine r_pickF (ABool false) rfl (df h1) rfl rfl ?_
  refine r_assign (ABool false) rfl rfl ?_
  refine R_nil0 ?_
  exact J_ret hΨ (Res_one rfl) (fun y hy => by cases hy; rfl)
theorem k_slices_IndexFunc_api_EdgeType (t0 : (List api_EdgeType)) (t1 : (api_EdgeType → Option Bool)) (r : Int) (hr : slices_IndexFunc_api_EdgeType t0 t1 = some r) : FnP PP 232 [AL 7 c_api_EdgeType t0, AFn PP (fun x => [AAgg (c_api_EdgeType x)]) (fun y => ABool y) t1] (I_ r) := by
  refine FnP.of mixed_ Tryz.func232 rfl (n := 19) rfl (fun (r : Int) => I_ r) nk_args NK.nk rfl hr fun X hΨ => ?_
  refine J_seq ?_
  refine J_region rfl ?_
  refine r_assign (I_ 0) rfl rfl ?_
  refine R_nil0 ?_
  refine J_seq ?_
  refine J_seq ?_
  refine J_region rfl ?_
  refine r_move (AL 7 c_api_EdgeType t0) rfl rfl ?_
  refine r_len (cc := c_api_EdgeType) il_57 rfl rfl ?_
  refine r_move (I_ 0) rfl rfl ?_
  refine R_nil0 ?_
  refine J_block ?_
  refine J_to [(0, AL 7 c_api_EdgeType t0), (1, AFn PP (fun x => [AAgg (c_api_EdgeType x)]) (fun y => ABool y) t1), (7, I_ (t0.length : Int)), (8, I_ 0)] (.cons rfl (.cons rfl (.cons rfl (.cons rfl .nil)))) ?_
  refine J_it (fun x1 => ⟨fr [(0, AL 7 c_api_EdgeType t0), (1, AFn PP (fun x => [AAgg (c_api_EdgeType x)]) (fun y => ABool y) t1), (7, I_ (t0.length : Int)), (8, I_ x1)], fun _ => none, 0⟩) (fun E2 hE2 x1 => ?_) (by rfl)
  refine J_seq ?_
  refine J_region rfl ?_
  refine r_lss rfl rfl rfl ?_
  refine R_nil0 ?_
  refine J_seq ?_
  refine J_cond_p rfl (fun h8 => ?_) (fun h8 => ?_)
  rotate_left
  · refine J_exit rfl ?_
    refine J_outS ?_
    refine J_seq ?_
    refine J_region rfl ?_
    refine r_assign (I_ (-1)) rfl rfl ?_
    refine R_nil0 ?_
    exact J_ret hΨ (Res_one rfl) (fun y hy => by cases hy; rfl)
  refine J_skip ?_
  refine J_seq ?_
  refine J_block ?_
  refine J_seq ?_
  refine J_region rfl ?_
  refine r_move (I_ x1) rfl rfl ?_
  refine r_assign (I_ x1) rfl rfl ?_
  refine R_nil0 ?_
  refine J_seq ?_
  refine J_region rfl ?_
  refine r_move (AFn PP (fun x => [AAgg (c_api_EdgeType x)]) (fun y => ABool y) t1) rfl rfl ?_
  refine r_move (AL 7 c_api_EdgeType t0) rfl rfl ?_
  refine r_move (I_ x1) rfl rfl ?_
  refine R_if (fun h9 => ?_) (fun _ => R_none)
  refine r_ix (cc := c_api_EdgeType) el_57 rfl rfl h9.1 h9.2 rfl ?_
  refine r_lda (c_api_EdgeType (nth t0 x1)) ag_111 rfl rfl rfl rfl ?_
  refine R_bind fun b10 h11 => ?_
  refine r_callFn (ga := (fun x => [AAgg (c_api_EdgeType x)])) (rt := (fun y => ABool y)) (gg := t1) (u := (nth t0 x1)) (w := b10) rfl rfl h11 (NK.nk) rfl ?_
  refine R_nil0 ?_
  refine J_cond rfl (fun h12 => ?_) (fun h12 => ?_)
  · refine J_seq ?_
    refine J_region rfl ?_
    refine r_move (I_ x1) rfl rfl ?_
    refine r_assign (I_ x1) rfl rfl ?_
    refine R_nil0 ?_
    refine J_outS ?_
    exact J_ret hΨ (Res_one rfl) (fun y hy => by cases hy; rfl)
  refine J_skip ?_
  refine J_inBlock ?_
  refine J_range 7 (m := (t0.length : Int)) rfl fun q13 => ?_
  refine J_range 5 (m := x1) rfl fun q14 => ?_
  refine J_region rfl ?_
  refine r_add (x1 + 1) rfl rfl (wrap_i64 (by omega) (by omega)) rfl ?_
  refine r_move (I_ (x1 + 1)) rfl rfl ?_
  refine R_nil0 ?_
  refine J_go ?_
  refine J_to [(0, AL 7 c_api_EdgeType t0), (1, AFn PP (fun x => [AAgg (c_api_EdgeType x)]) (fun y => ABool y) t1), (7, I_ (t0.length : Int)), (8, I_ (x1 + 1))] (.cons rfl (.cons rfl (.cons rfl (.cons rfl .nil)))) ?_
  exact hE2 (x1 + 1)
theorem k_slices_ContainsFunc_api_EdgeType (t0 : (List api_EdgeType)) (t1 : (api_EdgeType → Option Bool)) (r : Bool) (hr : slices_ContainsFunc_api_EdgeType t0 t1 = some r) : FnP PP 177 [AL 7 c_api_EdgeType t0, AFn PP (fun x => [AAgg (c_api_EdgeType x)]) (fun y => ABool y) t1] (ABool r) := by
  refine FnP.of mixed_ Tryz.func177 rfl (n := 9) rfl (fun (r : Bool) => ABool r) nk_args NK.nk rfl hr fun X hΨ => ?_
  refine J_seq ?_
  refine J_region rfl ?_
  refine r_assign (ABool false) rfl rfl ?_
  refine R_nil0 ?_
  refine J_seq ?_
  refine J_region rfl ?_
  refine r_move (AL 7 c_api_EdgeType t0) rfl rfl ?_
  refine r_move (AFn PP (fun x => [AAgg (c_api_EdgeType x)]) (fun y => ABool y) t1) rfl rfl ?_
  refine R_bind fun b1 h2 => ?_
  refine r_call _ fn_232 (k_slices_IndexFunc_api_EdgeType _ _ _ h2) rfl rfl ?_
  refine r_geq rfl rfl rfl ?_
  refine r_assign (ABool (decide (0 ≤ b1))) rfl rfl ?_
  refine R_nil0 ?_
  exact J_ret hΨ (Res_one rfl) (fun y hy => by cases hy; rfl)
theorem k_types_edge_2 (t0 : api_EdgeType) (t1 : api_EdgeType) (r : Bool) (hr : types_edge_2 t0 t1 = some r) : FnP PP 178 [AAgg (c_api_EdgeType t0), APtr (c_api_EdgeType t1)] (ABool r) := by
  refine FnP.of mixed_ Tryz.func178 rfl (n := 9) rfl (fun (r : Bool) => ABool r) nk_args NK.nk rfl hr fun X hΨ => ?_
  refine J_seq ?_
  refine J_region rfl ?_
  refine r_boxV (AAgg (c_api_EdgeType t0)) rfl rfl ?_
  refine r_assign (ABool false) rfl rfl ?_
  refine R_nil0 ?_
  refine J_seq ?_
  refine J_region rfl ?_
  refine r_faT (c_str t0.Name) fo_111_0 rfl rfl rfl ?_
  refine r_ld (AStr t0.Name) sc_9 rfl rfl rfl ?_
  refine r_faT (c_str t1.Name) fo_111_0 rfl rfl rfl ?_
  refine r_ld (AStr t1.Name) sc_9 rfl rfl rfl ?_
  refine r_eqS rfl rfl rfl ?_
  refine r_assign (ABool (decide (t0.Name = t1.Name))) rfl rfl ?_
  refine R_nil0 ?_
  exact J_ret hΨ (Res_one rfl) (fun y hy => by cases hy; rfl)
theorem k_types_bounded (t0 : Int) (t1 : Int) (r : Bool) (hr : types_bounded t0 t1 = some r) : FnP PP 179 [I_ t0, I_ t1] (ABool r) := by
  refine FnP.of mixed_ Tryz.func179 rfl (n := 24) rfl (fun (r : Bool) => ABool r) nk_args NK.nk rfl hr fun X hΨ => ?_
  refine J_seq ?_
  refine J_region rfl ?_
  refine r_assign (ABool false) rfl rfl ?_
  refine R_nil0 ?_
  refine J_seq ?_
  refine J_region rfl ?_
  refine r_move (I_ t0) rfl rfl ?_
  refine r_geq rfl rfl rfl ?_
  refine r_move (ABool (decide (0 ≤ t0))) rfl rfl ?_
  refine R_if (fun h1 => ?_) (fun h1 => ?_)
  rotate_left
  · refine R_skip (g_tn rfl rfl (df h1)) ?_
    refine R_skip (g_tn rfl rfl (df h1)) ?_
    refine r_pickF (ABool false) rfl (df h1) rfl rfl ?_
    refine r_move (ABool false) rfl rfl ?_
    refine R_skip (g_tn rfl rfl rfl) ?_
    refine R_skip (g_tn rfl rfl rfl) ?_
    refine R_skip (g_tn rfl rfl rfl) ?_
    refine R_skip (g_u rfl rfl) ?_
    refine R_skip (g_u rfl rfl) ?_
    refine R_skip (g_u rfl rfl) ?_
    refine R_skip (g_u rfl rfl) ?_
    refine R_skip (g_u rfl rfl) ?_
    refine R_skip (g_u rfl rfl) ?_
    refine R_skip (g_u rfl rfl) ?_
    refine R_skip (g_tn rfl rfl rfl) ?_
    refine r_pickF (ABool false) rfl rfl rfl rfl ?_
    refine r_assign (ABool false) rfl rfl ?_
    refine R_nil0 ?_
    exact J_ret hΨ (Res_one rfl) (fun y hy => by cases hy; rfl)
  refine r_move (I_ t0) rfl (g_t rfl rfl (dt h1)) ?_
  refine r_leq rfl rfl (g_t rfl rfl (dt h1)) ?_
  refine r_pickT (ABool (decide (t0 ≤ 40))) rfl (dt h1) rfl rfl ?_
  refine r_move (ABool (decide (t0 ≤ 40))) rfl rfl ?_
  refine R_if (fun h2 => ?_) (fun h2 => ?_)
  rotate_left
  · refine R_skip (g_tn rfl rfl (df h2)) ?_
    refine R_skip (g_tn rfl rfl (df h2)) ?_
    refine R_skip (g_tn rfl rfl (df h2)) ?_
    refine R_skip (g_u rfl rfl) ?_
    refine R_skip (g_u rfl rfl) ?_
    refine R_skip (g_u rfl rfl) ?_
    refine R_skip (g_u rfl rfl) ?_
    refine R_skip (g_u rfl rfl) ?_
    refine R_skip (g_u rfl rfl) ?_
    refine R_skip (g_u rfl rfl) ?_
    refine R_skip (g_tn rfl rfl (df h2)) ?_
    refine r_pickF (ABool false) rfl (df h2) rfl rfl ?_
    refine r_assign (ABool false) rfl rfl ?_
    refine R_nil0 ?_
    exact J_ret hΨ (Res_one rfl) (fun y hy => by cases hy; rfl)
  refine r_move (I_ t1) rfl (g_t rfl rfl (dt h2)) ?_
  refine r_eql rfl rfl (g_t rfl rfl (dt h2)) ?_
  refine r_move (ABool (decide (t1 = (-1)))) rfl (g_t rfl rfl (dt h2)) ?_
  refine R_if (fun h3 => ?_) (fun h3 => ?_)
  · refine R_skip (g_fn rfl rfl (dt h3)) ?_
    refine R_skip (g_fn rfl rfl (dt h3)) ?_
    refine R_skip (g_fn rfl rfl (dt h3)) ?_
    refine R_skip (g_fn rfl rfl (dt h3)) ?_
    refine R_skip (g_u rfl rfl) ?_
    refine R_skip (g_u rfl rfl) ?_
    refine R_skip (g_fn rfl rfl (dt h3)) ?_
    refine r_pickT (ABool true) rfl (dt h3) rfl (g_t rfl rfl (dt h2)) ?_
    refine r_pickT (ABool true) rfl (dt h2) rfl rfl ?_
    refine r_assign (ABool true) rfl rfl ?_
    refine R_nil0 ?_
    exact J_ret hΨ (Res_one rfl) (fun y hy => by cases hy; rfl)
  refine r_move (I_ t1) rfl (g_f rfl rfl (df h3)) ?_
  refine r_move (I_ t0) rfl (g_f rfl rfl (df h3)) ?_
  refine r_geq rfl rfl (g_f rfl rfl (df h3)) ?_
  refine r_move (ABool (decide (t0 ≤ t1))) rfl (g_f rfl rfl (df h3)) ?_
  refine R_if (fun h4 => ?_) (fun h4 => ?_)
  · refine r_move (I_ t1) rfl (g_t rfl rfl (dt h4)) ?_
    refine r_leq rfl rfl (g_t rfl rfl (dt h4)) ?_
    refine r_pickT (ABool (decide (t1 ≤ 40))) rfl (dt h4) rfl (g_f rfl rfl (df h3)) ?_
    refine r_pickF (ABool (decide (t1 ≤ 40))) rfl (df h3) rfl (g_t rfl rfl (dt h2)) ?_
    refine r_pickT (ABool (decide (t1 ≤ 40))) rfl (dt h2) rfl rfl ?_
    refine r_assign (ABool (decide (t1 ≤ 40))) rfl rfl ?_
    refine R_nil0 ?_
    exact J_ret hΨ (Res_one rfl) (fun y hy => by cases hy; rfl)
  refine R_skip (g_tn rfl rfl (df h4)) ?_
  refine R_skip (g_tn rfl rfl (df h4)) ?_
  refine r_pickF (ABool false) rfl (df h4) rfl (g_f rfl rfl (df h3)) ?_
  refine r_pickF (ABool false) rfl (df h3) rfl (g_t rfl rfl (dt h2)) ?_
  refine r_pickT (ABool false) rfl (dt h2) rfl rfl ?_
  refine r_assign (ABool false) rfl rfl ?_
  refine R_nil0 ?_
  exact J_ret hΨ (Res_one rfl) (fun y hy => by cases hy; rfl)
theorem k_types_edge (t0 : api_Types) (t1 : Int) (r : Int) (hr : types_edge t0 t1 = some r) : FnP PP 125 [AAgg (c_api_Types t0), I_ t1] (I_ r) := by
  refine FnP.of mixed_ Tryz.func125 rfl (n := 52) rfl (fun (r : Int) => I_ r) nk_args NK.nk rfl hr fun X hΨ => ?_
  refine J_seq ?_
  refine J_region rfl ?_
  refine r_boxV (AAgg (c_api_Types t0)) rfl rfl ?_
  refine r_assign (I_ 0) rfl rfl ?_
  refine R_nil0 ?_
  refine J_seq ?_
  refine J_region rfl ?_
  refine r_faT ((cL 7 c_api_EdgeType) t0.Edges) fo_59_1 rfl rfl rfl ?_
  refine r_ld (AL 7 c_api_EdgeType t0.Edges) sc_57 rfl rfl rfl ?_
  refine r_move (I_ t1) rfl rfl ?_
  refine R_if (fun h1 => ?_) (fun _ => R_none)
  refine r_ix (cc := c_api_EdgeType) el_57 rfl rfl h1.1 h1.2 rfl ?_
  refine r_lda (c_api_EdgeType (nth t0.Edges t1)) ag_111 rfl rfl rfl rfl ?_
  refine r_alloc 0 _ z_111 rfl rfl ?_
  refine r_stO (AObj 0) (AAgg (c_api_EdgeType (nth t0.Edges t1))) (c_api_EdgeType (nth t0.Edges t1)) sz_111 rfl .obj rfl rfl rfl rfl rfl rfl ?_
  refine R_nil0 ?_
  refine J_seq ?_
  refine J_region rfl ?_
  refine r_mkFn [APtr (c_api_Types t0)] (fun x => [I_ x]) (fun y => ABool y) (fun x => types_edge_1 x t0) fn_176 rfl (fun x y h => k_types_edge_1 x t0 y h) rfl ?_
  refine r_assign (AFn PP (fun x => [I_ x]) (fun y => ABool y) (fun x => types_edge_1 x t0)) rfl rfl ?_
  refine R_nil0 ?_
  refine J_seq ?_
  refine J_block ?_
  refine J_seq ?_
  refine J_region rfl ?_
  refine r_faO (AObj 0) 0 fo_111_0 rfl .obj rfl rfl rfl ?_
  refine r_ldO (ABoxAt 0 0) (AStr ((nth t0.Edges t1).Name)) sc_9 rfl .at rfl rfl rfl ?_
  refine R_bind fun b2 h3 => ?_
  refine r_call _ fn_68 (k_token_IsName _ _ h3) rfl rfl ?_
  refine r_not rfl rfl ?_
  refine r_assign (ABool (!b2)) rfl rfl ?_
  refine R_nil0 ?_
  refine J_cond rfl (fun h4 => ?_) (fun h4 => ?_)
  · refine J_seq ?_
    refine J_region rfl ?_
    refine r_assign (I_ 2) rfl rfl ?_
    refine R_nil0 ?_
    exact J_ret hΨ (Res_one rfl) (fun y hy => by cases hy; rfl)
  refine J_seq ?_
  refine J_cv [0] [] [] 0 [(1, I_ t1), (2, APtr (c_api_Types t0)), (4, I_ 0), (5, APtr (c_api_EdgeType (nth t0.Edges t1))), (6, AFn PP (fun x => [I_ x]) (fun y => ABool y) (fun x => types_edge_1 x t0)), (9, I_ t1)] [] (.same rfl (.same rfl (.same rfl (.cons (A := AObj 0) rfl (.fbox rfl rfl (.cons .same (.cons .same (.cons .same (.cons .same (.cons .same (.cons .same (.cons .same .nil)))))))) (.same rfl (.same rfl .nil)))))) .nil rfl rfl ?_
  refine J_region rfl ?_
  refine r_faT ((cL 7 c_api_EdgeType) t0.Edges) fo_59_1 rfl rfl rfl ?_
  refine r_ld (AL 7 c_api_EdgeType t0.Edges) sc_57 rfl rfl rfl ?_
  refine r_move (I_ t1) rfl rfl ?_
  refine R_if (fun h6 => ?_) (fun _ => R_none)
  refine r_cut (cc := c_api_EdgeType) 0 t1 el_57 rfl lo_n (hi_s rfl) h6.1 h6.2.1 h6.2.2 rfl ?_
  refine r_mkFn [APtr (c_api_EdgeType (nth t0.Edges t1))] (fun x => [AAgg (c_api_EdgeType x)]) (fun y => ABool y) (fun x => types_edge_2 x (nth t0.Edges t1)) fn_178 rfl (fun x y h => k_types_edge_2 x (nth t0.Edges t1) y h) rfl ?_
  refine R_bind fun b7 h8 => ?_
  refine r_call _ fn_177 (k_slices_ContainsFunc_api_EdgeType _ _ _ h8) rfl rfl ?_
  refine r_assign (ABool b7) rfl rfl ?_
  refine R_nil0 ?_
  refine J_cond rfl (fun h9 => ?_) (fun h9 => ?_)
  · refine J_seq ?_
    refine J_region rfl ?_
    refine r_assign (I_ 5) rfl rfl ?_
    refine R_nil0 ?_
    exact J_ret hΨ (Res_one rfl) (fun y hy => by cases hy; rfl)
  refine J_seq ?_
  refine J_seq ?_
  apply J_joinA (fun v26 => ⟨fr [(1, I_ t1), (4, I_ 0), (9, I_ t1), (21, I_ t1), (25, ABool v26)], hp [], 0⟩) (fun v26 => types_edge_j26 v26)
  · intro K28
    apply J_joinA (fun v16 => ⟨fr [(1, I_ t1), (4, I_ 0), (9, I_ t1), (21, I_ t1), (25, ABool v16)], hp [], 0⟩) (fun v16 => types_edge_j16 v16)
    · intro K17
      refine J_region rfl ?_
      refine r_move (AFn PP (fun x => [I_ x]) (fun y => ABool y) (fun x => types_edge_1 x t0)) rfl rfl ?_
      refine r_faT (c_i64 ((nth t0.Edges t1).From)) fo_111_1 rfl rfl rfl ?_
      refine r_ld (I_ ((nth t0.Edges t1).From)) sc_3 rfl rfl rfl ?_
      refine R_bind fun b10 h11 => ?_
      refine r_callFn (ga := (fun x => [I_ x])) (rt := (fun y => ABool y)) (gg := (fun x => types_edge_1 x t0)) (u := (nth t0.Edges t1).From) (w := b10) rfl rfl h11 (NK.nk) rfl ?_
      refine r_not rfl rfl ?_
      refine r_move (ABool (!b10)) rfl rfl ?_
      refine R_if (fun h12 => ?_) (fun h12 => ?_)
      · refine R_skip (g_fn rfl rfl h12) ?_
        refine R_skip (g_fn rfl rfl h12) ?_
        refine R_skip (g_fn rfl rfl h12) ?_
        refine R_skip (g_fn rfl rfl h12) ?_
        refine R_skip (g_fn rfl rfl h12) ?_
        refine r_pickT (ABool true) rfl h12 rfl rfl ?_
        refine r_assign (ABool true) rfl rfl ?_
        refine R_nil0 ?_
        refine J_cond_T rfl rfl ?_
        refine J_cv [] [] [] 0 [(1, I_ t1), (4, I_ 0), (9, I_ t1), (21, I_ t1), (25, ABool true)] [] (.same rfl (.same rfl (.same rfl (.same rfl (.same rfl .nil))))) .nil rfl rfl ?_
        exact K17 true
      refine r_move (AFn PP (fun x => [I_ x]) (fun y => ABool y) (fun x => types_edge_1 x t0)) rfl (g_f rfl rfl (bf h12)) ?_
      refine r_faT (c_i64 ((nth t0.Edges t1).To)) fo_111_2 rfl rfl (g_f rfl rfl (bf h12)) ?_
      refine r_ld (I_ ((nth t0.Edges t1).To)) sc_3 rfl rfl (g_f rfl rfl (bf h12)) ?_
      refine R_bind fun b13 h14 => ?_
      refine r_callFn (ga := (fun x => [I_ x])) (rt := (fun y => ABool y)) (gg := (fun x => types_edge_1 x t0)) (u := (nth t0.Edges t1).To) (w := b13) rfl rfl h14 (NK.nk) (g_f rfl rfl (bf h12)) ?_
      refine r_not rfl (g_f rfl rfl (bf h12)) ?_
      refine r_pickF (ABool (!b13)) rfl (bf h12) rfl rfl ?_
      refine r_assign (ABool (!b13)) rfl rfl ?_
      refine R_nil0 ?_
      refine J_cond rfl (fun h15 => ?_) (fun h15 => ?_)
      · refine J_cv [] [] [] 0 [(1, I_ t1), (4, I_ 0), (9, I_ t1), (21, I_ t1), (25, ABool (!b13))] [] (.same rfl (.same rfl (.same rfl (.same rfl (.same rfl .nil))))) .nil rfl rfl ?_
        exact K17 (!b13)
      apply J_joinA (fun v23 => ⟨fr [(1, I_ t1), (4, I_ 0), (9, I_ t1), (21, I_ t1), (25, ABool v23)], hp [], 0⟩) (fun v23 => types_edge_j23 v23)
      · intro K24
        refine J_region rfl ?_
        refine r_faT (c_i64 ((nth t0.Edges t1).OutLow)) fo_111_3 rfl rfl rfl ?_
        refine r_ld (I_ ((nth t0.Edges t1).OutLow)) sc_3 rfl rfl rfl ?_
        refine r_faT (c_i64 ((nth t0.Edges t1).OutHigh)) fo_111_4 rfl rfl rfl ?_
        refine r_ld (I_ ((nth t0.Edges t1).OutHigh)) sc_3 rfl rfl rfl ?_
        refine R_bind fun b18 h19 => ?_
        refine r_call _ fn_179 (k_types_bounded _ _ _ h19) rfl rfl ?_
        refine r_not rfl rfl ?_
        refine r_move (ABool (!b18)) rfl rfl ?_
        refine R_if (fun h20 => ?_) (fun h20 => ?_)
        · refine R_skip (g_fn rfl rfl h20) ?_
          refine R_skip (g_fn rfl rfl h20) ?_
          refine R_skip (g_fn rfl rfl h20) ?_
          refine R_skip (g_fn rfl rfl h20) ?_
          refine R_skip (g_fn rfl rfl h20) ?_
          refine R_skip (g_fn rfl rfl h20) ?_
          refine r_pickT (ABool true) rfl h20 rfl rfl ?_
          refine r_assign (ABool true) rfl rfl ?_
          refine R_nil0 ?_
          refine J_cv [] [] [] 0 [(1, I_ t1), (4, I_ 0), (9, I_ t1), (21, I_ t1), (25, ABool true)] [] (.same rfl (.same rfl (.same rfl (.same rfl (.same rfl .nil))))) .nil rfl rfl ?_
          exact K24 true
        refine r_faT (c_i64 ((nth t0.Edges t1).InLow)) fo_111_5 rfl rfl (g_f rfl rfl (bf h20)) ?_
        refine r_ld (I_ ((nth t0.Edges t1).InLow)) sc_3 rfl rfl (g_f rfl rfl (bf h20)) ?_
        refine r_faT (c_i64 ((nth t0.Edges t1).InHigh)) fo_111_6 rfl rfl (g_f rfl rfl (bf h20)) ?_
        refine r_ld (I_ ((nth t0.Edges t1).InHigh)) sc_3 rfl rfl (g_f rfl rfl (bf h20)) ?_
        refine R_bind fun b21 h22 => ?_
        refine r_call _ fn_179 (k_types_bounded _ _ _ h22) rfl (g_f rfl rfl (bf h20)) ?_
        refine r_not rfl (g_f rfl rfl (bf h20)) ?_
        refine r_pickF (ABool (!b21)) rfl (bf h20) rfl rfl ?_
        refine r_assign (ABool (!b21)) rfl rfl ?_
        refine R_nil0 ?_
        refine J_cv [] [] [] 0 [(1, I_ t1), (4, I_ 0), (9, I_ t1), (21, I_ t1), (25, ABool (!b21))] [] (.same rfl (.same rfl (.same rfl (.same rfl (.same rfl .nil))))) .nil rfl rfl ?_
        exact K24 (!b21)
      intro v23
      refine J_cv [] [] [] 0 [(1, I_ t1), (4, I_ 0), (9, I_ t1), (21, I_ t1), (25, ABool v23)] [] (.same rfl (.same rfl (.same rfl (.same rfl (.same rfl .nil))))) .nil rfl rfl ?_
      exact K28 v23
    intro v16
    refine J_skip ?_
    refine J_cv [] [] [] 0 [(1, I_ t1), (4, I_ 0), (9, I_ t1), (21, I_ t1), (25, ABool v16)] [] (.same rfl (.same rfl (.same rfl (.same rfl (.same rfl .nil))))) .nil rfl rfl ?_
    exact K28 v16
  intro v26
  refine J_cond rfl (fun h27 => ?_) (fun h27 => ?_)
  · refine J_seq ?_
    refine J_region rfl ?_
    refine r_assign (I_ 6) rfl rfl ?_
    refine R_nil0 ?_
    exact J_ret hΨ (Res_one rfl) (fun y hy => by cases hy; rfl)
  refine J_skip ?_
  refine J_inBlock ?_
  refine J_seq ?_
  refine J_region rfl ?_
  refine r_assign (I_ 0) rfl rfl ?_
  refine R_nil0 ?_
  exact J_ret hΨ (Res_one rfl) (fun y hy => by cases hy; rfl)
theorem k_types_Valid (t0 : api_Types) (r : ByteArray × Int) (hr : types_Valid t0 = some r) : FnP PP 67 [AAgg (c_api_Types t0)] (ATup [AStr r.1, I_ r.2]) := by
  refine FnP.of mixed_ Tryz.func67 rfl (n := 60) rfl (fun (r : ByteArray × Int) => ATup [AStr r.1, I_ r.2]) nk_args NK.nk rfl hr fun X hΨ => ?_
  refine J_seq ?_
  refine J_region rfl ?_
  refine r_boxV (AAgg (c_api_Types t0)) rfl rfl ?_
  refine r_assign (AStr (ByteArray.mk #[])) rfl rfl ?_
  refine r_assign (I_ 0) rfl rfl ?_
  refine R_nil0 ?_
  refine J_seq ?_
  refine J_block ?_
  refine J_seq ?_
  refine J_region rfl ?_
  refine r_faT ((cL 4 c_api_NodeType) t0.Nodes) fo_59_0 rfl rfl rfl ?_
  refine r_ld (AL 4 c_api_NodeType t0.Nodes) sc_56 rfl rfl rfl ?_
  refine r_len (cc := c_api_NodeType) il_56 rfl rfl ?_
  refine r_eql rfl rfl rfl ?_
  refine r_assign (ABool (decide ((t0.Nodes.length : Int) = 0))) rfl rfl ?_
  refine R_nil0 ?_
  refine J_cond_p rfl (fun h1 => ?_) (fun h1 => ?_)
  · refine J_seq ?_
    refine J_region rfl ?_
    refine r_assign (AStr (ByteArray.mk #[])) rfl rfl ?_
    refine r_assign (I_ 7) rfl rfl ?_
    refine R_nil0 ?_
    exact J_ret hΨ (Res_many (As := [AStr (ByteArray.mk #[]), I_ 7]) rfl rfl (.cons (.tmp (A := AStr (ByteArray.mk #[])) rfl) (.cons (.tmp (A := I_ 7) rfl) .nil))) (fun y hy => by cases hy; rfl)
  refine J_seq ?_
  refine J_region rfl ?_
  refine r_faT ((cL 4 c_api_NodeType) t0.Nodes) fo_59_0 rfl rfl rfl ?_
  refine r_ld (AL 4 c_api_NodeType t0.Nodes) sc_56 rfl rfl rfl ?_
  refine r_len (cc := c_api_NodeType) il_56 rfl rfl ?_
  refine r_gtr rfl rfl rfl ?_
  refine r_move (ABool (decide (12 < (t0.Nodes.length : Int)))) rfl rfl ?_
  refine R_if (fun h2 => ?_) (fun h2 => ?_)
  · refine R_skip (g_fn rfl rfl (dt h2)) ?_
    refine R_skip (g_fn rfl rfl (dt h2)) ?_
    refine R_skip (g_fn rfl rfl (dt h2)) ?_
    refine R_skip (g_fn rfl rfl (dt h2)) ?_
    refine r_pickT (ABool true) rfl (dt h2) rfl rfl ?_
    refine r_assign (ABool true) rfl rfl ?_
    refine R_nil0 ?_
    refine J_cond_T rfl rfl ?_
    refine J_seq ?_
    refine J_region rfl ?_
    refine r_assign (AStr (ByteArray.mk #[])) rfl rfl ?_
    refine r_assign (I_ 3) rfl rfl ?_
    refine R_nil0 ?_
    exact J_ret hΨ (Res_many (As := [AStr (ByteArray.mk #[]), I_ 3]) rfl rfl (.cons (.tmp (A := AStr (ByteArray.mk #[])) rfl) (.cons (.tmp (A := I_ 3) rfl) .nil))) (fun y hy => by cases hy; rfl)
  refine r_faT ((cL 7 c_api_EdgeType) t0.Edges) fo_59_1 rfl rfl (g_f rfl rfl (df h2)) ?_
  refine r_ld (AL 7 c_api_EdgeType t0.Edges) sc_57 rfl rfl (g_f rfl rfl (df h2)) ?_
  refine r_len (cc := c_api_EdgeType) il_57 rfl (g_f rfl rfl (df h2)) ?_
  refine r_gtr rfl rfl (g_f rfl rfl (df h2)) ?_
  refine r_pickF (ABool (decide (20 < (t0.Edges.length : Int)))) rfl (df h2) rfl rfl ?_
  refine r_assign (ABool (decide (20 < (t0.Edges.length : Int)))) rfl rfl ?_
  refine R_nil0 ?_
  refine J_cond_p rfl (fun h3 => ?_) (fun h3 => ?_)
  · refine J_seq ?_
    refine J_region rfl ?_
    refine r_assign (AStr (ByteArray.mk #[])) rfl rfl ?_
    refine r_assign (I_ 3) rfl rfl ?_
    refine R_nil0 ?_
    exact J_ret hΨ (Res_many (As := [AStr (ByteArray.mk #[]), I_ 3]) rfl rfl (.cons (.tmp (A := AStr (ByteArray.mk #[])) rfl) (.cons (.tmp (A := I_ 3) rfl) .nil))) (fun y hy => by cases hy; rfl)
  refine J_skip ?_
  refine J_inBlock ?_
  refine J_seq ?_
  refine J_seq ?_
  refine J_region rfl ?_
  refine r_faT ((cL 4 c_api_NodeType) t0.Nodes) fo_59_0 rfl rfl rfl ?_
  refine r_ld (AL 4 c_api_NodeType t0.Nodes) sc_56 rfl rfl rfl ?_
  refine r_len (cc := c_api_NodeType) il_56 rfl rfl ?_
  refine r_move (I_ 0) rfl rfl ?_
  refine R_nil0 ?_
  refine J_block ?_
  refine J_cv [] [] [] 0 [(1, APtr (c_api_Types t0)), (3, I_ 0), (13, I_ (t0.Nodes.length : Int)), (18, I_ (t0.Nodes.length : Int)), (23, I_ (t0.Edges.length : Int)), (27, AL 4 c_api_NodeType t0.Nodes), (28, I_ (t0.Nodes.length : Int)), (29, I_ 0)] [] (.same rfl (.same rfl (.same rfl (.same rfl (.same rfl (.same rfl (.same rfl (.same rfl .nil)))))))) .nil rfl rfl ?_
  refine J_it (fun x4 => ⟨fr [(1, APtr (c_api_Types t0)), (3, I_ 0), (13, I_ (t0.Nodes.length : Int)), (18, I_ (t0.Nodes.length : Int)), (23, I_ (t0.Edges.length : Int)), (27, AL 4 c_api_NodeType t0.Nodes), (28, I_ (t0.Nodes.length : Int)), (29, I_ x4)], hp [], 0⟩) (fun E5 hE5 x4 => ?_) (by rfl)
  refine J_seq ?_
  refine J_region rfl ?_
  refine r_lss rfl rfl rfl ?_
  refine R_nil0 ?_
  refine J_seq ?_
  refine J_cond_p rfl (fun h11 => ?_) (fun h11 => ?_)
  · refine J_skip ?_
    refine J_seq ?_
    refine J_block ?_
    refine J_seq ?_
    refine J_region rfl ?_
    refine r_move (I_ x4) rfl rfl ?_
    refine R_if (fun h12 => ?_) (fun _ => R_none)
    refine r_ix (cc := c_api_NodeType) el_56 rfl rfl h12.1 h12.2 rfl ?_
    refine r_lda (c_api_NodeType (nth t0.Nodes x4)) ag_106 rfl rfl rfl rfl ?_
    refine r_alloc 0 _ z_106 rfl rfl ?_
    refine r_assign (I_ x4) rfl rfl ?_
    refine r_stO (AObj 0) (AAgg (c_api_NodeType (nth t0.Nodes x4))) (c_api_NodeType (nth t0.Nodes x4)) sz_106 rfl .obj rfl rfl rfl rfl rfl rfl ?_
    refine R_nil0 ?_
    refine J_seq ?_
    refine J_region rfl ?_
    refine r_lda (c_api_Types t0) ag_59 rfl rfl rfl rfl ?_
    refine r_move (I_ x4) rfl rfl ?_
    refine R_bind fun b13 h14 => ?_
    refine r_call _ fn_124 (k_types_node _ _ _ h14) rfl rfl ?_
    refine r_assign (I_ b13) rfl rfl ?_
    refine R_nil0 ?_
    refine J_seq ?_
    refine J_region rfl ?_
    refine r_move (I_ b13) rfl rfl ?_
    refine r_neq rfl rfl rfl ?_
    refine R_nil0 ?_
    refine J_cond_p rfl (fun h15 => ?_) (fun h15 => ?_)
    · refine J_seq ?_
      refine J_region rfl ?_
      refine r_faO (AObj 0) 0 fo_106_0 rfl .obj rfl rfl rfl ?_
      refine r_ldO (ABoxAt 0 0) (AStr ((nth t0.Nodes x4).Name)) sc_9 rfl .at rfl rfl rfl ?_
      refine r_move (I_ b13) rfl rfl ?_
      refine r_assign (AStr ((nth t0.Nodes x4).Name)) rfl rfl ?_
      refine r_assign (I_ b13) rfl rfl ?_
      refine R_nil0 ?_
      refine J_outS ?_
      exact J_ret hΨ (Res_many (As := [AStr ((nth t0.Nodes x4).Name), I_ b13]) rfl rfl (.cons (.tmp (A := AStr ((nth t0.Nodes x4).Name)) rfl) (.cons (.tmp (A := I_ b13) rfl) .nil))) (fun y hy => by cases hy; rfl)
    refine J_skip ?_
    refine J_inBlock ?_
    refine J_range 13 (m := (t0.Nodes.length : Int)) rfl fun q16 => ?_
    refine J_range 4 (m := x4) rfl fun q17 => ?_
    refine J_region rfl ?_
    refine r_add (x4 + 1) rfl rfl (wrap_i64 (by omega) (by omega)) rfl ?_
    refine r_move (I_ (x4 + 1)) rfl rfl ?_
    refine R_nil0 ?_
    refine J_go ?_
    refine J_cv [] [] [] 0 [(1, APtr (c_api_Types t0)), (3, I_ 0), (13, I_ (t0.Nodes.length : Int)), (18, I_ (t0.Nodes.length : Int)), (23, I_ (t0.Edges.length : Int)), (27, AL 4 c_api_NodeType t0.Nodes), (28, I_ (t0.Nodes.length : Int)), (29, I_ (x4 + 1))] [] (.same rfl (.same rfl (.same rfl (.same rfl (.same rfl (.same rfl (.same rfl (.same rfl .nil)))))))) .nil rfl rfl ?_
    exact hE5 (x4 + 1)
  refine J_exit rfl ?_
  refine J_out ?_
  refine J_seq ?_
  refine J_seq ?_
  refine J_region rfl ?_
  refine r_faT ((cL 7 c_api_EdgeType) t0.Edges) fo_59_1 rfl rfl rfl ?_
  refine r_ld (AL 7 c_api_EdgeType t0.Edges) sc_57 rfl rfl rfl ?_
  refine r_len (cc := c_api_EdgeType) il_57 rfl rfl ?_
  refine r_move (I_ 0) rfl rfl ?_
  refine R_nil0 ?_
  refine J_block ?_
  refine J_cv [] [] [] 0 [(1, APtr (c_api_Types t0)), (3, I_ 0), (13, I_ (t0.Nodes.length : Int)), (18, I_ (t0.Nodes.length : Int)), (23, I_ (t0.Edges.length : Int)), (28, I_ (t0.Nodes.length : Int)), (29, I_ x4), (44, AL 7 c_api_EdgeType t0.Edges), (45, I_ (t0.Edges.length : Int)), (46, I_ 0)] [] (.same rfl (.same rfl (.same rfl (.same rfl (.same rfl (.same rfl (.same rfl (.same rfl (.same rfl (.same rfl .nil)))))))))) .nil rfl rfl ?_
  refine J_it (fun x18 => ⟨fr [(1, APtr (c_api_Types t0)), (3, I_ 0), (13, I_ (t0.Nodes.length : Int)), (18, I_ (t0.Nodes.length : Int)), (23, I_ (t0.Edges.length : Int)), (28, I_ (t0.Nodes.length : Int)), (29, I_ x4), (44, AL 7 c_api_EdgeType t0.Edges), (45, I_ (t0.Edges.length : Int)), (46, I_ x18)], hp [], 0⟩) (fun E19 hE19 x18 => ?_) (by rfl)
  refine J_seq ?_
  refine J_region rfl ?_
  refine r_lss rfl rfl rfl ?_
  refine R_nil0 ?_
  refine J_seq ?_
  refine J_cond_p rfl (fun h25 => ?_) (fun h25 => ?_)
  rotate_left
  · refine J_exit rfl ?_
    refine J_outS ?_
    refine J_seq ?_
    refine J_region rfl ?_
    refine r_assign (AStr (ByteArray.mk #[])) rfl rfl ?_
    refine r_assign (I_ 0) rfl rfl ?_
    refine R_nil0 ?_
    exact J_ret hΨ (Res_many (As := [AStr (ByteArray.mk #[]), I_ 0]) rfl rfl (.cons (.tmp (A := AStr (ByteArray.mk #[])) rfl) (.cons (.tmp (A := I_ 0) rfl) .nil))) (fun y hy => by cases hy; rfl)
  refine J_skip ?_
  refine J_seq ?_
  refine J_block ?_
  refine J_seq ?_
  refine J_region rfl ?_
  refine r_move (I_ x18) rfl rfl ?_
  refine R_if (fun h26 => ?_) (fun _ => R_none)
  refine r_ix (cc := c_api_EdgeType) el_57 rfl rfl h26.1 h26.2 rfl ?_
  refine r_lda (c_api_EdgeType (nth t0.Edges x18)) ag_111 rfl rfl rfl rfl ?_
  refine r_alloc 0 _ z_111 rfl rfl ?_
  refine r_assign (I_ x18) rfl rfl ?_
  refine r_stO (AObj 0) (AAgg (c_api_EdgeType (nth t0.Edges x18))) (c_api_EdgeType (nth t0.Edges x18)) sz_111 rfl .obj rfl rfl rfl rfl rfl rfl ?_
  refine R_nil0 ?_
  refine J_seq ?_
  refine J_region rfl ?_
  refine r_lda (c_api_Types t0) ag_59 rfl rfl rfl rfl ?_
  refine r_move (I_ x18) rfl rfl ?_
  refine R_bind fun b27 h28 => ?_
  refine r_call _ fn_125 (k_types_edge _ _ _ h28) rfl rfl ?_
  refine r_assign (I_ b27) rfl rfl ?_
  refine R_nil0 ?_
  refine J_seq ?_
  refine J_region rfl ?_
  refine r_move (I_ b27) rfl rfl ?_
  refine r_neq rfl rfl rfl ?_
  refine R_nil0 ?_
  refine J_cond_p rfl (fun h29 => ?_) (fun h29 => ?_)
  · refine J_seq ?_
    refine J_region rfl ?_
    refine r_faO (AObj 0) 0 fo_111_0 rfl .obj rfl rfl rfl ?_
    refine r_ldO (ABoxAt 0 0) (AStr ((nth t0.Edges x18).Name)) sc_9 rfl .at rfl rfl rfl ?_
    refine r_move (I_ b27) rfl rfl ?_
    refine r_assign (AStr ((nth t0.Edges x18).Name)) rfl rfl ?_
    refine r_assign (I_ b27) rfl rfl ?_
    refine R_nil0 ?_
    refine J_outS ?_
    exact J_ret hΨ (Res_many (As := [AStr ((nth t0.Edges x18).Name), I_ b27]) rfl rfl (.cons (.tmp (A := AStr ((nth t0.Edges x18).Name)) rfl) (.cons (.tmp (A := I_ b27) rfl) .nil))) (fun y hy => by cases hy; rfl)
  refine J_skip ?_
  refine J_inBlock ?_
  refine J_range 23 (m := (t0.Edges.length : Int)) rfl fun q30 => ?_
  refine J_range 7 (m := x18) rfl fun q31 => ?_
  refine J_region rfl ?_
  refine r_add (x18 + 1) rfl rfl (wrap_i64 (by omega) (by omega)) rfl ?_
  refine r_move (I_ (x18 + 1)) rfl rfl ?_
  refine R_nil0 ?_
  refine J_go ?_
  refine J_cv [] [] [] 0 [(1, APtr (c_api_Types t0)), (3, I_ 0), (13, I_ (t0.Nodes.length : Int)), (18, I_ (t0.Nodes.length : Int)), (23, I_ (t0.Edges.length : Int)), (28, I_ (t0.Nodes.length : Int)), (29, I_ x4), (44, AL 7 c_api_EdgeType t0.Edges), (45, I_ (t0.Edges.length : Int)), (46, I_ (x18 + 1))] [] (.same rfl (.same rfl (.same rfl (.same rfl (.same rfl (.same rfl (.same rfl (.same rfl (.same rfl (.same rfl .nil)))))))))) .nil rfl rfl ?_
  exact hE19 (x18 + 1)
theorem k_types_given_1 (t0 : Int) (t1 : api_Types) (r : Bool) (hr : types_given_1 t0 t1 = some r) : FnP PP 202 [I_ t0, APtr (c_api_Types t1)] (ABool r) := by
  refine FnP.of mixed_ Tryz.func202 rfl (n := 13) rfl (fun (r : Bool) => ABool r) nk_args NK.nk rfl hr fun X hΨ => ?_
  refine J_seq ?_
  refine J_region rfl ?_
  refine r_assign (ABool false) rfl rfl ?_
  refine R_nil0 ?_
  refine J_seq ?_
  refine J_region rfl ?_
  refine r_move (I_ t0) rfl rfl ?_
  refine r_lss rfl rfl rfl ?_
  refine r_move (ABool (decide (t0 < 0))) rfl rfl ?_
  refine R_if (fun h1 => ?_) (fun h1 => ?_)
  · refine R_skip (g_fn rfl rfl (dt h1)) ?_
    refine R_skip (g_fn rfl rfl (dt h1)) ?_
    refine R_skip (g_fn rfl rfl (dt h1)) ?_
    refine R_skip (g_fn rfl rfl (dt h1)) ?_
    refine R_skip (g_fn rfl rfl (dt h1)) ?_
    refine r_pickT (ABool true) rfl (dt h1) rfl rfl ?_
    refine r_assign (ABool true) rfl rfl ?_
    refine R_nil0 ?_
    exact J_ret hΨ (Res_one rfl) (fun y hy => by cases hy; rfl)
  refine r_move (I_ t0) rfl (g_f rfl rfl (df h1)) ?_
  refine r_faT ((cL 4 c_api_NodeType) t1.Nodes) fo_59_0 rfl rfl (g_f rfl rfl (df h1)) ?_
  refine r_ld (AL 4 c_api_NodeType t1.Nodes) sc_56 rfl rfl (g_f rfl rfl (df h1)) ?_
  refine r_len (cc := c_api_NodeType) il_56 rfl (g_f rfl rfl (df h1)) ?_
  refine r_geq rfl rfl (g_f rfl rfl (df h1)) ?_
  refine r_pickF (ABool (decide ((t1.Nodes.length : Int) ≤ t0))) rfl (df h1) rfl rfl ?_
  refine r_assign (ABool (decide ((t1.Nodes.length : Int) ≤ t0))) rfl rfl ?_
  refine R_nil0 ?_
  exact J_ret hΨ (Res_one rfl) (fun y hy => by cases hy; rfl)
theorem k_types_given (t0 : api_Types) (t1 : (List Int)) (r : Int) (hr : types_given t0 t1 = some r) : FnP PP 155 [AAgg (c_api_Types t0), AL 1 c_i64 t1] (I_ r) := by
  refine FnP.of mixed_ Tryz.func155 rfl (n := 18) rfl (fun (r : Int) => I_ r) nk_args NK.nk rfl hr fun X hΨ => ?_
  refine J_seq ?_
  refine J_region rfl ?_
  refine r_boxV (AAgg (c_api_Types t0)) rfl rfl ?_
  refine r_assign (I_ 0) rfl rfl ?_
  refine R_nil0 ?_
  refine J_seq ?_
  refine J_seq ?_
  refine J_region rfl ?_
  refine r_lda (c_api_Types t0) ag_59 rfl rfl rfl rfl ?_
  refine R_bind fun b1 h2 => ?_
  refine r_call _ fn_67 (k_types_Valid _ _ h2) rfl rfl ?_
  refine r_move (ATup [AStr b1.1, I_ b1.2]) rfl rfl ?_
  refine r_ext (AStr b1.1) rfl rfl rfl ?_
  refine r_ext (I_ b1.2) rfl rfl rfl ?_
  refine r_assign (AStr b1.1) rfl rfl ?_
  refine r_assign (I_ b1.2) rfl rfl ?_
  refine R_nil0 ?_
  refine J_seq ?_
  refine J_region rfl ?_
  refine r_move (I_ b1.2) rfl rfl ?_
  refine r_neq rfl rfl rfl ?_
  refine R_nil0 ?_
  refine J_cond_p rfl (fun h3 => ?_) (fun h3 => ?_)
  · refine J_seq ?_
    refine J_region rfl ?_
    refine r_move (I_ b1.2) rfl rfl ?_
    refine r_assign (I_ b1.2) rfl rfl ?_
    refine R_nil0 ?_
    exact J_ret hΨ (Res_one rfl) (fun y hy => by cases hy; rfl)
  refine J_skip ?_
  refine J_seq ?_
  refine J_seq ?_
  refine J_region rfl ?_
  refine r_move (AL 1 c_i64 t1) rfl rfl ?_
  refine r_mkFn [APtr (c_api_Types t0)] (fun x => [I_ x]) (fun y => ABool y) (fun x => types_given_1 x t0) fn_202 rfl (fun x y h => k_types_given_1 x t0 y h) rfl ?_
  refine R_bind fun b4 h5 => ?_
  refine r_call _ fn_80 (k_slices_ContainsFunc_int _ _ _ h5) rfl rfl ?_
  refine R_nil0 ?_
  refine J_cond rfl (fun h6 => ?_) (fun h6 => ?_)
  · refine J_seq ?_
    refine J_region rfl ?_
    refine r_assign (I_ 6) rfl rfl ?_
    refine R_nil0 ?_
    exact J_ret hΨ (Res_one rfl) (fun y hy => by cases hy; rfl)
  refine J_skip ?_
  refine J_seq ?_
  refine J_region rfl ?_
  refine r_assign (I_ 0) rfl rfl ?_
  refine R_nil0 ?_
  exact J_ret hΨ (Res_one rfl) (fun y hy => by cases hy; rfl)
theorem k_slices_Index_int (t0 : (List Int)) (t1 : Int) (r : Int) (hr : slices_Index_int t0 t1 = some r) : FnP PP 117 [AL 1 c_i64 t0, I_ t1] (I_ r) := by
  refine FnP.of mixed_ Tryz.func117 rfl (n := 19) rfl (fun (r : Int) => I_ r) nk_args NK.nk rfl hr fun X hΨ => ?_
  refine J_seq ?_
  refine J_region rfl ?_
  refine r_assign (I_ 0) rfl rfl ?_
  refine R_nil0 ?_
  refine J_seq ?_
  refine J_seq ?_
  refine J_region rfl ?_
  refine r_move (AL 1 c_i64 t0) rfl rfl ?_
  refine r_len (cc := c_i64) il_22 rfl rfl ?_
  refine r_move (I_ 0) rfl rfl ?_
  refine R_nil0 ?_
  refine J_block ?_
  refine J_to [(0, AL 1 c_i64 t0), (1, I_ t1), (7, I_ (t0.length : Int)), (8, I_ 0)] (.cons rfl (.cons rfl (.cons rfl (.cons rfl .nil)))) ?_
  refine J_it (fun x1 => ⟨fr [(0, AL 1 c_i64 t0), (1, I_ t1), (7, I_ (t0.length : Int)), (8, I_ x1)], fun _ => none, 0⟩) (fun E2 hE2 x1 => ?_) (by rfl)
  refine J_seq ?_
  refine J_region rfl ?_
  refine r_lss rfl rfl rfl ?_
  refine R_nil0 ?_
  refine J_seq ?_
  refine J_cond_p rfl (fun h6 => ?_) (fun h6 => ?_)
  rotate_left
  · refine J_exit rfl ?_
    refine J_outS ?_
    refine J_seq ?_
    refine J_region rfl ?_
    refine r_assign (I_ (-1)) rfl rfl ?_
    refine R_nil0 ?_
    exact J_ret hΨ (Res_one rfl) (fun y hy => by cases hy; rfl)
  refine J_skip ?_
  refine J_seq ?_
  refine J_block ?_
  refine J_seq ?_
  refine J_region rfl ?_
  refine r_move (I_ x1) rfl rfl ?_
  refine r_assign (I_ x1) rfl rfl ?_
  refine R_nil0 ?_
  refine J_seq ?_
  refine J_region rfl ?_
  refine r_move (I_ t1) rfl rfl ?_
  refine r_move (AL 1 c_i64 t0) rfl rfl ?_
  refine r_move (I_ x1) rfl rfl ?_
  refine R_if (fun h7 => ?_) (fun _ => R_none)
  refine r_ix (cc := c_i64) el_22 rfl rfl h7.1 h7.2 rfl ?_
  refine r_ld (I_ (nth t0 x1)) sc_3 rfl rfl rfl ?_
  refine r_eql rfl rfl rfl ?_
  refine R_nil0 ?_
  refine J_cond_p rfl (fun h8 => ?_) (fun h8 => ?_)
  · refine J_seq ?_
    refine J_region rfl ?_
    refine r_move (I_ x1) rfl rfl ?_
    refine r_assign (I_ x1) rfl rfl ?_
    refine R_nil0 ?_
    refine J_outS ?_
    exact J_ret hΨ (Res_one rfl) (fun y hy => by cases hy; rfl)
  refine J_skip ?_
  refine J_inBlock ?_
  refine J_range 7 (m := (t0.length : Int)) rfl fun q9 => ?_
  refine J_range 5 (m := x1) rfl fun q10 => ?_
  refine J_region rfl ?_
  refine r_add (x1 + 1) rfl rfl (wrap_i64 (by omega) (by omega)) rfl ?_
  refine r_move (I_ (x1 + 1)) rfl rfl ?_
  refine R_nil0 ?_
  refine J_go ?_
  refine J_to [(0, AL 1 c_i64 t0), (1, I_ t1), (7, I_ (t0.length : Int)), (8, I_ (x1 + 1))] (.cons rfl (.cons rfl (.cons rfl (.cons rfl .nil)))) ?_
  exact hE2 (x1 + 1)
theorem k_slices_Contains_int (t0 : (List Int)) (t1 : Int) (r : Bool) (hr : slices_Contains_int t0 t1 = some r) : FnP PP 154 [AL 1 c_i64 t0, I_ t1] (ABool r) := by
  refine FnP.of mixed_ Tryz.func154 rfl (n := 9) rfl (fun (r : Bool) => ABool r) nk_args NK.nk rfl hr fun X hΨ => ?_
  refine J_seq ?_
  refine J_region rfl ?_
  refine r_assign (ABool false) rfl rfl ?_
  refine R_nil0 ?_
  refine J_seq ?_
  refine J_region rfl ?_
  refine r_move (AL 1 c_i64 t0) rfl rfl ?_
  refine r_move (I_ t1) rfl rfl ?_
  refine R_bind fun b1 h2 => ?_
  refine r_call _ fn_117 (k_slices_Index_int _ _ _ h2) rfl rfl ?_
  refine r_geq rfl rfl rfl ?_
  refine r_assign (ABool (decide (0 ≤ b1))) rfl rfl ?_
  refine R_nil0 ?_
  exact J_ret hΨ (Res_one rfl) (fun y hy => by cases hy; rfl)
theorem k_slices_Reverse_int (t0 : (List Int)) (r : (List Int)) (hr : slices_Reverse_int t0 = some r) : FnK PP 249 1 [(0, .row 3 1 (t0.map c_i64))] [AObj 0] [(0, .row 3 1 (r.map c_i64))] (ATup []) := by
  refine FnK.of mixed_ Tryz.func249 rfl (n := 28) rfl (N0 := 1) (ins := [(0, .row 3 1 (t0.map c_i64))]) (args := [AObj 0]) (fun (r : (List Int)) => [(0, .row 3 1 (r.map c_i64))]) (fun (r : (List Int)) => ATup []) (KBL.cons (KB.obj rfl) (inferInstance : KBL 1 [])).kb (InsOk.spec (.row rfl (NKC.flat _ _) .nil)) rfl hr fun X hΨ => ?_
  refine J_seq ?_
  refine J_region rfl ?_
  refine r_move (AObj 0) rfl rfl ?_
  refine r_lenO (cc := c_i64) t0 il_22 rfl rfl rfl ?_
  refine R_bind fun b1 h2 => ?_
  refine r_sub b1 rfl rfl (Option.some.inj h2) rfl ?_
  refine r_assign (I_ 0) rfl rfl ?_
  refine r_assign (I_ b1) rfl rfl ?_
  refine R_nil0 ?_
  refine J_block ?_
  refine J_cv [] [] [] 1 [(0, AObj 0), (2, I_ 0), (3, I_ b1)] [(0, .row 3 1 (t0.map c_i64))] (.cons (A := AObj 0) rfl (.obj rfl rfl rfl) (.same rfl (.same rfl .nil))) (.cons rfl rfl rfl rfl (.row (NKC.flat _ _)) rfl rfl .nil) rfl rfl ?_
  refine J_it (fun x3 => ⟨fr [(0, AObj 0), (2, I_ x3.2.1), (3, I_ x3.2.2)], hp [(0, .row 3 1 (x3.1.map c_i64))], 1⟩) (fun E4 hE4 x3 => ?_) (by rfl)
  refine J_seq ?_
  refine J_seq ?_
  refine J_region rfl ?_
  refine r_move (I_ x3.2.1) rfl rfl ?_
  refine r_move (I_ x3.2.2) rfl rfl ?_
  refine r_lss rfl rfl rfl ?_
  refine R_nil0 ?_
  refine J_cond_p rfl (fun h10 => ?_) (fun h10 => ?_)
  rotate_left
  · refine J_exit rfl ?_
    refine J_outS ?_
    exact J_endK hΨ (Res_none rfl) [] [] [] rfl (fun y hy => by cases hy; exact ⟨(.cons rfl rfl rfl rfl (.row (NKC.flat _ _)) rfl rfl .nil), (.tup .nil)⟩)
  refine J_skip ?_
  refine J_seq ?_
  refine J_block ?_
  refine J_draw ?_
  refine r_move (AObj 0) rfl rfl ?_
  refine r_move (I_ x3.2.1) rfl rfl ?_
  refine r_move (AObj 0) rfl rfl ?_
  refine r_move (I_ x3.2.2) rfl rfl ?_
  refine r_move (AObj 0) rfl rfl ?_
  refine r_move (I_ x3.2.2) rfl rfl ?_
  refine R_if (fun h11 => ?_) (fun _ => R_none)
  refine r_ixO (cc := c_i64) el_22 rfl rfl rfl h11.1 h11.2 rfl ?_
  refine r_ldR (cc := c_i64) x3.2.2 0 (I_ (nth x3.1 x3.2.2)) sc_3 rfl rfl h11.1 h11.2 rfl rfl ?_
  refine r_move (AObj 0) rfl rfl ?_
  refine r_move (I_ x3.2.1) rfl rfl ?_
  refine R_if (fun h12 => ?_) (fun _ => R_none)
  refine r_ixO (cc := c_i64) el_22 rfl rfl rfl h12.1 h12.2 rfl ?_
  refine r_ldR (cc := c_i64) x3.2.1 0 (I_ (nth x3.1 x3.2.1)) sc_3 rfl rfl h12.1 h12.2 rfl rfl ?_
  refine r_ixO (cc := c_i64) el_22 rfl rfl rfl h12.1 h12.2 rfl ?_
  refine r_stR (cc := c_i64) x3.2.1 0 (I_ (nth x3.1 x3.2.2)) (nth x3.1 x3.2.2) sz_3 rfl rfl rfl h12.1 h12.2 rfl rfl rfl rfl ?_
  refine R_if (fun h13 => ?_) (fun _ => R_none)
  refine r_ixO (cc := c_i64) el_22 rfl rfl rfl h13.1 h13.2 rfl ?_
  refine r_stR (cc := c_i64) x3.2.2 0 (I_ (nth x3.1 x3.2.1)) (nth x3.1 x3.2.1) sz_3 rfl rfl rfl h13.1 h13.2 rfl rfl rfl rfl ?_
  refine R_nilD rfl ?_
  refine J_inBlock ?_
  refine J_range 3 (m := x3.2.2) rfl fun q14 => ?_
  refine J_range 2 (m := x3.2.1) rfl fun q15 => ?_
  refine J_region rfl ?_
  refine r_move (I_ x3.2.1) rfl rfl ?_
  refine r_add (x3.2.1 + 1) rfl rfl (wrap_i64 (by omega) (by omega)) rfl ?_
  refine r_move (I_ x3.2.2) rfl rfl ?_
  refine r_sub (x3.2.2 - 1) rfl rfl (wrap_i64 (by omega) (by omega)) rfl ?_
  refine r_assign (I_ (x3.2.1 + 1)) rfl rfl ?_
  refine r_assign (I_ (x3.2.2 - 1)) rfl rfl ?_
  refine R_nil0 ?_
  refine J_go ?_
  refine J_cv [] [] [] 1 [(0, AObj 0), (2, I_ (x3.2.1 + 1)), (3, I_ (x3.2.2 - 1))] [(0, .row 3 1 (((x3.1.set x3.2.1.toNat (nth x3.1 x3.2.2)).set x3.2.2.toNat (nth x3.1 x3.2.1)).map c_i64))] (.cons (A := AObj 0) rfl (.obj rfl rfl rfl) (.same rfl (.same rfl .nil))) (.cons rfl rfl rfl rfl (.row (NKC.flat _ _)) rfl rfl .nil) rfl rfl ?_
  exact hE4 (((x3.1.set x3.2.1.toNat (nth x3.1 x3.2.2)).set x3.2.2.toNat (nth x3.1 x3.2.1)), x3.2.1 + 1, x3.2.2 - 1)
theorem k_types_line (t0 : api_Types) (t1 : Int) (r : (List Int)) (hr : types_line t0 t1 = some r) : FnP PP 203 [AAgg (c_api_Types t0), I_ t1] (AL 1 c_i64 r) := by
  refine FnP.of mixed_ Tryz.func203 rfl (n := 21) rfl (fun (r : (List Int)) => AL 1 c_i64 r) nk_args NK.nk rfl hr fun X hΨ => ?_
  refine J_seq ?_
  refine J_region rfl ?_
  refine r_boxV (AAgg (c_api_Types t0)) rfl rfl ?_
  refine r_assign (ANil) rfl rfl ?_
  refine R_nil0 ?_
  refine J_seq ?_
  refine J_region rfl ?_
  refine r_assign (ANil) rfl rfl ?_
  refine R_nil0 ?_
  refine J_seq ?_
  refine J_block ?_
  refine J_cv [] [] [0] 1 [(1, I_ t1), (2, APtr (c_api_Types t0)), (5, AObj 0)] [(0, .row 3 1 ([].map c_i64))] (.same rfl (.same rfl (.cons (A := ANil) rfl (.nilobj rfl rfl) .nil))) (.new rfl rfl .nil) rfl rfl ?_
  refine J_it (fun x1 => ⟨fr [(1, I_ x1.1), (2, APtr (c_api_Types t0)), (5, AObj 0)], hp [(0, .row 3 1 (x1.2.map c_i64))], 1⟩) (fun E2 hE2 x1 => ?_) (by rfl)
  refine J_seq ?_
  refine J_seq ?_
  refine J_region rfl ?_
  refine r_move (I_ x1.1) rfl rfl ?_
  refine r_geq rfl rfl rfl ?_
  refine R_nil0 ?_
  refine J_cond_p rfl (fun h5 => ?_) (fun h5 => ?_)
  rotate_left
  · refine J_exit rfl ?_
    refine J_out ?_
    refine J_seq ?_
    refine J_region rfl ?_
    refine r_move (AObj 0) rfl rfl ?_
    refine R_bind fun b8 h9 => ?_
    refine r_callK [] [] [] [] 1 [(0, .row 3 1 (x1.2.map c_i64))] [(0, .row 3 1 (b8.map c_i64))] (ATup []) [AObj 0] fn_249 (k_slices_Reverse_int _ _ h9) (.cons rfl .nil) rfl (.cons (.obj rfl rfl rfl) .nil) (.cons rfl rfl rfl rfl (.row (NKC.flat _ _)) rfl rfl .nil) (.cons rfl rfl rfl rfl (.row (NKC.flat _ _)) rfl rfl .nil) (.tup .nil) rfl rfl rfl ?_
    refine R_nil0 ?_
    refine J_seq ?_
    refine J_region rfl ?_
    refine r_move (AObj 0) rfl rfl ?_
    refine r_assign (AObj 0) rfl rfl ?_
    refine R_nil0 ?_
    exact J_retF hΨ (Res_box rfl (.tmp (A := AObj 0) rfl)) (fun y hy => by cases hy; exact (.frow rfl rfl (NKC.flat _ _)))
  refine J_skip ?_
  refine J_seq ?_
  refine J_block ?_
  refine J_region rfl ?_
  refine r_move (AObj 0) rfl rfl ?_
  refine r_move (I_ x1.1) rfl rfl ?_
  refine r_bs (cc := c_i64) [x1.1] el_22 zr_3_1 (.cons (A := I_ x1.1) rfl rfl rfl .nil) rfl rfl rfl ?_
  refine R_if (fun h6 => ?_) (fun _ => R_none)
  refine r_app (cc := c_i64) (xs := x1.2) (ys := [x1.1]) 1 ap_22 rfl rfl rfl h6 rfl rfl rfl ?_
  refine r_assign (AObj 1) rfl rfl ?_
  refine R_nil0 ?_
  refine J_inBlock ?_
  refine J_region rfl ?_
  refine r_faT ((cL 4 c_api_NodeType) t0.Nodes) fo_59_0 rfl rfl rfl ?_
  refine r_ld (AL 4 c_api_NodeType t0.Nodes) sc_56 rfl rfl rfl ?_
  refine r_move (I_ x1.1) rfl rfl ?_
  refine R_if (fun h7 => ?_) (fun _ => R_none)
  refine r_ix (cc := c_api_NodeType) el_56 rfl rfl h7.1 h7.2 rfl ?_
  refine r_faT (c_i64 ((nth t0.Nodes x1.1).Parent)) fo_106_1 rfl rfl rfl ?_
  refine r_ld (I_ ((nth t0.Nodes x1.1).Parent)) sc_3 rfl rfl rfl ?_
  refine r_assign (I_ ((nth t0.Nodes x1.1).Parent)) rfl rfl ?_
  refine R_nil0 ?_
  refine J_go ?_
  refine J_cv [] [(0, 1)] [] 1 [(1, I_ ((nth t0.Nodes x1.1).Parent)), (2, APtr (c_api_Types t0)), (5, AObj 0)] [(0, .row 3 1 ((x1.2 ++ [x1.1]).map c_i64))] (.same rfl (.same rfl (.cons (A := AObj 1) rfl (.obj rfl rfl rfl) .nil))) (.cons rfl rfl rfl rfl (.row (NKC.flat _ _)) rfl rfl .nil) rfl rfl ?_
  exact hE2 ((nth t0.Nodes x1.1).Parent, (x1.2 ++ [x1.1]))
theorem k_types_is (t0 : api_Types) (t1 : Int) (t2 : Int) (r : Bool) (hr : types_is t0 t1 t2 = some r) : FnP PP 156 [AAgg (c_api_Types t0), I_ t1, I_ t2] (ABool r) := by
  refine FnP.of mixed_ Tryz.func156 rfl (n := 12) rfl (fun (r : Bool) => ABool r) nk_args NK.nk rfl hr fun X hΨ => ?_
  refine J_seq ?_
  refine J_region rfl ?_
  refine r_boxV (AAgg (c_api_Types t0)) rfl rfl ?_
  refine r_assign (ABool false) rfl rfl ?_
  refine R_nil0 ?_
  refine J_seq ?_
  refine J_region rfl ?_
  refine r_lda (c_api_Types t0) ag_59 rfl rfl rfl rfl ?_
  refine r_move (I_ t1) rfl rfl ?_
  refine R_bind fun b1 h2 => ?_
  refine r_call _ fn_203 (k_types_line _ _ _ h2) rfl rfl ?_
  refine r_move (I_ t2) rfl rfl ?_
  refine R_bind fun b3 h4 => ?_
  refine r_call _ fn_154 (k_slices_Contains_int _ _ _ h4) rfl rfl ?_
  refine r_assign (ABool b3) rfl rfl ?_
  refine R_nil0 ?_
  exact J_ret hΨ (Res_one rfl) (fun y hy => by cases hy; rfl)
theorem k_types_Fits (t0 : api_Types) (t1 : Int) (t2 : Int) (t3 : Int) (r : Bool) (hr : types_Fits t0 t1 t2 t3 = some r) : FnP PP 115 [AAgg (c_api_Types t0), I_ t1, I_ t2, I_ t3] (ABool r) := by
  refine FnP.of mixed_ Tryz.func115 rfl (n := 46) rfl (fun (r : Bool) => ABool r) nk_args NK.nk rfl hr fun X hΨ => ?_
  refine J_seq ?_
  refine J_region rfl ?_
  refine r_boxV (AAgg (c_api_Types t0)) rfl rfl ?_
  refine r_assign (ABool false) rfl rfl ?_
  refine R_nil0 ?_
  refine J_seq ?_
  refine J_seq ?_
  refine J_region rfl ?_
  refine r_lda (c_api_Types t0) ag_59 rfl rfl rfl rfl ?_
  refine r_move (I_ t2) rfl rfl ?_
  refine r_move (I_ t3) rfl rfl ?_
  refine r_bs (cc := c_i64) [t2, t3] el_22 zr_3_2 (.cons (A := I_ t2) rfl rfl rfl (.cons (A := I_ t3) rfl rfl rfl .nil)) rfl rfl rfl ?_
  refine R_bind fun b1 h2 => ?_
  refine r_call _ fn_155 (k_types_given _ _ _ h2) rfl rfl ?_
  refine r_neq rfl rfl rfl ?_
  refine r_move (ABool (decide (¬ (b1 = 0)))) rfl rfl ?_
  refine R_if (fun h3 => ?_) (fun h3 => ?_)
  · refine R_skip (g_fn rfl rfl (dt h3)) ?_
    refine R_skip (g_fn rfl rfl (dt h3)) ?_
    refine r_pickT (ABool true) rfl (dt h3) rfl rfl ?_
    refine r_move (ABool true) rfl rfl ?_
    refine R_skip (g_fn rfl rfl rfl) ?_
    refine R_skip (g_fn rfl rfl rfl) ?_
    refine R_skip (g_fn rfl rfl rfl) ?_
    refine R_skip (g_fn rfl rfl rfl) ?_
    refine R_skip (g_fn rfl rfl rfl) ?_
    refine r_pickT (ABool true) rfl rfl rfl rfl ?_
    refine R_nil0 ?_
    refine J_cond_T rfl rfl ?_
    refine J_seq ?_
    refine J_region rfl ?_
    refine r_assign (ABool false) rfl rfl ?_
    refine R_nil0 ?_
    exact J_ret hΨ (Res_one rfl) (fun y hy => by cases hy; rfl)
  refine r_move (I_ t1) rfl (g_f rfl rfl (df h3)) ?_
  refine r_lss rfl rfl (g_f rfl rfl (df h3)) ?_
  refine r_pickF (ABool (decide (t1 < 0))) rfl (df h3) rfl rfl ?_
  refine r_move (ABool (decide (t1 < 0))) rfl rfl ?_
  refine R_if (fun h4 => ?_) (fun h4 => ?_)
  · refine R_skip (g_fn rfl rfl (dt h4)) ?_
    refine R_skip (g_fn rfl rfl (dt h4)) ?_
    refine R_skip (g_fn rfl rfl (dt h4)) ?_
    refine R_skip (g_fn rfl rfl (dt h4)) ?_
    refine R_skip (g_fn rfl rfl (dt h4)) ?_
    refine r_pickT (ABool true) rfl (dt h4) rfl rfl ?_
    refine R_nil0 ?_
    refine J_cond_T rfl rfl ?_
    refine J_seq ?_
    refine J_region rfl ?_
    refine r_assign (ABool false) rfl rfl ?_
    refine R_nil0 ?_
    exact J_ret hΨ (Res_one rfl) (fun y hy => by cases hy; rfl)
  refine r_move (I_ t1) rfl (g_f rfl rfl (df h4)) ?_
  refine r_faT ((cL 7 c_api_EdgeType) t0.Edges) fo_59_1 rfl rfl (g_f rfl rfl (df h4)) ?_
  refine r_ld (AL 7 c_api_EdgeType t0.Edges) sc_57 rfl rfl (g_f rfl rfl (df h4)) ?_
  refine r_len (cc := c_api_EdgeType) il_57 rfl (g_f rfl rfl (df h4)) ?_
  refine r_geq rfl rfl (g_f rfl rfl (df h4)) ?_
  refine r_pickF (ABool (decide ((t0.Edges.length : Int) ≤ t1))) rfl (df h4) rfl rfl ?_
  refine R_nil0 ?_
  refine J_cond_p rfl (fun h5 => ?_) (fun h5 => ?_)
  · refine J_seq ?_
    refine J_region rfl ?_
    refine r_assign (ABool false) rfl rfl ?_
    refine R_nil0 ?_
    exact J_ret hΨ (Res_one rfl) (fun y hy => by cases hy; rfl)
  refine J_skip ?_
  refine J_seq ?_
  refine J_draw ?_
  refine r_lda (c_api_Types t0) ag_59 rfl rfl rfl rfl ?_
  refine r_move (I_ t2) rfl rfl ?_
  refine r_faT ((cL 7 c_api_EdgeType) t0.Edges) fo_59_1 rfl rfl rfl ?_
  refine r_ld (AL 7 c_api_EdgeType t0.Edges) sc_57 rfl rfl rfl ?_
  refine r_move (I_ t1) rfl rfl ?_
  refine R_if (fun h6 => ?_) (fun _ => R_none)
  refine r_ix (cc := c_api_EdgeType) el_57 rfl rfl h6.1 h6.2 rfl ?_
  refine r_faT (c_i64 ((nth t0.Edges t1).From)) fo_111_1 rfl rfl rfl ?_
  refine r_ld (I_ ((nth t0.Edges t1).From)) sc_3 rfl rfl rfl ?_
  refine R_bind fun b7 h8 => ?_
  refine r_call _ fn_156 (k_types_is _ _ _ _ h8) rfl rfl ?_
  refine r_move (ABool b7) rfl rfl ?_
  refine R_if (fun h9 => ?_) (fun h9 => ?_)
  rotate_left
  · refine R_skip (g_tn rfl rfl (bf h9)) ?_
    refine R_skip (g_tn rfl rfl (bf h9)) ?_
    refine R_skip (g_tn rfl rfl (bf h9)) ?_
    refine R_skip (g_tn rfl rfl (bf h9)) ?_
    refine R_skip (g_tn rfl rfl (bf h9)) ?_
    refine R_skip (g_tn rfl rfl (bf h9)) ?_
    refine R_skip (g_tn rfl rfl (bf h9)) ?_
    refine R_skip (g_tn rfl rfl (bf h9)) ?_
    refine R_skip (g_tn rfl rfl (bf h9)) ?_
    refine r_pickF (ABool false) rfl (bf h9) rfl rfl ?_
    refine r_assign (ABool false) rfl rfl ?_
    refine R_nilD rfl ?_
    exact J_ret hΨ (Res_one rfl) (fun y hy => by cases hy; rfl)
  refine r_lda (c_api_Types t0) ag_59 rfl rfl rfl (g_t rfl rfl h9) ?_
  refine r_move (I_ t3) rfl (g_t rfl rfl h9) ?_
  refine r_faT ((cL 7 c_api_EdgeType) t0.Edges) fo_59_1 rfl rfl (g_t rfl rfl h9) ?_
  refine r_ld (AL 7 c_api_EdgeType t0.Edges) sc_57 rfl rfl (g_t rfl rfl h9) ?_
  refine r_move (I_ t1) rfl (g_t rfl rfl h9) ?_
  refine r_ix (cc := c_api_EdgeType) el_57 rfl rfl h6.1 h6.2 (g_t rfl rfl h9) ?_
  refine r_faT (c_i64 ((nth t0.Edges t1).To)) fo_111_2 rfl rfl (g_t rfl rfl h9) ?_
  refine r_ld (I_ ((nth t0.Edges t1).To)) sc_3 rfl rfl (g_t rfl rfl h9) ?_
  refine R_bind fun b10 h11 => ?_
  refine r_call _ fn_156 (k_types_is _ _ _ _ h11) rfl (g_t rfl rfl h9) ?_
  refine r_pickT (ABool b10) rfl h9 rfl rfl ?_
  refine r_assign (ABool b10) rfl rfl ?_
  refine R_nilD rfl ?_
  exact J_ret hΨ (Res_one rfl) (fun y hy => by cases hy; rfl)
theorem k_rule_makable_2 (t0 : Int) (t1 : api_Graph) (t2 : api_Types) (r : Bool) (hr : rule_makable_2 t0 t1 t2 = some r) : FnP PP 114 [I_ t0, APtr (c_api_Graph t1), APtr (c_api_Types t2)] (ABool r) := by
  refine FnP.of mixed_ Tryz.func114 rfl (n := 28) rfl (fun (r : Bool) => ABool r) nk_args NK.nk rfl hr fun X hΨ => ?_
  refine J_seq ?_
  refine J_region rfl ?_
  refine r_assign (ABool false) rfl rfl ?_
  refine R_nil0 ?_
  refine J_seq ?_
  refine J_region rfl ?_
  refine r_faT ((cL 3 c_api_Edge) t1.Edges) fo_25_1 rfl rfl rfl ?_
  refine r_ld (AL 3 c_api_Edge t1.Edges) sc_23 rfl rfl rfl ?_
  refine r_move (I_ t0) rfl rfl ?_
  refine R_if (fun h1 => ?_) (fun _ => R_none)
  refine r_ix (cc := c_api_Edge) el_23 rfl rfl h1.1 h1.2 rfl ?_
  refine r_lda (c_api_Edge (nth t1.Edges t0)) ag_135 rfl rfl rfl rfl ?_
  refine r_alloc 0 _ z_135 rfl rfl ?_
  refine r_stO (AObj 0) (AAgg (c_api_Edge (nth t1.Edges t0))) (c_api_Edge (nth t1.Edges t0)) sz_135 rfl .obj rfl rfl rfl rfl rfl rfl ?_
  refine R_nil0 ?_
  refine J_seq ?_
  refine J_draw ?_
  refine r_lda (c_api_Types t2) ag_59 rfl rfl rfl rfl ?_
  refine r_faO (AObj 0) 0 fo_135_0 rfl .obj rfl rfl rfl ?_
  refine r_ldO (ABoxAt 0 0) (I_ ((nth t1.Edges t0).Type_)) sc_3 rfl .at rfl rfl rfl ?_
  refine r_faT ((cL 1 c_i64) t1.Nodes) fo_25_0 rfl rfl rfl ?_
  refine r_ld (AL 1 c_i64 t1.Nodes) sc_22 rfl rfl rfl ?_
  refine r_faO (AObj 0) 1 fo_135_1 rfl .obj rfl rfl rfl ?_
  refine r_ldO (ABoxAt 0 1) (I_ ((nth t1.Edges t0).From)) sc_3 rfl .at rfl rfl rfl ?_
  refine R_if (fun h2 => ?_) (fun _ => R_none)
  refine r_ix (cc := c_i64) el_22 rfl rfl h2.1 h2.2 rfl ?_
  refine r_ld (I_ (nth t1.Nodes ((nth t1.Edges t0).From))) sc_3 rfl rfl rfl ?_
  refine r_faT ((cL 1 c_i64) t1.Nodes) fo_25_0 rfl rfl rfl ?_
  refine r_ld (AL 1 c_i64 t1.Nodes) sc_22 rfl rfl rfl ?_
  refine r_faO (AObj 0) 2 fo_135_2 rfl .obj rfl rfl rfl ?_
  refine r_ldO (ABoxAt 0 2) (I_ ((nth t1.Edges t0).To)) sc_3 rfl .at rfl rfl rfl ?_
  refine R_if (fun h3 => ?_) (fun _ => R_none)
  refine r_ix (cc := c_i64) el_22 rfl rfl h3.1 h3.2 rfl ?_
  refine r_ld (I_ (nth t1.Nodes ((nth t1.Edges t0).To))) sc_3 rfl rfl rfl ?_
  refine R_bind fun b4 h5 => ?_
  refine r_call _ fn_115 (k_types_Fits _ _ _ _ _ h5) rfl rfl ?_
  refine r_not rfl rfl ?_
  refine r_assign (ABool (!b4)) rfl rfl ?_
  refine R_nilD rfl ?_
  exact J_ret hΨ (Res_one rfl) (fun y hy => by cases hy; rfl)
theorem k_rule_makable (t0 : api_Types) (t1 : api_Graph) (t2 : (List Int)) (t3 : (List Int)) (r : Bool) (hr : rule_makable t0 t1 t2 t3 = some r) : FnP PP 60 [AAgg (c_api_Types t0), AAgg (c_api_Graph t1), AL 1 c_i64 t2, AL 1 c_i64 t3] (ABool r) := by
  refine FnP.of mixed_ Tryz.func60 rfl (n := 19) rfl (fun (r : Bool) => ABool r) nk_args NK.nk rfl hr fun X hΨ => ?_
  refine J_seq ?_
  refine J_region rfl ?_
  refine r_boxV (AAgg (c_api_Types t0)) rfl rfl ?_
  refine r_boxV (AAgg (c_api_Graph t1)) rfl rfl ?_
  refine r_assign (ABool false) rfl rfl ?_
  refine R_nil0 ?_
  refine J_seq ?_
  refine J_region rfl ?_
  refine r_move (AL 1 c_i64 t2) rfl rfl ?_
  refine r_mkFn [APtr (c_api_Types t0), APtr (c_api_Graph t1)] (fun x => [I_ x]) (fun y => ABool y) (fun x => rule_makable_1 x t0 t1) fn_113 rfl (fun x y h => k_rule_makable_1 x t0 t1 y h) rfl ?_
  refine R_bind fun b1 h2 => ?_
  refine r_call _ fn_80 (k_slices_ContainsFunc_int _ _ _ h2) rfl rfl ?_
  refine r_not rfl rfl ?_
  refine r_move (ABool (!b1)) rfl rfl ?_
  refine R_if (fun h3 => ?_) (fun h3 => ?_)
  rotate_left
  · refine R_skip (g_tn rfl rfl (bf h3)) ?_
    refine R_skip (g_tn rfl rfl (bf h3)) ?_
    refine R_skip (g_tn rfl rfl (bf h3)) ?_
    refine R_skip (g_tn rfl rfl (bf h3)) ?_
    refine r_pickF (ABool false) rfl (bf h3) rfl rfl ?_
    refine r_assign (ABool false) rfl rfl ?_
    refine R_nil0 ?_
    exact J_ret hΨ (Res_one rfl) (fun y hy => by cases hy; rfl)
  refine r_move (AL 1 c_i64 t3) rfl (g_t rfl rfl h3) ?_
  refine r_mkFn [APtr (c_api_Graph t1), APtr (c_api_Types t0)] (fun x => [I_ x]) (fun y => ABool y) (fun x => rule_makable_2 x t1 t0) fn_114 rfl (fun x y h => k_rule_makable_2 x t1 t0 y h) (g_t rfl rfl h3) ?_
  refine R_bind fun b4 h5 => ?_
  refine r_call _ fn_80 (k_slices_ContainsFunc_int _ _ _ h5) rfl (g_t rfl rfl h3) ?_
  refine r_not rfl (g_t rfl rfl h3) ?_
  refine r_pickT (ABool (!b4)) rfl h3 rfl rfl ?_
  refine r_assign (ABool (!b4)) rfl rfl ?_
  refine R_nil0 ?_
  exact J_ret hΨ (Res_one rfl) (fun y hy => by cases hy; rfl)
theorem k_rule_others (t0 : (List Int)) (t1 : Int) (r : (List Int)) (hr : rule_others t0 t1 = some r) : FnP PP 112 [AL 1 c_i64 t0, I_ t1] (AL 1 c_i64 r) := by
  refine FnP.of mixed_ Tryz.func112 rfl (n := 21) rfl (fun (r : (List Int)) => AL 1 c_i64 r) nk_args NK.nk rfl hr fun X hΨ => ?_
  refine J_seq ?_
  refine J_region rfl ?_
  refine r_assign (ANil) rfl rfl ?_
  refine R_nil0 ?_
  refine J_seq ?_
  refine J_region rfl ?_
  refine r_assign (ANil) rfl rfl ?_
  refine R_nil0 ?_
  refine J_seq ?_
  refine J_seq ?_
  refine J_region rfl ?_
  refine r_move (I_ t1) rfl rfl ?_
  refine r_move (I_ 0) rfl rfl ?_
  refine R_nil0 ?_
  refine J_block ?_
  refine J_cv [] [] [0] 1 [(0, AL 1 c_i64 t0), (5, AObj 0), (7, I_ t1), (8, I_ 0)] [(0, .row 3 1 ([].map c_i64))] (.same rfl (.cons (A := ANil) rfl (.nilobj rfl rfl) (.same rfl (.same rfl .nil)))) (.new rfl rfl .nil) rfl rfl ?_
  refine J_it (fun x1 => ⟨fr [(0, AL 1 c_i64 t0), (5, AObj 0), (7, I_ t1), (8, I_ x1.2)], hp [(0, .row 3 1 (x1.1.map c_i64))], 1⟩) (fun E2 hE2 x1 => ?_) (by rfl)
  refine J_seq ?_
  refine J_region rfl ?_
  refine r_lss rfl rfl rfl ?_
  refine R_nil0 ?_
  refine J_seq ?_
  refine J_cond_p rfl (fun h9 => ?_) (fun h9 => ?_)
  rotate_left
  · refine J_exit rfl ?_
    refine J_outS ?_
    refine J_seq ?_
    refine J_region rfl ?_
    refine r_move (AObj 0) rfl rfl ?_
    refine r_assign (AObj 0) rfl rfl ?_
    refine R_nil0 ?_
    exact J_retF hΨ (Res_box rfl (.tmp (A := AObj 0) rfl)) (fun y hy => by cases hy; exact (.frow rfl rfl (NKC.flat _ _)))
  refine J_skip ?_
  refine J_seq ?_
  refine J_block ?_
  refine J_seq ?_
  refine J_region rfl ?_
  refine r_move (I_ x1.2) rfl rfl ?_
  refine r_assign (I_ x1.2) rfl rfl ?_
  refine R_nil0 ?_
  refine J_seq ?_
  refine J_region rfl ?_
  refine r_move (AL 1 c_i64 t0) rfl rfl ?_
  refine r_move (I_ x1.2) rfl rfl ?_
  refine R_bind fun b10 h11 => ?_
  refine r_call _ fn_154 (k_slices_Contains_int _ _ _ h11) rfl rfl ?_
  refine r_not rfl rfl ?_
  refine R_nil0 ?_
  apply J_joinA (fun v14 => ⟨fr [(0, AL 1 c_i64 t0), (5, AObj 0), (6, I_ x1.2), (7, I_ t1), (8, I_ x1.2), (10, I_ x1.2), (12, I_ x1.2)], hp [(0, .row 3 1 (v14.map c_i64))], 1⟩) (fun v14 => rule_others_j14 x1 v14)
  · intro K15
    refine J_cond rfl (fun h12 => ?_) (fun h12 => ?_)
    rotate_left
    · refine J_skip ?_
      refine J_cv [] [] [] 1 [(0, AL 1 c_i64 t0), (5, AObj 0), (6, I_ x1.2), (7, I_ t1), (8, I_ x1.2), (10, I_ x1.2), (12, I_ x1.2)] [(0, .row 3 1 (x1.1.map c_i64))] (.same rfl (.cons (A := AObj 0) rfl (.obj rfl rfl rfl) (.same rfl (.same rfl (.same rfl (.same rfl (.same rfl .nil))))))) (.cons rfl rfl rfl rfl (.row (NKC.flat _ _)) rfl rfl .nil) rfl rfl ?_
      exact K15 x1.1
    refine J_region rfl ?_
    refine r_move (AObj 0) rfl rfl ?_
    refine r_move (I_ x1.2) rfl rfl ?_
    refine r_bs (cc := c_i64) [x1.2] el_22 zr_3_1 (.cons (A := I_ x1.2) rfl rfl rfl .nil) rfl rfl rfl ?_
    refine R_if (fun h13 => ?_) (fun _ => R_none)
    refine r_app (cc := c_i64) (xs := x1.1) (ys := [x1.2]) 1 ap_22 rfl rfl rfl h13 rfl rfl rfl ?_
    refine r_assign (AObj 1) rfl rfl ?_
    refine R_nil0 ?_
    refine J_cv [] [(0, 1)] [] 1 [(0, AL 1 c_i64 t0), (5, AObj 0), (6, I_ x1.2), (7, I_ t1), (8, I_ x1.2), (10, I_ x1.2), (12, I_ x1.2)] [(0, .row 3 1 ((x1.1 ++ [x1.2]).map c_i64))] (.same rfl (.cons (A := AObj 1) rfl (.obj rfl rfl rfl) (.same rfl (.same rfl (.same rfl (.same rfl (.same rfl .nil))))))) (.cons rfl rfl rfl rfl (.row (NKC.flat _ _)) rfl rfl .nil) rfl rfl ?_
    exact K15 (x1.1 ++ [x1.2])
  intro v14
  refine J_inBlock ?_
  refine J_range 7 (m := t1) rfl fun q16 => ?_
  refine J_range 6 (m := x1.2) rfl fun q17 => ?_
  refine J_region rfl ?_
  refine r_add (x1.2 + 1) rfl rfl (wrap_i64 (by omega) (by omega)) rfl ?_
  refine r_move (I_ (x1.2 + 1)) rfl rfl ?_
  refine R_nil0 ?_
  refine J_go ?_
  refine J_cv [] [] [] 1 [(0, AL 1 c_i64 t0), (5, AObj 0), (7, I_ t1), (8, I_ (x1.2 + 1))] [(0, .row 3 1 (v14.map c_i64))] (.same rfl (.cons (A := AObj 0) rfl (.obj rfl rfl rfl) (.same rfl (.same rfl .nil)))) (.cons rfl rfl rfl rfl (.row (NKC.flat _ _)) rfl rfl .nil) rfl rfl ?_
  exact hE2 (v14, x1.2 + 1)
theorem k_rule_created (t0 : api_Rule) (r : (List Int) × (List Int)) (hr : rule_created t0 = some r) : FnP PP 62 [AAgg (c_api_Rule t0)] (ATup [AL 1 c_i64 r.1, AL 1 c_i64 r.2]) := by
  refine FnP.of mixed_ Tryz.func62 rfl (n := 22) rfl (fun (r : (List Int) × (List Int)) => ATup [AL 1 c_i64 r.1, AL 1 c_i64 r.2]) nk_args NK.nk rfl hr fun X hΨ => ?_
  refine J_seq ?_
  refine J_region rfl ?_
  refine r_boxV (AAgg (c_api_Rule t0)) rfl rfl ?_
  refine r_assign (ANil) rfl rfl ?_
  refine r_assign (ANil) rfl rfl ?_
  refine R_nil0 ?_
  refine J_seq ?_
  refine J_draw ?_
  refine r_faT (c_api_Morphism t0.Into) fo_37_4 rfl rfl rfl ?_
  refine r_faT ((cL 1 c_i64) t0.Into.Nodes) fo_32_0 rfl rfl rfl ?_
  refine r_ld (AL 1 c_i64 t0.Into.Nodes) sc_22 rfl rfl rfl ?_
  refine r_faT (c_api_Pattern t0.Right) fo_37_2 rfl rfl rfl ?_
  refine r_faT (c_api_Graph t0.Right.Graph) fo_29_0 rfl rfl rfl ?_
  refine r_faT ((cL 1 c_i64) t0.Right.Graph.Nodes) fo_25_0 rfl rfl rfl ?_
  refine r_ld (AL 1 c_i64 t0.Right.Graph.Nodes) sc_22 rfl rfl rfl ?_
  refine r_len (cc := c_i64) il_22 rfl rfl ?_
  refine R_bind fun b1 h2 => ?_
  refine r_call _ fn_112 (k_rule_others _ _ _ h2) rfl rfl ?_
  refine r_faT (c_api_Morphism t0.Into) fo_37_4 rfl rfl rfl ?_
  refine r_faT ((cL 1 c_i64) t0.Into.Edges) fo_32_1 rfl rfl rfl ?_
  refine r_ld (AL 1 c_i64 t0.Into.Edges) sc_22 rfl rfl rfl ?_
  refine r_faT (c_api_Pattern t0.Right) fo_37_2 rfl rfl rfl ?_
  refine r_faT (c_api_Graph t0.Right.Graph) fo_29_0 rfl rfl rfl ?_
  refine r_faT ((cL 3 c_api_Edge) t0.Right.Graph.Edges) fo_25_1 rfl rfl rfl ?_
  refine r_ld (AL 3 c_api_Edge t0.Right.Graph.Edges) sc_23 rfl rfl rfl ?_
  refine r_len (cc := c_api_Edge) il_23 rfl rfl ?_
  refine R_bind fun b3 h4 => ?_
  refine r_call _ fn_112 (k_rule_others _ _ _ h4) rfl rfl ?_
  refine r_assign (AL 1 c_i64 b1) rfl rfl ?_
  refine r_assign (AL 1 c_i64 b3) rfl rfl ?_
  refine R_nilD rfl ?_
  exact J_ret hΨ (Res_many (As := [AL 1 c_i64 b1, AL 1 c_i64 b3]) rfl rfl (.cons (.tmp (A := AL 1 c_i64 b1) rfl) (.cons (.tmp (A := AL 1 c_i64 b3) rfl) .nil))) (fun y hy => by cases hy; rfl)
theorem k_graph_within (t0 : Int) (t1 : Int) (r : Bool) (hr : graph_within t0 t1 = some r) : FnP PP 82 [I_ t0, I_ t1] (ABool r) := by
  refine FnP.of mixed_ Tryz.func82 rfl (n := 12) rfl (fun (r : Bool) => ABool r) nk_args NK.nk rfl hr fun X hΨ => ?_
  refine J_seq ?_
  refine J_region rfl ?_
  refine r_assign (ABool false) rfl rfl ?_
  refine R_nil0 ?_
  refine J_seq ?_
  refine J_region rfl ?_
  refine r_move (I_ t0) rfl rfl ?_
  refine r_geq rfl rfl rfl ?_
  refine r_move (ABool (decide (0 ≤ t0))) rfl rfl ?_
  refine R_if (fun h1 => ?_) (fun h1 => ?_)
  · refine r_move (I_ t0) rfl (g_t rfl rfl (dt h1)) ?_
    refine r_move (I_ t1) rfl (g_t rfl rfl (dt h1)) ?_
    refine r_leq rfl rfl (g_t rfl rfl (dt h1)) ?_
    refine r_pickT (ABool (decide (t0 ≤ t1))) rfl (dt h1) rfl rfl ?_
    refine r_assign (ABool (decide (t0 ≤ t1))) rfl rfl ?_
    refine R_nil0 ?_
    exact J_ret hΨ (Res_one rfl) (fun y hy => by cases hy; rfl)
  refine R_skip (g_tn rfl rfl (df h1)) ?_
  refine R_skip (g_tn rfl rfl (df h1)) ?_
  refine R_skip (g_tn rfl rfl (df h1)) ?_
  refine r_pickF (ABool false) rfl (df h1) rfl rfl ?_
  refine r_assign (ABool false) rfl rfl ?_
  refine R_nil0 ?_
  exact J_ret hΨ (Res_one rfl) (fun y hy => by cases hy; rfl)
theorem k_graph_Valid_1 (t0 : Int) (r : Bool) (hr : graph_Valid_1 t0 = some r) : FnP PP 81 [I_ t0] (ABool r) := by
  refine FnP.of mixed_ Tryz.func81 rfl (n := 6) rfl (fun (r : Bool) => ABool r) nk_args NK.nk rfl hr fun X hΨ => ?_
  refine J_seq ?_
  refine J_region rfl ?_
  refine r_assign (ABool false) rfl rfl ?_
  refine R_nil0 ?_
  refine J_seq ?_
  refine J_region rfl ?_
  refine r_move (I_ t0) rfl rfl ?_
  refine R_bind fun b1 h2 => ?_
  refine r_call _ fn_82 (k_graph_within _ _ _ h2) rfl rfl ?_
  refine r_not rfl rfl ?_
  refine r_assign (ABool (!b1)) rfl rfl ?_
  refine R_nil0 ?_
  exact J_ret hΨ (Res_one rfl) (fun y hy => by cases hy; rfl)
theorem k_slices_IndexFunc_api_Edge (t0 : (List api_Edge)) (t1 : (api_Edge → Option Bool)) (r : Int) (hr : slices_IndexFunc_api_Edge t0 t1 = some r) : FnP PP 143 [AL 3 c_api_Edge t0, AFn PP (fun x => [AAgg (c_api_Edge x)]) (fun y => ABool y) t1] (I_ r) := by
  refine FnP.of mixed_ Tryz.func143 rfl (n := 19) rfl (fun (r : Int) => I_ r) nk_args NK.nk rfl hr fun X hΨ => ?_
  refine J_seq ?_
  refine J_region rfl ?_
  refine r_assign (I_ 0) rfl rfl ?_
  refine R_nil0 ?_
  refine J_seq ?_
  refine J_seq ?_
  refine J_region rfl ?_
  refine r_move (AL 3 c_api_Edge t0) rfl rfl ?_
  refine r_len (cc := c_api_Edge) il_23 rfl rfl ?_
  refine r_move (I_ 0) rfl rfl ?_
  refine R_nil0 ?_
  refine J_block ?_
  refine J_to [(0, AL 3 c_api_Edge t0), (1, AFn PP (fun x => [AAgg (c_api_Edge x)]) (fun y => ABool y) t1), (7, I_ (t0.length : Int)), (8, I_ 0)] (.cons rfl (.cons rfl (.cons rfl (.cons rfl .nil)))) ?_
  refine J_it (fun x1 => ⟨fr [(0, AL 3 c_api_Edge t0), (1, AFn PP (fun x => [AAgg (c_api_Edge x)]) (fun y => ABool y) t1), (7, I_ (t0.length : Int)), (8, I_ x1)], fun _ => none, 0⟩) (fun E2 hE2 x1 => ?_) (by rfl)
  refine J_seq ?_
  refine J_region rfl ?_
  refine r_lss rfl rfl rfl ?_
  refine R_nil0 ?_
  refine J_seq ?_
  refine J_cond_p rfl (fun h8 => ?_) (fun h8 => ?_)
  rotate_left
  · refine J_exit rfl ?_
    refine J_outS ?_
    refine J_seq ?_
    refine J_region rfl ?_
    refine r_assign (I_ (-1)) rfl rfl ?_
    refine R_nil0 ?_
    exact J_ret hΨ (Res_one rfl) (fun y hy => by cases hy; rfl)
  refine J_skip ?_
  refine J_seq ?_
  refine J_block ?_
  refine J_seq ?_
  refine J_region rfl ?_
  refine r_move (I_ x1) rfl rfl ?_
  refine r_assign (I_ x1) rfl rfl ?_
  refine R_nil0 ?_
  refine J_seq ?_
  refine J_region rfl ?_
  refine r_move (AFn PP (fun x => [AAgg (c_api_Edge x)]) (fun y => ABool y) t1) rfl rfl ?_
  refine r_move (AL 3 c_api_Edge t0) rfl rfl ?_
  refine r_move (I_ x1) rfl rfl ?_
  refine R_if (fun h9 => ?_) (fun _ => R_none)
  refine r_ix (cc := c_api_Edge) el_23 rfl rfl h9.1 h9.2 rfl ?_
  refine r_lda (c_api_Edge (nth t0 x1)) ag_135 rfl rfl rfl rfl ?_
  refine R_bind fun b10 h11 => ?_
  refine r_callFn (ga := (fun x => [AAgg (c_api_Edge x)])) (rt := (fun y => ABool y)) (gg := t1) (u := (nth t0 x1)) (w := b10) rfl rfl h11 (NK.nk) rfl ?_
  refine R_nil0 ?_
  refine J_cond rfl (fun h12 => ?_) (fun h12 => ?_)
  · refine J_seq ?_
    refine J_region rfl ?_
    refine r_move (I_ x1) rfl rfl ?_
    refine r_assign (I_ x1) rfl rfl ?_
    refine R_nil0 ?_
    refine J_outS ?_
    exact J_ret hΨ (Res_one rfl) (fun y hy => by cases hy; rfl)
  refine J_skip ?_
  refine J_inBlock ?_
  refine J_range 7 (m := (t0.length : Int)) rfl fun q13 => ?_
  refine J_range 5 (m := x1) rfl fun q14 => ?_
  refine J_region rfl ?_
  refine r_add (x1 + 1) rfl rfl (wrap_i64 (by omega) (by omega)) rfl ?_
  refine r_move (I_ (x1 + 1)) rfl rfl ?_
  refine R_nil0 ?_
  refine J_go ?_
  refine J_to [(0, AL 3 c_api_Edge t0), (1, AFn PP (fun x => [AAgg (c_api_Edge x)]) (fun y => ABool y) t1), (7, I_ (t0.length : Int)), (8, I_ (x1 + 1))] (.cons rfl (.cons rfl (.cons rfl (.cons rfl .nil)))) ?_
  exact hE2 (x1 + 1)
theorem k_slices_ContainsFunc_api_Edge (t0 : (List api_Edge)) (t1 : (api_Edge → Option Bool)) (r : Bool) (hr : slices_ContainsFunc_api_Edge t0 t1 = some r) : FnP PP 83 [AL 3 c_api_Edge t0, AFn PP (fun x => [AAgg (c_api_Edge x)]) (fun y => ABool y) t1] (ABool r) := by
  refine FnP.of mixed_ Tryz.func83 rfl (n := 9) rfl (fun (r : Bool) => ABool r) nk_args NK.nk rfl hr fun X hΨ => ?_
  refine J_seq ?_
  refine J_region rfl ?_
  refine r_assign (ABool false) rfl rfl ?_
  refine R_nil0 ?_
  refine J_seq ?_
  refine J_region rfl ?_
  refine r_move (AL 3 c_api_Edge t0) rfl rfl ?_
  refine r_move (AFn PP (fun x => [AAgg (c_api_Edge x)]) (fun y => ABool y) t1) rfl rfl ?_
  refine R_bind fun b1 h2 => ?_
  refine r_call _ fn_143 (k_slices_IndexFunc_api_Edge _ _ _ h2) rfl rfl ?_
  refine r_geq rfl rfl rfl ?_
  refine r_assign (ABool (decide (0 ≤ b1))) rfl rfl ?_
  refine R_nil0 ?_
  exact J_ret hΨ (Res_one rfl) (fun y hy => by cases hy; rfl)
theorem k_graph_fits (t0 : api_Edge) (t1 : Int) (r : Bool) (hr : graph_fits t0 t1 = some r) : FnP PP 85 [AAgg (c_api_Edge t0), I_ t1] (ABool r) := by
  refine FnP.of mixed_ Tryz.func85 rfl (n := 22) rfl (fun (r : Bool) => ABool r) nk_args NK.nk rfl hr fun X hΨ => ?_
  refine J_seq ?_
  refine J_region rfl ?_
  refine r_boxV (AAgg (c_api_Edge t0)) rfl rfl ?_
  refine r_assign (ABool false) rfl rfl ?_
  refine R_nil0 ?_
  refine J_seq ?_
  refine J_region rfl ?_
  refine r_faT (c_i64 t0.Type_) fo_135_0 rfl rfl rfl ?_
  refine r_ld (I_ t0.Type_) sc_3 rfl rfl rfl ?_
  refine R_bind fun b1 h2 => ?_
  refine r_call _ fn_82 (k_graph_within _ _ _ h2) rfl rfl ?_
  refine r_move (ABool b1) rfl rfl ?_
  refine R_if (fun h3 => ?_) (fun h3 => ?_)
  rotate_left
  · refine R_skip (g_tn rfl rfl (bf h3)) ?_
    refine R_skip (g_tn rfl rfl (bf h3)) ?_
    refine R_skip (g_tn rfl rfl (bf h3)) ?_
    refine R_skip (g_tn rfl rfl (bf h3)) ?_
    refine R_skip (g_tn rfl rfl (bf h3)) ?_
    refine r_pickF (ABool false) rfl (bf h3) rfl rfl ?_
    refine r_move (ABool false) rfl rfl ?_
    refine R_skip (g_tn rfl rfl rfl) ?_
    refine R_skip (g_tn rfl rfl rfl) ?_
    refine R_skip (g_tn rfl rfl rfl) ?_
    refine R_skip (g_tn rfl rfl rfl) ?_
    refine R_skip (g_tn rfl rfl rfl) ?_
    refine r_pickF (ABool false) rfl rfl rfl rfl ?_
    refine r_assign (ABool false) rfl rfl ?_
    refine R_nil0 ?_
    exact J_ret hΨ (Res_one rfl) (fun y hy => by cases hy; rfl)
  refine r_faT (c_i64 t0.From) fo_135_1 rfl rfl (g_t rfl rfl h3) ?_
  refine r_ld (I_ t0.From) sc_3 rfl rfl (g_t rfl rfl h3) ?_
  refine r_move (I_ t1) rfl (g_t rfl rfl h3) ?_
  refine R_bind fun b4 h5 => ?_
  refine r_sub b4 rfl rfl (Option.some.inj h5) (g_t rfl rfl h3) ?_
  refine R_bind fun b6 h7 => ?_
  refine r_call _ fn_82 (k_graph_within _ _ _ h7) rfl (g_t rfl rfl h3) ?_
  refine r_pickT (ABool b6) rfl h3 rfl rfl ?_
  refine r_move (ABool b6) rfl rfl ?_
  refine R_if (fun h8 => ?_) (fun h8 => ?_)
  rotate_left
  · refine R_skip (g_tn rfl rfl (bf h8)) ?_
    refine R_skip (g_tn rfl rfl (bf h8)) ?_
    refine R_skip (g_tn rfl rfl (bf h8)) ?_
    refine R_skip (g_tn rfl rfl (bf h8)) ?_
    refine R_skip (g_tn rfl rfl (bf h8)) ?_
    refine r_pickF (ABool false) rfl (bf h8) rfl rfl ?_
    refine r_assign (ABool false) rfl rfl ?_
    refine R_nil0 ?_
    exact J_ret hΨ (Res_one rfl) (fun y hy => by cases hy; rfl)
  refine r_faT (c_i64 t0.To) fo_135_2 rfl rfl (g_t rfl rfl h8) ?_
  refine r_ld (I_ t0.To) sc_3 rfl rfl (g_t rfl rfl h8) ?_
  refine r_move (I_ t1) rfl (g_t rfl rfl h8) ?_
  refine R_bind fun b9 h10 => ?_
  refine r_sub b9 rfl rfl (Option.some.inj h10) (g_t rfl rfl h8) ?_
  refine R_bind fun b11 h12 => ?_
  refine r_call _ fn_82 (k_graph_within _ _ _ h12) rfl (g_t rfl rfl h8) ?_
  refine r_pickT (ABool b11) rfl h8 rfl rfl ?_
  refine r_assign (ABool b11) rfl rfl ?_
  refine R_nil0 ?_
  exact J_ret hΨ (Res_one rfl) (fun y hy => by cases hy; rfl)
theorem k_graph_Valid_2 (t0 : api_Edge) (t1 : api_Graph) (r : Bool) (hr : graph_Valid_2 t0 t1 = some r) : FnP PP 84 [AAgg (c_api_Edge t0), APtr (c_api_Graph t1)] (ABool r) := by
  refine FnP.of mixed_ Tryz.func84 rfl (n := 10) rfl (fun (r : Bool) => ABool r) nk_args NK.nk rfl hr fun X hΨ => ?_
  refine J_seq ?_
  refine J_region rfl ?_
  refine r_boxV (AAgg (c_api_Edge t0)) rfl rfl ?_
  refine r_assign (ABool false) rfl rfl ?_
  refine R_nil0 ?_
  refine J_seq ?_
  refine J_region rfl ?_
  refine r_lda (c_api_Edge t0) ag_135 rfl rfl rfl rfl ?_
  refine r_faT ((cL 1 c_i64) t1.Nodes) fo_25_0 rfl rfl rfl ?_
  refine r_ld (AL 1 c_i64 t1.Nodes) sc_22 rfl rfl rfl ?_
  refine r_len (cc := c_i64) il_22 rfl rfl ?_
  refine R_bind fun b1 h2 => ?_
  refine r_call _ fn_85 (k_graph_fits _ _ _ h2) rfl rfl ?_
  refine r_not rfl rfl ?_
  refine r_assign (ABool (!b1)) rfl rfl ?_
  refine R_nil0 ?_
  exact J_ret hΨ (Res_one rfl) (fun y hy => by cases hy; rfl)
theorem k_graph_Valid (t0 : api_Graph) (r : Int) (hr : graph_Valid t0 = some r) : FnP PP 36 [AAgg (c_api_Graph t0)] (I_ r) := by
  refine FnP.of mixed_ Tryz.func36 rfl (n := 20) rfl (fun (r : Int) => I_ r) nk_args NK.nk rfl hr fun X hΨ => ?_
  refine J_seq ?_
  refine J_region rfl ?_
  refine r_boxV (AAgg (c_api_Graph t0)) rfl rfl ?_
  refine r_assign (I_ 0) rfl rfl ?_
  refine R_nil0 ?_
  refine J_seq ?_
  refine J_seq ?_
  refine J_region rfl ?_
  refine r_faT ((cL 1 c_i64) t0.Nodes) fo_25_0 rfl rfl rfl ?_
  refine r_ld (AL 1 c_i64 t0.Nodes) sc_22 rfl rfl rfl ?_
  refine r_len (cc := c_i64) il_22 rfl rfl ?_
  refine r_gtr rfl rfl rfl ?_
  refine r_move (ABool (decide (40 < (t0.Nodes.length : Int)))) rfl rfl ?_
  refine R_if (fun h1 => ?_) (fun h1 => ?_)
  · refine R_skip (g_fn rfl rfl (dt h1)) ?_
    refine R_skip (g_fn rfl rfl (dt h1)) ?_
    refine R_skip (g_fn rfl rfl (dt h1)) ?_
    refine R_skip (g_fn rfl rfl (dt h1)) ?_
    refine r_pickT (ABool true) rfl (dt h1) rfl rfl ?_
    refine R_nil0 ?_
    refine J_cond_T rfl rfl ?_
    refine J_seq ?_
    refine J_region rfl ?_
    refine r_assign (I_ 3) rfl rfl ?_
    refine R_nil0 ?_
    exact J_ret hΨ (Res_one rfl) (fun y hy => by cases hy; rfl)
  refine r_faT ((cL 3 c_api_Edge) t0.Edges) fo_25_1 rfl rfl (g_f rfl rfl (df h1)) ?_
  refine r_ld (AL 3 c_api_Edge t0.Edges) sc_23 rfl rfl (g_f rfl rfl (df h1)) ?_
  refine r_len (cc := c_api_Edge) il_23 rfl (g_f rfl rfl (df h1)) ?_
  refine r_gtr rfl rfl (g_f rfl rfl (df h1)) ?_
  refine r_pickF (ABool (decide (80 < (t0.Edges.length : Int)))) rfl (df h1) rfl rfl ?_
  refine R_nil0 ?_
  refine J_cond_p rfl (fun h2 => ?_) (fun h2 => ?_)
  · refine J_seq ?_
    refine J_region rfl ?_
    refine r_assign (I_ 3) rfl rfl ?_
    refine R_nil0 ?_
    exact J_ret hΨ (Res_one rfl) (fun y hy => by cases hy; rfl)
  refine J_skip ?_
  refine J_seq ?_
  refine J_seq ?_
  refine J_region rfl ?_
  refine r_faT ((cL 1 c_i64) t0.Nodes) fo_25_0 rfl rfl rfl ?_
  refine r_ld (AL 1 c_i64 t0.Nodes) sc_22 rfl rfl rfl ?_
  refine R_bind fun b3 h4 => ?_
  refine r_callB [] [AL 1 c_i64 t0.Nodes, AClo 81 []] fn_80 (k_slices_ContainsFunc_int _ _ _ h4) .nil rfl (.cons .same (.cons (.cloFn fn_81 (fun x y h => k_graph_Valid_1 x y h)) .nil)) rfl ?_
  refine R_nil0 ?_
  refine J_cond rfl (fun h5 => ?_) (fun h5 => ?_)
  · refine J_seq ?_
    refine J_region rfl ?_
    refine r_assign (I_ 6) rfl rfl ?_
    refine R_nil0 ?_
    exact J_ret hΨ (Res_one rfl) (fun y hy => by cases hy; rfl)
  refine J_skip ?_
  refine J_seq ?_
  refine J_seq ?_
  refine J_region rfl ?_
  refine r_faT ((cL 3 c_api_Edge) t0.Edges) fo_25_1 rfl rfl rfl ?_
  refine r_ld (AL 3 c_api_Edge t0.Edges) sc_23 rfl rfl rfl ?_
  refine r_mkFn [APtr (c_api_Graph t0)] (fun x => [AAgg (c_api_Edge x)]) (fun y => ABool y) (fun x => graph_Valid_2 x t0) fn_84 rfl (fun x y h => k_graph_Valid_2 x t0 y h) rfl ?_
  refine R_bind fun b6 h7 => ?_
  refine r_call _ fn_83 (k_slices_ContainsFunc_api_Edge _ _ _ h7) rfl rfl ?_
  refine R_nil0 ?_
  refine J_cond rfl (fun h8 => ?_) (fun h8 => ?_)
  · refine J_seq ?_
    refine J_region rfl ?_
    refine r_assign (I_ 6) rfl rfl ?_
    refine R_nil0 ?_
    exact J_ret hΨ (Res_one rfl) (fun y hy => by cases hy; rfl)
  refine J_skip ?_
  refine J_seq ?_
  refine J_region rfl ?_
  refine r_assign (I_ 0) rfl rfl ?_
  refine R_nil0 ?_
  exact J_ret hΨ (Res_one rfl) (fun y hy => by cases hy; rfl)
theorem k_attribute_Valid_1 (t0 : Int) (t1 : api_Types) (r : Bool) (hr : attribute_Valid_1 t0 t1 = some r) : FnP PP 127 [I_ t0, APtr (c_api_Types t1)] (ABool r) := by
  refine FnP.of mixed_ Tryz.func127 rfl (n := 9) rfl (fun (r : Bool) => ABool r) nk_args NK.nk rfl hr fun X hΨ => ?_
  refine J_seq ?_
  refine J_region rfl ?_
  refine r_assign (ABool false) rfl rfl ?_
  refine R_nil0 ?_
  refine J_seq ?_
  refine J_region rfl ?_
  refine r_move (I_ t0) rfl rfl ?_
  refine r_faT ((cL 4 c_api_NodeType) t1.Nodes) fo_59_0 rfl rfl rfl ?_
  refine r_ld (AL 4 c_api_NodeType t1.Nodes) sc_56 rfl rfl rfl ?_
  refine r_len (cc := c_api_NodeType) il_56 rfl rfl ?_
  refine r_geq rfl rfl rfl ?_
  refine r_assign (ABool (decide ((t1.Nodes.length : Int) ≤ t0))) rfl rfl ?_
  refine R_nil0 ?_
  exact J_ret hΨ (Res_one rfl) (fun y hy => by cases hy; rfl)
theorem k_attribute_Valid_2 (t0 : api_Edge) (t1 : api_Types) (r : Bool) (hr : attribute_Valid_2 t0 t1 = some r) : FnP PP 128 [AAgg (c_api_Edge t0), APtr (c_api_Types t1)] (ABool r) := by
  refine FnP.of mixed_ Tryz.func128 rfl (n := 10) rfl (fun (r : Bool) => ABool r) nk_args NK.nk rfl hr fun X hΨ => ?_
  refine J_seq ?_
  refine J_region rfl ?_
  refine r_boxV (AAgg (c_api_Edge t0)) rfl rfl ?_
  refine r_assign (ABool false) rfl rfl ?_
  refine R_nil0 ?_
  refine J_seq ?_
  refine J_region rfl ?_
  refine r_faT (c_i64 t0.Type_) fo_135_0 rfl rfl rfl ?_
  refine r_ld (I_ t0.Type_) sc_3 rfl rfl rfl ?_
  refine r_faT ((cL 7 c_api_EdgeType) t1.Edges) fo_59_1 rfl rfl rfl ?_
  refine r_ld (AL 7 c_api_EdgeType t1.Edges) sc_57 rfl rfl rfl ?_
  refine r_len (cc := c_api_EdgeType) il_57 rfl rfl ?_
  refine r_geq rfl rfl rfl ?_
  refine r_assign (ABool (decide ((t1.Edges.length : Int) ≤ t0.Type_))) rfl rfl ?_
  refine R_nil0 ?_
  exact J_ret hΨ (Res_one rfl) (fun y hy => by cases hy; rfl)
theorem k_attribute_within (t0 : Int) (t1 : Int) (t2 : Int) (r : Bool) (hr : attribute_within t0 t1 t2 = some r) : FnP PP 129 [I_ t0, I_ t1, I_ t2] (ABool r) := by
  refine FnP.of mixed_ Tryz.func129 rfl (n := 15) rfl (fun (r : Bool) => ABool r) nk_args NK.nk rfl hr fun X hΨ => ?_
  refine J_seq ?_
  refine J_region rfl ?_
  refine r_assign (ABool false) rfl rfl ?_
  refine R_nil0 ?_
  refine J_seq ?_
  refine J_region rfl ?_
  refine r_move (I_ t0) rfl rfl ?_
  refine r_move (I_ t1) rfl rfl ?_
  refine r_geq rfl rfl rfl ?_
  refine r_move (ABool (decide (t1 ≤ t0))) rfl rfl ?_
  refine R_if (fun h1 => ?_) (fun h1 => ?_)
  · refine r_move (I_ t0) rfl (g_t rfl rfl (dt h1)) ?_
    refine r_move (I_ t2) rfl (g_t rfl rfl (dt h1)) ?_
    refine r_leq rfl rfl (g_t rfl rfl (dt h1)) ?_
    refine r_pickT (ABool (decide (t0 ≤ t2))) rfl (dt h1) rfl rfl ?_
    refine r_assign (ABool (decide (t0 ≤ t2))) rfl rfl ?_
    refine R_nil0 ?_
    exact J_ret hΨ (Res_one rfl) (fun y hy => by cases hy; rfl)
  refine R_skip (g_tn rfl rfl (df h1)) ?_
  refine R_skip (g_tn rfl rfl (df h1)) ?_
  refine R_skip (g_tn rfl rfl (df h1)) ?_
  refine r_pickF (ABool false) rfl (df h1) rfl rfl ?_
  refine r_assign (ABool false) rfl rfl ?_
  refine R_nil0 ?_
  exact J_ret hΨ (Res_one rfl) (fun y hy => by cases hy; rfl)
theorem k_slices_Clone_string (t0 : (List ByteArray)) (r : (List ByteArray)) (hr : slices_Clone_string t0 = some r) : FnP PP 240 [AL 1 c_str t0] (AL 1 c_str r) := by
  refine FnP.of mixed_ Tryz.func240 rfl (n := 8) rfl (fun (r : (List ByteArray)) => AL 1 c_str r) nk_args NK.nk rfl hr fun X hΨ => ?_
  refine J_seq ?_
  refine J_region rfl ?_
  refine r_assign (ANil) rfl rfl ?_
  refine R_nil0 ?_
  refine J_seq ?_
  refine J_seq ?_
  refine J_region rfl ?_
  refine r_move (AL 1 c_str t0) rfl rfl ?_
  refine r_eqNil (cc := c_str) ut_107 rfl rfl rfl ?_
  refine R_nil0 ?_
  refine J_condNil rfl (fun h2 => ?_) ?_
  · obtain rfl := List.eq_nil_of_length_eq_zero h2
    refine J_seq ?_
    refine J_region rfl ?_
    refine r_assign (ANil) rfl rfl ?_
    refine R_nil0 ?_
    exact J_retF hΨ (Res_box rfl (.tmp (A := ANil) rfl)) (fun y hy => by unfold slices_Clone_string at hy; simp at hy; subst hy; exact .nil)
  refine J_skip ?_
  refine J_seq ?_
  refine J_region rfl ?_
  refine r_bs0 0 el_107 rfl rfl ?_
  refine r_move (AL 1 c_str t0) rfl rfl ?_
  refine R_if (fun h1 => ?_) (fun _ => R_none)
  refine r_app0 (cc := c_str) (ys := t0) 1 ap_107 rfl rfl rfl h1 rfl rfl rfl ?_
  refine r_assign (AObj 1) rfl rfl ?_
  refine R_nil0 ?_
  exact J_retF hΨ (Res_box rfl (.tmp (A := AObj 1) rfl)) (fun y hy => by cases hy; exact (.frow rfl rfl (NKC.flat _ _)))
theorem k_types_Attrs (t0 : api_Types) (t1 : Int) (r : (List api_Attr) × Int) (hr : types_Attrs t0 t1 = some r) : FnP PP 181 [AAgg (c_api_Types t0), I_ t1] (ATup [AL 4 c_api_Attr r.1, I_ r.2]) := by
  refine FnP.of mixed_ Tryz.func181 rfl (n := 36) rfl (fun (r : (List api_Attr) × Int) => ATup [AL 4 c_api_Attr r.1, I_ r.2]) nk_args NK.nk rfl hr fun X hΨ => ?_
  refine J_seq ?_
  refine J_region rfl ?_
  refine r_boxV (AAgg (c_api_Types t0)) rfl rfl ?_
  refine r_assign (ANil) rfl rfl ?_
  refine r_assign (I_ 0) rfl rfl ?_
  refine R_nil0 ?_
  refine J_seq ?_
  refine J_seq ?_
  refine J_region rfl ?_
  refine r_lda (c_api_Types t0) ag_59 rfl rfl rfl rfl ?_
  refine r_move (I_ t1) rfl rfl ?_
  refine r_bs (cc := c_i64) [t1] el_22 zr_3_1 (.cons (A := I_ t1) rfl rfl rfl .nil) rfl rfl rfl ?_
  refine R_bind fun b1 h2 => ?_
  refine r_call _ fn_155 (k_types_given _ _ _ h2) rfl rfl ?_
  refine r_assign (I_ b1) rfl rfl ?_
  refine R_nil0 ?_
  refine J_seq ?_
  refine J_region rfl ?_
  refine r_move (I_ b1) rfl rfl ?_
  refine r_neq rfl rfl rfl ?_
  refine R_nil0 ?_
  refine J_cond_p rfl (fun h3 => ?_) (fun h3 => ?_)
  · refine J_seq ?_
    refine J_region rfl ?_
    refine r_move (I_ b1) rfl rfl ?_
    refine r_assign (ANil) rfl rfl ?_
    refine r_assign (I_ b1) rfl rfl ?_
    refine R_nil0 ?_
    exact J_retF hΨ (Res_many (As := [ANil, I_ b1]) rfl rfl (.cons (.tmp (A := ANil) rfl) (.cons (.tmp (A := I_ b1) rfl) .nil))) (fun y hy => by cases hy; exact (.tup (.cons .nil (.cons .same .nil))))
  refine J_skip ?_
  refine J_seq ?_
  refine J_region rfl ?_
  refine r_lda (c_api_Types t0) ag_59 rfl rfl rfl rfl ?_
  refine r_move (I_ t1) rfl rfl ?_
  refine R_bind fun b4 h5 => ?_
  refine r_callK [] [] [] [0] 1 [] [(0, .row 109 4 (b4.map c_api_Attr))] (AObj 0) [AAgg (c_api_Types t0), I_ t1] fn_174 (k_types_attrs _ _ _ h5) .nil rfl (.cons .same (.cons .same .nil)) .nil (.cons rfl rfl rfl rfl (.row (NKC.flat _ _)) rfl rfl .nil) (.obj rfl rfl rfl) rfl rfl rfl ?_
  refine r_assign (AObj 0) rfl rfl ?_
  refine R_nil0 ?_
  refine J_seq ?_
  refine J_seq ?_
  refine J_region rfl ?_
  refine r_move (AObj 0) rfl rfl ?_
  refine r_lenO (cc := c_api_Attr) b4 il_104 rfl rfl rfl ?_
  refine r_move (I_ 0) rfl rfl ?_
  refine R_nil0 ?_
  refine J_block ?_
  refine J_cv [] [] [] 1 [(5, I_ 0), (6, I_ b1), (7, AObj 0), (12, I_ b1), (13, I_ b1), (20, I_ (b4.length : Int)), (21, I_ 0)] [(0, .row 109 4 (b4.map c_api_Attr))] (.same rfl (.same rfl (.cons (A := AObj 0) rfl (.obj rfl rfl rfl) (.same rfl (.same rfl (.same rfl (.same rfl .nil))))))) (.cons rfl rfl rfl rfl (.row (NKC.flat _ _)) rfl rfl .nil) rfl rfl ?_
  refine J_it (fun x6 => ⟨fr [(5, I_ 0), (6, I_ b1), (7, AObj 0), (12, I_ b1), (13, I_ b1), (20, I_ (b4.length : Int)), (21, I_ x6.2)], hp [(0, .row 109 4 (x6.1.map c_api_Attr))], 1⟩) (fun E7 hE7 x6 => ?_) (by rfl)
  refine J_seq ?_
  refine J_region rfl ?_
  refine r_lss rfl rfl rfl ?_
  refine R_nil0 ?_
  refine J_seq ?_
  refine J_cond_p rfl (fun h12 => ?_) (fun h12 => ?_)
  rotate_left
  · refine J_exit rfl ?_
    refine J_outS ?_
    refine J_seq ?_
    refine J_region rfl ?_
    refine r_move (AObj 0) rfl rfl ?_
    refine r_assign (AObj 0) rfl rfl ?_
    refine r_assign (I_ 0) rfl rfl ?_
    refine R_nil0 ?_
    exact J_retF hΨ (Res_many (As := [AObj 0, I_ 0]) rfl rfl (.cons (.tmp (A := AObj 0) rfl) (.cons (.tmp (A := I_ 0) rfl) .nil))) (fun y hy => by cases hy; exact (.tup (.cons (.frow rfl rfl (NKC.flat _ _)) (.cons .same .nil))))
  refine J_skip ?_
  refine J_seq ?_
  refine J_block ?_
  refine J_seq ?_
  refine J_region rfl ?_
  refine r_move (I_ x6.2) rfl rfl ?_
  refine r_assign (I_ x6.2) rfl rfl ?_
  refine R_nil0 ?_
  refine J_region rfl ?_
  refine r_move (AObj 0) rfl rfl ?_
  refine r_move (I_ x6.2) rfl rfl ?_
  refine r_move (AObj 0) rfl rfl ?_
  refine r_move (I_ x6.2) rfl rfl ?_
  refine R_if (fun h13 => ?_) (fun _ => R_none)
  refine r_ixO (cc := c_api_Attr) el_104 rfl rfl rfl h13.1 h13.2 rfl ?_
  refine r_faR fo_109_3 rfl rfl ?_
  refine r_ldR (cc := c_api_Attr) x6.2 3 (AL 1 c_str ((nth x6.1 x6.2).Names)) sc_107 rfl rfl h13.1 h13.2 rfl rfl ?_
  refine R_bind fun b14 h15 => ?_
  refine r_call _ fn_240 (k_slices_Clone_string _ _ h15) rfl rfl ?_
  refine r_ixO (cc := c_api_Attr) el_104 rfl rfl rfl h13.1 h13.2 rfl ?_
  refine r_faR fo_109_3 rfl rfl ?_
  refine r_stR (cc := c_api_Attr) x6.2 3 (AL 1 c_str b14) (api_Attr.mk ((nth x6.1 x6.2).Name) ((nth x6.1 x6.2).Low) ((nth x6.1 x6.2).High) b14) sz_107 rfl rfl rfl h13.1 h13.2 rfl rfl rfl rfl ?_
  refine R_nil0 ?_
  refine J_inBlock ?_
  refine J_range 20 (m := (b4.length : Int)) rfl fun q16 => ?_
  refine J_range 8 (m := x6.2) rfl fun q17 => ?_
  refine J_region rfl ?_
  refine r_add (x6.2 + 1) rfl rfl (wrap_i64 (by omega) (by omega)) rfl ?_
  refine r_move (I_ (x6.2 + 1)) rfl rfl ?_
  refine R_nil0 ?_
  refine J_go ?_
  refine J_cv [] [] [] 1 [(5, I_ 0), (6, I_ b1), (7, AObj 0), (12, I_ b1), (13, I_ b1), (20, I_ (b4.length : Int)), (21, I_ (x6.2 + 1))] [(0, .row 109 4 ((x6.1.set x6.2.toNat (api_Attr.mk ((nth x6.1 x6.2).Name) ((nth x6.1 x6.2).Low) ((nth x6.1 x6.2).High) b14)).map c_api_Attr))] (.same rfl (.same rfl (.cons (A := AObj 0) rfl (.obj rfl rfl rfl) (.same rfl (.same rfl (.same rfl (.same rfl .nil))))))) (.cons rfl rfl rfl rfl (.row (NKC.flat _ _)) rfl rfl .nil) rfl rfl ?_
  exact hE7 ((x6.1.set x6.2.toNat (api_Attr.mk ((nth x6.1 x6.2).Name) ((nth x6.1 x6.2).Low) ((nth x6.1 x6.2).High) b14)), x6.2 + 1)
theorem k_attribute_attr (t0 : api_Types) (t1 : api_Pattern) (t2 : api_Slot) (r : api_Attr × Bool) (hr : attribute_attr t0 t1 t2 = some r) : FnP PP 130 [AAgg (c_api_Types t0), AAgg (c_api_Pattern t1), AAgg (c_api_Slot t2)] (ATup [AAgg (c_api_Attr r.1), ABool r.2]) := by
  refine FnP.of mixed_ Tryz.func130 rfl (n := 45) rfl (fun (r : api_Attr × Bool) => ATup [AAgg (c_api_Attr r.1), ABool r.2]) nk_args NK.nk rfl hr fun X hΨ => ?_
  refine J_seq ?_
  refine J_region rfl ?_
  refine r_boxV (AAgg (c_api_Types t0)) rfl rfl ?_
  refine r_boxV (AAgg (c_api_Pattern t1)) rfl rfl ?_
  refine r_boxV (AAgg (c_api_Slot t2)) rfl rfl ?_
  refine r_alloc 0 _ z_109 rfl rfl ?_
  refine r_assign (ABool false) rfl rfl ?_
  refine R_nil0 ?_
  refine J_seq ?_
  refine J_seq ?_
  refine J_region rfl ?_
  refine r_faT (c_i64 t2.Node) fo_156_0 rfl rfl rfl ?_
  refine r_ld (I_ t2.Node) sc_3 rfl rfl rfl ?_
  refine r_faT (c_api_Graph t1.Graph) fo_29_0 rfl rfl rfl ?_
  refine r_faT ((cL 1 c_i64) t1.Graph.Nodes) fo_25_0 rfl rfl rfl ?_
  refine r_ld (AL 1 c_i64 t1.Graph.Nodes) sc_22 rfl rfl rfl ?_
  refine r_len (cc := c_i64) il_22 rfl rfl ?_
  refine R_bind fun b1 h2 => ?_
  refine r_sub b1 rfl rfl (Option.some.inj h2) rfl ?_
  refine R_bind fun b3 h4 => ?_
  refine r_call _ fn_129 (k_attribute_within _ _ _ _ h4) rfl rfl ?_
  refine r_not rfl rfl ?_
  refine R_nil0 ?_
  refine J_cond rfl (fun h5 => ?_) (fun h5 => ?_)
  · refine J_seq ?_
    refine J_region rfl ?_
    refine r_buildI (Cs := [AStr (ByteArray.mk #[]), I_ 0, I_ 0, ANil]) (c_api_Attr (api_Attr.mk (ByteArray.mk #[]) 0 0 [])) pl_109 z_109 .nil rfl (.same (.same (.same (.nl .nil)))) rfl ?_
    refine r_stO (AObj 0) (AAgg (c_api_Attr (api_Attr.mk (ByteArray.mk #[]) 0 0 []))) (c_api_Attr (api_Attr.mk (ByteArray.mk #[]) 0 0 [])) sz_109 rfl .obj rfl rfl rfl rfl rfl rfl ?_
    refine r_assign (ABool false) rfl rfl ?_
    refine R_nil0 ?_
    exact J_ret hΨ (Res_many (As := [AAgg (c_api_Attr (api_Attr.mk (ByteArray.mk #[]) 0 0 [])), ABool false]) rfl rfl (.cons (.boxA (cs := (c_api_Attr (api_Attr.mk (ByteArray.mk #[]) 0 0 []))) ag_109 rfl rfl rfl) (.cons (.tmp (A := ABool false) rfl) .nil))) (fun y hy => by cases hy; rfl)
  refine J_skip ?_
  refine J_seq ?_
  refine J_draw ?_
  refine r_lda (c_api_Types t0) ag_59 rfl rfl rfl rfl ?_
  refine r_faT (c_api_Graph t1.Graph) fo_29_0 rfl rfl rfl ?_
  refine r_faT ((cL 1 c_i64) t1.Graph.Nodes) fo_25_0 rfl rfl rfl ?_
  refine r_ld (AL 1 c_i64 t1.Graph.Nodes) sc_22 rfl rfl rfl ?_
  refine r_faT (c_i64 t2.Node) fo_156_0 rfl rfl rfl ?_
  refine r_ld (I_ t2.Node) sc_3 rfl rfl rfl ?_
  refine R_if (fun h6 => ?_) (fun _ => R_none)
  refine r_ix (cc := c_i64) el_22 rfl rfl h6.1 h6.2 rfl ?_
  refine r_ld (I_ (nth t1.Graph.Nodes t2.Node)) sc_3 rfl rfl rfl ?_
  refine R_bind fun b7 h8 => ?_
  refine r_call _ fn_181 (k_types_Attrs _ _ _ h8) rfl rfl ?_
  refine r_move (ATup [AL 4 c_api_Attr b7.1, I_ b7.2]) rfl rfl ?_
  refine r_ext (AL 4 c_api_Attr b7.1) rfl rfl rfl ?_
  refine r_ext (I_ b7.2) rfl rfl rfl ?_
  refine r_assign (AL 4 c_api_Attr b7.1) rfl rfl ?_
  refine r_assign (I_ b7.2) rfl rfl ?_
  refine R_nilD rfl ?_
  refine J_seq ?_
  refine J_seq ?_
  refine J_region rfl ?_
  refine r_faT (c_i64 t2.Attr) fo_156_1 rfl rfl rfl ?_
  refine r_ld (I_ t2.Attr) sc_3 rfl rfl rfl ?_
  refine r_move (AL 4 c_api_Attr b7.1) rfl rfl ?_
  refine r_len (cc := c_api_Attr) il_104 rfl rfl ?_
  refine R_bind fun b9 h10 => ?_
  refine r_sub b9 rfl rfl (Option.some.inj h10) rfl ?_
  refine R_bind fun b11 h12 => ?_
  refine r_call _ fn_129 (k_attribute_within _ _ _ _ h12) rfl rfl ?_
  refine r_not rfl rfl ?_
  refine R_nil0 ?_
  refine J_cond rfl (fun h13 => ?_) (fun h13 => ?_)
  · refine J_seq ?_
    refine J_region rfl ?_
    refine r_buildI (Cs := [AStr (ByteArray.mk #[]), I_ 0, I_ 0, ANil]) (c_api_Attr (api_Attr.mk (ByteArray.mk #[]) 0 0 [])) pl_109 z_109 .nil rfl (.same (.same (.same (.nl .nil)))) rfl ?_
    refine r_stO (AObj 0) (AAgg (c_api_Attr (api_Attr.mk (ByteArray.mk #[]) 0 0 []))) (c_api_Attr (api_Attr.mk (ByteArray.mk #[]) 0 0 [])) sz_109 rfl .obj rfl rfl rfl rfl rfl rfl ?_
    refine r_assign (ABool false) rfl rfl ?_
    refine R_nil0 ?_
    exact J_ret hΨ (Res_many (As := [AAgg (c_api_Attr (api_Attr.mk (ByteArray.mk #[]) 0 0 [])), ABool false]) rfl rfl (.cons (.boxA (cs := (c_api_Attr (api_Attr.mk (ByteArray.mk #[]) 0 0 []))) ag_109 rfl rfl rfl) (.cons (.tmp (A := ABool false) rfl) .nil))) (fun y hy => by cases hy; rfl)
  refine J_skip ?_
  refine J_seq ?_
  refine J_region rfl ?_
  refine r_move (AL 4 c_api_Attr b7.1) rfl rfl ?_
  refine r_faT (c_i64 t2.Attr) fo_156_1 rfl rfl rfl ?_
  refine r_ld (I_ t2.Attr) sc_3 rfl rfl rfl ?_
  refine R_if (fun h14 => ?_) (fun _ => R_none)
  refine r_ix (cc := c_api_Attr) el_104 rfl rfl h14.1 h14.2 rfl ?_
  refine r_lda (c_api_Attr (nth b7.1 t2.Attr)) ag_109 rfl rfl rfl rfl ?_
  refine r_stO (AObj 0) (AAgg (c_api_Attr (nth b7.1 t2.Attr))) (c_api_Attr (nth b7.1 t2.Attr)) sz_109 rfl .obj rfl rfl rfl rfl rfl rfl ?_
  refine r_assign (ABool true) rfl rfl ?_
  refine R_nil0 ?_
  exact J_ret hΨ (Res_many (As := [AAgg (c_api_Attr (nth b7.1 t2.Attr)), ABool true]) rfl rfl (.cons (.boxA (cs := (c_api_Attr (nth b7.1 t2.Attr))) ag_109 rfl rfl rfl) (.cons (.tmp (A := ABool true) rfl) .nil))) (fun y hy => by cases hy; rfl)
theorem k_difference_term (t0 : Int) (t1 : api_Term) (r : Bool) (hr : difference_term t0 t1 = some r) : FnP PP 241 [I_ t0, AAgg (c_api_Term t1)] (ABool r) := by
  refine FnP.of mixed_ Tryz.func241 rfl (n := 24) rfl (fun (r : Bool) => ABool r) nk_args NK.nk rfl hr fun X hΨ => ?_
  refine J_seq ?_
  refine J_region rfl ?_
  refine r_boxV (AAgg (c_api_Term t1)) rfl rfl ?_
  refine r_assign (ABool false) rfl rfl ?_
  refine R_nil0 ?_
  refine J_seq ?_
  refine J_region rfl ?_
  refine r_faT (c_i64 t1.Var) fo_154_0 rfl rfl rfl ?_
  refine r_ld (I_ t1.Var) sc_3 rfl rfl rfl ?_
  refine r_geq rfl rfl rfl ?_
  refine r_move (ABool (decide ((-1) ≤ t1.Var))) rfl rfl ?_
  refine R_if (fun h1 => ?_) (fun h1 => ?_)
  rotate_left
  · refine R_skip (g_tn rfl rfl (df h1)) ?_
    refine R_skip (g_tn rfl rfl (df h1)) ?_
    refine R_skip (g_tn rfl rfl (df h1)) ?_
    refine R_skip (g_tn rfl rfl (df h1)) ?_
    refine r_pickF (ABool false) rfl (df h1) rfl rfl ?_
    refine r_move (ABool false) rfl rfl ?_
    refine R_skip (g_tn rfl rfl rfl) ?_
    refine R_skip (g_tn rfl rfl rfl) ?_
    refine R_skip (g_tn rfl rfl rfl) ?_
    refine r_pickF (ABool false) rfl rfl rfl rfl ?_
    refine r_move (ABool false) rfl rfl ?_
    refine R_skip (g_tn rfl rfl rfl) ?_
    refine R_skip (g_tn rfl rfl rfl) ?_
    refine R_skip (g_tn rfl rfl rfl) ?_
    refine r_pickF (ABool false) rfl rfl rfl rfl ?_
    refine r_assign (ABool false) rfl rfl ?_
    refine R_nil0 ?_
    exact J_ret hΨ (Res_one rfl) (fun y hy => by cases hy; rfl)
  refine r_faT (c_i64 t1.Var) fo_154_0 rfl rfl (g_t rfl rfl (dt h1)) ?_
  refine r_ld (I_ t1.Var) sc_3 rfl rfl (g_t rfl rfl (dt h1)) ?_
  refine r_move (I_ t0) rfl (g_t rfl rfl (dt h1)) ?_
  refine r_lss rfl rfl (g_t rfl rfl (dt h1)) ?_
  refine r_pickT (ABool (decide (t1.Var < t0))) rfl (dt h1) rfl rfl ?_
  refine r_move (ABool (decide (t1.Var < t0))) rfl rfl ?_
  refine R_if (fun h2 => ?_) (fun h2 => ?_)
  rotate_left
  · refine R_skip (g_tn rfl rfl (df h2)) ?_
    refine R_skip (g_tn rfl rfl (df h2)) ?_
    refine R_skip (g_tn rfl rfl (df h2)) ?_
    refine r_pickF (ABool false) rfl (df h2) rfl rfl ?_
    refine r_move (ABool false) rfl rfl ?_
    refine R_skip (g_tn rfl rfl rfl) ?_
    refine R_skip (g_tn rfl rfl rfl) ?_
    refine R_skip (g_tn rfl rfl rfl) ?_
    refine r_pickF (ABool false) rfl rfl rfl rfl ?_
    refine r_assign (ABool false) rfl rfl ?_
    refine R_nil0 ?_
    exact J_ret hΨ (Res_one rfl) (fun y hy => by cases hy; rfl)
  refine r_faT (c_i64 t1.Add) fo_154_1 rfl rfl (g_t rfl rfl (dt h2)) ?_
  refine r_ld (I_ t1.Add) sc_3 rfl rfl (g_t rfl rfl (dt h2)) ?_
  refine r_geq rfl rfl (g_t rfl rfl (dt h2)) ?_
  refine r_pickT (ABool (decide ((-1000000) ≤ t1.Add))) rfl (dt h2) rfl rfl ?_
  refine r_move (ABool (decide ((-1000000) ≤ t1.Add))) rfl rfl ?_
  refine R_if (fun h3 => ?_) (fun h3 => ?_)
  · refine r_faT (c_i64 t1.Add) fo_154_1 rfl rfl (g_t rfl rfl (dt h3)) ?_
    refine r_ld (I_ t1.Add) sc_3 rfl rfl (g_t rfl rfl (dt h3)) ?_
    refine r_leq rfl rfl (g_t rfl rfl (dt h3)) ?_
    refine r_pickT (ABool (decide (t1.Add ≤ 1000000))) rfl (dt h3) rfl rfl ?_
    refine r_assign (ABool (decide (t1.Add ≤ 1000000))) rfl rfl ?_
    refine R_nil0 ?_
    exact J_ret hΨ (Res_one rfl) (fun y hy => by cases hy; rfl)
  refine R_skip (g_tn rfl rfl (df h3)) ?_
  refine R_skip (g_tn rfl rfl (df h3)) ?_
  refine R_skip (g_tn rfl rfl (df h3)) ?_
  refine r_pickF (ABool false) rfl (df h3) rfl rfl ?_
  refine r_assign (ABool false) rfl rfl ?_
  refine R_nil0 ?_
  exact J_ret hΨ (Res_one rfl) (fun y hy => by cases hy; rfl)
theorem k_difference_one (t0 : Int) (t1 : api_Test) (r : Int) (hr : difference_one t0 t1 = some r) : FnP PP 182 [I_ t0, AAgg (c_api_Test t1)] (I_ r) := by
  refine FnP.of mixed_ Tryz.func182 rfl (n := 27) rfl (fun (r : Int) => I_ r) nk_args NK.nk rfl hr fun X hΨ => ?_
  refine J_seq ?_
  refine J_region rfl ?_
  refine r_boxV (AAgg (c_api_Test t1)) rfl rfl ?_
  refine r_assign (I_ 0) rfl rfl ?_
  refine R_nil0 ?_
  refine J_seq ?_
  refine J_block ?_
  refine J_seq ?_
  apply J_joinA (fun v9 => ⟨fr [(0, I_ t0), (3, APtr (c_api_Test t1)), (7, I_ t1.Kind)], fun _ => none, 0⟩) (fun v9 => difference_one_j9 t0 t1 v9)
  · intro K16
    refine J_region rfl ?_
    refine r_faT (c_i64 t1.Kind) fo_158_0 rfl rfl rfl ?_
    refine r_ld (I_ t1.Kind) sc_3 rfl rfl rfl ?_
    refine r_neq rfl rfl rfl ?_
    refine r_move (ABool (decide (¬ (t1.Kind = 1)))) rfl rfl ?_
    refine R_if (fun h1 => ?_) (fun h1 => ?_)
    rotate_left
    · refine R_skip (g_tn rfl rfl (df h1)) ?_
      refine R_skip (g_tn rfl rfl (df h1)) ?_
      refine R_skip (g_tn rfl rfl (df h1)) ?_
      refine r_pickF (ABool false) rfl (df h1) rfl rfl ?_
      refine r_assign (ABool false) rfl rfl ?_
      refine R_nil0 ?_
      refine J_cond_F rfl rfl ?_
      refine J_to [(0, I_ t0), (3, APtr (c_api_Test t1)), (7, I_ t1.Kind)] (.cons rfl (.cons rfl (.cons rfl .nil))) ?_
      exact K16 ()
    refine r_faT (c_i64 t1.Kind) fo_158_0 rfl rfl (g_t rfl rfl (dt h1)) ?_
    refine r_ld (I_ t1.Kind) sc_3 rfl rfl (g_t rfl rfl (dt h1)) ?_
    refine r_neq rfl rfl (g_t rfl rfl (dt h1)) ?_
    refine r_pickT (ABool (decide (¬ (t1.Kind = 2)))) rfl (dt h1) rfl rfl ?_
    refine r_assign (ABool (decide (¬ (t1.Kind = 2)))) rfl rfl ?_
    refine R_nil0 ?_
    refine J_cond_p rfl (fun h2 => ?_) (fun h2 => ?_)
    rotate_left
    · refine J_to [(0, I_ t0), (3, APtr (c_api_Test t1)), (7, I_ t1.Kind)] (.cons rfl (.cons rfl (.cons rfl .nil))) ?_
      exact K16 ()
    refine J_seq ?_
    refine J_region rfl ?_
    refine r_assign (I_ 1) rfl rfl ?_
    refine R_nil0 ?_
    exact J_ret hΨ (Res_one rfl) (fun y hy => by cases hy; rfl)
  intro v9
  refine J_seq ?_
  refine J_region rfl ?_
  refine r_move (I_ t0) rfl rfl ?_
  refine r_faT (c_api_Term t1.Left) fo_158_1 rfl rfl rfl ?_
  refine r_lda (c_api_Term t1.Left) ag_154 rfl rfl rfl rfl ?_
  refine R_bind fun b10 h11 => ?_
  refine r_call _ fn_241 (k_difference_term _ _ _ h11) rfl rfl ?_
  refine r_not rfl rfl ?_
  refine r_move (ABool (!b10)) rfl rfl ?_
  refine R_if (fun h12 => ?_) (fun h12 => ?_)
  · refine R_skip (g_fn rfl rfl h12) ?_
    refine R_skip (g_fn rfl rfl h12) ?_
    refine R_skip (g_fn rfl rfl h12) ?_
    refine R_skip (g_fn rfl rfl h12) ?_
    refine R_skip (g_fn rfl rfl h12) ?_
    refine r_pickT (ABool true) rfl h12 rfl rfl ?_
    refine r_assign (ABool true) rfl rfl ?_
    refine R_nil0 ?_
    refine J_cond_T rfl rfl ?_
    refine J_seq ?_
    refine J_region rfl ?_
    refine r_assign (I_ 6) rfl rfl ?_
    refine R_nil0 ?_
    exact J_ret hΨ (Res_one rfl) (fun y hy => by cases hy; rfl)
  refine r_move (I_ t0) rfl (g_f rfl rfl (bf h12)) ?_
  refine r_faT (c_api_Term t1.Right) fo_158_2 rfl rfl (g_f rfl rfl (bf h12)) ?_
  refine r_lda (c_api_Term t1.Right) ag_154 rfl rfl rfl (g_f rfl rfl (bf h12)) ?_
  refine R_bind fun b13 h14 => ?_
  refine r_call _ fn_241 (k_difference_term _ _ _ h14) rfl (g_f rfl rfl (bf h12)) ?_
  refine r_not rfl (g_f rfl rfl (bf h12)) ?_
  refine r_pickF (ABool (!b13)) rfl (bf h12) rfl rfl ?_
  refine r_assign (ABool (!b13)) rfl rfl ?_
  refine R_nil0 ?_
  refine J_cond rfl (fun h15 => ?_) (fun h15 => ?_)
  · refine J_seq ?_
    refine J_region rfl ?_
    refine r_assign (I_ 6) rfl rfl ?_
    refine R_nil0 ?_
    exact J_ret hΨ (Res_one rfl) (fun y hy => by cases hy; rfl)
  refine J_skip ?_
  refine J_inBlock ?_
  refine J_seq ?_
  refine J_region rfl ?_
  refine r_assign (I_ 0) rfl rfl ?_
  refine R_nil0 ?_
  exact J_ret hΨ (Res_one rfl) (fun y hy => by cases hy; rfl)
theorem k_difference_Valid (t0 : Int) (t1 : (List api_Test)) (r : Int) (hr : difference_Valid t0 t1 = some r) : FnP PP 131 [I_ t0, AL 5 c_api_Test t1] (I_ r) := by
  refine FnP.of mixed_ Tryz.func131 rfl (n := 30) rfl (fun (r : Int) => I_ r) nk_args NK.nk rfl hr fun X hΨ => ?_
  refine J_seq ?_
  refine J_region rfl ?_
  refine r_assign (I_ 0) rfl rfl ?_
  refine R_nil0 ?_
  refine J_seq ?_
  refine J_seq ?_
  refine J_region rfl ?_
  refine r_move (I_ t0) rfl rfl ?_
  refine r_lss rfl rfl rfl ?_
  refine r_move (ABool (decide (t0 < 0))) rfl rfl ?_
  refine R_if (fun h1 => ?_) (fun h1 => ?_)
  · refine R_skip (g_fn rfl rfl (dt h1)) ?_
    refine R_skip (g_fn rfl rfl (dt h1)) ?_
    refine r_pickT (ABool true) rfl (dt h1) rfl rfl ?_
    refine R_nil0 ?_
    refine J_cond_T rfl rfl ?_
    refine J_seq ?_
    refine J_region rfl ?_
    refine r_assign (I_ 6) rfl rfl ?_
    refine R_nil0 ?_
    exact J_ret hΨ (Res_one rfl) (fun y hy => by cases hy; rfl)
  refine r_move (I_ t0) rfl (g_f rfl rfl (df h1)) ?_
  refine r_gtr rfl rfl (g_f rfl rfl (df h1)) ?_
  refine r_pickF (ABool (decide (12 < t0))) rfl (df h1) rfl rfl ?_
  refine R_nil0 ?_
  refine J_cond_p rfl (fun h2 => ?_) (fun h2 => ?_)
  · refine J_seq ?_
    refine J_region rfl ?_
    refine r_assign (I_ 6) rfl rfl ?_
    refine R_nil0 ?_
    exact J_ret hΨ (Res_one rfl) (fun y hy => by cases hy; rfl)
  refine J_skip ?_
  refine J_seq ?_
  refine J_seq ?_
  refine J_region rfl ?_
  refine r_move (AL 5 c_api_Test t1) rfl rfl ?_
  refine r_len (cc := c_api_Test) il_27 rfl rfl ?_
  refine r_gtr rfl rfl rfl ?_
  refine R_nil0 ?_
  refine J_cond_p rfl (fun h3 => ?_) (fun h3 => ?_)
  · refine J_seq ?_
    refine J_region rfl ?_
    refine r_assign (I_ 3) rfl rfl ?_
    refine R_nil0 ?_
    exact J_ret hΨ (Res_one rfl) (fun y hy => by cases hy; rfl)
  refine J_skip ?_
  refine J_seq ?_
  refine J_seq ?_
  refine J_region rfl ?_
  refine r_move (AL 5 c_api_Test t1) rfl rfl ?_
  refine r_len (cc := c_api_Test) il_27 rfl rfl ?_
  refine r_move (I_ 0) rfl rfl ?_
  refine R_nil0 ?_
  refine J_block ?_
  refine J_cv [] [] [] 0 [(0, I_ t0), (4, I_ 0), (8, I_ t0), (11, I_ t0), (15, I_ (t1.length : Int)), (17, AL 5 c_api_Test t1), (18, I_ (t1.length : Int)), (19, I_ 0)] [] (.same rfl (.same rfl (.same rfl (.same rfl (.same rfl (.same rfl (.same rfl (.same rfl .nil)))))))) .nil rfl rfl ?_
  refine J_it (fun x4 => ⟨fr [(0, I_ t0), (4, I_ 0), (8, I_ t0), (11, I_ t0), (15, I_ (t1.length : Int)), (17, AL 5 c_api_Test t1), (18, I_ (t1.length : Int)), (19, I_ x4)], hp [], 0⟩) (fun E5 hE5 x4 => ?_) (by rfl)
  refine J_seq ?_
  refine J_region rfl ?_
  refine r_lss rfl rfl rfl ?_
  refine R_nil0 ?_
  refine J_seq ?_
  refine J_cond_p rfl (fun h11 => ?_) (fun h11 => ?_)
  rotate_left
  · refine J_exit rfl ?_
    refine J_outS ?_
    refine J_seq ?_
    refine J_region rfl ?_
    refine r_assign (I_ 0) rfl rfl ?_
    refine R_nil0 ?_
    exact J_ret hΨ (Res_one rfl) (fun y hy => by cases hy; rfl)
  refine J_skip ?_
  refine J_seq ?_
  refine J_block ?_
  refine J_seq ?_
  refine J_region rfl ?_
  refine R_if (fun h12 => ?_) (fun _ => R_none)
  refine r_ix (cc := c_api_Test) el_27 rfl rfl h12.1 h12.2 rfl ?_
  refine r_lda (c_api_Test (nth t1 x4)) ag_158 rfl rfl rfl rfl ?_
  refine r_alloc 0 _ z_158 rfl rfl ?_
  refine r_stO (AObj 0) (AAgg (c_api_Test (nth t1 x4))) (c_api_Test (nth t1 x4)) sz_158 rfl .obj rfl rfl rfl rfl rfl rfl ?_
  refine R_nil0 ?_
  refine J_seq ?_
  refine J_region rfl ?_
  refine r_move (I_ t0) rfl rfl ?_
  refine r_ldaO (AObj 0) (c_api_Test (nth t1 x4)) ag_158 rfl .obj rfl rfl rfl rfl ?_
  refine R_bind fun b13 h14 => ?_
  refine r_call _ fn_182 (k_difference_one _ _ _ h14) rfl rfl ?_
  refine r_assign (I_ b13) rfl rfl ?_
  refine R_nil0 ?_
  refine J_seq ?_
  refine J_region rfl ?_
  refine r_move (I_ b13) rfl rfl ?_
  refine r_neq rfl rfl rfl ?_
  refine R_nil0 ?_
  refine J_cond_p rfl (fun h15 => ?_) (fun h15 => ?_)
  · refine J_seq ?_
    refine J_region rfl ?_
    refine r_move (I_ b13) rfl rfl ?_
    refine r_assign (I_ b13) rfl rfl ?_
    refine R_nil0 ?_
    refine J_outS ?_
    exact J_ret hΨ (Res_one rfl) (fun y hy => by cases hy; rfl)
  refine J_skip ?_
  refine J_inBlock ?_
  refine J_range 15 (m := (t1.length : Int)) rfl fun q16 => ?_
  refine J_range 19 (m := x4) rfl fun q17 => ?_
  refine J_region rfl ?_
  refine r_add (x4 + 1) rfl rfl (wrap_i64 (by omega) (by omega)) rfl ?_
  refine r_move (I_ (x4 + 1)) rfl rfl ?_
  refine R_nil0 ?_
  refine J_go ?_
  refine J_cv [] [] [] 0 [(0, I_ t0), (4, I_ 0), (8, I_ t0), (11, I_ t0), (15, I_ (t1.length : Int)), (17, AL 5 c_api_Test t1), (18, I_ (t1.length : Int)), (19, I_ (x4 + 1))] [] (.same rfl (.same rfl (.same rfl (.same rfl (.same rfl (.same rfl (.same rfl (.same rfl .nil)))))))) .nil rfl rfl ?_
  exact hE5 (x4 + 1)
theorem k_slices_Index_bool (t0 : (List Bool)) (t1 : Bool) (r : Int) (hr : slices_Index_bool t0 t1 = some r) : FnP PP 183 [AL 1 c_bool t0, ABool t1] (I_ r) := by
  refine FnP.of mixed_ Tryz.func183 rfl (n := 19) rfl (fun (r : Int) => I_ r) nk_args NK.nk rfl hr fun X hΨ => ?_
  refine J_seq ?_
  refine J_region rfl ?_
  refine r_assign (I_ 0) rfl rfl ?_
  refine R_nil0 ?_
  refine J_seq ?_
  refine J_seq ?_
  refine J_region rfl ?_
  refine r_move (AL 1 c_bool t0) rfl rfl ?_
  refine r_len (cc := c_bool) il_170 rfl rfl ?_
  refine r_move (I_ 0) rfl rfl ?_
  refine R_nil0 ?_
  refine J_block ?_
  refine J_to [(0, AL 1 c_bool t0), (1, ABool t1), (7, I_ (t0.length : Int)), (8, I_ 0)] (.cons rfl (.cons rfl (.cons rfl (.cons rfl .nil)))) ?_
  refine J_it (fun x1 => ⟨fr [(0, AL 1 c_bool t0), (1, ABool t1), (7, I_ (t0.length : Int)), (8, I_ x1)], fun _ => none, 0⟩) (fun E2 hE2 x1 => ?_) (by rfl)
  refine J_seq ?_
  refine J_region rfl ?_
  refine r_lss rfl rfl rfl ?_
  refine R_nil0 ?_
  refine J_seq ?_
  refine J_cond_p rfl (fun h6 => ?_) (fun h6 => ?_)
  rotate_left
  · refine J_exit rfl ?_
    refine J_outS ?_
    refine J_seq ?_
    refine J_region rfl ?_
    refine r_assign (I_ (-1)) rfl rfl ?_
    refine R_nil0 ?_
    exact J_ret hΨ (Res_one rfl) (fun y hy => by cases hy; rfl)
  refine J_skip ?_
  refine J_seq ?_
  refine J_block ?_
  refine J_seq ?_
  refine J_region rfl ?_
  refine r_move (I_ x1) rfl rfl ?_
  refine r_assign (I_ x1) rfl rfl ?_
  refine R_nil0 ?_
  refine J_seq ?_
  refine J_region rfl ?_
  refine r_move (ABool t1) rfl rfl ?_
  refine r_move (AL 1 c_bool t0) rfl rfl ?_
  refine r_move (I_ x1) rfl rfl ?_
  refine R_if (fun h7 => ?_) (fun _ => R_none)
  refine r_ix (cc := c_bool) el_170 rfl rfl h7.1 h7.2 rfl ?_
  refine r_ld (ABool (nth t0 x1)) sc_4 rfl rfl rfl ?_
  refine r_eqB ut_4 rfl rfl rfl ?_
  refine R_nil0 ?_
  refine J_cond rfl (fun h8 => ?_) (fun h8 => ?_)
  · refine J_seq ?_
    refine J_region rfl ?_
    refine r_move (I_ x1) rfl rfl ?_
    refine r_assign (I_ x1) rfl rfl ?_
    refine R_nil0 ?_
    refine J_outS ?_
    exact J_ret hΨ (Res_one rfl) (fun y hy => by cases hy; rfl)
  refine J_skip ?_
  refine J_inBlock ?_
  refine J_range 7 (m := (t0.length : Int)) rfl fun q9 => ?_
  refine J_range 5 (m := x1) rfl fun q10 => ?_
  refine J_region rfl ?_
  refine r_add (x1 + 1) rfl rfl (wrap_i64 (by omega) (by omega)) rfl ?_
  refine r_move (I_ (x1 + 1)) rfl rfl ?_
  refine R_nil0 ?_
  refine J_go ?_
  refine J_to [(0, AL 1 c_bool t0), (1, ABool t1), (7, I_ (t0.length : Int)), (8, I_ (x1 + 1))] (.cons rfl (.cons rfl (.cons rfl (.cons rfl .nil)))) ?_
  exact hE2 (x1 + 1)
theorem k_slices_Contains_bool (t0 : (List Bool)) (t1 : Bool) (r : Bool) (hr : slices_Contains_bool t0 t1 = some r) : FnP PP 132 [AL 1 c_bool t0, ABool t1] (ABool r) := by
  refine FnP.of mixed_ Tryz.func132 rfl (n := 9) rfl (fun (r : Bool) => ABool r) nk_args NK.nk rfl hr fun X hΨ => ?_
  refine J_seq ?_
  refine J_region rfl ?_
  refine r_assign (ABool false) rfl rfl ?_
  refine R_nil0 ?_
  refine J_seq ?_
  refine J_region rfl ?_
  refine r_move (AL 1 c_bool t0) rfl rfl ?_
  refine r_move (ABool t1) rfl rfl ?_
  refine R_bind fun b1 h2 => ?_
  refine r_call _ fn_183 (k_slices_Index_bool _ _ _ h2) rfl rfl ?_
  refine r_geq rfl rfl rfl ?_
  refine r_assign (ABool (decide (0 ≤ b1))) rfl rfl ?_
  refine R_nil0 ?_
  exact J_ret hΨ (Res_one rfl) (fun y hy => by cases hy; rfl)
end Go.Proofs.YtpnfoacmgfklaaaGreat.K
