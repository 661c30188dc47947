/- Each function computes what its plain form says. -/
import Derived.Test.YtpnfoacmgfklaaaGreatPure
import Derived.Test.YtpnfoacmgfklaaaGreatFacts
set_option linter.unusedVariables false
set_option linter.unusedSimpArgs false
namespace Go.Proofs.YtpnfoacmgfklaaaGreat.K
open Go.RowKit Go.Proofs
set_option maxHeartbeats 4000000
set_option maxRecDepth 100000
theorem k_slices_Clone_int (t0 : (List Int)) (r : (List Int)) (hr : slices_Clone_int t0 = some r) : FnK PP 88 0 [] [AL 1 c_i64 t0] [(0, .row 3 1 (r.map c_i64))] (AObj 0) := by
  refine FnK.of mixed_ Tryz.func88 q (n := 8) q (N0 := 0) (ins := []) (args := [AL 1 c_i64 t0]) (fun (r : (List Int)) => [(0, .row 3 1 (r.map c_i64))]) (fun (r : (List Int)) => AObj 0) (KBL.cons inferInstance (inferInstance : KBL 0 [])).kb (InsOk.spec .nil) q hr fun X hΨ => ?_
  refine Jq q <| Ra (ANil) q q <| R0 <| Js <| Jq q <| Rm (AL 1 c_i64 t0) q q <| r_eqNil (cc := c_i64) ut_22 q q q <| R0 ?_
  refine J_condNil q (fun h2 => ?_) ?_
  · obtain rfl := List.eq_nil_of_length_eq_zero h2
    exact Jq q <| Ra (ANil) q q <| R0 <| J_retK hΨ (Res_box q (.tmp (A := ANil) q)) [] [] [0] q (fun y hy => by unfold slices_Clone_int at hy; simp at hy; subst hy; exact ⟨(.new q q .nil), (.nilobj q q)⟩)
  refine J_skip <| Jq q <| r_bs0 0 el_22 q q <| Rm (AL 1 c_i64 t0) q q <| R_if (fun h1 => ?_) (fun _ => R_none)
  exact r_app0 (cc := c_i64) (ys := t0) 1 ap_22 q q q h1 q q q <| Ra (AObj 1) q q <| R0 <| J_retK hΨ (Res_box q (.tmp (A := AObj 1) q)) [] [(0, 1)] [] q (fun y hy => by cases hy; exact ⟨(.cons q q q q (.row (NKC.flat _ _)) q q .nil), (.obj q q q)⟩)
theorem k_slices_Clone_api_Edge (t0 : (List api_Edge)) (r : (List api_Edge)) (hr : slices_Clone_api_Edge t0 = some r) : FnP PP 147 [AL 3 c_api_Edge t0] (AL 3 c_api_Edge r) := by
  refine FnP.of mixed_ Tryz.func147 q (n := 8) q (fun (r : (List api_Edge)) => AL 3 c_api_Edge r) nk_args NK.nk q hr fun X hΨ => ?_
  refine Jq q <| Ra (ANil) q q <| R0 <| Js <| Jq q <| Rm (AL 3 c_api_Edge t0) q q <| r_eqNil (cc := c_api_Edge) ut_23 q q q <| R0 ?_
  refine J_condNil q (fun h2 => ?_) ?_
  · obtain rfl := List.eq_nil_of_length_eq_zero h2
    exact Jq q <| Ra (ANil) q q <| R0 <| J_retF hΨ (Res_box q (.tmp (A := ANil) q)) (fun y hy => by unfold slices_Clone_api_Edge at hy; simp at hy; subst hy; exact .nil)
  refine J_skip <| Jq q <| r_bs0 0 el_23 q q <| Rm (AL 3 c_api_Edge t0) q q <| R_if (fun h1 => ?_) (fun _ => R_none)
  exact r_app0 (cc := c_api_Edge) (ys := t0) 1 ap_23 q q q h1 q q q <| Ra (AObj 1) q q <| R0 <| J_retF hΨ (Res_box q (.tmp (A := AObj 1) q)) (fun y hy => by cases hy; exact (.frow q q (NKC.flat _ _)))
theorem k_rule_copied (t0 : api_Graph) (r : api_Graph) (hr : rule_copied t0 = some r) : FnP PP 89 [AAgg (c_api_Graph t0)] (AAgg (c_api_Graph r)) := by
  refine FnP.of mixed_ Tryz.func89 q (n := 10) q (fun (r : api_Graph) => AAgg (c_api_Graph r)) nk_args NK.nk q hr fun X hΨ => ?_
  refine Jq q <| r_boxV (AAgg (c_api_Graph t0)) q q <| r_alloc 0 _ z_25 q q <| R0 <| Js <| J_draw <| r_faT ((cL 1 c_i64) t0.Nodes) fo_25_0 q q q <| r_ld (AL 1 c_i64 t0.Nodes) sc_22 q q q <| R_bind fun b1 h2 => ?_
  exact r_call _ fn_88 (FnK.toP (r' := AL 1 c_i64 b1) (k_slices_Clone_int _ _ h2) (.frow q q (NKC.flat _ _))) q q <| r_faT ((cL 3 c_api_Edge) t0.Edges) fo_25_1 q q q <| r_ld (AL 3 c_api_Edge t0.Edges) sc_23 q q q <| R_bind fun b3 h4 => r_call _ fn_147 (k_slices_Clone_api_Edge _ _ h4) q q <| r_build (c_api_Graph (api_Graph.mk b1 b3)) pl_25 z_25 (.cons (A := AL 1 c_i64 b1) q po_25_0 q (.cons (A := AL 3 c_api_Edge b3) q po_25_1 q .nil)) q q <| r_stO (AObj 0) (AAgg (c_api_Graph (api_Graph.mk b1 b3))) (c_api_Graph (api_Graph.mk b1 b3)) sz_25 q .obj q q q q q q <| R_nilD (by kernel_rfl) <| Jt hΨ (Res_box q (.boxA (cs := (c_api_Graph (api_Graph.mk b1 b3))) ag_25 q q q)) q q
theorem k_rule_plain (t0 : api_Rule) (r : api_Rule) (hr : rule_plain t0 = some r) : FnP PP 39 [AAgg (c_api_Rule t0)] (AAgg (c_api_Rule r)) := by
  refine FnP.of mixed_ Tryz.func39 q (n := 37) q (fun (r : api_Rule) => AAgg (c_api_Rule r)) nk_args NK.nk q hr fun X hΨ => ?_
  refine Jq q <| r_boxV (AAgg (c_api_Rule t0)) q q <| r_alloc 0 _ z_37 q q <| R0 <| Js <| J_draw <| r_faT (c_str t0.Name) fo_37_0 q q q <| r_ld (AStr t0.Name) sc_9 q q q <| r_faT (c_api_Pattern t0.Left) fo_37_1 q q q ?_
  refine r_faT (c_api_Graph t0.Left.Graph) fo_29_0 q q q <| r_lda (c_api_Graph t0.Left.Graph) ag_25 q q q q <| R_bind fun b1 h2 => r_call _ fn_89 (k_rule_copied _ _ h2) q q <| r_buildI (Cs := [AL 1 c_i64 b1.Nodes, AL 3 c_api_Edge b1.Edges, ANil, I_ 0, ANil]) (c_api_Pattern (api_Pattern.mk b1 [] 0 [])) pl_29 z_29 (.cons (A := AAgg (c_api_Graph b1)) q po_29_0 q .nil) q (.same (.same (.nl (.same (.nl .nil))))) q <| r_faT (c_api_Pattern t0.Right) fo_37_2 q q q <| r_faT (c_api_Graph t0.Right.Graph) fo_29_0 q q q <| r_lda (c_api_Graph t0.Right.Graph) ag_25 q q q q <| R_bind fun b3 h4 => r_call _ fn_89 (k_rule_copied _ _ h4) q q ?_
  refine r_buildI (Cs := [AL 1 c_i64 b3.Nodes, AL 3 c_api_Edge b3.Edges, ANil, I_ 0, ANil]) (c_api_Pattern (api_Pattern.mk b3 [] 0 [])) pl_29 z_29 (.cons (A := AAgg (c_api_Graph b3)) q po_29_0 q .nil) q (.same (.same (.nl (.same (.nl .nil))))) q <| r_faT (c_api_Part t0.Keep) fo_37_3 q q q <| r_faT ((cL 1 c_i64) t0.Keep.Nodes) fo_31_0 q q q <| r_ld (AL 1 c_i64 t0.Keep.Nodes) sc_22 q q q <| R_bind fun b5 h6 => r_call _ fn_88 (FnK.toP (r' := AL 1 c_i64 b5) (k_slices_Clone_int _ _ h6) (.frow q q (NKC.flat _ _))) q q <| r_faT (c_api_Part t0.Keep) fo_37_3 q q q <| r_faT ((cL 1 c_i64) t0.Keep.Edges) fo_31_1 q q q <| r_ld (AL 1 c_i64 t0.Keep.Edges) sc_22 q q q <| R_bind fun b7 h8 => ?_
  refine r_call _ fn_88 (FnK.toP (r' := AL 1 c_i64 b7) (k_slices_Clone_int _ _ h8) (.frow q q (NKC.flat _ _))) q q <| r_build (c_api_Part (api_Part.mk b5 b7)) pl_31 z_31 (.cons (A := AL 1 c_i64 b5) q po_31_0 q (.cons (A := AL 1 c_i64 b7) q po_31_1 q .nil)) q q <| r_faT (c_api_Morphism t0.Into) fo_37_4 q q q <| r_faT ((cL 1 c_i64) t0.Into.Nodes) fo_32_0 q q q <| r_ld (AL 1 c_i64 t0.Into.Nodes) sc_22 q q q <| R_bind fun b9 h10 => r_call _ fn_88 (FnK.toP (r' := AL 1 c_i64 b9) (k_slices_Clone_int _ _ h10) (.frow q q (NKC.flat _ _))) q q <| r_faT (c_api_Morphism t0.Into) fo_37_4 q q q <| r_faT ((cL 1 c_i64) t0.Into.Edges) fo_32_1 q q q <| r_ld (AL 1 c_i64 t0.Into.Edges) sc_22 q q q ?_
  exact R_bind fun b11 h12 => r_call _ fn_88 (FnK.toP (r' := AL 1 c_i64 b11) (k_slices_Clone_int _ _ h12) (.frow q q (NKC.flat _ _))) q q <| r_build (c_api_Morphism (api_Morphism.mk b9 b11)) pl_32 z_32 (.cons (A := AL 1 c_i64 b9) q po_32_0 q (.cons (A := AL 1 c_i64 b11) q po_32_1 q .nil)) q q <| r_faT (c_bool t0.Injective) fo_37_5 q q q <| r_ld (ABool t0.Injective) sc_4 q q q <| r_buildI (Cs := [I_ 1, ANil, ANil, ANil, ANil, ANil, ANil, I_ 0, ANil]) (c_api_Condition (api_Condition.mk 1 [] (api_Morphism.mk [] []) (api_Pattern.mk (api_Graph.mk [] []) [] 0 []))) pl_35 z_35 (.cons (A := I_ 1) q po_35_0 q .nil) q (by rw [c_api_Condition_def]; exact (.same (.nl (.nl (.nl (.nl (.nl (.nl (.same (.nl .nil)))))))))) q <| r_build (c_api_Rule (api_Rule.mk t0.Name (api_Pattern.mk b1 [] 0 []) (api_Pattern.mk b3 [] 0 []) (api_Part.mk b5 b7) (api_Morphism.mk b9 b11) t0.Injective (api_Condition.mk 1 [] (api_Morphism.mk [] []) (api_Pattern.mk (api_Graph.mk [] []) [] 0 [])))) pl_37 z_37 (.cons (A := AStr t0.Name) q po_37_0 q (.cons (A := AAgg (c_api_Pattern (api_Pattern.mk b1 [] 0 []))) q po_37_1 q (.cons (A := AAgg (c_api_Pattern (api_Pattern.mk b3 [] 0 []))) q po_37_2 q (.cons (A := AAgg (c_api_Part (api_Part.mk b5 b7))) q po_37_3 q (.cons (A := AAgg (c_api_Morphism (api_Morphism.mk b9 b11))) q po_37_4 q (.cons (A := ABool t0.Injective) q po_37_5 q (.cons (A := AAgg (c_api_Condition (api_Condition.mk 1 [] (api_Morphism.mk [] []) (api_Pattern.mk (api_Graph.mk [] []) [] 0 [])))) q po_37_6 q .nil))))))) q q <| r_stO (AObj 0) (AAgg (c_api_Rule (api_Rule.mk t0.Name (api_Pattern.mk b1 [] 0 []) (api_Pattern.mk b3 [] 0 []) (api_Part.mk b5 b7) (api_Morphism.mk b9 b11) t0.Injective (api_Condition.mk 1 [] (api_Morphism.mk [] []) (api_Pattern.mk (api_Graph.mk [] []) [] 0 []))))) (c_api_Rule (api_Rule.mk t0.Name (api_Pattern.mk b1 [] 0 []) (api_Pattern.mk b3 [] 0 []) (api_Part.mk b5 b7) (api_Morphism.mk b9 b11) t0.Injective (api_Condition.mk 1 [] (api_Morphism.mk [] []) (api_Pattern.mk (api_Graph.mk [] []) [] 0 [])))) sz_37 q .obj q q q q q q <| R_nilD (by kernel_rfl) <| Jt hΨ (Res_box q (.boxA (cs := (c_api_Rule (api_Rule.mk t0.Name (api_Pattern.mk b1 [] 0 []) (api_Pattern.mk b3 [] 0 []) (api_Part.mk b5 b7) (api_Morphism.mk b9 b11) t0.Injective (api_Condition.mk 1 [] (api_Morphism.mk [] []) (api_Pattern.mk (api_Graph.mk [] []) [] 0 []))))) ag_37 q q q)) q q
theorem k_slices_IndexFunc_int (t0 : (List Int)) (t1 : (Int → Option Bool)) (r : Int) (hr : slices_IndexFunc_int t0 t1 = some r) : FnP PP 142 [AL 1 c_i64 t0, AFn PP (fun x => [I_ x]) (fun y => ABool y) t1] (I_ r) := by
  refine FnP.of mixed_ Tryz.func142 q (n := 19) q (fun (r : Int) => I_ r) nk_args NK.nk q hr fun X hΨ => ?_
  refine Jq q <| Ra (I_ 0) q q <| R0 <| Js <| Jq q <| Rm (AL 1 c_i64 t0) q q <| r_len (cc := c_i64) il_22 q q <| Rm (I_ 0) q q ?_
  refine R0 <| J_block <| J_to [(0, AL 1 c_i64 t0), (1, AFn PP (fun x => [I_ x]) (fun y => ABool y) t1), (7, I_ (t0.length : Int)), (8, I_ 0)] (.cons q (.cons q (.cons q (.cons q .nil)))) <| J_it (fun x1 => ⟨fr [(0, AL 1 c_i64 t0), (1, AFn PP (fun x => [I_ x]) (fun y => ABool y) t1), (7, I_ (t0.length : Int)), (8, I_ x1)], fun _ => none, 0⟩) (fun E2 hE2 x1 => ?_) (by rfl)
  refine Jq q <| r_lss q q q <| R0 <| Js <| J_cond_p q (fun h8 => ?_) (fun h8 => ?_)
  rotate_left
  · exact J_exit q <| J_outS <| Jq q <| Ra (I_ (-1)) q q <| R0 <| Jt hΨ (Res_one q) q q
  refine J_skip <| Js <| J_block <| Jq q <| Rm (I_ x1) q q <| Ra (I_ x1) q q <| R0 <| Jq q ?_
  refine Rm (AFn PP (fun x => [I_ x]) (fun y => ABool y) t1) q q <| Rm (AL 1 c_i64 t0) q q <| Rm (I_ x1) q q <| R_if (fun h9 => ?_) (fun _ => R_none)
  refine r_ix (cc := c_i64) el_22 q q h9.1 h9.2 q <| r_ld (I_ (nth t0 x1)) sc_3 q q q <| R_bind fun b10 h11 => r_callFn (ga := (fun x => [I_ x])) (rt := (fun y => ABool y)) (gg := t1) (u := (nth t0 x1)) (w := b10) q q h11 (NK.nk) q <| R0 <| J_cond q (fun h12 => ?_) (fun h12 => ?_)
  · exact Jq q <| Rm (I_ x1) q q <| Ra (I_ x1) q q <| R0 <| J_outS <| Jt hΨ (Res_one q) q q
  refine J_skip <| J_inBlock <| J_range 7 (m := (t0.length : Int)) q fun q13 => J_range 5 (m := x1) q fun q14 => Jr q <| r_add (x1 + 1) q q (wrap_i64 (by omega) (by omega)) q <| Rm (I_ (x1 + 1)) q q <| R0 <| J_go <| J_to [(0, AL 1 c_i64 t0), (1, AFn PP (fun x => [I_ x]) (fun y => ABool y) t1), (7, I_ (t0.length : Int)), (8, I_ (x1 + 1))] (.cons q (.cons q (.cons q (.cons q .nil)))) ?_
  exact hE2 (x1 + 1)
theorem k_slices_ContainsFunc_int (t0 : (List Int)) (t1 : (Int → Option Bool)) (r : Bool) (hr : slices_ContainsFunc_int t0 t1 = some r) : FnP PP 80 [AL 1 c_i64 t0, AFn PP (fun x => [I_ x]) (fun y => ABool y) t1] (ABool r) := by
  refine FnP.of mixed_ Tryz.func80 q (n := 9) q (fun (r : Bool) => ABool r) nk_args NK.nk q hr fun X hΨ => ?_
  refine Jq q <| Ra (ABool false) q q <| R0 <| Jq q <| Rm (AL 1 c_i64 t0) q q <| Rm (AFn PP (fun x => [I_ x]) (fun y => ABool y) t1) q q <| R_bind fun b1 h2 => r_call _ fn_142 (k_slices_IndexFunc_int _ _ _ h2) q q ?_
  exact r_geq q q q <| Ra (ABool (decide (0 ≤ b1))) q q <| R0 <| Jt hΨ (Res_one q) q q
theorem k_rule_makable_1 (t0 : Int) (t1 : api_Types) (t2 : api_Graph) (r : Bool) (hr : rule_makable_1 t0 t1 t2 = some r) : FnP PP 113 [I_ t0, APtr (c_api_Types t1), APtr (c_api_Graph t2)] (ABool r) := by
  refine FnP.of mixed_ Tryz.func113 q (n := 15) q (fun (r : Bool) => ABool r) nk_args NK.nk q hr fun X hΨ => ?_
  refine Jq q <| Ra (ABool false) q q <| R0 <| Js <| J_draw <| r_faT ((cL 4 c_api_NodeType) t1.Nodes) fo_59_0 q q q <| r_ld (AL 4 c_api_NodeType t1.Nodes) sc_56 q q q <| r_faT ((cL 1 c_i64) t2.Nodes) fo_25_0 q q q <| r_ld (AL 1 c_i64 t2.Nodes) sc_22 q q q ?_
  refine Rm (I_ t0) q q <| R_if (fun h1 => ?_) (fun _ => R_none)
  refine r_ix (cc := c_i64) el_22 q q h1.1 h1.2 q <| r_ld (I_ (nth t2.Nodes t0)) sc_3 q q q <| R_if (fun h2 => ?_) (fun _ => R_none)
  exact r_ix (cc := c_api_NodeType) el_56 q q h2.1 h2.2 q <| r_faT (c_bool ((nth t1.Nodes (nth t2.Nodes t0)).Abstract)) fo_106_2 q q q <| r_ld (ABool ((nth t1.Nodes (nth t2.Nodes t0)).Abstract)) sc_4 q q q <| Ra (ABool ((nth t1.Nodes (nth t2.Nodes t0)).Abstract)) q q <| R_nilD (by kernel_rfl) <| Jt hΨ (Res_one q) q q
theorem k_token_letter (t0 : Int) (r : Bool) (hr : token_letter t0 = some r) : FnP PP 233 [AInt .u8 t0] (ABool r) := by
  refine FnP.of mixed_ Tryz.func233 q (n := 17) q (fun (r : Bool) => ABool r) nk_args NK.nk q hr fun X hΨ => ?_
  refine Jq q <| Ra (ABool false) q q <| R0 <| Jq q <| Rm (AInt .u8 t0) q q <| r_geq q q q <| Rm (ABool (decide (97 ≤ t0))) q q <| R_if (fun h1 => ?_) (fun h1 => ?_)
  rotate_left
  · refine Rk (g_tn q q (df h1)) <| Rk (g_tn q q (df h1)) <| r_pickF (ABool false) q (df h1) q q <| Rm (ABool false) q q <| Rm (AInt .u8 t0) q (g_f q q q) <| r_geq q q (g_f q q q) <| Rm (ABool (decide (65 ≤ t0))) q (g_f q q q) <| R_if (fun h4 => ?_) (fun h4 => ?_)
    · exact Rm (AInt .u8 t0) q (g_t q q (dt h4)) <| r_leq q q (g_t q q (dt h4)) <| r_pickT (ABool (decide (t0 ≤ 90))) q (dt h4) q (g_f q q q) <| r_pickF (ABool (decide (t0 ≤ 90))) q q q q <| Ra (ABool (decide (t0 ≤ 90))) q q <| R0 <| Jt hΨ (Res_one q) q q
    exact Rk (g_tn q q (df h4)) <| Rk (g_tn q q (df h4)) <| r_pickF (ABool false) q (df h4) q (g_f q q q) <| r_pickF (ABool false) q q q q <| Ra (ABool false) q q <| R0 <| Jt hΨ (Res_one q) q q
  refine Rm (AInt .u8 t0) q (g_t q q (dt h1)) <| r_leq q q (g_t q q (dt h1)) <| r_pickT (ABool (decide (t0 ≤ 122))) q (dt h1) q q <| Rm (ABool (decide (t0 ≤ 122))) q q <| R_if (fun h2 => ?_) (fun h2 => ?_)
  · exact Rk (g_fn q q (dt h2)) <| Rk (g_fn q q (dt h2)) <| Rk (g_fn q q (dt h2)) <| Rk (g_u q q) <| Rk (g_u q q) <| Rk (g_fn q q (dt h2)) <| r_pickT (ABool true) q (dt h2) q q <| Ra (ABool true) q q <| R0 <| Jt hΨ (Res_one q) q q
  refine Rm (AInt .u8 t0) q (g_f q q (df h2)) <| r_geq q q (g_f q q (df h2)) <| Rm (ABool (decide (65 ≤ t0))) q (g_f q q (df h2)) <| R_if (fun h3 => ?_) (fun h3 => ?_)
  · exact Rm (AInt .u8 t0) q (g_t q q (dt h3)) <| r_leq q q (g_t q q (dt h3)) <| r_pickT (ABool (decide (t0 ≤ 90))) q (dt h3) q (g_f q q (df h2)) <| r_pickF (ABool (decide (t0 ≤ 90))) q (df h2) q q <| Ra (ABool (decide (t0 ≤ 90))) q q <| R0 <| Jt hΨ (Res_one q) q q
  exact Rk (g_tn q q (df h3)) <| Rk (g_tn q q (df h3)) <| r_pickF (ABool false) q (df h3) q (g_f q q (df h2)) <| r_pickF (ABool false) q (df h2) q q <| Ra (ABool false) q q <| R0 <| Jt hΨ (Res_one q) q q
theorem k_token_run (t0 : ByteArray) (t1 : (Int → Option Bool)) (r : Int) (hr : token_run t0 t1 = some r) : FnP PP 234 [AStr t0, AFn PP (fun x => [AInt .u8 x]) (fun y => ABool y) t1] (I_ r) := by
  refine FnP.of mixed_ Tryz.func234 q (n := 20) q (fun (r : Int) => I_ r) nk_args NK.nk q hr fun X hΨ => ?_
  refine Jq q <| Ra (I_ 0) q q <| R0 <| Jq q <| Ra (I_ 0) q q <| R0 <| Js <| J_block ?_
  refine J_to [(0, AStr t0), (1, AFn PP (fun x => [AInt .u8 x]) (fun y => ABool y) t1), (5, I_ 0)] (.cons q (.cons q (.cons q .nil))) <| J_it (fun x1 => ⟨fr [(0, AStr t0), (1, AFn PP (fun x => [AInt .u8 x]) (fun y => ABool y) t1), (5, I_ x1)], fun _ => none, 0⟩) (fun E2 hE2 x1 => ?_) (by rfl)
  refine Js <| Js ?_
  apply J_joinA (fun v17 => ⟨fr [(5, I_ x1), (6, I_ x1), (8, I_ (t0.size : Int))], fun _ => none, 0⟩) (fun v17 => token_run_j17 x1 v17)
  · intro K18
    refine Jr q <| Rm (I_ x1) q q <| Rm (AStr t0) q q <| r_lenS is_9 q q <| r_lss q q q <| Rm (ABool (decide (x1 < (t0.size : Int)))) q q <| R_if (fun h10 => ?_) (fun h10 => ?_)
    rotate_left
    · exact Rk (g_tn q q (df h10)) <| Rk (g_tn q q (df h10)) <| Rk (g_tn q q (df h10)) <| Rk (g_tn q q (df h10)) <| Rk (g_tn q q (df h10)) <| r_pickF (ABool false) q (df h10) q q <| R0 <| J_cond_F q q <| J_to [(5, I_ x1), (6, I_ x1), (8, I_ (t0.size : Int))] (.cons q (.cons q (.cons q .nil))) <| K18 ()
    refine Rm (AFn PP (fun x => [AInt .u8 x]) (fun y => ABool y) t1) q (g_t q q (dt h10)) <| Rm (AStr t0) q (g_t q q (dt h10)) <| Rm (I_ x1) q (g_t q q (dt h10)) <| R_if (fun h11 => ?_) (fun _ => R_none)
    refine r_ixS ut_9 q q h11.1 h11.2 (g_t q q (dt h10)) <| R_bind fun b12 h13 => r_callFn (ga := (fun x => [AInt .u8 x])) (rt := (fun y => ABool y)) (gg := t1) (u := byteAt t0 x1) (w := b12) q q h13 (NK.nk) (g_t q q (dt h10)) <| r_pickT (ABool b12) q (dt h10) q q <| R0 <| J_cond q (fun h14 => ?_) (fun h14 => ?_)
    rotate_left
    · exact J_to [(5, I_ x1), (6, I_ x1), (8, I_ (t0.size : Int))] (.cons q (.cons q (.cons q .nil))) <| K18 ()
    refine J_skip <| J_block <| J_range 8 (m := (t0.size : Int)) q fun q15 => J_range 5 (m := x1) q fun q16 => Jr q <| Rm (I_ x1) q q <| r_add (x1 + 1) q q (wrap_i64 (by omega) (by omega)) q <| Ra (I_ (x1 + 1)) q q <| R0 <| J_inBlock ?_
    exact J_go <| J_to [(0, AStr t0), (1, AFn PP (fun x => [AInt .u8 x]) (fun y => ABool y) t1), (5, I_ (x1 + 1))] (.cons q (.cons q (.cons q .nil))) <| hE2 (x1 + 1)
  intro v17
  exact J_exit q <| J_outS <| Jq q <| Rm (I_ x1) q q <| Ra (I_ x1) q q <| R0 <| Jt hΨ (Res_one q) q q
theorem k_token_digit (t0 : Int) (r : Bool) (hr : token_digit t0 = some r) : FnP PP 236 [AInt .u8 t0] (ABool r) := by
  refine FnP.of mixed_ Tryz.func236 q (n := 9) q (fun (r : Bool) => ABool r) nk_args NK.nk q hr fun X hΨ => ?_
  refine Jq q <| Ra (ABool false) q q <| R0 <| Jq q <| Rm (AInt .u8 t0) q q <| r_geq q q q <| Rm (ABool (decide (48 ≤ t0))) q q <| R_if (fun h1 => ?_) (fun h1 => ?_)
  · exact Rm (AInt .u8 t0) q (g_t q q (dt h1)) <| r_leq q q (g_t q q (dt h1)) <| r_pickT (ABool (decide (t0 ≤ 57))) q (dt h1) q q <| Ra (ABool (decide (t0 ≤ 57))) q q <| R0 <| Jt hΨ (Res_one q) q q
  exact Rk (g_tn q q (df h1)) <| Rk (g_tn q q (df h1)) <| r_pickF (ABool false) q (df h1) q q <| Ra (ABool false) q q <| R0 <| Jt hΨ (Res_one q) q q
theorem k_token_part (t0 : Int) (r : Bool) (hr : token_part t0 = some r) : FnP PP 235 [AInt .u8 t0] (ABool r) := by
  refine FnP.of mixed_ Tryz.func235 q (n := 13) q (fun (r : Bool) => ABool r) nk_args NK.nk q hr fun X hΨ => ?_
  refine Jq q <| Ra (ABool false) q q <| R0 <| Jq q <| Rm (AInt .u8 t0) q q <| R_bind fun b1 h2 => r_call _ fn_233 (k_token_letter _ _ h2) q q <| Rm (ABool b1) q q ?_
  refine R_if (fun h3 => ?_) (fun h3 => ?_)
  · exact Rk (g_fn q q h3) <| Rk (g_fn q q h3) <| r_pickT (ABool true) q h3 q q <| Rm (ABool true) q q <| Rk (g_fn q q q) <| Rk (g_fn q q q) <| r_pickT (ABool true) q q q q <| Ra (ABool true) q q <| R0 <| Jt hΨ (Res_one q) q q
  refine Rm (AInt .u8 t0) q (g_f q q (bf h3)) <| R_bind fun b4 h5 => r_call _ fn_236 (k_token_digit _ _ h5) q (g_f q q (bf h3)) <| r_pickF (ABool b4) q (bf h3) q q <| Rm (ABool b4) q q <| R_if (fun h6 => ?_) (fun h6 => ?_)
  · exact Rk (g_fn q q h6) <| Rk (g_fn q q h6) <| r_pickT (ABool true) q h6 q q <| Ra (ABool true) q q <| R0 <| Jt hΨ (Res_one q) q q
  exact Rm (AInt .u8 t0) q (g_f q q (bf h6)) <| r_eql q q (g_f q q (bf h6)) <| r_pickF (ABool (decide (t0 = 95))) q (bf h6) q q <| Ra (ABool (decide (t0 = 95))) q q <| R0 <| Jt hΨ (Res_one q) q q
theorem k_token_next (t0 : ByteArray) (r : Int × Int × Int) (hr : token_next t0 = some r) : FnP PP 180 [AStr t0] (ATup [I_ r.1, I_ r.2.1, I_ r.2.2]) := by
  refine FnP.of mixed_ Tryz.func180 q (n := 45) q (fun (r : Int × Int × Int) => ATup [I_ r.1, I_ r.2.1, I_ r.2.2]) nk_args NK.nk q hr fun X hΨ => ?_
  refine Jq q <| Ra (I_ 0) q q <| Ra (I_ 0) q q <| Ra (I_ 0) q q <| R0 <| Jq q <| Rm (AStr t0) q q <| R_if (fun h1 => ?_) (fun _ => R_none)
  refine r_ixS ut_9 q q h1.1 h1.2 q <| Ra (AInt .u8 (byteAt t0 0)) q q <| R0 <| Js <| J_block <| Jq q <| Rm (AInt .u8 (byteAt t0 0)) q q <| R_bind fun b2 h3 => r_call _ fn_233 (k_token_letter _ _ h3) q q ?_
  refine Ra (ABool b2) q q <| R0 <| J_cond q (fun h4 => ?_) (fun h4 => ?_)
  · refine Jq q <| Rm (AStr t0) q q <| R_bind fun b5 h6 => r_callB [] [AStr t0, AClo 235 []] fn_234 (k_token_run _ _ _ h6) .nil q (.cons .same (.cons (.cloFn fn_235 (fun x y h => k_token_part x y h)) .nil)) q <| Ra (I_ b5) q q <| R0 <| Js <| Jq q ?_
    refine Rm (I_ b5) q q <| r_gtr q q q <| R0 <| J_cond_p q (fun h7 => ?_) (fun h7 => ?_)
    · exact Jq q <| Ra (I_ 0) q q <| Ra (I_ 0) q q <| Ra (I_ 3) q q <| R0 <| Jt hΨ (Res_many (As := [I_ 0, I_ 0, I_ 3]) q q (.cons (.tmp (A := I_ 0) q) (.cons (.tmp (A := I_ 0) q) (.cons (.tmp (A := I_ 3) q) .nil)))) q q
    exact J_skip <| Jq q <| Rm (I_ b5) q q <| Ra (I_ 1) q q <| Ra (I_ b5) q q <| Ra (I_ 0) q q <| R0 <| Jt hΨ (Res_many (As := [I_ 1, I_ b5, I_ 0]) q q (.cons (.tmp (A := I_ 1) q) (.cons (.tmp (A := I_ b5) q) (.cons (.tmp (A := I_ 0) q) .nil)))) q q
  refine Jq q <| Rm (AInt .u8 (byteAt t0 0)) q q <| R_bind fun b8 h9 => r_call _ fn_236 (k_token_digit _ _ h9) q q <| Ra (ABool b8) q q <| R0 <| J_cond q (fun h10 => ?_) (fun h10 => ?_)
  rotate_left
  · refine Jq q <| Rm (AInt .u8 (byteAt t0 0)) q q <| r_eql q q q <| Ra (ABool (decide (byteAt t0 0 = 34))) q q <| R0 <| J_cond_p q (fun h14 => ?_) (fun h14 => ?_)
    · exact Jq q <| Rm (AStr t0) q q <| R_none
    exact Jq q <| Rm (AStr t0) q q <| R_none
  refine Jq q <| Rm (AStr t0) q q <| R_bind fun b11 h12 => r_callB [] [AStr t0, AClo 236 []] fn_234 (k_token_run _ _ _ h12) .nil q (.cons .same (.cons (.cloFn fn_236 (fun x y h => k_token_digit x y h)) .nil)) q <| Ra (I_ b11) q q <| R0 <| Js <| Jq q ?_
  refine Rm (I_ b11) q q <| r_gtr q q q <| R0 <| J_cond_p q (fun h13 => ?_) (fun h13 => ?_)
  · exact Jq q <| Ra (I_ 0) q q <| Ra (I_ 0) q q <| Ra (I_ 3) q q <| R0 <| Jt hΨ (Res_many (As := [I_ 0, I_ 0, I_ 3]) q q (.cons (.tmp (A := I_ 0) q) (.cons (.tmp (A := I_ 0) q) (.cons (.tmp (A := I_ 3) q) .nil)))) q q
  exact J_skip <| Jq q <| Rm (I_ b11) q q <| Ra (I_ 2) q q <| Ra (I_ b11) q q <| Ra (I_ 0) q q <| R0 <| Jt hΨ (Res_many (As := [I_ 2, I_ b11, I_ 0]) q q (.cons (.tmp (A := I_ 2) q) (.cons (.tmp (A := I_ b11) q) (.cons (.tmp (A := I_ 0) q) .nil)))) q q
theorem k_token_whole (t0 : api_Token) (r : ByteArray × Bool) (hr : token_whole t0 = some r) : FnP PP 126 [AAgg (c_api_Token t0)] (ATup [AStr r.1, ABool r.2]) := by
  refine FnP.of mixed_ Tryz.func126 q (n := 39) q (fun (r : ByteArray × Bool) => ATup [AStr r.1, ABool r.2]) nk_args NK.nk q hr fun X hΨ => ?_
  refine Jq q <| r_boxV (AAgg (c_api_Token t0)) q q <| Ra (AStr (ByteArray.mk #[])) q q <| Ra (ABool false) q q <| R0 <| Jq q <| r_faT (c_str t0.Text) fo_185_1 q q q <| r_ld (AStr t0.Text) sc_9 q q q ?_
  refine Ra (AStr t0.Text) q q <| R0 <| Js <| Jq q <| r_faT (c_i64 t0.Kind) fo_185_0 q q q <| r_ld (I_ t0.Kind) sc_3 q q q <| r_eql q q q <| R0 ?_
  apply J_joinA (fun v9 => ⟨fr [(1, APtr (c_api_Token t0)), (4, AStr v9), (11, I_ t0.Kind)], fun _ => none, 0⟩) (fun v9 => token_whole_j9 t0 v9)
  · intro K15
    refine J_cond_p q (fun h1 => ?_) (fun h1 => ?_)
    rotate_left
    · exact J_skip <| J_to [(1, APtr (c_api_Token t0)), (4, AStr t0.Text), (11, I_ t0.Kind)] (.cons q (.cons q (.cons q .nil))) <| K15 t0.Text
    refine Jr q <| Rm (AStr t0.Text) q q <| R_if (fun h2 => ?_) (fun _ => R_none)
    refine r_catS q q h2 q <| R_if (fun h3 => ?_) (fun _ => R_none)
    exact r_catS q q h3 q <| Ra (AStr (((ByteArray.mk #[34]) ++ t0.Text) ++ (ByteArray.mk #[34]))) q q <| R0 <| J_to [(1, APtr (c_api_Token t0)), (4, AStr (((ByteArray.mk #[34]) ++ t0.Text) ++ (ByteArray.mk #[34]))), (11, I_ t0.Kind)] (.cons q (.cons q (.cons q .nil))) <| K15 (((ByteArray.mk #[34]) ++ t0.Text) ++ (ByteArray.mk #[34]))
  intro v9
  refine Js <| Jq q <| Rm (AStr v9) q q <| r_eqS q q q <| R0 <| J_cond_p q (fun h10 => ?_) (fun h10 => ?_)
  · exact Jq q <| Ra (AStr (ByteArray.mk #[])) q q <| Ra (ABool false) q q <| R0 <| Jt hΨ (Res_many (As := [AStr (ByteArray.mk #[]), ABool false]) q q (.cons (.tmp (A := AStr (ByteArray.mk #[])) q) (.cons (.tmp (A := ABool false) q) .nil))) q q
  refine J_skip <| Jq q <| Rm (AStr v9) q q <| R_bind fun b11 h12 => r_call _ fn_180 (k_token_next _ _ h12) q q <| Rm (ATup [I_ b11.1, I_ b11.2.1, I_ b11.2.2]) q q <| r_ext (I_ b11.1) q q q <| r_ext (I_ b11.2.1) q q q <| r_ext (I_ b11.2.2) q q q ?_
  refine Ra (I_ b11.1) q q <| Ra (I_ b11.2.1) q q <| Ra (I_ b11.2.2) q q <| R0 <| Jq q <| Rm (AStr v9) q q <| Rm (I_ b11.2.2) q q <| r_eql q q q <| Rm (ABool (decide (b11.2.2 = 0))) q q ?_
  refine R_if (fun h13 => ?_) (fun h13 => ?_)
  rotate_left
  · refine Rk (g_tn q q (df h13)) <| Rk (g_tn q q (df h13)) <| Rk (g_tn q q (df h13)) <| Rk (g_tn q q (df h13)) <| r_pickF (ABool false) q (df h13) q q <| Rm (ABool false) q q <| Rk (g_tn q q q) <| Rk (g_tn q q q) <| Rk (g_tn q q q) <| Rk (g_tn q q q) ?_
    exact r_pickF (ABool false) q q q q <| Ra (AStr v9) q q <| Ra (ABool false) q q <| R0 <| Jt hΨ (Res_many (As := [AStr v9, ABool false]) q q (.cons (.tmp (A := AStr v9) q) (.cons (.tmp (A := ABool false) q) .nil))) q q
  refine Rm (I_ b11.1) q (g_t q q (dt h13)) <| r_faT (c_i64 t0.Kind) fo_185_0 q q (g_t q q (dt h13)) <| r_ld (I_ t0.Kind) sc_3 q q (g_t q q (dt h13)) <| r_eql q q (g_t q q (dt h13)) <| r_pickT (ABool (decide (b11.1 = t0.Kind))) q (dt h13) q q <| Rm (ABool (decide (b11.1 = t0.Kind))) q q <| R_if (fun h14 => ?_) (fun h14 => ?_)
  · exact Rm (I_ b11.2.1) q (g_t q q (dt h14)) <| Rm (AStr v9) q (g_t q q (dt h14)) <| r_lenS is_9 q (g_t q q (dt h14)) <| r_eql q q (g_t q q (dt h14)) <| r_pickT (ABool (decide (b11.2.1 = (v9.size : Int)))) q (dt h14) q q <| Ra (AStr v9) q q <| Ra (ABool (decide (b11.2.1 = (v9.size : Int)))) q q <| R0 <| Jt hΨ (Res_many (As := [AStr v9, ABool (decide (b11.2.1 = (v9.size : Int)))]) q q (.cons (.tmp (A := AStr v9) q) (.cons (.tmp (A := ABool (decide (b11.2.1 = (v9.size : Int)))) q) .nil))) q q
  exact Rk (g_tn q q (df h14)) <| Rk (g_tn q q (df h14)) <| Rk (g_tn q q (df h14)) <| Rk (g_tn q q (df h14)) <| r_pickF (ABool false) q (df h14) q q <| Ra (AStr v9) q q <| Ra (ABool false) q q <| R0 <| Jt hΨ (Res_many (As := [AStr v9, ABool false]) q q (.cons (.tmp (A := AStr v9) q) (.cons (.tmp (A := ABool false) q) .nil))) q q
theorem k_token_IsName (t0 : ByteArray) (r : Bool) (hr : token_IsName t0 = some r) : FnP PP 68 [AStr t0] (ABool r) := by
  refine FnP.of mixed_ Tryz.func68 q (n := 12) q (fun (r : Bool) => ABool r) nk_args NK.nk q hr fun X hΨ => ?_
  refine Jq q <| Ra (ABool false) q q <| R0 <| Jq q <| Rm (AStr t0) q q <| r_build (c_api_Token (api_Token.mk 1 t0 0)) pl_185 z_185 (.cons (A := I_ 1) q po_185_0 q (.cons (A := AStr t0) q po_185_1 q .nil)) q q <| R_bind fun b1 h2 => r_call _ fn_126 (k_token_whole _ _ h2) q q ?_
  refine Rm (ATup [AStr b1.1, ABool b1.2]) q q <| r_ext (AStr b1.1) q q q <| r_ext (ABool b1.2) q q q <| Ra (AStr b1.1) q q <| Ra (ABool b1.2) q q <| R0 <| Jq q <| Rm (ABool b1.2) q q <| Ra (ABool b1.2) q q ?_
  exact R0 <| Jt hΨ (Res_one q) q q
theorem k_slices_IndexFunc_api_NodeType (t0 : (List api_NodeType)) (t1 : (api_NodeType → Option Bool)) (r : Int) (hr : slices_IndexFunc_api_NodeType t0 t1 = some r) : FnP PP 228 [AL 4 c_api_NodeType t0, AFn PP (fun x => [AAgg (c_api_NodeType x)]) (fun y => ABool y) t1] (I_ r) := by
  refine FnP.of mixed_ Tryz.func228 q (n := 19) q (fun (r : Int) => I_ r) nk_args NK.nk q hr fun X hΨ => ?_
  refine Jq q <| Ra (I_ 0) q q <| R0 <| Js <| Jq q <| Rm (AL 4 c_api_NodeType t0) q q <| r_len (cc := c_api_NodeType) il_56 q q <| Rm (I_ 0) q q ?_
  refine R0 <| J_block <| J_to [(0, AL 4 c_api_NodeType t0), (1, AFn PP (fun x => [AAgg (c_api_NodeType x)]) (fun y => ABool y) t1), (7, I_ (t0.length : Int)), (8, I_ 0)] (.cons q (.cons q (.cons q (.cons q .nil)))) <| J_it (fun x1 => ⟨fr [(0, AL 4 c_api_NodeType t0), (1, AFn PP (fun x => [AAgg (c_api_NodeType x)]) (fun y => ABool y) t1), (7, I_ (t0.length : Int)), (8, I_ x1)], fun _ => none, 0⟩) (fun E2 hE2 x1 => ?_) (by rfl)
  refine Jq q <| r_lss q q q <| R0 <| Js <| J_cond_p q (fun h8 => ?_) (fun h8 => ?_)
  rotate_left
  · exact J_exit q <| J_outS <| Jq q <| Ra (I_ (-1)) q q <| R0 <| Jt hΨ (Res_one q) q q
  refine J_skip <| Js <| J_block <| Jq q <| Rm (I_ x1) q q <| Ra (I_ x1) q q <| R0 <| Jq q ?_
  refine Rm (AFn PP (fun x => [AAgg (c_api_NodeType x)]) (fun y => ABool y) t1) q q <| Rm (AL 4 c_api_NodeType t0) q q <| Rm (I_ x1) q q <| R_if (fun h9 => ?_) (fun _ => R_none)
  refine r_ix (cc := c_api_NodeType) el_56 q q h9.1 h9.2 q <| r_lda (c_api_NodeType (nth t0 x1)) ag_106 q q q q <| R_bind fun b10 h11 => r_callFn (ga := (fun x => [AAgg (c_api_NodeType x)])) (rt := (fun y => ABool y)) (gg := t1) (u := (nth t0 x1)) (w := b10) q q h11 (NK.nk) q <| R0 <| J_cond q (fun h12 => ?_) (fun h12 => ?_)
  · exact Jq q <| Rm (I_ x1) q q <| Ra (I_ x1) q q <| R0 <| J_outS <| Jt hΨ (Res_one q) q q
  refine J_skip <| J_inBlock <| J_range 7 (m := (t0.length : Int)) q fun q13 => J_range 5 (m := x1) q fun q14 => Jr q <| r_add (x1 + 1) q q (wrap_i64 (by omega) (by omega)) q <| Rm (I_ (x1 + 1)) q q <| R0 <| J_go <| J_to [(0, AL 4 c_api_NodeType t0), (1, AFn PP (fun x => [AAgg (c_api_NodeType x)]) (fun y => ABool y) t1), (7, I_ (t0.length : Int)), (8, I_ (x1 + 1))] (.cons q (.cons q (.cons q (.cons q .nil)))) ?_
  exact hE2 (x1 + 1)
theorem k_slices_ContainsFunc_api_NodeType (t0 : (List api_NodeType)) (t1 : (api_NodeType → Option Bool)) (r : Bool) (hr : slices_ContainsFunc_api_NodeType t0 t1 = some r) : FnP PP 172 [AL 4 c_api_NodeType t0, AFn PP (fun x => [AAgg (c_api_NodeType x)]) (fun y => ABool y) t1] (ABool r) := by
  refine FnP.of mixed_ Tryz.func172 q (n := 9) q (fun (r : Bool) => ABool r) nk_args NK.nk q hr fun X hΨ => ?_
  refine Jq q <| Ra (ABool false) q q <| R0 <| Jq q <| Rm (AL 4 c_api_NodeType t0) q q <| Rm (AFn PP (fun x => [AAgg (c_api_NodeType x)]) (fun y => ABool y) t1) q q <| R_bind fun b1 h2 => r_call _ fn_228 (k_slices_IndexFunc_api_NodeType _ _ _ h2) q q ?_
  exact r_geq q q q <| Ra (ABool (decide (0 ≤ b1))) q q <| R0 <| Jt hΨ (Res_one q) q q
theorem k_types_node_1 (t0 : api_NodeType) (t1 : api_NodeType) (r : Bool) (hr : types_node_1 t0 t1 = some r) : FnP PP 173 [AAgg (c_api_NodeType t0), APtr (c_api_NodeType t1)] (ABool r) := by
  refine FnP.of mixed_ Tryz.func173 q (n := 9) q (fun (r : Bool) => ABool r) nk_args NK.nk q hr fun X hΨ => ?_
  refine Jq q <| r_boxV (AAgg (c_api_NodeType t0)) q q <| Ra (ABool false) q q <| R0 <| Jq q <| r_faT (c_str t0.Name) fo_106_0 q q q <| r_ld (AStr t0.Name) sc_9 q q q <| r_faT (c_str t1.Name) fo_106_0 q q q ?_
  exact r_ld (AStr t1.Name) sc_9 q q q <| r_eqS q q q <| Ra (ABool (decide (t0.Name = t1.Name))) q q <| R0 <| Jt hΨ (Res_one q) q q
theorem k_types_attrs_b (q_types_attrs : api_Types → Int → Option (List api_Attr)) (hq_types_attrs : ∀ (t0 : api_Types) (t1 : Int) (r : (List api_Attr)), q_types_attrs t0 t1 = some r → FnK PP 174 0 [] [AAgg (c_api_Types t0), I_ t1] [(0, .row 109 4 (r.map c_api_Attr))] (AObj 0)) (t0 : api_Types) (t1 : Int) (r : (List api_Attr)) (hr : types_attrs_b q_types_attrs t0 t1 = some r) : FnK PP 174 0 [] [AAgg (c_api_Types t0), I_ t1] [(0, .row 109 4 (r.map c_api_Attr))] (AObj 0) := by
  refine FnK.of mixed_ Tryz.func174 q (n := 26) q (N0 := 0) (ins := []) (args := [AAgg (c_api_Types t0), I_ t1]) (fun (r : (List api_Attr)) => [(0, .row 109 4 (r.map c_api_Attr))]) (fun (r : (List api_Attr)) => AObj 0) (KBL.cons inferInstance (KBL.cons inferInstance (inferInstance : KBL 0 []))).kb (InsOk.spec .nil) q hr fun X hΨ => ?_
  refine Jq q <| r_boxV (AAgg (c_api_Types t0)) q q <| Ra (ANil) q q <| R0 <| Jq q <| Ra (ANil) q q <| R0 <| Js ?_
  refine Jq q <| r_faT ((cL 4 c_api_NodeType) t0.Nodes) fo_59_0 q q q <| r_ld (AL 4 c_api_NodeType t0.Nodes) sc_56 q q q <| Rm (I_ t1) q q <| R_if (fun h1 => ?_) (fun _ => R_none)
  refine r_ix (cc := c_api_NodeType) el_56 q q h1.1 h1.2 q <| r_faT (c_i64 ((nth t0.Nodes t1).Parent)) fo_106_1 q q q <| r_ld (I_ ((nth t0.Nodes t1).Parent)) sc_3 q q q <| Ra (I_ ((nth t0.Nodes t1).Parent)) q q <| R0 <| Jq q <| Rm (I_ ((nth t0.Nodes t1).Parent)) q q <| r_geq q q q <| R0 ?_
  apply J_joinA (fun v6 => ⟨fr [(1, I_ t1), (2, APtr (c_api_Types t0)), (5, AObj 0), (6, I_ ((nth t0.Nodes t1).Parent)), (9, I_ t1), (12, I_ ((nth t0.Nodes t1).Parent)), (13, I_ ((nth t0.Nodes t1).Parent))], hp [(0, .row 109 4 (v6.map c_api_Attr))], 1⟩) (fun v6 => types_attrs_j6 t0 t1 v6)
  · intro K8
    refine J_cond_p q (fun h2 => ?_) (fun h2 => ?_)
    rotate_left
    · exact J_skip <| J_cv [] [] [0] 1 [(1, I_ t1), (2, APtr (c_api_Types t0)), (5, AObj 0), (6, I_ ((nth t0.Nodes t1).Parent)), (9, I_ t1), (12, I_ ((nth t0.Nodes t1).Parent)), (13, I_ ((nth t0.Nodes t1).Parent))] [(0, .row 109 4 ([].map c_api_Attr))] (.same q (.same q (.cons (A := ANil) q (.nilobj q q) (.same q (.same q (.same q (.same q .nil))))))) (.new q q .nil) q q <| K8 []
    exact Jr q <| r_lda (c_api_Types t0) ag_59 q q q q <| Rm (I_ ((nth t0.Nodes t1).Parent)) q q <| R_bind fun b3 h4 => r_callK [] [] [] [0] 1 [] [(0, .row 109 4 (b3.map c_api_Attr))] (AObj 0) [AAgg (c_api_Types t0), I_ ((nth t0.Nodes t1).Parent)] fn_174 (hq_types_attrs _ _ _ h4) .nil q (.cons .same (.cons .same .nil)) .nil (.cons q q q q (.row (NKC.flat _ _)) q q .nil) (.obj q q q) q q q <| Ra (AObj 0) q q <| R0 <| J_cv [] [] [] 1 [(1, I_ t1), (2, APtr (c_api_Types t0)), (5, AObj 0), (6, I_ ((nth t0.Nodes t1).Parent)), (9, I_ t1), (12, I_ ((nth t0.Nodes t1).Parent)), (13, I_ ((nth t0.Nodes t1).Parent))] [(0, .row 109 4 (b3.map c_api_Attr))] (.same q (.same q (.cons (A := AObj 0) q (.obj q q q) (.same q (.same q (.same q (.same q .nil))))))) (.cons q q q q (.row (NKC.flat _ _)) q q .nil) q q <| K8 b3
  intro v6
  refine Jq q <| Rm (AObj 0) q q <| r_faT ((cL 4 c_api_NodeType) t0.Nodes) fo_59_0 q q q <| r_ld (AL 4 c_api_NodeType t0.Nodes) sc_56 q q q <| Rm (I_ t1) q q <| r_ix (cc := c_api_NodeType) el_56 q q h1.1 h1.2 q <| r_faT ((cL 4 c_api_Attr) ((nth t0.Nodes t1).Attrs)) fo_106_3 q q q <| r_ld (AL 4 c_api_Attr ((nth t0.Nodes t1).Attrs)) sc_104 q q q <| R_if (fun h7 => ?_) (fun _ => R_none)
  exact r_app (cc := c_api_Attr) (xs := v6) (ys := (nth t0.Nodes t1).Attrs) 1 ap_104 q q q h7 q q q <| Ra (AObj 1) q q <| R0 <| J_retK hΨ (Res_box q (.tmp (A := AObj 1) q)) [] [(0, 1)] [] q (fun y hy => by cases hy; exact ⟨(.cons q q q q (.row (NKC.flat _ _)) q q .nil), (.obj q q q)⟩)
theorem types_attrs_n_ok : ∀ n, (∀ (t0 : api_Types) (t1 : Int) (r : (List api_Attr)), (types_attrs_n n) t0 t1 = some r → FnK PP 174 0 [] [AAgg (c_api_Types t0), I_ t1] [(0, .row 109 4 (r.map c_api_Attr))] (AObj 0)) := by
  intro n
  induction n with
  | zero => exact (fun _ _ _ h => by cases h)
  | succ n ih => exact (fun a0 a1 r h => k_types_attrs_b _ ih a0 a1 r h)
theorem k_types_attrs (t0 : api_Types) (t1 : Int) (r : (List api_Attr)) (hr : types_attrs t0 t1 = some r) : FnK PP 174 0 [] [AAgg (c_api_Types t0), I_ t1] [(0, .row 109 4 (r.map c_api_Attr))] (AObj 0) := by
  obtain ⟨n, hn⟩ := Ev_some hr
  exact (types_attrs_n_ok n) t0 t1 r hn
theorem k_slices_IndexFunc_api_Attr (t0 : (List api_Attr)) (t1 : (api_Attr → Option Bool)) (r : Int) (hr : slices_IndexFunc_api_Attr t0 t1 = some r) : FnP PP 264 [AL 4 c_api_Attr t0, AFn PP (fun x => [AAgg (c_api_Attr x)]) (fun y => ABool y) t1] (I_ r) := by
  refine FnP.of mixed_ Tryz.func264 q (n := 19) q (fun (r : Int) => I_ r) nk_args NK.nk q hr fun X hΨ => ?_
  refine Jq q <| Ra (I_ 0) q q <| R0 <| Js <| Jq q <| Rm (AL 4 c_api_Attr t0) q q <| r_len (cc := c_api_Attr) il_104 q q <| Rm (I_ 0) q q ?_
  refine R0 <| J_block <| J_to [(0, AL 4 c_api_Attr t0), (1, AFn PP (fun x => [AAgg (c_api_Attr x)]) (fun y => ABool y) t1), (7, I_ (t0.length : Int)), (8, I_ 0)] (.cons q (.cons q (.cons q (.cons q .nil)))) <| J_it (fun x1 => ⟨fr [(0, AL 4 c_api_Attr t0), (1, AFn PP (fun x => [AAgg (c_api_Attr x)]) (fun y => ABool y) t1), (7, I_ (t0.length : Int)), (8, I_ x1)], fun _ => none, 0⟩) (fun E2 hE2 x1 => ?_) (by rfl)
  refine Jq q <| r_lss q q q <| R0 <| Js <| J_cond_p q (fun h8 => ?_) (fun h8 => ?_)
  rotate_left
  · exact J_exit q <| J_outS <| Jq q <| Ra (I_ (-1)) q q <| R0 <| Jt hΨ (Res_one q) q q
  refine J_skip <| Js <| J_block <| Jq q <| Rm (I_ x1) q q <| Ra (I_ x1) q q <| R0 <| Jq q ?_
  refine Rm (AFn PP (fun x => [AAgg (c_api_Attr x)]) (fun y => ABool y) t1) q q <| Rm (AL 4 c_api_Attr t0) q q <| Rm (I_ x1) q q <| R_if (fun h9 => ?_) (fun _ => R_none)
  refine r_ix (cc := c_api_Attr) el_104 q q h9.1 h9.2 q <| r_lda (c_api_Attr (nth t0 x1)) ag_109 q q q q <| R_bind fun b10 h11 => r_callFn (ga := (fun x => [AAgg (c_api_Attr x)])) (rt := (fun y => ABool y)) (gg := t1) (u := (nth t0 x1)) (w := b10) q q h11 (NK.nk) q <| R0 <| J_cond q (fun h12 => ?_) (fun h12 => ?_)
  · exact Jq q <| Rm (I_ x1) q q <| Ra (I_ x1) q q <| R0 <| J_outS <| Jt hΨ (Res_one q) q q
  refine J_skip <| J_inBlock <| J_range 7 (m := (t0.length : Int)) q fun q13 => J_range 5 (m := x1) q fun q14 => Jr q <| r_add (x1 + 1) q q (wrap_i64 (by omega) (by omega)) q <| Rm (I_ (x1 + 1)) q q <| R0 <| J_go <| J_to [(0, AL 4 c_api_Attr t0), (1, AFn PP (fun x => [AAgg (c_api_Attr x)]) (fun y => ABool y) t1), (7, I_ (t0.length : Int)), (8, I_ (x1 + 1))] (.cons q (.cons q (.cons q (.cons q .nil)))) ?_
  exact hE2 (x1 + 1)
theorem k_slices_ContainsFunc_api_Attr (t0 : (List api_Attr)) (t1 : (api_Attr → Option Bool)) (r : Bool) (hr : slices_ContainsFunc_api_Attr t0 t1 = some r) : FnP PP 229 [AL 4 c_api_Attr t0, AFn PP (fun x => [AAgg (c_api_Attr x)]) (fun y => ABool y) t1] (ABool r) := by
  refine FnP.of mixed_ Tryz.func229 q (n := 9) q (fun (r : Bool) => ABool r) nk_args NK.nk q hr fun X hΨ => ?_
  refine Jq q <| Ra (ABool false) q q <| R0 <| Jq q <| Rm (AL 4 c_api_Attr t0) q q <| Rm (AFn PP (fun x => [AAgg (c_api_Attr x)]) (fun y => ABool y) t1) q q <| R_bind fun b1 h2 => r_call _ fn_264 (k_slices_IndexFunc_api_Attr _ _ _ h2) q q ?_
  exact r_geq q q q <| Ra (ABool (decide (0 ≤ b1))) q q <| R0 <| Jt hΨ (Res_one q) q q
theorem k_types_attribute_1 (t0 : api_Attr) (t1 : api_Attr) (r : Bool) (hr : types_attribute_1 t0 t1 = some r) : FnP PP 230 [AAgg (c_api_Attr t0), APtr (c_api_Attr t1)] (ABool r) := by
  refine FnP.of mixed_ Tryz.func230 q (n := 9) q (fun (r : Bool) => ABool r) nk_args NK.nk q hr fun X hΨ => ?_
  refine Jq q <| r_boxV (AAgg (c_api_Attr t0)) q q <| Ra (ABool false) q q <| R0 <| Jq q <| r_faT (c_str t0.Name) fo_109_0 q q q <| r_ld (AStr t0.Name) sc_9 q q q <| r_faT (c_str t1.Name) fo_109_0 q q q ?_
  exact r_ld (AStr t1.Name) sc_9 q q q <| r_eqS q q q <| Ra (ABool (decide (t0.Name = t1.Name))) q q <| R0 <| Jt hΨ (Res_one q) q q
theorem k_slices_Index_string (t0 : (List ByteArray)) (t1 : ByteArray) (r : Int) (hr : slices_Index_string t0 t1 = some r) : FnP PP 279 [AL 1 c_str t0, AStr t1] (I_ r) := by
  refine FnP.of mixed_ Tryz.func279 q (n := 19) q (fun (r : Int) => I_ r) nk_args NK.nk q hr fun X hΨ => ?_
  refine Jq q <| Ra (I_ 0) q q <| R0 <| Js <| Jq q <| Rm (AL 1 c_str t0) q q <| r_len (cc := c_str) il_107 q q <| Rm (I_ 0) q q ?_
  refine R0 <| J_block <| J_to [(0, AL 1 c_str t0), (1, AStr t1), (7, I_ (t0.length : Int)), (8, I_ 0)] (.cons q (.cons q (.cons q (.cons q .nil)))) <| J_it (fun x1 => ⟨fr [(0, AL 1 c_str t0), (1, AStr t1), (7, I_ (t0.length : Int)), (8, I_ x1)], fun _ => none, 0⟩) (fun E2 hE2 x1 => ?_) (by rfl)
  refine Jq q <| r_lss q q q <| R0 <| Js <| J_cond_p q (fun h6 => ?_) (fun h6 => ?_)
  rotate_left
  · exact J_exit q <| J_outS <| Jq q <| Ra (I_ (-1)) q q <| R0 <| Jt hΨ (Res_one q) q q
  refine J_skip <| Js <| J_block <| Jq q <| Rm (I_ x1) q q <| Ra (I_ x1) q q <| R0 <| Jq q ?_
  refine Rm (AStr t1) q q <| Rm (AL 1 c_str t0) q q <| Rm (I_ x1) q q <| R_if (fun h7 => ?_) (fun _ => R_none)
  refine r_ix (cc := c_str) el_107 q q h7.1 h7.2 q <| r_ld (AStr (nth t0 x1)) sc_9 q q q <| r_eqS q q q <| R0 <| J_cond_p q (fun h8 => ?_) (fun h8 => ?_)
  · exact Jq q <| Rm (I_ x1) q q <| Ra (I_ x1) q q <| R0 <| J_outS <| Jt hΨ (Res_one q) q q
  refine J_skip <| J_inBlock <| J_range 7 (m := (t0.length : Int)) q fun q9 => J_range 5 (m := x1) q fun q10 => Jr q <| r_add (x1 + 1) q q (wrap_i64 (by omega) (by omega)) q <| Rm (I_ (x1 + 1)) q q <| R0 <| J_go <| J_to [(0, AL 1 c_str t0), (1, AStr t1), (7, I_ (t0.length : Int)), (8, I_ (x1 + 1))] (.cons q (.cons q (.cons q (.cons q .nil)))) ?_
  exact hE2 (x1 + 1)
theorem k_slices_Contains_string (t0 : (List ByteArray)) (t1 : ByteArray) (r : Bool) (hr : slices_Contains_string t0 t1 = some r) : FnP PP 265 [AL 1 c_str t0, AStr t1] (ABool r) := by
  refine FnP.of mixed_ Tryz.func265 q (n := 9) q (fun (r : Bool) => ABool r) nk_args NK.nk q hr fun X hΨ => ?_
  refine Jq q <| Ra (ABool false) q q <| R0 <| Jq q <| Rm (AL 1 c_str t0) q q <| Rm (AStr t1) q q <| R_bind fun b1 h2 => r_call _ fn_279 (k_slices_Index_string _ _ _ h2) q q ?_
  exact r_geq q q q <| Ra (ABool (decide (0 ≤ b1))) q q <| R0 <| Jt hΨ (Res_one q) q q
theorem k_types_names (t0 : (List ByteArray)) (r : Int) (hr : types_names t0 = some r) : FnP PP 231 [AL 1 c_str t0] (I_ r) := by
  refine FnP.of mixed_ Tryz.func231 q (n := 26) q (fun (r : Int) => I_ r) nk_args NK.nk q hr fun X hΨ => ?_
  refine Jq q <| Ra (I_ 0) q q <| R0 <| Js <| Jq q <| Rm (AL 1 c_str t0) q q <| r_len (cc := c_str) il_107 q q <| r_gtr q q q ?_
  refine R0 <| J_cond_p q (fun h1 => ?_) (fun h1 => ?_)
  · exact Jq q <| Ra (I_ 3) q q <| R0 <| Jt hΨ (Res_one q) q q
  refine J_skip <| Js <| Jq q <| Rm (AL 1 c_str t0) q q <| r_len (cc := c_str) il_107 q q <| Rm (I_ 0) q q <| R0 <| J_block <| J_to [(0, AL 1 c_str t0), (2, I_ 0), (6, I_ (t0.length : Int)), (8, AL 1 c_str t0), (9, I_ (t0.length : Int)), (10, I_ 0)] (.cons q (.cons q (.cons q (.cons q (.cons q (.cons q .nil)))))) ?_
  refine J_it (fun x2 => ⟨fr [(0, AL 1 c_str t0), (2, I_ 0), (6, I_ (t0.length : Int)), (8, AL 1 c_str t0), (9, I_ (t0.length : Int)), (10, I_ x2)], fun _ => none, 0⟩) (fun E3 hE3 x2 => ?_) (by rfl)
  refine Jq q <| r_lss q q q <| R0 <| Js <| J_cond_p q (fun h13 => ?_) (fun h13 => ?_)
  rotate_left
  · exact J_exit q <| J_outS <| Jq q <| Ra (I_ 0) q q <| R0 <| Jt hΨ (Res_one q) q q
  refine J_skip <| Js <| J_block <| Jq q <| Rm (I_ x2) q q <| R_if (fun h14 => ?_) (fun _ => R_none)
  refine r_ix (cc := c_str) el_107 q q h14.1 h14.2 q <| r_ld (AStr (nth t0 x2)) sc_9 q q q <| Ra (I_ x2) q q <| Ra (AStr (nth t0 x2)) q q <| R0 <| J_block <| Jq q <| Rm (AStr (nth t0 x2)) q q <| R_bind fun b15 h16 => ?_
  refine r_call _ fn_68 (k_token_IsName _ _ h16) q q <| r_not q q <| Ra (ABool (!b15)) q q <| R0 <| J_cond q (fun h17 => ?_) (fun h17 => ?_)
  · exact Jq q <| Ra (I_ 2) q q <| R0 <| J_outS <| Jt hΨ (Res_one q) q q
  refine Jq q <| Rm (AL 1 c_str t0) q q <| Rm (I_ x2) q q <| R_if (fun h18 => ?_) (fun _ => R_none)
  refine r_cut (cc := c_str) 0 x2 el_107 q lo_n (hi_s q) h18.1 h18.2.1 h18.2.2 q <| Rm (AStr (nth t0 x2)) q q <| R_bind fun b19 h20 => r_call _ fn_265 (k_slices_Contains_string _ _ _ h20) q q <| Ra (ABool b19) q q <| R0 <| J_cond q (fun h21 => ?_) (fun h21 => ?_)
  · exact Jq q <| Ra (I_ 5) q q <| R0 <| J_outS <| Jt hΨ (Res_one q) q q
  refine J_skip <| J_inBlock <| J_inBlock <| J_range 6 (m := (t0.length : Int)) q fun q22 => J_range 3 (m := x2) q fun q23 => Jr q <| r_add (x2 + 1) q q (wrap_i64 (by omega) (by omega)) q <| Rm (I_ (x2 + 1)) q q <| R0 <| J_go ?_
  exact J_to [(0, AL 1 c_str t0), (2, I_ 0), (6, I_ (t0.length : Int)), (8, AL 1 c_str t0), (9, I_ (t0.length : Int)), (10, I_ (x2 + 1))] (.cons q (.cons q (.cons q (.cons q (.cons q (.cons q .nil)))))) <| hE3 (x2 + 1)
theorem k_types_attribute (t0 : api_Attr) (t1 : (List api_Attr)) (r : Int) (hr : types_attribute t0 t1 = some r) : FnP PP 175 [AAgg (c_api_Attr t0), AL 4 c_api_Attr t1] (I_ r) := by
  refine FnP.of mixed_ Tryz.func175 q (n := 55) q (fun (r : Int) => I_ r) nk_args NK.nk q hr fun X hΨ => ?_
  refine Jq q <| r_boxV (AAgg (c_api_Attr t0)) q q <| Ra (I_ 0) q q <| R0 <| Js <| J_block <| Jq q <| r_faT (c_str t0.Name) fo_109_0 q q q ?_
  refine r_ld (AStr t0.Name) sc_9 q q q <| R_bind fun b1 h2 => r_call _ fn_68 (k_token_IsName _ _ h2) q q <| r_not q q <| Ra (ABool (!b1)) q q <| R0 <| J_cond q (fun h3 => ?_) (fun h3 => ?_)
  · exact Jq q <| Ra (I_ 2) q q <| R0 <| Jt hΨ (Res_one q) q q
  refine Jq q <| Rm (AL 4 c_api_Attr t1) q q <| r_mkFn [APtr (c_api_Attr t0)] (fun x => [AAgg (c_api_Attr x)]) (fun y => ABool y) (fun x => types_attribute_1 x t0) fn_230 q (fun x y h => k_types_attribute_1 x t0 y h) q <| R_bind fun b4 h5 => r_call _ fn_229 (k_slices_ContainsFunc_api_Attr _ _ _ h5) q q <| Ra (ABool b4) q q <| R0 <| J_cond q (fun h6 => ?_) (fun h6 => ?_)
  · exact Jq q <| Ra (I_ 5) q q <| R0 <| Jt hΨ (Res_one q) q q
  refine J_skip <| J_inBlock <| Js <| Jq q <| r_faT ((cL 1 c_str) t0.Names) fo_109_3 q q q <| r_ld (AL 1 c_str t0.Names) sc_107 q q q <| R_bind fun b7 h8 => r_call _ fn_231 (k_types_names _ _ h8) q q <| Ra (I_ b7) q q ?_
  refine R0 <| Jq q <| Rm (I_ b7) q q <| r_neq q q q <| R0 <| J_cond_p q (fun h9 => ?_) (fun h9 => ?_)
  · exact Jq q <| Rm (I_ b7) q q <| Ra (I_ b7) q q <| R0 <| Jt hΨ (Res_one q) q q
  refine J_skip <| Js ?_
  apply J_joinA (fun v21 => ⟨fr [(2, APtr (c_api_Attr t0)), (4, I_ 0), (5, I_ b7), (6, ABool v21), (18, I_ b7), (19, I_ b7), (23, I_ t0.Low)], fun _ => none, 0⟩) (fun v21 => types_attribute_j21 t0 v21)
  · intro K31
    refine Jr q <| r_faT (c_i64 t0.Low) fo_109_1 q q q <| r_ld (I_ t0.Low) sc_3 q q q <| r_leq q q q <| Rm (ABool (decide ((-1000000) ≤ t0.Low))) q q <| R_if (fun h10 => ?_) (fun h10 => ?_)
    rotate_left
    · refine Rk (g_tn q q (df h10)) <| Rk (g_tn q q (df h10)) <| Rk (g_tn q q (df h10)) <| Rk (g_tn q q (df h10)) <| Rk (g_tn q q (df h10)) <| r_pickF (ABool false) q (df h10) q q <| Rm (ABool false) q q <| Rk (g_tn q q q) <| Rk (g_tn q q q) <| Rk (g_tn q q q) ?_
      exact r_pickF (ABool false) q q q q <| Ra (ABool false) q q <| R0 <| J_to [(2, APtr (c_api_Attr t0)), (4, I_ 0), (5, I_ b7), (6, ABool false), (18, I_ b7), (19, I_ b7), (23, I_ t0.Low)] (.cons q (.cons q (.cons q (.cons q (.cons q (.cons q (.cons q .nil))))))) <| K31 false
    refine r_faT (c_i64 t0.Low) fo_109_1 q q (g_t q q (dt h10)) <| r_ld (I_ t0.Low) sc_3 q q (g_t q q (dt h10)) <| r_faT (c_i64 t0.High) fo_109_2 q q (g_t q q (dt h10)) <| r_ld (I_ t0.High) sc_3 q q (g_t q q (dt h10)) <| r_leq q q (g_t q q (dt h10)) <| r_pickT (ABool (decide (t0.Low ≤ t0.High))) q (dt h10) q q <| Rm (ABool (decide (t0.Low ≤ t0.High))) q q <| R_if (fun h11 => ?_) (fun h11 => ?_)
    · exact r_faT (c_i64 t0.High) fo_109_2 q q (g_t q q (dt h11)) <| r_ld (I_ t0.High) sc_3 q q (g_t q q (dt h11)) <| r_leq q q (g_t q q (dt h11)) <| r_pickT (ABool (decide (t0.High ≤ 1000000))) q (dt h11) q q <| Ra (ABool (decide (t0.High ≤ 1000000))) q q <| R0 <| J_to [(2, APtr (c_api_Attr t0)), (4, I_ 0), (5, I_ b7), (6, ABool (decide (t0.High ≤ 1000000))), (18, I_ b7), (19, I_ b7), (23, I_ t0.Low)] (.cons q (.cons q (.cons q (.cons q (.cons q (.cons q (.cons q .nil))))))) <| K31 (decide (t0.High ≤ 1000000))
    exact Rk (g_tn q q (df h11)) <| Rk (g_tn q q (df h11)) <| Rk (g_tn q q (df h11)) <| r_pickF (ABool false) q (df h11) q q <| Ra (ABool false) q q <| R0 <| J_to [(2, APtr (c_api_Attr t0)), (4, I_ 0), (5, I_ b7), (6, ABool false), (18, I_ b7), (19, I_ b7), (23, I_ t0.Low)] (.cons q (.cons q (.cons q (.cons q (.cons q (.cons q (.cons q .nil))))))) <| K31 false
  intro v21
  refine Js <| Jq q <| r_faT ((cL 1 c_str) t0.Names) fo_109_3 q q q <| r_ld (AL 1 c_str t0.Names) sc_107 q q q <| r_len (cc := c_str) il_107 q q <| r_gtr q q q <| R0 ?_
  apply J_joinA (fun v28 => ⟨fr [(4, I_ 0), (5, I_ b7), (6, ABool v28), (18, I_ b7), (19, I_ b7), (39, I_ (t0.Names.length : Int))], fun _ => none, 0⟩) (fun v28 => types_attribute_j28 v28)
  · intro K30
    refine J_cond_p q (fun h22 => ?_) (fun h22 => ?_)
    rotate_left
    · exact J_skip <| J_to [(4, I_ 0), (5, I_ b7), (6, ABool v21), (18, I_ b7), (19, I_ b7), (39, I_ (t0.Names.length : Int))] (.cons q (.cons q (.cons q (.cons q (.cons q (.cons q .nil)))))) <| K30 v21
    apply J_joinA (fun v25 => ⟨fr [(4, I_ 0), (5, I_ b7), (6, ABool v25), (18, I_ b7), (19, I_ b7), (23, I_ t0.Low), (39, I_ (t0.Names.length : Int)), (42, I_ t0.Low)], fun _ => none, 0⟩) (fun v25 => types_attribute_j25 v25)
    · intro K26
      refine J_range 39 (m := (t0.Names.length : Int)) q fun q24 => Jr q <| r_faT (c_i64 t0.Low) fo_109_1 q q q <| r_ld (I_ t0.Low) sc_3 q q q <| r_eql q q q <| Rm (ABool (decide (t0.Low = 0))) q q <| R_if (fun h23 => ?_) (fun h23 => ?_)
      · refine r_faT (c_i64 t0.High) fo_109_2 q q (g_t q q (dt h23)) <| r_ld (I_ t0.High) sc_3 q q (g_t q q (dt h23)) <| r_faT ((cL 1 c_str) t0.Names) fo_109_3 q q (g_t q q (dt h23)) <| r_ld (AL 1 c_str t0.Names) sc_107 q q (g_t q q (dt h23)) <| r_len (cc := c_str) il_107 q (g_t q q (dt h23)) <| r_sub ((t0.Names.length : Int) - 1) q q (wrap_i64 (by omega) (by omega)) (g_t q q (dt h23)) <| r_eql q q (g_t q q (dt h23)) <| r_pickT (ABool (decide (t0.High = (t0.Names.length : Int) - 1))) q (dt h23) q q <| Ra (ABool (decide (t0.High = (t0.Names.length : Int) - 1))) q q <| R0 ?_
        exact J_to [(4, I_ 0), (5, I_ b7), (6, ABool (decide (t0.High = (t0.Names.length : Int) - 1))), (18, I_ b7), (19, I_ b7), (23, I_ t0.Low), (39, I_ (t0.Names.length : Int)), (42, I_ t0.Low)] (.cons q (.cons q (.cons q (.cons q (.cons q (.cons q (.cons q (.cons q .nil)))))))) <| K26 (decide (t0.High = (t0.Names.length : Int) - 1))
      refine Rk (g_tn q q (df h23)) <| Rk (g_tn q q (df h23)) <| Rk (g_tn q q (df h23)) <| Rk (g_tn q q (df h23)) <| Rk (g_tn q q (df h23)) <| Rk (g_tn q q (df h23)) <| Rk (g_tn q q (df h23)) <| r_pickF (ABool false) q (df h23) q q <| Ra (ABool false) q q <| R0 ?_
      exact J_to [(4, I_ 0), (5, I_ b7), (6, ABool false), (18, I_ b7), (19, I_ b7), (23, I_ t0.Low), (39, I_ (t0.Names.length : Int)), (42, I_ t0.Low)] (.cons q (.cons q (.cons q (.cons q (.cons q (.cons q (.cons q (.cons q .nil)))))))) <| K26 false
    intro v25
    exact J_to [(4, I_ 0), (5, I_ b7), (6, ABool v25), (18, I_ b7), (19, I_ b7), (39, I_ (t0.Names.length : Int))] (.cons q (.cons q (.cons q (.cons q (.cons q (.cons q .nil)))))) <| K30 v25
  intro v28
  refine Js <| Jq q <| Rm (ABool v28) q q <| r_not q q <| R0 <| J_cond q (fun h29 => ?_) (fun h29 => ?_)
  · exact Jq q <| Ra (I_ 6) q q <| R0 <| Jt hΨ (Res_one q) q q
  exact J_skip <| Jq q <| Ra (I_ 0) q q <| R0 <| Jt hΨ (Res_one q) q q
theorem k_types_node (t0 : api_Types) (t1 : Int) (r : Int) (hr : types_node t0 t1 = some r) : FnP PP 124 [AAgg (c_api_Types t0), I_ t1] (I_ r) := by
  refine FnP.of mixed_ Tryz.func124 q (n := 70) q (fun (r : Int) => I_ r) nk_args NK.nk q hr fun X hΨ => ?_
  refine Jq q <| r_boxV (AAgg (c_api_Types t0)) q q <| Ra (I_ 0) q q <| R0 <| Jq q <| r_faT ((cL 4 c_api_NodeType) t0.Nodes) fo_59_0 q q q <| r_ld (AL 4 c_api_NodeType t0.Nodes) sc_56 q q q <| Rm (I_ t1) q q ?_
  refine R_if (fun h1 => ?_) (fun _ => R_none)
  refine r_ix (cc := c_api_NodeType) el_56 q q h1.1 h1.2 q <| r_lda (c_api_NodeType (nth t0.Nodes t1)) ag_106 q q q q <| r_alloc 0 _ z_106 q q <| r_stO (AObj 0) (AAgg (c_api_NodeType (nth t0.Nodes t1))) (c_api_NodeType (nth t0.Nodes t1)) sz_106 q .obj q q q q q q <| R0 <| Js <| J_block <| Jq q <| r_faO (AObj 0) 0 fo_106_0 q .obj q q q ?_
  refine r_ldO (ABoxAt 0 0) (AStr ((nth t0.Nodes t1).Name)) sc_9 q .at q q q <| R_bind fun b2 h3 => r_call _ fn_68 (k_token_IsName _ _ h3) q q <| r_not q q <| Ra (ABool (!b2)) q q <| R0 <| J_cond q (fun h4 => ?_) (fun h4 => ?_)
  · exact Jq q <| Ra (I_ 2) q q <| R0 <| Jt hΨ (Res_one q) q q
  refine Js <| J_cv [0] [] [] 0 [(1, I_ t1), (2, APtr (c_api_Types t0)), (4, I_ 0), (5, APtr (c_api_NodeType (nth t0.Nodes t1))), (11, I_ t1)] [] (.same q (.same q (.same q (.cons (A := AObj 0) q (.fbox q q (.cons .same (.cons .same (.cons .same (.cons .same .nil))))) (.same q .nil))))) .nil q q <| Jr q <| r_faT ((cL 4 c_api_NodeType) t0.Nodes) fo_59_0 q q q <| r_ld (AL 4 c_api_NodeType t0.Nodes) sc_56 q q q <| Rm (I_ t1) q q <| R_if (fun h6 => ?_) (fun _ => R_none)
  refine r_cut (cc := c_api_NodeType) 0 t1 el_56 q lo_n (hi_s q) h6.1 h6.2.1 h6.2.2 q <| r_mkFn [APtr (c_api_NodeType (nth t0.Nodes t1))] (fun x => [AAgg (c_api_NodeType x)]) (fun y => ABool y) (fun x => types_node_1 x (nth t0.Nodes t1)) fn_173 q (fun x y h => k_types_node_1 x (nth t0.Nodes t1) y h) q <| R_bind fun b7 h8 => r_call _ fn_172 (k_slices_ContainsFunc_api_NodeType _ _ _ h8) q q <| Ra (ABool b7) q q <| R0 <| J_cond q (fun h9 => ?_) (fun h9 => ?_)
  · exact Jq q <| Ra (I_ 5) q q <| R0 <| Jt hΨ (Res_one q) q q
  refine Jq q <| r_faT (c_i64 ((nth t0.Nodes t1).Parent)) fo_106_1 q q q <| r_ld (I_ ((nth t0.Nodes t1).Parent)) sc_3 q q q <| r_lss q q q <| Rm (ABool (decide ((nth t0.Nodes t1).Parent < (-1)))) q q <| R_if (fun h10 => ?_) (fun h10 => ?_)
  · refine Rk (g_fn q q (dt h10)) <| Rk (g_fn q q (dt h10)) <| Rk (g_fn q q (dt h10)) <| Rk (g_fn q q (dt h10)) <| r_pickT (ABool true) q (dt h10) q q <| Ra (ABool true) q q <| R0 <| J_cond_T q q <| Jq q ?_
    exact Ra (I_ 6) q q <| R0 <| Jt hΨ (Res_one q) q q
  refine r_faT (c_i64 ((nth t0.Nodes t1).Parent)) fo_106_1 q q (g_f q q (df h10)) <| r_ld (I_ ((nth t0.Nodes t1).Parent)) sc_3 q q (g_f q q (df h10)) <| Rm (I_ t1) q (g_f q q (df h10)) <| r_geq q q (g_f q q (df h10)) <| r_pickF (ABool (decide (t1 ≤ (nth t0.Nodes t1).Parent))) q (df h10) q q <| Ra (ABool (decide (t1 ≤ (nth t0.Nodes t1).Parent))) q q <| R0 <| J_cond_p q (fun h11 => ?_) (fun h11 => ?_)
  · exact Jq q <| Ra (I_ 6) q q <| R0 <| Jt hΨ (Res_one q) q q
  refine Jq q <| r_faT ((cL 4 c_api_Attr) ((nth t0.Nodes t1).Attrs)) fo_106_3 q q q <| r_ld (AL 4 c_api_Attr ((nth t0.Nodes t1).Attrs)) sc_104 q q q <| r_len (cc := c_api_Attr) il_104 q q <| r_gtr q q q <| Ra (ABool (decide (4 < (((nth t0.Nodes t1).Attrs).length : Int)))) q q <| R0 <| J_cond_p q (fun h12 => ?_) (fun h12 => ?_)
  · exact Jq q <| Ra (I_ 3) q q <| R0 <| Jt hΨ (Res_one q) q q
  refine J_skip <| J_inBlock <| Jq q <| r_lda (c_api_Types t0) ag_59 q q q q <| Rm (I_ t1) q q <| R_bind fun b13 h14 => r_call _ fn_174 (FnK.toP (r' := AL 4 c_api_Attr b13) (k_types_attrs _ _ _ h14) (.frow q q (NKC.flat _ _))) q q <| Ra (AL 4 c_api_Attr b13) q q <| R0 ?_
  refine Js <| Jq q <| Rm (AL 4 c_api_Attr b13) q q <| r_len (cc := c_api_Attr) il_104 q q <| r_gtr q q q <| R0 <| J_cond_p q (fun h15 => ?_) (fun h15 => ?_)
  · exact Jq q <| Ra (I_ 3) q q <| R0 <| Jt hΨ (Res_one q) q q
  refine J_skip <| Js <| Jq q <| Rm (AL 4 c_api_Attr b13) q q <| r_len (cc := c_api_Attr) il_104 q q <| r_faT ((cL 4 c_api_Attr) ((nth t0.Nodes t1).Attrs)) fo_106_3 q q q <| r_ld (AL 4 c_api_Attr ((nth t0.Nodes t1).Attrs)) sc_104 q q q <| r_len (cc := c_api_Attr) il_104 q q <| R_bind fun b16 h17 => ?_
  refine r_sub b16 q q (Option.some.inj h17) q <| Ra (I_ b16) q q <| R0 <| J_block <| J_cv [] [] [] 0 [(1, I_ t1), (4, I_ 0), (6, AL 4 c_api_Attr b13), (7, I_ b16), (11, I_ t1), (22, I_ t1), (28, I_ ((nth t0.Nodes t1).Parent)), (32, I_ ((nth t0.Nodes t1).Parent)), (33, I_ t1), (39, I_ (((nth t0.Nodes t1).Attrs).length : Int)), (42, I_ t1), (45, I_ (b13.length : Int)), (48, I_ (b13.length : Int)), (51, I_ (((nth t0.Nodes t1).Attrs).length : Int))] [] (.same q (.same q (.same q (.same q (.same q (.same q (.same q (.same q (.same q (.same q (.same q (.same q (.same q (.same q .nil)))))))))))))) .nil q q <| J_it (fun x18 => ⟨fr [(1, I_ t1), (4, I_ 0), (6, AL 4 c_api_Attr b13), (7, I_ x18), (11, I_ t1), (22, I_ t1), (28, I_ ((nth t0.Nodes t1).Parent)), (32, I_ ((nth t0.Nodes t1).Parent)), (33, I_ t1), (39, I_ (((nth t0.Nodes t1).Attrs).length : Int)), (42, I_ t1), (45, I_ (b13.length : Int)), (48, I_ (b13.length : Int)), (51, I_ (((nth t0.Nodes t1).Attrs).length : Int))], hp [], 0⟩) (fun E19 hE19 x18 => ?_) (by rfl)
  refine Js <| Jq q <| Rm (I_ x18) q q <| Rm (AL 4 c_api_Attr b13) q q <| r_len (cc := c_api_Attr) il_104 q q <| r_lss q q q <| R0 <| J_cond_p q (fun h28 => ?_) (fun h28 => ?_)
  rotate_left
  · exact J_exit q <| J_outS <| Jq q <| Ra (I_ 0) q q <| R0 <| Jt hΨ (Res_one q) q q
  refine J_skip <| Js <| J_block <| Js <| J_draw <| Rm (AL 4 c_api_Attr b13) q q <| Rm (I_ x18) q q <| R_if (fun h29 => ?_) (fun _ => R_none)
  refine r_ix (cc := c_api_Attr) el_104 q q h29.1 h29.2 q <| r_lda (c_api_Attr (nth b13 x18)) ag_109 q q q q <| Rm (AL 4 c_api_Attr b13) q q <| Rm (I_ x18) q q <| R_if (fun h30 => ?_) (fun _ => R_none)
  refine r_cut (cc := c_api_Attr) 0 x18 el_104 q lo_n (hi_s q) h30.1 h30.2.1 h30.2.2 q <| R_bind fun b31 h32 => r_call _ fn_175 (k_types_attribute _ _ _ h32) q q <| Ra (I_ b31) q q <| R_nilD (by kernel_rfl) <| Jq q <| Rm (I_ b31) q q <| r_neq q q q <| R0 ?_
  refine J_cond_p q (fun h33 => ?_) (fun h33 => ?_)
  · exact Jq q <| Rm (I_ b31) q q <| Ra (I_ b31) q q <| R0 <| J_outS <| Jt hΨ (Res_one q) q q
  refine J_skip <| J_inBlock <| J_range 45 (m := (b13.length : Int)) q fun q34 => J_range 7 (m := x18) q fun q35 => Jr q <| Rm (I_ x18) q q <| r_add (x18 + 1) q q (wrap_i64 (by omega) (by omega)) q <| Ra (I_ (x18 + 1)) q q <| R0 <| J_go ?_
  exact J_cv [] [] [] 0 [(1, I_ t1), (4, I_ 0), (6, AL 4 c_api_Attr b13), (7, I_ (x18 + 1)), (11, I_ t1), (22, I_ t1), (28, I_ ((nth t0.Nodes t1).Parent)), (32, I_ ((nth t0.Nodes t1).Parent)), (33, I_ t1), (39, I_ (((nth t0.Nodes t1).Attrs).length : Int)), (42, I_ t1), (45, I_ (b13.length : Int)), (48, I_ (b13.length : Int)), (51, I_ (((nth t0.Nodes t1).Attrs).length : Int))] [] (.same q (.same q (.same q (.same q (.same q (.same q (.same q (.same q (.same q (.same q (.same q (.same q (.same q (.same q .nil)))))))))))))) .nil q q <| hE19 (x18 + 1)
theorem k_types_edge_1 (t0 : Int) (t1 : api_Types) (r : Bool) (hr : types_edge_1 t0 t1 = some r) : FnP PP 176 [I_ t0, APtr (c_api_Types t1)] (ABool r) := by
  refine FnP.of mixed_ Tryz.func176 q (n := 13) q (fun (r : Bool) => ABool r) nk_args NK.nk q hr fun X hΨ => ?_
  refine Jq q <| Ra (ABool false) q q <| R0 <| Jq q <| Rm (I_ t0) q q <| r_geq q q q <| Rm (ABool (decide (0 ≤ t0))) q q <| R_if (fun h1 => ?_) (fun h1 => ?_)
  · exact Rm (I_ t0) q (g_t q q (dt h1)) <| r_faT ((cL 4 c_api_NodeType) t1.Nodes) fo_59_0 q q (g_t q q (dt h1)) <| r_ld (AL 4 c_api_NodeType t1.Nodes) sc_56 q q (g_t q q (dt h1)) <| r_len (cc := c_api_NodeType) il_56 q (g_t q q (dt h1)) <| r_lss q q (g_t q q (dt h1)) <| r_pickT (ABool (decide (t0 < (t1.Nodes.length : Int)))) q (dt h1) q q <| Ra (ABool (decide (t0 < (t1.Nodes.length : Int)))) q q <| R0 <| Jt hΨ (Res_one q) q q
  exact Rk (g_tn q q (df h1)) <| Rk (g_tn q q (df h1)) <| Rk (g_tn q q (df h1)) <| Rk (g_tn q q (df h1)) <| Rk (g_tn q q (df h1)) <| r_pickF (ABool false) q (df h1) q q <| Ra (ABool false) q q <| R0 <| Jt hΨ (Res_one q) q q
theorem k_slices_IndexFunc_api_EdgeType (t0 : (List api_EdgeType)) (t1 : (api_EdgeType → Option Bool)) (r : Int) (hr : slices_IndexFunc_api_EdgeType t0 t1 = some r) : FnP PP 232 [AL 7 c_api_EdgeType t0, AFn PP (fun x => [AAgg (c_api_EdgeType x)]) (fun y => ABool y) t1] (I_ r) := by
  refine FnP.of mixed_ Tryz.func232 q (n := 19) q (fun (r : Int) => I_ r) nk_args NK.nk q hr fun X hΨ => ?_
  refine Jq q <| Ra (I_ 0) q q <| R0 <| Js <| Jq q <| Rm (AL 7 c_api_EdgeType t0) q q <| r_len (cc := c_api_EdgeType) il_57 q q <| Rm (I_ 0) q q ?_
  refine R0 <| J_block <| J_to [(0, AL 7 c_api_EdgeType t0), (1, AFn PP (fun x => [AAgg (c_api_EdgeType x)]) (fun y => ABool y) t1), (7, I_ (t0.length : Int)), (8, I_ 0)] (.cons q (.cons q (.cons q (.cons q .nil)))) <| J_it (fun x1 => ⟨fr [(0, AL 7 c_api_EdgeType t0), (1, AFn PP (fun x => [AAgg (c_api_EdgeType x)]) (fun y => ABool y) t1), (7, I_ (t0.length : Int)), (8, I_ x1)], fun _ => none, 0⟩) (fun E2 hE2 x1 => ?_) (by rfl)
  refine Jq q <| r_lss q q q <| R0 <| Js <| J_cond_p q (fun h8 => ?_) (fun h8 => ?_)
  rotate_left
  · exact J_exit q <| J_outS <| Jq q <| Ra (I_ (-1)) q q <| R0 <| Jt hΨ (Res_one q) q q
  refine J_skip <| Js <| J_block <| Jq q <| Rm (I_ x1) q q <| Ra (I_ x1) q q <| R0 <| Jq q ?_
  refine Rm (AFn PP (fun x => [AAgg (c_api_EdgeType x)]) (fun y => ABool y) t1) q q <| Rm (AL 7 c_api_EdgeType t0) q q <| Rm (I_ x1) q q <| R_if (fun h9 => ?_) (fun _ => R_none)
  refine r_ix (cc := c_api_EdgeType) el_57 q q h9.1 h9.2 q <| r_lda (c_api_EdgeType (nth t0 x1)) ag_111 q q q q <| R_bind fun b10 h11 => r_callFn (ga := (fun x => [AAgg (c_api_EdgeType x)])) (rt := (fun y => ABool y)) (gg := t1) (u := (nth t0 x1)) (w := b10) q q h11 (NK.nk) q <| R0 <| J_cond q (fun h12 => ?_) (fun h12 => ?_)
  · exact Jq q <| Rm (I_ x1) q q <| Ra (I_ x1) q q <| R0 <| J_outS <| Jt hΨ (Res_one q) q q
  refine J_skip <| J_inBlock <| J_range 7 (m := (t0.length : Int)) q fun q13 => J_range 5 (m := x1) q fun q14 => Jr q <| r_add (x1 + 1) q q (wrap_i64 (by omega) (by omega)) q <| Rm (I_ (x1 + 1)) q q <| R0 <| J_go <| J_to [(0, AL 7 c_api_EdgeType t0), (1, AFn PP (fun x => [AAgg (c_api_EdgeType x)]) (fun y => ABool y) t1), (7, I_ (t0.length : Int)), (8, I_ (x1 + 1))] (.cons q (.cons q (.cons q (.cons q .nil)))) ?_
  exact hE2 (x1 + 1)
theorem k_slices_ContainsFunc_api_EdgeType (t0 : (List api_EdgeType)) (t1 : (api_EdgeType → Option Bool)) (r : Bool) (hr : slices_ContainsFunc_api_EdgeType t0 t1 = some r) : FnP PP 177 [AL 7 c_api_EdgeType t0, AFn PP (fun x => [AAgg (c_api_EdgeType x)]) (fun y => ABool y) t1] (ABool r) := by
  refine FnP.of mixed_ Tryz.func177 q (n := 9) q (fun (r : Bool) => ABool r) nk_args NK.nk q hr fun X hΨ => ?_
  refine Jq q <| Ra (ABool false) q q <| R0 <| Jq q <| Rm (AL 7 c_api_EdgeType t0) q q <| Rm (AFn PP (fun x => [AAgg (c_api_EdgeType x)]) (fun y => ABool y) t1) q q <| R_bind fun b1 h2 => r_call _ fn_232 (k_slices_IndexFunc_api_EdgeType _ _ _ h2) q q ?_
  exact r_geq q q q <| Ra (ABool (decide (0 ≤ b1))) q q <| R0 <| Jt hΨ (Res_one q) q q
theorem k_types_edge_2 (t0 : api_EdgeType) (t1 : api_EdgeType) (r : Bool) (hr : types_edge_2 t0 t1 = some r) : FnP PP 178 [AAgg (c_api_EdgeType t0), APtr (c_api_EdgeType t1)] (ABool r) := by
  refine FnP.of mixed_ Tryz.func178 q (n := 9) q (fun (r : Bool) => ABool r) nk_args NK.nk q hr fun X hΨ => ?_
  refine Jq q <| r_boxV (AAgg (c_api_EdgeType t0)) q q <| Ra (ABool false) q q <| R0 <| Jq q <| r_faT (c_str t0.Name) fo_111_0 q q q <| r_ld (AStr t0.Name) sc_9 q q q <| r_faT (c_str t1.Name) fo_111_0 q q q ?_
  exact r_ld (AStr t1.Name) sc_9 q q q <| r_eqS q q q <| Ra (ABool (decide (t0.Name = t1.Name))) q q <| R0 <| Jt hΨ (Res_one q) q q
theorem k_types_bounded (t0 : Int) (t1 : Int) (r : Bool) (hr : types_bounded t0 t1 = some r) : FnP PP 179 [I_ t0, I_ t1] (ABool r) := by
  refine FnP.of mixed_ Tryz.func179 q (n := 24) q (fun (r : Bool) => ABool r) nk_args NK.nk q hr fun X hΨ => ?_
  refine Jq q <| Ra (ABool false) q q <| R0 <| Jq q <| Rm (I_ t0) q q <| r_geq q q q <| Rm (ABool (decide (0 ≤ t0))) q q <| R_if (fun h1 => ?_) (fun h1 => ?_)
  rotate_left
  · refine Rk (g_tn q q (df h1)) <| Rk (g_tn q q (df h1)) <| r_pickF (ABool false) q (df h1) q q <| Rm (ABool false) q q <| Rk (g_tn q q q) <| Rk (g_tn q q q) <| Rk (g_tn q q q) <| Rk (g_u q q) <| Rk (g_u q q) <| Rk (g_u q q) ?_
    exact Rk (g_u q q) <| Rk (g_u q q) <| Rk (g_u q q) <| Rk (g_u q q) <| Rk (g_tn q q q) <| r_pickF (ABool false) q q q q <| Ra (ABool false) q q <| R0 <| Jt hΨ (Res_one q) q q
  refine Rm (I_ t0) q (g_t q q (dt h1)) <| r_leq q q (g_t q q (dt h1)) <| r_pickT (ABool (decide (t0 ≤ 40))) q (dt h1) q q <| Rm (ABool (decide (t0 ≤ 40))) q q <| R_if (fun h2 => ?_) (fun h2 => ?_)
  rotate_left
  · refine Rk (g_tn q q (df h2)) <| Rk (g_tn q q (df h2)) <| Rk (g_tn q q (df h2)) <| Rk (g_u q q) <| Rk (g_u q q) <| Rk (g_u q q) <| Rk (g_u q q) <| Rk (g_u q q) <| Rk (g_u q q) <| Rk (g_u q q) ?_
    exact Rk (g_tn q q (df h2)) <| r_pickF (ABool false) q (df h2) q q <| Ra (ABool false) q q <| R0 <| Jt hΨ (Res_one q) q q
  refine Rm (I_ t1) q (g_t q q (dt h2)) <| r_eql q q (g_t q q (dt h2)) <| Rm (ABool (decide (t1 = (-1)))) q (g_t q q (dt h2)) <| R_if (fun h3 => ?_) (fun h3 => ?_)
  · refine Rk (g_fn q q (dt h3)) <| Rk (g_fn q q (dt h3)) <| Rk (g_fn q q (dt h3)) <| Rk (g_fn q q (dt h3)) <| Rk (g_u q q) <| Rk (g_u q q) <| Rk (g_fn q q (dt h3)) <| r_pickT (ABool true) q (dt h3) q (g_t q q (dt h2)) <| r_pickT (ABool true) q (dt h2) q q <| Ra (ABool true) q q ?_
    exact R0 <| Jt hΨ (Res_one q) q q
  refine Rm (I_ t1) q (g_f q q (df h3)) <| Rm (I_ t0) q (g_f q q (df h3)) <| r_geq q q (g_f q q (df h3)) <| Rm (ABool (decide (t0 ≤ t1))) q (g_f q q (df h3)) <| R_if (fun h4 => ?_) (fun h4 => ?_)
  · exact Rm (I_ t1) q (g_t q q (dt h4)) <| r_leq q q (g_t q q (dt h4)) <| r_pickT (ABool (decide (t1 ≤ 40))) q (dt h4) q (g_f q q (df h3)) <| r_pickF (ABool (decide (t1 ≤ 40))) q (df h3) q (g_t q q (dt h2)) <| r_pickT (ABool (decide (t1 ≤ 40))) q (dt h2) q q <| Ra (ABool (decide (t1 ≤ 40))) q q <| R0 <| Jt hΨ (Res_one q) q q
  exact Rk (g_tn q q (df h4)) <| Rk (g_tn q q (df h4)) <| r_pickF (ABool false) q (df h4) q (g_f q q (df h3)) <| r_pickF (ABool false) q (df h3) q (g_t q q (dt h2)) <| r_pickT (ABool false) q (dt h2) q q <| Ra (ABool false) q q <| R0 <| Jt hΨ (Res_one q) q q
theorem k_types_edge (t0 : api_Types) (t1 : Int) (r : Int) (hr : types_edge t0 t1 = some r) : FnP PP 125 [AAgg (c_api_Types t0), I_ t1] (I_ r) := by
  refine FnP.of mixed_ Tryz.func125 q (n := 52) q (fun (r : Int) => I_ r) nk_args NK.nk q hr fun X hΨ => ?_
  refine Jq q <| r_boxV (AAgg (c_api_Types t0)) q q <| Ra (I_ 0) q q <| R0 <| Jq q <| r_faT ((cL 7 c_api_EdgeType) t0.Edges) fo_59_1 q q q <| r_ld (AL 7 c_api_EdgeType t0.Edges) sc_57 q q q <| Rm (I_ t1) q q ?_
  refine R_if (fun h1 => ?_) (fun _ => R_none)
  refine r_ix (cc := c_api_EdgeType) el_57 q q h1.1 h1.2 q <| r_lda (c_api_EdgeType (nth t0.Edges t1)) ag_111 q q q q <| r_alloc 0 _ z_111 q q <| r_stO (AObj 0) (AAgg (c_api_EdgeType (nth t0.Edges t1))) (c_api_EdgeType (nth t0.Edges t1)) sz_111 q .obj q q q q q q <| R0 <| Jq q <| r_mkFn [APtr (c_api_Types t0)] (fun x => [I_ x]) (fun y => ABool y) (fun x => types_edge_1 x t0) fn_176 q (fun x y h => k_types_edge_1 x t0 y h) q <| Ra (AFn PP (fun x => [I_ x]) (fun y => ABool y) (fun x => types_edge_1 x t0)) q q <| R0 ?_
  refine Js <| J_block <| Jq q <| r_faO (AObj 0) 0 fo_111_0 q .obj q q q <| r_ldO (ABoxAt 0 0) (AStr ((nth t0.Edges t1).Name)) sc_9 q .at q q q <| R_bind fun b2 h3 => r_call _ fn_68 (k_token_IsName _ _ h3) q q <| r_not q q <| Ra (ABool (!b2)) q q ?_
  refine R0 <| J_cond q (fun h4 => ?_) (fun h4 => ?_)
  · exact Jq q <| Ra (I_ 2) q q <| R0 <| Jt hΨ (Res_one q) q q
  refine Js <| J_cv [0] [] [] 0 [(1, I_ t1), (2, APtr (c_api_Types t0)), (4, I_ 0), (5, APtr (c_api_EdgeType (nth t0.Edges t1))), (6, AFn PP (fun x => [I_ x]) (fun y => ABool y) (fun x => types_edge_1 x t0)), (9, I_ t1)] [] (.same q (.same q (.same q (.cons (A := AObj 0) q (.fbox q q (.cons .same (.cons .same (.cons .same (.cons .same (.cons .same (.cons .same (.cons .same .nil)))))))) (.same q (.same q .nil)))))) .nil q q <| Jr q <| r_faT ((cL 7 c_api_EdgeType) t0.Edges) fo_59_1 q q q <| r_ld (AL 7 c_api_EdgeType t0.Edges) sc_57 q q q <| Rm (I_ t1) q q <| R_if (fun h6 => ?_) (fun _ => R_none)
  refine r_cut (cc := c_api_EdgeType) 0 t1 el_57 q lo_n (hi_s q) h6.1 h6.2.1 h6.2.2 q <| r_mkFn [APtr (c_api_EdgeType (nth t0.Edges t1))] (fun x => [AAgg (c_api_EdgeType x)]) (fun y => ABool y) (fun x => types_edge_2 x (nth t0.Edges t1)) fn_178 q (fun x y h => k_types_edge_2 x (nth t0.Edges t1) y h) q <| R_bind fun b7 h8 => r_call _ fn_177 (k_slices_ContainsFunc_api_EdgeType _ _ _ h8) q q <| Ra (ABool b7) q q <| R0 <| J_cond q (fun h9 => ?_) (fun h9 => ?_)
  · exact Jq q <| Ra (I_ 5) q q <| R0 <| Jt hΨ (Res_one q) q q
  refine Js <| Js ?_
  apply J_joinA (fun v26 => ⟨fr [(1, I_ t1), (4, I_ 0), (9, I_ t1), (21, I_ t1), (25, ABool v26)], hp [], 0⟩) (fun v26 => types_edge_j26 v26)
  · intro K28
    apply J_joinA (fun v16 => ⟨fr [(1, I_ t1), (4, I_ 0), (9, I_ t1), (21, I_ t1), (25, ABool v16)], hp [], 0⟩) (fun v16 => types_edge_j16 v16)
    · intro K17
      refine Jr q <| Rm (AFn PP (fun x => [I_ x]) (fun y => ABool y) (fun x => types_edge_1 x t0)) q q <| r_faT (c_i64 ((nth t0.Edges t1).From)) fo_111_1 q q q <| r_ld (I_ ((nth t0.Edges t1).From)) sc_3 q q q <| R_bind fun b10 h11 => r_callFn (ga := (fun x => [I_ x])) (rt := (fun y => ABool y)) (gg := (fun x => types_edge_1 x t0)) (u := (nth t0.Edges t1).From) (w := b10) q q h11 (NK.nk) q <| r_not q q <| Rm (ABool (!b10)) q q <| R_if (fun h12 => ?_) (fun h12 => ?_)
      · refine Rk (g_fn q q h12) <| Rk (g_fn q q h12) <| Rk (g_fn q q h12) <| Rk (g_fn q q h12) <| Rk (g_fn q q h12) <| r_pickT (ABool true) q h12 q q <| Ra (ABool true) q q <| R0 <| J_cond_T q q <| J_cv [] [] [] 0 [(1, I_ t1), (4, I_ 0), (9, I_ t1), (21, I_ t1), (25, ABool true)] [] (.same q (.same q (.same q (.same q (.same q .nil))))) .nil q q ?_
        exact K17 true
      refine Rm (AFn PP (fun x => [I_ x]) (fun y => ABool y) (fun x => types_edge_1 x t0)) q (g_f q q (bf h12)) <| r_faT (c_i64 ((nth t0.Edges t1).To)) fo_111_2 q q (g_f q q (bf h12)) <| r_ld (I_ ((nth t0.Edges t1).To)) sc_3 q q (g_f q q (bf h12)) <| R_bind fun b13 h14 => r_callFn (ga := (fun x => [I_ x])) (rt := (fun y => ABool y)) (gg := (fun x => types_edge_1 x t0)) (u := (nth t0.Edges t1).To) (w := b13) q q h14 (NK.nk) (g_f q q (bf h12)) <| r_not q (g_f q q (bf h12)) <| r_pickF (ABool (!b13)) q (bf h12) q q <| Ra (ABool (!b13)) q q <| R0 <| J_cond q (fun h15 => ?_) (fun h15 => ?_)
      · exact J_cv [] [] [] 0 [(1, I_ t1), (4, I_ 0), (9, I_ t1), (21, I_ t1), (25, ABool (!b13))] [] (.same q (.same q (.same q (.same q (.same q .nil))))) .nil q q <| K17 (!b13)
      apply J_joinA (fun v23 => ⟨fr [(1, I_ t1), (4, I_ 0), (9, I_ t1), (21, I_ t1), (25, ABool v23)], hp [], 0⟩) (fun v23 => types_edge_j23 v23)
      · intro K24
        refine Jr q <| r_faT (c_i64 ((nth t0.Edges t1).OutLow)) fo_111_3 q q q <| r_ld (I_ ((nth t0.Edges t1).OutLow)) sc_3 q q q <| r_faT (c_i64 ((nth t0.Edges t1).OutHigh)) fo_111_4 q q q <| r_ld (I_ ((nth t0.Edges t1).OutHigh)) sc_3 q q q <| R_bind fun b18 h19 => r_call _ fn_179 (k_types_bounded _ _ _ h19) q q <| r_not q q <| Rm (ABool (!b18)) q q <| R_if (fun h20 => ?_) (fun h20 => ?_)
        · refine Rk (g_fn q q h20) <| Rk (g_fn q q h20) <| Rk (g_fn q q h20) <| Rk (g_fn q q h20) <| Rk (g_fn q q h20) <| Rk (g_fn q q h20) <| r_pickT (ABool true) q h20 q q <| Ra (ABool true) q q <| R0 <| J_cv [] [] [] 0 [(1, I_ t1), (4, I_ 0), (9, I_ t1), (21, I_ t1), (25, ABool true)] [] (.same q (.same q (.same q (.same q (.same q .nil))))) .nil q q ?_
          exact K24 true
        refine r_faT (c_i64 ((nth t0.Edges t1).InLow)) fo_111_5 q q (g_f q q (bf h20)) <| r_ld (I_ ((nth t0.Edges t1).InLow)) sc_3 q q (g_f q q (bf h20)) <| r_faT (c_i64 ((nth t0.Edges t1).InHigh)) fo_111_6 q q (g_f q q (bf h20)) <| r_ld (I_ ((nth t0.Edges t1).InHigh)) sc_3 q q (g_f q q (bf h20)) <| R_bind fun b21 h22 => r_call _ fn_179 (k_types_bounded _ _ _ h22) q (g_f q q (bf h20)) <| r_not q (g_f q q (bf h20)) <| r_pickF (ABool (!b21)) q (bf h20) q q <| Ra (ABool (!b21)) q q <| R0 ?_
        exact J_cv [] [] [] 0 [(1, I_ t1), (4, I_ 0), (9, I_ t1), (21, I_ t1), (25, ABool (!b21))] [] (.same q (.same q (.same q (.same q (.same q .nil))))) .nil q q <| K24 (!b21)
      intro v23
      exact J_cv [] [] [] 0 [(1, I_ t1), (4, I_ 0), (9, I_ t1), (21, I_ t1), (25, ABool v23)] [] (.same q (.same q (.same q (.same q (.same q .nil))))) .nil q q <| K28 v23
    intro v16
    exact J_skip <| J_cv [] [] [] 0 [(1, I_ t1), (4, I_ 0), (9, I_ t1), (21, I_ t1), (25, ABool v16)] [] (.same q (.same q (.same q (.same q (.same q .nil))))) .nil q q <| K28 v16
  intro v26
  refine J_cond q (fun h27 => ?_) (fun h27 => ?_)
  · exact Jq q <| Ra (I_ 6) q q <| R0 <| Jt hΨ (Res_one q) q q
  exact J_skip <| J_inBlock <| Jq q <| Ra (I_ 0) q q <| R0 <| Jt hΨ (Res_one q) q q
theorem k_types_Valid (t0 : api_Types) (r : ByteArray × Int) (hr : types_Valid t0 = some r) : FnP PP 67 [AAgg (c_api_Types t0)] (ATup [AStr r.1, I_ r.2]) := by
  refine FnP.of mixed_ Tryz.func67 q (n := 60) q (fun (r : ByteArray × Int) => ATup [AStr r.1, I_ r.2]) nk_args NK.nk q hr fun X hΨ => ?_
  refine Jq q <| r_boxV (AAgg (c_api_Types t0)) q q <| Ra (AStr (ByteArray.mk #[])) q q <| Ra (I_ 0) q q <| R0 <| Js <| J_block <| Jq q ?_
  refine r_faT ((cL 4 c_api_NodeType) t0.Nodes) fo_59_0 q q q <| r_ld (AL 4 c_api_NodeType t0.Nodes) sc_56 q q q <| r_len (cc := c_api_NodeType) il_56 q q <| r_eql q q q <| Ra (ABool (decide ((t0.Nodes.length : Int) = 0))) q q <| R0 <| J_cond_p q (fun h1 => ?_) (fun h1 => ?_)
  · exact Jq q <| Ra (AStr (ByteArray.mk #[])) q q <| Ra (I_ 7) q q <| R0 <| Jt hΨ (Res_many (As := [AStr (ByteArray.mk #[]), I_ 7]) q q (.cons (.tmp (A := AStr (ByteArray.mk #[])) q) (.cons (.tmp (A := I_ 7) q) .nil))) q q
  refine Jq q <| r_faT ((cL 4 c_api_NodeType) t0.Nodes) fo_59_0 q q q <| r_ld (AL 4 c_api_NodeType t0.Nodes) sc_56 q q q <| r_len (cc := c_api_NodeType) il_56 q q <| r_gtr q q q <| Rm (ABool (decide (12 < (t0.Nodes.length : Int)))) q q <| R_if (fun h2 => ?_) (fun h2 => ?_)
  · refine Rk (g_fn q q (dt h2)) <| Rk (g_fn q q (dt h2)) <| Rk (g_fn q q (dt h2)) <| Rk (g_fn q q (dt h2)) <| r_pickT (ABool true) q (dt h2) q q <| Ra (ABool true) q q <| R0 <| J_cond_T q q <| Jq q ?_
    exact Ra (AStr (ByteArray.mk #[])) q q <| Ra (I_ 3) q q <| R0 <| Jt hΨ (Res_many (As := [AStr (ByteArray.mk #[]), I_ 3]) q q (.cons (.tmp (A := AStr (ByteArray.mk #[])) q) (.cons (.tmp (A := I_ 3) q) .nil))) q q
  refine r_faT ((cL 7 c_api_EdgeType) t0.Edges) fo_59_1 q q (g_f q q (df h2)) <| r_ld (AL 7 c_api_EdgeType t0.Edges) sc_57 q q (g_f q q (df h2)) <| r_len (cc := c_api_EdgeType) il_57 q (g_f q q (df h2)) <| r_gtr q q (g_f q q (df h2)) <| r_pickF (ABool (decide (20 < (t0.Edges.length : Int)))) q (df h2) q q <| Ra (ABool (decide (20 < (t0.Edges.length : Int)))) q q <| R0 <| J_cond_p q (fun h3 => ?_) (fun h3 => ?_)
  · exact Jq q <| Ra (AStr (ByteArray.mk #[])) q q <| Ra (I_ 3) q q <| R0 <| Jt hΨ (Res_many (As := [AStr (ByteArray.mk #[]), I_ 3]) q q (.cons (.tmp (A := AStr (ByteArray.mk #[])) q) (.cons (.tmp (A := I_ 3) q) .nil))) q q
  refine J_skip <| J_inBlock <| Js <| Jq q <| r_faT ((cL 4 c_api_NodeType) t0.Nodes) fo_59_0 q q q <| r_ld (AL 4 c_api_NodeType t0.Nodes) sc_56 q q q <| r_len (cc := c_api_NodeType) il_56 q q <| Rm (I_ 0) q q <| R0 ?_
  refine J_block <| J_cv [] [] [] 0 [(1, APtr (c_api_Types t0)), (3, I_ 0), (13, I_ (t0.Nodes.length : Int)), (18, I_ (t0.Nodes.length : Int)), (23, I_ (t0.Edges.length : Int)), (27, AL 4 c_api_NodeType t0.Nodes), (28, I_ (t0.Nodes.length : Int)), (29, I_ 0)] [] (.same q (.same q (.same q (.same q (.same q (.same q (.same q (.same q .nil)))))))) .nil q q <| J_it (fun x4 => ⟨fr [(1, APtr (c_api_Types t0)), (3, I_ 0), (13, I_ (t0.Nodes.length : Int)), (18, I_ (t0.Nodes.length : Int)), (23, I_ (t0.Edges.length : Int)), (27, AL 4 c_api_NodeType t0.Nodes), (28, I_ (t0.Nodes.length : Int)), (29, I_ x4)], hp [], 0⟩) (fun E5 hE5 x4 => ?_) (by rfl)
  refine Jq q <| r_lss q q q <| R0 <| Js <| J_cond_p q (fun h11 => ?_) (fun h11 => ?_)
  · refine J_skip <| Js <| J_block <| Jq q <| Rm (I_ x4) q q <| R_if (fun h12 => ?_) (fun _ => R_none)
    refine r_ix (cc := c_api_NodeType) el_56 q q h12.1 h12.2 q <| r_lda (c_api_NodeType (nth t0.Nodes x4)) ag_106 q q q q <| r_alloc 0 _ z_106 q q <| Ra (I_ x4) q q <| r_stO (AObj 0) (AAgg (c_api_NodeType (nth t0.Nodes x4))) (c_api_NodeType (nth t0.Nodes x4)) sz_106 q .obj q q q q q q <| R0 <| Jq q <| r_lda (c_api_Types t0) ag_59 q q q q <| Rm (I_ x4) q q ?_
    refine R_bind fun b13 h14 => r_call _ fn_124 (k_types_node _ _ _ h14) q q <| Ra (I_ b13) q q <| R0 <| Jq q <| Rm (I_ b13) q q <| r_neq q q q <| R0 <| J_cond_p q (fun h15 => ?_) (fun h15 => ?_)
    · exact Jq q <| r_faO (AObj 0) 0 fo_106_0 q .obj q q q <| r_ldO (ABoxAt 0 0) (AStr ((nth t0.Nodes x4).Name)) sc_9 q .at q q q <| Rm (I_ b13) q q <| Ra (AStr ((nth t0.Nodes x4).Name)) q q <| Ra (I_ b13) q q <| R0 <| J_outS <| Jt hΨ (Res_many (As := [AStr ((nth t0.Nodes x4).Name), I_ b13]) q q (.cons (.tmp (A := AStr ((nth t0.Nodes x4).Name)) q) (.cons (.tmp (A := I_ b13) q) .nil))) q q
    refine J_skip <| J_inBlock <| J_range 13 (m := (t0.Nodes.length : Int)) q fun q16 => J_range 4 (m := x4) q fun q17 => Jr q <| r_add (x4 + 1) q q (wrap_i64 (by omega) (by omega)) q <| Rm (I_ (x4 + 1)) q q <| R0 <| J_go <| J_cv [] [] [] 0 [(1, APtr (c_api_Types t0)), (3, I_ 0), (13, I_ (t0.Nodes.length : Int)), (18, I_ (t0.Nodes.length : Int)), (23, I_ (t0.Edges.length : Int)), (27, AL 4 c_api_NodeType t0.Nodes), (28, I_ (t0.Nodes.length : Int)), (29, I_ (x4 + 1))] [] (.same q (.same q (.same q (.same q (.same q (.same q (.same q (.same q .nil)))))))) .nil q q ?_
    exact hE5 (x4 + 1)
  refine J_exit q <| J_out <| Js <| Jq q <| r_faT ((cL 7 c_api_EdgeType) t0.Edges) fo_59_1 q q q <| r_ld (AL 7 c_api_EdgeType t0.Edges) sc_57 q q q <| r_len (cc := c_api_EdgeType) il_57 q q <| Rm (I_ 0) q q <| R0 ?_
  refine J_block <| J_cv [] [] [] 0 [(1, APtr (c_api_Types t0)), (3, I_ 0), (13, I_ (t0.Nodes.length : Int)), (18, I_ (t0.Nodes.length : Int)), (23, I_ (t0.Edges.length : Int)), (28, I_ (t0.Nodes.length : Int)), (29, I_ x4), (44, AL 7 c_api_EdgeType t0.Edges), (45, I_ (t0.Edges.length : Int)), (46, I_ 0)] [] (.same q (.same q (.same q (.same q (.same q (.same q (.same q (.same q (.same q (.same q .nil)))))))))) .nil q q <| J_it (fun x18 => ⟨fr [(1, APtr (c_api_Types t0)), (3, I_ 0), (13, I_ (t0.Nodes.length : Int)), (18, I_ (t0.Nodes.length : Int)), (23, I_ (t0.Edges.length : Int)), (28, I_ (t0.Nodes.length : Int)), (29, I_ x4), (44, AL 7 c_api_EdgeType t0.Edges), (45, I_ (t0.Edges.length : Int)), (46, I_ x18)], hp [], 0⟩) (fun E19 hE19 x18 => ?_) (by rfl)
  refine Jq q <| r_lss q q q <| R0 <| Js <| J_cond_p q (fun h25 => ?_) (fun h25 => ?_)
  rotate_left
  · exact J_exit q <| J_outS <| Jq q <| Ra (AStr (ByteArray.mk #[])) q q <| Ra (I_ 0) q q <| R0 <| Jt hΨ (Res_many (As := [AStr (ByteArray.mk #[]), I_ 0]) q q (.cons (.tmp (A := AStr (ByteArray.mk #[])) q) (.cons (.tmp (A := I_ 0) q) .nil))) q q
  refine J_skip <| Js <| J_block <| Jq q <| Rm (I_ x18) q q <| R_if (fun h26 => ?_) (fun _ => R_none)
  refine r_ix (cc := c_api_EdgeType) el_57 q q h26.1 h26.2 q <| r_lda (c_api_EdgeType (nth t0.Edges x18)) ag_111 q q q q <| r_alloc 0 _ z_111 q q <| Ra (I_ x18) q q <| r_stO (AObj 0) (AAgg (c_api_EdgeType (nth t0.Edges x18))) (c_api_EdgeType (nth t0.Edges x18)) sz_111 q .obj q q q q q q <| R0 <| Jq q <| r_lda (c_api_Types t0) ag_59 q q q q <| Rm (I_ x18) q q ?_
  refine R_bind fun b27 h28 => r_call _ fn_125 (k_types_edge _ _ _ h28) q q <| Ra (I_ b27) q q <| R0 <| Jq q <| Rm (I_ b27) q q <| r_neq q q q <| R0 <| J_cond_p q (fun h29 => ?_) (fun h29 => ?_)
  · exact Jq q <| r_faO (AObj 0) 0 fo_111_0 q .obj q q q <| r_ldO (ABoxAt 0 0) (AStr ((nth t0.Edges x18).Name)) sc_9 q .at q q q <| Rm (I_ b27) q q <| Ra (AStr ((nth t0.Edges x18).Name)) q q <| Ra (I_ b27) q q <| R0 <| J_outS <| Jt hΨ (Res_many (As := [AStr ((nth t0.Edges x18).Name), I_ b27]) q q (.cons (.tmp (A := AStr ((nth t0.Edges x18).Name)) q) (.cons (.tmp (A := I_ b27) q) .nil))) q q
  refine J_skip <| J_inBlock <| J_range 23 (m := (t0.Edges.length : Int)) q fun q30 => J_range 7 (m := x18) q fun q31 => Jr q <| r_add (x18 + 1) q q (wrap_i64 (by omega) (by omega)) q <| Rm (I_ (x18 + 1)) q q <| R0 <| J_go <| J_cv [] [] [] 0 [(1, APtr (c_api_Types t0)), (3, I_ 0), (13, I_ (t0.Nodes.length : Int)), (18, I_ (t0.Nodes.length : Int)), (23, I_ (t0.Edges.length : Int)), (28, I_ (t0.Nodes.length : Int)), (29, I_ x4), (44, AL 7 c_api_EdgeType t0.Edges), (45, I_ (t0.Edges.length : Int)), (46, I_ (x18 + 1))] [] (.same q (.same q (.same q (.same q (.same q (.same q (.same q (.same q (.same q (.same q .nil)))))))))) .nil q q ?_
  exact hE19 (x18 + 1)
theorem k_types_given_1 (t0 : Int) (t1 : api_Types) (r : Bool) (hr : types_given_1 t0 t1 = some r) : FnP PP 202 [I_ t0, APtr (c_api_Types t1)] (ABool r) := by
  refine FnP.of mixed_ Tryz.func202 q (n := 13) q (fun (r : Bool) => ABool r) nk_args NK.nk q hr fun X hΨ => ?_
  refine Jq q <| Ra (ABool false) q q <| R0 <| Jq q <| Rm (I_ t0) q q <| r_lss q q q <| Rm (ABool (decide (t0 < 0))) q q <| R_if (fun h1 => ?_) (fun h1 => ?_)
  · exact Rk (g_fn q q (dt h1)) <| Rk (g_fn q q (dt h1)) <| Rk (g_fn q q (dt h1)) <| Rk (g_fn q q (dt h1)) <| Rk (g_fn q q (dt h1)) <| r_pickT (ABool true) q (dt h1) q q <| Ra (ABool true) q q <| R0 <| Jt hΨ (Res_one q) q q
  exact Rm (I_ t0) q (g_f q q (df h1)) <| r_faT ((cL 4 c_api_NodeType) t1.Nodes) fo_59_0 q q (g_f q q (df h1)) <| r_ld (AL 4 c_api_NodeType t1.Nodes) sc_56 q q (g_f q q (df h1)) <| r_len (cc := c_api_NodeType) il_56 q (g_f q q (df h1)) <| r_geq q q (g_f q q (df h1)) <| r_pickF (ABool (decide ((t1.Nodes.length : Int) ≤ t0))) q (df h1) q q <| Ra (ABool (decide ((t1.Nodes.length : Int) ≤ t0))) q q <| R0 <| Jt hΨ (Res_one q) q q
theorem k_types_given (t0 : api_Types) (t1 : (List Int)) (r : Int) (hr : types_given t0 t1 = some r) : FnP PP 155 [AAgg (c_api_Types t0), AL 1 c_i64 t1] (I_ r) := by
  refine FnP.of mixed_ Tryz.func155 q (n := 18) q (fun (r : Int) => I_ r) nk_args NK.nk q hr fun X hΨ => ?_
  refine Jq q <| r_boxV (AAgg (c_api_Types t0)) q q <| Ra (I_ 0) q q <| R0 <| Js <| Jq q <| r_lda (c_api_Types t0) ag_59 q q q q <| R_bind fun b1 h2 => ?_
  refine r_call _ fn_67 (k_types_Valid _ _ h2) q q <| Rm (ATup [AStr b1.1, I_ b1.2]) q q <| r_ext (AStr b1.1) q q q <| r_ext (I_ b1.2) q q q <| Ra (AStr b1.1) q q <| Ra (I_ b1.2) q q <| R0 <| Jq q <| Rm (I_ b1.2) q q ?_
  refine r_neq q q q <| R0 <| J_cond_p q (fun h3 => ?_) (fun h3 => ?_)
  · exact Jq q <| Rm (I_ b1.2) q q <| Ra (I_ b1.2) q q <| R0 <| Jt hΨ (Res_one q) q q
  refine J_skip <| Js <| Jq q <| Rm (AL 1 c_i64 t1) q q <| r_mkFn [APtr (c_api_Types t0)] (fun x => [I_ x]) (fun y => ABool y) (fun x => types_given_1 x t0) fn_202 q (fun x y h => k_types_given_1 x t0 y h) q <| R_bind fun b4 h5 => r_call _ fn_80 (k_slices_ContainsFunc_int _ _ _ h5) q q <| R0 <| J_cond q (fun h6 => ?_) (fun h6 => ?_)
  · exact Jq q <| Ra (I_ 6) q q <| R0 <| Jt hΨ (Res_one q) q q
  exact J_skip <| Jq q <| Ra (I_ 0) q q <| R0 <| Jt hΨ (Res_one q) q q
theorem k_slices_Index_int (t0 : (List Int)) (t1 : Int) (r : Int) (hr : slices_Index_int t0 t1 = some r) : FnP PP 117 [AL 1 c_i64 t0, I_ t1] (I_ r) := by
  refine FnP.of mixed_ Tryz.func117 q (n := 19) q (fun (r : Int) => I_ r) nk_args NK.nk q hr fun X hΨ => ?_
  refine Jq q <| Ra (I_ 0) q q <| R0 <| Js <| Jq q <| Rm (AL 1 c_i64 t0) q q <| r_len (cc := c_i64) il_22 q q <| Rm (I_ 0) q q ?_
  refine R0 <| J_block <| J_to [(0, AL 1 c_i64 t0), (1, I_ t1), (7, I_ (t0.length : Int)), (8, I_ 0)] (.cons q (.cons q (.cons q (.cons q .nil)))) <| J_it (fun x1 => ⟨fr [(0, AL 1 c_i64 t0), (1, I_ t1), (7, I_ (t0.length : Int)), (8, I_ x1)], fun _ => none, 0⟩) (fun E2 hE2 x1 => ?_) (by rfl)
  refine Jq q <| r_lss q q q <| R0 <| Js <| J_cond_p q (fun h6 => ?_) (fun h6 => ?_)
  rotate_left
  · exact J_exit q <| J_outS <| Jq q <| Ra (I_ (-1)) q q <| R0 <| Jt hΨ (Res_one q) q q
  refine J_skip <| Js <| J_block <| Jq q <| Rm (I_ x1) q q <| Ra (I_ x1) q q <| R0 <| Jq q ?_
  refine Rm (I_ t1) q q <| Rm (AL 1 c_i64 t0) q q <| Rm (I_ x1) q q <| R_if (fun h7 => ?_) (fun _ => R_none)
  refine r_ix (cc := c_i64) el_22 q q h7.1 h7.2 q <| r_ld (I_ (nth t0 x1)) sc_3 q q q <| r_eql q q q <| R0 <| J_cond_p q (fun h8 => ?_) (fun h8 => ?_)
  · exact Jq q <| Rm (I_ x1) q q <| Ra (I_ x1) q q <| R0 <| J_outS <| Jt hΨ (Res_one q) q q
  refine J_skip <| J_inBlock <| J_range 7 (m := (t0.length : Int)) q fun q9 => J_range 5 (m := x1) q fun q10 => Jr q <| r_add (x1 + 1) q q (wrap_i64 (by omega) (by omega)) q <| Rm (I_ (x1 + 1)) q q <| R0 <| J_go <| J_to [(0, AL 1 c_i64 t0), (1, I_ t1), (7, I_ (t0.length : Int)), (8, I_ (x1 + 1))] (.cons q (.cons q (.cons q (.cons q .nil)))) ?_
  exact hE2 (x1 + 1)
theorem k_slices_Contains_int (t0 : (List Int)) (t1 : Int) (r : Bool) (hr : slices_Contains_int t0 t1 = some r) : FnP PP 154 [AL 1 c_i64 t0, I_ t1] (ABool r) := by
  refine FnP.of mixed_ Tryz.func154 q (n := 9) q (fun (r : Bool) => ABool r) nk_args NK.nk q hr fun X hΨ => ?_
  refine Jq q <| Ra (ABool false) q q <| R0 <| Jq q <| Rm (AL 1 c_i64 t0) q q <| Rm (I_ t1) q q <| R_bind fun b1 h2 => r_call _ fn_117 (k_slices_Index_int _ _ _ h2) q q ?_
  exact r_geq q q q <| Ra (ABool (decide (0 ≤ b1))) q q <| R0 <| Jt hΨ (Res_one q) q q
theorem k_slices_Reverse_int (t0 : (List Int)) (r : (List Int)) (hr : slices_Reverse_int t0 = some r) : FnK PP 249 1 [(0, .row 3 1 (t0.map c_i64))] [AObj 0] [(0, .row 3 1 (r.map c_i64))] (ATup []) := by
  refine FnK.of mixed_ Tryz.func249 q (n := 28) q (N0 := 1) (ins := [(0, .row 3 1 (t0.map c_i64))]) (args := [AObj 0]) (fun (r : (List Int)) => [(0, .row 3 1 (r.map c_i64))]) (fun (r : (List Int)) => ATup []) (KBL.cons (KB.obj q) (inferInstance : KBL 1 [])).kb (InsOk.spec (.row q (NKC.flat _ _) .nil)) q hr fun X hΨ => ?_
  refine Jq q <| Rm (AObj 0) q q <| r_lenO (cc := c_i64) t0 il_22 q q q <| R_bind fun b1 h2 => r_sub b1 q q (Option.some.inj h2) q <| Ra (I_ 0) q q <| Ra (I_ b1) q q <| R0 <| J_block ?_
  refine J_cv [] [] [] 1 [(0, AObj 0), (2, I_ 0), (3, I_ b1)] [(0, .row 3 1 (t0.map c_i64))] (.cons (A := AObj 0) q (.obj q q q) (.same q (.same q .nil))) (.cons q q q q (.row (NKC.flat _ _)) q q .nil) q q <| J_it (fun x3 => ⟨fr [(0, AObj 0), (2, I_ x3.2.1), (3, I_ x3.2.2)], hp [(0, .row 3 1 (x3.1.map c_i64))], 1⟩) (fun E4 hE4 x3 => ?_) (by rfl)
  refine Js <| Jq q <| Rm (I_ x3.2.1) q q <| Rm (I_ x3.2.2) q q <| r_lss q q q <| R0 <| J_cond_p q (fun h10 => ?_) (fun h10 => ?_)
  rotate_left
  · exact J_exit q <| J_outS <| J_endK hΨ (Res_none q) [] [] [] q (fun y hy => by cases hy; exact ⟨(.cons q q q q (.row (NKC.flat _ _)) q q .nil), (.tup .nil)⟩)
  refine J_skip <| Js <| J_block <| J_draw <| Rm (AObj 0) q q <| Rm (I_ x3.2.1) q q <| Rm (AObj 0) q q <| Rm (I_ x3.2.2) q q <| Rm (AObj 0) q q <| Rm (I_ x3.2.2) q q ?_
  refine R_if (fun h11 => ?_) (fun _ => R_none)
  refine r_ixO (cc := c_i64) el_22 q q q h11.1 h11.2 q <| r_ldR (cc := c_i64) x3.2.2 0 (I_ (nth x3.1 x3.2.2)) sc_3 q q h11.1 h11.2 q q <| Rm (AObj 0) q q <| Rm (I_ x3.2.1) q q <| R_if (fun h12 => ?_) (fun _ => R_none)
  refine r_ixO (cc := c_i64) el_22 q q q h12.1 h12.2 q <| r_ldR (cc := c_i64) x3.2.1 0 (I_ (nth x3.1 x3.2.1)) sc_3 q q h12.1 h12.2 q q <| r_ixO (cc := c_i64) el_22 q q q h12.1 h12.2 q <| r_stR (cc := c_i64) x3.2.1 0 (I_ (nth x3.1 x3.2.2)) (nth x3.1 x3.2.2) sz_3 q q q h12.1 h12.2 q q q q <| R_if (fun h13 => ?_) (fun _ => R_none)
  refine r_ixO (cc := c_i64) el_22 q q q h13.1 h13.2 q <| r_stR (cc := c_i64) x3.2.2 0 (I_ (nth x3.1 x3.2.1)) (nth x3.1 x3.2.1) sz_3 q q q h13.1 h13.2 q q q q <| R_nilD (by kernel_rfl) <| J_inBlock <| J_range 3 (m := x3.2.2) q fun q14 => J_range 2 (m := x3.2.1) q fun q15 => Jr q <| Rm (I_ x3.2.1) q q <| r_add (x3.2.1 + 1) q q (wrap_i64 (by omega) (by omega)) q <| Rm (I_ x3.2.2) q q ?_
  exact r_sub (x3.2.2 - 1) q q (wrap_i64 (by omega) (by omega)) q <| Ra (I_ (x3.2.1 + 1)) q q <| Ra (I_ (x3.2.2 - 1)) q q <| R0 <| J_go <| J_cv [] [] [] 1 [(0, AObj 0), (2, I_ (x3.2.1 + 1)), (3, I_ (x3.2.2 - 1))] [(0, .row 3 1 (((x3.1.set x3.2.1.toNat (nth x3.1 x3.2.2)).set x3.2.2.toNat (nth x3.1 x3.2.1)).map c_i64))] (.cons (A := AObj 0) q (.obj q q q) (.same q (.same q .nil))) (.cons q q q q (.row (NKC.flat _ _)) q q .nil) q q <| hE4 (((x3.1.set x3.2.1.toNat (nth x3.1 x3.2.2)).set x3.2.2.toNat (nth x3.1 x3.2.1)), x3.2.1 + 1, x3.2.2 - 1)
theorem k_types_line (t0 : api_Types) (t1 : Int) (r : (List Int)) (hr : types_line t0 t1 = some r) : FnP PP 203 [AAgg (c_api_Types t0), I_ t1] (AL 1 c_i64 r) := by
  refine FnP.of mixed_ Tryz.func203 q (n := 21) q (fun (r : (List Int)) => AL 1 c_i64 r) nk_args NK.nk q hr fun X hΨ => ?_
  refine Jq q <| r_boxV (AAgg (c_api_Types t0)) q q <| Ra (ANil) q q <| R0 <| Jq q <| Ra (ANil) q q <| R0 <| Js ?_
  refine J_block <| J_cv [] [] [0] 1 [(1, I_ t1), (2, APtr (c_api_Types t0)), (5, AObj 0)] [(0, .row 3 1 ([].map c_i64))] (.same q (.same q (.cons (A := ANil) q (.nilobj q q) .nil))) (.new q q .nil) q q <| J_it (fun x1 => ⟨fr [(1, I_ x1.1), (2, APtr (c_api_Types t0)), (5, AObj 0)], hp [(0, .row 3 1 (x1.2.map c_i64))], 1⟩) (fun E2 hE2 x1 => ?_) (by rfl)
  refine Js <| Jq q <| Rm (I_ x1.1) q q <| r_geq q q q <| R0 <| J_cond_p q (fun h5 => ?_) (fun h5 => ?_)
  rotate_left
  · refine J_exit q <| J_out <| Jq q <| Rm (AObj 0) q q <| R_bind fun b8 h9 => r_callK [] [] [] [] 1 [(0, .row 3 1 (x1.2.map c_i64))] [(0, .row 3 1 (b8.map c_i64))] (ATup []) [AObj 0] fn_249 (k_slices_Reverse_int _ _ h9) (.cons q .nil) q (.cons (.obj q q q) .nil) (.cons q q q q (.row (NKC.flat _ _)) q q .nil) (.cons q q q q (.row (NKC.flat _ _)) q q .nil) (.tup .nil) q q q <| R0 <| Jq q ?_
    exact Rm (AObj 0) q q <| Ra (AObj 0) q q <| R0 <| J_retF hΨ (Res_box q (.tmp (A := AObj 0) q)) (fun y hy => by cases hy; exact (.frow q q (NKC.flat _ _)))
  refine J_skip <| Js <| J_block <| Jr q <| Rm (AObj 0) q q <| Rm (I_ x1.1) q q <| r_bs (cc := c_i64) [x1.1] el_22 zr_3_1 (.cons (A := I_ x1.1) q q q .nil) q q q <| R_if (fun h6 => ?_) (fun _ => R_none)
  refine r_app (cc := c_i64) (xs := x1.2) (ys := [x1.1]) 1 ap_22 q q q h6 q q q <| Ra (AObj 1) q q <| R0 <| J_inBlock <| Jr q <| r_faT ((cL 4 c_api_NodeType) t0.Nodes) fo_59_0 q q q <| r_ld (AL 4 c_api_NodeType t0.Nodes) sc_56 q q q <| Rm (I_ x1.1) q q <| R_if (fun h7 => ?_) (fun _ => R_none)
  exact r_ix (cc := c_api_NodeType) el_56 q q h7.1 h7.2 q <| r_faT (c_i64 ((nth t0.Nodes x1.1).Parent)) fo_106_1 q q q <| r_ld (I_ ((nth t0.Nodes x1.1).Parent)) sc_3 q q q <| Ra (I_ ((nth t0.Nodes x1.1).Parent)) q q <| R0 <| J_go <| J_cv [] [(0, 1)] [] 1 [(1, I_ ((nth t0.Nodes x1.1).Parent)), (2, APtr (c_api_Types t0)), (5, AObj 0)] [(0, .row 3 1 ((x1.2 ++ [x1.1]).map c_i64))] (.same q (.same q (.cons (A := AObj 1) q (.obj q q q) .nil))) (.cons q q q q (.row (NKC.flat _ _)) q q .nil) q q <| hE2 ((nth t0.Nodes x1.1).Parent, (x1.2 ++ [x1.1]))
theorem k_types_is (t0 : api_Types) (t1 : Int) (t2 : Int) (r : Bool) (hr : types_is t0 t1 t2 = some r) : FnP PP 156 [AAgg (c_api_Types t0), I_ t1, I_ t2] (ABool r) := by
  refine FnP.of mixed_ Tryz.func156 q (n := 12) q (fun (r : Bool) => ABool r) nk_args NK.nk q hr fun X hΨ => ?_
  refine Jq q <| r_boxV (AAgg (c_api_Types t0)) q q <| Ra (ABool false) q q <| R0 <| Jq q <| r_lda (c_api_Types t0) ag_59 q q q q <| Rm (I_ t1) q q <| R_bind fun b1 h2 => ?_
  exact r_call _ fn_203 (k_types_line _ _ _ h2) q q <| Rm (I_ t2) q q <| R_bind fun b3 h4 => r_call _ fn_154 (k_slices_Contains_int _ _ _ h4) q q <| Ra (ABool b3) q q <| R0 <| Jt hΨ (Res_one q) q q
theorem k_types_Fits (t0 : api_Types) (t1 : Int) (t2 : Int) (t3 : Int) (r : Bool) (hr : types_Fits t0 t1 t2 t3 = some r) : FnP PP 115 [AAgg (c_api_Types t0), I_ t1, I_ t2, I_ t3] (ABool r) := by
  refine FnP.of mixed_ Tryz.func115 q (n := 46) q (fun (r : Bool) => ABool r) nk_args NK.nk q hr fun X hΨ => ?_
  refine Jq q <| r_boxV (AAgg (c_api_Types t0)) q q <| Ra (ABool false) q q <| R0 <| Js <| Jq q <| r_lda (c_api_Types t0) ag_59 q q q q <| Rm (I_ t2) q q ?_
  refine Rm (I_ t3) q q <| r_bs (cc := c_i64) [t2, t3] el_22 zr_3_2 (.cons (A := I_ t2) q q q (.cons (A := I_ t3) q q q .nil)) q q q <| R_bind fun b1 h2 => r_call _ fn_155 (k_types_given _ _ _ h2) q q <| r_neq q q q <| Rm (ABool (decide (¬ (b1 = 0)))) q q <| R_if (fun h3 => ?_) (fun h3 => ?_)
  · refine Rk (g_fn q q (dt h3)) <| Rk (g_fn q q (dt h3)) <| r_pickT (ABool true) q (dt h3) q q <| Rm (ABool true) q q <| Rk (g_fn q q q) <| Rk (g_fn q q q) <| Rk (g_fn q q q) <| Rk (g_fn q q q) <| Rk (g_fn q q q) <| r_pickT (ABool true) q q q q ?_
    exact R0 <| J_cond_T q q <| Jq q <| Ra (ABool false) q q <| R0 <| Jt hΨ (Res_one q) q q
  refine Rm (I_ t1) q (g_f q q (df h3)) <| r_lss q q (g_f q q (df h3)) <| r_pickF (ABool (decide (t1 < 0))) q (df h3) q q <| Rm (ABool (decide (t1 < 0))) q q <| R_if (fun h4 => ?_) (fun h4 => ?_)
  · refine Rk (g_fn q q (dt h4)) <| Rk (g_fn q q (dt h4)) <| Rk (g_fn q q (dt h4)) <| Rk (g_fn q q (dt h4)) <| Rk (g_fn q q (dt h4)) <| r_pickT (ABool true) q (dt h4) q q <| R0 <| J_cond_T q q <| Jq q ?_
    exact Ra (ABool false) q q <| R0 <| Jt hΨ (Res_one q) q q
  refine Rm (I_ t1) q (g_f q q (df h4)) <| r_faT ((cL 7 c_api_EdgeType) t0.Edges) fo_59_1 q q (g_f q q (df h4)) <| r_ld (AL 7 c_api_EdgeType t0.Edges) sc_57 q q (g_f q q (df h4)) <| r_len (cc := c_api_EdgeType) il_57 q (g_f q q (df h4)) <| r_geq q q (g_f q q (df h4)) <| r_pickF (ABool (decide ((t0.Edges.length : Int) ≤ t1))) q (df h4) q q <| R0 <| J_cond_p q (fun h5 => ?_) (fun h5 => ?_)
  · exact Jq q <| Ra (ABool false) q q <| R0 <| Jt hΨ (Res_one q) q q
  refine J_skip <| Js <| J_draw <| r_lda (c_api_Types t0) ag_59 q q q q <| Rm (I_ t2) q q <| r_faT ((cL 7 c_api_EdgeType) t0.Edges) fo_59_1 q q q <| r_ld (AL 7 c_api_EdgeType t0.Edges) sc_57 q q q <| Rm (I_ t1) q q <| R_if (fun h6 => ?_) (fun _ => R_none)
  refine r_ix (cc := c_api_EdgeType) el_57 q q h6.1 h6.2 q <| r_faT (c_i64 ((nth t0.Edges t1).From)) fo_111_1 q q q <| r_ld (I_ ((nth t0.Edges t1).From)) sc_3 q q q <| R_bind fun b7 h8 => r_call _ fn_156 (k_types_is _ _ _ _ h8) q q <| Rm (ABool b7) q q <| R_if (fun h9 => ?_) (fun h9 => ?_)
  rotate_left
  · refine Rk (g_tn q q (bf h9)) <| Rk (g_tn q q (bf h9)) <| Rk (g_tn q q (bf h9)) <| Rk (g_tn q q (bf h9)) <| Rk (g_tn q q (bf h9)) <| Rk (g_tn q q (bf h9)) <| Rk (g_tn q q (bf h9)) <| Rk (g_tn q q (bf h9)) <| Rk (g_tn q q (bf h9)) <| r_pickF (ABool false) q (bf h9) q q ?_
    exact Ra (ABool false) q q <| R_nilD (by kernel_rfl) <| Jt hΨ (Res_one q) q q
  refine r_lda (c_api_Types t0) ag_59 q q q (g_t q q h9) <| Rm (I_ t3) q (g_t q q h9) <| r_faT ((cL 7 c_api_EdgeType) t0.Edges) fo_59_1 q q (g_t q q h9) <| r_ld (AL 7 c_api_EdgeType t0.Edges) sc_57 q q (g_t q q h9) <| Rm (I_ t1) q (g_t q q h9) <| r_ix (cc := c_api_EdgeType) el_57 q q h6.1 h6.2 (g_t q q h9) <| r_faT (c_i64 ((nth t0.Edges t1).To)) fo_111_2 q q (g_t q q h9) <| r_ld (I_ ((nth t0.Edges t1).To)) sc_3 q q (g_t q q h9) <| R_bind fun b10 h11 => r_call _ fn_156 (k_types_is _ _ _ _ h11) q (g_t q q h9) ?_
  exact r_pickT (ABool b10) q h9 q q <| Ra (ABool b10) q q <| R_nilD (by kernel_rfl) <| Jt hΨ (Res_one q) q q
theorem k_rule_makable_2 (t0 : Int) (t1 : api_Graph) (t2 : api_Types) (r : Bool) (hr : rule_makable_2 t0 t1 t2 = some r) : FnP PP 114 [I_ t0, APtr (c_api_Graph t1), APtr (c_api_Types t2)] (ABool r) := by
  refine FnP.of mixed_ Tryz.func114 q (n := 28) q (fun (r : Bool) => ABool r) nk_args NK.nk q hr fun X hΨ => ?_
  refine Jq q <| Ra (ABool false) q q <| R0 <| Jq q <| r_faT ((cL 3 c_api_Edge) t1.Edges) fo_25_1 q q q <| r_ld (AL 3 c_api_Edge t1.Edges) sc_23 q q q <| Rm (I_ t0) q q <| R_if (fun h1 => ?_) (fun _ => R_none)
  refine r_ix (cc := c_api_Edge) el_23 q q h1.1 h1.2 q <| r_lda (c_api_Edge (nth t1.Edges t0)) ag_135 q q q q <| r_alloc 0 _ z_135 q q <| r_stO (AObj 0) (AAgg (c_api_Edge (nth t1.Edges t0))) (c_api_Edge (nth t1.Edges t0)) sz_135 q .obj q q q q q q <| R0 <| Js <| J_draw <| r_lda (c_api_Types t2) ag_59 q q q q <| r_faO (AObj 0) 0 fo_135_0 q .obj q q q <| r_ldO (ABoxAt 0 0) (I_ ((nth t1.Edges t0).Type_)) sc_3 q .at q q q ?_
  refine r_faT ((cL 1 c_i64) t1.Nodes) fo_25_0 q q q <| r_ld (AL 1 c_i64 t1.Nodes) sc_22 q q q <| r_faO (AObj 0) 1 fo_135_1 q .obj q q q <| r_ldO (ABoxAt 0 1) (I_ ((nth t1.Edges t0).From)) sc_3 q .at q q q <| R_if (fun h2 => ?_) (fun _ => R_none)
  refine r_ix (cc := c_i64) el_22 q q h2.1 h2.2 q <| r_ld (I_ (nth t1.Nodes ((nth t1.Edges t0).From))) sc_3 q q q <| r_faT ((cL 1 c_i64) t1.Nodes) fo_25_0 q q q <| r_ld (AL 1 c_i64 t1.Nodes) sc_22 q q q <| r_faO (AObj 0) 2 fo_135_2 q .obj q q q <| r_ldO (ABoxAt 0 2) (I_ ((nth t1.Edges t0).To)) sc_3 q .at q q q <| R_if (fun h3 => ?_) (fun _ => R_none)
  exact r_ix (cc := c_i64) el_22 q q h3.1 h3.2 q <| r_ld (I_ (nth t1.Nodes ((nth t1.Edges t0).To))) sc_3 q q q <| R_bind fun b4 h5 => r_call _ fn_115 (k_types_Fits _ _ _ _ _ h5) q q <| r_not q q <| Ra (ABool (!b4)) q q <| R_nilD (by kernel_rfl) <| Jt hΨ (Res_one q) q q
theorem k_rule_makable (t0 : api_Types) (t1 : api_Graph) (t2 : (List Int)) (t3 : (List Int)) (r : Bool) (hr : rule_makable t0 t1 t2 t3 = some r) : FnP PP 60 [AAgg (c_api_Types t0), AAgg (c_api_Graph t1), AL 1 c_i64 t2, AL 1 c_i64 t3] (ABool r) := by
  refine FnP.of mixed_ Tryz.func60 q (n := 19) q (fun (r : Bool) => ABool r) nk_args NK.nk q hr fun X hΨ => ?_
  refine Jq q <| r_boxV (AAgg (c_api_Types t0)) q q <| r_boxV (AAgg (c_api_Graph t1)) q q <| Ra (ABool false) q q <| R0 <| Jq q <| Rm (AL 1 c_i64 t2) q q <| r_mkFn [APtr (c_api_Types t0), APtr (c_api_Graph t1)] (fun x => [I_ x]) (fun y => ABool y) (fun x => rule_makable_1 x t0 t1) fn_113 q (fun x y h => k_rule_makable_1 x t0 t1 y h) q ?_
  refine R_bind fun b1 h2 => r_call _ fn_80 (k_slices_ContainsFunc_int _ _ _ h2) q q <| r_not q q <| Rm (ABool (!b1)) q q <| R_if (fun h3 => ?_) (fun h3 => ?_)
  rotate_left
  · exact Rk (g_tn q q (bf h3)) <| Rk (g_tn q q (bf h3)) <| Rk (g_tn q q (bf h3)) <| Rk (g_tn q q (bf h3)) <| r_pickF (ABool false) q (bf h3) q q <| Ra (ABool false) q q <| R0 <| Jt hΨ (Res_one q) q q
  exact Rm (AL 1 c_i64 t3) q (g_t q q h3) <| r_mkFn [APtr (c_api_Graph t1), APtr (c_api_Types t0)] (fun x => [I_ x]) (fun y => ABool y) (fun x => rule_makable_2 x t1 t0) fn_114 q (fun x y h => k_rule_makable_2 x t1 t0 y h) (g_t q q h3) <| R_bind fun b4 h5 => r_call _ fn_80 (k_slices_ContainsFunc_int _ _ _ h5) q (g_t q q h3) <| r_not q (g_t q q h3) <| r_pickT (ABool (!b4)) q h3 q q <| Ra (ABool (!b4)) q q <| R0 <| Jt hΨ (Res_one q) q q
theorem k_rule_others (t0 : (List Int)) (t1 : Int) (r : (List Int)) (hr : rule_others t0 t1 = some r) : FnP PP 112 [AL 1 c_i64 t0, I_ t1] (AL 1 c_i64 r) := by
  refine FnP.of mixed_ Tryz.func112 q (n := 21) q (fun (r : (List Int)) => AL 1 c_i64 r) nk_args NK.nk q hr fun X hΨ => ?_
  refine Jq q <| Ra (ANil) q q <| R0 <| Jq q <| Ra (ANil) q q <| R0 <| Js <| Js ?_
  refine Jr q <| Rm (I_ t1) q q <| Rm (I_ 0) q q <| R0 <| J_block <| J_cv [] [] [0] 1 [(0, AL 1 c_i64 t0), (5, AObj 0), (7, I_ t1), (8, I_ 0)] [(0, .row 3 1 ([].map c_i64))] (.same q (.cons (A := ANil) q (.nilobj q q) (.same q (.same q .nil)))) (.new q q .nil) q q <| J_it (fun x1 => ⟨fr [(0, AL 1 c_i64 t0), (5, AObj 0), (7, I_ t1), (8, I_ x1.2)], hp [(0, .row 3 1 (x1.1.map c_i64))], 1⟩) (fun E2 hE2 x1 => ?_) (by rfl)
  refine Jq q <| r_lss q q q <| R0 <| Js <| J_cond_p q (fun h9 => ?_) (fun h9 => ?_)
  rotate_left
  · exact J_exit q <| J_outS <| Jq q <| Rm (AObj 0) q q <| Ra (AObj 0) q q <| R0 <| J_retF hΨ (Res_box q (.tmp (A := AObj 0) q)) (fun y hy => by cases hy; exact (.frow q q (NKC.flat _ _)))
  refine J_skip <| Js <| J_block <| Jq q <| Rm (I_ x1.2) q q <| Ra (I_ x1.2) q q <| R0 <| Jq q ?_
  refine Rm (AL 1 c_i64 t0) q q <| Rm (I_ x1.2) q q <| R_bind fun b10 h11 => r_call _ fn_154 (k_slices_Contains_int _ _ _ h11) q q <| r_not q q <| R0 ?_
  apply J_joinA (fun v14 => ⟨fr [(0, AL 1 c_i64 t0), (5, AObj 0), (6, I_ x1.2), (7, I_ t1), (8, I_ x1.2), (10, I_ x1.2), (12, I_ x1.2)], hp [(0, .row 3 1 (v14.map c_i64))], 1⟩) (fun v14 => rule_others_j14 x1 v14)
  · intro K15
    refine J_cond q (fun h12 => ?_) (fun h12 => ?_)
    rotate_left
    · exact J_skip <| J_cv [] [] [] 1 [(0, AL 1 c_i64 t0), (5, AObj 0), (6, I_ x1.2), (7, I_ t1), (8, I_ x1.2), (10, I_ x1.2), (12, I_ x1.2)] [(0, .row 3 1 (x1.1.map c_i64))] (.same q (.cons (A := AObj 0) q (.obj q q q) (.same q (.same q (.same q (.same q (.same q .nil))))))) (.cons q q q q (.row (NKC.flat _ _)) q q .nil) q q <| K15 x1.1
    refine Jr q <| Rm (AObj 0) q q <| Rm (I_ x1.2) q q <| r_bs (cc := c_i64) [x1.2] el_22 zr_3_1 (.cons (A := I_ x1.2) q q q .nil) q q q <| R_if (fun h13 => ?_) (fun _ => R_none)
    exact r_app (cc := c_i64) (xs := x1.1) (ys := [x1.2]) 1 ap_22 q q q h13 q q q <| Ra (AObj 1) q q <| R0 <| J_cv [] [(0, 1)] [] 1 [(0, AL 1 c_i64 t0), (5, AObj 0), (6, I_ x1.2), (7, I_ t1), (8, I_ x1.2), (10, I_ x1.2), (12, I_ x1.2)] [(0, .row 3 1 ((x1.1 ++ [x1.2]).map c_i64))] (.same q (.cons (A := AObj 1) q (.obj q q q) (.same q (.same q (.same q (.same q (.same q .nil))))))) (.cons q q q q (.row (NKC.flat _ _)) q q .nil) q q <| K15 (x1.1 ++ [x1.2])
  intro v14
  exact J_inBlock <| J_range 7 (m := t1) q fun q16 => J_range 6 (m := x1.2) q fun q17 => Jr q <| r_add (x1.2 + 1) q q (wrap_i64 (by omega) (by omega)) q <| Rm (I_ (x1.2 + 1)) q q <| R0 <| J_go <| J_cv [] [] [] 1 [(0, AL 1 c_i64 t0), (5, AObj 0), (7, I_ t1), (8, I_ (x1.2 + 1))] [(0, .row 3 1 (v14.map c_i64))] (.same q (.cons (A := AObj 0) q (.obj q q q) (.same q (.same q .nil)))) (.cons q q q q (.row (NKC.flat _ _)) q q .nil) q q <| hE2 (v14, x1.2 + 1)
theorem k_rule_created (t0 : api_Rule) (r : (List Int) × (List Int)) (hr : rule_created t0 = some r) : FnP PP 62 [AAgg (c_api_Rule t0)] (ATup [AL 1 c_i64 r.1, AL 1 c_i64 r.2]) := by
  refine FnP.of mixed_ Tryz.func62 q (n := 22) q (fun (r : (List Int) × (List Int)) => ATup [AL 1 c_i64 r.1, AL 1 c_i64 r.2]) nk_args NK.nk q hr fun X hΨ => ?_
  refine Jq q <| r_boxV (AAgg (c_api_Rule t0)) q q <| Ra (ANil) q q <| Ra (ANil) q q <| R0 <| Js <| J_draw <| r_faT (c_api_Morphism t0.Into) fo_37_4 q q q <| r_faT ((cL 1 c_i64) t0.Into.Nodes) fo_32_0 q q q ?_
  refine r_ld (AL 1 c_i64 t0.Into.Nodes) sc_22 q q q <| r_faT (c_api_Pattern t0.Right) fo_37_2 q q q <| r_faT (c_api_Graph t0.Right.Graph) fo_29_0 q q q <| r_faT ((cL 1 c_i64) t0.Right.Graph.Nodes) fo_25_0 q q q <| r_ld (AL 1 c_i64 t0.Right.Graph.Nodes) sc_22 q q q <| r_len (cc := c_i64) il_22 q q <| R_bind fun b1 h2 => r_call _ fn_112 (k_rule_others _ _ _ h2) q q <| r_faT (c_api_Morphism t0.Into) fo_37_4 q q q <| r_faT ((cL 1 c_i64) t0.Into.Edges) fo_32_1 q q q ?_
  refine r_ld (AL 1 c_i64 t0.Into.Edges) sc_22 q q q <| r_faT (c_api_Pattern t0.Right) fo_37_2 q q q <| r_faT (c_api_Graph t0.Right.Graph) fo_29_0 q q q <| r_faT ((cL 3 c_api_Edge) t0.Right.Graph.Edges) fo_25_1 q q q <| r_ld (AL 3 c_api_Edge t0.Right.Graph.Edges) sc_23 q q q <| r_len (cc := c_api_Edge) il_23 q q <| R_bind fun b3 h4 => r_call _ fn_112 (k_rule_others _ _ _ h4) q q <| Ra (AL 1 c_i64 b1) q q <| Ra (AL 1 c_i64 b3) q q ?_
  exact R_nilD (by kernel_rfl) <| Jt hΨ (Res_many (As := [AL 1 c_i64 b1, AL 1 c_i64 b3]) q q (.cons (.tmp (A := AL 1 c_i64 b1) q) (.cons (.tmp (A := AL 1 c_i64 b3) q) .nil))) q q
theorem k_graph_within (t0 : Int) (t1 : Int) (r : Bool) (hr : graph_within t0 t1 = some r) : FnP PP 82 [I_ t0, I_ t1] (ABool r) := by
  refine FnP.of mixed_ Tryz.func82 q (n := 12) q (fun (r : Bool) => ABool r) nk_args NK.nk q hr fun X hΨ => ?_
  refine Jq q <| Ra (ABool false) q q <| R0 <| Jq q <| Rm (I_ t0) q q <| r_geq q q q <| Rm (ABool (decide (0 ≤ t0))) q q <| R_if (fun h1 => ?_) (fun h1 => ?_)
  · exact Rm (I_ t0) q (g_t q q (dt h1)) <| Rm (I_ t1) q (g_t q q (dt h1)) <| r_leq q q (g_t q q (dt h1)) <| r_pickT (ABool (decide (t0 ≤ t1))) q (dt h1) q q <| Ra (ABool (decide (t0 ≤ t1))) q q <| R0 <| Jt hΨ (Res_one q) q q
  exact Rk (g_tn q q (df h1)) <| Rk (g_tn q q (df h1)) <| Rk (g_tn q q (df h1)) <| r_pickF (ABool false) q (df h1) q q <| Ra (ABool false) q q <| R0 <| Jt hΨ (Res_one q) q q
theorem k_graph_Valid_1 (t0 : Int) (r : Bool) (hr : graph_Valid_1 t0 = some r) : FnP PP 81 [I_ t0] (ABool r) := by
  refine FnP.of mixed_ Tryz.func81 q (n := 6) q (fun (r : Bool) => ABool r) nk_args NK.nk q hr fun X hΨ => ?_
  refine Jq q <| Ra (ABool false) q q <| R0 <| Jq q <| Rm (I_ t0) q q <| R_bind fun b1 h2 => r_call _ fn_82 (k_graph_within _ _ _ h2) q q <| r_not q q ?_
  exact Ra (ABool (!b1)) q q <| R0 <| Jt hΨ (Res_one q) q q
theorem k_slices_IndexFunc_api_Edge (t0 : (List api_Edge)) (t1 : (api_Edge → Option Bool)) (r : Int) (hr : slices_IndexFunc_api_Edge t0 t1 = some r) : FnP PP 143 [AL 3 c_api_Edge t0, AFn PP (fun x => [AAgg (c_api_Edge x)]) (fun y => ABool y) t1] (I_ r) := by
  refine FnP.of mixed_ Tryz.func143 q (n := 19) q (fun (r : Int) => I_ r) nk_args NK.nk q hr fun X hΨ => ?_
  refine Jq q <| Ra (I_ 0) q q <| R0 <| Js <| Jq q <| Rm (AL 3 c_api_Edge t0) q q <| r_len (cc := c_api_Edge) il_23 q q <| Rm (I_ 0) q q ?_
  refine R0 <| J_block <| J_to [(0, AL 3 c_api_Edge t0), (1, AFn PP (fun x => [AAgg (c_api_Edge x)]) (fun y => ABool y) t1), (7, I_ (t0.length : Int)), (8, I_ 0)] (.cons q (.cons q (.cons q (.cons q .nil)))) <| J_it (fun x1 => ⟨fr [(0, AL 3 c_api_Edge t0), (1, AFn PP (fun x => [AAgg (c_api_Edge x)]) (fun y => ABool y) t1), (7, I_ (t0.length : Int)), (8, I_ x1)], fun _ => none, 0⟩) (fun E2 hE2 x1 => ?_) (by rfl)
  refine Jq q <| r_lss q q q <| R0 <| Js <| J_cond_p q (fun h8 => ?_) (fun h8 => ?_)
  rotate_left
  · exact J_exit q <| J_outS <| Jq q <| Ra (I_ (-1)) q q <| R0 <| Jt hΨ (Res_one q) q q
  refine J_skip <| Js <| J_block <| Jq q <| Rm (I_ x1) q q <| Ra (I_ x1) q q <| R0 <| Jq q ?_
  refine Rm (AFn PP (fun x => [AAgg (c_api_Edge x)]) (fun y => ABool y) t1) q q <| Rm (AL 3 c_api_Edge t0) q q <| Rm (I_ x1) q q <| R_if (fun h9 => ?_) (fun _ => R_none)
  refine r_ix (cc := c_api_Edge) el_23 q q h9.1 h9.2 q <| r_lda (c_api_Edge (nth t0 x1)) ag_135 q q q q <| R_bind fun b10 h11 => r_callFn (ga := (fun x => [AAgg (c_api_Edge x)])) (rt := (fun y => ABool y)) (gg := t1) (u := (nth t0 x1)) (w := b10) q q h11 (NK.nk) q <| R0 <| J_cond q (fun h12 => ?_) (fun h12 => ?_)
  · exact Jq q <| Rm (I_ x1) q q <| Ra (I_ x1) q q <| R0 <| J_outS <| Jt hΨ (Res_one q) q q
  refine J_skip <| J_inBlock <| J_range 7 (m := (t0.length : Int)) q fun q13 => J_range 5 (m := x1) q fun q14 => Jr q <| r_add (x1 + 1) q q (wrap_i64 (by omega) (by omega)) q <| Rm (I_ (x1 + 1)) q q <| R0 <| J_go <| J_to [(0, AL 3 c_api_Edge t0), (1, AFn PP (fun x => [AAgg (c_api_Edge x)]) (fun y => ABool y) t1), (7, I_ (t0.length : Int)), (8, I_ (x1 + 1))] (.cons q (.cons q (.cons q (.cons q .nil)))) ?_
  exact hE2 (x1 + 1)
theorem k_slices_ContainsFunc_api_Edge (t0 : (List api_Edge)) (t1 : (api_Edge → Option Bool)) (r : Bool) (hr : slices_ContainsFunc_api_Edge t0 t1 = some r) : FnP PP 83 [AL 3 c_api_Edge t0, AFn PP (fun x => [AAgg (c_api_Edge x)]) (fun y => ABool y) t1] (ABool r) := by
  refine FnP.of mixed_ Tryz.func83 q (n := 9) q (fun (r : Bool) => ABool r) nk_args NK.nk q hr fun X hΨ => ?_
  refine Jq q <| Ra (ABool false) q q <| R0 <| Jq q <| Rm (AL 3 c_api_Edge t0) q q <| Rm (AFn PP (fun x => [AAgg (c_api_Edge x)]) (fun y => ABool y) t1) q q <| R_bind fun b1 h2 => r_call _ fn_143 (k_slices_IndexFunc_api_Edge _ _ _ h2) q q ?_
  exact r_geq q q q <| Ra (ABool (decide (0 ≤ b1))) q q <| R0 <| Jt hΨ (Res_one q) q q
theorem k_graph_fits (t0 : api_Edge) (t1 : Int) (r : Bool) (hr : graph_fits t0 t1 = some r) : FnP PP 85 [AAgg (c_api_Edge t0), I_ t1] (ABool r) := by
  refine FnP.of mixed_ Tryz.func85 q (n := 22) q (fun (r : Bool) => ABool r) nk_args NK.nk q hr fun X hΨ => ?_
  refine Jq q <| r_boxV (AAgg (c_api_Edge t0)) q q <| Ra (ABool false) q q <| R0 <| Jq q <| r_faT (c_i64 t0.Type_) fo_135_0 q q q <| r_ld (I_ t0.Type_) sc_3 q q q <| R_bind fun b1 h2 => ?_
  refine r_call _ fn_82 (k_graph_within _ _ _ h2) q q <| Rm (ABool b1) q q <| R_if (fun h3 => ?_) (fun h3 => ?_)
  rotate_left
  · refine Rk (g_tn q q (bf h3)) <| Rk (g_tn q q (bf h3)) <| Rk (g_tn q q (bf h3)) <| Rk (g_tn q q (bf h3)) <| Rk (g_tn q q (bf h3)) <| r_pickF (ABool false) q (bf h3) q q <| Rm (ABool false) q q <| Rk (g_tn q q q) <| Rk (g_tn q q q) <| Rk (g_tn q q q) ?_
    exact Rk (g_tn q q q) <| Rk (g_tn q q q) <| r_pickF (ABool false) q q q q <| Ra (ABool false) q q <| R0 <| Jt hΨ (Res_one q) q q
  refine r_faT (c_i64 t0.From) fo_135_1 q q (g_t q q h3) <| r_ld (I_ t0.From) sc_3 q q (g_t q q h3) <| Rm (I_ t1) q (g_t q q h3) <| R_bind fun b4 h5 => r_sub b4 q q (Option.some.inj h5) (g_t q q h3) <| R_bind fun b6 h7 => r_call _ fn_82 (k_graph_within _ _ _ h7) q (g_t q q h3) <| r_pickT (ABool b6) q h3 q q <| Rm (ABool b6) q q <| R_if (fun h8 => ?_) (fun h8 => ?_)
  rotate_left
  · exact Rk (g_tn q q (bf h8)) <| Rk (g_tn q q (bf h8)) <| Rk (g_tn q q (bf h8)) <| Rk (g_tn q q (bf h8)) <| Rk (g_tn q q (bf h8)) <| r_pickF (ABool false) q (bf h8) q q <| Ra (ABool false) q q <| R0 <| Jt hΨ (Res_one q) q q
  refine r_faT (c_i64 t0.To) fo_135_2 q q (g_t q q h8) <| r_ld (I_ t0.To) sc_3 q q (g_t q q h8) <| Rm (I_ t1) q (g_t q q h8) <| R_bind fun b9 h10 => r_sub b9 q q (Option.some.inj h10) (g_t q q h8) <| R_bind fun b11 h12 => r_call _ fn_82 (k_graph_within _ _ _ h12) q (g_t q q h8) <| r_pickT (ABool b11) q h8 q q <| Ra (ABool b11) q q <| R0 ?_
  exact Jt hΨ (Res_one q) q q
theorem k_graph_Valid_2 (t0 : api_Edge) (t1 : api_Graph) (r : Bool) (hr : graph_Valid_2 t0 t1 = some r) : FnP PP 84 [AAgg (c_api_Edge t0), APtr (c_api_Graph t1)] (ABool r) := by
  refine FnP.of mixed_ Tryz.func84 q (n := 10) q (fun (r : Bool) => ABool r) nk_args NK.nk q hr fun X hΨ => ?_
  refine Jq q <| r_boxV (AAgg (c_api_Edge t0)) q q <| Ra (ABool false) q q <| R0 <| Jq q <| r_lda (c_api_Edge t0) ag_135 q q q q <| r_faT ((cL 1 c_i64) t1.Nodes) fo_25_0 q q q <| r_ld (AL 1 c_i64 t1.Nodes) sc_22 q q q ?_
  exact r_len (cc := c_i64) il_22 q q <| R_bind fun b1 h2 => r_call _ fn_85 (k_graph_fits _ _ _ h2) q q <| r_not q q <| Ra (ABool (!b1)) q q <| R0 <| Jt hΨ (Res_one q) q q
theorem k_graph_Valid (t0 : api_Graph) (r : Int) (hr : graph_Valid t0 = some r) : FnP PP 36 [AAgg (c_api_Graph t0)] (I_ r) := by
  refine FnP.of mixed_ Tryz.func36 q (n := 20) q (fun (r : Int) => I_ r) nk_args NK.nk q hr fun X hΨ => ?_
  refine Jq q <| r_boxV (AAgg (c_api_Graph t0)) q q <| Ra (I_ 0) q q <| R0 <| Js <| Jq q <| r_faT ((cL 1 c_i64) t0.Nodes) fo_25_0 q q q <| r_ld (AL 1 c_i64 t0.Nodes) sc_22 q q q ?_
  refine r_len (cc := c_i64) il_22 q q <| r_gtr q q q <| Rm (ABool (decide (40 < (t0.Nodes.length : Int)))) q q <| R_if (fun h1 => ?_) (fun h1 => ?_)
  · refine Rk (g_fn q q (dt h1)) <| Rk (g_fn q q (dt h1)) <| Rk (g_fn q q (dt h1)) <| Rk (g_fn q q (dt h1)) <| r_pickT (ABool true) q (dt h1) q q <| R0 <| J_cond_T q q <| Jq q <| Ra (I_ 3) q q ?_
    exact R0 <| Jt hΨ (Res_one q) q q
  refine r_faT ((cL 3 c_api_Edge) t0.Edges) fo_25_1 q q (g_f q q (df h1)) <| r_ld (AL 3 c_api_Edge t0.Edges) sc_23 q q (g_f q q (df h1)) <| r_len (cc := c_api_Edge) il_23 q (g_f q q (df h1)) <| r_gtr q q (g_f q q (df h1)) <| r_pickF (ABool (decide (80 < (t0.Edges.length : Int)))) q (df h1) q q <| R0 <| J_cond_p q (fun h2 => ?_) (fun h2 => ?_)
  · exact Jq q <| Ra (I_ 3) q q <| R0 <| Jt hΨ (Res_one q) q q
  refine J_skip <| Js <| Jq q <| r_faT ((cL 1 c_i64) t0.Nodes) fo_25_0 q q q <| r_ld (AL 1 c_i64 t0.Nodes) sc_22 q q q <| R_bind fun b3 h4 => r_callB [] [AL 1 c_i64 t0.Nodes, AClo 81 []] fn_80 (k_slices_ContainsFunc_int _ _ _ h4) .nil q (.cons .same (.cons (.cloFn fn_81 (fun x y h => k_graph_Valid_1 x y h)) .nil)) q <| R0 <| J_cond q (fun h5 => ?_) (fun h5 => ?_)
  · exact Jq q <| Ra (I_ 6) q q <| R0 <| Jt hΨ (Res_one q) q q
  refine J_skip <| Js <| Jq q <| r_faT ((cL 3 c_api_Edge) t0.Edges) fo_25_1 q q q <| r_ld (AL 3 c_api_Edge t0.Edges) sc_23 q q q <| r_mkFn [APtr (c_api_Graph t0)] (fun x => [AAgg (c_api_Edge x)]) (fun y => ABool y) (fun x => graph_Valid_2 x t0) fn_84 q (fun x y h => k_graph_Valid_2 x t0 y h) q <| R_bind fun b6 h7 => r_call _ fn_83 (k_slices_ContainsFunc_api_Edge _ _ _ h7) q q <| R0 ?_
  refine J_cond q (fun h8 => ?_) (fun h8 => ?_)
  · exact Jq q <| Ra (I_ 6) q q <| R0 <| Jt hΨ (Res_one q) q q
  exact J_skip <| Jq q <| Ra (I_ 0) q q <| R0 <| Jt hΨ (Res_one q) q q
theorem k_attribute_Valid_1 (t0 : Int) (t1 : api_Types) (r : Bool) (hr : attribute_Valid_1 t0 t1 = some r) : FnP PP 127 [I_ t0, APtr (c_api_Types t1)] (ABool r) := by
  refine FnP.of mixed_ Tryz.func127 q (n := 9) q (fun (r : Bool) => ABool r) nk_args NK.nk q hr fun X hΨ => ?_
  refine Jq q <| Ra (ABool false) q q <| R0 <| Jq q <| Rm (I_ t0) q q <| r_faT ((cL 4 c_api_NodeType) t1.Nodes) fo_59_0 q q q <| r_ld (AL 4 c_api_NodeType t1.Nodes) sc_56 q q q <| r_len (cc := c_api_NodeType) il_56 q q ?_
  exact r_geq q q q <| Ra (ABool (decide ((t1.Nodes.length : Int) ≤ t0))) q q <| R0 <| Jt hΨ (Res_one q) q q
theorem k_attribute_Valid_2 (t0 : api_Edge) (t1 : api_Types) (r : Bool) (hr : attribute_Valid_2 t0 t1 = some r) : FnP PP 128 [AAgg (c_api_Edge t0), APtr (c_api_Types t1)] (ABool r) := by
  refine FnP.of mixed_ Tryz.func128 q (n := 10) q (fun (r : Bool) => ABool r) nk_args NK.nk q hr fun X hΨ => ?_
  refine Jq q <| r_boxV (AAgg (c_api_Edge t0)) q q <| Ra (ABool false) q q <| R0 <| Jq q <| r_faT (c_i64 t0.Type_) fo_135_0 q q q <| r_ld (I_ t0.Type_) sc_3 q q q <| r_faT ((cL 7 c_api_EdgeType) t1.Edges) fo_59_1 q q q ?_
  exact r_ld (AL 7 c_api_EdgeType t1.Edges) sc_57 q q q <| r_len (cc := c_api_EdgeType) il_57 q q <| r_geq q q q <| Ra (ABool (decide ((t1.Edges.length : Int) ≤ t0.Type_))) q q <| R0 <| Jt hΨ (Res_one q) q q
theorem k_attribute_within (t0 : Int) (t1 : Int) (t2 : Int) (r : Bool) (hr : attribute_within t0 t1 t2 = some r) : FnP PP 129 [I_ t0, I_ t1, I_ t2] (ABool r) := by
  refine FnP.of mixed_ Tryz.func129 q (n := 15) q (fun (r : Bool) => ABool r) nk_args NK.nk q hr fun X hΨ => ?_
  refine Jq q <| Ra (ABool false) q q <| R0 <| Jq q <| Rm (I_ t0) q q <| Rm (I_ t1) q q <| r_geq q q q <| Rm (ABool (decide (t1 ≤ t0))) q q ?_
  refine R_if (fun h1 => ?_) (fun h1 => ?_)
  · exact Rm (I_ t0) q (g_t q q (dt h1)) <| Rm (I_ t2) q (g_t q q (dt h1)) <| r_leq q q (g_t q q (dt h1)) <| r_pickT (ABool (decide (t0 ≤ t2))) q (dt h1) q q <| Ra (ABool (decide (t0 ≤ t2))) q q <| R0 <| Jt hΨ (Res_one q) q q
  exact Rk (g_tn q q (df h1)) <| Rk (g_tn q q (df h1)) <| Rk (g_tn q q (df h1)) <| r_pickF (ABool false) q (df h1) q q <| Ra (ABool false) q q <| R0 <| Jt hΨ (Res_one q) q q
theorem k_difference_Valid (t0 : Int) (t1 : (List api_Test)) (r : Int) (hr : difference_Valid t0 t1 = some r) : FnP PP 131 [I_ t0, AL 5 c_api_Test t1] (I_ r) := by
  refine FnP.of mixed_ Tryz.func131 q (n := 30) q (fun (r : Int) => I_ r) nk_args NK.nk q hr fun X hΨ => ?_
  refine Jq q <| Ra (I_ 0) q q <| R0 <| Js <| Jq q <| Rm (I_ t0) q q <| r_lss q q q <| Rm (ABool (decide (t0 < 0))) q q ?_
  refine R_if (fun h1 => ?_) (fun h1 => ?_)
  · exact Rk (g_fn q q (dt h1)) <| Rk (g_fn q q (dt h1)) <| r_pickT (ABool true) q (dt h1) q q <| R0 <| J_cond_T q q <| Jq q <| Ra (I_ 6) q q <| R0 <| Jt hΨ (Res_one q) q q
  refine Rm (I_ t0) q (g_f q q (df h1)) <| r_gtr q q (g_f q q (df h1)) <| r_pickF (ABool (decide (12 < t0))) q (df h1) q q <| R0 <| J_cond_p q (fun h2 => ?_) (fun h2 => ?_)
  · exact Jq q <| Ra (I_ 6) q q <| R0 <| Jt hΨ (Res_one q) q q
  refine J_skip <| Js <| Jq q <| Rm (AL 5 c_api_Test t1) q q <| r_len (cc := c_api_Test) il_27 q q <| r_gtr q q q <| R0 <| J_cond_p q (fun h3 => ?_) (fun h3 => ?_)
  · exact Jq q <| Ra (I_ 3) q q <| R0 <| Jt hΨ (Res_one q) q q
  refine J_skip <| Js <| Jq q <| Rm (AL 5 c_api_Test t1) q q <| r_len (cc := c_api_Test) il_27 q q <| Rm (I_ 0) q q <| R0 <| J_block <| J_cv [] [] [] 0 [(0, I_ t0), (4, I_ 0), (8, I_ t0), (11, I_ t0), (15, I_ (t1.length : Int)), (17, AL 5 c_api_Test t1), (18, I_ (t1.length : Int)), (19, I_ 0)] [] (.same q (.same q (.same q (.same q (.same q (.same q (.same q (.same q .nil)))))))) .nil q q ?_
  refine J_it (fun x4 => ⟨fr [(0, I_ t0), (4, I_ 0), (8, I_ t0), (11, I_ t0), (15, I_ (t1.length : Int)), (17, AL 5 c_api_Test t1), (18, I_ (t1.length : Int)), (19, I_ 0)], hp [], 0⟩) (fun E5 hE5 x4 => ?_) (by rfl)
  refine Jq q <| r_lss q q q <| R0 <| Js <| J_cond_p q (fun h6 => ?_) (fun h6 => ?_)
  rotate_left
  · exact J_exit q <| J_outS <| Jq q <| Ra (I_ 0) q q <| R0 <| Jt hΨ (Res_one q) q q
  refine J_skip <| Js <| J_block <| Jq q <| R_if (fun h7 => ?_) (fun _ => R_none)
  exact r_ix (cc := c_api_Test) el_27 q q h7.1 h7.2 q <| r_lda (c_api_Test (nth t1 0)) ag_158 q q q q <| r_alloc 0 _ z_158 q q <| r_stO (AObj 0) (AAgg (c_api_Test (nth t1 0))) (c_api_Test (nth t1 0)) sz_158 q .obj q q q q q q <| R0 <| Jq q <| Rm (I_ t0) q q <| r_ldaO (AObj 0) (c_api_Test (nth t1 0)) ag_158 q .obj q q q q <| R_none
theorem k_slices_Index_bool (t0 : (List Bool)) (t1 : Bool) (r : Int) (hr : slices_Index_bool t0 t1 = some r) : FnP PP 183 [AL 1 c_bool t0, ABool t1] (I_ r) := by
  refine FnP.of mixed_ Tryz.func183 q (n := 19) q (fun (r : Int) => I_ r) nk_args NK.nk q hr fun X hΨ => ?_
  refine Jq q <| Ra (I_ 0) q q <| R0 <| Js <| Jq q <| Rm (AL 1 c_bool t0) q q <| r_len (cc := c_bool) il_170 q q <| Rm (I_ 0) q q ?_
  refine R0 <| J_block <| J_to [(0, AL 1 c_bool t0), (1, ABool t1), (7, I_ (t0.length : Int)), (8, I_ 0)] (.cons q (.cons q (.cons q (.cons q .nil)))) <| J_it (fun x1 => ⟨fr [(0, AL 1 c_bool t0), (1, ABool t1), (7, I_ (t0.length : Int)), (8, I_ x1)], fun _ => none, 0⟩) (fun E2 hE2 x1 => ?_) (by rfl)
  refine Jq q <| r_lss q q q <| R0 <| Js <| J_cond_p q (fun h6 => ?_) (fun h6 => ?_)
  rotate_left
  · exact J_exit q <| J_outS <| Jq q <| Ra (I_ (-1)) q q <| R0 <| Jt hΨ (Res_one q) q q
  refine J_skip <| Js <| J_block <| Jq q <| Rm (I_ x1) q q <| Ra (I_ x1) q q <| R0 <| Jq q ?_
  refine Rm (ABool t1) q q <| Rm (AL 1 c_bool t0) q q <| Rm (I_ x1) q q <| R_if (fun h7 => ?_) (fun _ => R_none)
  refine r_ix (cc := c_bool) el_170 q q h7.1 h7.2 q <| r_ld (ABool (nth t0 x1)) sc_4 q q q <| r_eqB ut_4 q q q <| R0 <| J_cond q (fun h8 => ?_) (fun h8 => ?_)
  · exact Jq q <| Rm (I_ x1) q q <| Ra (I_ x1) q q <| R0 <| J_outS <| Jt hΨ (Res_one q) q q
  refine J_skip <| J_inBlock <| J_range 7 (m := (t0.length : Int)) q fun q9 => J_range 5 (m := x1) q fun q10 => Jr q <| r_add (x1 + 1) q q (wrap_i64 (by omega) (by omega)) q <| Rm (I_ (x1 + 1)) q q <| R0 <| J_go <| J_to [(0, AL 1 c_bool t0), (1, ABool t1), (7, I_ (t0.length : Int)), (8, I_ (x1 + 1))] (.cons q (.cons q (.cons q (.cons q .nil)))) ?_
  exact hE2 (x1 + 1)
theorem k_slices_Contains_bool (t0 : (List Bool)) (t1 : Bool) (r : Bool) (hr : slices_Contains_bool t0 t1 = some r) : FnP PP 132 [AL 1 c_bool t0, ABool t1] (ABool r) := by
  refine FnP.of mixed_ Tryz.func132 q (n := 9) q (fun (r : Bool) => ABool r) nk_args NK.nk q hr fun X hΨ => ?_
  refine Jq q <| Ra (ABool false) q q <| R0 <| Jq q <| Rm (AL 1 c_bool t0) q q <| Rm (ABool t1) q q <| R_bind fun b1 h2 => r_call _ fn_183 (k_slices_Index_bool _ _ _ h2) q q ?_
  exact r_geq q q q <| Ra (ABool (decide (0 ≤ b1))) q q <| R0 <| Jt hΨ (Res_one q) q q
theorem k_attribute_Valid (t0 : api_Types) (t1 : api_Pattern) (r : Int) (hr : attribute_Valid t0 t1 = some r) : FnP PP 69 [AAgg (c_api_Types t0), AAgg (c_api_Pattern t1)] (I_ r) := by
  refine FnP.of mixed_ Tryz.func69 q (n := 110) q (fun (r : Int) => I_ r) nk_args NK.nk q hr fun X hΨ => ?_
  refine Jq q <| r_boxV (AAgg (c_api_Types t0)) q q <| r_boxV (AAgg (c_api_Pattern t1)) q q <| Ra (I_ 0) q q <| R0 <| Js <| Jq q <| r_lda (c_api_Types t0) ag_59 q q q q ?_
  refine R_bind fun b1 h2 => r_call _ fn_67 (k_types_Valid _ _ h2) q q <| Rm (ATup [AStr b1.1, I_ b1.2]) q q <| r_ext (AStr b1.1) q q q <| r_ext (I_ b1.2) q q q <| Ra (AStr b1.1) q q <| Ra (I_ b1.2) q q <| R0 <| Jq q ?_
  refine Rm (I_ b1.2) q q <| r_neq q q q <| R0 <| J_cond_p q (fun h3 => ?_) (fun h3 => ?_)
  · exact Jq q <| Rm (I_ b1.2) q q <| Ra (I_ b1.2) q q <| R0 <| Jt hΨ (Res_one q) q q
  refine J_skip <| Js <| Jq q <| r_faT (c_api_Graph t1.Graph) fo_29_0 q q q <| r_lda (c_api_Graph t1.Graph) ag_25 q q q q <| R_bind fun b4 h5 => r_call _ fn_36 (k_graph_Valid _ _ h5) q q <| Ra (I_ b4) q q <| R0 ?_
  refine Jq q <| Rm (I_ b4) q q <| r_neq q q q <| R0 <| J_cond_p q (fun h6 => ?_) (fun h6 => ?_)
  · exact Jq q <| Rm (I_ b4) q q <| Ra (I_ b4) q q <| R0 <| Jt hΨ (Res_one q) q q
  refine J_skip <| Js <| Jq q <| r_faT (c_api_Graph t1.Graph) fo_29_0 q q q <| r_faT ((cL 1 c_i64) t1.Graph.Nodes) fo_25_0 q q q <| r_ld (AL 1 c_i64 t1.Graph.Nodes) sc_22 q q q <| r_mkFn [APtr (c_api_Types t0)] (fun x => [I_ x]) (fun y => ABool y) (fun x => attribute_Valid_1 x t0) fn_127 q (fun x y h => k_attribute_Valid_1 x t0 y h) q <| R_bind fun b7 h8 => r_call _ fn_80 (k_slices_ContainsFunc_int _ _ _ h8) q q ?_
  refine Rm (ABool b7) q q <| R_if (fun h9 => ?_) (fun h9 => ?_)
  · refine Rk (g_fn q q h9) <| Rk (g_fn q q h9) <| Rk (g_fn q q h9) <| Rk (g_fn q q h9) <| Rk (g_fn q q h9) <| r_pickT (ABool true) q h9 q q <| R0 <| J_cond_T q q <| Jq q ?_
    exact Ra (I_ 13) q q <| R0 <| Jt hΨ (Res_one q) q q
  refine r_faT (c_api_Graph t1.Graph) fo_29_0 q q (g_f q q (bf h9)) <| r_faT ((cL 3 c_api_Edge) t1.Graph.Edges) fo_25_1 q q (g_f q q (bf h9)) <| r_ld (AL 3 c_api_Edge t1.Graph.Edges) sc_23 q q (g_f q q (bf h9)) <| r_mkFn [APtr (c_api_Types t0)] (fun x => [AAgg (c_api_Edge x)]) (fun y => ABool y) (fun x => attribute_Valid_2 x t0) fn_128 q (fun x y h => k_attribute_Valid_2 x t0 y h) (g_f q q (bf h9)) <| R_bind fun b10 h11 => r_call _ fn_83 (k_slices_ContainsFunc_api_Edge _ _ _ h11) q (g_f q q (bf h9)) <| r_pickF (ABool b10) q (bf h9) q q <| R0 <| J_cond q (fun h12 => ?_) (fun h12 => ?_)
  · exact Jq q <| Ra (I_ 13) q q <| R0 <| Jt hΨ (Res_one q) q q
  refine J_skip <| Js <| Jq q <| r_faT (c_i64 t1.Vars) fo_29_2 q q q <| r_ld (I_ t1.Vars) sc_3 q q q <| R_bind fun b13 h14 => r_call _ fn_129 (k_attribute_within _ _ _ _ h14) q q <| r_not q q <| R0 ?_
  refine J_cond q (fun h15 => ?_) (fun h15 => ?_)
  · exact Jq q <| Ra (I_ 6) q q <| R0 <| Jt hΨ (Res_one q) q q
  refine J_skip <| Js <| Jq q <| r_faT ((cL 4 c_api_Slot) t1.Slots) fo_29_1 q q q <| r_ld (AL 4 c_api_Slot t1.Slots) sc_26 q q q <| r_len (cc := c_api_Slot) il_26 q q <| r_gtr q q q <| Rm (ABool (decide (10 < (t1.Slots.length : Int)))) q q <| R_if (fun h16 => ?_) (fun h16 => ?_)
  · refine Rk (g_fn q q (dt h16)) <| Rk (g_fn q q (dt h16)) <| Rk (g_fn q q (dt h16)) <| Rk (g_fn q q (dt h16)) <| r_pickT (ABool true) q (dt h16) q q <| R0 <| J_cond_T q q <| Jq q <| Ra (I_ 3) q q ?_
    exact R0 <| Jt hΨ (Res_one q) q q
  refine r_faT ((cL 5 c_api_Test) t1.Tests) fo_29_3 q q (g_f q q (df h16)) <| r_ld (AL 5 c_api_Test t1.Tests) sc_27 q q (g_f q q (df h16)) <| r_len (cc := c_api_Test) il_27 q (g_f q q (df h16)) <| r_gtr q q (g_f q q (df h16)) <| r_pickF (ABool (decide (10 < (t1.Tests.length : Int)))) q (df h16) q q <| R0 <| J_cond_p q (fun h17 => ?_) (fun h17 => ?_)
  · exact Jq q <| Ra (I_ 3) q q <| R0 <| Jt hΨ (Res_one q) q q
  refine J_skip <| Jq q <| r_faT (c_i64 t1.Vars) fo_29_2 q q q <| r_ld (I_ t1.Vars) sc_3 q q q <| R_if (fun h18 => ?_) (fun _ => R_none)
  refine r_make (cc := c_bool) 0 false ap_170 z_4 q q h18.1 h18.2 q q <| Ra (AObj 0) q q <| R0 <| Js <| Jq q <| r_faT ((cL 4 c_api_Slot) t1.Slots) fo_29_1 q q q <| r_ld (AL 4 c_api_Slot t1.Slots) sc_26 q q q <| r_len (cc := c_api_Slot) il_26 q q <| Rm (I_ 0) q q ?_
  refine R0 <| J_block <| J_cv [] [] [] 1 [(2, APtr (c_api_Types t0)), (3, APtr (c_api_Pattern t1)), (4, I_ 0), (6, I_ b1.2), (7, I_ b4), (8, AObj 0), (18, I_ b1.2), (19, I_ b1.2), (24, I_ b4), (25, I_ b4), (41, I_ t1.Vars), (46, I_ (t1.Slots.length : Int)), (51, I_ (t1.Tests.length : Int)), (55, I_ t1.Vars), (58, AL 4 c_api_Slot t1.Slots), (59, I_ (t1.Slots.length : Int)), (60, I_ 0)] [(0, .row 4 1 ((List.replicate t1.Vars.toNat false).map c_bool))] (.same q (.same q (.same q (.same q (.same q (.cons (A := AObj 0) q (.obj q q q) (.same q (.same q (.same q (.same q (.same q (.same q (.same q (.same q (.same q (.same q (.same q .nil))))))))))))))))) (.cons q q q q (.row (NKC.flat _ _)) q q .nil) q q <| J_it (fun x19 => ⟨fr [(2, APtr (c_api_Types t0)), (3, APtr (c_api_Pattern t1)), (4, I_ 0), (6, I_ b1.2), (7, I_ b4), (8, AObj 0), (18, I_ b1.2), (19, I_ b1.2), (24, I_ b4), (25, I_ b4), (41, I_ t1.Vars), (46, I_ (t1.Slots.length : Int)), (51, I_ (t1.Tests.length : Int)), (55, I_ t1.Vars), (58, AL 4 c_api_Slot t1.Slots), (59, I_ (t1.Slots.length : Int)), (60, I_ 0)], hp [(0, .row 4 1 ((List.replicate t1.Vars.toNat false).map c_bool))], 1⟩) (fun E20 hE20 x19 => ?_) (by rfl)
  refine Jq q <| r_lss q q q <| R0 <| Js <| J_cond_p q (fun h21 => ?_) (fun h21 => ?_)
  · refine J_skip <| Js <| J_block <| Jq q <| R_if (fun h22 => ?_) (fun _ => R_none)
    refine r_ix (cc := c_api_Slot) el_26 q q h22.1 h22.2 q <| r_lda (c_api_Slot (nth t1.Slots 0)) ag_156 q q q q <| r_alloc 1 _ z_156 q q <| r_stO (AObj 1) (AAgg (c_api_Slot (nth t1.Slots 0))) (c_api_Slot (nth t1.Slots 0)) sz_156 q .obj q q q q q q <| R0 <| Js <| Jq q <| r_lda (c_api_Types t0) ag_59 q q q q <| r_lda (c_api_Pattern t1) ag_29 q q q q ?_
    exact r_ldaO (AObj 1) (c_api_Slot (nth t1.Slots 0)) ag_156 q .obj q q q q <| R_none
  refine J_exit q <| J_out <| Js <| Jq q <| r_faT (c_i64 t1.Vars) fo_29_2 q q q <| r_ld (I_ t1.Vars) sc_3 q q q <| r_faT ((cL 5 c_api_Test) t1.Tests) fo_29_3 q q q <| r_ld (AL 5 c_api_Test t1.Tests) sc_27 q q q <| R_bind fun b23 h24 => ?_
  refine r_call _ fn_131 (k_difference_Valid _ _ _ h24) q q <| Ra (I_ b23) q q <| R0 <| Jq q <| Rm (I_ b23) q q <| r_neq q q q <| R0 <| J_cond_p q (fun h25 => ?_) (fun h25 => ?_)
  · exact Jq q <| Rm (I_ b23) q q <| Ra (I_ b23) q q <| R0 <| Jt hΨ (Res_one q) q q
  refine J_skip <| Js <| Jq q <| Rm (AObj 0) q q <| R_bind fun b26 h27 => r_callB [(0, .row 4 1 ((List.replicate t1.Vars.toNat false).map c_bool))] [AObj 0, ABool false] fn_132 (k_slices_Contains_bool _ _ _ h27) (.cons q .nil) q (.cons (.frow q q (NKC.flat _ _)) (.cons .same .nil)) q <| R0 <| J_cond q (fun h28 => ?_) (fun h28 => ?_)
  · exact Jq q <| Ra (I_ 9) q q <| R0 <| Jt hΨ (Res_one q) q q
  exact J_skip <| Jq q <| Ra (I_ 0) q q <| R0 <| Jt hΨ (Res_one q) q q
theorem k_rule_typed_1 (t0 : Int) (t1 : api_Types) (r : Bool) (hr : rule_typed_1 t0 t1 = some r) : FnP PP 184 [I_ t0, APtr (c_api_Types t1)] (ABool r) := by
  refine FnP.of mixed_ Tryz.func184 q (n := 9) q (fun (r : Bool) => ABool r) nk_args NK.nk q hr fun X hΨ => ?_
  refine Jq q <| Ra (ABool false) q q <| R0 <| Jq q <| Rm (I_ t0) q q <| r_faT ((cL 4 c_api_NodeType) t1.Nodes) fo_59_0 q q q <| r_ld (AL 4 c_api_NodeType t1.Nodes) sc_56 q q q <| r_len (cc := c_api_NodeType) il_56 q q ?_
  exact r_geq q q q <| Ra (ABool (decide ((t1.Nodes.length : Int) ≤ t0))) q q <| R0 <| Jt hΨ (Res_one q) q q
theorem k_rule_typed_2 (t0 : api_Edge) (t1 : api_Types) (r : Bool) (hr : rule_typed_2 t0 t1 = some r) : FnP PP 185 [AAgg (c_api_Edge t0), APtr (c_api_Types t1)] (ABool r) := by
  refine FnP.of mixed_ Tryz.func185 q (n := 10) q (fun (r : Bool) => ABool r) nk_args NK.nk q hr fun X hΨ => ?_
  refine Jq q <| r_boxV (AAgg (c_api_Edge t0)) q q <| Ra (ABool false) q q <| R0 <| Jq q <| r_faT (c_i64 t0.Type_) fo_135_0 q q q <| r_ld (I_ t0.Type_) sc_3 q q q <| r_faT ((cL 7 c_api_EdgeType) t1.Edges) fo_59_1 q q q ?_
  exact r_ld (AL 7 c_api_EdgeType t1.Edges) sc_57 q q q <| r_len (cc := c_api_EdgeType) il_57 q q <| r_geq q q q <| Ra (ABool (decide ((t1.Edges.length : Int) ≤ t0.Type_))) q q <| R0 <| Jt hΨ (Res_one q) q q
theorem k_rule_typed (t0 : api_Types) (t1 : api_Graph) (r : Bool) (hr : rule_typed t0 t1 = some r) : FnP PP 133 [AAgg (c_api_Types t0), AAgg (c_api_Graph t1)] (ABool r) := by
  refine FnP.of mixed_ Tryz.func133 q (n := 17) q (fun (r : Bool) => ABool r) nk_args NK.nk q hr fun X hΨ => ?_
  refine Jq q <| r_boxV (AAgg (c_api_Types t0)) q q <| r_boxV (AAgg (c_api_Graph t1)) q q <| Ra (ABool false) q q <| R0 <| Jq q <| r_faT ((cL 1 c_i64) t1.Nodes) fo_25_0 q q q <| r_ld (AL 1 c_i64 t1.Nodes) sc_22 q q q ?_
  refine r_mkFn [APtr (c_api_Types t0)] (fun x => [I_ x]) (fun y => ABool y) (fun x => rule_typed_1 x t0) fn_184 q (fun x y h => k_rule_typed_1 x t0 y h) q <| R_bind fun b1 h2 => r_call _ fn_80 (k_slices_ContainsFunc_int _ _ _ h2) q q <| r_not q q <| Rm (ABool (!b1)) q q <| R_if (fun h3 => ?_) (fun h3 => ?_)
  rotate_left
  · exact Rk (g_tn q q (bf h3)) <| Rk (g_tn q q (bf h3)) <| Rk (g_tn q q (bf h3)) <| Rk (g_tn q q (bf h3)) <| Rk (g_tn q q (bf h3)) <| r_pickF (ABool false) q (bf h3) q q <| Ra (ABool false) q q <| R0 <| Jt hΨ (Res_one q) q q
  exact r_faT ((cL 3 c_api_Edge) t1.Edges) fo_25_1 q q (g_t q q h3) <| r_ld (AL 3 c_api_Edge t1.Edges) sc_23 q q (g_t q q h3) <| r_mkFn [APtr (c_api_Types t0)] (fun x => [AAgg (c_api_Edge x)]) (fun y => ABool y) (fun x => rule_typed_2 x t0) fn_185 q (fun x y h => k_rule_typed_2 x t0 y h) (g_t q q h3) <| R_bind fun b4 h5 => r_call _ fn_83 (k_slices_ContainsFunc_api_Edge _ _ _ h5) q (g_t q q h3) <| r_not q (g_t q q h3) <| r_pickT (ABool (!b4)) q h3 q q <| Ra (ABool (!b4)) q q <| R0 <| Jt hΨ (Res_one q) q q
theorem k_rule_right (t0 : api_Types) (t1 : api_Rule) (r : Int) (hr : rule_right t0 t1 = some r) : FnP PP 70 [AAgg (c_api_Types t0), AAgg (c_api_Rule t1)] (I_ r) := by
  refine FnP.of mixed_ Tryz.func70 q (n := 58) q (fun (r : Int) => I_ r) nk_args NK.nk q hr fun X hΨ => ?_
  refine Jq q <| r_boxV (AAgg (c_api_Types t0)) q q <| r_boxV (AAgg (c_api_Rule t1)) q q <| Ra (I_ 0) q q <| R0 <| Js <| Jq q <| r_faT (c_api_Pattern t1.Right) fo_37_2 q q q ?_
  refine r_faT (c_api_Graph t1.Right.Graph) fo_29_0 q q q <| r_lda (c_api_Graph t1.Right.Graph) ag_25 q q q q <| R_bind fun b1 h2 => r_call _ fn_36 (k_graph_Valid _ _ h2) q q <| Ra (I_ b1) q q <| R0 <| Jq q <| Rm (I_ b1) q q <| r_neq q q q ?_
  refine R0 <| J_cond_p q (fun h3 => ?_) (fun h3 => ?_)
  · exact Jq q <| Rm (I_ b1) q q <| Ra (I_ b1) q q <| R0 <| Jt hΨ (Res_one q) q q
  refine J_skip <| Js <| J_block <| Jq q <| r_lda (c_api_Types t0) ag_59 q q q q <| r_faT (c_api_Pattern t1.Right) fo_37_2 q q q <| r_faT (c_api_Graph t1.Right.Graph) fo_29_0 q q q <| r_lda (c_api_Graph t1.Right.Graph) ag_25 q q q q <| R_bind fun b4 h5 => ?_
  refine r_call _ fn_133 (k_rule_typed _ _ _ h5) q q <| r_not q q <| Ra (ABool (!b4)) q q <| R0 <| J_cond q (fun h6 => ?_) (fun h6 => ?_)
  · exact Jq q <| Ra (I_ 13) q q <| R0 <| Jt hΨ (Res_one q) q q
  refine Jq q <| r_faT (c_api_Pattern t1.Right) fo_37_2 q q q <| r_faT (c_i64 t1.Right.Vars) fo_29_2 q q q <| r_ld (I_ t1.Right.Vars) sc_3 q q q <| r_faT (c_api_Pattern t1.Left) fo_37_1 q q q <| r_faT (c_i64 t1.Left.Vars) fo_29_2 q q q <| r_ld (I_ t1.Left.Vars) sc_3 q q q <| r_neq q q q <| Rm (ABool (decide (¬ (t1.Right.Vars = t1.Left.Vars)))) q q ?_
  refine R_if (fun h7 => ?_) (fun h7 => ?_)
  · refine Rk (g_fn q q (dt h7)) <| Rk (g_fn q q (dt h7)) <| Rk (g_fn q q (dt h7)) <| Rk (g_fn q q (dt h7)) <| Rk (g_fn q q (dt h7)) <| r_pickT (ABool true) q (dt h7) q q <| Ra (ABool true) q q <| R0 <| J_cond_T q q <| Js ?_
    exact Jr q <| Ra (I_ 1) q q <| R0 <| Jt hΨ (Res_one q) q q
  refine r_faT (c_api_Pattern t1.Right) fo_37_2 q q (g_f q q (df h7)) <| r_faT ((cL 5 c_api_Test) t1.Right.Tests) fo_29_3 q q (g_f q q (df h7)) <| r_ld (AL 5 c_api_Test t1.Right.Tests) sc_27 q q (g_f q q (df h7)) <| r_len (cc := c_api_Test) il_27 q (g_f q q (df h7)) <| r_gtr q q (g_f q q (df h7)) <| r_pickF (ABool (decide (0 < (t1.Right.Tests.length : Int)))) q (df h7) q q <| Ra (ABool (decide (0 < (t1.Right.Tests.length : Int)))) q q <| R0 <| J_cond_p q (fun h8 => ?_) (fun h8 => ?_)
  · exact Jq q <| Ra (I_ 1) q q <| R0 <| Jt hΨ (Res_one q) q q
  refine Jq q <| r_faT (c_api_Pattern t1.Right) fo_37_2 q q q <| r_faT ((cL 4 c_api_Slot) t1.Right.Slots) fo_29_1 q q q <| r_ld (AL 4 c_api_Slot t1.Right.Slots) sc_26 q q q <| r_len (cc := c_api_Slot) il_26 q q <| r_gtr q q q <| Ra (ABool (decide (10 < (t1.Right.Slots.length : Int)))) q q <| R0 <| J_cond_p q (fun h9 => ?_) (fun h9 => ?_)
  · exact Jq q <| Ra (I_ 3) q q <| R0 <| Jt hΨ (Res_one q) q q
  refine J_skip <| J_inBlock <| Js <| Jq q <| r_faT (c_api_Pattern t1.Right) fo_37_2 q q q <| r_faT ((cL 4 c_api_Slot) t1.Right.Slots) fo_29_1 q q q <| r_ld (AL 4 c_api_Slot t1.Right.Slots) sc_26 q q q <| r_len (cc := c_api_Slot) il_26 q q <| Rm (I_ 0) q q ?_
  refine R0 <| J_block <| J_to [(2, APtr (c_api_Types t0)), (3, APtr (c_api_Rule t1)), (4, I_ 0), (5, I_ b1), (11, I_ b1), (12, I_ b1), (25, I_ t1.Right.Vars), (28, I_ t1.Left.Vars), (34, I_ (t1.Right.Tests.length : Int)), (41, I_ (t1.Right.Slots.length : Int)), (46, I_ (t1.Right.Slots.length : Int)), (47, I_ 0)] (.cons q (.cons q (.cons q (.cons q (.cons q (.cons q (.cons q (.cons q (.cons q (.cons q (.cons q (.cons q .nil)))))))))))) <| J_it (fun x10 => ⟨fr [(2, APtr (c_api_Types t0)), (3, APtr (c_api_Rule t1)), (4, I_ 0), (5, I_ b1), (11, I_ b1), (12, I_ b1), (25, I_ t1.Right.Vars), (28, I_ t1.Left.Vars), (34, I_ (t1.Right.Tests.length : Int)), (41, I_ (t1.Right.Slots.length : Int)), (46, I_ (t1.Right.Slots.length : Int)), (47, I_ 0)], fun _ => none, 0⟩) (fun E11 hE11 x10 => ?_) (by rfl)
  refine Jq q <| r_lss q q q <| R0 <| Js <| J_cond_p q (fun h12 => ?_) (fun h12 => ?_)
  rotate_left
  · exact J_exit q <| J_outS <| Jq q <| Ra (I_ 0) q q <| R0 <| Jt hΨ (Res_one q) q q
  refine J_skip <| Js <| J_block <| Jq q <| Rm (I_ 0) q q <| Ra (I_ 0) q q <| R0 <| Jq q ?_
  exact r_lda (c_api_Types t0) ag_59 q q q q <| r_lda (c_api_Rule t1) ag_37 q q q q <| Rm (I_ 0) q q <| R_none
theorem k_subgraph_list (t0 : (List Int)) (t1 : Int) (r : Int) (hr : subgraph_list t0 t1 = some r) : FnP PP 197 [AL 1 c_i64 t0, I_ t1] (I_ r) := by
  refine FnP.of mixed_ Tryz.func197 q (n := 33) q (fun (r : Int) => I_ r) nk_args NK.nk q hr fun X hΨ => ?_
  refine Jq q <| Ra (I_ 0) q q <| R0 <| Js <| Jq q <| Rm (AL 1 c_i64 t0) q q <| r_len (cc := c_i64) il_22 q q <| Rm (I_ 0) q q ?_
  refine R0 <| J_block <| J_to [(0, AL 1 c_i64 t0), (1, I_ t1), (7, AL 1 c_i64 t0), (8, I_ (t0.length : Int)), (9, I_ 0)] (.cons q (.cons q (.cons q (.cons q (.cons q .nil))))) <| J_it (fun x1 => ⟨fr [(0, AL 1 c_i64 t0), (1, I_ t1), (7, AL 1 c_i64 t0), (8, I_ (t0.length : Int)), (9, I_ x1)], fun _ => none, 0⟩) (fun E2 hE2 x1 => ?_) (by rfl)
  refine Jq q <| r_lss q q q <| R0 <| Js <| J_cond_p q (fun h12 => ?_) (fun h12 => ?_)
  rotate_left
  · exact J_exit q <| J_outS <| Jq q <| Ra (I_ 0) q q <| R0 <| Jt hΨ (Res_one q) q q
  refine J_skip <| Js <| J_block <| Jq q <| Rm (I_ x1) q q <| R_if (fun h13 => ?_) (fun _ => R_none)
  refine r_ix (cc := c_i64) el_22 q q h13.1 h13.2 q <| r_ld (I_ (nth t0 x1)) sc_3 q q q <| Ra (I_ x1) q q <| Ra (I_ (nth t0 x1)) q q <| R0 <| Js <| Jq q <| Rm (I_ (nth t0 x1)) q q <| r_lss q q q ?_
  refine Rm (ABool (decide ((nth t0 x1) < 0))) q q <| R_if (fun h14 => ?_) (fun h14 => ?_)
  · refine Rk (g_fn q q (dt h14)) <| Rk (g_fn q q (dt h14)) <| Rk (g_fn q q (dt h14)) <| r_pickT (ABool true) q (dt h14) q q <| R0 <| J_cond_T q q <| Jq q <| Ra (I_ 6) q q <| R0 ?_
    exact J_outS <| Jt hΨ (Res_one q) q q
  refine Rm (I_ (nth t0 x1)) q (g_f q q (df h14)) <| Rm (I_ t1) q (g_f q q (df h14)) <| r_geq q q (g_f q q (df h14)) <| r_pickF (ABool (decide (t1 ≤ (nth t0 x1)))) q (df h14) q q <| R0 <| J_cond_p q (fun h15 => ?_) (fun h15 => ?_)
  · exact Jq q <| Ra (I_ 6) q q <| R0 <| J_outS <| Jt hΨ (Res_one q) q q
  refine J_skip <| Js ?_
  apply J_joinA (fun v20 => ⟨fr [(0, AL 1 c_i64 t0), (1, I_ t1), (5, I_ x1), (6, I_ (nth t0 x1)), (7, AL 1 c_i64 t0), (8, I_ (t0.length : Int)), (9, I_ x1), (11, I_ x1), (13, I_ (nth t0 x1)), (14, I_ (nth t0 x1)), (17, I_ (nth t0 x1)), (18, I_ t1), (21, I_ x1)], fun _ => none, 0⟩) (fun v20 => subgraph_list_j20 x1 v20)
  · intro K21
    refine J_range 5 (m := x1) q fun q17 => Jr q <| Rm (I_ x1) q q <| r_gtr q q q <| Rm (ABool (decide (0 < x1))) q q <| R_if (fun h16 => ?_) (fun h16 => ?_)
    rotate_left
    · refine Rk (g_tn q q (df h16)) <| Rk (g_tn q q (df h16)) <| Rk (g_tn q q (df h16)) <| Rk (g_tn q q (df h16)) <| Rk (g_tn q q (df h16)) <| Rk (g_tn q q (df h16)) <| Rk (g_tn q q (df h16)) <| r_pickF (ABool false) q (df h16) q q <| R0 <| J_cond_F q q ?_
      exact J_to [(0, AL 1 c_i64 t0), (1, I_ t1), (5, I_ x1), (6, I_ (nth t0 x1)), (7, AL 1 c_i64 t0), (8, I_ (t0.length : Int)), (9, I_ x1), (11, I_ x1), (13, I_ (nth t0 x1)), (14, I_ (nth t0 x1)), (17, I_ (nth t0 x1)), (18, I_ t1), (21, I_ x1)] (.cons q (.cons q (.cons q (.cons q (.cons q (.cons q (.cons q (.cons q (.cons q (.cons q (.cons q (.cons q (.cons q .nil))))))))))))) <| K21 ()
    refine Rm (I_ (nth t0 x1)) q (g_t q q (dt h16)) <| Rm (AL 1 c_i64 t0) q (g_t q q (dt h16)) <| Rm (I_ x1) q (g_t q q (dt h16)) <| r_sub (x1 - 1) q q (wrap_i64 (by omega) (by omega)) (g_t q q (dt h16)) <| R_if (fun h18 => ?_) (fun _ => R_none)
    refine r_ix (cc := c_i64) el_22 q q h18.1 h18.2 (g_t q q (dt h16)) <| r_ld (I_ (nth t0 (x1 - 1))) sc_3 q q (g_t q q (dt h16)) <| r_leq q q (g_t q q (dt h16)) <| r_pickT (ABool (decide ((nth t0 x1) ≤ (nth t0 (x1 - 1))))) q (dt h16) q q <| R0 <| J_cond_p q (fun h19 => ?_) (fun h19 => ?_)
    rotate_left
    · exact J_to [(0, AL 1 c_i64 t0), (1, I_ t1), (5, I_ x1), (6, I_ (nth t0 x1)), (7, AL 1 c_i64 t0), (8, I_ (t0.length : Int)), (9, I_ x1), (11, I_ x1), (13, I_ (nth t0 x1)), (14, I_ (nth t0 x1)), (17, I_ (nth t0 x1)), (18, I_ t1), (21, I_ x1)] (.cons q (.cons q (.cons q (.cons q (.cons q (.cons q (.cons q (.cons q (.cons q (.cons q (.cons q (.cons q (.cons q .nil))))))))))))) <| K21 ()
    exact Jq q <| Ra (I_ 12) q q <| R0 <| J_outS <| Jt hΨ (Res_one q) q q
  intro v20
  refine J_skip <| J_inBlock <| J_range 8 (m := (t0.length : Int)) q fun q22 => J_range 5 (m := x1) q fun q23 => Jr q <| r_add (x1 + 1) q q (wrap_i64 (by omega) (by omega)) q <| Rm (I_ (x1 + 1)) q q <| R0 <| J_go <| J_to [(0, AL 1 c_i64 t0), (1, I_ t1), (7, AL 1 c_i64 t0), (8, I_ (t0.length : Int)), (9, I_ (x1 + 1))] (.cons q (.cons q (.cons q (.cons q (.cons q .nil))))) ?_
  exact hE2 (x1 + 1)
theorem k_cmp_isNaN_int (t0 : Int) (r : Bool) (hr : cmp_isNaN_int t0 = some r) : FnP PP 199 [I_ t0] (ABool r) := by
  refine FnP.of mixed_ Tryz.func199 q (n := 6) q (fun (r : Bool) => ABool r) nk_args NK.nk q hr fun X hΨ => ?_
  refine Jq q <| Ra (ABool false) q q <| R0 <| Jq q <| Rm (I_ t0) q q <| Rm (I_ t0) q q <| r_neq q q q <| Ra (ABool (decide (¬ (t0 = t0)))) q q ?_
  exact R0 <| Jt hΨ (Res_one q) q q
theorem k_cmp_Less_int (t0 : Int) (t1 : Int) (r : Bool) (hr : cmp_Less_int t0 t1 = some r) : FnP PP 145 [I_ t0, I_ t1] (ABool r) := by
  refine FnP.of mixed_ Tryz.func145 q (n := 17) q (fun (r : Bool) => ABool r) nk_args NK.nk q hr fun X hΨ => ?_
  refine Jq q <| Ra (ABool false) q q <| R0 <| Jq q <| Rm (I_ t0) q q <| R_bind fun b1 h2 => r_call _ fn_199 (k_cmp_isNaN_int _ _ h2) q q <| Rm (ABool b1) q q ?_
  refine R_if (fun h3 => ?_) (fun h3 => ?_)
  rotate_left
  · refine Rk (g_tn q q (bf h3)) <| Rk (g_tn q q (bf h3)) <| Rk (g_tn q q (bf h3)) <| r_pickF (ABool false) q (bf h3) q q <| Rm (ABool false) q q <| Rm (I_ t0) q (g_f q q q) <| Rm (I_ t1) q (g_f q q q) <| r_lss q q (g_f q q q) <| r_pickF (ABool (decide (t0 < t1))) q q q q <| Ra (ABool (decide (t0 < t1))) q q ?_
    exact R0 <| Jt hΨ (Res_one q) q q
  refine Rm (I_ t1) q (g_t q q h3) <| R_bind fun b4 h5 => r_call _ fn_199 (k_cmp_isNaN_int _ _ h5) q (g_t q q h3) <| r_not q (g_t q q h3) <| r_pickT (ABool (!b4)) q h3 q q <| Rm (ABool (!b4)) q q <| R_if (fun h6 => ?_) (fun h6 => ?_)
  · exact Rk (g_fn q q h6) <| Rk (g_fn q q h6) <| Rk (g_fn q q h6) <| r_pickT (ABool true) q h6 q q <| Ra (ABool true) q q <| R0 <| Jt hΨ (Res_one q) q q
  exact Rm (I_ t0) q (g_f q q (bf h6)) <| Rm (I_ t1) q (g_f q q (bf h6)) <| r_lss q q (g_f q q (bf h6)) <| r_pickF (ABool (decide (t0 < t1))) q (bf h6) q q <| Ra (ABool (decide (t0 < t1))) q q <| R0 <| Jt hΨ (Res_one q) q q
theorem k_slices_isNaN_int (t0 : Int) (r : Bool) (hr : slices_isNaN_int t0 = some r) : FnP PP 146 [I_ t0] (ABool r) := by
  refine FnP.of mixed_ Tryz.func146 q (n := 6) q (fun (r : Bool) => ABool r) nk_args NK.nk q hr fun X hΨ => ?_
  refine Jq q <| Ra (ABool false) q q <| R0 <| Jq q <| Rm (I_ t0) q q <| Rm (I_ t0) q q <| r_neq q q q <| Ra (ABool (decide (¬ (t0 = t0)))) q q ?_
  exact R0 <| Jt hΨ (Res_one q) q q
theorem k_slices_BinarySearch_int (t0 : (List Int)) (t1 : Int) (r : Int × Bool) (hr : slices_BinarySearch_int t0 t1 = some r) : FnP PP 87 [AL 1 c_i64 t0, I_ t1] (ATup [I_ r.1, ABool r.2]) := by
  refine FnP.of mixed_ Tryz.func87 q (n := 54) q (fun (r : Int × Bool) => ATup [I_ r.1, ABool r.2]) nk_args NK.nk q hr fun X hΨ => ?_
  refine Jq q <| Ra (I_ 0) q q <| Ra (ABool false) q q <| R0 <| Jq q <| Rm (AL 1 c_i64 t0) q q <| r_len (cc := c_i64) il_22 q q <| Ra (I_ (t0.length : Int)) q q ?_
  refine R0 <| Jq q <| Rm (I_ (t0.length : Int)) q q <| Ra (I_ 0) q q <| Ra (I_ (t0.length : Int)) q q <| R0 <| Js <| J_block <| J_to [(0, AL 1 c_i64 t0), (1, I_ t1), (6, I_ (t0.length : Int)), (7, I_ 0), (8, I_ (t0.length : Int))] (.cons q (.cons q (.cons q (.cons q (.cons q .nil))))) ?_
  refine J_it (fun x1 => ⟨fr [(0, AL 1 c_i64 t0), (1, I_ t1), (6, I_ (t0.length : Int)), (7, I_ x1.1), (8, I_ x1.2)], fun _ => none, 0⟩) (fun E2 hE2 x1 => ?_) (by rfl)
  refine Js <| Jq q <| Rm (I_ x1.1) q q <| Rm (I_ x1.2) q q <| r_lss q q q <| R0 <| J_cond_p q (fun h20 => ?_) (fun h20 => ?_)
  · refine J_skip <| J_block <| Jq q <| Rm (I_ x1.1) q q <| Rm (I_ x1.2) q q <| R_bind fun b21 h22 => r_add b21 q q (Option.some.inj h22) q <| R_bind fun b23 h24 => r_convW b23 us_3 ut_201 q (Option.some.inj h24) q ?_
    refine R_bind fun b25 h26 => r_shr b25 q q (by decide) (Option.some.inj h26) q <| R_bind fun b27 h28 => r_convW b27 us_201 ut_3 q (Option.some.inj h28) q <| Ra (I_ b27) q q <| R0 <| Jq q <| Rm (AL 1 c_i64 t0) q q <| Rm (I_ b27) q q ?_
    refine R_if (fun h29 => ?_) (fun _ => R_none)
    refine r_ix (cc := c_i64) el_22 q q h29.1 h29.2 q <| r_ld (I_ (nth t0 b27)) sc_3 q q q <| Rm (I_ t1) q q <| R_bind fun b30 h31 => r_call _ fn_145 (k_cmp_Less_int _ _ _ h31) q q <| R0 ?_
    apply J_joinA (fun v35 => ⟨fr [(0, AL 1 c_i64 t0), (1, I_ t1), (6, I_ (t0.length : Int)), (7, I_ v35.1), (8, I_ v35.2), (9, I_ b27), (13, I_ x1.1), (14, I_ x1.2), (16, I_ x1.1), (17, I_ x1.2), (21, I_ b27), (23, I_ b27)], fun _ => none, 0⟩) (fun v35 => slices_BinarySearch_int_j35 v35)
    · intro K36
      refine J_cond q (fun h32 => ?_) (fun h32 => ?_)
      rotate_left
      · exact Jr q <| Rm (I_ b27) q q <| Ra (I_ b27) q q <| R0 <| J_to [(0, AL 1 c_i64 t0), (1, I_ t1), (6, I_ (t0.length : Int)), (7, I_ x1.1), (8, I_ b27), (9, I_ b27), (13, I_ x1.1), (14, I_ x1.2), (16, I_ x1.1), (17, I_ x1.2), (21, I_ b27), (23, I_ b27)] (.cons q (.cons q (.cons q (.cons q (.cons q (.cons q (.cons q (.cons q (.cons q (.cons q (.cons q (.cons q .nil)))))))))))) <| K36 (x1.1, b27)
      exact Jr q <| Rm (I_ b27) q q <| R_bind fun b33 h34 => r_add b33 q q (Option.some.inj h34) q <| Ra (I_ b33) q q <| R0 <| J_to [(0, AL 1 c_i64 t0), (1, I_ t1), (6, I_ (t0.length : Int)), (7, I_ b33), (8, I_ x1.2), (9, I_ b27), (13, I_ x1.1), (14, I_ x1.2), (16, I_ x1.1), (17, I_ x1.2), (21, I_ b27), (23, I_ b27)] (.cons q (.cons q (.cons q (.cons q (.cons q (.cons q (.cons q (.cons q (.cons q (.cons q (.cons q (.cons q .nil)))))))))))) <| K36 (b33, x1.2)
    intro v35
    exact J_inBlock <| J_go <| J_to [(0, AL 1 c_i64 t0), (1, I_ t1), (6, I_ (t0.length : Int)), (7, I_ v35.1), (8, I_ v35.2)] (.cons q (.cons q (.cons q (.cons q (.cons q .nil))))) <| hE2 (v35.1, v35.2)
  refine J_exit q <| J_out <| Jq q <| Rm (I_ x1.1) q q <| Rm (I_ x1.1) q q <| Rm (I_ (t0.length : Int)) q q <| r_lss q q q <| Rm (ABool (decide (x1.1 < (t0.length : Int)))) q q <| R_if (fun h37 => ?_) (fun h37 => ?_)
  rotate_left
  · refine Rk (g_tn q q (df h37)) <| Rk (g_tn q q (df h37)) <| Rk (g_tn q q (df h37)) <| Rk (g_tn q q (df h37)) <| Rk (g_tn q q (df h37)) <| Rk (g_tn q q (df h37)) <| Rk (g_tn q q (df h37)) <| Rk (g_u q q) <| Rk (g_u q q) <| Rk (g_u q q) ?_
    refine Rk (g_u q q) <| Rk (g_u q q) <| Rk (g_u q q) <| Rk (g_u q q) <| Rk (g_u q q) <| Rk (g_u q q) <| Rk (g_tn q q (df h37)) <| r_pickF (ABool false) q (df h37) q q <| Ra (I_ x1.1) q q <| Ra (ABool false) q q ?_
    exact R0 <| Jt hΨ (Res_many (As := [I_ x1.1, ABool false]) q q (.cons (.tmp (A := I_ x1.1) q) (.cons (.tmp (A := ABool false) q) .nil))) q q
  refine Rm (AL 1 c_i64 t0) q (g_t q q (dt h37)) <| Rm (I_ x1.1) q (g_t q q (dt h37)) <| R_if (fun h38 => ?_) (fun _ => R_none)
  refine r_ix (cc := c_i64) el_22 q q h38.1 h38.2 (g_t q q (dt h37)) <| r_ld (I_ (nth t0 x1.1)) sc_3 q q (g_t q q (dt h37)) <| Rm (I_ t1) q (g_t q q (dt h37)) <| r_eql q q (g_t q q (dt h37)) <| Rm (ABool (decide ((nth t0 x1.1) = t1))) q (g_t q q (dt h37)) <| R_if (fun h39 => ?_) (fun h39 => ?_)
  · refine Rk (g_fn q q (dt h39)) <| Rk (g_fn q q (dt h39)) <| Rk (g_fn q q (dt h39)) <| Rk (g_fn q q (dt h39)) <| Rk (g_fn q q (dt h39)) <| Rk (g_fn q q (dt h39)) <| Rk (g_u q q) <| Rk (g_u q q) <| Rk (g_fn q q (dt h39)) <| r_pickT (ABool true) q (dt h39) q (g_t q q (dt h37)) ?_
    exact r_pickT (ABool true) q (dt h37) q q <| Ra (I_ x1.1) q q <| Ra (ABool true) q q <| R0 <| Jt hΨ (Res_many (As := [I_ x1.1, ABool true]) q q (.cons (.tmp (A := I_ x1.1) q) (.cons (.tmp (A := ABool true) q) .nil))) q q
  refine Rm (AL 1 c_i64 t0) q (g_f q q (df h39)) <| Rm (I_ x1.1) q (g_f q q (df h39)) <| r_ix (cc := c_i64) el_22 q q h38.1 h38.2 (g_f q q (df h39)) <| r_ld (I_ (nth t0 x1.1)) sc_3 q q (g_f q q (df h39)) <| R_bind fun b40 h41 => r_call _ fn_146 (k_slices_isNaN_int _ _ h41) q (g_f q q (df h39)) <| Rm (ABool b40) q (g_f q q (df h39)) <| R_if (fun h42 => ?_) (fun h42 => ?_)
  rotate_left
  · exact Rk (g_tn q q (bf h42)) <| Rk (g_tn q q (bf h42)) <| r_pickF (ABool false) q (bf h42) q (g_f q q (df h39)) <| r_pickF (ABool false) q (df h39) q (g_t q q (dt h37)) <| r_pickT (ABool false) q (dt h37) q q <| Ra (I_ x1.1) q q <| Ra (ABool false) q q <| R0 <| Jt hΨ (Res_many (As := [I_ x1.1, ABool false]) q q (.cons (.tmp (A := I_ x1.1) q) (.cons (.tmp (A := ABool false) q) .nil))) q q
  exact Rm (I_ t1) q (g_t q q h42) <| R_bind fun b43 h44 => r_call _ fn_146 (k_slices_isNaN_int _ _ h44) q (g_t q q h42) <| r_pickT (ABool b43) q h42 q (g_f q q (df h39)) <| r_pickF (ABool b43) q (df h39) q (g_t q q (dt h37)) <| r_pickT (ABool b43) q (dt h37) q q <| Ra (I_ x1.1) q q <| Ra (ABool b43) q q <| R0 <| Jt hΨ (Res_many (As := [I_ x1.1, ABool b43]) q q (.cons (.tmp (A := I_ x1.1) q) (.cons (.tmp (A := ABool b43) q) .nil))) q q
theorem k_subgraph_has (t0 : (List Int)) (t1 : Int) (r : Bool) (hr : subgraph_has t0 t1 = some r) : FnP PP 198 [AL 1 c_i64 t0, I_ t1] (ABool r) := by
  refine FnP.of mixed_ Tryz.func198 q (n := 14) q (fun (r : Bool) => ABool r) nk_args NK.nk q hr fun X hΨ => ?_
  refine Jq q <| Ra (ABool false) q q <| R0 <| Jq q <| Rm (AL 1 c_i64 t0) q q <| Rm (I_ t1) q q <| R_bind fun b1 h2 => r_call _ fn_87 (k_slices_BinarySearch_int _ _ _ h2) q q ?_
  refine Rm (ATup [I_ b1.1, ABool b1.2]) q q <| r_ext (I_ b1.1) q q q <| r_ext (ABool b1.2) q q q <| Ra (I_ b1.1) q q <| Ra (ABool b1.2) q q <| R0 <| Jq q <| Rm (ABool b1.2) q q <| Ra (ABool b1.2) q q ?_
  exact R0 <| Jt hΨ (Res_one q) q q
theorem k_subgraph_part (t0 : api_Graph) (t1 : api_Part) (r : Int) (hr : subgraph_part t0 t1 = some r) : FnP PP 144 [AAgg (c_api_Graph t0), AAgg (c_api_Part t1)] (I_ r) := by
  refine FnP.of mixed_ Tryz.func144 q (n := 57) q (fun (r : Int) => I_ r) nk_args NK.nk q hr fun X hΨ => ?_
  refine Jq q <| r_boxV (AAgg (c_api_Graph t0)) q q <| r_boxV (AAgg (c_api_Part t1)) q q <| Ra (I_ 0) q q <| R0 <| Js <| Jq q <| r_faT ((cL 1 c_i64) t1.Nodes) fo_31_0 q q q ?_
  refine r_ld (AL 1 c_i64 t1.Nodes) sc_22 q q q <| r_faT ((cL 1 c_i64) t0.Nodes) fo_25_0 q q q <| r_ld (AL 1 c_i64 t0.Nodes) sc_22 q q q <| r_len (cc := c_i64) il_22 q q <| R_bind fun b1 h2 => r_call _ fn_197 (k_subgraph_list _ _ _ h2) q q <| Ra (I_ b1) q q <| R0 <| Jq q ?_
  refine Rm (I_ b1) q q <| r_neq q q q <| R0 <| J_cond_p q (fun h3 => ?_) (fun h3 => ?_)
  · exact Jq q <| Rm (I_ b1) q q <| Ra (I_ b1) q q <| R0 <| Jt hΨ (Res_one q) q q
  refine J_skip <| Js <| Jq q <| r_faT ((cL 1 c_i64) t1.Edges) fo_31_1 q q q <| r_ld (AL 1 c_i64 t1.Edges) sc_22 q q q <| r_faT ((cL 3 c_api_Edge) t0.Edges) fo_25_1 q q q <| r_ld (AL 3 c_api_Edge t0.Edges) sc_23 q q q <| r_len (cc := c_api_Edge) il_23 q q <| R_bind fun b4 h5 => ?_
  refine r_call _ fn_197 (k_subgraph_list _ _ _ h5) q q <| Ra (I_ b4) q q <| R0 <| Jq q <| Rm (I_ b4) q q <| r_neq q q q <| R0 <| J_cond_p q (fun h6 => ?_) (fun h6 => ?_)
  · exact Jq q <| Rm (I_ b4) q q <| Ra (I_ b4) q q <| R0 <| Jt hΨ (Res_one q) q q
  refine J_skip <| Js <| Jq q <| r_faT ((cL 1 c_i64) t1.Edges) fo_31_1 q q q <| r_ld (AL 1 c_i64 t1.Edges) sc_22 q q q <| r_len (cc := c_i64) il_22 q q <| Rm (I_ 0) q q <| R0 <| J_block ?_
  refine J_to [(2, APtr (c_api_Graph t0)), (3, APtr (c_api_Part t1)), (4, I_ 0), (5, I_ b1), (6, I_ b4), (14, I_ b1), (15, I_ b1), (23, I_ b4), (24, I_ b4), (28, AL 1 c_i64 t1.Edges), (29, I_ (t1.Edges.length : Int)), (30, I_ 0)] (.cons q (.cons q (.cons q (.cons q (.cons q (.cons q (.cons q (.cons q (.cons q (.cons q (.cons q (.cons q .nil)))))))))))) <| J_it (fun x7 => ⟨fr [(2, APtr (c_api_Graph t0)), (3, APtr (c_api_Part t1)), (4, I_ 0), (5, I_ b1), (6, I_ b4), (14, I_ b1), (15, I_ b1), (23, I_ b4), (24, I_ b4), (28, AL 1 c_i64 t1.Edges), (29, I_ (t1.Edges.length : Int)), (30, I_ x7)], fun _ => none, 0⟩) (fun E8 hE8 x7 => ?_) (by rfl)
  refine Jq q <| r_lss q q q <| R0 <| Js <| J_cond_p q (fun h18 => ?_) (fun h18 => ?_)
  rotate_left
  · exact J_exit q <| J_outS <| Jq q <| Ra (I_ 0) q q <| R0 <| Jt hΨ (Res_one q) q q
  refine J_skip <| Js <| J_block <| Jq q <| R_if (fun h19 => ?_) (fun _ => R_none)
  refine r_ix (cc := c_i64) el_22 q q h19.1 h19.2 q <| r_ld (I_ (nth t1.Edges x7)) sc_3 q q q <| Ra (I_ (nth t1.Edges x7)) q q <| R0 <| Js <| J_draw <| r_faT ((cL 1 c_i64) t1.Nodes) fo_31_0 q q q <| r_ld (AL 1 c_i64 t1.Nodes) sc_22 q q q <| r_faT ((cL 3 c_api_Edge) t0.Edges) fo_25_1 q q q <| r_ld (AL 3 c_api_Edge t0.Edges) sc_23 q q q ?_
  refine Rm (I_ (nth t1.Edges x7)) q q <| R_if (fun h20 => ?_) (fun _ => R_none)
  refine r_ix (cc := c_api_Edge) el_23 q q h20.1 h20.2 q <| r_faT (c_i64 ((nth t0.Edges (nth t1.Edges x7)).From)) fo_135_1 q q q <| r_ld (I_ ((nth t0.Edges (nth t1.Edges x7)).From)) sc_3 q q q <| R_bind fun b21 h22 => r_call _ fn_198 (k_subgraph_has _ _ _ h22) q q <| r_not q q <| Rm (ABool (!b21)) q q <| R_if (fun h23 => ?_) (fun h23 => ?_)
  · refine Rk (g_fn q q h23) <| Rk (g_fn q q h23) <| Rk (g_fn q q h23) <| Rk (g_fn q q h23) <| Rk (g_fn q q h23) <| Rk (g_fn q q h23) <| Rk (g_fn q q h23) <| Rk (g_fn q q h23) <| Rk (g_fn q q h23) <| Rk (g_fn q q h23) ?_
    exact r_pickT (ABool true) q h23 q q <| R_nilD (by kernel_rfl) <| J_cond_T q q <| Jq q <| Ra (I_ 14) q q <| R0 <| J_outS <| Jt hΨ (Res_one q) q q
  refine r_faT ((cL 1 c_i64) t1.Nodes) fo_31_0 q q (g_f q q (bf h23)) <| r_ld (AL 1 c_i64 t1.Nodes) sc_22 q q (g_f q q (bf h23)) <| r_faT ((cL 3 c_api_Edge) t0.Edges) fo_25_1 q q (g_f q q (bf h23)) <| r_ld (AL 3 c_api_Edge t0.Edges) sc_23 q q (g_f q q (bf h23)) <| Rm (I_ (nth t1.Edges x7)) q (g_f q q (bf h23)) <| r_ix (cc := c_api_Edge) el_23 q q h20.1 h20.2 (g_f q q (bf h23)) <| r_faT (c_i64 ((nth t0.Edges (nth t1.Edges x7)).To)) fo_135_2 q q (g_f q q (bf h23)) <| r_ld (I_ ((nth t0.Edges (nth t1.Edges x7)).To)) sc_3 q q (g_f q q (bf h23)) <| R_bind fun b24 h25 => r_call _ fn_198 (k_subgraph_has _ _ _ h25) q (g_f q q (bf h23)) ?_
  refine r_not q (g_f q q (bf h23)) <| r_pickF (ABool (!b24)) q (bf h23) q q <| R_nilD (by kernel_rfl) <| J_cond q (fun h26 => ?_) (fun h26 => ?_)
  · exact Jq q <| Ra (I_ 14) q q <| R0 <| J_outS <| Jt hΨ (Res_one q) q q
  refine J_skip <| J_inBlock <| J_range 29 (m := (t1.Edges.length : Int)) q fun q27 => J_range 30 (m := x7) q fun q28 => Jr q <| r_add (x7 + 1) q q (wrap_i64 (by omega) (by omega)) q <| Rm (I_ (x7 + 1)) q q <| R0 <| J_go <| J_to [(2, APtr (c_api_Graph t0)), (3, APtr (c_api_Part t1)), (4, I_ 0), (5, I_ b1), (6, I_ b4), (14, I_ b1), (15, I_ b1), (23, I_ b4), (24, I_ b4), (28, AL 1 c_i64 t1.Edges), (29, I_ (t1.Edges.length : Int)), (30, I_ (x7 + 1))] (.cons q (.cons q (.cons q (.cons q (.cons q (.cons q (.cons q (.cons q (.cons q (.cons q (.cons q (.cons q .nil)))))))))))) ?_
  exact hE8 (x7 + 1)
theorem k_subgraph_Valid (t0 : api_Graph) (t1 : api_Part) (r : Int) (hr : subgraph_Valid t0 t1 = some r) : FnP PP 86 [AAgg (c_api_Graph t0), AAgg (c_api_Part t1)] (I_ r) := by
  refine FnP.of mixed_ Tryz.func86 q (n := 14) q (fun (r : Int) => I_ r) nk_args NK.nk q hr fun X hΨ => ?_
  refine Jq q <| r_boxV (AAgg (c_api_Graph t0)) q q <| r_boxV (AAgg (c_api_Part t1)) q q <| Ra (I_ 0) q q <| R0 <| Js <| Jq q <| r_lda (c_api_Graph t0) ag_25 q q q q ?_
  refine R_bind fun b1 h2 => r_call _ fn_36 (k_graph_Valid _ _ h2) q q <| Ra (I_ b1) q q <| R0 <| Jq q <| Rm (I_ b1) q q <| r_neq q q q <| R0 <| J_cond_p q (fun h3 => ?_) (fun h3 => ?_)
  · exact Jq q <| Rm (I_ b1) q q <| Ra (I_ b1) q q <| R0 <| Jt hΨ (Res_one q) q q
  exact J_skip <| Jq q <| r_lda (c_api_Graph t0) ag_25 q q q q <| r_lda (c_api_Part t1) ag_31 q q q q <| R_bind fun b4 h5 => r_call _ fn_144 (k_subgraph_part _ _ _ h5) q q <| Ra (I_ b4) q q <| R0 <| Jt hΨ (Res_one q) q q
theorem k_subgraph_Extract (t0 : api_Graph) (t1 : api_Part) (r : api_Graph × api_Morphism × Int) (hr : subgraph_Extract t0 t1 = some r) : FnP PP 37 [AAgg (c_api_Graph t0), AAgg (c_api_Part t1)] (ATup [AAgg (c_api_Graph r.1), AAgg (c_api_Morphism r.2.1), I_ r.2.2]) := by
  refine FnP.of mixed_ Tryz.func37 q (n := 85) q (fun (r : api_Graph × api_Morphism × Int) => ATup [AAgg (c_api_Graph r.1), AAgg (c_api_Morphism r.2.1), I_ r.2.2]) nk_args NK.nk q hr fun X hΨ => ?_
  refine Jq q <| r_boxV (AAgg (c_api_Graph t0)) q q <| r_boxV (AAgg (c_api_Part t1)) q q <| r_alloc 0 _ z_25 q q <| r_alloc 1 _ z_32 q q <| Ra (I_ 0) q q <| R0 <| Js <| Js ?_
  refine Jr q <| r_lda (c_api_Graph t0) ag_25 q q q q <| r_lda (c_api_Part t1) ag_31 q q q q <| R_bind fun b1 h2 => r_call _ fn_86 (k_subgraph_Valid _ _ _ h2) q q <| Ra (I_ b1) q q <| R0 <| Jq q <| Rm (I_ b1) q q ?_
  refine r_neq q q q <| R0 <| J_cond_p q (fun h3 => ?_) (fun h3 => ?_)
  · exact Jq q <| r_buildI (Cs := [ANil, ANil]) (c_api_Graph (api_Graph.mk [] [])) pl_25 z_25 .nil q (.nl (.nl .nil)) q <| r_buildI (Cs := [ANil, ANil]) (c_api_Morphism (api_Morphism.mk [] [])) pl_32 z_32 .nil q (.nl (.nl .nil)) q <| Rm (I_ b1) q q <| r_stO (AObj 0) (AAgg (c_api_Graph (api_Graph.mk [] []))) (c_api_Graph (api_Graph.mk [] [])) sz_25 q .obj q q q q q q <| r_stO (AObj 1) (AAgg (c_api_Morphism (api_Morphism.mk [] []))) (c_api_Morphism (api_Morphism.mk [] [])) sz_32 q .obj q q q q q q <| Ra (I_ b1) q q <| R0 <| Jt hΨ (Res_many (As := [AAgg (c_api_Graph (api_Graph.mk [] [])), AAgg (c_api_Morphism (api_Morphism.mk [] [])), I_ b1]) q q (.cons (.boxA (cs := (c_api_Graph (api_Graph.mk [] []))) ag_25 q q q) (.cons (.boxA (cs := (c_api_Morphism (api_Morphism.mk [] []))) ag_32 q q q) (.cons (.tmp (A := I_ b1) q) .nil)))) q q
  refine J_skip <| Jq q <| r_alloc 2 _ z_25 q q <| R0 <| Js <| Jq q <| r_faT ((cL 1 c_i64) t1.Nodes) fo_31_0 q q q <| r_ld (AL 1 c_i64 t1.Nodes) sc_22 q q q ?_
  refine r_len (cc := c_i64) il_22 q q <| Rm (I_ 0) q q <| R0 <| J_block <| J_cv [] [] [3] 4 [(2, APtr (c_api_Graph t0)), (3, APtr (c_api_Part t1)), (4, AObj 0), (5, AObj 1), (6, I_ 0), (7, I_ b1), (8, AObj 2), (16, I_ b1), (17, I_ b1), (23, AL 1 c_i64 t1.Nodes), (24, I_ (t1.Nodes.length : Int)), (25, I_ 0)] [(0, .box 25 [ANil, ANil]), (1, .box 32 [ANil, ANil]), (2, .box 25 [AObj 3, ANil]), (3, .row 3 1 ([].map c_i64))] (.same q (.same q (.cons (A := AObj 0) q (.obj q q q) (.cons (A := AObj 1) q (.obj q q q) (.same q (.same q (.cons (A := AObj 2) q (.obj q q q) (.same q (.same q (.same q (.same q (.same q .nil)))))))))))) (.cons q q q q (.box (.cons .same (.cons .same .nil))) q q (.cons q q q q (.box (.cons .same (.cons .same .nil))) q q (.cons q q q q (.box (.cons (.nilobj q q) (.cons .same .nil))) q q (.new q q .nil)))) q q <| J_it (fun x4 => ⟨fr [(2, APtr (c_api_Graph t0)), (3, APtr (c_api_Part t1)), (4, AObj 0), (5, AObj 1), (6, I_ 0), (7, I_ b1), (8, AObj 2), (16, I_ b1), (17, I_ b1), (23, AL 1 c_i64 t1.Nodes), (24, I_ (t1.Nodes.length : Int)), (25, I_ x4.2)], hp [(0, .box 25 [ANil, ANil]), (1, .box 32 [ANil, ANil]), (2, .box 25 [AObj 3, ANil]), (3, .row 3 1 (x4.1.map c_i64))], 4⟩) (fun E5 hE5 x4 => ?_) (by rfl)
  refine Jq q <| r_lss q q q <| R0 <| Js <| J_cond_p q (fun h9 => ?_) (fun h9 => ?_)
  · refine J_skip <| Js <| J_block <| Jq q <| R_if (fun h10 => ?_) (fun _ => R_none)
    refine r_ix (cc := c_i64) el_22 q q h10.1 h10.2 q <| r_ld (I_ (nth t1.Nodes x4.2)) sc_3 q q q <| Ra (I_ (nth t1.Nodes x4.2)) q q <| R0 <| J_draw <| r_faO (AObj 2) 0 fo_25_0 q .obj q q q <| r_ldO (ABoxAt 2 0) (AObj 3) sc_22 q .at q q q <| r_faT ((cL 1 c_i64) t0.Nodes) fo_25_0 q q q <| r_ld (AL 1 c_i64 t0.Nodes) sc_22 q q q <| Rm (I_ (nth t1.Nodes x4.2)) q q ?_
    refine R_if (fun h11 => ?_) (fun _ => R_none)
    refine r_ix (cc := c_i64) el_22 q q h11.1 h11.2 q <| r_ld (I_ (nth t0.Nodes (nth t1.Nodes x4.2))) sc_3 q q q <| r_bs (cc := c_i64) [(nth t0.Nodes (nth t1.Nodes x4.2))] el_22 zr_3_1 (.cons (A := I_ (nth t0.Nodes (nth t1.Nodes x4.2))) q q q .nil) q q q <| R_if (fun h12 => ?_) (fun _ => R_none)
    refine r_app (cc := c_i64) (xs := x4.1) (ys := [(nth t0.Nodes (nth t1.Nodes x4.2))]) 4 ap_22 q q q h12 q q q <| r_faO (AObj 2) 0 fo_25_0 q .obj q q q <| r_stO (ABoxAt 2 0) (AObj 4) [AObj 4, ANil] sz_22 q .at q q q q q q <| R_nilD (by kernel_rfl) <| J_inBlock <| J_range 24 (m := (t1.Nodes.length : Int)) q fun q13 => J_range 25 (m := x4.2) q fun q14 => Jr q <| r_add (x4.2 + 1) q q (wrap_i64 (by omega) (by omega)) q <| Rm (I_ (x4.2 + 1)) q q ?_
    exact R0 <| J_go <| J_cv [] [(3, 4)] [] 4 [(2, APtr (c_api_Graph t0)), (3, APtr (c_api_Part t1)), (4, AObj 0), (5, AObj 1), (6, I_ 0), (7, I_ b1), (8, AObj 2), (16, I_ b1), (17, I_ b1), (23, AL 1 c_i64 t1.Nodes), (24, I_ (t1.Nodes.length : Int)), (25, I_ (x4.2 + 1))] [(0, .box 25 [ANil, ANil]), (1, .box 32 [ANil, ANil]), (2, .box 25 [AObj 3, ANil]), (3, .row 3 1 ((x4.1 ++ [(nth t0.Nodes (nth t1.Nodes x4.2))]).map c_i64))] (.same q (.same q (.cons (A := AObj 0) q (.obj q q q) (.cons (A := AObj 1) q (.obj q q q) (.same q (.same q (.cons (A := AObj 2) q (.obj q q q) (.same q (.same q (.same q (.same q (.same q .nil)))))))))))) (.cons q q q q (.box (.cons .same (.cons .same .nil))) q q (.cons q q q q (.box (.cons .same (.cons .same .nil))) q q (.cons q q q q (.box (.cons (.obj q q q) (.cons .same .nil))) q q (.cons q q q q (.row (NKC.flat _ _)) q q .nil)))) q q <| hE5 ((x4.1 ++ [(nth t0.Nodes (nth t1.Nodes x4.2))]), x4.2 + 1)
  refine J_exit q <| J_out <| Js <| Jq q <| r_faT ((cL 1 c_i64) t1.Edges) fo_31_1 q q q <| r_ld (AL 1 c_i64 t1.Edges) sc_22 q q q <| r_len (cc := c_i64) il_22 q q <| Rm (I_ 0) q q <| R0 ?_
  refine J_block <| J_cv [] [] [4] 5 [(2, APtr (c_api_Graph t0)), (3, APtr (c_api_Part t1)), (4, AObj 0), (5, AObj 1), (6, I_ 0), (7, I_ b1), (8, AObj 2), (16, I_ b1), (17, I_ b1), (24, I_ (t1.Nodes.length : Int)), (25, I_ x4.2), (41, AL 1 c_i64 t1.Edges), (42, I_ (t1.Edges.length : Int)), (43, I_ 0)] [(0, .box 25 [ANil, ANil]), (1, .box 32 [ANil, ANil]), (2, .box 25 [AObj 3, AObj 4]), (3, .row 3 1 (x4.1.map c_i64)), (4, .row 135 3 ([].map c_api_Edge))] (.same q (.same q (.cons (A := AObj 0) q (.obj q q q) (.cons (A := AObj 1) q (.obj q q q) (.same q (.same q (.cons (A := AObj 2) q (.obj q q q) (.same q (.same q (.same q (.same q (.same q (.same q (.same q .nil)))))))))))))) (.cons q q q q (.box (.cons .same (.cons .same .nil))) q q (.cons q q q q (.box (.cons .same (.cons .same .nil))) q q (.cons q q q q (.box (.cons (.obj q q q) (.cons (.nilobj q q) .nil))) q q (.cons q q q q (.row (NKC.flat _ _)) q q (.new q q .nil))))) q q <| J_it (fun x15 => ⟨fr [(2, APtr (c_api_Graph t0)), (3, APtr (c_api_Part t1)), (4, AObj 0), (5, AObj 1), (6, I_ 0), (7, I_ b1), (8, AObj 2), (16, I_ b1), (17, I_ b1), (24, I_ (t1.Nodes.length : Int)), (25, I_ x4.2), (41, AL 1 c_i64 t1.Edges), (42, I_ (t1.Edges.length : Int)), (43, I_ x15.2)], hp [(0, .box 25 [ANil, ANil]), (1, .box 32 [ANil, ANil]), (2, .box 25 [AObj 3, AObj 4]), (3, .row 3 1 (x4.1.map c_i64)), (4, .row 135 3 (x15.1.map c_api_Edge))], 5⟩) (fun E16 hE16 x15 => ?_) (by rfl)
  refine Jq q <| r_lss q q q <| R0 <| Js <| J_cond_p q (fun h24 => ?_) (fun h24 => ?_)
  rotate_left
  · refine J_exit q <| J_out <| Js <| J_draw <| r_ldaO (AObj 2) [AObj 3, AObj 4] ag_25 q .obj q q q q <| r_faT ((cL 1 c_i64) t1.Nodes) fo_31_0 q q q <| r_ld (AL 1 c_i64 t1.Nodes) sc_22 q q q <| R_bind fun b34 h35 => r_call _ fn_88 (FnK.toP (r' := AL 1 c_i64 b34) (k_slices_Clone_int _ _ h35) (.frow q q (NKC.flat _ _))) q q <| r_faT ((cL 1 c_i64) t1.Edges) fo_31_1 q q q ?_
    exact r_ld (AL 1 c_i64 t1.Edges) sc_22 q q q <| R_bind fun b36 h37 => r_call _ fn_88 (FnK.toP (r' := AL 1 c_i64 b36) (k_slices_Clone_int _ _ h37) (.frow q q (NKC.flat _ _))) q q <| r_build (c_api_Morphism (api_Morphism.mk b34 b36)) pl_32 z_32 (.cons (A := AL 1 c_i64 b34) q po_32_0 q (.cons (A := AL 1 c_i64 b36) q po_32_1 q .nil)) q q <| r_stO (AObj 0) (AAgg [AObj 3, AObj 4]) [AObj 3, AObj 4] sz_25 q .obj q q q q q q <| r_stO (AObj 1) (AAgg (c_api_Morphism (api_Morphism.mk b34 b36))) (c_api_Morphism (api_Morphism.mk b34 b36)) sz_32 q .obj q q q q q q <| Ra (I_ 0) q q <| R_nilD (by kernel_rfl) <| J_retF hΨ (Res_many (As := [AAgg [AObj 3, AObj 4], AAgg (c_api_Morphism (api_Morphism.mk b34 b36)), I_ 0]) q q (.cons (.boxA (cs := [AObj 3, AObj 4]) ag_25 q q q) (.cons (.boxA (cs := (c_api_Morphism (api_Morphism.mk b34 b36))) ag_32 q q q) (.cons (.tmp (A := I_ 0) q) .nil)))) (fun y hy => by cases hy; exact (.tup (.cons (.agg (.cons (.frow q q (NKC.flat _ _)) (.cons (.frow q q (NKC.flat _ _)) .nil))) (.cons .same (.cons .same .nil)))))
  refine J_skip <| Js <| J_block <| Jq q <| R_if (fun h25 => ?_) (fun _ => R_none)
  refine r_ix (cc := c_i64) el_22 q q h25.1 h25.2 q <| r_ld (I_ (nth t1.Edges x15.2)) sc_3 q q q <| Ra (I_ (nth t1.Edges x15.2)) q q <| R0 <| Jq q <| r_faT ((cL 3 c_api_Edge) t0.Edges) fo_25_1 q q q <| r_ld (AL 3 c_api_Edge t0.Edges) sc_23 q q q <| Rm (I_ (nth t1.Edges x15.2)) q q <| R_if (fun h26 => ?_) (fun _ => R_none)
  refine r_ix (cc := c_api_Edge) el_23 q q h26.1 h26.2 q <| r_lda (c_api_Edge (nth t0.Edges (nth t1.Edges x15.2))) ag_135 q q q q <| r_alloc 5 _ z_135 q q <| r_stO (AObj 5) (AAgg (c_api_Edge (nth t0.Edges (nth t1.Edges x15.2)))) (c_api_Edge (nth t0.Edges (nth t1.Edges x15.2))) sz_135 q .obj q q q q q q <| R0 <| Jq q <| r_faT ((cL 1 c_i64) t1.Nodes) fo_31_0 q q q <| r_ld (AL 1 c_i64 t1.Nodes) sc_22 q q q <| r_faO (AObj 5) 1 fo_135_1 q .obj q q q ?_
  refine r_ldO (ABoxAt 5 1) (I_ ((nth t0.Edges (nth t1.Edges x15.2)).From)) sc_3 q .at q q q <| R_bind fun b27 h28 => r_call _ fn_87 (k_slices_BinarySearch_int _ _ _ h28) q q <| Rm (ATup [I_ b27.1, ABool b27.2]) q q <| r_ext (I_ b27.1) q q q <| r_ext (ABool b27.2) q q q <| r_faO (AObj 5) 1 fo_135_1 q .obj q q q <| r_stO (ABoxAt 5 1) (I_ b27.1) (c_api_Edge (api_Edge.mk ((nth t0.Edges (nth t1.Edges x15.2)).Type_) b27.1 ((nth t0.Edges (nth t1.Edges x15.2)).To))) sz_3 q .at q q q q q q <| R0 <| Js ?_
  refine Jr q <| r_faT ((cL 1 c_i64) t1.Nodes) fo_31_0 q q q <| r_ld (AL 1 c_i64 t1.Nodes) sc_22 q q q <| r_faO (AObj 5) 2 fo_135_2 q .obj q q q <| r_ldO (ABoxAt 5 2) (I_ ((nth t0.Edges (nth t1.Edges x15.2)).To)) sc_3 q .at q q q <| R_bind fun b29 h30 => r_call _ fn_87 (k_slices_BinarySearch_int _ _ _ h30) q q <| Rm (ATup [I_ b29.1, ABool b29.2]) q q <| r_ext (I_ b29.1) q q q <| r_ext (ABool b29.2) q q q ?_
  refine r_faO (AObj 5) 2 fo_135_2 q .obj q q q <| r_stO (ABoxAt 5 2) (I_ b29.1) (c_api_Edge (api_Edge.mk ((nth t0.Edges (nth t1.Edges x15.2)).Type_) b27.1 b29.1)) sz_3 q .at q q q q q q <| R0 <| Jr q <| r_faO (AObj 2) 1 fo_25_1 q .obj q q q <| r_ldO (ABoxAt 2 1) (AObj 4) sc_23 q .at q q q <| r_ldaO (AObj 5) (c_api_Edge (api_Edge.mk ((nth t0.Edges (nth t1.Edges x15.2)).Type_) b27.1 b29.1)) ag_135 q .obj q q q q <| r_bs (cc := c_api_Edge) [(api_Edge.mk ((nth t0.Edges (nth t1.Edges x15.2)).Type_) b27.1 b29.1)] el_23 zr_135_1 (.cons (A := AAgg (c_api_Edge (api_Edge.mk ((nth t0.Edges (nth t1.Edges x15.2)).Type_) b27.1 b29.1))) q q q .nil) q q q <| R_if (fun h31 => ?_) (fun _ => R_none)
  refine r_app (cc := c_api_Edge) (xs := x15.1) (ys := [(api_Edge.mk ((nth t0.Edges (nth t1.Edges x15.2)).Type_) b27.1 b29.1)]) 6 ap_23 q q q h31 q q q <| r_faO (AObj 2) 1 fo_25_1 q .obj q q q <| r_stO (ABoxAt 2 1) (AObj 6) [AObj 3, AObj 6] sz_23 q .at q q q q q q <| R0 <| J_inBlock <| J_range 42 (m := (t1.Edges.length : Int)) q fun q32 => J_range 43 (m := x15.2) q fun q33 => Jr q <| r_add (x15.2 + 1) q q (wrap_i64 (by omega) (by omega)) q <| Rm (I_ (x15.2 + 1)) q q ?_
  exact R0 <| J_go <| J_cv [] [(4, 6)] [] 5 [(2, APtr (c_api_Graph t0)), (3, APtr (c_api_Part t1)), (4, AObj 0), (5, AObj 1), (6, I_ 0), (7, I_ b1), (8, AObj 2), (16, I_ b1), (17, I_ b1), (24, I_ (t1.Nodes.length : Int)), (25, I_ x4.2), (41, AL 1 c_i64 t1.Edges), (42, I_ (t1.Edges.length : Int)), (43, I_ (x15.2 + 1))] [(0, .box 25 [ANil, ANil]), (1, .box 32 [ANil, ANil]), (2, .box 25 [AObj 3, AObj 4]), (3, .row 3 1 (x4.1.map c_i64)), (4, .row 135 3 ((x15.1 ++ [(api_Edge.mk ((nth t0.Edges (nth t1.Edges x15.2)).Type_) b27.1 b29.1)]).map c_api_Edge))] (.same q (.same q (.cons (A := AObj 0) q (.obj q q q) (.cons (A := AObj 1) q (.obj q q q) (.same q (.same q (.cons (A := AObj 2) q (.obj q q q) (.same q (.same q (.same q (.same q (.same q (.same q (.same q .nil)))))))))))))) (.cons q q q q (.box (.cons .same (.cons .same .nil))) q q (.cons q q q q (.box (.cons .same (.cons .same .nil))) q q (.cons q q q q (.box (.cons (.obj q q q) (.cons (.obj q q q) .nil))) q q (.cons q q q q (.row (NKC.flat _ _)) q q (.cons q q q q (.row (NKC.flat _ _)) q q .nil))))) q q <| hE16 ((x15.1 ++ [(api_Edge.mk ((nth t0.Edges (nth t1.Edges x15.2)).Type_) b27.1 b29.1)]), x15.2 + 1)
end Go.Proofs.YtpnfoacmgfklaaaGreat.K
