/- Each function computes what its plain form says. -/
import Derived.Test.YtpnfoacmgfklaaaGreatWalk0
set_option linter.unusedVariables false
set_option linter.unusedSimpArgs false
namespace Go.Proofs.YtpnfoacmgfklaaaGreat.K
open Go.RowKit Go.Proofs
set_option maxHeartbeats 4000000
set_option maxRecDepth 100000
theorem k_attribute_Valid (t0 : api_Types) (t1 : api_Pattern) (r : Int) (hr : attribute_Valid t0 t1 = some r) : FnP PP 69 [AAgg (c_api_Types t0), AAgg (c_api_Pattern t1)] (I_ r) := by
  refine FnP.of mixed_ Tryz.func69 rfl (n := 110) rfl (fun (r : Int) => I_ r) nk_args NK.nk rfl hr fun X hΨ => ?_
  refine J_seq ?_
  refine J_region rfl ?_
  refine r_boxV (AAgg (c_api_Types t0)) rfl rfl ?_
  refine r_boxV (AAgg (c_api_Pattern t1)) rfl rfl ?_
  refine r_assign (I_ 0) rfl rfl ?_
  refine R_nil0 ?_
  refine J_seq ?_
  refine J_seq ?_
  refine J_region rfl ?_
  refine r_lda (c_api_Types t0) ag_59 rfl rfl rfl rfl ?_
  refine R_bind fun b1 h2 => ?_
  refine r_call _ fn_67 (k_types_Valid _ _ h2) rfl rfl ?_
  refine r_move (ATup [AStr b1.1, I_ b1.2]) rfl rfl ?_
  refine r_ext (AStr b1.1) rfl rfl rfl ?_
  refine r_ext (I_ b1.2) rfl rfl rfl ?_
  refine r_assign (AStr b1.1) rfl rfl ?_
  refine r_assign (I_ b1.2) rfl rfl ?_
  refine R_nil0 ?_
  refine J_seq ?_
  refine J_region rfl ?_
  refine r_move (I_ b1.2) rfl rfl ?_
  refine r_neq rfl rfl rfl ?_
  refine R_nil0 ?_
  refine J_cond_p rfl (fun h3 => ?_) (fun h3 => ?_)
  · refine J_seq ?_
    refine J_region rfl ?_
    refine r_move (I_ b1.2) rfl rfl ?_
    refine r_assign (I_ b1.2) rfl rfl ?_
    refine R_nil0 ?_
    exact J_ret hΨ (Res_one rfl) (fun y hy => by cases hy; rfl)
  refine J_skip ?_
  refine J_seq ?_
  refine J_seq ?_
  refine J_region rfl ?_
  refine r_faT (c_api_Graph t1.Graph) fo_29_0 rfl rfl rfl ?_
  refine r_lda (c_api_Graph t1.Graph) ag_25 rfl rfl rfl rfl ?_
  refine R_bind fun b4 h5 => ?_
  refine r_call _ fn_36 (k_graph_Valid _ _ h5) rfl rfl ?_
  refine r_assign (I_ b4) rfl rfl ?_
  refine R_nil0 ?_
  refine J_seq ?_
  refine J_region rfl ?_
  refine r_move (I_ b4) rfl rfl ?_
  refine r_neq rfl rfl rfl ?_
  refine R_nil0 ?_
  refine J_cond_p rfl (fun h6 => ?_) (fun h6 => ?_)
  · refine J_seq ?_
    refine J_region rfl ?_
    refine r_move (I_ b4) rfl rfl ?_
    refine r_assign (I_ b4) rfl rfl ?_
    refine R_nil0 ?_
    exact J_ret hΨ (Res_one rfl) (fun y hy => by cases hy; rfl)
  refine J_skip ?_
  refine J_seq ?_
  refine J_seq ?_
  refine J_region rfl ?_
  refine r_faT (c_api_Graph t1.Graph) fo_29_0 rfl rfl rfl ?_
  refine r_faT ((cL 1 c_i64) t1.Graph.Nodes) fo_25_0 rfl rfl rfl ?_
  refine r_ld (AL 1 c_i64 t1.Graph.Nodes) sc_22 rfl rfl rfl ?_
  refine r_mkFn [APtr (c_api_Types t0)] (fun x => [I_ x]) (fun y => ABool y) (fun x => attribute_Valid_1 x t0) fn_127 rfl (fun x y h => k_attribute_Valid_1 x t0 y h) rfl ?_
  refine R_bind fun b7 h8 => ?_
  refine r_call _ fn_80 (k_slices_ContainsFunc_int _ _ _ h8) rfl rfl ?_
  refine r_move (ABool b7) rfl rfl ?_
  refine R_if (fun h9 => ?_) (fun h9 => ?_)
  · refine R_skip (g_fn rfl rfl h9) ?_
    refine R_skip (g_fn rfl rfl h9) ?_
    refine R_skip (g_fn rfl rfl h9) ?_
    refine R_skip (g_fn rfl rfl h9) ?_
    refine R_skip (g_fn rfl rfl h9) ?_
    refine r_pickT (ABool true) rfl h9 rfl rfl ?_
    refine R_nil0 ?_
    refine J_cond_T rfl rfl ?_
    refine J_seq ?_
    refine J_region rfl ?_
    refine r_assign (I_ 13) rfl rfl ?_
    refine R_nil0 ?_
    exact J_ret hΨ (Res_one rfl) (fun y hy => by cases hy; rfl)
  refine r_faT (c_api_Graph t1.Graph) fo_29_0 rfl rfl (g_f rfl rfl (bf h9)) ?_
  refine r_faT ((cL 3 c_api_Edge) t1.Graph.Edges) fo_25_1 rfl rfl (g_f rfl rfl (bf h9)) ?_
  refine r_ld (AL 3 c_api_Edge t1.Graph.Edges) sc_23 rfl rfl (g_f rfl rfl (bf h9)) ?_
  refine r_mkFn [APtr (c_api_Types t0)] (fun x => [AAgg (c_api_Edge x)]) (fun y => ABool y) (fun x => attribute_Valid_2 x t0) fn_128 rfl (fun x y h => k_attribute_Valid_2 x t0 y h) (g_f rfl rfl (bf h9)) ?_
  refine R_bind fun b10 h11 => ?_
  refine r_call _ fn_83 (k_slices_ContainsFunc_api_Edge _ _ _ h11) rfl (g_f rfl rfl (bf h9)) ?_
  refine r_pickF (ABool b10) rfl (bf h9) rfl rfl ?_
  refine R_nil0 ?_
  refine J_cond rfl (fun h12 => ?_) (fun h12 => ?_)
  · refine J_seq ?_
    refine J_region rfl ?_
    refine r_assign (I_ 13) rfl rfl ?_
    refine R_nil0 ?_
    exact J_ret hΨ (Res_one rfl) (fun y hy => by cases hy; rfl)
  refine J_skip ?_
  refine J_seq ?_
  refine J_seq ?_
  refine J_region rfl ?_
  refine r_faT (c_i64 t1.Vars) fo_29_2 rfl rfl rfl ?_
  refine r_ld (I_ t1.Vars) sc_3 rfl rfl rfl ?_
  refine R_bind fun b13 h14 => ?_
  refine r_call _ fn_129 (k_attribute_within _ _ _ _ h14) rfl rfl ?_
  refine r_not rfl rfl ?_
  refine R_nil0 ?_
  refine J_cond rfl (fun h15 => ?_) (fun h15 => ?_)
  · refine J_seq ?_
    refine J_region rfl ?_
    refine r_assign (I_ 6) rfl rfl ?_
    refine R_nil0 ?_
    exact J_ret hΨ (Res_one rfl) (fun y hy => by cases hy; rfl)
  refine J_skip ?_
  refine J_seq ?_
  refine J_seq ?_
  refine J_region rfl ?_
  refine r_faT ((cL 4 c_api_Slot) t1.Slots) fo_29_1 rfl rfl rfl ?_
  refine r_ld (AL 4 c_api_Slot t1.Slots) sc_26 rfl rfl rfl ?_
  refine r_len (cc := c_api_Slot) il_26 rfl rfl ?_
  refine r_gtr rfl rfl rfl ?_
  refine r_move (ABool (decide (10 < (t1.Slots.length : Int)))) rfl rfl ?_
  refine R_if (fun h16 => ?_) (fun h16 => ?_)
  · refine R_skip (g_fn rfl rfl (dt h16)) ?_
    refine R_skip (g_fn rfl rfl (dt h16)) ?_
    refine R_skip (g_fn rfl rfl (dt h16)) ?_
    refine R_skip (g_fn rfl rfl (dt h16)) ?_
    refine r_pickT (ABool true) rfl (dt h16) rfl rfl ?_
    refine R_nil0 ?_
    refine J_cond_T rfl rfl ?_
    refine J_seq ?_
    refine J_region rfl ?_
    refine r_assign (I_ 3) rfl rfl ?_
    refine R_nil0 ?_
    exact J_ret hΨ (Res_one rfl) (fun y hy => by cases hy; rfl)
  refine r_faT ((cL 5 c_api_Test) t1.Tests) fo_29_3 rfl rfl (g_f rfl rfl (df h16)) ?_
  refine r_ld (AL 5 c_api_Test t1.Tests) sc_27 rfl rfl (g_f rfl rfl (df h16)) ?_
  refine r_len (cc := c_api_Test) il_27 rfl (g_f rfl rfl (df h16)) ?_
  refine r_gtr rfl rfl (g_f rfl rfl (df h16)) ?_
  refine r_pickF (ABool (decide (10 < (t1.Tests.length : Int)))) rfl (df h16) rfl rfl ?_
  refine R_nil0 ?_
  refine J_cond_p rfl (fun h17 => ?_) (fun h17 => ?_)
  · refine J_seq ?_
    refine J_region rfl ?_
    refine r_assign (I_ 3) rfl rfl ?_
    refine R_nil0 ?_
    exact J_ret hΨ (Res_one rfl) (fun y hy => by cases hy; rfl)
  refine J_skip ?_
  refine J_seq ?_
  refine J_region rfl ?_
  refine r_faT (c_i64 t1.Vars) fo_29_2 rfl rfl rfl ?_
  refine r_ld (I_ t1.Vars) sc_3 rfl rfl rfl ?_
  refine R_if (fun h18 => ?_) (fun _ => R_none)
  refine r_make (cc := c_bool) 0 false ap_170 z_4 rfl rfl h18.1 h18.2 rfl rfl ?_
  refine r_assign (AObj 0) rfl rfl ?_
  refine R_nil0 ?_
  refine J_seq ?_
  refine J_seq ?_
  refine J_region rfl ?_
  refine r_faT ((cL 4 c_api_Slot) t1.Slots) fo_29_1 rfl rfl rfl ?_
  refine r_ld (AL 4 c_api_Slot t1.Slots) sc_26 rfl rfl rfl ?_
  refine r_len (cc := c_api_Slot) il_26 rfl rfl ?_
  refine r_move (I_ 0) rfl rfl ?_
  refine R_nil0 ?_
  refine J_block ?_
  refine J_cv [] [] [] 1 [(2, APtr (c_api_Types t0)), (3, APtr (c_api_Pattern t1)), (4, I_ 0), (6, I_ b1.2), (7, I_ b4), (8, AObj 0), (18, I_ b1.2), (19, I_ b1.2), (24, I_ b4), (25, I_ b4), (41, I_ t1.Vars), (46, I_ (t1.Slots.length : Int)), (51, I_ (t1.Tests.length : Int)), (55, I_ t1.Vars), (58, AL 4 c_api_Slot t1.Slots), (59, I_ (t1.Slots.length : Int)), (60, I_ 0)] [(0, .row 4 1 ((List.replicate t1.Vars.toNat false).map c_bool))] (.same rfl (.same rfl (.same rfl (.same rfl (.same rfl (.cons (A := AObj 0) rfl (.obj rfl rfl rfl) (.same rfl (.same rfl (.same rfl (.same rfl (.same rfl (.same rfl (.same rfl (.same rfl (.same rfl (.same rfl (.same rfl .nil))))))))))))))))) (.cons rfl rfl rfl rfl (.row (NKC.flat _ _)) rfl rfl .nil) rfl rfl ?_
  refine J_it (fun x19 => ⟨fr [(2, APtr (c_api_Types t0)), (3, APtr (c_api_Pattern t1)), (4, I_ 0), (6, I_ b1.2), (7, I_ b4), (8, AObj 0), (18, I_ b1.2), (19, I_ b1.2), (24, I_ b4), (25, I_ b4), (41, I_ t1.Vars), (46, I_ (t1.Slots.length : Int)), (51, I_ (t1.Tests.length : Int)), (55, I_ t1.Vars), (58, AL 4 c_api_Slot t1.Slots), (59, I_ (t1.Slots.length : Int)), (60, I_ x19.2)], hp [(0, .row 4 1 (x19.1.map c_bool))], 1⟩) (fun E20 hE20 x19 => ?_) (by rfl)
  refine J_seq ?_
  refine J_region rfl ?_
  refine r_lss rfl rfl rfl ?_
  refine R_nil0 ?_
  refine J_seq ?_
  refine J_cond_p rfl (fun h38 => ?_) (fun h38 => ?_)
  rotate_left
  · refine J_exit rfl ?_
    refine J_out ?_
    refine J_seq ?_
    refine J_seq ?_
    refine J_region rfl ?_
    refine r_faT (c_i64 t1.Vars) fo_29_2 rfl rfl rfl ?_
    refine r_ld (I_ t1.Vars) sc_3 rfl rfl rfl ?_
    refine r_faT ((cL 5 c_api_Test) t1.Tests) fo_29_3 rfl rfl rfl ?_
    refine r_ld (AL 5 c_api_Test t1.Tests) sc_27 rfl rfl rfl ?_
    refine R_bind fun b57 h58 => ?_
    refine r_call _ fn_131 (k_difference_Valid _ _ _ h58) rfl rfl ?_
    refine r_assign (I_ b57) rfl rfl ?_
    refine R_nil0 ?_
    refine J_seq ?_
    refine J_region rfl ?_
    refine r_move (I_ b57) rfl rfl ?_
    refine r_neq rfl rfl rfl ?_
    refine R_nil0 ?_
    refine J_cond_p rfl (fun h59 => ?_) (fun h59 => ?_)
    · refine J_seq ?_
      refine J_region rfl ?_
      refine r_move (I_ b57) rfl rfl ?_
      refine r_assign (I_ b57) rfl rfl ?_
      refine R_nil0 ?_
      exact J_ret hΨ (Res_one rfl) (fun y hy => by cases hy; rfl)
    refine J_skip ?_
    refine J_seq ?_
    refine J_seq ?_
    refine J_region rfl ?_
    refine r_move (AObj 0) rfl rfl ?_
    refine R_bind fun b60 h61 => ?_
    refine r_callB [(0, .row 4 1 (x19.1.map c_bool))] [AObj 0, ABool false] fn_132 (k_slices_Contains_bool _ _ _ h61) (.cons rfl .nil) rfl (.cons (.frow rfl rfl (NKC.flat _ _)) (.cons .same .nil)) rfl ?_
    refine R_nil0 ?_
    refine J_cond rfl (fun h62 => ?_) (fun h62 => ?_)
    · refine J_seq ?_
      refine J_region rfl ?_
      refine r_assign (I_ 9) rfl rfl ?_
      refine R_nil0 ?_
      exact J_ret hΨ (Res_one rfl) (fun y hy => by cases hy; rfl)
    refine J_skip ?_
    refine J_seq ?_
    refine J_region rfl ?_
    refine r_assign (I_ 0) rfl rfl ?_
    refine R_nil0 ?_
    exact J_ret hΨ (Res_one rfl) (fun y hy => by cases hy; rfl)
  refine J_skip ?_
  refine J_seq ?_
  refine J_block ?_
  refine J_seq ?_
  refine J_region rfl ?_
  refine R_if (fun h39 => ?_) (fun _ => R_none)
  refine r_ix (cc := c_api_Slot) el_26 rfl rfl h39.1 h39.2 rfl ?_
  refine r_lda (c_api_Slot (nth t1.Slots x19.2)) ag_156 rfl rfl rfl rfl ?_
  refine r_alloc 1 _ z_156 rfl rfl ?_
  refine r_stO (AObj 1) (AAgg (c_api_Slot (nth t1.Slots x19.2))) (c_api_Slot (nth t1.Slots x19.2)) sz_156 rfl .obj rfl rfl rfl rfl rfl rfl ?_
  refine R_nil0 ?_
  refine J_seq ?_
  refine J_seq ?_
  refine J_region rfl ?_
  refine r_lda (c_api_Types t0) ag_59 rfl rfl rfl rfl ?_
  refine r_lda (c_api_Pattern t1) ag_29 rfl rfl rfl rfl ?_
  refine r_ldaO (AObj 1) (c_api_Slot (nth t1.Slots x19.2)) ag_156 rfl .obj rfl rfl rfl rfl ?_
  refine R_bind fun b40 h41 => ?_
  refine r_call _ fn_130 (k_attribute_attr _ _ _ _ h41) rfl rfl ?_
  refine r_move (ATup [AAgg (c_api_Attr b40.1), ABool b40.2]) rfl rfl ?_
  refine r_ext (AAgg (c_api_Attr b40.1)) rfl rfl rfl ?_
  refine r_ext (ABool b40.2) rfl rfl rfl ?_
  refine r_alloc 2 _ z_109 rfl rfl ?_
  refine r_stO (AObj 2) (AAgg (c_api_Attr b40.1)) (c_api_Attr b40.1) sz_109 rfl .obj rfl rfl rfl rfl rfl rfl ?_
  refine r_assign (ABool b40.2) rfl rfl ?_
  refine R_nil0 ?_
  refine J_seq ?_
  refine J_region rfl ?_
  refine r_move (ABool b40.2) rfl rfl ?_
  refine r_not rfl rfl ?_
  refine r_move (ABool (!b40.2)) rfl rfl ?_
  refine R_if (fun h42 => ?_) (fun h42 => ?_)
  · refine R_skip (g_fn rfl rfl h42) ?_
    refine R_skip (g_fn rfl rfl h42) ?_
    refine R_skip (g_fn rfl rfl h42) ?_
    refine R_skip (g_fn rfl rfl h42) ?_
    refine R_skip (g_fn rfl rfl h42) ?_
    refine R_skip (g_fn rfl rfl h42) ?_
    refine R_skip (g_fn rfl rfl h42) ?_
    refine R_skip (g_fn rfl rfl h42) ?_
    refine r_pickT (ABool true) rfl h42 rfl rfl ?_
    refine r_move (ABool true) rfl rfl ?_
    refine R_skip (g_fn rfl rfl rfl) ?_
    refine R_skip (g_fn rfl rfl rfl) ?_
    refine R_skip (g_fn rfl rfl rfl) ?_
    refine R_skip (g_fn rfl rfl rfl) ?_
    refine R_skip (g_fn rfl rfl rfl) ?_
    refine r_pickT (ABool true) rfl rfl rfl rfl ?_
    refine R_nil0 ?_
    refine J_cond_T rfl rfl ?_
    refine J_seq ?_
    refine J_region rfl ?_
    refine r_assign (I_ 6) rfl rfl ?_
    refine R_nil0 ?_
    refine J_outS ?_
    exact J_ret hΨ (Res_one rfl) (fun y hy => by cases hy; rfl)
  refine r_faO (AObj 1) 2 fo_156_2 rfl .obj rfl rfl (g_f rfl rfl (bf h42)) ?_
  refine r_faO (ABoxAt 1 2) 2 fo_154_0 rfl .at rfl rfl (g_f rfl rfl (bf h42)) ?_
  refine r_ldO (ABoxAt 1 2) (I_ (((nth t1.Slots x19.2).Term).Var)) sc_3 rfl .at rfl rfl (g_f rfl rfl (bf h42)) ?_
  refine r_faT (c_i64 t1.Vars) fo_29_2 rfl rfl (g_f rfl rfl (bf h42)) ?_
  refine r_ld (I_ t1.Vars) sc_3 rfl rfl (g_f rfl rfl (bf h42)) ?_
  refine R_bind fun b43 h44 => ?_
  refine r_sub b43 rfl rfl (Option.some.inj h44) (g_f rfl rfl (bf h42)) ?_
  refine R_bind fun b45 h46 => ?_
  refine r_call _ fn_129 (k_attribute_within _ _ _ _ h46) rfl (g_f rfl rfl (bf h42)) ?_
  refine r_not rfl (g_f rfl rfl (bf h42)) ?_
  refine r_pickF (ABool (!b45)) rfl (bf h42) rfl rfl ?_
  refine r_move (ABool (!b45)) rfl rfl ?_
  refine R_if (fun h47 => ?_) (fun h47 => ?_)
  · refine R_skip (g_fn rfl rfl h47) ?_
    refine R_skip (g_fn rfl rfl h47) ?_
    refine R_skip (g_fn rfl rfl h47) ?_
    refine R_skip (g_fn rfl rfl h47) ?_
    refine R_skip (g_fn rfl rfl h47) ?_
    refine r_pickT (ABool true) rfl h47 rfl rfl ?_
    refine R_nil0 ?_
    refine J_cond_T rfl rfl ?_
    refine J_seq ?_
    refine J_region rfl ?_
    refine r_assign (I_ 6) rfl rfl ?_
    refine R_nil0 ?_
    refine J_outS ?_
    exact J_ret hΨ (Res_one rfl) (fun y hy => by cases hy; rfl)
  refine r_faO (AObj 1) 2 fo_156_2 rfl .obj rfl rfl (g_f rfl rfl (bf h47)) ?_
  refine r_faO (ABoxAt 1 2) 3 fo_154_1 rfl .at rfl rfl (g_f rfl rfl (bf h47)) ?_
  refine r_ldO (ABoxAt 1 3) (I_ (((nth t1.Slots x19.2).Term).Add)) sc_3 rfl .at rfl rfl (g_f rfl rfl (bf h47)) ?_
  refine R_bind fun b48 h49 => ?_
  refine r_call _ fn_129 (k_attribute_within _ _ _ _ h49) rfl (g_f rfl rfl (bf h47)) ?_
  refine r_not rfl (g_f rfl rfl (bf h47)) ?_
  refine r_pickF (ABool (!b48)) rfl (bf h47) rfl rfl ?_
  refine R_nil0 ?_
  refine J_cond rfl (fun h50 => ?_) (fun h50 => ?_)
  · refine J_seq ?_
    refine J_region rfl ?_
    refine r_assign (I_ 6) rfl rfl ?_
    refine R_nil0 ?_
    refine J_outS ?_
    exact J_ret hΨ (Res_one rfl) (fun y hy => by cases hy; rfl)
  refine J_skip ?_
  refine J_seq ?_
  refine J_region rfl ?_
  refine r_faO (AObj 1) 2 fo_156_2 rfl .obj rfl rfl rfl ?_
  refine r_faO (ABoxAt 1 2) 2 fo_154_0 rfl .at rfl rfl rfl ?_
  refine r_ldO (ABoxAt 1 2) (I_ (((nth t1.Slots x19.2).Term).Var)) sc_3 rfl .at rfl rfl rfl ?_
  refine r_geq rfl rfl rfl ?_
  refine R_nil0 ?_
  apply J_joinA (fun v53 => ⟨fr [(2, APtr (c_api_Types t0)), (3, APtr (c_api_Pattern t1)), (4, I_ 0), (6, I_ b1.2), (7, I_ b4), (8, AObj 0), (18, I_ b1.2), (19, I_ b1.2), (24, I_ b4), (25, I_ b4), (41, I_ t1.Vars), (46, I_ (t1.Slots.length : Int)), (51, I_ (t1.Tests.length : Int)), (55, I_ t1.Vars), (58, AL 4 c_api_Slot t1.Slots), (59, I_ (t1.Slots.length : Int)), (60, I_ x19.2), (76, I_ (((nth t1.Slots x19.2).Term).Var)), (78, I_ t1.Vars), (92, I_ (((nth t1.Slots x19.2).Term).Var))], hp [(0, .row 4 1 (v53.map c_bool))], 1⟩) (fun v53 => attribute_Valid_j53 x19 v53)
  · intro K54
    refine J_cond_p rfl (fun h51 => ?_) (fun h51 => ?_)
    rotate_left
    · refine J_skip ?_
      refine J_cv [] [] [] 1 [(2, APtr (c_api_Types t0)), (3, APtr (c_api_Pattern t1)), (4, I_ 0), (6, I_ b1.2), (7, I_ b4), (8, AObj 0), (18, I_ b1.2), (19, I_ b1.2), (24, I_ b4), (25, I_ b4), (41, I_ t1.Vars), (46, I_ (t1.Slots.length : Int)), (51, I_ (t1.Tests.length : Int)), (55, I_ t1.Vars), (58, AL 4 c_api_Slot t1.Slots), (59, I_ (t1.Slots.length : Int)), (60, I_ x19.2), (76, I_ (((nth t1.Slots x19.2).Term).Var)), (78, I_ t1.Vars), (92, I_ (((nth t1.Slots x19.2).Term).Var))] [(0, .row 4 1 (x19.1.map c_bool))] (.same rfl (.same rfl (.same rfl (.same rfl (.same rfl (.cons (A := AObj 0) rfl (.obj rfl rfl rfl) (.same rfl (.same rfl (.same rfl (.same rfl (.same rfl (.same rfl (.same rfl (.same rfl (.same rfl (.same rfl (.same rfl (.same rfl (.same rfl (.same rfl .nil)))))))))))))))))))) (.cons rfl rfl rfl rfl (.row (NKC.flat _ _)) rfl rfl .nil) rfl rfl ?_
      exact K54 x19.1
    refine J_region rfl ?_
    refine r_move (AObj 0) rfl rfl ?_
    refine r_faO (AObj 1) 2 fo_156_2 rfl .obj rfl rfl rfl ?_
    refine r_faO (ABoxAt 1 2) 2 fo_154_0 rfl .at rfl rfl rfl ?_
    refine r_ldO (ABoxAt 1 2) (I_ (((nth t1.Slots x19.2).Term).Var)) sc_3 rfl .at rfl rfl rfl ?_
    refine R_if (fun h52 => ?_) (fun _ => R_none)
    refine r_ixO (cc := c_bool) el_170 rfl rfl rfl h52.1 h52.2 rfl ?_
    refine r_stR (cc := c_bool) (((nth t1.Slots x19.2).Term).Var) 0 (ABool true) true sz_4 rfl rfl rfl h52.1 h52.2 rfl rfl rfl rfl ?_
    refine R_nil0 ?_
    refine J_cv [] [] [] 1 [(2, APtr (c_api_Types t0)), (3, APtr (c_api_Pattern t1)), (4, I_ 0), (6, I_ b1.2), (7, I_ b4), (8, AObj 0), (18, I_ b1.2), (19, I_ b1.2), (24, I_ b4), (25, I_ b4), (41, I_ t1.Vars), (46, I_ (t1.Slots.length : Int)), (51, I_ (t1.Tests.length : Int)), (55, I_ t1.Vars), (58, AL 4 c_api_Slot t1.Slots), (59, I_ (t1.Slots.length : Int)), (60, I_ x19.2), (76, I_ (((nth t1.Slots x19.2).Term).Var)), (78, I_ t1.Vars), (92, I_ (((nth t1.Slots x19.2).Term).Var))] [(0, .row 4 1 ((x19.1.set (((nth t1.Slots x19.2).Term).Var).toNat true).map c_bool))] (.same rfl (.same rfl (.same rfl (.same rfl (.same rfl (.cons (A := AObj 0) rfl (.obj rfl rfl rfl) (.same rfl (.same rfl (.same rfl (.same rfl (.same rfl (.same rfl (.same rfl (.same rfl (.same rfl (.same rfl (.same rfl (.same rfl (.same rfl (.same rfl .nil)))))))))))))))))))) (.cons rfl rfl rfl rfl (.row (NKC.flat _ _)) rfl rfl .nil) rfl rfl ?_
    exact K54 (x19.1.set (((nth t1.Slots x19.2).Term).Var).toNat true)
  intro v53
  refine J_inBlock ?_
  refine J_range 46 (m := (t1.Slots.length : Int)) rfl fun q55 => ?_
  refine J_range 60 (m := x19.2) rfl fun q56 => ?_
  refine J_region rfl ?_
  refine r_add (x19.2 + 1) rfl rfl (wrap_i64 (by omega) (by omega)) rfl ?_
  refine r_move (I_ (x19.2 + 1)) rfl rfl ?_
  refine R_nil0 ?_
  refine J_go ?_
  refine J_cv [] [] [] 1 [(2, APtr (c_api_Types t0)), (3, APtr (c_api_Pattern t1)), (4, I_ 0), (6, I_ b1.2), (7, I_ b4), (8, AObj 0), (18, I_ b1.2), (19, I_ b1.2), (24, I_ b4), (25, I_ b4), (41, I_ t1.Vars), (46, I_ (t1.Slots.length : Int)), (51, I_ (t1.Tests.length : Int)), (55, I_ t1.Vars), (58, AL 4 c_api_Slot t1.Slots), (59, I_ (t1.Slots.length : Int)), (60, I_ (x19.2 + 1))] [(0, .row 4 1 (v53.map c_bool))] (.same rfl (.same rfl (.same rfl (.same rfl (.same rfl (.cons (A := AObj 0) rfl (.obj rfl rfl rfl) (.same rfl (.same rfl (.same rfl (.same rfl (.same rfl (.same rfl (.same rfl (.same rfl (.same rfl (.same rfl (.same rfl .nil))))))))))))))))) (.cons rfl rfl rfl rfl (.row (NKC.flat _ _)) rfl rfl .nil) rfl rfl ?_
  exact hE20 (v53, x19.2 + 1)
theorem k_rule_typed_1 (t0 : Int) (t1 : api_Types) (r : Bool) (hr : rule_typed_1 t0 t1 = some r) : FnP PP 184 [I_ t0, APtr (c_api_Types t1)] (ABool r) := by
  refine FnP.of mixed_ Tryz.func184 rfl (n := 9) rfl (fun (r : Bool) => ABool r) nk_args NK.nk rfl hr fun X hΨ => ?_
  refine J_seq ?_
  refine J_region rfl ?_
  refine r_assign (ABool false) rfl rfl ?_
  refine R_nil0 ?_
  refine J_seq ?_
  refine J_region rfl ?_
  refine r_move (I_ t0) rfl rfl ?_
  refine r_faT ((cL 4 c_api_NodeType) t1.Nodes) fo_59_0 rfl rfl rfl ?_
  refine r_ld (AL 4 c_api_NodeType t1.Nodes) sc_56 rfl rfl rfl ?_
  refine r_len (cc := c_api_NodeType) il_56 rfl rfl ?_
  refine r_geq rfl rfl rfl ?_
  refine r_assign (ABool (decide ((t1.Nodes.length : Int) ≤ t0))) rfl rfl ?_
  refine R_nil0 ?_
  exact J_ret hΨ (Res_one rfl) (fun y hy => by cases hy; rfl)
theorem k_rule_typed_2 (t0 : api_Edge) (t1 : api_Types) (r : Bool) (hr : rule_typed_2 t0 t1 = some r) : FnP PP 185 [AAgg (c_api_Edge t0), APtr (c_api_Types t1)] (ABool r) := by
  refine FnP.of mixed_ Tryz.func185 rfl (n := 10) rfl (fun (r : Bool) => ABool r) nk_args NK.nk rfl hr fun X hΨ => ?_
  refine J_seq ?_
  refine J_region rfl ?_
  refine r_boxV (AAgg (c_api_Edge t0)) rfl rfl ?_
  refine r_assign (ABool false) rfl rfl ?_
  refine R_nil0 ?_
  refine J_seq ?_
  refine J_region rfl ?_
  refine r_faT (c_i64 t0.Type_) fo_135_0 rfl rfl rfl ?_
  refine r_ld (I_ t0.Type_) sc_3 rfl rfl rfl ?_
  refine r_faT ((cL 7 c_api_EdgeType) t1.Edges) fo_59_1 rfl rfl rfl ?_
  refine r_ld (AL 7 c_api_EdgeType t1.Edges) sc_57 rfl rfl rfl ?_
  refine r_len (cc := c_api_EdgeType) il_57 rfl rfl ?_
  refine r_geq rfl rfl rfl ?_
  refine r_assign (ABool (decide ((t1.Edges.length : Int) ≤ t0.Type_))) rfl rfl ?_
  refine R_nil0 ?_
  exact J_ret hΨ (Res_one rfl) (fun y hy => by cases hy; rfl)
theorem k_rule_typed (t0 : api_Types) (t1 : api_Graph) (r : Bool) (hr : rule_typed t0 t1 = some r) : FnP PP 133 [AAgg (c_api_Types t0), AAgg (c_api_Graph t1)] (ABool r) := by
  refine FnP.of mixed_ Tryz.func133 rfl (n := 17) rfl (fun (r : Bool) => ABool r) nk_args NK.nk rfl hr fun X hΨ => ?_
  refine J_seq ?_
  refine J_region rfl ?_
  refine r_boxV (AAgg (c_api_Types t0)) rfl rfl ?_
  refine r_boxV (AAgg (c_api_Graph t1)) rfl rfl ?_
  refine r_assign (ABool false) rfl rfl ?_
  refine R_nil0 ?_
  refine J_seq ?_
  refine J_region rfl ?_
  refine r_faT ((cL 1 c_i64) t1.Nodes) fo_25_0 rfl rfl rfl ?_
  refine r_ld (AL 1 c_i64 t1.Nodes) sc_22 rfl rfl rfl ?_
  refine r_mkFn [APtr (c_api_Types t0)] (fun x => [I_ x]) (fun y => ABool y) (fun x => rule_typed_1 x t0) fn_184 rfl (fun x y h => k_rule_typed_1 x t0 y h) rfl ?_
  refine R_bind fun b1 h2 => ?_
  refine r_call _ fn_80 (k_slices_ContainsFunc_int _ _ _ h2) rfl rfl ?_
  refine r_not rfl rfl ?_
  refine r_move (ABool (!b1)) rfl rfl ?_
  refine R_if (fun h3 => ?_) (fun h3 => ?_)
  rotate_left
  · refine R_skip (g_tn rfl rfl (bf h3)) ?_
    refine R_skip (g_tn rfl rfl (bf h3)) ?_
    refine R_skip (g_tn rfl rfl (bf h3)) ?_
    refine R_skip (g_tn rfl rfl (bf h3)) ?_
    refine R_skip (g_tn rfl rfl (bf h3)) ?_
    refine r_pickF (ABool false) rfl (bf h3) rfl rfl ?_
    refine r_assign (ABool false) rfl rfl ?_
    refine R_nil0 ?_
    exact J_ret hΨ (Res_one rfl) (fun y hy => by cases hy; rfl)
  refine r_faT ((cL 3 c_api_Edge) t1.Edges) fo_25_1 rfl rfl (g_t rfl rfl h3) ?_
  refine r_ld (AL 3 c_api_Edge t1.Edges) sc_23 rfl rfl (g_t rfl rfl h3) ?_
  refine r_mkFn [APtr (c_api_Types t0)] (fun x => [AAgg (c_api_Edge x)]) (fun y => ABool y) (fun x => rule_typed_2 x t0) fn_185 rfl (fun x y h => k_rule_typed_2 x t0 y h) (g_t rfl rfl h3) ?_
  refine R_bind fun b4 h5 => ?_
  refine r_call _ fn_83 (k_slices_ContainsFunc_api_Edge _ _ _ h5) rfl (g_t rfl rfl h3) ?_
  refine r_not rfl (g_t rfl rfl h3) ?_
  refine r_pickT (ABool (!b4)) rfl h3 rfl rfl ?_
  refine r_assign (ABool (!b4)) rfl rfl ?_
  refine R_nil0 ?_
  exact J_ret hΨ (Res_one rfl) (fun y hy => by cases hy; rfl)
theorem k_slices_IndexFunc_api_Slot (t0 : (List api_Slot)) (t1 : (api_Slot → Option Bool)) (r : Int) (hr : slices_IndexFunc_api_Slot t0 t1 = some r) : FnP PP 242 [AL 4 c_api_Slot t0, AFn PP (fun x => [AAgg (c_api_Slot x)]) (fun y => ABool y) t1] (I_ r) := by
  refine FnP.of mixed_ Tryz.func242 rfl (n := 19) rfl (fun (r : Int) => I_ r) nk_args NK.nk rfl hr fun X hΨ => ?_
  refine J_seq ?_
  refine J_region rfl ?_
  refine r_assign (I_ 0) rfl rfl ?_
  refine R_nil0 ?_
  refine J_seq ?_
  refine J_seq ?_
  refine J_region rfl ?_
  refine r_move (AL 4 c_api_Slot t0) rfl rfl ?_
  refine r_len (cc := c_api_Slot) il_26 rfl rfl ?_
  refine r_move (I_ 0) rfl rfl ?_
  refine R_nil0 ?_
  refine J_block ?_
  refine J_to [(0, AL 4 c_api_Slot t0), (1, AFn PP (fun x => [AAgg (c_api_Slot x)]) (fun y => ABool y) t1), (7, I_ (t0.length : Int)), (8, I_ 0)] (.cons rfl (.cons rfl (.cons rfl (.cons rfl .nil)))) ?_
  refine J_it (fun x1 => ⟨fr [(0, AL 4 c_api_Slot t0), (1, AFn PP (fun x => [AAgg (c_api_Slot x)]) (fun y => ABool y) t1), (7, I_ (t0.length : Int)), (8, I_ x1)], fun _ => none, 0⟩) (fun E2 hE2 x1 => ?_) (by rfl)
  refine J_seq ?_
  refine J_region rfl ?_
  refine r_lss rfl rfl rfl ?_
  refine R_nil0 ?_
  refine J_seq ?_
  refine J_cond_p rfl (fun h8 => ?_) (fun h8 => ?_)
  rotate_left
  · refine J_exit rfl ?_
    refine J_outS ?_
    refine J_seq ?_
    refine J_region rfl ?_
    refine r_assign (I_ (-1)) rfl rfl ?_
    refine R_nil0 ?_
    exact J_ret hΨ (Res_one rfl) (fun y hy => by cases hy; rfl)
  refine J_skip ?_
  refine J_seq ?_
  refine J_block ?_
  refine J_seq ?_
  refine J_region rfl ?_
  refine r_move (I_ x1) rfl rfl ?_
  refine r_assign (I_ x1) rfl rfl ?_
  refine R_nil0 ?_
  refine J_seq ?_
  refine J_region rfl ?_
  refine r_move (AFn PP (fun x => [AAgg (c_api_Slot x)]) (fun y => ABool y) t1) rfl rfl ?_
  refine r_move (AL 4 c_api_Slot t0) rfl rfl ?_
  refine r_move (I_ x1) rfl rfl ?_
  refine R_if (fun h9 => ?_) (fun _ => R_none)
  refine r_ix (cc := c_api_Slot) el_26 rfl rfl h9.1 h9.2 rfl ?_
  refine r_lda (c_api_Slot (nth t0 x1)) ag_156 rfl rfl rfl rfl ?_
  refine R_bind fun b10 h11 => ?_
  refine r_callFn (ga := (fun x => [AAgg (c_api_Slot x)])) (rt := (fun y => ABool y)) (gg := t1) (u := (nth t0 x1)) (w := b10) rfl rfl h11 (NK.nk) rfl ?_
  refine R_nil0 ?_
  refine J_cond rfl (fun h12 => ?_) (fun h12 => ?_)
  · refine J_seq ?_
    refine J_region rfl ?_
    refine r_move (I_ x1) rfl rfl ?_
    refine r_assign (I_ x1) rfl rfl ?_
    refine R_nil0 ?_
    refine J_outS ?_
    exact J_ret hΨ (Res_one rfl) (fun y hy => by cases hy; rfl)
  refine J_skip ?_
  refine J_inBlock ?_
  refine J_range 7 (m := (t0.length : Int)) rfl fun q13 => ?_
  refine J_range 5 (m := x1) rfl fun q14 => ?_
  refine J_region rfl ?_
  refine r_add (x1 + 1) rfl rfl (wrap_i64 (by omega) (by omega)) rfl ?_
  refine r_move (I_ (x1 + 1)) rfl rfl ?_
  refine R_nil0 ?_
  refine J_go ?_
  refine J_to [(0, AL 4 c_api_Slot t0), (1, AFn PP (fun x => [AAgg (c_api_Slot x)]) (fun y => ABool y) t1), (7, I_ (t0.length : Int)), (8, I_ (x1 + 1))] (.cons rfl (.cons rfl (.cons rfl (.cons rfl .nil)))) ?_
  exact hE2 (x1 + 1)
theorem k_slices_ContainsFunc_api_Slot (t0 : (List api_Slot)) (t1 : (api_Slot → Option Bool)) (r : Bool) (hr : slices_ContainsFunc_api_Slot t0 t1 = some r) : FnP PP 186 [AL 4 c_api_Slot t0, AFn PP (fun x => [AAgg (c_api_Slot x)]) (fun y => ABool y) t1] (ABool r) := by
  refine FnP.of mixed_ Tryz.func186 rfl (n := 9) rfl (fun (r : Bool) => ABool r) nk_args NK.nk rfl hr fun X hΨ => ?_
  refine J_seq ?_
  refine J_region rfl ?_
  refine r_assign (ABool false) rfl rfl ?_
  refine R_nil0 ?_
  refine J_seq ?_
  refine J_region rfl ?_
  refine r_move (AL 4 c_api_Slot t0) rfl rfl ?_
  refine r_move (AFn PP (fun x => [AAgg (c_api_Slot x)]) (fun y => ABool y) t1) rfl rfl ?_
  refine R_bind fun b1 h2 => ?_
  refine r_call _ fn_242 (k_slices_IndexFunc_api_Slot _ _ _ h2) rfl rfl ?_
  refine r_geq rfl rfl rfl ?_
  refine r_assign (ABool (decide (0 ≤ b1))) rfl rfl ?_
  refine R_nil0 ?_
  exact J_ret hΨ (Res_one rfl) (fun y hy => by cases hy; rfl)
theorem k_rule_slot_1 (t0 : api_Slot) (t1 : api_Slot) (r : Bool) (hr : rule_slot_1 t0 t1 = some r) : FnP PP 187 [AAgg (c_api_Slot t0), APtr (c_api_Slot t1)] (ABool r) := by
  refine FnP.of mixed_ Tryz.func187 rfl (n := 16) rfl (fun (r : Bool) => ABool r) nk_args NK.nk rfl hr fun X hΨ => ?_
  refine J_seq ?_
  refine J_region rfl ?_
  refine r_boxV (AAgg (c_api_Slot t0)) rfl rfl ?_
  refine r_assign (ABool false) rfl rfl ?_
  refine R_nil0 ?_
  refine J_seq ?_
  refine J_region rfl ?_
  refine r_faT (c_i64 t0.Node) fo_156_0 rfl rfl rfl ?_
  refine r_ld (I_ t0.Node) sc_3 rfl rfl rfl ?_
  refine r_faT (c_i64 t1.Node) fo_156_0 rfl rfl rfl ?_
  refine r_ld (I_ t1.Node) sc_3 rfl rfl rfl ?_
  refine r_eql rfl rfl rfl ?_
  refine r_move (ABool (decide (t0.Node = t1.Node))) rfl rfl ?_
  refine R_if (fun h1 => ?_) (fun h1 => ?_)
  · refine r_faT (c_i64 t0.Attr) fo_156_1 rfl rfl (g_t rfl rfl (dt h1)) ?_
    refine r_ld (I_ t0.Attr) sc_3 rfl rfl (g_t rfl rfl (dt h1)) ?_
    refine r_faT (c_i64 t1.Attr) fo_156_1 rfl rfl (g_t rfl rfl (dt h1)) ?_
    refine r_ld (I_ t1.Attr) sc_3 rfl rfl (g_t rfl rfl (dt h1)) ?_
    refine r_eql rfl rfl (g_t rfl rfl (dt h1)) ?_
    refine r_pickT (ABool (decide (t0.Attr = t1.Attr))) rfl (dt h1) rfl rfl ?_
    refine r_assign (ABool (decide (t0.Attr = t1.Attr))) rfl rfl ?_
    refine R_nil0 ?_
    exact J_ret hΨ (Res_one rfl) (fun y hy => by cases hy; rfl)
  refine R_skip (g_tn rfl rfl (df h1)) ?_
  refine R_skip (g_tn rfl rfl (df h1)) ?_
  refine R_skip (g_tn rfl rfl (df h1)) ?_
  refine R_skip (g_tn rfl rfl (df h1)) ?_
  refine R_skip (g_tn rfl rfl (df h1)) ?_
  refine r_pickF (ABool false) rfl (df h1) rfl rfl ?_
  refine r_assign (ABool false) rfl rfl ?_
  refine R_nil0 ?_
  exact J_ret hΨ (Res_one rfl) (fun y hy => by cases hy; rfl)
theorem k_rule_slot (t0 : api_Types) (t1 : api_Rule) (t2 : Int) (r : Int) (hr : rule_slot t0 t1 t2 = some r) : FnP PP 134 [AAgg (c_api_Types t0), AAgg (c_api_Rule t1), I_ t2] (I_ r) := by
  refine FnP.of mixed_ Tryz.func134 rfl (n := 85) rfl (fun (r : Int) => I_ r) nk_args NK.nk rfl hr fun X hΨ => ?_
  refine J_seq ?_
  refine J_region rfl ?_
  refine r_boxV (AAgg (c_api_Types t0)) rfl rfl ?_
  refine r_boxV (AAgg (c_api_Rule t1)) rfl rfl ?_
  refine r_assign (I_ 0) rfl rfl ?_
  refine R_nil0 ?_
  refine J_seq ?_
  refine J_region rfl ?_
  refine r_faT (c_api_Pattern t1.Right) fo_37_2 rfl rfl rfl ?_
  refine r_faT ((cL 4 c_api_Slot) t1.Right.Slots) fo_29_1 rfl rfl rfl ?_
  refine r_ld (AL 4 c_api_Slot t1.Right.Slots) sc_26 rfl rfl rfl ?_
  refine r_move (I_ t2) rfl rfl ?_
  refine R_if (fun h1 => ?_) (fun _ => R_none)
  refine r_ix (cc := c_api_Slot) el_26 rfl rfl h1.1 h1.2 rfl ?_
  refine r_lda (c_api_Slot (nth t1.Right.Slots t2)) ag_156 rfl rfl rfl rfl ?_
  refine r_alloc 0 _ z_156 rfl rfl ?_
  refine r_stO (AObj 0) (AAgg (c_api_Slot (nth t1.Right.Slots t2))) (c_api_Slot (nth t1.Right.Slots t2)) sz_156 rfl .obj rfl rfl rfl rfl rfl rfl ?_
  refine R_nil0 ?_
  refine J_seq ?_
  refine J_seq ?_
  refine J_region rfl ?_
  refine r_faO (AObj 0) 0 fo_156_0 rfl .obj rfl rfl rfl ?_
  refine r_ldO (ABoxAt 0 0) (I_ ((nth t1.Right.Slots t2).Node)) sc_3 rfl .at rfl rfl rfl ?_
  refine r_lss rfl rfl rfl ?_
  refine r_move (ABool (decide ((nth t1.Right.Slots t2).Node < 0))) rfl rfl ?_
  refine R_if (fun h2 => ?_) (fun h2 => ?_)
  · refine R_skip (g_fn rfl rfl (dt h2)) ?_
    refine R_skip (g_fn rfl rfl (dt h2)) ?_
    refine R_skip (g_fn rfl rfl (dt h2)) ?_
    refine R_skip (g_fn rfl rfl (dt h2)) ?_
    refine R_skip (g_fn rfl rfl (dt h2)) ?_
    refine R_skip (g_fn rfl rfl (dt h2)) ?_
    refine R_skip (g_fn rfl rfl (dt h2)) ?_
    refine R_skip (g_fn rfl rfl (dt h2)) ?_
    refine r_pickT (ABool true) rfl (dt h2) rfl rfl ?_
    refine R_nil0 ?_
    refine J_cond_T rfl rfl ?_
    refine J_seq ?_
    refine J_region rfl ?_
    refine r_assign (I_ 6) rfl rfl ?_
    refine R_nil0 ?_
    exact J_ret hΨ (Res_one rfl) (fun y hy => by cases hy; rfl)
  refine r_faO (AObj 0) 0 fo_156_0 rfl .obj rfl rfl (g_f rfl rfl (df h2)) ?_
  refine r_ldO (ABoxAt 0 0) (I_ ((nth t1.Right.Slots t2).Node)) sc_3 rfl .at rfl rfl (g_f rfl rfl (df h2)) ?_
  refine r_faT (c_api_Pattern t1.Right) fo_37_2 rfl rfl (g_f rfl rfl (df h2)) ?_
  refine r_faT (c_api_Graph t1.Right.Graph) fo_29_0 rfl rfl (g_f rfl rfl (df h2)) ?_
  refine r_faT ((cL 1 c_i64) t1.Right.Graph.Nodes) fo_25_0 rfl rfl (g_f rfl rfl (df h2)) ?_
  refine r_ld (AL 1 c_i64 t1.Right.Graph.Nodes) sc_22 rfl rfl (g_f rfl rfl (df h2)) ?_
  refine r_len (cc := c_i64) il_22 rfl (g_f rfl rfl (df h2)) ?_
  refine r_geq rfl rfl (g_f rfl rfl (df h2)) ?_
  refine r_pickF (ABool (decide ((t1.Right.Graph.Nodes.length : Int) ≤ (nth t1.Right.Slots t2).Node))) rfl (df h2) rfl rfl ?_
  refine R_nil0 ?_
  refine J_cond_p rfl (fun h3 => ?_) (fun h3 => ?_)
  · refine J_seq ?_
    refine J_region rfl ?_
    refine r_assign (I_ 6) rfl rfl ?_
    refine R_nil0 ?_
    exact J_ret hΨ (Res_one rfl) (fun y hy => by cases hy; rfl)
  refine J_skip ?_
  refine J_seq ?_
  refine J_draw ?_
  refine r_lda (c_api_Types t0) ag_59 rfl rfl rfl rfl ?_
  refine r_faT (c_api_Pattern t1.Right) fo_37_2 rfl rfl rfl ?_
  refine r_faT (c_api_Graph t1.Right.Graph) fo_29_0 rfl rfl rfl ?_
  refine r_faT ((cL 1 c_i64) t1.Right.Graph.Nodes) fo_25_0 rfl rfl rfl ?_
  refine r_ld (AL 1 c_i64 t1.Right.Graph.Nodes) sc_22 rfl rfl rfl ?_
  refine r_faO (AObj 0) 0 fo_156_0 rfl .obj rfl rfl rfl ?_
  refine r_ldO (ABoxAt 0 0) (I_ ((nth t1.Right.Slots t2).Node)) sc_3 rfl .at rfl rfl rfl ?_
  refine R_if (fun h4 => ?_) (fun _ => R_none)
  refine r_ix (cc := c_i64) el_22 rfl rfl h4.1 h4.2 rfl ?_
  refine r_ld (I_ (nth t1.Right.Graph.Nodes ((nth t1.Right.Slots t2).Node))) sc_3 rfl rfl rfl ?_
  refine R_bind fun b5 h6 => ?_
  refine r_call _ fn_181 (k_types_Attrs _ _ _ h6) rfl rfl ?_
  refine r_move (ATup [AL 4 c_api_Attr b5.1, I_ b5.2]) rfl rfl ?_
  refine r_ext (AL 4 c_api_Attr b5.1) rfl rfl rfl ?_
  refine r_ext (I_ b5.2) rfl rfl rfl ?_
  refine r_assign (AL 4 c_api_Attr b5.1) rfl rfl ?_
  refine r_assign (I_ b5.2) rfl rfl ?_
  refine R_nilD rfl ?_
  refine J_seq ?_
  refine J_region rfl ?_
  refine r_faO (AObj 0) 2 fo_156_2 rfl .obj rfl rfl rfl ?_
  refine r_ldaO (ABoxAt 0 2) (c_api_Term ((nth t1.Right.Slots t2).Term)) ag_154 rfl .at rfl rfl rfl rfl ?_
  refine r_alloc 1 _ z_154 rfl rfl ?_
  refine r_stO (AObj 1) (AAgg (c_api_Term ((nth t1.Right.Slots t2).Term))) (c_api_Term ((nth t1.Right.Slots t2).Term)) sz_154 rfl .obj rfl rfl rfl rfl rfl rfl ?_
  refine R_nil0 ?_
  refine J_seq ?_
  refine J_seq ?_
  refine J_region rfl ?_
  refine r_faO (AObj 0) 1 fo_156_1 rfl .obj rfl rfl rfl ?_
  refine r_ldO (ABoxAt 0 1) (I_ ((nth t1.Right.Slots t2).Attr)) sc_3 rfl .at rfl rfl rfl ?_
  refine r_lss rfl rfl rfl ?_
  refine r_move (ABool (decide ((nth t1.Right.Slots t2).Attr < 0))) rfl rfl ?_
  refine R_if (fun h7 => ?_) (fun h7 => ?_)
  · refine R_skip (g_fn rfl rfl (dt h7)) ?_
    refine R_skip (g_fn rfl rfl (dt h7)) ?_
    refine R_skip (g_fn rfl rfl (dt h7)) ?_
    refine R_skip (g_fn rfl rfl (dt h7)) ?_
    refine R_skip (g_fn rfl rfl (dt h7)) ?_
    refine r_pickT (ABool true) rfl (dt h7) rfl rfl ?_
    refine r_move (ABool true) rfl rfl ?_
    refine R_skip (g_fn rfl rfl rfl) ?_
    refine R_skip (g_fn rfl rfl rfl) ?_
    refine R_skip (g_fn rfl rfl rfl) ?_
    refine r_pickT (ABool true) rfl rfl rfl rfl ?_
    refine r_move (ABool true) rfl rfl ?_
    refine R_skip (g_fn rfl rfl rfl) ?_
    refine R_skip (g_fn rfl rfl rfl) ?_
    refine R_skip (g_fn rfl rfl rfl) ?_
    refine R_skip (g_fn rfl rfl rfl) ?_
    refine R_skip (g_fn rfl rfl rfl) ?_
    refine R_skip (g_fn rfl rfl rfl) ?_
    refine r_pickT (ABool true) rfl rfl rfl rfl ?_
    refine r_move (ABool true) rfl rfl ?_
    refine R_skip (g_fn rfl rfl rfl) ?_
    refine R_skip (g_fn rfl rfl rfl) ?_
    refine R_skip (g_fn rfl rfl rfl) ?_
    refine r_pickT (ABool true) rfl rfl rfl rfl ?_
    refine r_move (ABool true) rfl rfl ?_
    refine R_skip (g_fn rfl rfl rfl) ?_
    refine R_skip (g_fn rfl rfl rfl) ?_
    refine R_skip (g_fn rfl rfl rfl) ?_
    refine r_pickT (ABool true) rfl rfl rfl rfl ?_
    refine R_nil0 ?_
    refine J_cond_T rfl rfl ?_
    refine J_seq ?_
    refine J_region rfl ?_
    refine r_assign (I_ 6) rfl rfl ?_
    refine R_nil0 ?_
    exact J_ret hΨ (Res_one rfl) (fun y hy => by cases hy; rfl)
  refine r_faO (AObj 0) 1 fo_156_1 rfl .obj rfl rfl (g_f rfl rfl (df h7)) ?_
  refine r_ldO (ABoxAt 0 1) (I_ ((nth t1.Right.Slots t2).Attr)) sc_3 rfl .at rfl rfl (g_f rfl rfl (df h7)) ?_
  refine r_move (AL 4 c_api_Attr b5.1) rfl (g_f rfl rfl (df h7)) ?_
  refine r_len (cc := c_api_Attr) il_104 rfl (g_f rfl rfl (df h7)) ?_
  refine r_geq rfl rfl (g_f rfl rfl (df h7)) ?_
  refine r_pickF (ABool (decide ((b5.1.length : Int) ≤ (nth t1.Right.Slots t2).Attr))) rfl (df h7) rfl rfl ?_
  refine r_move (ABool (decide ((b5.1.length : Int) ≤ (nth t1.Right.Slots t2).Attr))) rfl rfl ?_
  refine R_if (fun h8 => ?_) (fun h8 => ?_)
  · refine R_skip (g_fn rfl rfl (dt h8)) ?_
    refine R_skip (g_fn rfl rfl (dt h8)) ?_
    refine R_skip (g_fn rfl rfl (dt h8)) ?_
    refine r_pickT (ABool true) rfl (dt h8) rfl rfl ?_
    refine r_move (ABool true) rfl rfl ?_
    refine R_skip (g_fn rfl rfl rfl) ?_
    refine R_skip (g_fn rfl rfl rfl) ?_
    refine R_skip (g_fn rfl rfl rfl) ?_
    refine R_skip (g_fn rfl rfl rfl) ?_
    refine R_skip (g_fn rfl rfl rfl) ?_
    refine R_skip (g_fn rfl rfl rfl) ?_
    refine r_pickT (ABool true) rfl rfl rfl rfl ?_
    refine r_move (ABool true) rfl rfl ?_
    refine R_skip (g_fn rfl rfl rfl) ?_
    refine R_skip (g_fn rfl rfl rfl) ?_
    refine R_skip (g_fn rfl rfl rfl) ?_
    refine r_pickT (ABool true) rfl rfl rfl rfl ?_
    refine r_move (ABool true) rfl rfl ?_
    refine R_skip (g_fn rfl rfl rfl) ?_
    refine R_skip (g_fn rfl rfl rfl) ?_
    refine R_skip (g_fn rfl rfl rfl) ?_
    refine r_pickT (ABool true) rfl rfl rfl rfl ?_
    refine R_nil0 ?_
    refine J_cond_T rfl rfl ?_
    refine J_seq ?_
    refine J_region rfl ?_
    refine r_assign (I_ 6) rfl rfl ?_
    refine R_nil0 ?_
    exact J_ret hΨ (Res_one rfl) (fun y hy => by cases hy; rfl)
  refine r_faO (AObj 1) 0 fo_154_0 rfl .obj rfl rfl (g_f rfl rfl (df h8)) ?_
  refine r_ldO (ABoxAt 1 0) (I_ (((nth t1.Right.Slots t2).Term).Var)) sc_3 rfl .at rfl rfl (g_f rfl rfl (df h8)) ?_
  refine r_lss rfl rfl (g_f rfl rfl (df h8)) ?_
  refine r_pickF (ABool (decide (((nth t1.Right.Slots t2).Term).Var < (-1)))) rfl (df h8) rfl rfl ?_
  refine r_move (ABool (decide (((nth t1.Right.Slots t2).Term).Var < (-1)))) rfl rfl ?_
  refine R_if (fun h9 => ?_) (fun h9 => ?_)
  · refine R_skip (g_fn rfl rfl (dt h9)) ?_
    refine R_skip (g_fn rfl rfl (dt h9)) ?_
    refine R_skip (g_fn rfl rfl (dt h9)) ?_
    refine R_skip (g_fn rfl rfl (dt h9)) ?_
    refine R_skip (g_fn rfl rfl (dt h9)) ?_
    refine R_skip (g_fn rfl rfl (dt h9)) ?_
    refine r_pickT (ABool true) rfl (dt h9) rfl rfl ?_
    refine r_move (ABool true) rfl rfl ?_
    refine R_skip (g_fn rfl rfl rfl) ?_
    refine R_skip (g_fn rfl rfl rfl) ?_
    refine R_skip (g_fn rfl rfl rfl) ?_
    refine r_pickT (ABool true) rfl rfl rfl rfl ?_
    refine r_move (ABool true) rfl rfl ?_
    refine R_skip (g_fn rfl rfl rfl) ?_
    refine R_skip (g_fn rfl rfl rfl) ?_
    refine R_skip (g_fn rfl rfl rfl) ?_
    refine r_pickT (ABool true) rfl rfl rfl rfl ?_
    refine R_nil0 ?_
    refine J_cond_T rfl rfl ?_
    refine J_seq ?_
    refine J_region rfl ?_
    refine r_assign (I_ 6) rfl rfl ?_
    refine R_nil0 ?_
    exact J_ret hΨ (Res_one rfl) (fun y hy => by cases hy; rfl)
  refine r_faO (AObj 1) 0 fo_154_0 rfl .obj rfl rfl (g_f rfl rfl (df h9)) ?_
  refine r_ldO (ABoxAt 1 0) (I_ (((nth t1.Right.Slots t2).Term).Var)) sc_3 rfl .at rfl rfl (g_f rfl rfl (df h9)) ?_
  refine r_faT (c_api_Pattern t1.Right) fo_37_2 rfl rfl (g_f rfl rfl (df h9)) ?_
  refine r_faT (c_i64 t1.Right.Vars) fo_29_2 rfl rfl (g_f rfl rfl (df h9)) ?_
  refine r_ld (I_ t1.Right.Vars) sc_3 rfl rfl (g_f rfl rfl (df h9)) ?_
  refine r_geq rfl rfl (g_f rfl rfl (df h9)) ?_
  refine r_pickF (ABool (decide (t1.Right.Vars ≤ ((nth t1.Right.Slots t2).Term).Var))) rfl (df h9) rfl rfl ?_
  refine r_move (ABool (decide (t1.Right.Vars ≤ ((nth t1.Right.Slots t2).Term).Var))) rfl rfl ?_
  refine R_if (fun h10 => ?_) (fun h10 => ?_)
  · refine R_skip (g_fn rfl rfl (dt h10)) ?_
    refine R_skip (g_fn rfl rfl (dt h10)) ?_
    refine R_skip (g_fn rfl rfl (dt h10)) ?_
    refine r_pickT (ABool true) rfl (dt h10) rfl rfl ?_
    refine r_move (ABool true) rfl rfl ?_
    refine R_skip (g_fn rfl rfl rfl) ?_
    refine R_skip (g_fn rfl rfl rfl) ?_
    refine R_skip (g_fn rfl rfl rfl) ?_
    refine r_pickT (ABool true) rfl rfl rfl rfl ?_
    refine R_nil0 ?_
    refine J_cond_T rfl rfl ?_
    refine J_seq ?_
    refine J_region rfl ?_
    refine r_assign (I_ 6) rfl rfl ?_
    refine R_nil0 ?_
    exact J_ret hΨ (Res_one rfl) (fun y hy => by cases hy; rfl)
  refine r_faO (AObj 1) 1 fo_154_1 rfl .obj rfl rfl (g_f rfl rfl (df h10)) ?_
  refine r_ldO (ABoxAt 1 1) (I_ (((nth t1.Right.Slots t2).Term).Add)) sc_3 rfl .at rfl rfl (g_f rfl rfl (df h10)) ?_
  refine r_lss rfl rfl (g_f rfl rfl (df h10)) ?_
  refine r_pickF (ABool (decide (((nth t1.Right.Slots t2).Term).Add < (-1000000)))) rfl (df h10) rfl rfl ?_
  refine r_move (ABool (decide (((nth t1.Right.Slots t2).Term).Add < (-1000000)))) rfl rfl ?_
  refine R_if (fun h11 => ?_) (fun h11 => ?_)
  · refine R_skip (g_fn rfl rfl (dt h11)) ?_
    refine R_skip (g_fn rfl rfl (dt h11)) ?_
    refine R_skip (g_fn rfl rfl (dt h11)) ?_
    refine r_pickT (ABool true) rfl (dt h11) rfl rfl ?_
    refine R_nil0 ?_
    refine J_cond_T rfl rfl ?_
    refine J_seq ?_
    refine J_region rfl ?_
    refine r_assign (I_ 6) rfl rfl ?_
    refine R_nil0 ?_
    exact J_ret hΨ (Res_one rfl) (fun y hy => by cases hy; rfl)
  refine r_faO (AObj 1) 1 fo_154_1 rfl .obj rfl rfl (g_f rfl rfl (df h11)) ?_
  refine r_ldO (ABoxAt 1 1) (I_ (((nth t1.Right.Slots t2).Term).Add)) sc_3 rfl .at rfl rfl (g_f rfl rfl (df h11)) ?_
  refine r_gtr rfl rfl (g_f rfl rfl (df h11)) ?_
  refine r_pickF (ABool (decide (1000000 < ((nth t1.Right.Slots t2).Term).Add))) rfl (df h11) rfl rfl ?_
  refine R_nil0 ?_
  refine J_cond_p rfl (fun h12 => ?_) (fun h12 => ?_)
  · refine J_seq ?_
    refine J_region rfl ?_
    refine r_assign (I_ 6) rfl rfl ?_
    refine R_nil0 ?_
    exact J_ret hΨ (Res_one rfl) (fun y hy => by cases hy; rfl)
  refine J_skip ?_
  refine J_seq ?_
  refine J_seq ?_
  refine J_cv [0] [] [] 0 [(2, I_ t2), (4, APtr (c_api_Rule t1)), (6, I_ 0), (7, APtr (c_api_Slot (nth t1.Right.Slots t2))), (14, I_ t2), (18, I_ ((nth t1.Right.Slots t2).Node)), (22, I_ ((nth t1.Right.Slots t2).Node)), (27, I_ (t1.Right.Graph.Nodes.length : Int)), (37, I_ ((nth t1.Right.Slots t2).Node)), (46, I_ ((nth t1.Right.Slots t2).Attr)), (50, I_ ((nth t1.Right.Slots t2).Attr)), (52, I_ (b5.1.length : Int)), (57, I_ (((nth t1.Right.Slots t2).Term).Var)), (62, I_ (((nth t1.Right.Slots t2).Term).Var)), (65, I_ t1.Right.Vars), (70, I_ (((nth t1.Right.Slots t2).Term).Add)), (75, I_ (((nth t1.Right.Slots t2).Term).Add))] [] (.same rfl (.same rfl (.same rfl (.cons (A := AObj 0) rfl (.fbox rfl rfl (.cons .same (.cons .same (.cons .same (.cons .same .nil))))) (.same rfl (.same rfl (.same rfl (.same rfl (.same rfl (.same rfl (.same rfl (.same rfl (.same rfl (.same rfl (.same rfl (.same rfl (.same rfl .nil))))))))))))))))) .nil rfl rfl ?_
  refine J_region rfl ?_
  refine r_faT (c_api_Pattern t1.Right) fo_37_2 rfl rfl rfl ?_
  refine r_faT ((cL 4 c_api_Slot) t1.Right.Slots) fo_29_1 rfl rfl rfl ?_
  refine r_ld (AL 4 c_api_Slot t1.Right.Slots) sc_26 rfl rfl rfl ?_
  refine r_move (I_ t2) rfl rfl ?_
  refine R_if (fun h14 => ?_) (fun _ => R_none)
  refine r_cut (cc := c_api_Slot) 0 t2 el_26 rfl lo_n (hi_s rfl) h14.1 h14.2.1 h14.2.2 rfl ?_
  refine r_mkFn [APtr (c_api_Slot (nth t1.Right.Slots t2))] (fun x => [AAgg (c_api_Slot x)]) (fun y => ABool y) (fun x => rule_slot_1 x (nth t1.Right.Slots t2)) fn_187 rfl (fun x y h => k_rule_slot_1 x (nth t1.Right.Slots t2) y h) rfl ?_
  refine R_bind fun b15 h16 => ?_
  refine r_call _ fn_186 (k_slices_ContainsFunc_api_Slot _ _ _ h16) rfl rfl ?_
  refine R_nil0 ?_
  refine J_cond rfl (fun h17 => ?_) (fun h17 => ?_)
  · refine J_seq ?_
    refine J_region rfl ?_
    refine r_assign (I_ 5) rfl rfl ?_
    refine R_nil0 ?_
    exact J_ret hΨ (Res_one rfl) (fun y hy => by cases hy; rfl)
  refine J_skip ?_
  refine J_seq ?_
  refine J_region rfl ?_
  refine r_assign (I_ 0) rfl rfl ?_
  refine R_nil0 ?_
  exact J_ret hΨ (Res_one rfl) (fun y hy => by cases hy; rfl)
theorem k_rule_right (t0 : api_Types) (t1 : api_Rule) (r : Int) (hr : rule_right t0 t1 = some r) : FnP PP 70 [AAgg (c_api_Types t0), AAgg (c_api_Rule t1)] (I_ r) := by
  refine FnP.of mixed_ Tryz.func70 rfl (n := 58) rfl (fun (r : Int) => I_ r) nk_args NK.nk rfl hr fun X hΨ => ?_
  refine J_seq ?_
  refine J_region rfl ?_
  refine r_boxV (AAgg (c_api_Types t0)) rfl rfl ?_
  refine r_boxV (AAgg (c_api_Rule t1)) rfl rfl ?_
  refine r_assign (I_ 0) rfl rfl ?_
  refine R_nil0 ?_
  refine J_seq ?_
  refine J_seq ?_
  refine J_region rfl ?_
  refine r_faT (c_api_Pattern t1.Right) fo_37_2 rfl rfl rfl ?_
  refine r_faT (c_api_Graph t1.Right.Graph) fo_29_0 rfl rfl rfl ?_
  refine r_lda (c_api_Graph t1.Right.Graph) ag_25 rfl rfl rfl rfl ?_
  refine R_bind fun b1 h2 => ?_
  refine r_call _ fn_36 (k_graph_Valid _ _ h2) rfl rfl ?_
  refine r_assign (I_ b1) rfl rfl ?_
  refine R_nil0 ?_
  refine J_seq ?_
  refine J_region rfl ?_
  refine r_move (I_ b1) rfl rfl ?_
  refine r_neq rfl rfl rfl ?_
  refine R_nil0 ?_
  refine J_cond_p rfl (fun h3 => ?_) (fun h3 => ?_)
  · refine J_seq ?_
    refine J_region rfl ?_
    refine r_move (I_ b1) rfl rfl ?_
    refine r_assign (I_ b1) rfl rfl ?_
    refine R_nil0 ?_
    exact J_ret hΨ (Res_one rfl) (fun y hy => by cases hy; rfl)
  refine J_skip ?_
  refine J_seq ?_
  refine J_block ?_
  refine J_seq ?_
  refine J_region rfl ?_
  refine r_lda (c_api_Types t0) ag_59 rfl rfl rfl rfl ?_
  refine r_faT (c_api_Pattern t1.Right) fo_37_2 rfl rfl rfl ?_
  refine r_faT (c_api_Graph t1.Right.Graph) fo_29_0 rfl rfl rfl ?_
  refine r_lda (c_api_Graph t1.Right.Graph) ag_25 rfl rfl rfl rfl ?_
  refine R_bind fun b4 h5 => ?_
  refine r_call _ fn_133 (k_rule_typed _ _ _ h5) rfl rfl ?_
  refine r_not rfl rfl ?_
  refine r_assign (ABool (!b4)) rfl rfl ?_
  refine R_nil0 ?_
  refine J_cond rfl (fun h6 => ?_) (fun h6 => ?_)
  · refine J_seq ?_
    refine J_region rfl ?_
    refine r_assign (I_ 13) rfl rfl ?_
    refine R_nil0 ?_
    exact J_ret hΨ (Res_one rfl) (fun y hy => by cases hy; rfl)
  refine J_seq ?_
  refine J_region rfl ?_
  refine r_faT (c_api_Pattern t1.Right) fo_37_2 rfl rfl rfl ?_
  refine r_faT (c_i64 t1.Right.Vars) fo_29_2 rfl rfl rfl ?_
  refine r_ld (I_ t1.Right.Vars) sc_3 rfl rfl rfl ?_
  refine r_faT (c_api_Pattern t1.Left) fo_37_1 rfl rfl rfl ?_
  refine r_faT (c_i64 t1.Left.Vars) fo_29_2 rfl rfl rfl ?_
  refine r_ld (I_ t1.Left.Vars) sc_3 rfl rfl rfl ?_
  refine r_neq rfl rfl rfl ?_
  refine r_move (ABool (decide (¬ (t1.Right.Vars = t1.Left.Vars)))) rfl rfl ?_
  refine R_if (fun h7 => ?_) (fun h7 => ?_)
  · refine R_skip (g_fn rfl rfl (dt h7)) ?_
    refine R_skip (g_fn rfl rfl (dt h7)) ?_
    refine R_skip (g_fn rfl rfl (dt h7)) ?_
    refine R_skip (g_fn rfl rfl (dt h7)) ?_
    refine R_skip (g_fn rfl rfl (dt h7)) ?_
    refine r_pickT (ABool true) rfl (dt h7) rfl rfl ?_
    refine r_assign (ABool true) rfl rfl ?_
    refine R_nil0 ?_
    refine J_cond_T rfl rfl ?_
    refine J_seq ?_
    refine J_region rfl ?_
    refine r_assign (I_ 1) rfl rfl ?_
    refine R_nil0 ?_
    exact J_ret hΨ (Res_one rfl) (fun y hy => by cases hy; rfl)
  refine r_faT (c_api_Pattern t1.Right) fo_37_2 rfl rfl (g_f rfl rfl (df h7)) ?_
  refine r_faT ((cL 5 c_api_Test) t1.Right.Tests) fo_29_3 rfl rfl (g_f rfl rfl (df h7)) ?_
  refine r_ld (AL 5 c_api_Test t1.Right.Tests) sc_27 rfl rfl (g_f rfl rfl (df h7)) ?_
  refine r_len (cc := c_api_Test) il_27 rfl (g_f rfl rfl (df h7)) ?_
  refine r_gtr rfl rfl (g_f rfl rfl (df h7)) ?_
  refine r_pickF (ABool (decide (0 < (t1.Right.Tests.length : Int)))) rfl (df h7) rfl rfl ?_
  refine r_assign (ABool (decide (0 < (t1.Right.Tests.length : Int)))) rfl rfl ?_
  refine R_nil0 ?_
  refine J_cond_p rfl (fun h8 => ?_) (fun h8 => ?_)
  · refine J_seq ?_
    refine J_region rfl ?_
    refine r_assign (I_ 1) rfl rfl ?_
    refine R_nil0 ?_
    exact J_ret hΨ (Res_one rfl) (fun y hy => by cases hy; rfl)
  refine J_seq ?_
  refine J_region rfl ?_
  refine r_faT (c_api_Pattern t1.Right) fo_37_2 rfl rfl rfl ?_
  refine r_faT ((cL 4 c_api_Slot) t1.Right.Slots) fo_29_1 rfl rfl rfl ?_
  refine r_ld (AL 4 c_api_Slot t1.Right.Slots) sc_26 rfl rfl rfl ?_
  refine r_len (cc := c_api_Slot) il_26 rfl rfl ?_
  refine r_gtr rfl rfl rfl ?_
  refine r_assign (ABool (decide (10 < (t1.Right.Slots.length : Int)))) rfl rfl ?_
  refine R_nil0 ?_
  refine J_cond_p rfl (fun h9 => ?_) (fun h9 => ?_)
  · refine J_seq ?_
    refine J_region rfl ?_
    refine r_assign (I_ 3) rfl rfl ?_
    refine R_nil0 ?_
    exact J_ret hΨ (Res_one rfl) (fun y hy => by cases hy; rfl)
  refine J_skip ?_
  refine J_inBlock ?_
  refine J_seq ?_
  refine J_seq ?_
  refine J_region rfl ?_
  refine r_faT (c_api_Pattern t1.Right) fo_37_2 rfl rfl rfl ?_
  refine r_faT ((cL 4 c_api_Slot) t1.Right.Slots) fo_29_1 rfl rfl rfl ?_
  refine r_ld (AL 4 c_api_Slot t1.Right.Slots) sc_26 rfl rfl rfl ?_
  refine r_len (cc := c_api_Slot) il_26 rfl rfl ?_
  refine r_move (I_ 0) rfl rfl ?_
  refine R_nil0 ?_
  refine J_block ?_
  refine J_to [(2, APtr (c_api_Types t0)), (3, APtr (c_api_Rule t1)), (4, I_ 0), (5, I_ b1), (11, I_ b1), (12, I_ b1), (25, I_ t1.Right.Vars), (28, I_ t1.Left.Vars), (34, I_ (t1.Right.Tests.length : Int)), (41, I_ (t1.Right.Slots.length : Int)), (46, I_ (t1.Right.Slots.length : Int)), (47, I_ 0)] (.cons rfl (.cons rfl (.cons rfl (.cons rfl (.cons rfl (.cons rfl (.cons rfl (.cons rfl (.cons rfl (.cons rfl (.cons rfl (.cons rfl .nil)))))))))))) ?_
  refine J_it (fun x10 => ⟨fr [(2, APtr (c_api_Types t0)), (3, APtr (c_api_Rule t1)), (4, I_ 0), (5, I_ b1), (11, I_ b1), (12, I_ b1), (25, I_ t1.Right.Vars), (28, I_ t1.Left.Vars), (34, I_ (t1.Right.Tests.length : Int)), (41, I_ (t1.Right.Slots.length : Int)), (46, I_ (t1.Right.Slots.length : Int)), (47, I_ x10)], fun _ => none, 0⟩) (fun E11 hE11 x10 => ?_) (by rfl)
  refine J_seq ?_
  refine J_region rfl ?_
  refine r_lss rfl rfl rfl ?_
  refine R_nil0 ?_
  refine J_seq ?_
  refine J_cond_p rfl (fun h16 => ?_) (fun h16 => ?_)
  rotate_left
  · refine J_exit rfl ?_
    refine J_outS ?_
    refine J_seq ?_
    refine J_region rfl ?_
    refine r_assign (I_ 0) rfl rfl ?_
    refine R_nil0 ?_
    exact J_ret hΨ (Res_one rfl) (fun y hy => by cases hy; rfl)
  refine J_skip ?_
  refine J_seq ?_
  refine J_block ?_
  refine J_seq ?_
  refine J_region rfl ?_
  refine r_move (I_ x10) rfl rfl ?_
  refine r_assign (I_ x10) rfl rfl ?_
  refine R_nil0 ?_
  refine J_seq ?_
  refine J_region rfl ?_
  refine r_lda (c_api_Types t0) ag_59 rfl rfl rfl rfl ?_
  refine r_lda (c_api_Rule t1) ag_37 rfl rfl rfl rfl ?_
  refine r_move (I_ x10) rfl rfl ?_
  refine R_bind fun b17 h18 => ?_
  refine r_call _ fn_134 (k_rule_slot _ _ _ _ h18) rfl rfl ?_
  refine r_assign (I_ b17) rfl rfl ?_
  refine R_nil0 ?_
  refine J_seq ?_
  refine J_region rfl ?_
  refine r_move (I_ b17) rfl rfl ?_
  refine r_neq rfl rfl rfl ?_
  refine R_nil0 ?_
  refine J_cond_p rfl (fun h19 => ?_) (fun h19 => ?_)
  · refine J_seq ?_
    refine J_region rfl ?_
    refine r_move (I_ b17) rfl rfl ?_
    refine r_assign (I_ b17) rfl rfl ?_
    refine R_nil0 ?_
    refine J_outS ?_
    exact J_ret hΨ (Res_one rfl) (fun y hy => by cases hy; rfl)
  refine J_skip ?_
  refine J_inBlock ?_
  refine J_range 41 (m := (t1.Right.Slots.length : Int)) rfl fun q20 => ?_
  refine J_range 6 (m := x10) rfl fun q21 => ?_
  refine J_region rfl ?_
  refine r_add (x10 + 1) rfl rfl (wrap_i64 (by omega) (by omega)) rfl ?_
  refine r_move (I_ (x10 + 1)) rfl rfl ?_
  refine R_nil0 ?_
  refine J_go ?_
  refine J_to [(2, APtr (c_api_Types t0)), (3, APtr (c_api_Rule t1)), (4, I_ 0), (5, I_ b1), (11, I_ b1), (12, I_ b1), (25, I_ t1.Right.Vars), (28, I_ t1.Left.Vars), (34, I_ (t1.Right.Tests.length : Int)), (41, I_ (t1.Right.Slots.length : Int)), (46, I_ (t1.Right.Slots.length : Int)), (47, I_ (x10 + 1))] (.cons rfl (.cons rfl (.cons rfl (.cons rfl (.cons rfl (.cons rfl (.cons rfl (.cons rfl (.cons rfl (.cons rfl (.cons rfl (.cons rfl .nil)))))))))))) ?_
  exact hE11 (x10 + 1)
theorem k_subgraph_list (t0 : (List Int)) (t1 : Int) (r : Int) (hr : subgraph_list t0 t1 = some r) : FnP PP 197 [AL 1 c_i64 t0, I_ t1] (I_ r) := by
  refine FnP.of mixed_ Tryz.func197 rfl (n := 33) rfl (fun (r : Int) => I_ r) nk_args NK.nk rfl hr fun X hΨ => ?_
  refine J_seq ?_
  refine J_region rfl ?_
  refine r_assign (I_ 0) rfl rfl ?_
  refine R_nil0 ?_
  refine J_seq ?_
  refine J_seq ?_
  refine J_region rfl ?_
  refine r_move (AL 1 c_i64 t0) rfl rfl ?_
  refine r_len (cc := c_i64) il_22 rfl rfl ?_
  refine r_move (I_ 0) rfl rfl ?_
  refine R_nil0 ?_
  refine J_block ?_
  refine J_to [(0, AL 1 c_i64 t0), (1, I_ t1), (7, AL 1 c_i64 t0), (8, I_ (t0.length : Int)), (9, I_ 0)] (.cons rfl (.cons rfl (.cons rfl (.cons rfl (.cons rfl .nil))))) ?_
  refine J_it (fun x1 => ⟨fr [(0, AL 1 c_i64 t0), (1, I_ t1), (7, AL 1 c_i64 t0), (8, I_ (t0.length : Int)), (9, I_ x1)], fun _ => none, 0⟩) (fun E2 hE2 x1 => ?_) (by rfl)
  refine J_seq ?_
  refine J_region rfl ?_
  refine r_lss rfl rfl rfl ?_
  refine R_nil0 ?_
  refine J_seq ?_
  refine J_cond_p rfl (fun h12 => ?_) (fun h12 => ?_)
  rotate_left
  · refine J_exit rfl ?_
    refine J_outS ?_
    refine J_seq ?_
    refine J_region rfl ?_
    refine r_assign (I_ 0) rfl rfl ?_
    refine R_nil0 ?_
    exact J_ret hΨ (Res_one rfl) (fun y hy => by cases hy; rfl)
  refine J_skip ?_
  refine J_seq ?_
  refine J_block ?_
  refine J_seq ?_
  refine J_region rfl ?_
  refine r_move (I_ x1) rfl rfl ?_
  refine R_if (fun h13 => ?_) (fun _ => R_none)
  refine r_ix (cc := c_i64) el_22 rfl rfl h13.1 h13.2 rfl ?_
  refine r_ld (I_ (nth t0 x1)) sc_3 rfl rfl rfl ?_
  refine r_assign (I_ x1) rfl rfl ?_
  refine r_assign (I_ (nth t0 x1)) rfl rfl ?_
  refine R_nil0 ?_
  refine J_seq ?_
  refine J_seq ?_
  refine J_region rfl ?_
  refine r_move (I_ (nth t0 x1)) rfl rfl ?_
  refine r_lss rfl rfl rfl ?_
  refine r_move (ABool (decide ((nth t0 x1) < 0))) rfl rfl ?_
  refine R_if (fun h14 => ?_) (fun h14 => ?_)
  · refine R_skip (g_fn rfl rfl (dt h14)) ?_
    refine R_skip (g_fn rfl rfl (dt h14)) ?_
    refine R_skip (g_fn rfl rfl (dt h14)) ?_
    refine r_pickT (ABool true) rfl (dt h14) rfl rfl ?_
    refine R_nil0 ?_
    refine J_cond_T rfl rfl ?_
    refine J_seq ?_
    refine J_region rfl ?_
    refine r_assign (I_ 6) rfl rfl ?_
    refine R_nil0 ?_
    refine J_outS ?_
    exact J_ret hΨ (Res_one rfl) (fun y hy => by cases hy; rfl)
  refine r_move (I_ (nth t0 x1)) rfl (g_f rfl rfl (df h14)) ?_
  refine r_move (I_ t1) rfl (g_f rfl rfl (df h14)) ?_
  refine r_geq rfl rfl (g_f rfl rfl (df h14)) ?_
  refine r_pickF (ABool (decide (t1 ≤ (nth t0 x1)))) rfl (df h14) rfl rfl ?_
  refine R_nil0 ?_
  refine J_cond_p rfl (fun h15 => ?_) (fun h15 => ?_)
  · refine J_seq ?_
    refine J_region rfl ?_
    refine r_assign (I_ 6) rfl rfl ?_
    refine R_nil0 ?_
    refine J_outS ?_
    exact J_ret hΨ (Res_one rfl) (fun y hy => by cases hy; rfl)
  refine J_skip ?_
  refine J_seq ?_
  apply J_joinA (fun v20 => ⟨fr [(0, AL 1 c_i64 t0), (1, I_ t1), (5, I_ x1), (6, I_ (nth t0 x1)), (7, AL 1 c_i64 t0), (8, I_ (t0.length : Int)), (9, I_ x1), (11, I_ x1), (13, I_ (nth t0 x1)), (14, I_ (nth t0 x1)), (17, I_ (nth t0 x1)), (18, I_ t1), (21, I_ x1)], fun _ => none, 0⟩) (fun v20 => subgraph_list_j20 x1 v20)
  · intro K21
    refine J_range 5 (m := x1) rfl fun q17 => ?_
    refine J_region rfl ?_
    refine r_move (I_ x1) rfl rfl ?_
    refine r_gtr rfl rfl rfl ?_
    refine r_move (ABool (decide (0 < x1))) rfl rfl ?_
    refine R_if (fun h16 => ?_) (fun h16 => ?_)
    rotate_left
    · refine R_skip (g_tn rfl rfl (df h16)) ?_
      refine R_skip (g_tn rfl rfl (df h16)) ?_
      refine R_skip (g_tn rfl rfl (df h16)) ?_
      refine R_skip (g_tn rfl rfl (df h16)) ?_
      refine R_skip (g_tn rfl rfl (df h16)) ?_
      refine R_skip (g_tn rfl rfl (df h16)) ?_
      refine R_skip (g_tn rfl rfl (df h16)) ?_
      refine r_pickF (ABool false) rfl (df h16) rfl rfl ?_
      refine R_nil0 ?_
      refine J_cond_F rfl rfl ?_
      refine J_to [(0, AL 1 c_i64 t0), (1, I_ t1), (5, I_ x1), (6, I_ (nth t0 x1)), (7, AL 1 c_i64 t0), (8, I_ (t0.length : Int)), (9, I_ x1), (11, I_ x1), (13, I_ (nth t0 x1)), (14, I_ (nth t0 x1)), (17, I_ (nth t0 x1)), (18, I_ t1), (21, I_ x1)] (.cons rfl (.cons rfl (.cons rfl (.cons rfl (.cons rfl (.cons rfl (.cons rfl (.cons rfl (.cons rfl (.cons rfl (.cons rfl (.cons rfl (.cons rfl .nil))))))))))))) ?_
      exact K21 ()
    refine r_move (I_ (nth t0 x1)) rfl (g_t rfl rfl (dt h16)) ?_
    refine r_move (AL 1 c_i64 t0) rfl (g_t rfl rfl (dt h16)) ?_
    refine r_move (I_ x1) rfl (g_t rfl rfl (dt h16)) ?_
    refine r_sub (x1 - 1) rfl rfl (wrap_i64 (by omega) (by omega)) (g_t rfl rfl (dt h16)) ?_
    refine R_if (fun h18 => ?_) (fun _ => R_none)
    refine r_ix (cc := c_i64) el_22 rfl rfl h18.1 h18.2 (g_t rfl rfl (dt h16)) ?_
    refine r_ld (I_ (nth t0 (x1 - 1))) sc_3 rfl rfl (g_t rfl rfl (dt h16)) ?_
    refine r_leq rfl rfl (g_t rfl rfl (dt h16)) ?_
    refine r_pickT (ABool (decide ((nth t0 x1) ≤ (nth t0 (x1 - 1))))) rfl (dt h16) rfl rfl ?_
    refine R_nil0 ?_
    refine J_cond_p rfl (fun h19 => ?_) (fun h19 => ?_)
    rotate_left
    · refine J_to [(0, AL 1 c_i64 t0), (1, I_ t1), (5, I_ x1), (6, I_ (nth t0 x1)), (7, AL 1 c_i64 t0), (8, I_ (t0.length : Int)), (9, I_ x1), (11, I_ x1), (13, I_ (nth t0 x1)), (14, I_ (nth t0 x1)), (17, I_ (nth t0 x1)), (18, I_ t1), (21, I_ x1)] (.cons rfl (.cons rfl (.cons rfl (.cons rfl (.cons rfl (.cons rfl (.cons rfl (.cons rfl (.cons rfl (.cons rfl (.cons rfl (.cons rfl (.cons rfl .nil))))))))))))) ?_
      exact K21 ()
    refine J_seq ?_
    refine J_region rfl ?_
    refine r_assign (I_ 12) rfl rfl ?_
    refine R_nil0 ?_
    refine J_outS ?_
    exact J_ret hΨ (Res_one rfl) (fun y hy => by cases hy; rfl)
  intro v20
  refine J_skip ?_
  refine J_inBlock ?_
  refine J_range 8 (m := (t0.length : Int)) rfl fun q22 => ?_
  refine J_range 5 (m := x1) rfl fun q23 => ?_
  refine J_region rfl ?_
  refine r_add (x1 + 1) rfl rfl (wrap_i64 (by omega) (by omega)) rfl ?_
  refine r_move (I_ (x1 + 1)) rfl rfl ?_
  refine R_nil0 ?_
  refine J_go ?_
  refine J_to [(0, AL 1 c_i64 t0), (1, I_ t1), (7, AL 1 c_i64 t0), (8, I_ (t0.length : Int)), (9, I_ (x1 + 1))] (.cons rfl (.cons rfl (.cons rfl (.cons rfl (.cons rfl .nil))))) ?_
  exact hE2 (x1 + 1)
theorem k_cmp_isNaN_int (t0 : Int) (r : Bool) (hr : cmp_isNaN_int t0 = some r) : FnP PP 199 [I_ t0] (ABool r) := by
  refine FnP.of mixed_ Tryz.func199 rfl (n := 6) rfl (fun (r : Bool) => ABool r) nk_args NK.nk rfl hr fun X hΨ => ?_
  refine J_seq ?_
  refine J_region rfl ?_
  refine r_assign (ABool false) rfl rfl ?_
  refine R_nil0 ?_
  refine J_seq ?_
  refine J_region rfl ?_
  refine r_move (I_ t0) rfl rfl ?_
  refine r_move (I_ t0) rfl rfl ?_
  refine r_neq rfl rfl rfl ?_
  refine r_assign (ABool (decide (¬ (t0 = t0)))) rfl rfl ?_
  refine R_nil0 ?_
  exact J_ret hΨ (Res_one rfl) (fun y hy => by cases hy; rfl)
theorem k_cmp_Less_int (t0 : Int) (t1 : Int) (r : Bool) (hr : cmp_Less_int t0 t1 = some r) : FnP PP 145 [I_ t0, I_ t1] (ABool r) := by
  refine FnP.of mixed_ Tryz.func145 rfl (n := 17) rfl (fun (r : Bool) => ABool r) nk_args NK.nk rfl hr fun X hΨ => ?_
  refine J_seq ?_
  refine J_region rfl ?_
  refine r_assign (ABool false) rfl rfl ?_
  refine R_nil0 ?_
  refine J_seq ?_
  refine J_region rfl ?_
  refine r_move (I_ t0) rfl rfl ?_
  refine R_bind fun b1 h2 => ?_
  refine r_call _ fn_199 (k_cmp_isNaN_int _ _ h2) rfl rfl ?_
  refine r_move (ABool b1) rfl rfl ?_
  refine R_if (fun h3 => ?_) (fun h3 => ?_)
  rotate_left
  · refine R_skip (g_tn rfl rfl (bf h3)) ?_
    refine R_skip (g_tn rfl rfl (bf h3)) ?_
    refine R_skip (g_tn rfl rfl (bf h3)) ?_
    refine r_pickF (ABool false) rfl (bf h3) rfl rfl ?_
    refine r_move (ABool false) rfl rfl ?_
    refine r_move (I_ t0) rfl (g_f rfl rfl rfl) ?_
    refine r_move (I_ t1) rfl (g_f rfl rfl rfl) ?_
    refine r_lss rfl rfl (g_f rfl rfl rfl) ?_
    refine r_pickF (ABool (decide (t0 < t1))) rfl rfl rfl rfl ?_
    refine r_assign (ABool (decide (t0 < t1))) rfl rfl ?_
    refine R_nil0 ?_
    exact J_ret hΨ (Res_one rfl) (fun y hy => by cases hy; rfl)
  refine r_move (I_ t1) rfl (g_t rfl rfl h3) ?_
  refine R_bind fun b4 h5 => ?_
  refine r_call _ fn_199 (k_cmp_isNaN_int _ _ h5) rfl (g_t rfl rfl h3) ?_
  refine r_not rfl (g_t rfl rfl h3) ?_
  refine r_pickT (ABool (!b4)) rfl h3 rfl rfl ?_
  refine r_move (ABool (!b4)) rfl rfl ?_
  refine R_if (fun h6 => ?_) (fun h6 => ?_)
  · refine R_skip (g_fn rfl rfl h6) ?_
    refine R_skip (g_fn rfl rfl h6) ?_
    refine R_skip (g_fn rfl rfl h6) ?_
    refine r_pickT (ABool true) rfl h6 rfl rfl ?_
    refine r_assign (ABool true) rfl rfl ?_
    refine R_nil0 ?_
    exact J_ret hΨ (Res_one rfl) (fun y hy => by cases hy; rfl)
  refine r_move (I_ t0) rfl (g_f rfl rfl (bf h6)) ?_
  refine r_move (I_ t1) rfl (g_f rfl rfl (bf h6)) ?_
  refine r_lss rfl rfl (g_f rfl rfl (bf h6)) ?_
  refine r_pickF (ABool (decide (t0 < t1))) rfl (bf h6) rfl rfl ?_
  refine r_assign (ABool (decide (t0 < t1))) rfl rfl ?_
  refine R_nil0 ?_
  exact J_ret hΨ (Res_one rfl) (fun y hy => by cases hy; rfl)
theorem k_slices_isNaN_int (t0 : Int) (r : Bool) (hr : slices_isNaN_int t0 = some r) : FnP PP 146 [I_ t0] (ABool r) := by
  refine FnP.of mixed_ Tryz.func146 rfl (n := 6) rfl (fun (r : Bool) => ABool r) nk_args NK.nk rfl hr fun X hΨ => ?_
  refine J_seq ?_
  refine J_region rfl ?_
  refine r_assign (ABool false) rfl rfl ?_
  refine R_nil0 ?_
  refine J_seq ?_
  refine J_region rfl ?_
  refine r_move (I_ t0) rfl rfl ?_
  refine r_move (I_ t0) rfl rfl ?_
  refine r_neq rfl rfl rfl ?_
  refine r_assign (ABool (decide (¬ (t0 = t0)))) rfl rfl ?_
  refine R_nil0 ?_
  exact J_ret hΨ (Res_one rfl) (fun y hy => by cases hy; rfl)
theorem k_slices_BinarySearch_int (t0 : (List Int)) (t1 : Int) (r : Int × Bool) (hr : slices_BinarySearch_int t0 t1 = some r) : FnP PP 87 [AL 1 c_i64 t0, I_ t1] (ATup [I_ r.1, ABool r.2]) := by
  refine FnP.of mixed_ Tryz.func87 rfl (n := 54) rfl (fun (r : Int × Bool) => ATup [I_ r.1, ABool r.2]) nk_args NK.nk rfl hr fun X hΨ => ?_
  refine J_seq ?_
  refine J_region rfl ?_
  refine r_assign (I_ 0) rfl rfl ?_
  refine r_assign (ABool false) rfl rfl ?_
  refine R_nil0 ?_
  refine J_seq ?_
  refine J_region rfl ?_
  refine r_move (AL 1 c_i64 t0) rfl rfl ?_
  refine r_len (cc := c_i64) il_22 rfl rfl ?_
  refine r_assign (I_ (t0.length : Int)) rfl rfl ?_
  refine R_nil0 ?_
  refine J_seq ?_
  refine J_region rfl ?_
  refine r_move (I_ (t0.length : Int)) rfl rfl ?_
  refine r_assign (I_ 0) rfl rfl ?_
  refine r_assign (I_ (t0.length : Int)) rfl rfl ?_
  refine R_nil0 ?_
  refine J_seq ?_
  refine J_block ?_
  refine J_to [(0, AL 1 c_i64 t0), (1, I_ t1), (6, I_ (t0.length : Int)), (7, I_ 0), (8, I_ (t0.length : Int))] (.cons rfl (.cons rfl (.cons rfl (.cons rfl (.cons rfl .nil))))) ?_
  refine J_it (fun x1 => ⟨fr [(0, AL 1 c_i64 t0), (1, I_ t1), (6, I_ (t0.length : Int)), (7, I_ x1.1), (8, I_ x1.2)], fun _ => none, 0⟩) (fun E2 hE2 x1 => ?_) (by rfl)
  refine J_seq ?_
  refine J_seq ?_
  refine J_region rfl ?_
  refine r_move (I_ x1.1) rfl rfl ?_
  refine r_move (I_ x1.2) rfl rfl ?_
  refine r_lss rfl rfl rfl ?_
  refine R_nil0 ?_
  refine J_cond_p rfl (fun h20 => ?_) (fun h20 => ?_)
  · refine J_skip ?_
    refine J_block ?_
    refine J_seq ?_
    refine J_region rfl ?_
    refine r_move (I_ x1.1) rfl rfl ?_
    refine r_move (I_ x1.2) rfl rfl ?_
    refine R_bind fun b21 h22 => ?_
    refine r_add b21 rfl rfl (Option.some.inj h22) rfl ?_
    refine R_bind fun b23 h24 => ?_
    refine r_convW b23 us_3 ut_201 rfl (Option.some.inj h24) rfl ?_
    refine R_bind fun b25 h26 => ?_
    refine r_shr b25 rfl rfl (by decide) (Option.some.inj h26) rfl ?_
    refine R_bind fun b27 h28 => ?_
    refine r_convW b27 us_201 ut_3 rfl (Option.some.inj h28) rfl ?_
    refine r_assign (I_ b27) rfl rfl ?_
    refine R_nil0 ?_
    refine J_seq ?_
    refine J_region rfl ?_
    refine r_move (AL 1 c_i64 t0) rfl rfl ?_
    refine r_move (I_ b27) rfl rfl ?_
    refine R_if (fun h29 => ?_) (fun _ => R_none)
    refine r_ix (cc := c_i64) el_22 rfl rfl h29.1 h29.2 rfl ?_
    refine r_ld (I_ (nth t0 b27)) sc_3 rfl rfl rfl ?_
    refine r_move (I_ t1) rfl rfl ?_
    refine R_bind fun b30 h31 => ?_
    refine r_call _ fn_145 (k_cmp_Less_int _ _ _ h31) rfl rfl ?_
    refine R_nil0 ?_
    apply J_joinA (fun v35 => ⟨fr [(0, AL 1 c_i64 t0), (1, I_ t1), (6, I_ (t0.length : Int)), (7, I_ v35.1), (8, I_ v35.2), (9, I_ b27), (13, I_ x1.1), (14, I_ x1.2), (16, I_ x1.1), (17, I_ x1.2), (21, I_ b27), (23, I_ b27)], fun _ => none, 0⟩) (fun v35 => slices_BinarySearch_int_j35 v35)
    · intro K36
      refine J_cond rfl (fun h32 => ?_) (fun h32 => ?_)
      rotate_left
      · refine J_region rfl ?_
        refine r_move (I_ b27) rfl rfl ?_
        refine r_assign (I_ b27) rfl rfl ?_
        refine R_nil0 ?_
        refine J_to [(0, AL 1 c_i64 t0), (1, I_ t1), (6, I_ (t0.length : Int)), (7, I_ x1.1), (8, I_ b27), (9, I_ b27), (13, I_ x1.1), (14, I_ x1.2), (16, I_ x1.1), (17, I_ x1.2), (21, I_ b27), (23, I_ b27)] (.cons rfl (.cons rfl (.cons rfl (.cons rfl (.cons rfl (.cons rfl (.cons rfl (.cons rfl (.cons rfl (.cons rfl (.cons rfl (.cons rfl .nil)))))))))))) ?_
        exact K36 (x1.1, b27)
      refine J_region rfl ?_
      refine r_move (I_ b27) rfl rfl ?_
      refine R_bind fun b33 h34 => ?_
      refine r_add b33 rfl rfl (Option.some.inj h34) rfl ?_
      refine r_assign (I_ b33) rfl rfl ?_
      refine R_nil0 ?_
      refine J_to [(0, AL 1 c_i64 t0), (1, I_ t1), (6, I_ (t0.length : Int)), (7, I_ b33), (8, I_ x1.2), (9, I_ b27), (13, I_ x1.1), (14, I_ x1.2), (16, I_ x1.1), (17, I_ x1.2), (21, I_ b27), (23, I_ b27)] (.cons rfl (.cons rfl (.cons rfl (.cons rfl (.cons rfl (.cons rfl (.cons rfl (.cons rfl (.cons rfl (.cons rfl (.cons rfl (.cons rfl .nil)))))))))))) ?_
      exact K36 (b33, x1.2)
    intro v35
    refine J_inBlock ?_
    refine J_go ?_
    refine J_to [(0, AL 1 c_i64 t0), (1, I_ t1), (6, I_ (t0.length : Int)), (7, I_ v35.1), (8, I_ v35.2)] (.cons rfl (.cons rfl (.cons rfl (.cons rfl (.cons rfl .nil))))) ?_
    exact hE2 (v35.1, v35.2)
  refine J_exit rfl ?_
  refine J_out ?_
  refine J_seq ?_
  refine J_region rfl ?_
  refine r_move (I_ x1.1) rfl rfl ?_
  refine r_move (I_ x1.1) rfl rfl ?_
  refine r_move (I_ (t0.length : Int)) rfl rfl ?_
  refine r_lss rfl rfl rfl ?_
  refine r_move (ABool (decide (x1.1 < (t0.length : Int)))) rfl rfl ?_
  refine R_if (fun h37 => ?_) (fun h37 => ?_)
  rotate_left
  · refine R_skip (g_tn rfl rfl (df h37)) ?_
    refine R_skip (g_tn rfl rfl (df h37)) ?_
    refine R_skip (g_tn rfl rfl (df h37)) ?_
    refine R_skip (g_tn rfl rfl (df h37)) ?_
    refine R_skip (g_tn rfl rfl (df h37)) ?_
    refine R_skip (g_tn rfl rfl (df h37)) ?_
    refine R_skip (g_tn rfl rfl (df h37)) ?_
    refine R_skip (g_u rfl rfl) ?_
    refine R_skip (g_u rfl rfl) ?_
    refine R_skip (g_u rfl rfl) ?_
    refine R_skip (g_u rfl rfl) ?_
    refine R_skip (g_u rfl rfl) ?_
    refine R_skip (g_u rfl rfl) ?_
    refine R_skip (g_u rfl rfl) ?_
    refine R_skip (g_u rfl rfl) ?_
    refine R_skip (g_u rfl rfl) ?_
    refine R_skip (g_tn rfl rfl (df h37)) ?_
    refine r_pickF (ABool false) rfl (df h37) rfl rfl ?_
    refine r_assign (I_ x1.1) rfl rfl ?_
    refine r_assign (ABool false) rfl rfl ?_
    refine R_nil0 ?_
    exact J_ret hΨ (Res_many (As := [I_ x1.1, ABool false]) rfl rfl (.cons (.tmp (A := I_ x1.1) rfl) (.cons (.tmp (A := ABool false) rfl) .nil))) (fun y hy => by cases hy; rfl)
  refine r_move (AL 1 c_i64 t0) rfl (g_t rfl rfl (dt h37)) ?_
  refine r_move (I_ x1.1) rfl (g_t rfl rfl (dt h37)) ?_
  refine R_if (fun h38 => ?_) (fun _ => R_none)
  refine r_ix (cc := c_i64) el_22 rfl rfl h38.1 h38.2 (g_t rfl rfl (dt h37)) ?_
  refine r_ld (I_ (nth t0 x1.1)) sc_3 rfl rfl (g_t rfl rfl (dt h37)) ?_
  refine r_move (I_ t1) rfl (g_t rfl rfl (dt h37)) ?_
  refine r_eql rfl rfl (g_t rfl rfl (dt h37)) ?_
  refine r_move (ABool (decide ((nth t0 x1.1) = t1))) rfl (g_t rfl rfl (dt h37)) ?_
  refine R_if (fun h39 => ?_) (fun h39 => ?_)
  · refine R_skip (g_fn rfl rfl (dt h39)) ?_
    refine R_skip (g_fn rfl rfl (dt h39)) ?_
    refine R_skip (g_fn rfl rfl (dt h39)) ?_
    refine R_skip (g_fn rfl rfl (dt h39)) ?_
    refine R_skip (g_fn rfl rfl (dt h39)) ?_
    refine R_skip (g_fn rfl rfl (dt h39)) ?_
    refine R_skip (g_u rfl rfl) ?_
    refine R_skip (g_u rfl rfl) ?_
    refine R_skip (g_fn rfl rfl (dt h39)) ?_
    refine r_pickT (ABool true) rfl (dt h39) rfl (g_t rfl rfl (dt h37)) ?_
    refine r_pickT (ABool true) rfl (dt h37) rfl rfl ?_
    refine r_assign (I_ x1.1) rfl rfl ?_
    refine r_assign (ABool true) rfl rfl ?_
    refine R_nil0 ?_
    exact J_ret hΨ (Res_many (As := [I_ x1.1, ABool true]) rfl rfl (.cons (.tmp (A := I_ x1.1) rfl) (.cons (.tmp (A := ABool true) rfl) .nil))) (fun y hy => by cases hy; rfl)
  refine r_move (AL 1 c_i64 t0) rfl (g_f rfl rfl (df h39)) ?_
  refine r_move (I_ x1.1) rfl (g_f rfl rfl (df h39)) ?_
  refine r_ix (cc := c_i64) el_22 rfl rfl h38.1 h38.2 (g_f rfl rfl (df h39)) ?_
  refine r_ld (I_ (nth t0 x1.1)) sc_3 rfl rfl (g_f rfl rfl (df h39)) ?_
  refine R_bind fun b40 h41 => ?_
  refine r_call _ fn_146 (k_slices_isNaN_int _ _ h41) rfl (g_f rfl rfl (df h39)) ?_
  refine r_move (ABool b40) rfl (g_f rfl rfl (df h39)) ?_
  refine R_if (fun h42 => ?_) (fun h42 => ?_)
  rotate_left
  · refine R_skip (g_tn rfl rfl (bf h42)) ?_
    refine R_skip (g_tn rfl rfl (bf h42)) ?_
    refine r_pickF (ABool false) rfl (bf h42) rfl (g_f rfl rfl (df h39)) ?_
    refine r_pickF (ABool false) rfl (df h39) rfl (g_t rfl rfl (dt h37)) ?_
    refine r_pickT (ABool false) rfl (dt h37) rfl rfl ?_
    refine r_assign (I_ x1.1) rfl rfl ?_
    refine r_assign (ABool false) rfl rfl ?_
    refine R_nil0 ?_
    exact J_ret hΨ (Res_many (As := [I_ x1.1, ABool false]) rfl rfl (.cons (.tmp (A := I_ x1.1) rfl) (.cons (.tmp (A := ABool false) rfl) .nil))) (fun y hy => by cases hy; rfl)
  refine r_move (I_ t1) rfl (g_t rfl rfl h42) ?_
  refine R_bind fun b43 h44 => ?_
  refine r_call _ fn_146 (k_slices_isNaN_int _ _ h44) rfl (g_t rfl rfl h42) ?_
  refine r_pickT (ABool b43) rfl h42 rfl (g_f rfl rfl (df h39)) ?_
  refine r_pickF (ABool b43) rfl (df h39) rfl (g_t rfl rfl (dt h37)) ?_
  refine r_pickT (ABool b43) rfl (dt h37) rfl rfl ?_
  refine r_assign (I_ x1.1) rfl rfl ?_
  refine r_assign (ABool b43) rfl rfl ?_
  refine R_nil0 ?_
  exact J_ret hΨ (Res_many (As := [I_ x1.1, ABool b43]) rfl rfl (.cons (.tmp (A := I_ x1.1) rfl) (.cons (.tmp (A := ABool b43) rfl) .nil))) (fun y hy => by cases hy; rfl)
theorem k_subgraph_has (t0 : (List Int)) (t1 : Int) (r : Bool) (hr : subgraph_has t0 t1 = some r) : FnP PP 198 [AL 1 c_i64 t0, I_ t1] (ABool r) := by
  refine FnP.of mixed_ Tryz.func198 rfl (n := 14) rfl (fun (r : Bool) => ABool r) nk_args NK.nk rfl hr fun X hΨ => ?_
  refine J_seq ?_
  refine J_region rfl ?_
  refine r_assign (ABool false) rfl rfl ?_
  refine R_nil0 ?_
  refine J_seq ?_
  refine J_region rfl ?_
  refine r_move (AL 1 c_i64 t0) rfl rfl ?_
  refine r_move (I_ t1) rfl rfl ?_
  refine R_bind fun b1 h2 => ?_
  refine r_call _ fn_87 (k_slices_BinarySearch_int _ _ _ h2) rfl rfl ?_
  refine r_move (ATup [I_ b1.1, ABool b1.2]) rfl rfl ?_
  refine r_ext (I_ b1.1) rfl rfl rfl ?_
  refine r_ext (ABool b1.2) rfl rfl rfl ?_
  refine r_assign (I_ b1.1) rfl rfl ?_
  refine r_assign (ABool b1.2) rfl rfl ?_
  refine R_nil0 ?_
  refine J_seq ?_
  refine J_region rfl ?_
  refine r_move (ABool b1.2) rfl rfl ?_
  refine r_assign (ABool b1.2) rfl rfl ?_
  refine R_nil0 ?_
  exact J_ret hΨ (Res_one rfl) (fun y hy => by cases hy; rfl)
theorem k_subgraph_part (t0 : api_Graph) (t1 : api_Part) (r : Int) (hr : subgraph_part t0 t1 = some r) : FnP PP 144 [AAgg (c_api_Graph t0), AAgg (c_api_Part t1)] (I_ r) := by
  refine FnP.of mixed_ Tryz.func144 rfl (n := 57) rfl (fun (r : Int) => I_ r) nk_args NK.nk rfl hr fun X hΨ => ?_
  refine J_seq ?_
  refine J_region rfl ?_
  refine r_boxV (AAgg (c_api_Graph t0)) rfl rfl ?_
  refine r_boxV (AAgg (c_api_Part t1)) rfl rfl ?_
  refine r_assign (I_ 0) rfl rfl ?_
  refine R_nil0 ?_
  refine J_seq ?_
  refine J_seq ?_
  refine J_region rfl ?_
  refine r_faT ((cL 1 c_i64) t1.Nodes) fo_31_0 rfl rfl rfl ?_
  refine r_ld (AL 1 c_i64 t1.Nodes) sc_22 rfl rfl rfl ?_
  refine r_faT ((cL 1 c_i64) t0.Nodes) fo_25_0 rfl rfl rfl ?_
  refine r_ld (AL 1 c_i64 t0.Nodes) sc_22 rfl rfl rfl ?_
  refine r_len (cc := c_i64) il_22 rfl rfl ?_
  refine R_bind fun b1 h2 => ?_
  refine r_call _ fn_197 (k_subgraph_list _ _ _ h2) rfl rfl ?_
  refine r_assign (I_ b1) rfl rfl ?_
  refine R_nil0 ?_
  refine J_seq ?_
  refine J_region rfl ?_
  refine r_move (I_ b1) rfl rfl ?_
  refine r_neq rfl rfl rfl ?_
  refine R_nil0 ?_
  refine J_cond_p rfl (fun h3 => ?_) (fun h3 => ?_)
  · refine J_seq ?_
    refine J_region rfl ?_
    refine r_move (I_ b1) rfl rfl ?_
    refine r_assign (I_ b1) rfl rfl ?_
    refine R_nil0 ?_
    exact J_ret hΨ (Res_one rfl) (fun y hy => by cases hy; rfl)
  refine J_skip ?_
  refine J_seq ?_
  refine J_seq ?_
  refine J_region rfl ?_
  refine r_faT ((cL 1 c_i64) t1.Edges) fo_31_1 rfl rfl rfl ?_
  refine r_ld (AL 1 c_i64 t1.Edges) sc_22 rfl rfl rfl ?_
  refine r_faT ((cL 3 c_api_Edge) t0.Edges) fo_25_1 rfl rfl rfl ?_
  refine r_ld (AL 3 c_api_Edge t0.Edges) sc_23 rfl rfl rfl ?_
  refine r_len (cc := c_api_Edge) il_23 rfl rfl ?_
  refine R_bind fun b4 h5 => ?_
  refine r_call _ fn_197 (k_subgraph_list _ _ _ h5) rfl rfl ?_
  refine r_assign (I_ b4) rfl rfl ?_
  refine R_nil0 ?_
  refine J_seq ?_
  refine J_region rfl ?_
  refine r_move (I_ b4) rfl rfl ?_
  refine r_neq rfl rfl rfl ?_
  refine R_nil0 ?_
  refine J_cond_p rfl (fun h6 => ?_) (fun h6 => ?_)
  · refine J_seq ?_
    refine J_region rfl ?_
    refine r_move (I_ b4) rfl rfl ?_
    refine r_assign (I_ b4) rfl rfl ?_
    refine R_nil0 ?_
    exact J_ret hΨ (Res_one rfl) (fun y hy => by cases hy; rfl)
  refine J_skip ?_
  refine J_seq ?_
  refine J_seq ?_
  refine J_region rfl ?_
  refine r_faT ((cL 1 c_i64) t1.Edges) fo_31_1 rfl rfl rfl ?_
  refine r_ld (AL 1 c_i64 t1.Edges) sc_22 rfl rfl rfl ?_
  refine r_len (cc := c_i64) il_22 rfl rfl ?_
  refine r_move (I_ 0) rfl rfl ?_
  refine R_nil0 ?_
  refine J_block ?_
  refine J_to [(2, APtr (c_api_Graph t0)), (3, APtr (c_api_Part t1)), (4, I_ 0), (5, I_ b1), (6, I_ b4), (14, I_ b1), (15, I_ b1), (23, I_ b4), (24, I_ b4), (28, AL 1 c_i64 t1.Edges), (29, I_ (t1.Edges.length : Int)), (30, I_ 0)] (.cons rfl (.cons rfl (.cons rfl (.cons rfl (.cons rfl (.cons rfl (.cons rfl (.cons rfl (.cons rfl (.cons rfl (.cons rfl (.cons rfl .nil)))))))))))) ?_
  refine J_it (fun x7 => ⟨fr [(2, APtr (c_api_Graph t0)), (3, APtr (c_api_Part t1)), (4, I_ 0), (5, I_ b1), (6, I_ b4), (14, I_ b1), (15, I_ b1), (23, I_ b4), (24, I_ b4), (28, AL 1 c_i64 t1.Edges), (29, I_ (t1.Edges.length : Int)), (30, I_ x7)], fun _ => none, 0⟩) (fun E8 hE8 x7 => ?_) (by rfl)
  refine J_seq ?_
  refine J_region rfl ?_
  refine r_lss rfl rfl rfl ?_
  refine R_nil0 ?_
  refine J_seq ?_
  refine J_cond_p rfl (fun h18 => ?_) (fun h18 => ?_)
  rotate_left
  · refine J_exit rfl ?_
    refine J_outS ?_
    refine J_seq ?_
    refine J_region rfl ?_
    refine r_assign (I_ 0) rfl rfl ?_
    refine R_nil0 ?_
    exact J_ret hΨ (Res_one rfl) (fun y hy => by cases hy; rfl)
  refine J_skip ?_
  refine J_seq ?_
  refine J_block ?_
  refine J_seq ?_
  refine J_region rfl ?_
  refine R_if (fun h19 => ?_) (fun _ => R_none)
  refine r_ix (cc := c_i64) el_22 rfl rfl h19.1 h19.2 rfl ?_
  refine r_ld (I_ (nth t1.Edges x7)) sc_3 rfl rfl rfl ?_
  refine r_assign (I_ (nth t1.Edges x7)) rfl rfl ?_
  refine R_nil0 ?_
  refine J_seq ?_
  refine J_draw ?_
  refine r_faT ((cL 1 c_i64) t1.Nodes) fo_31_0 rfl rfl rfl ?_
  refine r_ld (AL 1 c_i64 t1.Nodes) sc_22 rfl rfl rfl ?_
  refine r_faT ((cL 3 c_api_Edge) t0.Edges) fo_25_1 rfl rfl rfl ?_
  refine r_ld (AL 3 c_api_Edge t0.Edges) sc_23 rfl rfl rfl ?_
  refine r_move (I_ (nth t1.Edges x7)) rfl rfl ?_
  refine R_if (fun h20 => ?_) (fun _ => R_none)
  refine r_ix (cc := c_api_Edge) el_23 rfl rfl h20.1 h20.2 rfl ?_
  refine r_faT (c_i64 ((nth t0.Edges (nth t1.Edges x7)).From)) fo_135_1 rfl rfl rfl ?_
  refine r_ld (I_ ((nth t0.Edges (nth t1.Edges x7)).From)) sc_3 rfl rfl rfl ?_
  refine R_bind fun b21 h22 => ?_
  refine r_call _ fn_198 (k_subgraph_has _ _ _ h22) rfl rfl ?_
  refine r_not rfl rfl ?_
  refine r_move (ABool (!b21)) rfl rfl ?_
  refine R_if (fun h23 => ?_) (fun h23 => ?_)
  · refine R_skip (g_fn rfl rfl h23) ?_
    refine R_skip (g_fn rfl rfl h23) ?_
    refine R_skip (g_fn rfl rfl h23) ?_
    refine R_skip (g_fn rfl rfl h23) ?_
    refine R_skip (g_fn rfl rfl h23) ?_
    refine R_skip (g_fn rfl rfl h23) ?_
    refine R_skip (g_fn rfl rfl h23) ?_
    refine R_skip (g_fn rfl rfl h23) ?_
    refine R_skip (g_fn rfl rfl h23) ?_
    refine R_skip (g_fn rfl rfl h23) ?_
    refine r_pickT (ABool true) rfl h23 rfl rfl ?_
    refine R_nilD rfl ?_
    refine J_cond_T rfl rfl ?_
    refine J_seq ?_
    refine J_region rfl ?_
    refine r_assign (I_ 14) rfl rfl ?_
    refine R_nil0 ?_
    refine J_outS ?_
    exact J_ret hΨ (Res_one rfl) (fun y hy => by cases hy; rfl)
  refine r_faT ((cL 1 c_i64) t1.Nodes) fo_31_0 rfl rfl (g_f rfl rfl (bf h23)) ?_
  refine r_ld (AL 1 c_i64 t1.Nodes) sc_22 rfl rfl (g_f rfl rfl (bf h23)) ?_
  refine r_faT ((cL 3 c_api_Edge) t0.Edges) fo_25_1 rfl rfl (g_f rfl rfl (bf h23)) ?_
  refine r_ld (AL 3 c_api_Edge t0.Edges) sc_23 rfl rfl (g_f rfl rfl (bf h23)) ?_
  refine r_move (I_ (nth t1.Edges x7)) rfl (g_f rfl rfl (bf h23)) ?_
  refine r_ix (cc := c_api_Edge) el_23 rfl rfl h20.1 h20.2 (g_f rfl rfl (bf h23)) ?_
  refine r_faT (c_i64 ((nth t0.Edges (nth t1.Edges x7)).To)) fo_135_2 rfl rfl (g_f rfl rfl (bf h23)) ?_
  refine r_ld (I_ ((nth t0.Edges (nth t1.Edges x7)).To)) sc_3 rfl rfl (g_f rfl rfl (bf h23)) ?_
  refine R_bind fun b24 h25 => ?_
  refine r_call _ fn_198 (k_subgraph_has _ _ _ h25) rfl (g_f rfl rfl (bf h23)) ?_
  refine r_not rfl (g_f rfl rfl (bf h23)) ?_
  refine r_pickF (ABool (!b24)) rfl (bf h23) rfl rfl ?_
  refine R_nilD rfl ?_
  refine J_cond rfl (fun h26 => ?_) (fun h26 => ?_)
  · refine J_seq ?_
    refine J_region rfl ?_
    refine r_assign (I_ 14) rfl rfl ?_
    refine R_nil0 ?_
    refine J_outS ?_
    exact J_ret hΨ (Res_one rfl) (fun y hy => by cases hy; rfl)
  refine J_skip ?_
  refine J_inBlock ?_
  refine J_range 29 (m := (t1.Edges.length : Int)) rfl fun q27 => ?_
  refine J_range 30 (m := x7) rfl fun q28 => ?_
  refine J_region rfl ?_
  refine r_add (x7 + 1) rfl rfl (wrap_i64 (by omega) (by omega)) rfl ?_
  refine r_move (I_ (x7 + 1)) rfl rfl ?_
  refine R_nil0 ?_
  refine J_go ?_
  refine J_to [(2, APtr (c_api_Graph t0)), (3, APtr (c_api_Part t1)), (4, I_ 0), (5, I_ b1), (6, I_ b4), (14, I_ b1), (15, I_ b1), (23, I_ b4), (24, I_ b4), (28, AL 1 c_i64 t1.Edges), (29, I_ (t1.Edges.length : Int)), (30, I_ (x7 + 1))] (.cons rfl (.cons rfl (.cons rfl (.cons rfl (.cons rfl (.cons rfl (.cons rfl (.cons rfl (.cons rfl (.cons rfl (.cons rfl (.cons rfl .nil)))))))))))) ?_
  exact hE8 (x7 + 1)
theorem k_subgraph_Valid (t0 : api_Graph) (t1 : api_Part) (r : Int) (hr : subgraph_Valid t0 t1 = some r) : FnP PP 86 [AAgg (c_api_Graph t0), AAgg (c_api_Part t1)] (I_ r) := by
  refine FnP.of mixed_ Tryz.func86 rfl (n := 14) rfl (fun (r : Int) => I_ r) nk_args NK.nk rfl hr fun X hΨ => ?_
  refine J_seq ?_
  refine J_region rfl ?_
  refine r_boxV (AAgg (c_api_Graph t0)) rfl rfl ?_
  refine r_boxV (AAgg (c_api_Part t1)) rfl rfl ?_
  refine r_assign (I_ 0) rfl rfl ?_
  refine R_nil0 ?_
  refine J_seq ?_
  refine J_seq ?_
  refine J_region rfl ?_
  refine r_lda (c_api_Graph t0) ag_25 rfl rfl rfl rfl ?_
  refine R_bind fun b1 h2 => ?_
  refine r_call _ fn_36 (k_graph_Valid _ _ h2) rfl rfl ?_
  refine r_assign (I_ b1) rfl rfl ?_
  refine R_nil0 ?_
  refine J_seq ?_
  refine J_region rfl ?_
  refine r_move (I_ b1) rfl rfl ?_
  refine r_neq rfl rfl rfl ?_
  refine R_nil0 ?_
  refine J_cond_p rfl (fun h3 => ?_) (fun h3 => ?_)
  · refine J_seq ?_
    refine J_region rfl ?_
    refine r_move (I_ b1) rfl rfl ?_
    refine r_assign (I_ b1) rfl rfl ?_
    refine R_nil0 ?_
    exact J_ret hΨ (Res_one rfl) (fun y hy => by cases hy; rfl)
  refine J_skip ?_
  refine J_seq ?_
  refine J_region rfl ?_
  refine r_lda (c_api_Graph t0) ag_25 rfl rfl rfl rfl ?_
  refine r_lda (c_api_Part t1) ag_31 rfl rfl rfl rfl ?_
  refine R_bind fun b4 h5 => ?_
  refine r_call _ fn_144 (k_subgraph_part _ _ _ h5) rfl rfl ?_
  refine r_assign (I_ b4) rfl rfl ?_
  refine R_nil0 ?_
  exact J_ret hΨ (Res_one rfl) (fun y hy => by cases hy; rfl)
theorem k_subgraph_Extract (t0 : api_Graph) (t1 : api_Part) (r : api_Graph × api_Morphism × Int) (hr : subgraph_Extract t0 t1 = some r) : FnP PP 37 [AAgg (c_api_Graph t0), AAgg (c_api_Part t1)] (ATup [AAgg (c_api_Graph r.1), AAgg (c_api_Morphism r.2.1), I_ r.2.2]) := by
  refine FnP.of mixed_ Tryz.func37 rfl (n := 85) rfl (fun (r : api_Graph × api_Morphism × Int) => ATup [AAgg (c_api_Graph r.1), AAgg (c_api_Morphism r.2.1), I_ r.2.2]) nk_args NK.nk rfl hr fun X hΨ => ?_
  refine J_seq ?_
  refine J_region rfl ?_
  refine r_boxV (AAgg (c_api_Graph t0)) rfl rfl ?_
  refine r_boxV (AAgg (c_api_Part t1)) rfl rfl ?_
  refine r_alloc 0 _ z_25 rfl rfl ?_
  refine r_alloc 1 _ z_32 rfl rfl ?_
  refine r_assign (I_ 0) rfl rfl ?_
  refine R_nil0 ?_
  refine J_seq ?_
  refine J_seq ?_
  refine J_region rfl ?_
  refine r_lda (c_api_Graph t0) ag_25 rfl rfl rfl rfl ?_
  refine r_lda (c_api_Part t1) ag_31 rfl rfl rfl rfl ?_
  refine R_bind fun b1 h2 => ?_
  refine r_call _ fn_86 (k_subgraph_Valid _ _ _ h2) rfl rfl ?_
  refine r_assign (I_ b1) rfl rfl ?_
  refine R_nil0 ?_
  refine J_seq ?_
  refine J_region rfl ?_
  refine r_move (I_ b1) rfl rfl ?_
  refine r_neq rfl rfl rfl ?_
  refine R_nil0 ?_
  refine J_cond_p rfl (fun h3 => ?_) (fun h3 => ?_)
  · refine J_seq ?_
    refine J_region rfl ?_
    refine r_buildI (Cs := [ANil, ANil]) (c_api_Graph (api_Graph.mk [] [])) pl_25 z_25 .nil rfl (.nl (.nl .nil)) rfl ?_
    refine r_buildI (Cs := [ANil, ANil]) (c_api_Morphism (api_Morphism.mk [] [])) pl_32 z_32 .nil rfl (.nl (.nl .nil)) rfl ?_
    refine r_move (I_ b1) rfl rfl ?_
    refine r_stO (AObj 0) (AAgg (c_api_Graph (api_Graph.mk [] []))) (c_api_Graph (api_Graph.mk [] [])) sz_25 rfl .obj rfl rfl rfl rfl rfl rfl ?_
    refine r_stO (AObj 1) (AAgg (c_api_Morphism (api_Morphism.mk [] []))) (c_api_Morphism (api_Morphism.mk [] [])) sz_32 rfl .obj rfl rfl rfl rfl rfl rfl ?_
    refine r_assign (I_ b1) rfl rfl ?_
    refine R_nil0 ?_
    exact J_ret hΨ (Res_many (As := [AAgg (c_api_Graph (api_Graph.mk [] [])), AAgg (c_api_Morphism (api_Morphism.mk [] [])), I_ b1]) rfl rfl (.cons (.boxA (cs := (c_api_Graph (api_Graph.mk [] []))) ag_25 rfl rfl rfl) (.cons (.boxA (cs := (c_api_Morphism (api_Morphism.mk [] []))) ag_32 rfl rfl rfl) (.cons (.tmp (A := I_ b1) rfl) .nil)))) (fun y hy => by cases hy; rfl)
  refine J_skip ?_
  refine J_seq ?_
  refine J_region rfl ?_
  refine r_alloc 2 _ z_25 rfl rfl ?_
  refine R_nil0 ?_
  refine J_seq ?_
  refine J_seq ?_
  refine J_region rfl ?_
  refine r_faT ((cL 1 c_i64) t1.Nodes) fo_31_0 rfl rfl rfl ?_
  refine r_ld (AL 1 c_i64 t1.Nodes) sc_22 rfl rfl rfl ?_
  refine r_len (cc := c_i64) il_22 rfl rfl ?_
  refine r_move (I_ 0) rfl rfl ?_
  refine R_nil0 ?_
  refine J_block ?_
  refine J_cv [] [] [3] 4 [(2, APtr (c_api_Graph t0)), (3, APtr (c_api_Part t1)), (4, AObj 0), (5, AObj 1), (6, I_ 0), (7, I_ b1), (8, AObj 2), (16, I_ b1), (17, I_ b1), (23, AL 1 c_i64 t1.Nodes), (24, I_ (t1.Nodes.length : Int)), (25, I_ 0)] [(0, .box 25 [ANil, ANil]), (1, .box 32 [ANil, ANil]), (2, .box 25 [AObj 3, ANil]), (3, .row 3 1 ([].map c_i64))] (.same rfl (.same rfl (.cons (A := AObj 0) rfl (.obj rfl rfl rfl) (.cons (A := AObj 1) rfl (.obj rfl rfl rfl) (.same rfl (.same rfl (.cons (A := AObj 2) rfl (.obj rfl rfl rfl) (.same rfl (.same rfl (.same rfl (.same rfl (.same rfl .nil)))))))))))) (.cons rfl rfl rfl rfl (.box (.cons .same (.cons .same .nil))) rfl rfl (.cons rfl rfl rfl rfl (.box (.cons .same (.cons .same .nil))) rfl rfl (.cons rfl rfl rfl rfl (.box (.cons (.nilobj rfl rfl) (.cons .same .nil))) rfl rfl (.new rfl rfl .nil)))) rfl rfl ?_
  refine J_it (fun x4 => ⟨fr [(2, APtr (c_api_Graph t0)), (3, APtr (c_api_Part t1)), (4, AObj 0), (5, AObj 1), (6, I_ 0), (7, I_ b1), (8, AObj 2), (16, I_ b1), (17, I_ b1), (23, AL 1 c_i64 t1.Nodes), (24, I_ (t1.Nodes.length : Int)), (25, I_ x4.2)], hp [(0, .box 25 [ANil, ANil]), (1, .box 32 [ANil, ANil]), (2, .box 25 [AObj 3, ANil]), (3, .row 3 1 (x4.1.map c_i64))], 4⟩) (fun E5 hE5 x4 => ?_) (by rfl)
  refine J_seq ?_
  refine J_region rfl ?_
  refine r_lss rfl rfl rfl ?_
  refine R_nil0 ?_
  refine J_seq ?_
  refine J_cond_p rfl (fun h9 => ?_) (fun h9 => ?_)
  · refine J_skip ?_
    refine J_seq ?_
    refine J_block ?_
    refine J_seq ?_
    refine J_region rfl ?_
    refine R_if (fun h10 => ?_) (fun _ => R_none)
    refine r_ix (cc := c_i64) el_22 rfl rfl h10.1 h10.2 rfl ?_
    refine r_ld (I_ (nth t1.Nodes x4.2)) sc_3 rfl rfl rfl ?_
    refine r_assign (I_ (nth t1.Nodes x4.2)) rfl rfl ?_
    refine R_nil0 ?_
    refine J_draw ?_
    refine r_faO (AObj 2) 0 fo_25_0 rfl .obj rfl rfl rfl ?_
    refine r_ldO (ABoxAt 2 0) (AObj 3) sc_22 rfl .at rfl rfl rfl ?_
    refine r_faT ((cL 1 c_i64) t0.Nodes) fo_25_0 rfl rfl rfl ?_
    refine r_ld (AL 1 c_i64 t0.Nodes) sc_22 rfl rfl rfl ?_
    refine r_move (I_ (nth t1.Nodes x4.2)) rfl rfl ?_
    refine R_if (fun h11 => ?_) (fun _ => R_none)
    refine r_ix (cc := c_i64) el_22 rfl rfl h11.1 h11.2 rfl ?_
    refine r_ld (I_ (nth t0.Nodes (nth t1.Nodes x4.2))) sc_3 rfl rfl rfl ?_
    refine r_bs (cc := c_i64) [(nth t0.Nodes (nth t1.Nodes x4.2))] el_22 zr_3_1 (.cons (A := I_ (nth t0.Nodes (nth t1.Nodes x4.2))) rfl rfl rfl .nil) rfl rfl rfl ?_
    refine R_if (fun h12 => ?_) (fun _ => R_none)
    refine r_app (cc := c_i64) (xs := x4.1) (ys := [(nth t0.Nodes (nth t1.Nodes x4.2))]) 4 ap_22 rfl rfl rfl h12 rfl rfl rfl ?_
    refine r_faO (AObj 2) 0 fo_25_0 rfl .obj rfl rfl rfl ?_
    refine r_stO (ABoxAt 2 0) (AObj 4) [AObj 4, ANil] sz_22 rfl .at rfl rfl rfl rfl rfl rfl ?_
    refine R_nilD rfl ?_
    refine J_inBlock ?_
    refine J_range 24 (m := (t1.Nodes.length : Int)) rfl fun q13 => ?_
    refine J_range 25 (m := x4.2) rfl fun q14 => ?_
    refine J_region rfl ?_
    refine r_add (x4.2 + 1) rfl rfl (wrap_i64 (by omega) (by omega)) rfl ?_
    refine r_move (I_ (x4.2 + 1)) rfl rfl ?_
    refine R_nil0 ?_
    refine J_go ?_
    refine J_cv [] [(3, 4)] [] 4 [(2, APtr (c_api_Graph t0)), (3, APtr (c_api_Part t1)), (4, AObj 0), (5, AObj 1), (6, I_ 0), (7, I_ b1), (8, AObj 2), (16, I_ b1), (17, I_ b1), (23, AL 1 c_i64 t1.Nodes), (24, I_ (t1.Nodes.length : Int)), (25, I_ (x4.2 + 1))] [(0, .box 25 [ANil, ANil]), (1, .box 32 [ANil, ANil]), (2, .box 25 [AObj 3, ANil]), (3, .row 3 1 ((x4.1 ++ [(nth t0.Nodes (nth t1.Nodes x4.2))]).map c_i64))] (.same rfl (.same rfl (.cons (A := AObj 0) rfl (.obj rfl rfl rfl) (.cons (A := AObj 1) rfl (.obj rfl rfl rfl) (.same rfl (.same rfl (.cons (A := AObj 2) rfl (.obj rfl rfl rfl) (.same rfl (.same rfl (.same rfl (.same rfl (.same rfl .nil)))))))))))) (.cons rfl rfl rfl rfl (.box (.cons .same (.cons .same .nil))) rfl rfl (.cons rfl rfl rfl rfl (.box (.cons .same (.cons .same .nil))) rfl rfl (.cons rfl rfl rfl rfl (.box (.cons (.obj rfl rfl rfl) (.cons .same .nil))) rfl rfl (.cons rfl rfl rfl rfl (.row (NKC.flat _ _)) rfl rfl .nil)))) rfl rfl ?_
    exact hE5 ((x4.1 ++ [(nth t0.Nodes (nth t1.Nodes x4.2))]), x4.2 + 1)
  refine J_exit rfl ?_
  refine J_out ?_
  refine J_seq ?_
  refine J_seq ?_
  refine J_region rfl ?_
  refine r_faT ((cL 1 c_i64) t1.Edges) fo_31_1 rfl rfl rfl ?_
  refine r_ld (AL 1 c_i64 t1.Edges) sc_22 rfl rfl rfl ?_
  refine r_len (cc := c_i64) il_22 rfl rfl ?_
  refine r_move (I_ 0) rfl rfl ?_
  refine R_nil0 ?_
  refine J_block ?_
  refine J_cv [] [] [4] 5 [(2, APtr (c_api_Graph t0)), (3, APtr (c_api_Part t1)), (4, AObj 0), (5, AObj 1), (6, I_ 0), (7, I_ b1), (8, AObj 2), (16, I_ b1), (17, I_ b1), (24, I_ (t1.Nodes.length : Int)), (25, I_ x4.2), (41, AL 1 c_i64 t1.Edges), (42, I_ (t1.Edges.length : Int)), (43, I_ 0)] [(0, .box 25 [ANil, ANil]), (1, .box 32 [ANil, ANil]), (2, .box 25 [AObj 3, AObj 4]), (3, .row 3 1 (x4.1.map c_i64)), (4, .row 135 3 ([].map c_api_Edge))] (.same rfl (.same rfl (.cons (A := AObj 0) rfl (.obj rfl rfl rfl) (.cons (A := AObj 1) rfl (.obj rfl rfl rfl) (.same rfl (.same rfl (.cons (A := AObj 2) rfl (.obj rfl rfl rfl) (.same rfl (.same rfl (.same rfl (.same rfl (.same rfl (.same rfl (.same rfl .nil)))))))))))))) (.cons rfl rfl rfl rfl (.box (.cons .same (.cons .same .nil))) rfl rfl (.cons rfl rfl rfl rfl (.box (.cons .same (.cons .same .nil))) rfl rfl (.cons rfl rfl rfl rfl (.box (.cons (.obj rfl rfl rfl) (.cons (.nilobj rfl rfl) .nil))) rfl rfl (.cons rfl rfl rfl rfl (.row (NKC.flat _ _)) rfl rfl (.new rfl rfl .nil))))) rfl rfl ?_
  refine J_it (fun x15 => ⟨fr [(2, APtr (c_api_Graph t0)), (3, APtr (c_api_Part t1)), (4, AObj 0), (5, AObj 1), (6, I_ 0), (7, I_ b1), (8, AObj 2), (16, I_ b1), (17, I_ b1), (24, I_ (t1.Nodes.length : Int)), (25, I_ x4.2), (41, AL 1 c_i64 t1.Edges), (42, I_ (t1.Edges.length : Int)), (43, I_ x15.2)], hp [(0, .box 25 [ANil, ANil]), (1, .box 32 [ANil, ANil]), (2, .box 25 [AObj 3, AObj 4]), (3, .row 3 1 (x4.1.map c_i64)), (4, .row 135 3 (x15.1.map c_api_Edge))], 5⟩) (fun E16 hE16 x15 => ?_) (by rfl)
  refine J_seq ?_
  refine J_region rfl ?_
  refine r_lss rfl rfl rfl ?_
  refine R_nil0 ?_
  refine J_seq ?_
  refine J_cond_p rfl (fun h24 => ?_) (fun h24 => ?_)
  rotate_left
  · refine J_exit rfl ?_
    refine J_out ?_
    refine J_seq ?_
    refine J_draw ?_
    refine r_ldaO (AObj 2) [AObj 3, AObj 4] ag_25 rfl .obj rfl rfl rfl rfl ?_
    refine r_faT ((cL 1 c_i64) t1.Nodes) fo_31_0 rfl rfl rfl ?_
    refine r_ld (AL 1 c_i64 t1.Nodes) sc_22 rfl rfl rfl ?_
    refine R_bind fun b34 h35 => ?_
    refine r_call _ fn_88 (FnK.toP (r' := AL 1 c_i64 b34) (k_slices_Clone_int _ _ h35) (.frow rfl rfl (NKC.flat _ _))) rfl rfl ?_
    refine r_faT ((cL 1 c_i64) t1.Edges) fo_31_1 rfl rfl rfl ?_
    refine r_ld (AL 1 c_i64 t1.Edges) sc_22 rfl rfl rfl ?_
    refine R_bind fun b36 h37 => ?_
    refine r_call _ fn_88 (FnK.toP (r' := AL 1 c_i64 b36) (k_slices_Clone_int _ _ h37) (.frow rfl rfl (NKC.flat _ _))) rfl rfl ?_
    refine r_build (c_api_Morphism (api_Morphism.mk b34 b36)) pl_32 z_32 (.cons (A := AL 1 c_i64 b34) rfl po_32_0 rfl (.cons (A := AL 1 c_i64 b36) rfl po_32_1 rfl .nil)) rfl rfl ?_
    refine r_stO (AObj 0) (AAgg [AObj 3, AObj 4]) [AObj 3, AObj 4] sz_25 rfl .obj rfl rfl rfl rfl rfl rfl ?_
    refine r_stO (AObj 1) (AAgg (c_api_Morphism (api_Morphism.mk b34 b36))) (c_api_Morphism (api_Morphism.mk b34 b36)) sz_32 rfl .obj rfl rfl rfl rfl rfl rfl ?_
    refine r_assign (I_ 0) rfl rfl ?_
    refine R_nilD rfl ?_
    exact J_retF hΨ (Res_many (As := [AAgg [AObj 3, AObj 4], AAgg (c_api_Morphism (api_Morphism.mk b34 b36)), I_ 0]) rfl rfl (.cons (.boxA (cs := [AObj 3, AObj 4]) ag_25 rfl rfl rfl) (.cons (.boxA (cs := (c_api_Morphism (api_Morphism.mk b34 b36))) ag_32 rfl rfl rfl) (.cons (.tmp (A := I_ 0) rfl) .nil)))) (fun y hy => by cases hy; exact (.tup (.cons (.agg (.cons (.frow rfl rfl (NKC.flat _ _)) (.cons (.frow rfl rfl (NKC.flat _ _)) .nil))) (.cons .same (.cons .same .nil)))))
  refine J_skip ?_
  refine J_seq ?_
  refine J_block ?_
  refine J_seq ?_
  refine J_region rfl ?_
  refine R_if (fun h25 => ?_) (fun _ => R_none)
  refine r_ix (cc := c_i64) el_22 rfl rfl h25.1 h25.2 rfl ?_
  refine r_ld (I_ (nth t1.Edges x15.2)) sc_3 rfl rfl rfl ?_
  refine r_assign (I_ (nth t1.Edges x15.2)) rfl rfl ?_
  refine R_nil0 ?_
  refine J_seq ?_
  refine J_region rfl ?_
  refine r_faT ((cL 3 c_api_Edge) t0.Edges) fo_25_1 rfl rfl rfl ?_
  refine r_ld (AL 3 c_api_Edge t0.Edges) sc_23 rfl rfl rfl ?_
  refine r_move (I_ (nth t1.Edges x15.2)) rfl rfl ?_
  refine R_if (fun h26 => ?_) (fun _ => R_none)
  refine r_ix (cc := c_api_Edge) el_23 rfl rfl h26.1 h26.2 rfl ?_
  refine r_lda (c_api_Edge (nth t0.Edges (nth t1.Edges x15.2))) ag_135 rfl rfl rfl rfl ?_
  refine r_alloc 5 _ z_135 rfl rfl ?_
  refine r_stO (AObj 5) (AAgg (c_api_Edge (nth t0.Edges (nth t1.Edges x15.2)))) (c_api_Edge (nth t0.Edges (nth t1.Edges x15.2))) sz_135 rfl .obj rfl rfl rfl rfl rfl rfl ?_
  refine R_nil0 ?_
  refine J_seq ?_
  refine J_region rfl ?_
  refine r_faT ((cL 1 c_i64) t1.Nodes) fo_31_0 rfl rfl rfl ?_
  refine r_ld (AL 1 c_i64 t1.Nodes) sc_22 rfl rfl rfl ?_
  refine r_faO (AObj 5) 1 fo_135_1 rfl .obj rfl rfl rfl ?_
  refine r_ldO (ABoxAt 5 1) (I_ ((nth t0.Edges (nth t1.Edges x15.2)).From)) sc_3 rfl .at rfl rfl rfl ?_
  refine R_bind fun b27 h28 => ?_
  refine r_call _ fn_87 (k_slices_BinarySearch_int _ _ _ h28) rfl rfl ?_
  refine r_move (ATup [I_ b27.1, ABool b27.2]) rfl rfl ?_
  refine r_ext (I_ b27.1) rfl rfl rfl ?_
  refine r_ext (ABool b27.2) rfl rfl rfl ?_
  refine r_faO (AObj 5) 1 fo_135_1 rfl .obj rfl rfl rfl ?_
  refine r_stO (ABoxAt 5 1) (I_ b27.1) (c_api_Edge (api_Edge.mk ((nth t0.Edges (nth t1.Edges x15.2)).Type_) b27.1 ((nth t0.Edges (nth t1.Edges x15.2)).To))) sz_3 rfl .at rfl rfl rfl rfl rfl rfl ?_
  refine R_nil0 ?_
  refine J_seq ?_
  refine J_region rfl ?_
  refine r_faT ((cL 1 c_i64) t1.Nodes) fo_31_0 rfl rfl rfl ?_
  refine r_ld (AL 1 c_i64 t1.Nodes) sc_22 rfl rfl rfl ?_
  refine r_faO (AObj 5) 2 fo_135_2 rfl .obj rfl rfl rfl ?_
  refine r_ldO (ABoxAt 5 2) (I_ ((nth t0.Edges (nth t1.Edges x15.2)).To)) sc_3 rfl .at rfl rfl rfl ?_
  refine R_bind fun b29 h30 => ?_
  refine r_call _ fn_87 (k_slices_BinarySearch_int _ _ _ h30) rfl rfl ?_
  refine r_move (ATup [I_ b29.1, ABool b29.2]) rfl rfl ?_
  refine r_ext (I_ b29.1) rfl rfl rfl ?_
  refine r_ext (ABool b29.2) rfl rfl rfl ?_
  refine r_faO (AObj 5) 2 fo_135_2 rfl .obj rfl rfl rfl ?_
  refine r_stO (ABoxAt 5 2) (I_ b29.1) (c_api_Edge (api_Edge.mk ((nth t0.Edges (nth t1.Edges x15.2)).Type_) b27.1 b29.1)) sz_3 rfl .at rfl rfl rfl rfl rfl rfl ?_
  refine R_nil0 ?_
  refine J_region rfl ?_
  refine r_faO (AObj 2) 1 fo_25_1 rfl .obj rfl rfl rfl ?_
  refine r_ldO (ABoxAt 2 1) (AObj 4) sc_23 rfl .at rfl rfl rfl ?_
  refine r_ldaO (AObj 5) (c_api_Edge (api_Edge.mk ((nth t0.Edges (nth t1.Edges x15.2)).Type_) b27.1 b29.1)) ag_135 rfl .obj rfl rfl rfl rfl ?_
  refine r_bs (cc := c_api_Edge) [(api_Edge.mk ((nth t0.Edges (nth t1.Edges x15.2)).Type_) b27.1 b29.1)] el_23 zr_135_1 (.cons (A := AAgg (c_api_Edge (api_Edge.mk ((nth t0.Edges (nth t1.Edges x15.2)).Type_) b27.1 b29.1))) rfl rfl rfl .nil) rfl rfl rfl ?_
  refine R_if (fun h31 => ?_) (fun _ => R_none)
  refine r_app (cc := c_api_Edge) (xs := x15.1) (ys := [(api_Edge.mk ((nth t0.Edges (nth t1.Edges x15.2)).Type_) b27.1 b29.1)]) 6 ap_23 rfl rfl rfl h31 rfl rfl rfl ?_
  refine r_faO (AObj 2) 1 fo_25_1 rfl .obj rfl rfl rfl ?_
  refine r_stO (ABoxAt 2 1) (AObj 6) [AObj 3, AObj 6] sz_23 rfl .at rfl rfl rfl rfl rfl rfl ?_
  refine R_nil0 ?_
  refine J_inBlock ?_
  refine J_range 42 (m := (t1.Edges.length : Int)) rfl fun q32 => ?_
  refine J_range 43 (m := x15.2) rfl fun q33 => ?_
  refine J_region rfl ?_
  refine r_add (x15.2 + 1) rfl rfl (wrap_i64 (by omega) (by omega)) rfl ?_
  refine r_move (I_ (x15.2 + 1)) rfl rfl ?_
  refine R_nil0 ?_
  refine J_go ?_
  refine J_cv [] [(4, 6)] [] 5 [(2, APtr (c_api_Graph t0)), (3, APtr (c_api_Part t1)), (4, AObj 0), (5, AObj 1), (6, I_ 0), (7, I_ b1), (8, AObj 2), (16, I_ b1), (17, I_ b1), (24, I_ (t1.Nodes.length : Int)), (25, I_ x4.2), (41, AL 1 c_i64 t1.Edges), (42, I_ (t1.Edges.length : Int)), (43, I_ (x15.2 + 1))] [(0, .box 25 [ANil, ANil]), (1, .box 32 [ANil, ANil]), (2, .box 25 [AObj 3, AObj 4]), (3, .row 3 1 (x4.1.map c_i64)), (4, .row 135 3 ((x15.1 ++ [(api_Edge.mk ((nth t0.Edges (nth t1.Edges x15.2)).Type_) b27.1 b29.1)]).map c_api_Edge))] (.same rfl (.same rfl (.cons (A := AObj 0) rfl (.obj rfl rfl rfl) (.cons (A := AObj 1) rfl (.obj rfl rfl rfl) (.same rfl (.same rfl (.cons (A := AObj 2) rfl (.obj rfl rfl rfl) (.same rfl (.same rfl (.same rfl (.same rfl (.same rfl (.same rfl (.same rfl .nil)))))))))))))) (.cons rfl rfl rfl rfl (.box (.cons .same (.cons .same .nil))) rfl rfl (.cons rfl rfl rfl rfl (.box (.cons .same (.cons .same .nil))) rfl rfl (.cons rfl rfl rfl rfl (.box (.cons (.obj rfl rfl rfl) (.cons (.obj rfl rfl rfl) .nil))) rfl rfl (.cons rfl rfl rfl rfl (.row (NKC.flat _ _)) rfl rfl (.cons rfl rfl rfl rfl (.row (NKC.flat _ _)) rfl rfl .nil))))) rfl rfl ?_
  exact hE16 ((x15.1 ++ [(api_Edge.mk ((nth t0.Edges (nth t1.Edges x15.2)).Type_) b27.1 b29.1)]), x15.2 + 1)
theorem k_morphism_Valid (t0 : api_Graph) (t1 : api_Graph) (t2 : api_Morphism) (r : Int) (hr : morphism_Valid t0 t1 t2 = some r) : FnP PP 38 [AAgg (c_api_Graph t0), AAgg (c_api_Graph t1), AAgg (c_api_Morphism t2)] (I_ r) := by
  refine FnP.of mixed_ Tryz.func38 rfl (n := 123) rfl (fun (r : Int) => I_ r) nk_args NK.nk rfl hr fun X hΨ => ?_
  refine J_seq ?_
  refine J_region rfl ?_
  refine r_boxV (AAgg (c_api_Graph t0)) rfl rfl ?_
  refine r_boxV (AAgg (c_api_Graph t1)) rfl rfl ?_
  refine r_boxV (AAgg (c_api_Morphism t2)) rfl rfl ?_
  refine r_assign (I_ 0) rfl rfl ?_
  refine R_nil0 ?_
  refine J_seq ?_
  refine J_seq ?_
  refine J_region rfl ?_
  refine r_lda (c_api_Graph t0) ag_25 rfl rfl rfl rfl ?_
  refine R_bind fun b1 h2 => ?_
  refine r_call _ fn_36 (k_graph_Valid _ _ h2) rfl rfl ?_
  refine r_assign (I_ b1) rfl rfl ?_
  refine R_nil0 ?_
  refine J_seq ?_
  refine J_region rfl ?_
  refine r_move (I_ b1) rfl rfl ?_
  refine r_neq rfl rfl rfl ?_
  refine R_nil0 ?_
  refine J_cond_p rfl (fun h3 => ?_) (fun h3 => ?_)
  · refine J_seq ?_
    refine J_region rfl ?_
    refine r_move (I_ b1) rfl rfl ?_
    refine r_assign (I_ b1) rfl rfl ?_
    refine R_nil0 ?_
    exact J_ret hΨ (Res_one rfl) (fun y hy => by cases hy; rfl)
  refine J_skip ?_
  refine J_seq ?_
  refine J_seq ?_
  refine J_region rfl ?_
  refine r_lda (c_api_Graph t1) ag_25 rfl rfl rfl rfl ?_
  refine R_bind fun b4 h5 => ?_
  refine r_call _ fn_36 (k_graph_Valid _ _ h5) rfl rfl ?_
  refine r_assign (I_ b4) rfl rfl ?_
  refine R_nil0 ?_
  refine J_seq ?_
  refine J_region rfl ?_
  refine r_move (I_ b4) rfl rfl ?_
  refine r_neq rfl rfl rfl ?_
  refine R_nil0 ?_
  refine J_cond_p rfl (fun h6 => ?_) (fun h6 => ?_)
  · refine J_seq ?_
    refine J_region rfl ?_
    refine r_move (I_ b4) rfl rfl ?_
    refine r_assign (I_ b4) rfl rfl ?_
    refine R_nil0 ?_
    exact J_ret hΨ (Res_one rfl) (fun y hy => by cases hy; rfl)
  refine J_skip ?_
  refine J_seq ?_
  refine J_seq ?_
  refine J_region rfl ?_
  refine r_faT ((cL 1 c_i64) t2.Nodes) fo_32_0 rfl rfl rfl ?_
  refine r_ld (AL 1 c_i64 t2.Nodes) sc_22 rfl rfl rfl ?_
  refine r_len (cc := c_i64) il_22 rfl rfl ?_
  refine r_faT ((cL 1 c_i64) t0.Nodes) fo_25_0 rfl rfl rfl ?_
  refine r_ld (AL 1 c_i64 t0.Nodes) sc_22 rfl rfl rfl ?_
  refine r_len (cc := c_i64) il_22 rfl rfl ?_
  refine r_neq rfl rfl rfl ?_
  refine r_move (ABool (decide (¬ ((t2.Nodes.length : Int) = (t0.Nodes.length : Int))))) rfl rfl ?_
  refine R_if (fun h7 => ?_) (fun h7 => ?_)
  · refine R_skip (g_fn rfl rfl (dt h7)) ?_
    refine R_skip (g_fn rfl rfl (dt h7)) ?_
    refine R_skip (g_fn rfl rfl (dt h7)) ?_
    refine R_skip (g_fn rfl rfl (dt h7)) ?_
    refine R_skip (g_fn rfl rfl (dt h7)) ?_
    refine R_skip (g_fn rfl rfl (dt h7)) ?_
    refine R_skip (g_fn rfl rfl (dt h7)) ?_
    refine r_pickT (ABool true) rfl (dt h7) rfl rfl ?_
    refine R_nil0 ?_
    refine J_cond_T rfl rfl ?_
    refine J_seq ?_
    refine J_region rfl ?_
    refine r_assign (I_ 20) rfl rfl ?_
    refine R_nil0 ?_
    exact J_ret hΨ (Res_one rfl) (fun y hy => by cases hy; rfl)
  refine r_faT ((cL 1 c_i64) t2.Edges) fo_32_1 rfl rfl (g_f rfl rfl (df h7)) ?_
  refine r_ld (AL 1 c_i64 t2.Edges) sc_22 rfl rfl (g_f rfl rfl (df h7)) ?_
  refine r_len (cc := c_i64) il_22 rfl (g_f rfl rfl (df h7)) ?_
  refine r_faT ((cL 3 c_api_Edge) t0.Edges) fo_25_1 rfl rfl (g_f rfl rfl (df h7)) ?_
  refine r_ld (AL 3 c_api_Edge t0.Edges) sc_23 rfl rfl (g_f rfl rfl (df h7)) ?_
  refine r_len (cc := c_api_Edge) il_23 rfl (g_f rfl rfl (df h7)) ?_
  refine r_neq rfl rfl (g_f rfl rfl (df h7)) ?_
  refine r_pickF (ABool (decide (¬ ((t2.Edges.length : Int) = (t0.Edges.length : Int))))) rfl (df h7) rfl rfl ?_
  refine R_nil0 ?_
  refine J_cond_p rfl (fun h8 => ?_) (fun h8 => ?_)
  · refine J_seq ?_
    refine J_region rfl ?_
    refine r_assign (I_ 20) rfl rfl ?_
    refine R_nil0 ?_
    exact J_ret hΨ (Res_one rfl) (fun y hy => by cases hy; rfl)
  refine J_skip ?_
  refine J_seq ?_
  refine J_seq ?_
  refine J_region rfl ?_
  refine r_faT ((cL 1 c_i64) t2.Nodes) fo_32_0 rfl rfl rfl ?_
  refine r_ld (AL 1 c_i64 t2.Nodes) sc_22 rfl rfl rfl ?_
  refine r_len (cc := c_i64) il_22 rfl rfl ?_
  refine r_move (I_ 0) rfl rfl ?_
  refine R_nil0 ?_
  refine J_block ?_
  refine J_cv [] [] [] 0 [(3, APtr (c_api_Graph t0)), (4, APtr (c_api_Graph t1)), (5, APtr (c_api_Morphism t2)), (6, I_ 0), (7, I_ b1), (8, I_ b4), (16, I_ b1), (17, I_ b1), (21, I_ b4), (22, I_ b4), (27, I_ (t2.Nodes.length : Int)), (30, I_ (t0.Nodes.length : Int)), (35, I_ (t2.Edges.length : Int)), (38, I_ (t0.Edges.length : Int)), (42, AL 1 c_i64 t2.Nodes), (43, I_ (t2.Nodes.length : Int)), (44, I_ 0)] [] (.same rfl (.same rfl (.same rfl (.same rfl (.same rfl (.same rfl (.same rfl (.same rfl (.same rfl (.same rfl (.same rfl (.same rfl (.same rfl (.same rfl (.same rfl (.same rfl (.same rfl .nil))))))))))))))))) .nil rfl rfl ?_
  refine J_it (fun x9 => ⟨fr [(3, APtr (c_api_Graph t0)), (4, APtr (c_api_Graph t1)), (5, APtr (c_api_Morphism t2)), (6, I_ 0), (7, I_ b1), (8, I_ b4), (16, I_ b1), (17, I_ b1), (21, I_ b4), (22, I_ b4), (27, I_ (t2.Nodes.length : Int)), (30, I_ (t0.Nodes.length : Int)), (35, I_ (t2.Edges.length : Int)), (38, I_ (t0.Edges.length : Int)), (42, AL 1 c_i64 t2.Nodes), (43, I_ (t2.Nodes.length : Int)), (44, I_ x9)], hp [], 0⟩) (fun E10 hE10 x9 => ?_) (by rfl)
  refine J_seq ?_
  refine J_region rfl ?_
  refine r_lss rfl rfl rfl ?_
  refine R_nil0 ?_
  refine J_seq ?_
  refine J_cond_p rfl (fun h18 => ?_) (fun h18 => ?_)
  · refine J_skip ?_
    refine J_seq ?_
    refine J_block ?_
    refine J_seq ?_
    refine J_region rfl ?_
    refine r_move (I_ x9) rfl rfl ?_
    refine R_if (fun h19 => ?_) (fun _ => R_none)
    refine r_ix (cc := c_i64) el_22 rfl rfl h19.1 h19.2 rfl ?_
    refine r_ld (I_ (nth t2.Nodes x9)) sc_3 rfl rfl rfl ?_
    refine r_assign (I_ x9) rfl rfl ?_
    refine r_assign (I_ (nth t2.Nodes x9)) rfl rfl ?_
    refine R_nil0 ?_
    refine J_seq ?_
    refine J_seq ?_
    refine J_region rfl ?_
    refine r_move (I_ (nth t2.Nodes x9)) rfl rfl ?_
    refine r_lss rfl rfl rfl ?_
    refine r_move (ABool (decide ((nth t2.Nodes x9) < 0))) rfl rfl ?_
    refine R_if (fun h20 => ?_) (fun h20 => ?_)
    · refine R_skip (g_fn rfl rfl (dt h20)) ?_
      refine R_skip (g_fn rfl rfl (dt h20)) ?_
      refine R_skip (g_fn rfl rfl (dt h20)) ?_
      refine R_skip (g_fn rfl rfl (dt h20)) ?_
      refine R_skip (g_fn rfl rfl (dt h20)) ?_
      refine r_pickT (ABool true) rfl (dt h20) rfl rfl ?_
      refine R_nil0 ?_
      refine J_cond_T rfl rfl ?_
      refine J_seq ?_
      refine J_region rfl ?_
      refine r_assign (I_ 6) rfl rfl ?_
      refine R_nil0 ?_
      refine J_outS ?_
      exact J_ret hΨ (Res_one rfl) (fun y hy => by cases hy; rfl)
    refine r_move (I_ (nth t2.Nodes x9)) rfl (g_f rfl rfl (df h20)) ?_
    refine r_faT ((cL 1 c_i64) t1.Nodes) fo_25_0 rfl rfl (g_f rfl rfl (df h20)) ?_
    refine r_ld (AL 1 c_i64 t1.Nodes) sc_22 rfl rfl (g_f rfl rfl (df h20)) ?_
    refine r_len (cc := c_i64) il_22 rfl (g_f rfl rfl (df h20)) ?_
    refine r_geq rfl rfl (g_f rfl rfl (df h20)) ?_
    refine r_pickF (ABool (decide ((t1.Nodes.length : Int) ≤ (nth t2.Nodes x9)))) rfl (df h20) rfl rfl ?_
    refine R_nil0 ?_
    refine J_cond_p rfl (fun h21 => ?_) (fun h21 => ?_)
    · refine J_seq ?_
      refine J_region rfl ?_
      refine r_assign (I_ 6) rfl rfl ?_
      refine R_nil0 ?_
      refine J_outS ?_
      exact J_ret hΨ (Res_one rfl) (fun y hy => by cases hy; rfl)
    refine J_skip ?_
    refine J_seq ?_
    refine J_draw ?_
    refine r_faT ((cL 1 c_i64) t1.Nodes) fo_25_0 rfl rfl rfl ?_
    refine r_ld (AL 1 c_i64 t1.Nodes) sc_22 rfl rfl rfl ?_
    refine r_move (I_ (nth t2.Nodes x9)) rfl rfl ?_
    refine R_if (fun h22 => ?_) (fun _ => R_none)
    refine r_ix (cc := c_i64) el_22 rfl rfl h22.1 h22.2 rfl ?_
    refine r_ld (I_ (nth t1.Nodes (nth t2.Nodes x9))) sc_3 rfl rfl rfl ?_
    refine r_faT ((cL 1 c_i64) t0.Nodes) fo_25_0 rfl rfl rfl ?_
    refine r_ld (AL 1 c_i64 t0.Nodes) sc_22 rfl rfl rfl ?_
    refine r_move (I_ x9) rfl rfl ?_
    refine R_if (fun h23 => ?_) (fun _ => R_none)
    refine r_ix (cc := c_i64) el_22 rfl rfl h23.1 h23.2 rfl ?_
    refine r_ld (I_ (nth t0.Nodes x9)) sc_3 rfl rfl rfl ?_
    refine r_neq rfl rfl rfl ?_
    refine R_nilD rfl ?_
    refine J_cond_p rfl (fun h24 => ?_) (fun h24 => ?_)
    · refine J_seq ?_
      refine J_region rfl ?_
      refine r_assign (I_ 13) rfl rfl ?_
      refine R_nil0 ?_
      refine J_outS ?_
      exact J_ret hΨ (Res_one rfl) (fun y hy => by cases hy; rfl)
    refine J_skip ?_
    refine J_inBlock ?_
    refine J_range 27 (m := (t2.Nodes.length : Int)) rfl fun q25 => ?_
    refine J_range 9 (m := x9) rfl fun q26 => ?_
    refine J_region rfl ?_
    refine r_add (x9 + 1) rfl rfl (wrap_i64 (by omega) (by omega)) rfl ?_
    refine r_move (I_ (x9 + 1)) rfl rfl ?_
    refine R_nil0 ?_
    refine J_go ?_
    refine J_cv [] [] [] 0 [(3, APtr (c_api_Graph t0)), (4, APtr (c_api_Graph t1)), (5, APtr (c_api_Morphism t2)), (6, I_ 0), (7, I_ b1), (8, I_ b4), (16, I_ b1), (17, I_ b1), (21, I_ b4), (22, I_ b4), (27, I_ (t2.Nodes.length : Int)), (30, I_ (t0.Nodes.length : Int)), (35, I_ (t2.Edges.length : Int)), (38, I_ (t0.Edges.length : Int)), (42, AL 1 c_i64 t2.Nodes), (43, I_ (t2.Nodes.length : Int)), (44, I_ (x9 + 1))] [] (.same rfl (.same rfl (.same rfl (.same rfl (.same rfl (.same rfl (.same rfl (.same rfl (.same rfl (.same rfl (.same rfl (.same rfl (.same rfl (.same rfl (.same rfl (.same rfl (.same rfl .nil))))))))))))))))) .nil rfl rfl ?_
    exact hE10 (x9 + 1)
  refine J_exit rfl ?_
  refine J_out ?_
  refine J_seq ?_
  refine J_seq ?_
  refine J_region rfl ?_
  refine r_faT ((cL 1 c_i64) t2.Edges) fo_32_1 rfl rfl rfl ?_
  refine r_ld (AL 1 c_i64 t2.Edges) sc_22 rfl rfl rfl ?_
  refine r_len (cc := c_i64) il_22 rfl rfl ?_
  refine r_move (I_ 0) rfl rfl ?_
  refine R_nil0 ?_
  refine J_block ?_
  refine J_cv [] [] [] 0 [(3, APtr (c_api_Graph t0)), (4, APtr (c_api_Graph t1)), (5, APtr (c_api_Morphism t2)), (6, I_ 0), (7, I_ b1), (8, I_ b4), (16, I_ b1), (17, I_ b1), (21, I_ b4), (22, I_ b4), (27, I_ (t2.Nodes.length : Int)), (30, I_ (t0.Nodes.length : Int)), (35, I_ (t2.Edges.length : Int)), (38, I_ (t0.Edges.length : Int)), (43, I_ (t2.Nodes.length : Int)), (44, I_ x9), (71, AL 1 c_i64 t2.Edges), (72, I_ (t2.Edges.length : Int)), (73, I_ 0)] [] (.same rfl (.same rfl (.same rfl (.same rfl (.same rfl (.same rfl (.same rfl (.same rfl (.same rfl (.same rfl (.same rfl (.same rfl (.same rfl (.same rfl (.same rfl (.same rfl (.same rfl (.same rfl (.same rfl .nil))))))))))))))))))) .nil rfl rfl ?_
  refine J_it (fun x27 => ⟨fr [(3, APtr (c_api_Graph t0)), (4, APtr (c_api_Graph t1)), (5, APtr (c_api_Morphism t2)), (6, I_ 0), (7, I_ b1), (8, I_ b4), (16, I_ b1), (17, I_ b1), (21, I_ b4), (22, I_ b4), (27, I_ (t2.Nodes.length : Int)), (30, I_ (t0.Nodes.length : Int)), (35, I_ (t2.Edges.length : Int)), (38, I_ (t0.Edges.length : Int)), (43, I_ (t2.Nodes.length : Int)), (44, I_ x9), (71, AL 1 c_i64 t2.Edges), (72, I_ (t2.Edges.length : Int)), (73, I_ x27)], hp [], 0⟩) (fun E28 hE28 x27 => ?_) (by rfl)
  refine J_seq ?_
  refine J_region rfl ?_
  refine r_lss rfl rfl rfl ?_
  refine R_nil0 ?_
  refine J_seq ?_
  refine J_cond_p rfl (fun h40 => ?_) (fun h40 => ?_)
  rotate_left
  · refine J_exit rfl ?_
    refine J_outS ?_
    refine J_seq ?_
    refine J_region rfl ?_
    refine r_assign (I_ 0) rfl rfl ?_
    refine R_nil0 ?_
    exact J_ret hΨ (Res_one rfl) (fun y hy => by cases hy; rfl)
  refine J_skip ?_
  refine J_seq ?_
  refine J_block ?_
  refine J_seq ?_
  refine J_region rfl ?_
  refine r_move (I_ x27) rfl rfl ?_
  refine R_if (fun h41 => ?_) (fun _ => R_none)
  refine r_ix (cc := c_i64) el_22 rfl rfl h41.1 h41.2 rfl ?_
  refine r_ld (I_ (nth t2.Edges x27)) sc_3 rfl rfl rfl ?_
  refine r_assign (I_ x27) rfl rfl ?_
  refine r_assign (I_ (nth t2.Edges x27)) rfl rfl ?_
  refine R_nil0 ?_
  refine J_seq ?_
  refine J_seq ?_
  refine J_region rfl ?_
  refine r_move (I_ (nth t2.Edges x27)) rfl rfl ?_
  refine r_lss rfl rfl rfl ?_
  refine r_move (ABool (decide ((nth t2.Edges x27) < 0))) rfl rfl ?_
  refine R_if (fun h42 => ?_) (fun h42 => ?_)
  · refine R_skip (g_fn rfl rfl (dt h42)) ?_
    refine R_skip (g_fn rfl rfl (dt h42)) ?_
    refine R_skip (g_fn rfl rfl (dt h42)) ?_
    refine R_skip (g_fn rfl rfl (dt h42)) ?_
    refine R_skip (g_fn rfl rfl (dt h42)) ?_
    refine r_pickT (ABool true) rfl (dt h42) rfl rfl ?_
    refine R_nil0 ?_
    refine J_cond_T rfl rfl ?_
    refine J_seq ?_
    refine J_region rfl ?_
    refine r_assign (I_ 6) rfl rfl ?_
    refine R_nil0 ?_
    refine J_outS ?_
    exact J_ret hΨ (Res_one rfl) (fun y hy => by cases hy; rfl)
  refine r_move (I_ (nth t2.Edges x27)) rfl (g_f rfl rfl (df h42)) ?_
  refine r_faT ((cL 3 c_api_Edge) t1.Edges) fo_25_1 rfl rfl (g_f rfl rfl (df h42)) ?_
  refine r_ld (AL 3 c_api_Edge t1.Edges) sc_23 rfl rfl (g_f rfl rfl (df h42)) ?_
  refine r_len (cc := c_api_Edge) il_23 rfl (g_f rfl rfl (df h42)) ?_
  refine r_geq rfl rfl (g_f rfl rfl (df h42)) ?_
  refine r_pickF (ABool (decide ((t1.Edges.length : Int) ≤ (nth t2.Edges x27)))) rfl (df h42) rfl rfl ?_
  refine R_nil0 ?_
  refine J_cond_p rfl (fun h43 => ?_) (fun h43 => ?_)
  · refine J_seq ?_
    refine J_region rfl ?_
    refine r_assign (I_ 6) rfl rfl ?_
    refine R_nil0 ?_
    refine J_outS ?_
    exact J_ret hΨ (Res_one rfl) (fun y hy => by cases hy; rfl)
  refine J_skip ?_
  refine J_seq ?_
  refine J_draw ?_
  refine r_faT ((cL 3 c_api_Edge) t0.Edges) fo_25_1 rfl rfl rfl ?_
  refine r_ld (AL 3 c_api_Edge t0.Edges) sc_23 rfl rfl rfl ?_
  refine r_move (I_ x27) rfl rfl ?_
  refine R_if (fun h44 => ?_) (fun _ => R_none)
  refine r_ix (cc := c_api_Edge) el_23 rfl rfl h44.1 h44.2 rfl ?_
  refine r_lda (c_api_Edge (nth t0.Edges x27)) ag_135 rfl rfl rfl rfl ?_
  refine r_faT ((cL 3 c_api_Edge) t1.Edges) fo_25_1 rfl rfl rfl ?_
  refine r_ld (AL 3 c_api_Edge t1.Edges) sc_23 rfl rfl rfl ?_
  refine r_move (I_ (nth t2.Edges x27)) rfl rfl ?_
  refine R_if (fun h45 => ?_) (fun _ => R_none)
  refine r_ix (cc := c_api_Edge) el_23 rfl rfl h45.1 h45.2 rfl ?_
  refine r_lda (c_api_Edge (nth t1.Edges (nth t2.Edges x27))) ag_135 rfl rfl rfl rfl ?_
  refine r_alloc 0 _ z_135 rfl rfl ?_
  refine r_alloc 1 _ z_135 rfl rfl ?_
  refine r_stO (AObj 0) (AAgg (c_api_Edge (nth t0.Edges x27))) (c_api_Edge (nth t0.Edges x27)) sz_135 rfl .obj rfl rfl rfl rfl rfl rfl ?_
  refine r_stO (AObj 1) (AAgg (c_api_Edge (nth t1.Edges (nth t2.Edges x27)))) (c_api_Edge (nth t1.Edges (nth t2.Edges x27))) sz_135 rfl .obj rfl rfl rfl rfl rfl rfl ?_
  refine R_nilD rfl ?_
  refine J_seq ?_
  refine J_seq ?_
  refine J_region rfl ?_
  refine r_faO (AObj 0) 0 fo_135_0 rfl .obj rfl rfl rfl ?_
  refine r_ldO (ABoxAt 0 0) (I_ ((nth t0.Edges x27).Type_)) sc_3 rfl .at rfl rfl rfl ?_
  refine r_faO (AObj 1) 0 fo_135_0 rfl .obj rfl rfl rfl ?_
  refine r_ldO (ABoxAt 1 0) (I_ ((nth t1.Edges (nth t2.Edges x27)).Type_)) sc_3 rfl .at rfl rfl rfl ?_
  refine r_neq rfl rfl rfl ?_
  refine R_nil0 ?_
  refine J_cond_p rfl (fun h46 => ?_) (fun h46 => ?_)
  · refine J_seq ?_
    refine J_region rfl ?_
    refine r_assign (I_ 13) rfl rfl ?_
    refine R_nil0 ?_
    refine J_outS ?_
    exact J_ret hΨ (Res_one rfl) (fun y hy => by cases hy; rfl)
  refine J_skip ?_
  refine J_seq ?_
  refine J_draw ?_
  refine r_faT ((cL 1 c_i64) t2.Nodes) fo_32_0 rfl rfl rfl ?_
  refine r_ld (AL 1 c_i64 t2.Nodes) sc_22 rfl rfl rfl ?_
  refine r_faO (AObj 0) 1 fo_135_1 rfl .obj rfl rfl rfl ?_
  refine r_ldO (ABoxAt 0 1) (I_ ((nth t0.Edges x27).From)) sc_3 rfl .at rfl rfl rfl ?_
  refine R_if (fun h47 => ?_) (fun _ => R_none)
  refine r_ix (cc := c_i64) el_22 rfl rfl h47.1 h47.2 rfl ?_
  refine r_ld (I_ (nth t2.Nodes ((nth t0.Edges x27).From))) sc_3 rfl rfl rfl ?_
  refine r_faO (AObj 1) 1 fo_135_1 rfl .obj rfl rfl rfl ?_
  refine r_ldO (ABoxAt 1 1) (I_ ((nth t1.Edges (nth t2.Edges x27)).From)) sc_3 rfl .at rfl rfl rfl ?_
  refine r_neq rfl rfl rfl ?_
  refine r_move (ABool (decide (¬ ((nth t2.Nodes ((nth t0.Edges x27).From)) = (nth t1.Edges (nth t2.Edges x27)).From)))) rfl rfl ?_
  refine R_if (fun h48 => ?_) (fun h48 => ?_)
  · refine R_skip (g_fn rfl rfl (dt h48)) ?_
    refine R_skip (g_fn rfl rfl (dt h48)) ?_
    refine R_skip (g_fn rfl rfl (dt h48)) ?_
    refine R_skip (g_fn rfl rfl (dt h48)) ?_
    refine R_skip (g_fn rfl rfl (dt h48)) ?_
    refine R_skip (g_fn rfl rfl (dt h48)) ?_
    refine R_skip (g_fn rfl rfl (dt h48)) ?_
    refine R_skip (g_fn rfl rfl (dt h48)) ?_
    refine R_skip (g_fn rfl rfl (dt h48)) ?_
    refine r_pickT (ABool true) rfl (dt h48) rfl rfl ?_
    refine R_nilD rfl ?_
    refine J_cond_T rfl rfl ?_
    refine J_seq ?_
    refine J_region rfl ?_
    refine r_assign (I_ 11) rfl rfl ?_
    refine R_nil0 ?_
    refine J_outS ?_
    exact J_ret hΨ (Res_one rfl) (fun y hy => by cases hy; rfl)
  refine r_faT ((cL 1 c_i64) t2.Nodes) fo_32_0 rfl rfl (g_f rfl rfl (df h48)) ?_
  refine r_ld (AL 1 c_i64 t2.Nodes) sc_22 rfl rfl (g_f rfl rfl (df h48)) ?_
  refine r_faO (AObj 0) 2 fo_135_2 rfl .obj rfl rfl (g_f rfl rfl (df h48)) ?_
  refine r_ldO (ABoxAt 0 2) (I_ ((nth t0.Edges x27).To)) sc_3 rfl .at rfl rfl (g_f rfl rfl (df h48)) ?_
  refine R_if (fun h49 => ?_) (fun _ => R_none)
  refine r_ix (cc := c_i64) el_22 rfl rfl h49.1 h49.2 (g_f rfl rfl (df h48)) ?_
  refine r_ld (I_ (nth t2.Nodes ((nth t0.Edges x27).To))) sc_3 rfl rfl (g_f rfl rfl (df h48)) ?_
  refine r_faO (AObj 1) 2 fo_135_2 rfl .obj rfl rfl (g_f rfl rfl (df h48)) ?_
  refine r_ldO (ABoxAt 1 2) (I_ ((nth t1.Edges (nth t2.Edges x27)).To)) sc_3 rfl .at rfl rfl (g_f rfl rfl (df h48)) ?_
  refine r_neq rfl rfl (g_f rfl rfl (df h48)) ?_
  refine r_pickF (ABool (decide (¬ ((nth t2.Nodes ((nth t0.Edges x27).To)) = (nth t1.Edges (nth t2.Edges x27)).To)))) rfl (df h48) rfl rfl ?_
  refine R_nilD rfl ?_
  refine J_cond_p rfl (fun h50 => ?_) (fun h50 => ?_)
  · refine J_seq ?_
    refine J_region rfl ?_
    refine r_assign (I_ 11) rfl rfl ?_
    refine R_nil0 ?_
    refine J_outS ?_
    exact J_ret hΨ (Res_one rfl) (fun y hy => by cases hy; rfl)
  refine J_skip ?_
  refine J_inBlock ?_
  refine J_range 35 (m := (t2.Edges.length : Int)) rfl fun q51 => ?_
  refine J_range 11 (m := x27) rfl fun q52 => ?_
  refine J_region rfl ?_
  refine r_add (x27 + 1) rfl rfl (wrap_i64 (by omega) (by omega)) rfl ?_
  refine r_move (I_ (x27 + 1)) rfl rfl ?_
  refine R_nil0 ?_
  refine J_go ?_
  refine J_cv [] [] [] 0 [(3, APtr (c_api_Graph t0)), (4, APtr (c_api_Graph t1)), (5, APtr (c_api_Morphism t2)), (6, I_ 0), (7, I_ b1), (8, I_ b4), (16, I_ b1), (17, I_ b1), (21, I_ b4), (22, I_ b4), (27, I_ (t2.Nodes.length : Int)), (30, I_ (t0.Nodes.length : Int)), (35, I_ (t2.Edges.length : Int)), (38, I_ (t0.Edges.length : Int)), (43, I_ (t2.Nodes.length : Int)), (44, I_ x9), (71, AL 1 c_i64 t2.Edges), (72, I_ (t2.Edges.length : Int)), (73, I_ (x27 + 1))] [] (.same rfl (.same rfl (.same rfl (.same rfl (.same rfl (.same rfl (.same rfl (.same rfl (.same rfl (.same rfl (.same rfl (.same rfl (.same rfl (.same rfl (.same rfl (.same rfl (.same rfl (.same rfl (.same rfl .nil))))))))))))))))))) .nil rfl rfl ?_
  exact hE28 (x27 + 1)
theorem k_slices_insertionSortOrdered_int (t0 : (List Int)) (t1 : Int) (t2 : Int) (r : (List Int)) (hr : slices_insertionSortOrdered_int t0 t1 t2 = some r) : FnK PP 204 1 [(0, .row 3 1 (t0.map c_i64))] [AObj 0, I_ t1, I_ t2] [(0, .row 3 1 (r.map c_i64))] (ATup []) := by
  refine FnK.of mixed_ Tryz.func204 rfl (n := 49) rfl (N0 := 1) (ins := [(0, .row 3 1 (t0.map c_i64))]) (args := [AObj 0, I_ t1, I_ t2]) (fun (r : (List Int)) => [(0, .row 3 1 (r.map c_i64))]) (fun (r : (List Int)) => ATup []) (KBL.cons (KB.obj rfl) (KBL.cons inferInstance (KBL.cons inferInstance (inferInstance : KBL 1 [])))).kb (InsOk.spec (.row rfl (NKC.flat _ _) .nil)) rfl hr fun X hΨ => ?_
  refine J_seq ?_
  refine J_region rfl ?_
  refine r_move (I_ t1) rfl rfl ?_
  refine R_bind fun b1 h2 => ?_
  refine r_add b1 rfl rfl (Option.some.inj h2) rfl ?_
  refine r_assign (I_ b1) rfl rfl ?_
  refine R_nil0 ?_
  refine J_block ?_
  refine J_cv [] [] [] 1 [(0, AObj 0), (1, I_ t1), (2, I_ t2), (6, I_ b1)] [(0, .row 3 1 (t0.map c_i64))] (.cons (A := AObj 0) rfl (.obj rfl rfl rfl) (.same rfl (.same rfl (.same rfl .nil)))) (.cons rfl rfl rfl rfl (.row (NKC.flat _ _)) rfl rfl .nil) rfl rfl ?_
  refine J_it (fun x3 => ⟨fr [(0, AObj 0), (1, I_ t1), (2, I_ t2), (6, I_ x3.2)], hp [(0, .row 3 1 (x3.1.map c_i64))], 1⟩) (fun E4 hE4 x3 => ?_) (by rfl)
  refine J_seq ?_
  refine J_seq ?_
  refine J_region rfl ?_
  refine r_move (I_ x3.2) rfl rfl ?_
  refine r_move (I_ t2) rfl rfl ?_
  refine r_lss rfl rfl rfl ?_
  refine R_nil0 ?_
  refine J_cond_p rfl (fun h40 => ?_) (fun h40 => ?_)
  rotate_left
  · refine J_exit rfl ?_
    refine J_outS ?_
    exact J_endK hΨ (Res_none rfl) [] [] [] rfl (fun y hy => by cases hy; exact ⟨(.cons rfl rfl rfl rfl (.row (NKC.flat _ _)) rfl rfl .nil), (.tup .nil)⟩)
  refine J_skip ?_
  refine J_seq ?_
  refine J_block ?_
  refine J_seq ?_
  refine J_region rfl ?_
  refine r_move (I_ x3.2) rfl rfl ?_
  refine r_assign (I_ x3.2) rfl rfl ?_
  refine R_nil0 ?_
  refine J_block ?_
  refine J_cv [] [] [] 1 [(0, AObj 0), (1, I_ t1), (2, I_ t2), (6, I_ x3.2), (7, I_ x3.2), (10, I_ x3.2), (11, I_ t2), (15, I_ x3.2)] [(0, .row 3 1 (x3.1.map c_i64))] (.cons (A := AObj 0) rfl (.obj rfl rfl rfl) (.same rfl (.same rfl (.same rfl (.same rfl (.same rfl (.same rfl (.same rfl .nil)))))))) (.cons rfl rfl rfl rfl (.row (NKC.flat _ _)) rfl rfl .nil) rfl rfl ?_
  refine J_it (fun x41 => ⟨fr [(0, AObj 0), (1, I_ t1), (2, I_ t2), (6, I_ x3.2), (7, I_ x41.2), (10, I_ x3.2), (11, I_ t2), (15, I_ x3.2)], hp [(0, .row 3 1 (x41.1.map c_i64))], 1⟩) (fun E42 hE42 x41 => ?_) (by rfl)
  refine J_seq ?_
  refine J_seq ?_
  apply J_joinA (fun v71 => ⟨fr [(0, AObj 0), (1, I_ t1), (2, I_ t2), (6, I_ x3.2), (7, I_ x41.2), (10, I_ x3.2), (11, I_ t2), (15, I_ x3.2), (16, I_ x41.2), (17, I_ t1)], hp [(0, .row 3 1 (x41.1.map c_i64))], 1⟩) (fun v71 => slices_insertionSortOrdered_int_j71 x3 x41 v71)
  · intro K72
    refine J_range 1 (m := t1) rfl fun q60 => ?_
    refine J_range 7 (m := x41.2) rfl fun q61 => ?_
    refine J_draw ?_
    refine r_move (I_ x41.2) rfl rfl ?_
    refine r_move (I_ t1) rfl rfl ?_
    refine r_gtr rfl rfl rfl ?_
    refine r_move (ABool (decide (t1 < x41.2))) rfl rfl ?_
    refine R_if (fun h58 => ?_) (fun h58 => ?_)
    rotate_left
    · refine R_skip (g_tn rfl rfl (df h58)) ?_
      refine R_skip (g_tn rfl rfl (df h58)) ?_
      refine R_skip (g_tn rfl rfl (df h58)) ?_
      refine R_skip (g_tn rfl rfl (df h58)) ?_
      refine R_skip (g_tn rfl rfl (df h58)) ?_
      refine R_skip (g_tn rfl rfl (df h58)) ?_
      refine R_skip (g_tn rfl rfl (df h58)) ?_
      refine R_skip (g_tn rfl rfl (df h58)) ?_
      refine R_skip (g_tn rfl rfl (df h58)) ?_
      refine R_skip (g_tn rfl rfl (df h58)) ?_
      refine r_pickF (ABool false) rfl (df h58) rfl rfl ?_
      refine R_nilD rfl ?_
      refine J_cond_F rfl rfl ?_
      refine J_cv [] [] [] 1 [(0, AObj 0), (1, I_ t1), (2, I_ t2), (6, I_ x3.2), (7, I_ x41.2), (10, I_ x3.2), (11, I_ t2), (15, I_ x3.2), (16, I_ x41.2), (17, I_ t1)] [(0, .row 3 1 (x41.1.map c_i64))] (.cons (A := AObj 0) rfl (.obj rfl rfl rfl) (.same rfl (.same rfl (.same rfl (.same rfl (.same rfl (.same rfl (.same rfl (.same rfl (.same rfl .nil)))))))))) (.cons rfl rfl rfl rfl (.row (NKC.flat _ _)) rfl rfl .nil) rfl rfl ?_
      exact K72 ()
    refine r_move (AObj 0) rfl (g_t rfl rfl (dt h58)) ?_
    refine r_move (I_ x41.2) rfl (g_t rfl rfl (dt h58)) ?_
    refine R_if (fun h59 => ?_) (fun _ => R_none)
    refine r_ixO (cc := c_i64) el_22 rfl rfl rfl h59.1 h59.2 (g_t rfl rfl (dt h58)) ?_
    refine r_ldR (cc := c_i64) x41.2 0 (I_ (nth x41.1 x41.2)) sc_3 rfl rfl h59.1 h59.2 rfl (g_t rfl rfl (dt h58)) ?_
    refine r_move (AObj 0) rfl (g_t rfl rfl (dt h58)) ?_
    refine r_move (I_ x41.2) rfl (g_t rfl rfl (dt h58)) ?_
    refine r_sub (x41.2 - 1) rfl rfl (wrap_i64 (by omega) (by omega)) (g_t rfl rfl (dt h58)) ?_
    refine R_if (fun h62 => ?_) (fun _ => R_none)
    refine r_ixO (cc := c_i64) el_22 rfl rfl rfl h62.1 h62.2 (g_t rfl rfl (dt h58)) ?_
    refine r_ldR (cc := c_i64) (x41.2 - 1) 0 (I_ (nth x41.1 (x41.2 - 1))) sc_3 rfl rfl h62.1 h62.2 rfl (g_t rfl rfl (dt h58)) ?_
    refine R_bind fun b63 h64 => ?_
    refine r_call _ fn_145 (k_cmp_Less_int _ _ _ h64) rfl (g_t rfl rfl (dt h58)) ?_
    refine r_pickT (ABool b63) rfl (dt h58) rfl rfl ?_
    refine R_nilD rfl ?_
    refine J_cond rfl (fun h65 => ?_) (fun h65 => ?_)
    rotate_left
    · refine J_cv [] [] [] 1 [(0, AObj 0), (1, I_ t1), (2, I_ t2), (6, I_ x3.2), (7, I_ x41.2), (10, I_ x3.2), (11, I_ t2), (15, I_ x3.2), (16, I_ x41.2), (17, I_ t1)] [(0, .row 3 1 (x41.1.map c_i64))] (.cons (A := AObj 0) rfl (.obj rfl rfl rfl) (.same rfl (.same rfl (.same rfl (.same rfl (.same rfl (.same rfl (.same rfl (.same rfl (.same rfl .nil)))))))))) (.cons rfl rfl rfl rfl (.row (NKC.flat _ _)) rfl rfl .nil) rfl rfl ?_
      exact K72 ()
    refine J_skip ?_
    refine J_seq ?_
    refine J_block ?_
    refine J_range 1 (m := t1) rfl fun q66 => ?_
    refine J_range 7 (m := x41.2) rfl fun q67 => ?_
    refine J_draw ?_
    refine r_move (AObj 0) rfl rfl ?_
    refine r_move (I_ x41.2) rfl rfl ?_
    refine r_move (AObj 0) rfl rfl ?_
    refine r_move (I_ x41.2) rfl rfl ?_
    refine r_sub (x41.2 - 1) rfl rfl (wrap_i64 (by omega) (by omega)) rfl ?_
    refine r_move (AObj 0) rfl rfl ?_
    refine r_move (I_ x41.2) rfl rfl ?_
    refine r_sub (x41.2 - 1) rfl rfl (wrap_i64 (by omega) (by omega)) rfl ?_
    refine r_ixO (cc := c_i64) el_22 rfl rfl rfl h62.1 h62.2 rfl ?_
    refine r_ldR (cc := c_i64) (x41.2 - 1) 0 (I_ (nth x41.1 (x41.2 - 1))) sc_3 rfl rfl h62.1 h62.2 rfl rfl ?_
    refine r_move (AObj 0) rfl rfl ?_
    refine r_move (I_ x41.2) rfl rfl ?_
    refine r_ixO (cc := c_i64) el_22 rfl rfl rfl h59.1 h59.2 rfl ?_
    refine r_ldR (cc := c_i64) x41.2 0 (I_ (nth x41.1 x41.2)) sc_3 rfl rfl h59.1 h59.2 rfl rfl ?_
    refine r_ixO (cc := c_i64) el_22 rfl rfl rfl h59.1 h59.2 rfl ?_
    refine r_stR (cc := c_i64) x41.2 0 (I_ (nth x41.1 (x41.2 - 1))) (nth x41.1 (x41.2 - 1)) sz_3 rfl rfl rfl h59.1 h59.2 rfl rfl rfl rfl ?_
    refine R_if (fun h68 => ?_) (fun _ => R_none)
    refine r_ixO (cc := c_i64) el_22 rfl rfl rfl h68.1 h68.2 rfl ?_
    refine r_stR (cc := c_i64) (x41.2 - 1) 0 (I_ (nth x41.1 x41.2)) (nth x41.1 x41.2) sz_3 rfl rfl rfl h68.1 h68.2 rfl rfl rfl rfl ?_
    refine R_nilD rfl ?_
    refine J_inBlock ?_
    refine J_range 1 (m := t1) rfl fun q69 => ?_
    refine J_range 7 (m := x41.2) rfl fun q70 => ?_
    refine J_region rfl ?_
    refine r_move (I_ x41.2) rfl rfl ?_
    refine r_sub (x41.2 - 1) rfl rfl (wrap_i64 (by omega) (by omega)) rfl ?_
    refine r_assign (I_ (x41.2 - 1)) rfl rfl ?_
    refine R_nil0 ?_
    refine J_go ?_
    refine J_cv [] [] [] 1 [(0, AObj 0), (1, I_ t1), (2, I_ t2), (6, I_ x3.2), (7, I_ (x41.2 - 1)), (10, I_ x3.2), (11, I_ t2), (15, I_ x3.2)] [(0, .row 3 1 (((x41.1.set x41.2.toNat (nth x41.1 (x41.2 - 1))).set (x41.2 - 1).toNat (nth x41.1 x41.2)).map c_i64))] (.cons (A := AObj 0) rfl (.obj rfl rfl rfl) (.same rfl (.same rfl (.same rfl (.same rfl (.same rfl (.same rfl (.same rfl .nil)))))))) (.cons rfl rfl rfl rfl (.row (NKC.flat _ _)) rfl rfl .nil) rfl rfl ?_
    exact hE42 (((x41.1.set x41.2.toNat (nth x41.1 (x41.2 - 1))).set (x41.2 - 1).toNat (nth x41.1 x41.2)), x41.2 - 1)
  intro v71
  refine J_exit rfl ?_
  refine J_outS ?_
  refine J_inBlock ?_
  refine J_range 2 (m := t2) rfl fun q73 => ?_
  refine J_range 6 (m := x3.2) rfl fun q74 => ?_
  refine J_region rfl ?_
  refine r_move (I_ x3.2) rfl rfl ?_
  refine r_add (x3.2 + 1) rfl rfl (wrap_i64 (by omega) (by omega)) rfl ?_
  refine r_assign (I_ (x3.2 + 1)) rfl rfl ?_
  refine R_nil0 ?_
  refine J_go ?_
  refine J_cv [] [] [] 1 [(0, AObj 0), (1, I_ t1), (2, I_ t2), (6, I_ (x3.2 + 1))] [(0, .row 3 1 (x41.1.map c_i64))] (.cons (A := AObj 0) rfl (.obj rfl rfl rfl) (.same rfl (.same rfl (.same rfl .nil)))) (.cons rfl rfl rfl rfl (.row (NKC.flat _ _)) rfl rfl .nil) rfl rfl ?_
  exact hE4 (x41.1, x3.2 + 1)
theorem k_slices_heapSortOrdered_int (t0 : (List Int)) (t1 : Int) (t2 : Int) (r : Unit) (hr : slices_heapSortOrdered_int t0 t1 t2 = some r) : FnP PP 205 [AL 1 c_i64 t0, I_ t1, I_ t2] (ATup []) := by
  exact absurd hr (by unfold slices_heapSortOrdered_int; intro h; cases h)
theorem k_slices_breakPatternsOrdered_int (t0 : (List Int)) (t1 : Int) (t2 : Int) (r : Unit) (hr : slices_breakPatternsOrdered_int t0 t1 t2 = some r) : FnP PP 206 [AL 1 c_i64 t0, I_ t1, I_ t2] (ATup []) := by
  exact absurd hr (by unfold slices_breakPatternsOrdered_int; intro h; cases h)
theorem k_slices_choosePivotOrdered_int (t0 : (List Int)) (t1 : Int) (t2 : Int) (r : Int × Int) (hr : slices_choosePivotOrdered_int t0 t1 t2 = some r) : FnP PP 207 [AL 1 c_i64 t0, I_ t1, I_ t2] (ATup [I_ r.1, I_ r.2]) := by
  exact absurd hr (by unfold slices_choosePivotOrdered_int; intro h; cases h)
theorem k_slices_reverseRangeOrdered_int (t0 : (List Int)) (t1 : Int) (t2 : Int) (r : Unit) (hr : slices_reverseRangeOrdered_int t0 t1 t2 = some r) : FnP PP 208 [AL 1 c_i64 t0, I_ t1, I_ t2] (ATup []) := by
  exact absurd hr (by unfold slices_reverseRangeOrdered_int; intro h; cases h)
theorem k_slices_partialInsertionSortOrdered_int (t0 : (List Int)) (t1 : Int) (t2 : Int) (r : Bool) (hr : slices_partialInsertionSortOrdered_int t0 t1 t2 = some r) : FnP PP 209 [AL 1 c_i64 t0, I_ t1, I_ t2] (ABool r) := by
  exact absurd hr (by unfold slices_partialInsertionSortOrdered_int; intro h; cases h)
theorem k_slices_partitionEqualOrdered_int (t0 : (List Int)) (t1 : Int) (t2 : Int) (t3 : Int) (r : Int) (hr : slices_partitionEqualOrdered_int t0 t1 t2 t3 = some r) : FnP PP 210 [AL 1 c_i64 t0, I_ t1, I_ t2, I_ t3] (I_ r) := by
  exact absurd hr (by unfold slices_partitionEqualOrdered_int; intro h; cases h)
theorem k_slices_partitionOrdered_int (t0 : (List Int)) (t1 : Int) (t2 : Int) (t3 : Int) (r : Int × Bool) (hr : slices_partitionOrdered_int t0 t1 t2 t3 = some r) : FnP PP 211 [AL 1 c_i64 t0, I_ t1, I_ t2, I_ t3] (ATup [I_ r.1, ABool r.2]) := by
  exact absurd hr (by unfold slices_partitionOrdered_int; intro h; cases h)
theorem k_slices_pdqsortOrdered_int_b (q_slices_pdqsortOrdered_int : (List Int) → Int → Int → Int → Option (List Int)) (hq_slices_pdqsortOrdered_int : ∀ (t0 : (List Int)) (t1 : Int) (t2 : Int) (t3 : Int) (r : (List Int)), q_slices_pdqsortOrdered_int t0 t1 t2 t3 = some r → FnK PP 157 1 [(0, .row 3 1 (t0.map c_i64))] [AObj 0, I_ t1, I_ t2, I_ t3] [(0, .row 3 1 (r.map c_i64))] (ATup [])) (t0 : (List Int)) (t1 : Int) (t2 : Int) (t3 : Int) (r : (List Int)) (hr : slices_pdqsortOrdered_int_b q_slices_pdqsortOrdered_int t0 t1 t2 t3 = some r) : FnK PP 157 1 [(0, .row 3 1 (t0.map c_i64))] [AObj 0, I_ t1, I_ t2, I_ t3] [(0, .row 3 1 (r.map c_i64))] (ATup []) := by
  refine FnK.of mixed_ Tryz.func157 rfl (n := 134) rfl (N0 := 1) (ins := [(0, .row 3 1 (t0.map c_i64))]) (args := [AObj 0, I_ t1, I_ t2, I_ t3]) (fun (r : (List Int)) => [(0, .row 3 1 (r.map c_i64))]) (fun (r : (List Int)) => ATup []) (KBL.cons (KB.obj rfl) (KBL.cons inferInstance (KBL.cons inferInstance (KBL.cons inferInstance (inferInstance : KBL 1 []))))).kb (InsOk.spec (.row rfl (NKC.flat _ _) .nil)) rfl hr fun X hΨ => ?_
  refine J_seq ?_
  refine J_region rfl ?_
  refine r_assign (ABool true) rfl rfl ?_
  refine R_nil0 ?_
  refine J_seq ?_
  refine J_region rfl ?_
  refine r_assign (ABool true) rfl rfl ?_
  refine R_nil0 ?_
  refine J_block ?_
  refine J_cv [] [] [] 1 [(0, AObj 0), (1, I_ t1), (2, I_ t2), (3, I_ t3), (8, ABool true), (9, ABool true)] [(0, .row 3 1 (t0.map c_i64))] (.cons (A := AObj 0) rfl (.obj rfl rfl rfl) (.same rfl (.same rfl (.same rfl (.same rfl (.same rfl .nil)))))) (.cons rfl rfl rfl rfl (.row (NKC.flat _ _)) rfl rfl .nil) rfl rfl ?_
  refine J_it (fun x1 => ⟨fr [(0, AObj 0), (1, I_ x1.2.1), (2, I_ x1.2.2.1), (3, I_ x1.2.2.2.1), (8, ABool x1.2.2.2.2.1), (9, ABool x1.2.2.2.2.2)], hp [(0, .row 3 1 (x1.1.map c_i64))], 1⟩) (fun E2 hE2 x1 => ?_) (by rfl)
  apply J_joinA (fun v1182 => ⟨fr [(0, AObj 0), (1, I_ v1182.2.1), (2, I_ v1182.2.2.1), (3, I_ v1182.2.2.2.1), (8, ABool v1182.2.2.2.2.1), (9, ABool v1182.2.2.2.2.2), (28, I_ x1.2.2.2.1)], hp [(0, .row 3 1 (v1182.1.map c_i64))], 1⟩) (fun v1182 => slices_pdqsortOrdered_int_j1182 v1182)
  · intro K1183
    refine J_block ?_
    refine J_seq ?_
    refine J_region rfl ?_
    refine r_move (I_ x1.2.2.1) rfl rfl ?_
    refine r_move (I_ x1.2.1) rfl rfl ?_
    refine R_bind fun b709 h710 => ?_
    refine r_sub b709 rfl rfl (Option.some.inj h710) rfl ?_
    refine r_assign (I_ b709) rfl rfl ?_
    refine R_nil0 ?_
    refine J_seq ?_
    refine J_seq ?_
    refine J_region rfl ?_
    refine r_move (I_ b709) rfl rfl ?_
    refine r_leq rfl rfl rfl ?_
    refine R_nil0 ?_
    refine J_cond_p rfl (fun h711 => ?_) (fun h711 => ?_)
    · refine J_seq ?_
      refine J_region rfl ?_
      refine r_move (AObj 0) rfl rfl ?_
      refine r_move (I_ x1.2.1) rfl rfl ?_
      refine r_move (I_ x1.2.2.1) rfl rfl ?_
      refine R_bind fun b712 h713 => ?_
      refine r_callK [] [] [] [] 1 [(0, .row 3 1 (x1.1.map c_i64))] [(0, .row 3 1 (b712.map c_i64))] (ATup []) [AObj 0, I_ x1.2.1, I_ x1.2.2.1] fn_204 (k_slices_insertionSortOrdered_int _ _ _ _ h713) (.cons rfl .nil) rfl (.cons (.obj rfl rfl rfl) (.cons .same (.cons .same .nil))) (.cons rfl rfl rfl rfl (.row (NKC.flat _ _)) rfl rfl .nil) (.cons rfl rfl rfl rfl (.row (NKC.flat _ _)) rfl rfl .nil) (.tup .nil) rfl rfl rfl ?_
      refine R_nil0 ?_
      refine J_outS ?_
      exact J_retK hΨ (Res_none rfl) [] [] [] rfl (fun y hy => by cases hy; exact ⟨(.cons rfl rfl rfl rfl (.row (NKC.flat _ _)) rfl rfl .nil), (.tup .nil)⟩)
    refine J_skip ?_
    refine J_seq ?_
    refine J_seq ?_
    refine J_region rfl ?_
    refine r_move (I_ x1.2.2.2.1) rfl rfl ?_
    refine r_eql rfl rfl rfl ?_
    refine R_nil0 ?_
    refine J_cond_p rfl (fun h714 => ?_) (fun h714 => ?_)
    · refine J_seq ?_
      refine J_region rfl ?_
      refine r_move (AObj 0) rfl rfl ?_
      refine r_move (I_ x1.2.1) rfl rfl ?_
      refine r_move (I_ x1.2.2.1) rfl rfl ?_
      refine R_bind fun b715 h716 => ?_
      refine r_callB [(0, .row 3 1 (x1.1.map c_i64))] [AObj 0, I_ x1.2.1, I_ x1.2.2.1] fn_205 (k_slices_heapSortOrdered_int _ _ _ _ h716) (.cons rfl .nil) rfl (.cons (.frow rfl rfl (NKC.flat _ _)) (.cons .same (.cons .same .nil))) rfl ?_
      refine R_nil0 ?_
      refine J_outS ?_
      exact J_retK hΨ (Res_none rfl) [] [] [] rfl (fun y hy => by cases hy; exact ⟨(.cons rfl rfl rfl rfl (.row (NKC.flat _ _)) rfl rfl .nil), (.tup .nil)⟩)
    refine J_skip ?_
    refine J_seq ?_
    refine J_seq ?_
    refine J_region rfl ?_
    refine r_move (ABool x1.2.2.2.2.1) rfl rfl ?_
    refine r_not rfl rfl ?_
    refine R_nil0 ?_
    apply J_joinA (fun v951 => ⟨fr [(0, AObj 0), (1, I_ x1.2.1), (2, I_ x1.2.2.1), (3, I_ v951), (8, ABool x1.2.2.2.2.1), (9, ABool x1.2.2.2.2.2), (10, I_ b709), (21, I_ b709), (22, I_ b709), (28, I_ x1.2.2.2.1)], hp [(0, .row 3 1 (x1.1.map c_i64))], 1⟩) (fun v951 => slices_pdqsortOrdered_int_j951 q_slices_pdqsortOrdered_int b709 x1 v951)
    · intro K1181
      refine J_cond rfl (fun h717 => ?_) (fun h717 => ?_)
      rotate_left
      · refine J_skip ?_
        refine J_cv [] [] [] 1 [(0, AObj 0), (1, I_ x1.2.1), (2, I_ x1.2.2.1), (3, I_ x1.2.2.2.1), (8, ABool x1.2.2.2.2.1), (9, ABool x1.2.2.2.2.2), (10, I_ b709), (21, I_ b709), (22, I_ b709), (28, I_ x1.2.2.2.1)] [(0, .row 3 1 (x1.1.map c_i64))] (.cons (A := AObj 0) rfl (.obj rfl rfl rfl) (.same rfl (.same rfl (.same rfl (.same rfl (.same rfl (.same rfl (.same rfl (.same rfl (.same rfl .nil)))))))))) (.cons rfl rfl rfl rfl (.row (NKC.flat _ _)) rfl rfl .nil) rfl rfl ?_
        exact K1181 x1.2.2.2.1
      refine J_seq ?_
      refine J_region rfl ?_
      refine r_move (AObj 0) rfl rfl ?_
      refine r_move (I_ x1.2.1) rfl rfl ?_
      refine r_move (I_ x1.2.2.1) rfl rfl ?_
      refine R_bind fun b718 h719 => ?_
      refine r_callB [(0, .row 3 1 (x1.1.map c_i64))] [AObj 0, I_ x1.2.1, I_ x1.2.2.1] fn_206 (k_slices_breakPatternsOrdered_int _ _ _ _ h719) (.cons rfl .nil) rfl (.cons (.frow rfl rfl (NKC.flat _ _)) (.cons .same (.cons .same .nil))) rfl ?_
      refine R_nil0 ?_
      refine J_region rfl ?_
      refine r_move (I_ x1.2.2.2.1) rfl rfl ?_
      refine R_bind fun b720 h721 => ?_
      refine r_sub b720 rfl rfl (Option.some.inj h721) rfl ?_
      refine r_assign (I_ b720) rfl rfl ?_
      refine R_nil0 ?_
      refine J_cv [] [] [] 1 [(0, AObj 0), (1, I_ x1.2.1), (2, I_ x1.2.2.1), (3, I_ b720), (8, ABool x1.2.2.2.2.1), (9, ABool x1.2.2.2.2.2), (10, I_ b709), (21, I_ b709), (22, I_ b709), (28, I_ x1.2.2.2.1)] [(0, .row 3 1 (x1.1.map c_i64))] (.cons (A := AObj 0) rfl (.obj rfl rfl rfl) (.same rfl (.same rfl (.same rfl (.same rfl (.same rfl (.same rfl (.same rfl (.same rfl (.same rfl .nil)))))))))) (.cons rfl rfl rfl rfl (.row (NKC.flat _ _)) rfl rfl .nil) rfl rfl ?_
      exact K1181 b720
    intro v951
    refine J_seq ?_
    refine J_region rfl ?_
    refine r_move (AObj 0) rfl rfl ?_
    refine r_move (I_ x1.2.1) rfl rfl ?_
    refine r_move (I_ x1.2.2.1) rfl rfl ?_
    refine R_bind fun b952 h953 => ?_
    refine r_callB [(0, .row 3 1 (x1.1.map c_i64))] [AObj 0, I_ x1.2.1, I_ x1.2.2.1] fn_207 (k_slices_choosePivotOrdered_int _ _ _ _ h953) (.cons rfl .nil) rfl (.cons (.frow rfl rfl (NKC.flat _ _)) (.cons .same (.cons .same .nil))) rfl ?_
    refine r_move (ATup [I_ b952.1, I_ b952.2]) rfl rfl ?_
    refine r_ext (I_ b952.1) rfl rfl rfl ?_
    refine r_ext (I_ b952.2) rfl rfl rfl ?_
    refine r_assign (I_ b952.1) rfl rfl ?_
    refine r_assign (I_ b952.2) rfl rfl ?_
    refine R_nil0 ?_
    refine J_seq ?_
    refine J_seq ?_
    refine J_region rfl ?_
    refine r_move (I_ b952.2) rfl rfl ?_
    refine r_eql rfl rfl rfl ?_
    refine R_nil0 ?_
    apply J_joinA (fun v1071 => ⟨fr [(0, AObj 0), (1, I_ x1.2.1), (2, I_ x1.2.2.1), (3, I_ v951), (8, ABool x1.2.2.2.2.1), (9, ABool x1.2.2.2.2.2), (10, I_ b709), (11, I_ v1071.1), (12, I_ v1071.2), (21, I_ b709), (22, I_ b709), (28, I_ x1.2.2.2.1), (48, I_ b952.2), (49, I_ b952.2)], hp [(0, .row 3 1 (x1.1.map c_i64))], 1⟩) (fun v1071 => slices_pdqsortOrdered_int_j1071 q_slices_pdqsortOrdered_int b709 v951 x1 v1071)
    · intro K1180
      refine J_cond_p rfl (fun h954 => ?_) (fun h954 => ?_)
      rotate_left
      · refine J_skip ?_
        refine J_cv [] [] [] 1 [(0, AObj 0), (1, I_ x1.2.1), (2, I_ x1.2.2.1), (3, I_ v951), (8, ABool x1.2.2.2.2.1), (9, ABool x1.2.2.2.2.2), (10, I_ b709), (11, I_ b952.1), (12, I_ b952.2), (21, I_ b709), (22, I_ b709), (28, I_ x1.2.2.2.1), (48, I_ b952.2), (49, I_ b952.2)] [(0, .row 3 1 (x1.1.map c_i64))] (.cons (A := AObj 0) rfl (.obj rfl rfl rfl) (.same rfl (.same rfl (.same rfl (.same rfl (.same rfl (.same rfl (.same rfl (.same rfl (.same rfl (.same rfl (.same rfl (.same rfl (.same rfl .nil)))))))))))))) (.cons rfl rfl rfl rfl (.row (NKC.flat _ _)) rfl rfl .nil) rfl rfl ?_
        exact K1180 (b952.1, b952.2)
      refine J_seq ?_
      refine J_region rfl ?_
      refine r_move (AObj 0) rfl rfl ?_
      refine r_move (I_ x1.2.1) rfl rfl ?_
      refine r_move (I_ x1.2.2.1) rfl rfl ?_
      refine R_bind fun b955 h956 => ?_
      refine r_callB [(0, .row 3 1 (x1.1.map c_i64))] [AObj 0, I_ x1.2.1, I_ x1.2.2.1] fn_208 (k_slices_reverseRangeOrdered_int _ _ _ _ h956) (.cons rfl .nil) rfl (.cons (.frow rfl rfl (NKC.flat _ _)) (.cons .same (.cons .same .nil))) rfl ?_
      refine R_nil0 ?_
      refine J_seq ?_
      refine J_region rfl ?_
      refine r_move (I_ x1.2.2.1) rfl rfl ?_
      refine R_bind fun b957 h958 => ?_
      refine r_sub b957 rfl rfl (Option.some.inj h958) rfl ?_
      refine r_move (I_ b952.1) rfl rfl ?_
      refine r_move (I_ x1.2.1) rfl rfl ?_
      refine R_bind fun b959 h960 => ?_
      refine r_sub b959 rfl rfl (Option.some.inj h960) rfl ?_
      refine R_bind fun b961 h962 => ?_
      refine r_sub b961 rfl rfl (Option.some.inj h962) rfl ?_
      refine r_assign (I_ b961) rfl rfl ?_
      refine R_nil0 ?_
      refine J_region rfl ?_
      refine r_assign (I_ 1) rfl rfl ?_
      refine R_nil0 ?_
      refine J_cv [] [] [] 1 [(0, AObj 0), (1, I_ x1.2.1), (2, I_ x1.2.2.1), (3, I_ v951), (8, ABool x1.2.2.2.2.1), (9, ABool x1.2.2.2.2.2), (10, I_ b709), (11, I_ b961), (12, I_ 1), (21, I_ b709), (22, I_ b709), (28, I_ x1.2.2.2.1), (48, I_ b952.2), (49, I_ b952.2)] [(0, .row 3 1 (x1.1.map c_i64))] (.cons (A := AObj 0) rfl (.obj rfl rfl rfl) (.same rfl (.same rfl (.same rfl (.same rfl (.same rfl (.same rfl (.same rfl (.same rfl (.same rfl (.same rfl (.same rfl (.same rfl (.same rfl .nil)))))))))))))) (.cons rfl rfl rfl rfl (.row (NKC.flat _ _)) rfl rfl .nil) rfl rfl ?_
      exact K1180 (b961, 1)
    intro v1071
    refine J_seq ?_
    refine J_seq ?_
    apply J_joinA (fun v1129 => ⟨fr [(0, AObj 0), (1, I_ x1.2.1), (2, I_ x1.2.2.1), (3, I_ v951), (8, ABool x1.2.2.2.2.1), (9, ABool x1.2.2.2.2.2), (10, I_ b709), (11, I_ v1071.1), (12, I_ v1071.2), (21, I_ b709), (22, I_ b709), (28, I_ x1.2.2.2.1)], hp [(0, .row 3 1 (x1.1.map c_i64))], 1⟩) (fun v1129 => slices_pdqsortOrdered_int_j1129 q_slices_pdqsortOrdered_int b709 v951 v1071 x1 v1129)
    · intro K1179
      apply J_joinA (fun v1078 => ⟨fr [(0, AObj 0), (1, I_ x1.2.1), (2, I_ x1.2.2.1), (3, I_ v951), (8, ABool x1.2.2.2.2.1), (9, ABool x1.2.2.2.2.2), (10, I_ b709), (11, I_ v1071.1), (12, I_ v1071.2), (21, I_ b709), (22, I_ b709), (28, I_ x1.2.2.2.1)], hp [(0, .row 3 1 (x1.1.map c_i64))], 1⟩) (fun v1078 => slices_pdqsortOrdered_int_j1078 q_slices_pdqsortOrdered_int b709 v951 v1071 x1 v1078)
      · intro K1079
        refine J_region rfl ?_
        refine r_move (ABool x1.2.2.2.2.1) rfl rfl ?_
        refine r_move (ABool x1.2.2.2.2.1) rfl rfl ?_
        refine R_if (fun h1072 => ?_) (fun h1072 => ?_)
        rotate_left
        · refine R_skip (g_tn rfl rfl (bf h1072)) ?_
          refine r_pickF (ABool false) rfl (bf h1072) rfl rfl ?_
          refine r_move (ABool false) rfl rfl ?_
          refine R_skip (g_tn rfl rfl rfl) ?_
          refine R_skip (g_tn rfl rfl rfl) ?_
          refine r_pickF (ABool false) rfl rfl rfl rfl ?_
          refine R_nil0 ?_
          refine J_cond_F rfl rfl ?_
          refine J_cv [] [] [] 1 [(0, AObj 0), (1, I_ x1.2.1), (2, I_ x1.2.2.1), (3, I_ v951), (8, ABool x1.2.2.2.2.1), (9, ABool x1.2.2.2.2.2), (10, I_ b709), (11, I_ v1071.1), (12, I_ v1071.2), (21, I_ b709), (22, I_ b709), (28, I_ x1.2.2.2.1)] [(0, .row 3 1 (x1.1.map c_i64))] (.cons (A := AObj 0) rfl (.obj rfl rfl rfl) (.same rfl (.same rfl (.same rfl (.same rfl (.same rfl (.same rfl (.same rfl (.same rfl (.same rfl (.same rfl (.same rfl .nil)))))))))))) (.cons rfl rfl rfl rfl (.row (NKC.flat _ _)) rfl rfl .nil) rfl rfl ?_
          exact K1079 ()
        refine r_move (ABool x1.2.2.2.2.2) rfl (g_t rfl rfl h1072) ?_
        refine r_pickT (ABool x1.2.2.2.2.2) rfl h1072 rfl rfl ?_
        refine r_move (ABool x1.2.2.2.2.2) rfl rfl ?_
        refine R_if (fun h1073 => ?_) (fun h1073 => ?_)
        rotate_left
        · refine R_skip (g_tn rfl rfl (bf h1073)) ?_
          refine R_skip (g_tn rfl rfl (bf h1073)) ?_
          refine r_pickF (ABool false) rfl (bf h1073) rfl rfl ?_
          refine R_nil0 ?_
          refine J_cond_F rfl rfl ?_
          refine J_cv [] [] [] 1 [(0, AObj 0), (1, I_ x1.2.1), (2, I_ x1.2.2.1), (3, I_ v951), (8, ABool x1.2.2.2.2.1), (9, ABool x1.2.2.2.2.2), (10, I_ b709), (11, I_ v1071.1), (12, I_ v1071.2), (21, I_ b709), (22, I_ b709), (28, I_ x1.2.2.2.1)] [(0, .row 3 1 (x1.1.map c_i64))] (.cons (A := AObj 0) rfl (.obj rfl rfl rfl) (.same rfl (.same rfl (.same rfl (.same rfl (.same rfl (.same rfl (.same rfl (.same rfl (.same rfl (.same rfl (.same rfl .nil)))))))))))) (.cons rfl rfl rfl rfl (.row (NKC.flat _ _)) rfl rfl .nil) rfl rfl ?_
          exact K1079 ()
        refine r_move (I_ v1071.2) rfl (g_t rfl rfl h1073) ?_
        refine r_eql rfl rfl (g_t rfl rfl h1073) ?_
        refine r_pickT (ABool (decide (v1071.2 = 1))) rfl h1073 rfl rfl ?_
        refine R_nil0 ?_
        refine J_cond_p rfl (fun h1074 => ?_) (fun h1074 => ?_)
        rotate_left
        · refine J_cv [] [] [] 1 [(0, AObj 0), (1, I_ x1.2.1), (2, I_ x1.2.2.1), (3, I_ v951), (8, ABool x1.2.2.2.2.1), (9, ABool x1.2.2.2.2.2), (10, I_ b709), (11, I_ v1071.1), (12, I_ v1071.2), (21, I_ b709), (22, I_ b709), (28, I_ x1.2.2.2.1)] [(0, .row 3 1 (x1.1.map c_i64))] (.cons (A := AObj 0) rfl (.obj rfl rfl rfl) (.same rfl (.same rfl (.same rfl (.same rfl (.same rfl (.same rfl (.same rfl (.same rfl (.same rfl (.same rfl (.same rfl .nil)))))))))))) (.cons rfl rfl rfl rfl (.row (NKC.flat _ _)) rfl rfl .nil) rfl rfl ?_
          exact K1079 ()
        refine J_seq ?_
        refine J_region rfl ?_
        refine r_move (AObj 0) rfl rfl ?_
        refine r_move (I_ x1.2.1) rfl rfl ?_
        refine r_move (I_ x1.2.2.1) rfl rfl ?_
        refine R_bind fun b1075 h1076 => ?_
        refine r_callB [(0, .row 3 1 (x1.1.map c_i64))] [AObj 0, I_ x1.2.1, I_ x1.2.2.1] fn_209 (k_slices_partialInsertionSortOrdered_int _ _ _ _ h1076) (.cons rfl .nil) rfl (.cons (.frow rfl rfl (NKC.flat _ _)) (.cons .same (.cons .same .nil))) rfl ?_
        refine R_nil0 ?_
        refine J_cond rfl (fun h1077 => ?_) (fun h1077 => ?_)
        · refine J_outS ?_
          exact J_retK hΨ (Res_none rfl) [] [] [] rfl (fun y hy => by cases hy; exact ⟨(.cons rfl rfl rfl rfl (.row (NKC.flat _ _)) rfl rfl .nil), (.tup .nil)⟩)
        refine J_skip ?_
        refine J_cv [] [] [] 1 [(0, AObj 0), (1, I_ x1.2.1), (2, I_ x1.2.2.1), (3, I_ v951), (8, ABool x1.2.2.2.2.1), (9, ABool x1.2.2.2.2.2), (10, I_ b709), (11, I_ v1071.1), (12, I_ v1071.2), (21, I_ b709), (22, I_ b709), (28, I_ x1.2.2.2.1)] [(0, .row 3 1 (x1.1.map c_i64))] (.cons (A := AObj 0) rfl (.obj rfl rfl rfl) (.same rfl (.same rfl (.same rfl (.same rfl (.same rfl (.same rfl (.same rfl (.same rfl (.same rfl (.same rfl (.same rfl .nil)))))))))))) (.cons rfl rfl rfl rfl (.row (NKC.flat _ _)) rfl rfl .nil) rfl rfl ?_
        exact K1179 ()
      intro v1078
      refine J_skip ?_
      refine J_cv [] [] [] 1 [(0, AObj 0), (1, I_ x1.2.1), (2, I_ x1.2.2.1), (3, I_ v951), (8, ABool x1.2.2.2.2.1), (9, ABool x1.2.2.2.2.2), (10, I_ b709), (11, I_ v1071.1), (12, I_ v1071.2), (21, I_ b709), (22, I_ b709), (28, I_ x1.2.2.2.1)] [(0, .row 3 1 (x1.1.map c_i64))] (.cons (A := AObj 0) rfl (.obj rfl rfl rfl) (.same rfl (.same rfl (.same rfl (.same rfl (.same rfl (.same rfl (.same rfl (.same rfl (.same rfl (.same rfl (.same rfl .nil)))))))))))) (.cons rfl rfl rfl rfl (.row (NKC.flat _ _)) rfl rfl .nil) rfl rfl ?_
      exact K1179 ()
    intro v1129
    refine J_seq ?_
    refine J_seq ?_
    apply J_joinA (fun v1158 => ⟨fr [(0, AObj 0), (1, I_ x1.2.1), (2, I_ x1.2.2.1), (3, I_ v951), (10, I_ b709), (11, I_ v1071.1), (21, I_ b709), (22, I_ b709), (28, I_ x1.2.2.2.1), (73, I_ x1.2.1)], hp [(0, .row 3 1 (x1.1.map c_i64))], 1⟩) (fun v1158 => slices_pdqsortOrdered_int_j1158 q_slices_pdqsortOrdered_int b709 v951 v1071 x1 v1158)
    · intro K1178
      refine J_range 1 (m := x1.2.1) rfl fun q1131 => ?_
      refine J_draw ?_
      refine r_move (I_ x1.2.1) rfl rfl ?_
      refine r_gtr rfl rfl rfl ?_
      refine r_move (ABool (decide (0 < x1.2.1))) rfl rfl ?_
      refine R_if (fun h1130 => ?_) (fun h1130 => ?_)
      rotate_left
      · refine R_skip (g_tn rfl rfl (df h1130)) ?_
        refine R_skip (g_tn rfl rfl (df h1130)) ?_
        refine R_skip (g_tn rfl rfl (df h1130)) ?_
        refine R_skip (g_tn rfl rfl (df h1130)) ?_
        refine R_skip (g_tn rfl rfl (df h1130)) ?_
        refine R_skip (g_tn rfl rfl (df h1130)) ?_
        refine R_skip (g_tn rfl rfl (df h1130)) ?_
        refine R_skip (g_tn rfl rfl (df h1130)) ?_
        refine R_skip (g_tn rfl rfl (df h1130)) ?_
        refine R_skip (g_tn rfl rfl (df h1130)) ?_
        refine R_skip (g_tn rfl rfl (df h1130)) ?_
        refine r_pickF (ABool false) rfl (df h1130) rfl rfl ?_
        refine R_nilD rfl ?_
        refine J_cond_F rfl rfl ?_
        refine J_cv [] [] [] 1 [(0, AObj 0), (1, I_ x1.2.1), (2, I_ x1.2.2.1), (3, I_ v951), (10, I_ b709), (11, I_ v1071.1), (21, I_ b709), (22, I_ b709), (28, I_ x1.2.2.2.1), (73, I_ x1.2.1)] [(0, .row 3 1 (x1.1.map c_i64))] (.cons (A := AObj 0) rfl (.obj rfl rfl rfl) (.same rfl (.same rfl (.same rfl (.same rfl (.same rfl (.same rfl (.same rfl (.same rfl (.same rfl .nil)))))))))) (.cons rfl rfl rfl rfl (.row (NKC.flat _ _)) rfl rfl .nil) rfl rfl ?_
        exact K1178 ()
      refine r_move (AObj 0) rfl (g_t rfl rfl (dt h1130)) ?_
      refine r_move (I_ x1.2.1) rfl (g_t rfl rfl (dt h1130)) ?_
      refine r_sub (x1.2.1 - 1) rfl rfl (wrap_i64 (by omega) (by omega)) (g_t rfl rfl (dt h1130)) ?_
      refine R_if (fun h1132 => ?_) (fun _ => R_none)
      refine r_ixO (cc := c_i64) el_22 rfl rfl rfl h1132.1 h1132.2 (g_t rfl rfl (dt h1130)) ?_
      refine r_ldR (cc := c_i64) (x1.2.1 - 1) 0 (I_ (nth x1.1 (x1.2.1 - 1))) sc_3 rfl rfl h1132.1 h1132.2 rfl (g_t rfl rfl (dt h1130)) ?_
      refine r_move (AObj 0) rfl (g_t rfl rfl (dt h1130)) ?_
      refine r_move (I_ v1071.1) rfl (g_t rfl rfl (dt h1130)) ?_
      refine R_if (fun h1133 => ?_) (fun _ => R_none)
      refine r_ixO (cc := c_i64) el_22 rfl rfl rfl h1133.1 h1133.2 (g_t rfl rfl (dt h1130)) ?_
      refine r_ldR (cc := c_i64) v1071.1 0 (I_ (nth x1.1 v1071.1)) sc_3 rfl rfl h1133.1 h1133.2 rfl (g_t rfl rfl (dt h1130)) ?_
      refine R_bind fun b1134 h1135 => ?_
      refine r_call _ fn_145 (k_cmp_Less_int _ _ _ h1135) rfl (g_t rfl rfl (dt h1130)) ?_
      refine r_not rfl (g_t rfl rfl (dt h1130)) ?_
      refine r_pickT (ABool (!b1134)) rfl (dt h1130) rfl rfl ?_
      refine R_nilD rfl ?_
      refine J_cond rfl (fun h1136 => ?_) (fun h1136 => ?_)
      rotate_left
      · refine J_cv [] [] [] 1 [(0, AObj 0), (1, I_ x1.2.1), (2, I_ x1.2.2.1), (3, I_ v951), (10, I_ b709), (11, I_ v1071.1), (21, I_ b709), (22, I_ b709), (28, I_ x1.2.2.2.1), (73, I_ x1.2.1)] [(0, .row 3 1 (x1.1.map c_i64))] (.cons (A := AObj 0) rfl (.obj rfl rfl rfl) (.same rfl (.same rfl (.same rfl (.same rfl (.same rfl (.same rfl (.same rfl (.same rfl (.same rfl .nil)))))))))) (.cons rfl rfl rfl rfl (.row (NKC.flat _ _)) rfl rfl .nil) rfl rfl ?_
        exact K1178 ()
      refine J_seq ?_
      refine J_region rfl ?_
      refine r_move (AObj 0) rfl rfl ?_
      refine r_move (I_ x1.2.1) rfl rfl ?_
      refine r_move (I_ x1.2.2.1) rfl rfl ?_
      refine r_move (I_ v1071.1) rfl rfl ?_
      refine R_bind fun b1137 h1138 => ?_
      refine r_callB [(0, .row 3 1 (x1.1.map c_i64))] [AObj 0, I_ x1.2.1, I_ x1.2.2.1, I_ v1071.1] fn_210 (k_slices_partitionEqualOrdered_int _ _ _ _ _ h1138) (.cons rfl .nil) rfl (.cons (.frow rfl rfl (NKC.flat _ _)) (.cons .same (.cons .same (.cons .same .nil)))) rfl ?_
      refine r_assign (I_ b1137) rfl rfl ?_
      refine R_nil0 ?_
      refine J_seq ?_
      refine J_region rfl ?_
      refine r_move (I_ b1137) rfl rfl ?_
      refine r_assign (I_ b1137) rfl rfl ?_
      refine R_nil0 ?_
      refine J_exit rfl ?_
      refine J_cv [] [] [] 1 [(0, AObj 0), (1, I_ b1137), (2, I_ x1.2.2.1), (3, I_ v951), (8, ABool x1.2.2.2.2.1), (9, ABool x1.2.2.2.2.2), (28, I_ x1.2.2.2.1)] [(0, .row 3 1 (x1.1.map c_i64))] (.cons (A := AObj 0) rfl (.obj rfl rfl rfl) (.same rfl (.same rfl (.same rfl (.same rfl (.same rfl (.same rfl .nil))))))) (.cons rfl rfl rfl rfl (.row (NKC.flat _ _)) rfl rfl .nil) rfl rfl ?_
      exact K1183 (x1.1, b1137, x1.2.2.1, v951, x1.2.2.2.2.1, x1.2.2.2.2.2)
    intro v1158
    refine J_skip ?_
    refine J_seq ?_
    refine J_region rfl ?_
    refine r_move (AObj 0) rfl rfl ?_
    refine r_move (I_ x1.2.1) rfl rfl ?_
    refine r_move (I_ x1.2.2.1) rfl rfl ?_
    refine r_move (I_ v1071.1) rfl rfl ?_
    refine R_bind fun b1159 h1160 => ?_
    refine r_callB [(0, .row 3 1 (x1.1.map c_i64))] [AObj 0, I_ x1.2.1, I_ x1.2.2.1, I_ v1071.1] fn_211 (k_slices_partitionOrdered_int _ _ _ _ _ h1160) (.cons rfl .nil) rfl (.cons (.frow rfl rfl (NKC.flat _ _)) (.cons .same (.cons .same (.cons .same .nil)))) rfl ?_
    refine r_move (ATup [I_ b1159.1, ABool b1159.2]) rfl rfl ?_
    refine r_ext (I_ b1159.1) rfl rfl rfl ?_
    refine r_ext (ABool b1159.2) rfl rfl rfl ?_
    refine r_assign (I_ b1159.1) rfl rfl ?_
    refine r_assign (ABool b1159.2) rfl rfl ?_
    refine R_nil0 ?_
    refine J_seq ?_
    refine J_region rfl ?_
    refine r_move (ABool b1159.2) rfl rfl ?_
    refine r_assign (ABool b1159.2) rfl rfl ?_
    refine R_nil0 ?_
    refine J_seq ?_
    refine J_region rfl ?_
    refine r_move (I_ b1159.1) rfl rfl ?_
    refine r_move (I_ x1.2.1) rfl rfl ?_
    refine R_bind fun b1161 h1162 => ?_
    refine r_sub b1161 rfl rfl (Option.some.inj h1162) rfl ?_
    refine r_move (I_ x1.2.2.1) rfl rfl ?_
    refine r_move (I_ b1159.1) rfl rfl ?_
    refine R_bind fun b1163 h1164 => ?_
    refine r_sub b1163 rfl rfl (Option.some.inj h1164) rfl ?_
    refine r_assign (I_ b1161) rfl rfl ?_
    refine r_assign (I_ b1163) rfl rfl ?_
    refine R_nil0 ?_
    refine J_seq ?_
    refine J_region rfl ?_
    refine r_move (I_ b709) rfl rfl ?_
    refine R_bind fun b1165 h1166 => ?_
    refine r_quo b1165 rfl rfl (by decide) (Option.some.inj h1166) rfl ?_
    refine r_assign (I_ b1165) rfl rfl ?_
    refine R_nil0 ?_
    refine J_seq ?_
    refine J_region rfl ?_
    refine r_move (I_ b1161) rfl rfl ?_
    refine r_move (I_ b1163) rfl rfl ?_
    refine r_lss rfl rfl rfl ?_
    refine R_nil0 ?_
    apply J_joinA (fun v1176 => ⟨fr [(0, AObj 0), (1, I_ v1176.2.1), (2, I_ v1176.2.2.1), (3, I_ v951), (8, ABool v1176.2.2.2), (9, ABool b1159.2), (10, I_ b709), (16, I_ b1161), (17, I_ b1163), (21, I_ b709), (22, I_ b709), (28, I_ x1.2.2.2.1), (105, I_ b1161), (108, I_ b1163), (109, I_ b709), (111, I_ b1161), (112, I_ b1163)], hp [(0, .row 3 1 (v1176.1.map c_i64))], 1⟩) (fun v1176 => slices_pdqsortOrdered_int_j1176 b1159 v951 v1176)
    · intro K1177
      refine J_cond_p rfl (fun h1167 => ?_) (fun h1167 => ?_)
      · refine J_seq ?_
        refine J_region rfl ?_
        refine r_move (I_ b1161) rfl rfl ?_
        refine r_move (I_ b1165) rfl rfl ?_
        refine r_geq rfl rfl rfl ?_
        refine r_assign (ABool (decide (b1165 ≤ b1161))) rfl rfl ?_
        refine R_nil0 ?_
        refine J_seq ?_
        refine J_region rfl ?_
        refine r_move (AObj 0) rfl rfl ?_
        refine r_move (I_ x1.2.1) rfl rfl ?_
        refine r_move (I_ b1159.1) rfl rfl ?_
        refine r_move (I_ v951) rfl rfl ?_
        refine R_bind fun b1168 h1169 => ?_
        refine r_callK [] [] [] [] 1 [(0, .row 3 1 (x1.1.map c_i64))] [(0, .row 3 1 (b1168.map c_i64))] (ATup []) [AObj 0, I_ x1.2.1, I_ b1159.1, I_ v951] fn_157 (hq_slices_pdqsortOrdered_int _ _ _ _ _ h1169) (.cons rfl .nil) rfl (.cons (.obj rfl rfl rfl) (.cons .same (.cons .same (.cons .same .nil)))) (.cons rfl rfl rfl rfl (.row (NKC.flat _ _)) rfl rfl .nil) (.cons rfl rfl rfl rfl (.row (NKC.flat _ _)) rfl rfl .nil) (.tup .nil) rfl rfl rfl ?_
        refine R_nil0 ?_
        refine J_region rfl ?_
        refine r_move (I_ b1159.1) rfl rfl ?_
        refine R_bind fun b1170 h1171 => ?_
        refine r_add b1170 rfl rfl (Option.some.inj h1171) rfl ?_
        refine r_assign (I_ b1170) rfl rfl ?_
        refine R_nil0 ?_
        refine J_cv [] [] [] 1 [(0, AObj 0), (1, I_ b1170), (2, I_ x1.2.2.1), (3, I_ v951), (8, ABool (decide (b1165 ≤ b1161))), (9, ABool b1159.2), (10, I_ b709), (16, I_ b1161), (17, I_ b1163), (21, I_ b709), (22, I_ b709), (28, I_ x1.2.2.2.1), (105, I_ b1161), (108, I_ b1163), (109, I_ b709), (111, I_ b1161), (112, I_ b1163)] [(0, .row 3 1 (b1168.map c_i64))] (.cons (A := AObj 0) rfl (.obj rfl rfl rfl) (.same rfl (.same rfl (.same rfl (.same rfl (.same rfl (.same rfl (.same rfl (.same rfl (.same rfl (.same rfl (.same rfl (.same rfl (.same rfl (.same rfl (.same rfl (.same rfl .nil))))))))))))))))) (.cons rfl rfl rfl rfl (.row (NKC.flat _ _)) rfl rfl .nil) rfl rfl ?_
        exact K1177 (b1168, b1170, x1.2.2.1, (decide (b1165 ≤ b1161)))
      refine J_seq ?_
      refine J_region rfl ?_
      refine r_move (I_ b1163) rfl rfl ?_
      refine r_move (I_ b1165) rfl rfl ?_
      refine r_geq rfl rfl rfl ?_
      refine r_assign (ABool (decide (b1165 ≤ b1163))) rfl rfl ?_
      refine R_nil0 ?_
      refine J_seq ?_
      refine J_region rfl ?_
      refine r_move (AObj 0) rfl rfl ?_
      refine r_move (I_ b1159.1) rfl rfl ?_
      refine R_bind fun b1172 h1173 => ?_
      refine r_add b1172 rfl rfl (Option.some.inj h1173) rfl ?_
      refine r_move (I_ x1.2.2.1) rfl rfl ?_
      refine r_move (I_ v951) rfl rfl ?_
      refine R_bind fun b1174 h1175 => ?_
      refine r_callK [] [] [] [] 1 [(0, .row 3 1 (x1.1.map c_i64))] [(0, .row 3 1 (b1174.map c_i64))] (ATup []) [AObj 0, I_ b1172, I_ x1.2.2.1, I_ v951] fn_157 (hq_slices_pdqsortOrdered_int _ _ _ _ _ h1175) (.cons rfl .nil) rfl (.cons (.obj rfl rfl rfl) (.cons .same (.cons .same (.cons .same .nil)))) (.cons rfl rfl rfl rfl (.row (NKC.flat _ _)) rfl rfl .nil) (.cons rfl rfl rfl rfl (.row (NKC.flat _ _)) rfl rfl .nil) (.tup .nil) rfl rfl rfl ?_
      refine R_nil0 ?_
      refine J_region rfl ?_
      refine r_move (I_ b1159.1) rfl rfl ?_
      refine r_assign (I_ b1159.1) rfl rfl ?_
      refine R_nil0 ?_
      refine J_cv [] [] [] 1 [(0, AObj 0), (1, I_ x1.2.1), (2, I_ b1159.1), (3, I_ v951), (8, ABool (decide (b1165 ≤ b1163))), (9, ABool b1159.2), (10, I_ b709), (16, I_ b1161), (17, I_ b1163), (21, I_ b709), (22, I_ b709), (28, I_ x1.2.2.2.1), (105, I_ b1161), (108, I_ b1163), (109, I_ b709), (111, I_ b1161), (112, I_ b1163)] [(0, .row 3 1 (b1174.map c_i64))] (.cons (A := AObj 0) rfl (.obj rfl rfl rfl) (.same rfl (.same rfl (.same rfl (.same rfl (.same rfl (.same rfl (.same rfl (.same rfl (.same rfl (.same rfl (.same rfl (.same rfl (.same rfl (.same rfl (.same rfl (.same rfl .nil))))))))))))))))) (.cons rfl rfl rfl rfl (.row (NKC.flat _ _)) rfl rfl .nil) rfl rfl ?_
      exact K1177 (b1174, x1.2.1, b1159.1, (decide (b1165 ≤ b1163)))
    intro v1176
    refine J_inBlock ?_
    refine J_cv [] [] [] 1 [(0, AObj 0), (1, I_ v1176.2.1), (2, I_ v1176.2.2.1), (3, I_ v951), (8, ABool v1176.2.2.2), (9, ABool b1159.2), (28, I_ x1.2.2.2.1)] [(0, .row 3 1 (v1176.1.map c_i64))] (.cons (A := AObj 0) rfl (.obj rfl rfl rfl) (.same rfl (.same rfl (.same rfl (.same rfl (.same rfl (.same rfl .nil))))))) (.cons rfl rfl rfl rfl (.row (NKC.flat _ _)) rfl rfl .nil) rfl rfl ?_
    exact K1183 (v1176.1, v1176.2.1, v1176.2.2.1, v951, v1176.2.2.2, b1159.2)
  intro v1182
  refine J_go ?_
  refine J_cv [] [] [] 1 [(0, AObj 0), (1, I_ v1182.2.1), (2, I_ v1182.2.2.1), (3, I_ v1182.2.2.2.1), (8, ABool v1182.2.2.2.2.1), (9, ABool v1182.2.2.2.2.2)] [(0, .row 3 1 (v1182.1.map c_i64))] (.cons (A := AObj 0) rfl (.obj rfl rfl rfl) (.same rfl (.same rfl (.same rfl (.same rfl (.same rfl .nil)))))) (.cons rfl rfl rfl rfl (.row (NKC.flat _ _)) rfl rfl .nil) rfl rfl ?_
  exact hE2 (v1182.1, v1182.2.1, v1182.2.2.1, v1182.2.2.2.1, v1182.2.2.2.2.1, v1182.2.2.2.2.2)
theorem slices_pdqsortOrdered_int_n_ok : ∀ n, (∀ (t0 : (List Int)) (t1 : Int) (t2 : Int) (t3 : Int) (r : (List Int)), (slices_pdqsortOrdered_int_n n) t0 t1 t2 t3 = some r → FnK PP 157 1 [(0, .row 3 1 (t0.map c_i64))] [AObj 0, I_ t1, I_ t2, I_ t3] [(0, .row 3 1 (r.map c_i64))] (ATup [])) := by
  intro n
  induction n with
  | zero => exact (fun _ _ _ _ _ h => by cases h)
  | succ n ih => exact (fun a0 a1 a2 a3 r h => k_slices_pdqsortOrdered_int_b _ ih a0 a1 a2 a3 r h)
theorem k_slices_pdqsortOrdered_int (t0 : (List Int)) (t1 : Int) (t2 : Int) (t3 : Int) (r : (List Int)) (hr : slices_pdqsortOrdered_int t0 t1 t2 t3 = some r) : FnK PP 157 1 [(0, .row 3 1 (t0.map c_i64))] [AObj 0, I_ t1, I_ t2, I_ t3] [(0, .row 3 1 (r.map c_i64))] (ATup []) := by
  obtain ⟨n, hn⟩ := Ev_some hr
  exact (slices_pdqsortOrdered_int_n_ok n) t0 t1 t2 t3 r hn
theorem k_bits_Len64 (t0 : Int) (r : Int) (hr : bits_Len64 t0 = some r) : FnP PP 213 [AInt .u64 t0] (I_ r) := by
  refine FnP.of mixed_ Tryz.func213 rfl (n := 25) rfl (fun (r : Int) => I_ r) nk_args NK.nk rfl hr fun X hΨ => ?_
  refine J_seq ?_
  refine J_region rfl ?_
  refine r_assign (I_ 0) rfl rfl ?_
  refine R_nil0 ?_
  refine J_seq ?_
  refine J_seq ?_
  refine J_region rfl ?_
  refine r_move (AInt .u64 t0) rfl rfl ?_
  refine r_geq rfl rfl rfl ?_
  refine R_nil0 ?_
  apply J_joinA (fun v41 => ⟨fr [(0, AInt .u64 v41.1), (2, I_ v41.2), (3, AInt .u64 t0)], fun _ => none, 0⟩) (fun v41 => bits_Len64_j41 v41)
  · intro K83
    refine J_cond_p rfl (fun h1 => ?_) (fun h1 => ?_)
    rotate_left
    · refine J_skip ?_
      refine J_to [(0, AInt .u64 t0), (2, I_ 0), (3, AInt .u64 t0)] (.cons rfl (.cons rfl (.cons rfl .nil))) ?_
      exact K83 (t0, 0)
    refine J_seq ?_
    refine J_region rfl ?_
    refine r_move (AInt .u64 t0) rfl rfl ?_
    refine R_bind fun b2 h3 => ?_
    refine r_shr b2 rfl rfl (by decide) (Option.some.inj h3) rfl ?_
    refine r_assign (AInt .u64 b2) rfl rfl ?_
    refine R_nil0 ?_
    refine J_region rfl ?_
    refine r_assign (I_ 32) rfl rfl ?_
    refine R_nil0 ?_
    refine J_to [(0, AInt .u64 b2), (2, I_ 32), (3, AInt .u64 t0)] (.cons rfl (.cons rfl (.cons rfl .nil))) ?_
    exact K83 (b2, 32)
  intro v41
  refine J_seq ?_
  refine J_seq ?_
  refine J_region rfl ?_
  refine r_move (AInt .u64 v41.1) rfl rfl ?_
  refine r_geq rfl rfl rfl ?_
  refine R_nil0 ?_
  apply J_joinA (fun v64 => ⟨fr [(0, AInt .u64 v64.1), (2, I_ v64.2), (7, AInt .u64 v41.1)], fun _ => none, 0⟩) (fun v64 => bits_Len64_j64 v64)
  · intro K82
    refine J_cond_p rfl (fun h42 => ?_) (fun h42 => ?_)
    rotate_left
    · refine J_skip ?_
      refine J_to [(0, AInt .u64 v41.1), (2, I_ v41.2), (7, AInt .u64 v41.1)] (.cons rfl (.cons rfl (.cons rfl .nil))) ?_
      exact K82 (v41.1, v41.2)
    refine J_seq ?_
    refine J_region rfl ?_
    refine r_move (AInt .u64 v41.1) rfl rfl ?_
    refine R_bind fun b43 h44 => ?_
    refine r_shr b43 rfl rfl (by decide) (Option.some.inj h44) rfl ?_
    refine r_assign (AInt .u64 b43) rfl rfl ?_
    refine R_nil0 ?_
    refine J_region rfl ?_
    refine r_move (I_ v41.2) rfl rfl ?_
    refine R_bind fun b45 h46 => ?_
    refine r_add b45 rfl rfl (Option.some.inj h46) rfl ?_
    refine r_assign (I_ b45) rfl rfl ?_
    refine R_nil0 ?_
    refine J_to [(0, AInt .u64 b43), (2, I_ b45), (7, AInt .u64 v41.1)] (.cons rfl (.cons rfl (.cons rfl .nil))) ?_
    exact K82 (b43, b45)
  intro v64
  refine J_seq ?_
  refine J_seq ?_
  refine J_region rfl ?_
  refine r_move (AInt .u64 v64.1) rfl rfl ?_
  refine r_geq rfl rfl rfl ?_
  refine R_nil0 ?_
  apply J_joinA (fun v75 => ⟨fr [(0, AInt .u64 v75.1), (2, I_ v75.2), (13, AInt .u64 v64.1)], fun _ => none, 0⟩) (fun v75 => bits_Len64_j75 v75)
  · intro K81
    refine J_cond_p rfl (fun h65 => ?_) (fun h65 => ?_)
    rotate_left
    · refine J_skip ?_
      refine J_to [(0, AInt .u64 v64.1), (2, I_ v64.2), (13, AInt .u64 v64.1)] (.cons rfl (.cons rfl (.cons rfl .nil))) ?_
      exact K81 (v64.1, v64.2)
    refine J_seq ?_
    refine J_region rfl ?_
    refine r_move (AInt .u64 v64.1) rfl rfl ?_
    refine R_bind fun b66 h67 => ?_
    refine r_shr b66 rfl rfl (by decide) (Option.some.inj h67) rfl ?_
    refine r_assign (AInt .u64 b66) rfl rfl ?_
    refine R_nil0 ?_
    refine J_region rfl ?_
    refine r_move (I_ v64.2) rfl rfl ?_
    refine R_bind fun b68 h69 => ?_
    refine r_add b68 rfl rfl (Option.some.inj h69) rfl ?_
    refine r_assign (I_ b68) rfl rfl ?_
    refine R_nil0 ?_
    refine J_to [(0, AInt .u64 b66), (2, I_ b68), (13, AInt .u64 v64.1)] (.cons rfl (.cons rfl (.cons rfl .nil))) ?_
    exact K81 (b66, b68)
  intro v75
  refine J_seq ?_
  refine J_region rfl ?_
  refine r_move (I_ v75.2) rfl rfl ?_
  refine r_move (AInt .u64 v75.1) rfl rfl ?_
  refine R_bind fun b76 h77 => ?_
  refine r_convW b76 us_52 ut_5 rfl (Option.some.inj h77) rfl ?_
  refine R_if (fun h78 => ?_) (fun _ => R_none)
  refine r_ixS ut_9 rfl rfl h78.1 h78.2 rfl ?_
  refine r_conv us_5 ut_3 rfl rfl rfl ?_
  refine R_bind fun b79 h80 => ?_
  refine r_add b79 rfl rfl (Option.some.inj h80) rfl ?_
  refine r_assign (I_ b79) rfl rfl ?_
  refine R_nil0 ?_
  exact J_ret hΨ (Res_one rfl) (fun y hy => by cases hy; rfl)
theorem k_bits_Len (t0 : Int) (r : Int) (hr : bits_Len t0 = some r) : FnP PP 158 [AInt .u64 t0] (I_ r) := by
  refine FnP.of mixed_ Tryz.func158 rfl (n := 8) rfl (fun (r : Int) => I_ r) nk_args NK.nk rfl hr fun X hΨ => ?_
  refine J_seq ?_
  refine J_region rfl ?_
  refine r_assign (I_ 0) rfl rfl ?_
  refine R_nil0 ?_
  refine J_seq ?_
  refine J_cond_F rfl rfl ?_
  refine J_skip ?_
  refine J_seq ?_
  refine J_region rfl ?_
  refine r_move (AInt .u64 t0) rfl rfl ?_
  refine R_bind fun b1 h2 => ?_
  refine r_call _ fn_213 (k_bits_Len64 _ _ h2) rfl rfl ?_
  refine r_assign (I_ b1) rfl rfl ?_
  refine R_nil0 ?_
  exact J_ret hΨ (Res_one rfl) (fun y hy => by cases hy; rfl)
theorem k_slices_Sort_int (t0 : (List Int)) (r : (List Int)) (hr : slices_Sort_int t0 = some r) : FnK PP 116 1 [(0, .row 3 1 (t0.map c_i64))] [AObj 0] [(0, .row 3 1 (r.map c_i64))] (ATup []) := by
  refine FnK.of mixed_ Tryz.func116 rfl (n := 11) rfl (N0 := 1) (ins := [(0, .row 3 1 (t0.map c_i64))]) (args := [AObj 0]) (fun (r : (List Int)) => [(0, .row 3 1 (r.map c_i64))]) (fun (r : (List Int)) => ATup []) (KBL.cons (KB.obj rfl) (inferInstance : KBL 1 [])).kb (InsOk.spec (.row rfl (NKC.flat _ _) .nil)) rfl hr fun X hΨ => ?_
  refine J_seq ?_
  refine J_region rfl ?_
  refine r_move (AObj 0) rfl rfl ?_
  refine r_lenO (cc := c_i64) t0 il_22 rfl rfl rfl ?_
  refine r_assign (I_ (t0.length : Int)) rfl rfl ?_
  refine R_nil0 ?_
  refine J_region rfl ?_
  refine r_move (AObj 0) rfl rfl ?_
  refine r_move (I_ (t0.length : Int)) rfl rfl ?_
  refine r_move (I_ (t0.length : Int)) rfl rfl ?_
  refine R_bind fun b1 h2 => ?_
  refine r_convW b1 us_3 ut_201 rfl (Option.some.inj h2) rfl ?_
  refine R_bind fun b3 h4 => ?_
  refine r_call _ fn_158 (k_bits_Len _ _ h4) rfl rfl ?_
  refine R_bind fun b5 h6 => ?_
  refine r_callK [] [] [] [] 1 [(0, .row 3 1 (t0.map c_i64))] [(0, .row 3 1 (b5.map c_i64))] (ATup []) [AObj 0, I_ 0, I_ (t0.length : Int), I_ b3] fn_157 (k_slices_pdqsortOrdered_int _ _ _ _ _ h6) (.cons rfl .nil) rfl (.cons (.obj rfl rfl rfl) (.cons .same (.cons .same (.cons .same .nil)))) (.cons rfl rfl rfl rfl (.row (NKC.flat _ _)) rfl rfl .nil) (.cons rfl rfl rfl rfl (.row (NKC.flat _ _)) rfl rfl .nil) (.tup .nil) rfl rfl rfl ?_
  refine R_nil0 ?_
  exact J_endK hΨ (Res_none rfl) [] [] [] rfl (fun y hy => by cases hy; exact ⟨(.cons rfl rfl rfl rfl (.row (NKC.flat _ _)) rfl rfl .nil), (.tup .nil)⟩)
theorem k_slices_Compact_int (t0 : (List Int)) (r : (List Int)) (hr : slices_Compact_int t0 = some r) : FnP PP 161 [AL 1 c_i64 t0] (AL 1 c_i64 r) := by
  refine FnP.of mixed_ Tryz.func161 rfl (n := 61) rfl (fun (r : (List Int)) => AL 1 c_i64 r) nk_args NK.nk rfl hr fun X hΨ => ?_
  refine J_seq ?_
  refine J_region rfl ?_
  refine r_assign (ANil) rfl rfl ?_
  refine R_nil0 ?_
  refine J_seq ?_
  refine J_seq ?_
  refine J_region rfl ?_
  refine r_move (AL 1 c_i64 t0) rfl rfl ?_
  refine r_len (cc := c_i64) il_22 rfl rfl ?_
  refine r_lss rfl rfl rfl ?_
  refine R_nil0 ?_
  refine J_cond_p rfl (fun h1 => ?_) (fun h1 => ?_)
  · refine J_seq ?_
    refine J_region rfl ?_
    refine r_move (AL 1 c_i64 t0) rfl rfl ?_
    refine r_assign (AL 1 c_i64 t0) rfl rfl ?_
    refine R_nil0 ?_
    exact J_ret hΨ (Res_one rfl) (fun y hy => by cases hy; rfl)
  refine J_skip ?_
  refine J_seq ?_
  refine J_seq ?_
  refine J_region rfl ?_
  refine r_assign (I_ 1) rfl rfl ?_
  refine R_nil0 ?_
  refine J_block ?_
  refine J_cv [] [] [] 0 [(0, AL 1 c_i64 t0), (3, I_ 1), (7, I_ (t0.length : Int))] [] (.same rfl (.same rfl (.same rfl .nil))) .nil rfl rfl ?_
  refine J_it (fun x2 => ⟨fr [(0, AL 1 c_i64 t0), (3, I_ x2), (7, I_ (t0.length : Int))], hp [], 0⟩) (fun E3 hE3 x2 => ?_) (by rfl)
  refine J_seq ?_
  refine J_seq ?_
  refine J_region rfl ?_
  refine r_move (I_ x2) rfl rfl ?_
  refine r_move (AL 1 c_i64 t0) rfl rfl ?_
  refine r_len (cc := c_i64) il_22 rfl rfl ?_
  refine r_lss rfl rfl rfl ?_
  refine R_nil0 ?_
  refine J_cond_p rfl (fun h23 => ?_) (fun h23 => ?_)
  rotate_left
  · refine J_exit rfl ?_
    refine J_outS ?_
    refine J_seq ?_
    refine J_region rfl ?_
    refine r_move (AL 1 c_i64 t0) rfl rfl ?_
    refine r_assign (AL 1 c_i64 t0) rfl rfl ?_
    refine R_nil0 ?_
    exact J_ret hΨ (Res_one rfl) (fun y hy => by cases hy; rfl)
  refine J_skip ?_
  refine J_seq ?_
  refine J_block ?_
  refine J_seq ?_
  refine J_draw ?_
  refine r_move (AL 1 c_i64 t0) rfl rfl ?_
  refine r_move (I_ x2) rfl rfl ?_
  refine R_if (fun h24 => ?_) (fun _ => R_none)
  refine r_ix (cc := c_i64) el_22 rfl rfl h24.1 h24.2 rfl ?_
  refine r_ld (I_ (nth t0 x2)) sc_3 rfl rfl rfl ?_
  refine r_move (AL 1 c_i64 t0) rfl rfl ?_
  refine r_move (I_ x2) rfl rfl ?_
  refine R_bind fun b25 h26 => ?_
  refine r_sub b25 rfl rfl (Option.some.inj h26) rfl ?_
  refine R_if (fun h27 => ?_) (fun _ => R_none)
  refine r_ix (cc := c_i64) el_22 rfl rfl h27.1 h27.2 rfl ?_
  refine r_ld (I_ (nth t0 b25)) sc_3 rfl rfl rfl ?_
  refine r_eql rfl rfl rfl ?_
  refine R_nilD rfl ?_
  refine J_cond_p rfl (fun h28 => ?_) (fun h28 => ?_)
  rotate_left
  · refine J_skip ?_
    refine J_inBlock ?_
    refine J_range 7 (m := (t0.length : Int)) rfl fun q44 => ?_
    refine J_range 3 (m := x2) rfl fun q45 => ?_
    refine J_region rfl ?_
    refine r_move (I_ x2) rfl rfl ?_
    refine r_add (x2 + 1) rfl rfl (wrap_i64 (by omega) (by omega)) rfl ?_
    refine r_assign (I_ (x2 + 1)) rfl rfl ?_
    refine R_nil0 ?_
    refine J_go ?_
    refine J_cv [] [] [] 0 [(0, AL 1 c_i64 t0), (3, I_ (x2 + 1)), (7, I_ (t0.length : Int))] [] (.same rfl (.same rfl (.same rfl .nil))) .nil rfl rfl ?_
    exact hE3 (x2 + 1)
  refine J_seq ?_
  refine J_region rfl ?_
  refine r_move (AL 1 c_i64 t0) rfl rfl ?_
  refine r_move (I_ x2) rfl rfl ?_
  refine R_if (fun h29 => ?_) (fun _ => R_none)
  refine r_cut (cc := c_i64) x2 (t0.length : Int) el_22 rfl (lo_s rfl) hi_n h29.1 h29.2.1 h29.2.2 rfl ?_
  refine r_assign (AL 1 c_i64 (cut t0 x2 (t0.length : Int))) rfl rfl ?_
  refine R_nil0 ?_
  refine J_seq ?_
  refine J_seq ?_
  refine J_region rfl ?_
  refine r_assign (I_ 1) rfl rfl ?_
  refine R_nil0 ?_
  refine J_block ?_
  refine J_cv [] [] [] 0 [(0, AL 1 c_i64 t0), (3, I_ x2), (4, AL 1 c_i64 (cut t0 x2 (t0.length : Int))), (5, I_ 1), (7, I_ (t0.length : Int)), (10, I_ x2), (12, I_ (t0.length : Int)), (17, I_ x2), (19, I_ (nth t0 x2)), (21, I_ x2), (22, I_ b25), (24, I_ (nth t0 b25)), (27, I_ x2)] [] (.same rfl (.same rfl (.same rfl (.same rfl (.same rfl (.same rfl (.same rfl (.same rfl (.same rfl (.same rfl (.same rfl (.same rfl (.same rfl .nil))))))))))))) .nil rfl rfl ?_
  refine J_it (fun x30 => ⟨fr [(0, AL 1 c_i64 t0), (3, I_ x2), (4, AL 1 c_i64 (cut t0 x2 (t0.length : Int))), (5, I_ x30), (7, I_ (t0.length : Int)), (10, I_ x2), (12, I_ (t0.length : Int)), (17, I_ x2), (19, I_ (nth t0 x2)), (21, I_ x2), (22, I_ b25), (24, I_ (nth t0 b25)), (27, I_ x2)], hp [], 0⟩) (fun E31 hE31 x30 => ?_) (by rfl)
  refine J_seq ?_
  refine J_seq ?_
  refine J_region rfl ?_
  refine r_move (I_ x30) rfl rfl ?_
  refine r_move (AL 1 c_i64 (cut t0 x2 (t0.length : Int))) rfl rfl ?_
  refine r_len (cc := c_i64) il_22 rfl rfl ?_
  refine r_lss rfl rfl rfl ?_
  refine R_nil0 ?_
  refine J_cond_p rfl (fun h36 => ?_) (fun h36 => ?_)
  rotate_left
  · refine J_exit rfl ?_
    refine J_seq ?_
    refine J_region rfl ?_
    refine r_move (AL 1 c_i64 t0) rfl rfl ?_
    refine r_move (I_ x2) rfl rfl ?_
    refine r_cut (cc := c_i64) x2 (t0.length : Int) el_22 rfl (lo_s rfl) hi_n h29.1 h29.2.1 h29.2.2 rfl ?_
    exact R_none
  refine J_skip ?_
  refine J_seq ?_
  refine J_block ?_
  refine J_seq ?_
  refine J_draw ?_
  refine r_move (AL 1 c_i64 (cut t0 x2 (t0.length : Int))) rfl rfl ?_
  refine r_move (I_ x30) rfl rfl ?_
  refine R_if (fun h37 => ?_) (fun _ => R_none)
  refine r_ix (cc := c_i64) el_22 rfl rfl h37.1 h37.2 rfl ?_
  refine r_ld (I_ (nth (cut t0 x2 (t0.length : Int)) x30)) sc_3 rfl rfl rfl ?_
  refine r_move (AL 1 c_i64 (cut t0 x2 (t0.length : Int))) rfl rfl ?_
  refine r_move (I_ x30) rfl rfl ?_
  refine R_bind fun b38 h39 => ?_
  refine r_sub b38 rfl rfl (Option.some.inj h39) rfl ?_
  refine R_if (fun h40 => ?_) (fun _ => R_none)
  refine r_ix (cc := c_i64) el_22 rfl rfl h40.1 h40.2 rfl ?_
  refine r_ld (I_ (nth (cut t0 x2 (t0.length : Int)) b38)) sc_3 rfl rfl rfl ?_
  refine r_neq rfl rfl rfl ?_
  refine R_nilD rfl ?_
  refine J_cond_p rfl (fun h41 => ?_) (fun h41 => ?_)
  · refine J_seq ?_
    refine J_region rfl ?_
    refine r_move (AL 1 c_i64 t0) rfl rfl ?_
    refine r_move (I_ x2) rfl rfl ?_
    refine r_move (AL 1 c_i64 (cut t0 x2 (t0.length : Int))) rfl rfl ?_
    refine r_move (I_ x30) rfl rfl ?_
    refine r_ix (cc := c_i64) el_22 rfl rfl h37.1 h37.2 rfl ?_
    refine r_ld (I_ (nth (cut t0 x2 (t0.length : Int)) x30)) sc_3 rfl rfl rfl ?_
    refine r_ix (cc := c_i64) el_22 rfl rfl h24.1 h24.2 rfl ?_
    exact R_none
  refine J_skip ?_
  refine J_inBlock ?_
  refine J_range 31 (m := ((cut t0 x2 (t0.length : Int)).length : Int)) rfl fun q42 => ?_
  refine J_range 5 (m := x30) rfl fun q43 => ?_
  refine J_region rfl ?_
  refine r_move (I_ x30) rfl rfl ?_
  refine r_add (x30 + 1) rfl rfl (wrap_i64 (by omega) (by omega)) rfl ?_
  refine r_assign (I_ (x30 + 1)) rfl rfl ?_
  refine R_nil0 ?_
  refine J_go ?_
  refine J_cv [] [] [] 0 [(0, AL 1 c_i64 t0), (3, I_ x2), (4, AL 1 c_i64 (cut t0 x2 (t0.length : Int))), (5, I_ (x30 + 1)), (7, I_ (t0.length : Int)), (10, I_ x2), (12, I_ (t0.length : Int)), (17, I_ x2), (19, I_ (nth t0 x2)), (21, I_ x2), (22, I_ b25), (24, I_ (nth t0 b25)), (27, I_ x2)] [] (.same rfl (.same rfl (.same rfl (.same rfl (.same rfl (.same rfl (.same rfl (.same rfl (.same rfl (.same rfl (.same rfl (.same rfl (.same rfl .nil))))))))))))) .nil rfl rfl ?_
  exact hE31 (x30 + 1)
theorem k_morphism_images (t0 : (List Int)) (r : Int) (hr : morphism_images t0 = some r) : FnP PP 188 [AL 1 c_i64 t0] (I_ r) := by
  refine FnP.of mixed_ Tryz.func188 rfl (n := 11) rfl (fun (r : Int) => I_ r) nk_args NK.nk rfl hr fun X hΨ => ?_
  refine J_seq ?_
  refine J_region rfl ?_
  refine r_assign (I_ 0) rfl rfl ?_
  refine R_nil0 ?_
  refine J_seq ?_
  refine J_region rfl ?_
  refine r_move (AL 1 c_i64 t0) rfl rfl ?_
  refine R_bind fun b1 h2 => ?_
  refine r_callK [] [] [] [0] 1 [] [(0, .row 3 1 (b1.map c_i64))] (AObj 0) [AL 1 c_i64 t0] fn_88 (k_slices_Clone_int _ _ h2) .nil rfl (.cons .same .nil) .nil (.cons rfl rfl rfl rfl (.row (NKC.flat _ _)) rfl rfl .nil) (.obj rfl rfl rfl) rfl rfl rfl ?_
  refine r_assign (AObj 0) rfl rfl ?_
  refine R_nil0 ?_
  refine J_seq ?_
  refine J_region rfl ?_
  refine r_move (AObj 0) rfl rfl ?_
  refine R_bind fun b3 h4 => ?_
  refine r_callK [] [] [] [] 1 [(0, .row 3 1 (b1.map c_i64))] [(0, .row 3 1 (b3.map c_i64))] (ATup []) [AObj 0] fn_116 (k_slices_Sort_int _ _ h4) (.cons rfl .nil) rfl (.cons (.obj rfl rfl rfl) .nil) (.cons rfl rfl rfl rfl (.row (NKC.flat _ _)) rfl rfl .nil) (.cons rfl rfl rfl rfl (.row (NKC.flat _ _)) rfl rfl .nil) (.tup .nil) rfl rfl rfl ?_
  refine R_nil0 ?_
  refine J_seq ?_
  refine J_cv [0] [] [] 0 [(2, I_ 0), (3, AL 1 c_i64 b3)] [] (.same rfl (.cons (A := AObj 0) rfl (.frow rfl rfl (NKC.flat _ _)) .nil)) .nil rfl rfl ?_
  refine J_region rfl ?_
  refine r_move (AL 1 c_i64 b3) rfl rfl ?_
  refine R_bind fun b7 h8 => ?_
  refine r_call _ fn_161 (k_slices_Compact_int _ _ h8) rfl rfl ?_
  refine r_len (cc := c_i64) il_22 rfl rfl ?_
  refine r_assign (I_ (b7.length : Int)) rfl rfl ?_
  refine R_nil0 ?_
  exact J_ret hΨ (Res_one rfl) (fun y hy => by cases hy; rfl)
theorem k_morphism_Injective (t0 : api_Graph) (t1 : api_Graph) (t2 : api_Morphism) (r : Bool) (hr : morphism_Injective t0 t1 t2 = some r) : FnP PP 135 [AAgg (c_api_Graph t0), AAgg (c_api_Graph t1), AAgg (c_api_Morphism t2)] (ABool r) := by
  refine FnP.of mixed_ Tryz.func135 rfl (n := 30) rfl (fun (r : Bool) => ABool r) nk_args NK.nk rfl hr fun X hΨ => ?_
  refine J_seq ?_
  refine J_region rfl ?_
  refine r_boxV (AAgg (c_api_Graph t0)) rfl rfl ?_
  refine r_boxV (AAgg (c_api_Graph t1)) rfl rfl ?_
  refine r_boxV (AAgg (c_api_Morphism t2)) rfl rfl ?_
  refine r_assign (ABool false) rfl rfl ?_
  refine R_nil0 ?_
  refine J_seq ?_
  refine J_draw ?_
  refine r_lda (c_api_Graph t0) ag_25 rfl rfl rfl rfl ?_
  refine r_lda (c_api_Graph t1) ag_25 rfl rfl rfl rfl ?_
  refine r_lda (c_api_Morphism t2) ag_32 rfl rfl rfl rfl ?_
  refine R_bind fun b1 h2 => ?_
  refine r_call _ fn_38 (k_morphism_Valid _ _ _ _ h2) rfl rfl ?_
  refine r_eql rfl rfl rfl ?_
  refine r_move (ABool (decide (b1 = 0))) rfl rfl ?_
  refine R_if (fun h3 => ?_) (fun h3 => ?_)
  rotate_left
  · refine R_skip (g_tn rfl rfl (df h3)) ?_
    refine R_skip (g_tn rfl rfl (df h3)) ?_
    refine R_skip (g_tn rfl rfl (df h3)) ?_
    refine R_skip (g_tn rfl rfl (df h3)) ?_
    refine R_skip (g_tn rfl rfl (df h3)) ?_
    refine R_skip (g_tn rfl rfl (df h3)) ?_
    refine R_skip (g_tn rfl rfl (df h3)) ?_
    refine r_pickF (ABool false) rfl (df h3) rfl rfl ?_
    refine r_move (ABool false) rfl rfl ?_
    refine R_skip (g_tn rfl rfl rfl) ?_
    refine R_skip (g_tn rfl rfl rfl) ?_
    refine R_skip (g_tn rfl rfl rfl) ?_
    refine R_skip (g_tn rfl rfl rfl) ?_
    refine R_skip (g_tn rfl rfl rfl) ?_
    refine R_skip (g_tn rfl rfl rfl) ?_
    refine R_skip (g_tn rfl rfl rfl) ?_
    refine r_pickF (ABool false) rfl rfl rfl rfl ?_
    refine r_assign (ABool false) rfl rfl ?_
    refine R_nilD rfl ?_
    exact J_ret hΨ (Res_one rfl) (fun y hy => by cases hy; rfl)
  refine r_faT ((cL 1 c_i64) t2.Nodes) fo_32_0 rfl rfl (g_t rfl rfl (dt h3)) ?_
  refine r_ld (AL 1 c_i64 t2.Nodes) sc_22 rfl rfl (g_t rfl rfl (dt h3)) ?_
  refine R_bind fun b4 h5 => ?_
  refine r_call _ fn_188 (k_morphism_images _ _ h5) rfl (g_t rfl rfl (dt h3)) ?_
  refine r_faT ((cL 1 c_i64) t2.Nodes) fo_32_0 rfl rfl (g_t rfl rfl (dt h3)) ?_
  refine r_ld (AL 1 c_i64 t2.Nodes) sc_22 rfl rfl (g_t rfl rfl (dt h3)) ?_
  refine r_len (cc := c_i64) il_22 rfl (g_t rfl rfl (dt h3)) ?_
  refine r_eql rfl rfl (g_t rfl rfl (dt h3)) ?_
  refine r_pickT (ABool (decide (b4 = (t2.Nodes.length : Int)))) rfl (dt h3) rfl rfl ?_
  refine r_move (ABool (decide (b4 = (t2.Nodes.length : Int)))) rfl rfl ?_
  refine R_if (fun h6 => ?_) (fun h6 => ?_)
  rotate_left
  · refine R_skip (g_tn rfl rfl (df h6)) ?_
    refine R_skip (g_tn rfl rfl (df h6)) ?_
    refine R_skip (g_tn rfl rfl (df h6)) ?_
    refine R_skip (g_tn rfl rfl (df h6)) ?_
    refine R_skip (g_tn rfl rfl (df h6)) ?_
    refine R_skip (g_tn rfl rfl (df h6)) ?_
    refine R_skip (g_tn rfl rfl (df h6)) ?_
    refine r_pickF (ABool false) rfl (df h6) rfl rfl ?_
    refine r_assign (ABool false) rfl rfl ?_
    refine R_nilD rfl ?_
    exact J_ret hΨ (Res_one rfl) (fun y hy => by cases hy; rfl)
  refine r_faT ((cL 1 c_i64) t2.Edges) fo_32_1 rfl rfl (g_t rfl rfl (dt h6)) ?_
  refine r_ld (AL 1 c_i64 t2.Edges) sc_22 rfl rfl (g_t rfl rfl (dt h6)) ?_
  refine R_bind fun b7 h8 => ?_
  refine r_call _ fn_188 (k_morphism_images _ _ h8) rfl (g_t rfl rfl (dt h6)) ?_
  refine r_faT ((cL 1 c_i64) t2.Edges) fo_32_1 rfl rfl (g_t rfl rfl (dt h6)) ?_
  refine r_ld (AL 1 c_i64 t2.Edges) sc_22 rfl rfl (g_t rfl rfl (dt h6)) ?_
  refine r_len (cc := c_i64) il_22 rfl (g_t rfl rfl (dt h6)) ?_
  refine r_eql rfl rfl (g_t rfl rfl (dt h6)) ?_
  refine r_pickT (ABool (decide (b7 = (t2.Edges.length : Int)))) rfl (dt h6) rfl rfl ?_
  refine r_assign (ABool (decide (b7 = (t2.Edges.length : Int)))) rfl rfl ?_
  refine R_nilD rfl ?_
  exact J_ret hΨ (Res_one rfl) (fun y hy => by cases hy; rfl)
theorem k_rule_kept (t0 : api_Rule) (r : Int) (hr : rule_kept t0 = some r) : FnP PP 71 [AAgg (c_api_Rule t0)] (I_ r) := by
  refine FnP.of mixed_ Tryz.func71 rfl (n := 38) rfl (fun (r : Int) => I_ r) nk_args NK.nk rfl hr fun X hΨ => ?_
  refine J_seq ?_
  refine J_region rfl ?_
  refine r_boxV (AAgg (c_api_Rule t0)) rfl rfl ?_
  refine r_assign (I_ 0) rfl rfl ?_
  refine R_nil0 ?_
  refine J_seq ?_
  refine J_region rfl ?_
  refine r_faT (c_api_Pattern t0.Left) fo_37_1 rfl rfl rfl ?_
  refine r_faT (c_api_Graph t0.Left.Graph) fo_29_0 rfl rfl rfl ?_
  refine r_lda (c_api_Graph t0.Left.Graph) ag_25 rfl rfl rfl rfl ?_
  refine r_faT (c_api_Part t0.Keep) fo_37_3 rfl rfl rfl ?_
  refine r_lda (c_api_Part t0.Keep) ag_31 rfl rfl rfl rfl ?_
  refine R_bind fun b1 h2 => ?_
  refine r_call _ fn_37 (k_subgraph_Extract _ _ _ h2) rfl rfl ?_
  refine r_move (ATup [AAgg (c_api_Graph b1.1), AAgg (c_api_Morphism b1.2.1), I_ b1.2.2]) rfl rfl ?_
  refine r_ext (AAgg (c_api_Graph b1.1)) rfl rfl rfl ?_
  refine r_ext (AAgg (c_api_Morphism b1.2.1)) rfl rfl rfl ?_
  refine r_ext (I_ b1.2.2) rfl rfl rfl ?_
  refine r_alloc 0 _ z_25 rfl rfl ?_
  refine r_alloc 1 _ z_32 rfl rfl ?_
  refine r_stO (AObj 0) (AAgg (c_api_Graph b1.1)) (c_api_Graph b1.1) sz_25 rfl .obj rfl rfl rfl rfl rfl rfl ?_
  refine r_stO (AObj 1) (AAgg (c_api_Morphism b1.2.1)) (c_api_Morphism b1.2.1) sz_32 rfl .obj rfl rfl rfl rfl rfl rfl ?_
  refine r_assign (I_ b1.2.2) rfl rfl ?_
  refine R_nil0 ?_
  refine J_seq ?_
  refine J_seq ?_
  refine J_region rfl ?_
  refine r_move (I_ b1.2.2) rfl rfl ?_
  refine r_neq rfl rfl rfl ?_
  refine R_nil0 ?_
  refine J_cond_p rfl (fun h3 => ?_) (fun h3 => ?_)
  · refine J_seq ?_
    refine J_region rfl ?_
    refine r_move (I_ b1.2.2) rfl rfl ?_
    refine r_assign (I_ b1.2.2) rfl rfl ?_
    refine R_nil0 ?_
    exact J_ret hΨ (Res_one rfl) (fun y hy => by cases hy; rfl)
  refine J_skip ?_
  refine J_seq ?_
  refine J_seq ?_
  refine J_region rfl ?_
  refine r_ldaO (AObj 0) (c_api_Graph b1.1) ag_25 rfl .obj rfl rfl rfl rfl ?_
  refine r_faT (c_api_Pattern t0.Right) fo_37_2 rfl rfl rfl ?_
  refine r_faT (c_api_Graph t0.Right.Graph) fo_29_0 rfl rfl rfl ?_
  refine r_lda (c_api_Graph t0.Right.Graph) ag_25 rfl rfl rfl rfl ?_
  refine r_faT (c_api_Morphism t0.Into) fo_37_4 rfl rfl rfl ?_
  refine r_lda (c_api_Morphism t0.Into) ag_32 rfl rfl rfl rfl ?_
  refine R_bind fun b4 h5 => ?_
  refine r_call _ fn_38 (k_morphism_Valid _ _ _ _ h5) rfl rfl ?_
  refine r_assign (I_ b4) rfl rfl ?_
  refine R_nil0 ?_
  refine J_seq ?_
  refine J_region rfl ?_
  refine r_move (I_ b4) rfl rfl ?_
  refine r_neq rfl rfl rfl ?_
  refine R_nil0 ?_
  refine J_cond_p rfl (fun h6 => ?_) (fun h6 => ?_)
  · refine J_seq ?_
    refine J_region rfl ?_
    refine r_move (I_ b4) rfl rfl ?_
    refine r_assign (I_ b4) rfl rfl ?_
    refine R_nil0 ?_
    exact J_ret hΨ (Res_one rfl) (fun y hy => by cases hy; rfl)
  refine J_skip ?_
  refine J_seq ?_
  refine J_seq ?_
  refine J_region rfl ?_
  refine r_ldaO (AObj 0) (c_api_Graph b1.1) ag_25 rfl .obj rfl rfl rfl rfl ?_
  refine r_faT (c_api_Pattern t0.Right) fo_37_2 rfl rfl rfl ?_
  refine r_faT (c_api_Graph t0.Right.Graph) fo_29_0 rfl rfl rfl ?_
  refine r_lda (c_api_Graph t0.Right.Graph) ag_25 rfl rfl rfl rfl ?_
  refine r_faT (c_api_Morphism t0.Into) fo_37_4 rfl rfl rfl ?_
  refine r_lda (c_api_Morphism t0.Into) ag_32 rfl rfl rfl rfl ?_
  refine R_bind fun b7 h8 => ?_
  refine r_call _ fn_135 (k_morphism_Injective _ _ _ _ h8) rfl rfl ?_
  refine r_not rfl rfl ?_
  refine R_nil0 ?_
  refine J_cond rfl (fun h9 => ?_) (fun h9 => ?_)
  · refine J_seq ?_
    refine J_region rfl ?_
    refine r_assign (I_ 11) rfl rfl ?_
    refine R_nil0 ?_
    exact J_ret hΨ (Res_one rfl) (fun y hy => by cases hy; rfl)
  refine J_skip ?_
  refine J_seq ?_
  refine J_region rfl ?_
  refine r_assign (I_ 0) rfl rfl ?_
  refine R_nil0 ?_
  exact J_ret hΨ (Res_one rfl) (fun y hy => by cases hy; rfl)
theorem k_condition_bare (t0 : api_Condition) (r : Bool) (hr : condition_bare t0 = some r) : FnP PP 243 [AAgg (c_api_Condition t0)] (ABool r) := by
  refine FnP.of mixed_ Tryz.func243 rfl (n := 39) rfl (fun (r : Bool) => ABool r) nk_args NK.nk rfl hr fun X hΨ => ?_
  refine J_seq ?_
  refine J_region rfl ?_
  refine r_boxV (AAgg (c_api_Condition t0)) rfl rfl ?_
  refine r_assign (ABool false) rfl rfl ?_
  refine R_nil0 ?_
  refine J_seq ?_
  refine J_region rfl ?_
  refine r_faT (c_api_Pattern t0.Pattern) fo_35_3 rfl rfl rfl ?_
  refine r_lda (c_api_Pattern t0.Pattern) ag_29 rfl rfl rfl rfl ?_
  refine r_alloc 0 _ z_29 rfl rfl ?_
  refine r_stO (AObj 0) (AAgg (c_api_Pattern t0.Pattern)) (c_api_Pattern t0.Pattern) sz_29 rfl .obj rfl rfl rfl rfl rfl rfl ?_
  refine R_nil0 ?_
  refine J_seq ?_
  refine J_region rfl ?_
  refine r_faT (c_api_Morphism t0.Map) fo_35_2 rfl rfl rfl ?_
  refine r_faT ((cL 1 c_i64) t0.Map.Nodes) fo_32_0 rfl rfl rfl ?_
  refine r_ld (AL 1 c_i64 t0.Map.Nodes) sc_22 rfl rfl rfl ?_
  refine r_len (cc := c_i64) il_22 rfl rfl ?_
  refine r_faT (c_api_Morphism t0.Map) fo_35_2 rfl rfl rfl ?_
  refine r_faT ((cL 1 c_i64) t0.Map.Edges) fo_32_1 rfl rfl rfl ?_
  refine r_ld (AL 1 c_i64 t0.Map.Edges) sc_22 rfl rfl rfl ?_
  refine r_len (cc := c_i64) il_22 rfl rfl ?_
  refine R_bind fun b1 h2 => ?_
  refine r_add b1 rfl rfl (Option.some.inj h2) rfl ?_
  refine r_faO (AObj 0) 0 fo_29_0 rfl .obj rfl rfl rfl ?_
  refine r_faO (ABoxAt 0 0) 0 fo_25_0 rfl .at rfl rfl rfl ?_
  refine r_ldO (ABoxAt 0 0) (AL 1 c_i64 t0.Pattern.Graph.Nodes) sc_22 rfl .at rfl rfl rfl ?_
  refine r_len (cc := c_i64) il_22 rfl rfl ?_
  refine R_bind fun b3 h4 => ?_
  refine r_add b3 rfl rfl (Option.some.inj h4) rfl ?_
  refine r_faO (AObj 0) 0 fo_29_0 rfl .obj rfl rfl rfl ?_
  refine r_faO (ABoxAt 0 0) 1 fo_25_1 rfl .at rfl rfl rfl ?_
  refine r_ldO (ABoxAt 0 1) (AL 3 c_api_Edge t0.Pattern.Graph.Edges) sc_23 rfl .at rfl rfl rfl ?_
  refine r_len (cc := c_api_Edge) il_23 rfl rfl ?_
  refine R_bind fun b5 h6 => ?_
  refine r_add b5 rfl rfl (Option.some.inj h6) rfl ?_
  refine r_faO (AObj 0) 2 fo_29_1 rfl .obj rfl rfl rfl ?_
  refine r_ldO (ABoxAt 0 2) (AL 4 c_api_Slot t0.Pattern.Slots) sc_26 rfl .at rfl rfl rfl ?_
  refine r_len (cc := c_api_Slot) il_26 rfl rfl ?_
  refine R_bind fun b7 h8 => ?_
  refine r_add b7 rfl rfl (Option.some.inj h8) rfl ?_
  refine r_faO (AObj 0) 4 fo_29_3 rfl .obj rfl rfl rfl ?_
  refine r_ldO (ABoxAt 0 4) (AL 5 c_api_Test t0.Pattern.Tests) sc_27 rfl .at rfl rfl rfl ?_
  refine r_len (cc := c_api_Test) il_27 rfl rfl ?_
  refine R_bind fun b9 h10 => ?_
  refine r_add b9 rfl rfl (Option.some.inj h10) rfl ?_
  refine r_eql rfl rfl rfl ?_
  refine r_move (ABool (decide (b9 = 0))) rfl rfl ?_
  refine R_if (fun h11 => ?_) (fun h11 => ?_)
  · refine r_faO (AObj 0) 3 fo_29_2 rfl .obj rfl rfl (g_t rfl rfl (dt h11)) ?_
    refine r_ldO (ABoxAt 0 3) (I_ t0.Pattern.Vars) sc_3 rfl .at rfl rfl (g_t rfl rfl (dt h11)) ?_
    refine r_eql rfl rfl (g_t rfl rfl (dt h11)) ?_
    refine r_pickT (ABool (decide (t0.Pattern.Vars = 0))) rfl (dt h11) rfl rfl ?_
    refine r_assign (ABool (decide (t0.Pattern.Vars = 0))) rfl rfl ?_
    refine R_nil0 ?_
    exact J_ret hΨ (Res_one rfl) (fun y hy => by cases hy; rfl)
  refine R_skip (g_tn rfl rfl (df h11)) ?_
  refine R_skip (g_tn rfl rfl (df h11)) ?_
  refine R_skip (g_tn rfl rfl (df h11)) ?_
  refine r_pickF (ABool false) rfl (df h11) rfl rfl ?_
  refine r_assign (ABool false) rfl rfl ?_
  refine R_nil0 ?_
  exact J_ret hΨ (Res_one rfl) (fun y hy => by cases hy; rfl)
theorem k_slices_IndexFunc_api_Condition (t0 : (List api_Condition)) (t1 : (api_Condition → Option Bool)) (r : Int) (hr : slices_IndexFunc_api_Condition t0 t1 = some r) : FnP PP 268 [AL 9 c_api_Condition t0, AFn PP (fun x => [AAgg (c_api_Condition x)]) (fun y => ABool y) t1] (I_ r) := by
  refine FnP.of mixed_ Tryz.func268 rfl (n := 19) rfl (fun (r : Int) => I_ r) nk_args NK.nk rfl hr fun X hΨ => ?_
  refine J_seq ?_
  refine J_region rfl ?_
  refine r_assign (I_ 0) rfl rfl ?_
  refine R_nil0 ?_
  refine J_seq ?_
  refine J_seq ?_
  refine J_region rfl ?_
  refine r_move (AL 9 c_api_Condition t0) rfl rfl ?_
  refine r_len (cc := c_api_Condition) il_33 rfl rfl ?_
  refine r_move (I_ 0) rfl rfl ?_
  refine R_nil0 ?_
  refine J_block ?_
  refine J_to [(0, AL 9 c_api_Condition t0), (1, AFn PP (fun x => [AAgg (c_api_Condition x)]) (fun y => ABool y) t1), (7, I_ (t0.length : Int)), (8, I_ 0)] (.cons rfl (.cons rfl (.cons rfl (.cons rfl .nil)))) ?_
  refine J_it (fun x1 => ⟨fr [(0, AL 9 c_api_Condition t0), (1, AFn PP (fun x => [AAgg (c_api_Condition x)]) (fun y => ABool y) t1), (7, I_ (t0.length : Int)), (8, I_ x1)], fun _ => none, 0⟩) (fun E2 hE2 x1 => ?_) (by rfl)
  refine J_seq ?_
  refine J_region rfl ?_
  refine r_lss rfl rfl rfl ?_
  refine R_nil0 ?_
  refine J_seq ?_
  refine J_cond_p rfl (fun h8 => ?_) (fun h8 => ?_)
  rotate_left
  · refine J_exit rfl ?_
    refine J_outS ?_
    refine J_seq ?_
    refine J_region rfl ?_
    refine r_assign (I_ (-1)) rfl rfl ?_
    refine R_nil0 ?_
    exact J_ret hΨ (Res_one rfl) (fun y hy => by cases hy; rfl)
  refine J_skip ?_
  refine J_seq ?_
  refine J_block ?_
  refine J_seq ?_
  refine J_region rfl ?_
  refine r_move (I_ x1) rfl rfl ?_
  refine r_assign (I_ x1) rfl rfl ?_
  refine R_nil0 ?_
  refine J_seq ?_
  refine J_region rfl ?_
  refine r_move (AFn PP (fun x => [AAgg (c_api_Condition x)]) (fun y => ABool y) t1) rfl rfl ?_
  refine r_move (AL 9 c_api_Condition t0) rfl rfl ?_
  refine r_move (I_ x1) rfl rfl ?_
  refine R_if (fun h9 => ?_) (fun _ => R_none)
  refine r_ix (cc := c_api_Condition) el_33 rfl rfl h9.1 h9.2 rfl ?_
  refine r_lda (c_api_Condition (nth t0 x1)) ag_35 rfl rfl rfl rfl ?_
  refine R_bind fun b10 h11 => ?_
  refine r_callFn (ga := (fun x => [AAgg (c_api_Condition x)])) (rt := (fun y => ABool y)) (gg := t1) (u := (nth t0 x1)) (w := b10) rfl rfl h11 (NK.nk) rfl ?_
  refine R_nil0 ?_
  refine J_cond rfl (fun h12 => ?_) (fun h12 => ?_)
  · refine J_seq ?_
    refine J_region rfl ?_
    refine r_move (I_ x1) rfl rfl ?_
    refine r_assign (I_ x1) rfl rfl ?_
    refine R_nil0 ?_
    refine J_outS ?_
    exact J_ret hΨ (Res_one rfl) (fun y hy => by cases hy; rfl)
  refine J_skip ?_
  refine J_inBlock ?_
  refine J_range 7 (m := (t0.length : Int)) rfl fun q13 => ?_
  refine J_range 5 (m := x1) rfl fun q14 => ?_
  refine J_region rfl ?_
  refine r_add (x1 + 1) rfl rfl (wrap_i64 (by omega) (by omega)) rfl ?_
  refine r_move (I_ (x1 + 1)) rfl rfl ?_
  refine R_nil0 ?_
  refine J_go ?_
  refine J_to [(0, AL 9 c_api_Condition t0), (1, AFn PP (fun x => [AAgg (c_api_Condition x)]) (fun y => ABool y) t1), (7, I_ (t0.length : Int)), (8, I_ (x1 + 1))] (.cons rfl (.cons rfl (.cons rfl (.cons rfl .nil)))) ?_
  exact hE2 (x1 + 1)
theorem k_slices_ContainsFunc_api_Condition (t0 : (List api_Condition)) (t1 : (api_Condition → Option Bool)) (r : Bool) (hr : slices_ContainsFunc_api_Condition t0 t1 = some r) : FnP PP 244 [AL 9 c_api_Condition t0, AFn PP (fun x => [AAgg (c_api_Condition x)]) (fun y => ABool y) t1] (ABool r) := by
  refine FnP.of mixed_ Tryz.func244 rfl (n := 9) rfl (fun (r : Bool) => ABool r) nk_args NK.nk rfl hr fun X hΨ => ?_
  refine J_seq ?_
  refine J_region rfl ?_
  refine r_assign (ABool false) rfl rfl ?_
  refine R_nil0 ?_
  refine J_seq ?_
  refine J_region rfl ?_
  refine r_move (AL 9 c_api_Condition t0) rfl rfl ?_
  refine r_move (AFn PP (fun x => [AAgg (c_api_Condition x)]) (fun y => ABool y) t1) rfl rfl ?_
  refine R_bind fun b1 h2 => ?_
  refine r_call _ fn_268 (k_slices_IndexFunc_api_Condition _ _ _ h2) rfl rfl ?_
  refine r_geq rfl rfl rfl ?_
  refine r_assign (ABool (decide (0 ≤ b1))) rfl rfl ?_
  refine R_nil0 ?_
  exact J_ret hΨ (Res_one rfl) (fun y hy => by cases hy; rfl)
end Go.Proofs.YtpnfoacmgfklaaaGreat.K
