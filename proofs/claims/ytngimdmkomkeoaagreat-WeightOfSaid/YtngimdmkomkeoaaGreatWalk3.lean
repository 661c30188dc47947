/- Each function computes what its plain form says. -/
import Derived.Test.YtngimdmkomkeoaaGreatWalk2
set_option linter.unusedVariables false
set_option linter.unusedSimpArgs false
namespace Go.Proofs.YtngimdmkomkeoaaGreat.K
open Go.RowKit Go.Proofs
set_option maxHeartbeats 4000000
set_option maxRecDepth 100000
theorem k_ref04_bound (t0 : Int) (t1 : Int) (r : Bool) (hr : ref04_bound t0 t1 = some r) : FnP PP 111 [I_ t0, I_ t1] (ABool r) := by
  refine FnP.of mixed_ Tryz.func111 q (n := 16) q (fun (r : Bool) => ABool r) nk_args NK.nk q hr fun X hΨ => ?_
  refine Jq q <| Ra (ABool false) q q <| R0 <| Jq q <| Rm (I_ t0) q q <| R_bind fun b1 h2 => r_call _ fn_108 (k_ref04_in _ _ _ _ h2) q q <| Rm (ABool b1) q q ?_
  refine R_if (fun h3 => ?_) (fun h3 => ?_)
  rotate_left
  · refine Rk (g_tn q q (bf h3)) <| Rk (g_tn q q (bf h3)) <| Rk (g_tn q q (bf h3)) <| Rk (g_u q q) <| Rk (g_u q q) <| Rk (g_u q q) <| Rk (g_tn q q (bf h3)) <| r_pickF (ABool false) q (bf h3) q q <| Ra (ABool false) q q <| R0 ?_
    exact Jt hΨ (Res_one q) q q
  refine Rm (I_ t1) q (g_t q q h3) <| r_eql q q (g_t q q h3) <| Rm (ABool (decide (t1 = (-1)))) q (g_t q q h3) <| R_if (fun h4 => ?_) (fun h4 => ?_)
  · exact Rk (g_fn q q (dt h4)) <| Rk (g_fn q q (dt h4)) <| Rk (g_fn q q (dt h4)) <| r_pickT (ABool true) q (dt h4) q (g_t q q h3) <| r_pickT (ABool true) q h3 q q <| Ra (ABool true) q q <| R0 <| Jt hΨ (Res_one q) q q
  exact Rm (I_ t1) q (g_f q q (df h4)) <| Rm (I_ t0) q (g_f q q (df h4)) <| R_bind fun b5 h6 => r_call _ fn_108 (k_ref04_in _ _ _ _ h6) q (g_f q q (df h4)) <| r_pickF (ABool b5) q (df h4) q (g_t q q h3) <| r_pickT (ABool b5) q h3 q q <| Ra (ABool b5) q q <| R0 <| Jt hΨ (Res_one q) q q
theorem k_ref04_edge (t0 : api_Types) (t1 : Int) (r : Int) (hr : ref04_edge t0 t1 = some r) : FnP PP 66 [AAgg (c_api_Types t0), I_ t1] (I_ r) := by
  refine FnP.of mixed_ Tryz.func66 q (n := 63) q (fun (r : Int) => I_ r) nk_args NK.nk q hr fun X hΨ => ?_
  refine Jq q <| r_boxV (AAgg (c_api_Types t0)) q q <| Ra (I_ 0) q q <| R0 <| Jq q <| r_faT ((cL 7 c_api_EdgeType) t0.Edges) fo_25_1 q q q <| r_ld (AL 7 c_api_EdgeType t0.Edges) sc_23 q q q <| Rm (I_ t1) q q ?_
  refine R_if (fun h1 => ?_) (fun _ => R_none)
  refine r_ix (cc := c_api_EdgeType) el_23 q q h1.1 h1.2 q <| r_lda (c_api_EdgeType (nth t0.Edges t1)) ag_102 q q q q <| r_alloc 0 _ z_102 q q <| r_stO (AObj 0) (AAgg (c_api_EdgeType (nth t0.Edges t1))) (c_api_EdgeType (nth t0.Edges t1)) sz_102 q .obj q q q q q q <| R0 <| Js <| Jq q <| r_faO (AObj 0) 0 fo_102_0 q .obj q q q <| r_ldO (ABoxAt 0 0) (AStr ((nth t0.Edges t1).Name)) sc_9 q .at q q q ?_
  refine R_bind fun b2 h3 => r_call _ fn_67 (k_ref01_IsName _ _ h3) q q <| r_not q q <| R0 <| J_cond q (fun h4 => ?_) (fun h4 => ?_)
  · exact Jq q <| Ra (I_ 2) q q <| R0 <| Jt hΨ (Res_one q) q q
  refine J_skip <| Js <| Jq q <| Ra (I_ 0) q q <| R0 <| J_block <| J_cv [] [] [] 1 [(1, I_ t1), (2, APtr (c_api_Types t0)), (4, I_ 0), (5, AObj 0), (6, I_ 0), (10, I_ t1)] [(0, .box 102 (c_api_EdgeType (nth t0.Edges t1)))] (.same q (.same q (.same q (.cons (A := AObj 0) q (.obj q q q) (.same q (.same q .nil)))))) (.cons q q q q (.box (CvL.sames)) q q .nil) q q <| J_it (fun x5 => ⟨fr [(1, I_ t1), (2, APtr (c_api_Types t0)), (4, I_ 0), (5, AObj 0), (6, I_ x5), (10, I_ t1)], hp [(0, .box 102 (c_api_EdgeType (nth t0.Edges t1)))], 1⟩) (fun E6 hE6 x5 => ?_) (by rfl)
  refine Js <| Jq q <| Rm (I_ x5) q q <| Rm (I_ t1) q q <| r_lss q q q <| R0 <| J_cond_p q (fun h10 => ?_) (fun h10 => ?_)
  · refine J_skip <| Js <| J_block <| Js <| J_draw <| r_faT ((cL 7 c_api_EdgeType) t0.Edges) fo_25_1 q q q <| r_ld (AL 7 c_api_EdgeType t0.Edges) sc_23 q q q <| Rm (I_ x5) q q <| R_if (fun h11 => ?_) (fun _ => R_none)
    refine r_ix (cc := c_api_EdgeType) el_23 q q h11.1 h11.2 q <| r_faT (c_str ((nth t0.Edges x5).Name)) fo_102_0 q q q <| r_ld (AStr ((nth t0.Edges x5).Name)) sc_9 q q q <| r_faO (AObj 0) 0 fo_102_0 q .obj q q q <| r_ldO (ABoxAt 0 0) (AStr ((nth t0.Edges t1).Name)) sc_9 q .at q q q <| r_eqS q q q <| R_nilD (by kernel_rfl) <| J_cond_p q (fun h12 => ?_) (fun h12 => ?_)
    · exact Jq q <| Ra (I_ 5) q q <| R0 <| J_outS <| Jt hΨ (Res_one q) q q
    refine J_skip <| J_inBlock <| J_range 1 (m := t1) q fun q13 => J_range 6 (m := x5) q fun q14 => Jr q <| Rm (I_ x5) q q <| r_add (x5 + 1) q q (wrap_i64 (by omega) (by omega)) q <| Ra (I_ (x5 + 1)) q q <| R0 <| J_go ?_
    exact J_cv [] [] [] 1 [(1, I_ t1), (2, APtr (c_api_Types t0)), (4, I_ 0), (5, AObj 0), (6, I_ (x5 + 1)), (10, I_ t1)] [(0, .box 102 (c_api_EdgeType (nth t0.Edges t1)))] (.same q (.same q (.same q (.cons (A := AObj 0) q (.obj q q q) (.same q (.same q .nil)))))) (.cons q q q q (.box (CvL.sames)) q q .nil) q q <| hE6 (x5 + 1)
  refine J_exit q <| J_out <| Jq q <| r_faT ((cL 4 c_api_NodeType) t0.Nodes) fo_25_0 q q q <| r_ld (AL 4 c_api_NodeType t0.Nodes) sc_22 q q q <| r_len (cc := c_api_NodeType) il_22 q q <| R_bind fun b15 h16 => r_sub b15 q q (Option.some.inj h16) q <| Ra (I_ b15) q q ?_
  refine R0 <| Js <| Jq q <| r_faO (AObj 0) 1 fo_102_1 q .obj q q q <| r_ldO (ABoxAt 0 1) (I_ ((nth t0.Edges t1).From)) sc_3 q .at q q q <| Rm (I_ b15) q q <| R_bind fun b17 h18 => r_call _ fn_108 (k_ref04_in _ _ _ _ h18) q q <| r_not q q ?_
  refine Rm (ABool (!b17)) q q <| R_if (fun h19 => ?_) (fun h19 => ?_)
  · refine Rk (g_fn q q h19) <| Rk (g_fn q q h19) <| Rk (g_fn q q h19) <| Rk (g_fn q q h19) <| Rk (g_fn q q h19) <| r_pickT (ABool true) q h19 q q <| Rm (ABool true) q q <| Rk (g_fn q q q) <| Rk (g_fn q q q) <| Rk (g_fn q q q) ?_
    refine Rk (g_fn q q q) <| Rk (g_fn q q q) <| Rk (g_fn q q q) <| r_pickT (ABool true) q q q q <| Rm (ABool true) q q <| Rk (g_fn q q q) <| Rk (g_fn q q q) <| Rk (g_fn q q q) <| Rk (g_fn q q q) <| Rk (g_fn q q q) ?_
    exact Rk (g_fn q q q) <| r_pickT (ABool true) q q q q <| R0 <| J_cond_T q q <| Jq q <| Ra (I_ 6) q q <| R0 <| Jt hΨ (Res_one q) q q
  refine r_faO (AObj 0) 2 fo_102_2 q .obj q q (g_f q q (bf h19)) <| r_ldO (ABoxAt 0 2) (I_ ((nth t0.Edges t1).To)) sc_3 q .at q q (g_f q q (bf h19)) <| Rm (I_ b15) q (g_f q q (bf h19)) <| R_bind fun b20 h21 => r_call _ fn_108 (k_ref04_in _ _ _ _ h21) q (g_f q q (bf h19)) <| r_not q (g_f q q (bf h19)) <| r_pickF (ABool (!b20)) q (bf h19) q q <| Rm (ABool (!b20)) q q <| R_if (fun h22 => ?_) (fun h22 => ?_)
  · refine Rk (g_fn q q h22) <| Rk (g_fn q q h22) <| Rk (g_fn q q h22) <| Rk (g_fn q q h22) <| Rk (g_fn q q h22) <| Rk (g_fn q q h22) <| r_pickT (ABool true) q h22 q q <| Rm (ABool true) q q <| Rk (g_fn q q q) <| Rk (g_fn q q q) ?_
    refine Rk (g_fn q q q) <| Rk (g_fn q q q) <| Rk (g_fn q q q) <| Rk (g_fn q q q) <| r_pickT (ABool true) q q q q <| R0 <| J_cond_T q q <| Jq q <| Ra (I_ 6) q q ?_
    exact R0 <| Jt hΨ (Res_one q) q q
  refine r_faO (AObj 0) 3 fo_102_3 q .obj q q (g_f q q (bf h22)) <| r_ldO (ABoxAt 0 3) (I_ ((nth t0.Edges t1).OutLow)) sc_3 q .at q q (g_f q q (bf h22)) <| r_faO (AObj 0) 4 fo_102_4 q .obj q q (g_f q q (bf h22)) <| r_ldO (ABoxAt 0 4) (I_ ((nth t0.Edges t1).OutHigh)) sc_3 q .at q q (g_f q q (bf h22)) <| R_bind fun b23 h24 => r_call _ fn_111 (k_ref04_bound _ _ _ h24) q (g_f q q (bf h22)) <| r_not q (g_f q q (bf h22)) <| r_pickF (ABool (!b23)) q (bf h22) q q <| Rm (ABool (!b23)) q q <| R_if (fun h25 => ?_) (fun h25 => ?_)
  · refine Rk (g_fn q q h25) <| Rk (g_fn q q h25) <| Rk (g_fn q q h25) <| Rk (g_fn q q h25) <| Rk (g_fn q q h25) <| Rk (g_fn q q h25) <| r_pickT (ABool true) q h25 q q <| R0 <| J_cond_T q q <| Js ?_
    exact Jr q <| Ra (I_ 6) q q <| R0 <| Jt hΨ (Res_one q) q q
  refine r_faO (AObj 0) 5 fo_102_5 q .obj q q (g_f q q (bf h25)) <| r_ldO (ABoxAt 0 5) (I_ ((nth t0.Edges t1).InLow)) sc_3 q .at q q (g_f q q (bf h25)) <| r_faO (AObj 0) 6 fo_102_6 q .obj q q (g_f q q (bf h25)) <| r_ldO (ABoxAt 0 6) (I_ ((nth t0.Edges t1).InHigh)) sc_3 q .at q q (g_f q q (bf h25)) <| R_bind fun b26 h27 => r_call _ fn_111 (k_ref04_bound _ _ _ h27) q (g_f q q (bf h25)) <| r_not q (g_f q q (bf h25)) <| r_pickF (ABool (!b26)) q (bf h25) q q <| R0 <| J_cond q (fun h28 => ?_) (fun h28 => ?_)
  · exact Jq q <| Ra (I_ 6) q q <| R0 <| Jt hΨ (Res_one q) q q
  exact J_skip <| Jq q <| Ra (I_ 0) q q <| R0 <| Jt hΨ (Res_one q) q q
theorem k_ref04_Valid (t0 : api_Types) (r : ByteArray × Int) (hr : ref04_Valid t0 = some r) : FnP PP 33 [AAgg (c_api_Types t0)] (ATup [AStr r.1, I_ r.2]) := by
  refine FnP.of mixed_ Tryz.func33 q (n := 60) q (fun (r : ByteArray × Int) => ATup [AStr r.1, I_ r.2]) nk_args NK.nk q hr fun X hΨ => ?_
  refine Jq q <| r_boxV (AAgg (c_api_Types t0)) q q <| Ra (AStr (ByteArray.mk #[])) q q <| Ra (I_ 0) q q <| R0 <| Js <| Jq q <| r_faT ((cL 4 c_api_NodeType) t0.Nodes) fo_25_0 q q q ?_
  refine r_ld (AL 4 c_api_NodeType t0.Nodes) sc_22 q q q <| r_len (cc := c_api_NodeType) il_22 q q <| r_eql q q q <| R0 <| J_cond_p q (fun h1 => ?_) (fun h1 => ?_)
  · exact Jq q <| Ra (AStr (ByteArray.mk #[])) q q <| Ra (I_ 7) q q <| R0 <| Jt hΨ (Res_many (As := [AStr (ByteArray.mk #[]), I_ 7]) q q (.cons (.tmp (A := AStr (ByteArray.mk #[])) q) (.cons (.tmp (A := I_ 7) q) .nil))) q q
  refine J_skip <| Js <| Jq q <| r_faT ((cL 4 c_api_NodeType) t0.Nodes) fo_25_0 q q q <| r_ld (AL 4 c_api_NodeType t0.Nodes) sc_22 q q q <| r_len (cc := c_api_NodeType) il_22 q q <| r_gtr q q q <| Rm (ABool (decide (12 < (t0.Nodes.length : Int)))) q q <| R_if (fun h2 => ?_) (fun h2 => ?_)
  · refine Rk (g_fn q q (dt h2)) <| Rk (g_fn q q (dt h2)) <| Rk (g_fn q q (dt h2)) <| Rk (g_fn q q (dt h2)) <| r_pickT (ABool true) q (dt h2) q q <| R0 <| J_cond_T q q <| Jq q <| Ra (AStr (ByteArray.mk #[])) q q ?_
    exact Ra (I_ 3) q q <| R0 <| Jt hΨ (Res_many (As := [AStr (ByteArray.mk #[]), I_ 3]) q q (.cons (.tmp (A := AStr (ByteArray.mk #[])) q) (.cons (.tmp (A := I_ 3) q) .nil))) q q
  refine r_faT ((cL 7 c_api_EdgeType) t0.Edges) fo_25_1 q q (g_f q q (df h2)) <| r_ld (AL 7 c_api_EdgeType t0.Edges) sc_23 q q (g_f q q (df h2)) <| r_len (cc := c_api_EdgeType) il_23 q (g_f q q (df h2)) <| r_gtr q q (g_f q q (df h2)) <| r_pickF (ABool (decide (20 < (t0.Edges.length : Int)))) q (df h2) q q <| R0 <| J_cond_p q (fun h3 => ?_) (fun h3 => ?_)
  · exact Jq q <| Ra (AStr (ByteArray.mk #[])) q q <| Ra (I_ 3) q q <| R0 <| Jt hΨ (Res_many (As := [AStr (ByteArray.mk #[]), I_ 3]) q q (.cons (.tmp (A := AStr (ByteArray.mk #[])) q) (.cons (.tmp (A := I_ 3) q) .nil))) q q
  refine J_skip <| Js <| Jq q <| Ra (I_ 0) q q <| R0 <| J_block <| J_to [(1, APtr (c_api_Types t0)), (3, I_ 0), (4, I_ 0), (10, I_ (t0.Nodes.length : Int)), (14, I_ (t0.Nodes.length : Int)), (19, I_ (t0.Edges.length : Int))] (.cons q (.cons q (.cons q (.cons q (.cons q (.cons q .nil)))))) <| J_it (fun x4 => ⟨fr [(1, APtr (c_api_Types t0)), (3, I_ 0), (4, I_ x4), (10, I_ (t0.Nodes.length : Int)), (14, I_ (t0.Nodes.length : Int)), (19, I_ (t0.Edges.length : Int))], fun _ => none, 0⟩) (fun E5 hE5 x4 => ?_) (by rfl)
  refine Js <| Jq q <| Rm (I_ x4) q q <| r_faT ((cL 4 c_api_NodeType) t0.Nodes) fo_25_0 q q q <| r_ld (AL 4 c_api_NodeType t0.Nodes) sc_22 q q q <| r_len (cc := c_api_NodeType) il_22 q q <| r_lss q q q <| R0 <| J_cond_p q (fun h11 => ?_) (fun h11 => ?_)
  · refine J_skip <| Js <| J_block <| Jq q <| r_lda (c_api_Types t0) ag_25 q q q q <| Rm (I_ x4) q q <| R_bind fun b12 h13 => r_call _ fn_65 (k_ref04_node _ _ _ h13) q q <| Ra (I_ b12) q q ?_
    refine R0 <| Jq q <| Rm (I_ b12) q q <| r_neq q q q <| R0 <| J_cond_p q (fun h14 => ?_) (fun h14 => ?_)
    rotate_left
    · refine J_skip <| J_inBlock <| J_range 10 (m := (t0.Nodes.length : Int)) q fun q16 => J_range 4 (m := x4) q fun q17 => Jr q <| Rm (I_ x4) q q <| r_add (x4 + 1) q q (wrap_i64 (by omega) (by omega)) q <| Ra (I_ (x4 + 1)) q q <| R0 <| J_go ?_
      exact J_to [(1, APtr (c_api_Types t0)), (3, I_ 0), (4, I_ (x4 + 1)), (10, I_ (t0.Nodes.length : Int)), (14, I_ (t0.Nodes.length : Int)), (19, I_ (t0.Edges.length : Int))] (.cons q (.cons q (.cons q (.cons q (.cons q (.cons q .nil)))))) <| hE5 (x4 + 1)
    refine Jq q <| r_faT ((cL 4 c_api_NodeType) t0.Nodes) fo_25_0 q q q <| r_ld (AL 4 c_api_NodeType t0.Nodes) sc_22 q q q <| Rm (I_ x4) q q <| R_if (fun h15 => ?_) (fun _ => R_none)
    exact r_ix (cc := c_api_NodeType) el_22 q q h15.1 h15.2 q <| r_faT (c_str ((nth t0.Nodes x4).Name)) fo_97_0 q q q <| r_ld (AStr ((nth t0.Nodes x4).Name)) sc_9 q q q <| Rm (I_ b12) q q <| Ra (AStr ((nth t0.Nodes x4).Name)) q q <| Ra (I_ b12) q q <| R0 <| J_outS <| Jt hΨ (Res_many (As := [AStr ((nth t0.Nodes x4).Name), I_ b12]) q q (.cons (.tmp (A := AStr ((nth t0.Nodes x4).Name)) q) (.cons (.tmp (A := I_ b12) q) .nil))) q q
  refine J_exit q <| J_out <| Js <| Jq q <| Ra (I_ 0) q q <| R0 <| J_block <| J_to [(1, APtr (c_api_Types t0)), (3, I_ 0), (4, I_ x4), (6, I_ 0), (10, I_ (t0.Nodes.length : Int)), (14, I_ (t0.Nodes.length : Int)), (19, I_ (t0.Edges.length : Int)), (22, I_ x4), (25, I_ (t0.Nodes.length : Int))] (.cons q (.cons q (.cons q (.cons q (.cons q (.cons q (.cons q (.cons q (.cons q .nil))))))))) <| J_it (fun x18 => ⟨fr [(1, APtr (c_api_Types t0)), (3, I_ 0), (4, I_ x4), (6, I_ x18), (10, I_ (t0.Nodes.length : Int)), (14, I_ (t0.Nodes.length : Int)), (19, I_ (t0.Edges.length : Int)), (22, I_ x4), (25, I_ (t0.Nodes.length : Int))], fun _ => none, 0⟩) (fun E19 hE19 x18 => ?_) (by rfl)
  refine Js <| Jq q <| Rm (I_ x18) q q <| r_faT ((cL 7 c_api_EdgeType) t0.Edges) fo_25_1 q q q <| r_ld (AL 7 c_api_EdgeType t0.Edges) sc_23 q q q <| r_len (cc := c_api_EdgeType) il_23 q q <| r_lss q q q <| R0 <| J_cond_p q (fun h25 => ?_) (fun h25 => ?_)
  rotate_left
  · exact J_exit q <| J_outS <| Jq q <| Ra (AStr (ByteArray.mk #[])) q q <| Ra (I_ 0) q q <| R0 <| Jt hΨ (Res_many (As := [AStr (ByteArray.mk #[]), I_ 0]) q q (.cons (.tmp (A := AStr (ByteArray.mk #[])) q) (.cons (.tmp (A := I_ 0) q) .nil))) q q
  refine J_skip <| Js <| J_block <| Jq q <| r_lda (c_api_Types t0) ag_25 q q q q <| Rm (I_ x18) q q <| R_bind fun b26 h27 => r_call _ fn_66 (k_ref04_edge _ _ _ h27) q q <| Ra (I_ b26) q q ?_
  refine R0 <| Jq q <| Rm (I_ b26) q q <| r_neq q q q <| R0 <| J_cond_p q (fun h28 => ?_) (fun h28 => ?_)
  rotate_left
  · refine J_skip <| J_inBlock <| J_range 19 (m := (t0.Edges.length : Int)) q fun q30 => J_range 6 (m := x18) q fun q31 => Jr q <| Rm (I_ x18) q q <| r_add (x18 + 1) q q (wrap_i64 (by omega) (by omega)) q <| Ra (I_ (x18 + 1)) q q <| R0 <| J_go ?_
    exact J_to [(1, APtr (c_api_Types t0)), (3, I_ 0), (4, I_ x4), (6, I_ (x18 + 1)), (10, I_ (t0.Nodes.length : Int)), (14, I_ (t0.Nodes.length : Int)), (19, I_ (t0.Edges.length : Int)), (22, I_ x4), (25, I_ (t0.Nodes.length : Int))] (.cons q (.cons q (.cons q (.cons q (.cons q (.cons q (.cons q (.cons q (.cons q .nil))))))))) <| hE19 (x18 + 1)
  refine Jq q <| r_faT ((cL 7 c_api_EdgeType) t0.Edges) fo_25_1 q q q <| r_ld (AL 7 c_api_EdgeType t0.Edges) sc_23 q q q <| Rm (I_ x18) q q <| R_if (fun h29 => ?_) (fun _ => R_none)
  exact r_ix (cc := c_api_EdgeType) el_23 q q h29.1 h29.2 q <| r_faT (c_str ((nth t0.Edges x18).Name)) fo_102_0 q q q <| r_ld (AStr ((nth t0.Edges x18).Name)) sc_9 q q q <| Rm (I_ b26) q q <| Ra (AStr ((nth t0.Edges x18).Name)) q q <| Ra (I_ b26) q q <| R0 <| J_outS <| Jt hΨ (Res_many (As := [AStr ((nth t0.Edges x18).Name), I_ b26]) q q (.cons (.tmp (A := AStr ((nth t0.Edges x18).Name)) q) (.cons (.tmp (A := I_ b26) q) .nil))) q q
theorem k_ref05_kind (t0 : Int) (r : Bool) (hr : ref05_kind t0 = some r) : FnP PP 140 [I_ t0] (ABool r) := by
  refine FnP.of mixed_ Tryz.func140 q (n := 9) q (fun (r : Bool) => ABool r) nk_args NK.nk q hr fun X hΨ => ?_
  refine Jq q <| Ra (ABool false) q q <| R0 <| Jq q <| Rm (I_ t0) q q <| r_geq q q q <| Rm (ABool (decide (0 ≤ t0))) q q <| R_if (fun h1 => ?_) (fun h1 => ?_)
  · exact Rm (I_ t0) q (g_t q q (dt h1)) <| r_leq q q (g_t q q (dt h1)) <| r_pickT (ABool (decide (t0 ≤ 99))) q (dt h1) q q <| Ra (ABool (decide (t0 ≤ 99))) q q <| R0 <| Jt hΨ (Res_one q) q q
  exact Rk (g_tn q q (df h1)) <| Rk (g_tn q q (df h1)) <| r_pickF (ABool false) q (df h1) q q <| Ra (ABool false) q q <| R0 <| Jt hΨ (Res_one q) q q
theorem k_ref05_right (t0 : api_Edge) (t1 : Int) (r : Bool) (hr : ref05_right t0 t1 = some r) : FnP PP 141 [AAgg (c_api_Edge t0), I_ t1] (ABool r) := by
  refine FnP.of mixed_ Tryz.func141 q (n := 30) q (fun (r : Bool) => ABool r) nk_args NK.nk q hr fun X hΨ => ?_
  refine Jq q <| r_boxV (AAgg (c_api_Edge t0)) q q <| Ra (ABool false) q q <| R0 <| Jq q <| r_faT (c_i64 t0.Type_) fo_77_0 q q q <| r_ld (I_ t0.Type_) sc_3 q q q <| R_bind fun b1 h2 => ?_
  refine r_call _ fn_140 (k_ref05_kind _ _ h2) q q <| Rm (ABool b1) q q <| R_if (fun h3 => ?_) (fun h3 => ?_)
  rotate_left
  · refine Rk (g_tn q q (bf h3)) <| Rk (g_tn q q (bf h3)) <| Rk (g_tn q q (bf h3)) <| r_pickF (ABool false) q (bf h3) q q <| Rm (ABool false) q q <| Rk (g_tn q q q) <| Rk (g_tn q q q) <| Rk (g_tn q q q) <| Rk (g_tn q q q) <| r_pickF (ABool false) q q q q ?_
    refine Rm (ABool false) q q <| Rk (g_tn q q q) <| Rk (g_tn q q q) <| Rk (g_tn q q q) <| r_pickF (ABool false) q q q q <| Rm (ABool false) q q <| Rk (g_tn q q q) <| Rk (g_tn q q q) <| Rk (g_tn q q q) <| Rk (g_tn q q q) ?_
    exact r_pickF (ABool false) q q q q <| Ra (ABool false) q q <| R0 <| Jt hΨ (Res_one q) q q
  refine r_faT (c_i64 t0.From) fo_77_1 q q (g_t q q h3) <| r_ld (I_ t0.From) sc_3 q q (g_t q q h3) <| r_geq q q (g_t q q h3) <| r_pickT (ABool (decide (0 ≤ t0.From))) q h3 q q <| Rm (ABool (decide (0 ≤ t0.From))) q q <| R_if (fun h4 => ?_) (fun h4 => ?_)
  rotate_left
  · refine Rk (g_tn q q (df h4)) <| Rk (g_tn q q (df h4)) <| Rk (g_tn q q (df h4)) <| Rk (g_tn q q (df h4)) <| r_pickF (ABool false) q (df h4) q q <| Rm (ABool false) q q <| Rk (g_tn q q q) <| Rk (g_tn q q q) <| Rk (g_tn q q q) <| r_pickF (ABool false) q q q q ?_
    exact Rm (ABool false) q q <| Rk (g_tn q q q) <| Rk (g_tn q q q) <| Rk (g_tn q q q) <| Rk (g_tn q q q) <| r_pickF (ABool false) q q q q <| Ra (ABool false) q q <| R0 <| Jt hΨ (Res_one q) q q
  refine r_faT (c_i64 t0.From) fo_77_1 q q (g_t q q (dt h4)) <| r_ld (I_ t0.From) sc_3 q q (g_t q q (dt h4)) <| Rm (I_ t1) q (g_t q q (dt h4)) <| r_lss q q (g_t q q (dt h4)) <| r_pickT (ABool (decide (t0.From < t1))) q (dt h4) q q <| Rm (ABool (decide (t0.From < t1))) q q <| R_if (fun h5 => ?_) (fun h5 => ?_)
  rotate_left
  · refine Rk (g_tn q q (df h5)) <| Rk (g_tn q q (df h5)) <| Rk (g_tn q q (df h5)) <| r_pickF (ABool false) q (df h5) q q <| Rm (ABool false) q q <| Rk (g_tn q q q) <| Rk (g_tn q q q) <| Rk (g_tn q q q) <| Rk (g_tn q q q) <| r_pickF (ABool false) q q q q ?_
    exact Ra (ABool false) q q <| R0 <| Jt hΨ (Res_one q) q q
  refine r_faT (c_i64 t0.To) fo_77_2 q q (g_t q q (dt h5)) <| r_ld (I_ t0.To) sc_3 q q (g_t q q (dt h5)) <| r_geq q q (g_t q q (dt h5)) <| r_pickT (ABool (decide (0 ≤ t0.To))) q (dt h5) q q <| Rm (ABool (decide (0 ≤ t0.To))) q q <| R_if (fun h6 => ?_) (fun h6 => ?_)
  · exact r_faT (c_i64 t0.To) fo_77_2 q q (g_t q q (dt h6)) <| r_ld (I_ t0.To) sc_3 q q (g_t q q (dt h6)) <| Rm (I_ t1) q (g_t q q (dt h6)) <| r_lss q q (g_t q q (dt h6)) <| r_pickT (ABool (decide (t0.To < t1))) q (dt h6) q q <| Ra (ABool (decide (t0.To < t1))) q q <| R0 <| Jt hΨ (Res_one q) q q
  exact Rk (g_tn q q (df h6)) <| Rk (g_tn q q (df h6)) <| Rk (g_tn q q (df h6)) <| Rk (g_tn q q (df h6)) <| r_pickF (ABool false) q (df h6) q q <| Ra (ABool false) q q <| R0 <| Jt hΨ (Res_one q) q q
theorem k_ref05_Valid (t0 : api_Graph) (r : Int) (hr : ref05_Valid t0 = some r) : FnP PP 88 [AAgg (c_api_Graph t0)] (I_ r) := by
  refine FnP.of mixed_ Tryz.func88 q (n := 46) q (fun (r : Int) => I_ r) nk_args NK.nk q hr fun X hΨ => ?_
  refine Jq q <| r_boxV (AAgg (c_api_Graph t0)) q q <| Ra (I_ 0) q q <| R0 <| Js <| Jq q <| r_faT ((cL 1 c_i64) t0.Nodes) fo_29_0 q q q <| r_ld (AL 1 c_i64 t0.Nodes) sc_26 q q q ?_
  refine r_len (cc := c_i64) il_26 q q <| r_gtr q q q <| Rm (ABool (decide (40 < (t0.Nodes.length : Int)))) q q <| R_if (fun h1 => ?_) (fun h1 => ?_)
  · refine Rk (g_fn q q (dt h1)) <| Rk (g_fn q q (dt h1)) <| Rk (g_fn q q (dt h1)) <| Rk (g_fn q q (dt h1)) <| r_pickT (ABool true) q (dt h1) q q <| R0 <| J_cond_T q q <| Jq q <| Ra (I_ 3) q q ?_
    exact R0 <| Jt hΨ (Res_one q) q q
  refine r_faT ((cL 3 c_api_Edge) t0.Edges) fo_29_1 q q (g_f q q (df h1)) <| r_ld (AL 3 c_api_Edge t0.Edges) sc_27 q q (g_f q q (df h1)) <| r_len (cc := c_api_Edge) il_27 q (g_f q q (df h1)) <| r_gtr q q (g_f q q (df h1)) <| r_pickF (ABool (decide (80 < (t0.Edges.length : Int)))) q (df h1) q q <| R0 <| J_cond_p q (fun h2 => ?_) (fun h2 => ?_)
  · exact Jq q <| Ra (I_ 3) q q <| R0 <| Jt hΨ (Res_one q) q q
  refine J_skip <| Js <| Jq q <| Ra (I_ 0) q q <| R0 <| J_block <| J_to [(1, APtr (c_api_Graph t0)), (2, I_ 0), (3, I_ 0), (7, I_ (t0.Nodes.length : Int)), (12, I_ (t0.Edges.length : Int))] (.cons q (.cons q (.cons q (.cons q (.cons q .nil))))) <| J_it (fun x3 => ⟨fr [(1, APtr (c_api_Graph t0)), (2, I_ 0), (3, I_ x3), (7, I_ (t0.Nodes.length : Int)), (12, I_ (t0.Edges.length : Int))], fun _ => none, 0⟩) (fun E4 hE4 x3 => ?_) (by rfl)
  refine Js <| Jq q <| Rm (I_ x3) q q <| r_faT ((cL 1 c_i64) t0.Nodes) fo_29_0 q q q <| r_ld (AL 1 c_i64 t0.Nodes) sc_26 q q q <| r_len (cc := c_i64) il_26 q q <| r_lss q q q <| R0 <| J_cond_p q (fun h10 => ?_) (fun h10 => ?_)
  · refine J_skip <| Js <| J_block <| Jq q <| r_faT ((cL 1 c_i64) t0.Nodes) fo_29_0 q q q <| r_ld (AL 1 c_i64 t0.Nodes) sc_26 q q q <| Rm (I_ x3) q q <| R_if (fun h11 => ?_) (fun _ => R_none)
    refine r_ix (cc := c_i64) el_26 q q h11.1 h11.2 q <| r_ld (I_ (nth t0.Nodes x3)) sc_3 q q q <| R_bind fun b12 h13 => r_call _ fn_140 (k_ref05_kind _ _ h13) q q <| r_not q q <| R0 <| J_cond q (fun h14 => ?_) (fun h14 => ?_)
    · exact Jq q <| Ra (I_ 6) q q <| R0 <| J_outS <| Jt hΨ (Res_one q) q q
    refine J_skip <| J_inBlock <| J_range 7 (m := (t0.Nodes.length : Int)) q fun q15 => J_range 3 (m := x3) q fun q16 => Jr q <| Rm (I_ x3) q q <| r_add (x3 + 1) q q (wrap_i64 (by omega) (by omega)) q <| Ra (I_ (x3 + 1)) q q <| R0 <| J_go ?_
    exact J_to [(1, APtr (c_api_Graph t0)), (2, I_ 0), (3, I_ (x3 + 1)), (7, I_ (t0.Nodes.length : Int)), (12, I_ (t0.Edges.length : Int))] (.cons q (.cons q (.cons q (.cons q (.cons q .nil))))) <| hE4 (x3 + 1)
  refine J_exit q <| J_out <| Js <| Jq q <| Ra (I_ 0) q q <| R0 <| J_block <| J_to [(1, APtr (c_api_Graph t0)), (2, I_ 0), (3, I_ x3), (4, I_ 0), (7, I_ (t0.Nodes.length : Int)), (12, I_ (t0.Edges.length : Int)), (15, I_ x3), (18, I_ (t0.Nodes.length : Int))] (.cons q (.cons q (.cons q (.cons q (.cons q (.cons q (.cons q (.cons q .nil)))))))) <| J_it (fun x17 => ⟨fr [(1, APtr (c_api_Graph t0)), (2, I_ 0), (3, I_ x3), (4, I_ x17), (7, I_ (t0.Nodes.length : Int)), (12, I_ (t0.Edges.length : Int)), (15, I_ x3), (18, I_ (t0.Nodes.length : Int))], fun _ => none, 0⟩) (fun E18 hE18 x17 => ?_) (by rfl)
  refine Js <| Jq q <| Rm (I_ x17) q q <| r_faT ((cL 3 c_api_Edge) t0.Edges) fo_29_1 q q q <| r_ld (AL 3 c_api_Edge t0.Edges) sc_27 q q q <| r_len (cc := c_api_Edge) il_27 q q <| r_lss q q q <| R0 <| J_cond_p q (fun h24 => ?_) (fun h24 => ?_)
  rotate_left
  · exact J_exit q <| J_outS <| Jq q <| Ra (I_ 0) q q <| R0 <| Jt hΨ (Res_one q) q q
  refine J_skip <| Js <| J_block <| Js <| J_draw <| r_faT ((cL 3 c_api_Edge) t0.Edges) fo_29_1 q q q <| r_ld (AL 3 c_api_Edge t0.Edges) sc_27 q q q <| Rm (I_ x17) q q <| R_if (fun h25 => ?_) (fun _ => R_none)
  refine r_ix (cc := c_api_Edge) el_27 q q h25.1 h25.2 q <| r_lda (c_api_Edge (nth t0.Edges x17)) ag_77 q q q q <| r_faT ((cL 1 c_i64) t0.Nodes) fo_29_0 q q q <| r_ld (AL 1 c_i64 t0.Nodes) sc_26 q q q <| r_len (cc := c_i64) il_26 q q <| R_bind fun b26 h27 => r_call _ fn_141 (k_ref05_right _ _ _ h27) q q <| r_not q q <| R_nilD (by kernel_rfl) <| J_cond q (fun h28 => ?_) (fun h28 => ?_)
  · exact Jq q <| Ra (I_ 6) q q <| R0 <| J_outS <| Jt hΨ (Res_one q) q q
  refine J_skip <| J_inBlock <| J_range 12 (m := (t0.Edges.length : Int)) q fun q29 => J_range 4 (m := x17) q fun q30 => Jr q <| Rm (I_ x17) q q <| r_add (x17 + 1) q q (wrap_i64 (by omega) (by omega)) q <| Ra (I_ (x17 + 1)) q q <| R0 <| J_go ?_
  exact J_to [(1, APtr (c_api_Graph t0)), (2, I_ 0), (3, I_ x3), (4, I_ (x17 + 1)), (7, I_ (t0.Nodes.length : Int)), (12, I_ (t0.Edges.length : Int)), (15, I_ x3), (18, I_ (t0.Nodes.length : Int))] (.cons q (.cons q (.cons q (.cons q (.cons q (.cons q (.cons q (.cons q .nil)))))))) <| hE18 (x17 + 1)
theorem k_ref04_given (t0 : api_Types) (t1 : Int) (t2 : Int) (r : Int) (hr : ref04_given t0 t1 t2 = some r) : FnP PP 142 [AAgg (c_api_Types t0), I_ t1, I_ t2] (I_ r) := by
  refine FnP.of mixed_ Tryz.func142 q (n := 33) q (fun (r : Int) => I_ r) nk_args NK.nk q hr fun X hΨ => ?_
  refine Jq q <| r_boxV (AAgg (c_api_Types t0)) q q <| Ra (I_ 0) q q <| R0 <| Js <| Jq q <| r_lda (c_api_Types t0) ag_25 q q q q <| R_bind fun b1 h2 => ?_
  refine r_call _ fn_33 (k_ref04_Valid _ _ h2) q q <| Rm (ATup [AStr b1.1, I_ b1.2]) q q <| r_ext (AStr b1.1) q q q <| r_ext (I_ b1.2) q q q <| Ra (AStr b1.1) q q <| Ra (I_ b1.2) q q <| R0 <| Jq q <| Rm (I_ b1.2) q q ?_
  refine r_neq q q q <| R0 <| J_cond_p q (fun h3 => ?_) (fun h3 => ?_)
  · exact Jq q <| Rm (I_ b1.2) q q <| Ra (I_ b1.2) q q <| R0 <| Jt hΨ (Res_one q) q q
  refine J_skip <| Js <| Jq q <| Rm (I_ t1) q q <| r_faT ((cL 4 c_api_NodeType) t0.Nodes) fo_25_0 q q q <| r_ld (AL 4 c_api_NodeType t0.Nodes) sc_22 q q q <| r_len (cc := c_api_NodeType) il_22 q q <| R_bind fun b4 h5 => r_sub b4 q q (Option.some.inj h5) q ?_
  refine R_bind fun b6 h7 => r_call _ fn_108 (k_ref04_in _ _ _ _ h7) q q <| r_not q q <| Rm (ABool (!b6)) q q <| R_if (fun h8 => ?_) (fun h8 => ?_)
  · refine Rk (g_fn q q h8) <| Rk (g_fn q q h8) <| Rk (g_fn q q h8) <| Rk (g_fn q q h8) <| Rk (g_fn q q h8) <| Rk (g_fn q q h8) <| Rk (g_fn q q h8) <| r_pickT (ABool true) q h8 q q <| R0 <| J_cond_T q q ?_
    exact Jq q <| Ra (I_ 6) q q <| R0 <| Jt hΨ (Res_one q) q q
  refine Rm (I_ t2) q (g_f q q (bf h8)) <| r_faT ((cL 4 c_api_NodeType) t0.Nodes) fo_25_0 q q (g_f q q (bf h8)) <| r_ld (AL 4 c_api_NodeType t0.Nodes) sc_22 q q (g_f q q (bf h8)) <| r_len (cc := c_api_NodeType) il_22 q (g_f q q (bf h8)) <| R_bind fun b9 h10 => r_sub b9 q q (Option.some.inj h10) (g_f q q (bf h8)) <| R_bind fun b11 h12 => r_call _ fn_108 (k_ref04_in _ _ _ _ h12) q (g_f q q (bf h8)) <| r_not q (g_f q q (bf h8)) <| r_pickF (ABool (!b11)) q (bf h8) q q ?_
  refine R0 <| J_cond q (fun h13 => ?_) (fun h13 => ?_)
  · exact Jq q <| Ra (I_ 6) q q <| R0 <| Jt hΨ (Res_one q) q q
  exact J_skip <| Jq q <| Ra (I_ 0) q q <| R0 <| Jt hΨ (Res_one q) q q
theorem k_ref04_Below1_b (q_ref04_Below1 : api_Types → Int → Int → Option Bool) (hq_ref04_Below1 : ∀ (t0 : api_Types) (t1 : Int) (t2 : Int) (r : Bool), q_ref04_Below1 t0 t1 t2 = some r → FnP PP 143 [AAgg (c_api_Types t0), I_ t1, I_ t2] (ABool r)) (t0 : api_Types) (t1 : Int) (t2 : Int) (r : Bool) (hr : ref04_Below1_b q_ref04_Below1 t0 t1 t2 = some r) : FnP PP 143 [AAgg (c_api_Types t0), I_ t1, I_ t2] (ABool r) := by
  refine FnP.of mixed_ Tryz.func143 q (n := 25) q (fun (r : Bool) => ABool r) nk_args NK.nk q hr fun X hΨ => ?_
  refine Jq q <| r_boxV (AAgg (c_api_Types t0)) q q <| Ra (ABool false) q q <| R0 <| Js <| J_draw <| Rm (I_ t1) q q <| Rm (I_ t2) q q <| r_eql q q q ?_
  refine Rm (ABool (decide (t1 = t2))) q q <| R_if (fun h1 => ?_) (fun h1 => ?_)
  · refine Rk (g_fn q q (dt h1)) <| Rk (g_fn q q (dt h1)) <| Rk (g_fn q q (dt h1)) <| Rk (g_u q q) <| Rk (g_u q q) <| Rk (g_u q q) <| Rk (g_u q q) <| Rk (g_u q q) <| Rk (g_u q q) <| Rk (g_u q q) ?_
    exact Rk (g_u q q) <| Rk (g_u q q) <| Rk (g_fn q q (dt h1)) <| r_pickT (ABool true) q (dt h1) q q <| Ra (ABool true) q q <| R_nilD (by kernel_rfl) <| Jt hΨ (Res_one q) q q
  refine Rm (I_ t1) q (g_f q q (df h1)) <| r_geq q q (g_f q q (df h1)) <| Rm (ABool (decide (0 ≤ t1))) q (g_f q q (df h1)) <| R_if (fun h2 => ?_) (fun h2 => ?_)
  rotate_left
  · refine Rk (g_tn q q (df h2)) <| Rk (g_tn q q (df h2)) <| Rk (g_tn q q (df h2)) <| Rk (g_tn q q (df h2)) <| Rk (g_tn q q (df h2)) <| Rk (g_tn q q (df h2)) <| Rk (g_tn q q (df h2)) <| Rk (g_tn q q (df h2)) <| Rk (g_tn q q (df h2)) <| r_pickF (ABool false) q (df h2) q (g_f q q (df h1)) ?_
    exact r_pickF (ABool false) q (df h1) q q <| Ra (ABool false) q q <| R_nilD (by kernel_rfl) <| Jt hΨ (Res_one q) q q
  refine r_lda (c_api_Types t0) ag_25 q q q (g_t q q (dt h2)) <| r_faT ((cL 4 c_api_NodeType) t0.Nodes) fo_25_0 q q (g_t q q (dt h2)) <| r_ld (AL 4 c_api_NodeType t0.Nodes) sc_22 q q (g_t q q (dt h2)) <| Rm (I_ t1) q (g_t q q (dt h2)) <| R_if (fun h3 => ?_) (fun _ => R_none)
  refine r_ix (cc := c_api_NodeType) el_22 q q h3.1 h3.2 (g_t q q (dt h2)) <| r_faT (c_i64 ((nth t0.Nodes t1).Parent)) fo_97_1 q q (g_t q q (dt h2)) <| r_ld (I_ ((nth t0.Nodes t1).Parent)) sc_3 q q (g_t q q (dt h2)) <| Rm (I_ t2) q (g_t q q (dt h2)) <| R_bind fun b4 h5 => r_call _ fn_143 (hq_ref04_Below1 _ _ _ _ h5) q (g_t q q (dt h2)) <| r_pickT (ABool b4) q (dt h2) q (g_f q q (df h1)) <| r_pickF (ABool b4) q (df h1) q q <| Ra (ABool b4) q q <| R_nilD (by kernel_rfl) ?_
  exact Jt hΨ (Res_one q) q q
theorem ref04_Below1_n_ok : ∀ n, (∀ (t0 : api_Types) (t1 : Int) (t2 : Int) (r : Bool), (ref04_Below1_n n) t0 t1 t2 = some r → FnP PP 143 [AAgg (c_api_Types t0), I_ t1, I_ t2] (ABool r)) := by
  intro n
  induction n with
  | zero => exact (fun _ _ _ _ h => by cases h)
  | succ n ih => exact (fun a0 a1 a2 r h => k_ref04_Below1_b _ ih a0 a1 a2 r h)
theorem k_ref04_Below1 (t0 : api_Types) (t1 : Int) (t2 : Int) (r : Bool) (hr : ref04_Below1 t0 t1 t2 = some r) : FnP PP 143 [AAgg (c_api_Types t0), I_ t1, I_ t2] (ABool r) := by
  obtain ⟨n, hn⟩ := Ev_some hr
  exact (ref04_Below1_n_ok n) t0 t1 t2 r hn
theorem k_ref04_Fits (t0 : api_Types) (t1 : Int) (t2 : Int) (t3 : Int) (r : Bool) (hr : ref04_Fits t0 t1 t2 t3 = some r) : FnP PP 89 [AAgg (c_api_Types t0), I_ t1, I_ t2, I_ t3] (ABool r) := by
  refine FnP.of mixed_ Tryz.func89 q (n := 43) q (fun (r : Bool) => ABool r) nk_args NK.nk q hr fun X hΨ => ?_
  refine Jq q <| r_boxV (AAgg (c_api_Types t0)) q q <| Ra (ABool false) q q <| R0 <| Js <| Jq q <| r_lda (c_api_Types t0) ag_25 q q q q <| Rm (I_ t2) q q ?_
  refine Rm (I_ t3) q q <| R_bind fun b1 h2 => r_call _ fn_142 (k_ref04_given _ _ _ _ h2) q q <| r_neq q q q <| Rm (ABool (decide (¬ (b1 = 0)))) q q <| R_if (fun h3 => ?_) (fun h3 => ?_)
  · refine Rk (g_fn q q (dt h3)) <| Rk (g_fn q q (dt h3)) <| Rk (g_fn q q (dt h3)) <| Rk (g_fn q q (dt h3)) <| Rk (g_fn q q (dt h3)) <| Rk (g_fn q q (dt h3)) <| Rk (g_fn q q (dt h3)) <| r_pickT (ABool true) q (dt h3) q q <| R0 <| J_cond_T q q ?_
    exact Jq q <| Ra (ABool false) q q <| R0 <| Jt hΨ (Res_one q) q q
  refine Rm (I_ t1) q (g_f q q (df h3)) <| r_faT ((cL 7 c_api_EdgeType) t0.Edges) fo_25_1 q q (g_f q q (df h3)) <| r_ld (AL 7 c_api_EdgeType t0.Edges) sc_23 q q (g_f q q (df h3)) <| r_len (cc := c_api_EdgeType) il_23 q (g_f q q (df h3)) <| R_bind fun b4 h5 => r_sub b4 q q (Option.some.inj h5) (g_f q q (df h3)) <| R_bind fun b6 h7 => r_call _ fn_108 (k_ref04_in _ _ _ _ h7) q (g_f q q (df h3)) <| r_not q (g_f q q (df h3)) <| r_pickF (ABool (!b6)) q (df h3) q q ?_
  refine R0 <| J_cond q (fun h8 => ?_) (fun h8 => ?_)
  · exact Jq q <| Ra (ABool false) q q <| R0 <| Jt hΨ (Res_one q) q q
  refine J_skip <| Js <| J_draw <| r_lda (c_api_Types t0) ag_25 q q q q <| Rm (I_ t2) q q <| r_faT ((cL 7 c_api_EdgeType) t0.Edges) fo_25_1 q q q <| r_ld (AL 7 c_api_EdgeType t0.Edges) sc_23 q q q <| Rm (I_ t1) q q <| R_if (fun h9 => ?_) (fun _ => R_none)
  refine r_ix (cc := c_api_EdgeType) el_23 q q h9.1 h9.2 q <| r_faT (c_i64 ((nth t0.Edges t1).From)) fo_102_1 q q q <| r_ld (I_ ((nth t0.Edges t1).From)) sc_3 q q q <| R_bind fun b10 h11 => r_call _ fn_143 (k_ref04_Below1 _ _ _ _ h11) q q <| Rm (ABool b10) q q <| R_if (fun h12 => ?_) (fun h12 => ?_)
  rotate_left
  · refine Rk (g_tn q q (bf h12)) <| Rk (g_tn q q (bf h12)) <| Rk (g_tn q q (bf h12)) <| Rk (g_tn q q (bf h12)) <| Rk (g_tn q q (bf h12)) <| Rk (g_tn q q (bf h12)) <| Rk (g_tn q q (bf h12)) <| Rk (g_tn q q (bf h12)) <| Rk (g_tn q q (bf h12)) <| r_pickF (ABool false) q (bf h12) q q ?_
    exact Ra (ABool false) q q <| R_nilD (by kernel_rfl) <| Jt hΨ (Res_one q) q q
  refine r_lda (c_api_Types t0) ag_25 q q q (g_t q q h12) <| Rm (I_ t3) q (g_t q q h12) <| r_faT ((cL 7 c_api_EdgeType) t0.Edges) fo_25_1 q q (g_t q q h12) <| r_ld (AL 7 c_api_EdgeType t0.Edges) sc_23 q q (g_t q q h12) <| Rm (I_ t1) q (g_t q q h12) <| r_ix (cc := c_api_EdgeType) el_23 q q h9.1 h9.2 (g_t q q h12) <| r_faT (c_i64 ((nth t0.Edges t1).To)) fo_102_2 q q (g_t q q h12) <| r_ld (I_ ((nth t0.Edges t1).To)) sc_3 q q (g_t q q h12) <| R_bind fun b13 h14 => r_call _ fn_143 (k_ref04_Below1 _ _ _ _ h14) q (g_t q q h12) ?_
  exact r_pickT (ABool b13) q h12 q q <| Ra (ABool b13) q q <| R_nilD (by kernel_rfl) <| Jt hΨ (Res_one q) q q
theorem k_ref18_Typed (t0 : api_Types) (t1 : api_Graph) (r : Int) (hr : ref18_Typed t0 t1 = some r) : FnP PP 57 [AAgg (c_api_Types t0), AAgg (c_api_Graph t1)] (I_ r) := by
  refine FnP.of mixed_ Tryz.func57 q (n := 75) q (fun (r : Int) => I_ r) nk_args NK.nk q hr fun X hΨ => ?_
  refine Jq q <| r_boxV (AAgg (c_api_Types t0)) q q <| r_boxV (AAgg (c_api_Graph t1)) q q <| Ra (I_ 0) q q <| R0 <| Js <| Jq q <| r_lda (c_api_Types t0) ag_25 q q q q ?_
  refine R_bind fun b1 h2 => r_call _ fn_33 (k_ref04_Valid _ _ h2) q q <| Rm (ATup [AStr b1.1, I_ b1.2]) q q <| r_ext (AStr b1.1) q q q <| r_ext (I_ b1.2) q q q <| Ra (AStr b1.1) q q <| Ra (I_ b1.2) q q <| R0 <| Jq q ?_
  refine Rm (I_ b1.2) q q <| r_neq q q q <| R0 <| J_cond_p q (fun h3 => ?_) (fun h3 => ?_)
  · exact Jq q <| Rm (I_ b1.2) q q <| Ra (I_ b1.2) q q <| R0 <| Jt hΨ (Res_one q) q q
  refine J_skip <| Js <| Jq q <| r_lda (c_api_Graph t1) ag_29 q q q q <| R_bind fun b4 h5 => r_call _ fn_88 (k_ref05_Valid _ _ h5) q q <| Ra (I_ b4) q q <| R0 <| Js ?_
  refine Jr q <| Rm (I_ b4) q q <| r_neq q q q <| R0 <| J_cond_p q (fun h6 => ?_) (fun h6 => ?_)
  · exact Jq q <| Rm (I_ b4) q q <| Ra (I_ b4) q q <| R0 <| Jt hΨ (Res_one q) q q
  refine J_skip <| Js <| Jq q <| Ra (I_ 0) q q <| R0 <| J_block <| J_cv [] [] [] 0 [(2, APtr (c_api_Types t0)), (3, APtr (c_api_Graph t1)), (4, I_ 0), (6, I_ b1.2), (7, I_ b4), (8, I_ 0), (15, I_ b1.2), (16, I_ b1.2), (20, I_ b4), (21, I_ b4)] [] (.same q (.same q (.same q (.same q (.same q (.same q (.same q (.same q (.same q (.same q .nil)))))))))) .nil q q <| J_it (fun x7 => ⟨fr [(2, APtr (c_api_Types t0)), (3, APtr (c_api_Graph t1)), (4, I_ 0), (6, I_ b1.2), (7, I_ b4), (8, I_ x7), (15, I_ b1.2), (16, I_ b1.2), (20, I_ b4), (21, I_ b4)], hp [], 0⟩) (fun E8 hE8 x7 => ?_) (by rfl)
  refine Js <| Jq q <| Rm (I_ x7) q q <| r_faT ((cL 1 c_i64) t1.Nodes) fo_29_0 q q q <| r_ld (AL 1 c_i64 t1.Nodes) sc_26 q q q <| r_len (cc := c_i64) il_26 q q <| r_lss q q q <| R0 <| J_cond_p q (fun h12 => ?_) (fun h12 => ?_)
  · refine J_skip <| Js <| J_block <| Js <| J_draw <| r_faT ((cL 1 c_i64) t1.Nodes) fo_29_0 q q q <| r_ld (AL 1 c_i64 t1.Nodes) sc_26 q q q <| Rm (I_ x7) q q <| R_if (fun h13 => ?_) (fun _ => R_none)
    refine r_ix (cc := c_i64) el_26 q q h13.1 h13.2 q <| r_ld (I_ (nth t1.Nodes x7)) sc_3 q q q <| r_faT ((cL 4 c_api_NodeType) t0.Nodes) fo_25_0 q q q <| r_ld (AL 4 c_api_NodeType t0.Nodes) sc_22 q q q <| r_len (cc := c_api_NodeType) il_22 q q <| r_geq q q q <| R_nilD (by kernel_rfl) <| J_cond_p q (fun h14 => ?_) (fun h14 => ?_)
    · exact Jq q <| Ra (I_ 6) q q <| R0 <| J_outS <| Jt hΨ (Res_one q) q q
    refine J_skip <| J_inBlock <| J_range 27 (m := (t1.Nodes.length : Int)) q fun q15 => J_range 8 (m := x7) q fun q16 => Jr q <| Rm (I_ x7) q q <| r_add (x7 + 1) q q (wrap_i64 (by omega) (by omega)) q <| Ra (I_ (x7 + 1)) q q <| R0 <| J_go ?_
    exact J_cv [] [] [] 0 [(2, APtr (c_api_Types t0)), (3, APtr (c_api_Graph t1)), (4, I_ 0), (6, I_ b1.2), (7, I_ b4), (8, I_ (x7 + 1)), (15, I_ b1.2), (16, I_ b1.2), (20, I_ b4), (21, I_ b4)] [] (.same q (.same q (.same q (.same q (.same q (.same q (.same q (.same q (.same q (.same q .nil)))))))))) .nil q q <| hE8 (x7 + 1)
  refine J_exit q <| J_out <| Js <| Jq q <| Ra (I_ 0) q q <| R0 <| J_block <| J_cv [] [] [] 0 [(2, APtr (c_api_Types t0)), (3, APtr (c_api_Graph t1)), (4, I_ 0), (6, I_ b1.2), (7, I_ b4), (8, I_ x7), (9, I_ 0), (15, I_ b1.2), (16, I_ b1.2), (20, I_ b4), (21, I_ b4), (24, I_ x7), (27, I_ (t1.Nodes.length : Int))] [] (.same q (.same q (.same q (.same q (.same q (.same q (.same q (.same q (.same q (.same q (.same q (.same q (.same q .nil))))))))))))) .nil q q <| J_it (fun x17 => ⟨fr [(2, APtr (c_api_Types t0)), (3, APtr (c_api_Graph t1)), (4, I_ 0), (6, I_ b1.2), (7, I_ b4), (8, I_ x7), (9, I_ x17), (15, I_ b1.2), (16, I_ b1.2), (20, I_ b4), (21, I_ b4), (24, I_ x7), (27, I_ (t1.Nodes.length : Int))], hp [], 0⟩) (fun E18 hE18 x17 => ?_) (by rfl)
  refine Js <| Jq q <| Rm (I_ x17) q q <| r_faT ((cL 3 c_api_Edge) t1.Edges) fo_29_1 q q q <| r_ld (AL 3 c_api_Edge t1.Edges) sc_27 q q q <| r_len (cc := c_api_Edge) il_27 q q <| r_lss q q q <| R0 <| J_cond_p q (fun h27 => ?_) (fun h27 => ?_)
  rotate_left
  · exact J_exit q <| J_outS <| Jq q <| Ra (I_ 0) q q <| R0 <| Jt hΨ (Res_one q) q q
  refine J_skip <| Js <| J_block <| Jq q <| r_faT ((cL 3 c_api_Edge) t1.Edges) fo_29_1 q q q <| r_ld (AL 3 c_api_Edge t1.Edges) sc_27 q q q <| Rm (I_ x17) q q <| R_if (fun h28 => ?_) (fun _ => R_none)
  refine r_ix (cc := c_api_Edge) el_27 q q h28.1 h28.2 q <| r_lda (c_api_Edge (nth t1.Edges x17)) ag_77 q q q q <| r_alloc 0 _ z_77 q q <| r_stO (AObj 0) (AAgg (c_api_Edge (nth t1.Edges x17))) (c_api_Edge (nth t1.Edges x17)) sz_77 q .obj q q q q q q <| R0 <| Js <| Jq q <| r_faO (AObj 0) 0 fo_77_0 q .obj q q q <| r_ldO (ABoxAt 0 0) (I_ ((nth t1.Edges x17).Type_)) sc_3 q .at q q q ?_
  refine r_faT ((cL 7 c_api_EdgeType) t0.Edges) fo_25_1 q q q <| r_ld (AL 7 c_api_EdgeType t0.Edges) sc_23 q q q <| r_len (cc := c_api_EdgeType) il_23 q q <| r_geq q q q <| R0 <| J_cond_p q (fun h29 => ?_) (fun h29 => ?_)
  · exact Jq q <| Ra (I_ 6) q q <| R0 <| J_outS <| Jt hΨ (Res_one q) q q
  refine J_skip <| Js <| J_draw <| r_lda (c_api_Types t0) ag_25 q q q q <| r_faO (AObj 0) 0 fo_77_0 q .obj q q q <| r_ldO (ABoxAt 0 0) (I_ ((nth t1.Edges x17).Type_)) sc_3 q .at q q q <| r_faT ((cL 1 c_i64) t1.Nodes) fo_29_0 q q q <| r_ld (AL 1 c_i64 t1.Nodes) sc_26 q q q <| r_faO (AObj 0) 1 fo_77_1 q .obj q q q <| r_ldO (ABoxAt 0 1) (I_ ((nth t1.Edges x17).From)) sc_3 q .at q q q ?_
  refine R_if (fun h30 => ?_) (fun _ => R_none)
  refine r_ix (cc := c_i64) el_26 q q h30.1 h30.2 q <| r_ld (I_ (nth t1.Nodes ((nth t1.Edges x17).From))) sc_3 q q q <| r_faT ((cL 1 c_i64) t1.Nodes) fo_29_0 q q q <| r_ld (AL 1 c_i64 t1.Nodes) sc_26 q q q <| r_faO (AObj 0) 2 fo_77_2 q .obj q q q <| r_ldO (ABoxAt 0 2) (I_ ((nth t1.Edges x17).To)) sc_3 q .at q q q <| R_if (fun h31 => ?_) (fun _ => R_none)
  refine r_ix (cc := c_i64) el_26 q q h31.1 h31.2 q <| r_ld (I_ (nth t1.Nodes ((nth t1.Edges x17).To))) sc_3 q q q <| R_bind fun b32 h33 => r_call _ fn_89 (k_ref04_Fits _ _ _ _ _ h33) q q <| r_not q q <| R_nilD (by kernel_rfl) <| J_cond q (fun h34 => ?_) (fun h34 => ?_)
  · exact Jq q <| Ra (I_ 13) q q <| R0 <| J_outS <| Jt hΨ (Res_one q) q q
  refine J_skip <| J_inBlock <| J_range 43 (m := (t1.Edges.length : Int)) q fun q35 => J_range 9 (m := x17) q fun q36 => Jr q <| Rm (I_ x17) q q <| r_add (x17 + 1) q q (wrap_i64 (by omega) (by omega)) q <| Ra (I_ (x17 + 1)) q q <| R0 <| J_go ?_
  exact J_cv [] [] [] 0 [(2, APtr (c_api_Types t0)), (3, APtr (c_api_Graph t1)), (4, I_ 0), (6, I_ b1.2), (7, I_ b4), (8, I_ x7), (9, I_ (x17 + 1)), (15, I_ b1.2), (16, I_ b1.2), (20, I_ b4), (21, I_ b4), (24, I_ x7), (27, I_ (t1.Nodes.length : Int))] [] (.same q (.same q (.same q (.same q (.same q (.same q (.same q (.same q (.same q (.same q (.same q (.same q (.same q .nil))))))))))))) .nil q q <| hE18 (x17 + 1)
theorem k_ref39_Of (t0 : api_Types) (t1 : (List Int)) (t2 : api_Graph) (r : Int × Int) (hr : ref39_Of t0 t1 t2 = some r) : FnP PP 27 [AAgg (c_api_Types t0), AL 1 c_i64 t1, AAgg (c_api_Graph t2)] (ATup [I_ r.1, I_ r.2]) := by
  refine FnP.of mixed_ Tryz.func27 q (n := 73) q (fun (r : Int × Int) => ATup [I_ r.1, I_ r.2]) nk_args NK.nk q hr fun X hΨ => ?_
  refine Jq q <| r_boxV (AAgg (c_api_Types t0)) q q <| r_boxV (AAgg (c_api_Graph t2)) q q <| Ra (I_ 0) q q <| Ra (I_ 0) q q <| R0 <| Js <| Jq q ?_
  refine r_lda (c_api_Types t0) ag_25 q q q q <| r_lda (c_api_Graph t2) ag_29 q q q q <| R_bind fun b1 h2 => r_call _ fn_57 (k_ref18_Typed _ _ _ h2) q q <| Ra (I_ b1) q q <| R0 <| Jq q <| Rm (I_ b1) q q <| r_neq q q q ?_
  refine R0 <| J_cond_p q (fun h3 => ?_) (fun h3 => ?_)
  · exact Jq q <| Rm (I_ b1) q q <| Ra (I_ 0) q q <| Ra (I_ b1) q q <| R0 <| Jt hΨ (Res_many (As := [I_ 0, I_ b1]) q q (.cons (.tmp (A := I_ 0) q) (.cons (.tmp (A := I_ b1) q) .nil))) q q
  refine J_skip <| Jq q <| r_faT ((cL 4 c_api_NodeType) t0.Nodes) fo_25_0 q q q <| r_ld (AL 4 c_api_NodeType t0.Nodes) sc_22 q q q <| r_len (cc := c_api_NodeType) il_22 q q <| Ra (I_ (t0.Nodes.length : Int)) q q <| R0 <| Js <| Js ?_
  refine Jr q <| Rm (AL 1 c_i64 t1) q q <| r_len (cc := c_i64) il_26 q q <| Rm (I_ (t0.Nodes.length : Int)) q q <| r_faT ((cL 7 c_api_EdgeType) t0.Edges) fo_25_1 q q q <| r_ld (AL 7 c_api_EdgeType t0.Edges) sc_23 q q q <| r_len (cc := c_api_EdgeType) il_23 q q <| R_bind fun b4 h5 => r_add b4 q q (Option.some.inj h5) q <| r_neq q q q ?_
  refine R0 <| J_cond_p q (fun h6 => ?_) (fun h6 => ?_)
  · exact Jq q <| Ra (I_ 0) q q <| Ra (I_ 20) q q <| R0 <| Jt hΨ (Res_many (As := [I_ 0, I_ 20]) q q (.cons (.tmp (A := I_ 0) q) (.cons (.tmp (A := I_ 20) q) .nil))) q q
  refine J_skip <| Js <| Jq q <| Rm (AL 1 c_i64 t1) q q <| Rm (AL 1 c_i64 t1) q q <| r_len (cc := c_i64) il_26 q q <| R_bind fun b7 h8 => r_call _ fn_53 (k_ref39_natural _ _ _ h8) q q <| r_not q q ?_
  refine R0 <| J_cond q (fun h9 => ?_) (fun h9 => ?_)
  · exact Jq q <| Ra (I_ 0) q q <| Ra (I_ 6) q q <| R0 <| Jt hΨ (Res_many (As := [I_ 0, I_ 6]) q q (.cons (.tmp (A := I_ 0) q) (.cons (.tmp (A := I_ 6) q) .nil))) q q
  refine J_skip <| Jq q <| Ra (I_ 0) q q <| R0 <| Js <| Jq q <| Ra (I_ 0) q q <| R0 ?_
  refine J_block <| J_to [(1, AL 1 c_i64 t1), (5, APtr (c_api_Graph t2)), (6, I_ 0), (7, I_ 0), (8, I_ b1), (9, I_ (t0.Nodes.length : Int)), (10, I_ 0), (11, I_ 0), (15, I_ b1), (16, I_ b1), (23, I_ (t1.length : Int)), (28, I_ b4), (32, I_ (t1.length : Int))] (.cons q (.cons q (.cons q (.cons q (.cons q (.cons q (.cons q (.cons q (.cons q (.cons q (.cons q (.cons q (.cons q .nil))))))))))))) <| J_it (fun x10 => ⟨fr [(1, AL 1 c_i64 t1), (5, APtr (c_api_Graph t2)), (6, I_ 0), (7, I_ 0), (8, I_ b1), (9, I_ (t0.Nodes.length : Int)), (10, I_ x10.1), (11, I_ x10.2), (15, I_ b1), (16, I_ b1), (23, I_ (t1.length : Int)), (28, I_ b4), (32, I_ (t1.length : Int))], fun _ => none, 0⟩) (fun E11 hE11 x10 => ?_) (by rfl)
  refine Js <| Jq q <| Rm (I_ x10.2) q q <| r_faT ((cL 1 c_i64) t2.Nodes) fo_29_0 q q q <| r_ld (AL 1 c_i64 t2.Nodes) sc_26 q q q <| r_len (cc := c_i64) il_26 q q <| r_lss q q q <| R0 <| J_cond_p q (fun h17 => ?_) (fun h17 => ?_)
  · refine J_skip <| Js <| J_block <| Jr q <| Rm (I_ x10.1) q q <| Rm (AL 1 c_i64 t1) q q <| r_faT ((cL 1 c_i64) t2.Nodes) fo_29_0 q q q <| r_ld (AL 1 c_i64 t2.Nodes) sc_26 q q q <| Rm (I_ x10.2) q q <| R_if (fun h18 => ?_) (fun _ => R_none)
    refine r_ix (cc := c_i64) el_26 q q h18.1 h18.2 q <| r_ld (I_ (nth t2.Nodes x10.2)) sc_3 q q q <| R_if (fun h19 => ?_) (fun _ => R_none)
    refine r_ix (cc := c_i64) el_26 q q h19.1 h19.2 q <| r_ld (I_ (nth t1 (nth t2.Nodes x10.2))) sc_3 q q q <| R_bind fun b20 h21 => r_add b20 q q (Option.some.inj h21) q <| Ra (I_ b20) q q <| R0 <| J_inBlock <| J_range 38 (m := (t2.Nodes.length : Int)) q fun q22 => J_range 11 (m := x10.2) q fun q23 => Jr q ?_
    exact Rm (I_ x10.2) q q <| r_add (x10.2 + 1) q q (wrap_i64 (by omega) (by omega)) q <| Ra (I_ (x10.2 + 1)) q q <| R0 <| J_go <| J_to [(1, AL 1 c_i64 t1), (5, APtr (c_api_Graph t2)), (6, I_ 0), (7, I_ 0), (8, I_ b1), (9, I_ (t0.Nodes.length : Int)), (10, I_ b20), (11, I_ (x10.2 + 1)), (15, I_ b1), (16, I_ b1), (23, I_ (t1.length : Int)), (28, I_ b4), (32, I_ (t1.length : Int))] (.cons q (.cons q (.cons q (.cons q (.cons q (.cons q (.cons q (.cons q (.cons q (.cons q (.cons q (.cons q (.cons q .nil))))))))))))) <| hE11 (b20, x10.2 + 1)
  refine J_exit q <| J_out <| Js <| Jq q <| Ra (I_ 0) q q <| R0 <| J_block <| J_to [(1, AL 1 c_i64 t1), (5, APtr (c_api_Graph t2)), (6, I_ 0), (7, I_ 0), (8, I_ b1), (9, I_ (t0.Nodes.length : Int)), (10, I_ x10.1), (11, I_ x10.2), (12, I_ 0), (15, I_ b1), (16, I_ b1), (23, I_ (t1.length : Int)), (28, I_ b4), (32, I_ (t1.length : Int)), (35, I_ x10.2), (38, I_ (t2.Nodes.length : Int))] (.cons q (.cons q (.cons q (.cons q (.cons q (.cons q (.cons q (.cons q (.cons q (.cons q (.cons q (.cons q (.cons q (.cons q (.cons q (.cons q .nil)))))))))))))))) <| J_it (fun x24 => ⟨fr [(1, AL 1 c_i64 t1), (5, APtr (c_api_Graph t2)), (6, I_ 0), (7, I_ 0), (8, I_ b1), (9, I_ (t0.Nodes.length : Int)), (10, I_ x24.1), (11, I_ x10.2), (12, I_ x24.2), (15, I_ b1), (16, I_ b1), (23, I_ (t1.length : Int)), (28, I_ b4), (32, I_ (t1.length : Int)), (35, I_ x10.2), (38, I_ (t2.Nodes.length : Int))], fun _ => none, 0⟩) (fun E25 hE25 x24 => ?_) (by rfl)
  refine Js <| Jq q <| Rm (I_ x24.2) q q <| r_faT ((cL 3 c_api_Edge) t2.Edges) fo_29_1 q q q <| r_ld (AL 3 c_api_Edge t2.Edges) sc_27 q q q <| r_len (cc := c_api_Edge) il_27 q q <| r_lss q q q <| R0 <| J_cond_p q (fun h33 => ?_) (fun h33 => ?_)
  rotate_left
  · exact J_exit q <| J_outS <| Jq q <| Rm (I_ x24.1) q q <| Ra (I_ x24.1) q q <| Ra (I_ 0) q q <| R0 <| Jt hΨ (Res_many (As := [I_ x24.1, I_ 0]) q q (.cons (.tmp (A := I_ x24.1) q) (.cons (.tmp (A := I_ 0) q) .nil))) q q
  refine J_skip <| Js <| J_block <| Jr q <| Rm (I_ x24.1) q q <| Rm (AL 1 c_i64 t1) q q <| Rm (I_ (t0.Nodes.length : Int)) q q <| r_faT ((cL 3 c_api_Edge) t2.Edges) fo_29_1 q q q <| r_ld (AL 3 c_api_Edge t2.Edges) sc_27 q q q <| Rm (I_ x24.2) q q ?_
  refine R_if (fun h34 => ?_) (fun _ => R_none)
  refine r_ix (cc := c_api_Edge) el_27 q q h34.1 h34.2 q <| r_faT (c_i64 ((nth t2.Edges x24.2).Type_)) fo_77_0 q q q <| r_ld (I_ ((nth t2.Edges x24.2).Type_)) sc_3 q q q <| R_bind fun b35 h36 => r_add b35 q q (Option.some.inj h36) q <| R_if (fun h37 => ?_) (fun _ => R_none)
  refine r_ix (cc := c_i64) el_26 q q h37.1 h37.2 q <| r_ld (I_ (nth t1 b35)) sc_3 q q q <| R_bind fun b38 h39 => r_add b38 q q (Option.some.inj h39) q <| Ra (I_ b38) q q <| R0 <| J_inBlock <| J_range 55 (m := (t2.Edges.length : Int)) q fun q40 => J_range 12 (m := x24.2) q fun q41 => Jr q ?_
  exact Rm (I_ x24.2) q q <| r_add (x24.2 + 1) q q (wrap_i64 (by omega) (by omega)) q <| Ra (I_ (x24.2 + 1)) q q <| R0 <| J_go <| J_to [(1, AL 1 c_i64 t1), (5, APtr (c_api_Graph t2)), (6, I_ 0), (7, I_ 0), (8, I_ b1), (9, I_ (t0.Nodes.length : Int)), (10, I_ b38), (11, I_ x10.2), (12, I_ (x24.2 + 1)), (15, I_ b1), (16, I_ b1), (23, I_ (t1.length : Int)), (28, I_ b4), (32, I_ (t1.length : Int)), (35, I_ x10.2), (38, I_ (t2.Nodes.length : Int))] (.cons q (.cons q (.cons q (.cons q (.cons q (.cons q (.cons q (.cons q (.cons q (.cons q (.cons q (.cons q (.cons q (.cons q (.cons q (.cons q .nil)))))))))))))))) <| hE25 (b38, x24.2 + 1)
theorem k_law39_WeightOf (t0 : api_Types) (t1 : (List Int)) (t2 : api_Graph) (r : Bool) (hr : law39_WeightOf t0 t1 t2 = some r) : FnP PP 8 [AAgg (c_api_Types t0), AL 1 c_i64 t1, AAgg (c_api_Graph t2)] (ABool r) := by
  refine FnP.of mixed_ Tryz.func8 q (n := 52) q (fun (r : Bool) => ABool r) nk_args NK.nk q hr fun X hΨ => ?_
  refine Jq q <| r_boxV (AAgg (c_api_Types t0)) q q <| r_boxV (AAgg (c_api_Graph t2)) q q <| Ra (ABool false) q q <| R0 <| Js <| Jq q <| R_bind fun b1 h2 => ?_
  refine r_call _ fn_9 (k_law39_awake  _ h2) q q <| r_not q q <| Rm (ABool (!b1)) q q <| R_if (fun h3 => ?_) (fun h3 => ?_)
  · refine Rk (g_fn q q h3) <| Rk (g_fn q q h3) <| Rk (g_fn q q h3) <| r_pickT (ABool true) q h3 q q <| Rm (ABool true) q q <| Rk (g_fn q q q) <| Rk (g_fn q q q) <| Rk (g_fn q q q) <| r_pickT (ABool true) q q q q <| Rm (ABool true) q q ?_
    refine Rk (g_fn q q q) <| Rk (g_fn q q q) <| Rk (g_fn q q q) <| r_pickT (ABool true) q q q q <| R0 <| J_cond_T q q <| Jq q <| R_bind fun b11 h12 => r_call _ fn_9 (k_law39_awake  _ h12) q q ?_
    exact Ra (ABool b11) q q <| R0 <| Jt hΨ (Res_one q) q q
  refine r_lda (c_api_Types t0) ag_25 q q q (g_f q q (bf h3)) <| R_bind fun b4 h5 => r_call _ fn_24 (k_ref04_Few _ _ h5) q (g_f q q (bf h3)) <| r_not q (g_f q q (bf h3)) <| r_pickF (ABool (!b4)) q (bf h3) q q <| Rm (ABool (!b4)) q q <| R_if (fun h6 => ?_) (fun h6 => ?_)
  · refine Rk (g_fn q q h6) <| Rk (g_fn q q h6) <| Rk (g_fn q q h6) <| r_pickT (ABool true) q h6 q q <| Rm (ABool true) q q <| Rk (g_fn q q q) <| Rk (g_fn q q q) <| Rk (g_fn q q q) <| r_pickT (ABool true) q q q q <| R0 ?_
    exact J_cond_T q q <| Jq q <| R_bind fun b13 h14 => r_call _ fn_9 (k_law39_awake  _ h14) q q <| Ra (ABool b13) q q <| R0 <| Jt hΨ (Res_one q) q q
  refine Rm (AL 1 c_i64 t1) q (g_f q q (bf h6)) <| r_len (cc := c_i64) il_26 q (g_f q q (bf h6)) <| r_gtr q q (g_f q q (bf h6)) <| r_pickF (ABool (decide (60 < (t1.length : Int)))) q (bf h6) q q <| Rm (ABool (decide (60 < (t1.length : Int)))) q q <| R_if (fun h7 => ?_) (fun h7 => ?_)
  · refine Rk (g_fn q q (dt h7)) <| Rk (g_fn q q (dt h7)) <| Rk (g_fn q q (dt h7)) <| r_pickT (ABool true) q (dt h7) q q <| R0 <| J_cond_T q q <| Jq q <| R_bind fun b15 h16 => r_call _ fn_9 (k_law39_awake  _ h16) q q ?_
    exact Ra (ABool b15) q q <| R0 <| Jt hΨ (Res_one q) q q
  refine r_lda (c_api_Graph t2) ag_29 q q q (g_f q q (df h7)) <| R_bind fun b8 h9 => r_call _ fn_25 (k_ref05_Few _ _ h9) q (g_f q q (df h7)) <| r_not q (g_f q q (df h7)) <| r_pickF (ABool (!b8)) q (df h7) q q <| R0 <| J_cond q (fun h10 => ?_) (fun h10 => ?_)
  · exact Jq q <| R_bind fun b17 h18 => r_call _ fn_9 (k_law39_awake  _ h18) q q <| Ra (ABool b17) q q <| R0 <| Jt hΨ (Res_one q) q q
  refine J_skip <| Js <| J_draw <| r_lda (c_api_Types t0) ag_25 q q q q <| Rm (AL 1 c_i64 t1) q q <| R_bind fun b19 h20 => r_call _ fn_20 (FnK.toP (r' := AL 1 c_i64 b19) (k_slices_Clone_int _ _ h20) (.frow q q (NKC.flat _ _))) q q <| r_lda (c_api_Graph t2) ag_29 q q q q <| R_bind fun b21 h22 => r_call _ fn_26 (k_weight_Of _ _ _ _ h22) q q ?_
  refine Rm (ATup [I_ b21.1, I_ b21.2]) q q <| r_ext (I_ b21.1) q q q <| r_ext (I_ b21.2) q q q <| Ra (I_ b21.1) q q <| Ra (I_ b21.2) q q <| R_nilD (by kernel_rfl) <| Jq q <| r_lda (c_api_Types t0) ag_25 q q q q <| Rm (AL 1 c_i64 t1) q q ?_
  refine r_lda (c_api_Graph t2) ag_29 q q q q <| R_bind fun b23 h24 => r_call _ fn_27 (k_ref39_Of _ _ _ _ h24) q q <| Rm (ATup [I_ b23.1, I_ b23.2]) q q <| r_ext (I_ b23.1) q q q <| r_ext (I_ b23.2) q q q <| Ra (I_ b23.1) q q <| Ra (I_ b23.2) q q <| R0 <| Js ?_
  refine Jr q <| Rm (I_ b21.1) q q <| Rm (I_ b23.1) q q <| r_eql q q q <| Rm (ABool (decide (b21.1 = b23.1))) q q <| R_if (fun h25 => ?_) (fun h25 => ?_)
  · exact Rm (I_ b21.2) q (g_t q q (dt h25)) <| Rm (I_ b23.2) q (g_t q q (dt h25)) <| r_eql q q (g_t q q (dt h25)) <| r_pickT (ABool (decide (b21.2 = b23.2))) q (dt h25) q q <| Ra (ABool (decide (b21.2 = b23.2))) q q <| R0 <| Jt hΨ (Res_one q) q q
  exact Rk (g_tn q q (df h25)) <| Rk (g_tn q q (df h25)) <| Rk (g_tn q q (df h25)) <| r_pickF (ABool false) q (df h25) q q <| Ra (ABool false) q q <| R0 <| Jt hΨ (Res_one q) q q
end Go.Proofs.YtngimdmkomkeoaaGreat.K
