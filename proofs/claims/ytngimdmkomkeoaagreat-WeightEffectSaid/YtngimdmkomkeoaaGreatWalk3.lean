/- Each function computes what its plain form says. -/
import Derived.Test.YtngimdmkomkeoaaGreatWalk2
set_option linter.unusedVariables false
set_option linter.unusedSimpArgs false
namespace Go.Proofs.YtngimdmkomkeoaaGreat.K
open Go.RowKit Go.Proofs
set_option maxHeartbeats 4000000
set_option maxRecDepth 100000
theorem k_ref21_occurs (t0 : api_Pattern) (t1 : Int) (r : Bool) (hr : ref21_occurs t0 t1 = some r) : FnP PP 117 [AAgg (c_api_Pattern t0), I_ t1] (ABool r) := by
  refine Fo (fun (r : Bool) => ABool r) Tryz.func117 q (n := 22) q q hr fun X hΨ => ?_
  refine Jq q <| r_boxV (AAgg (c_api_Pattern t0)) q q <| Ra (ABool false) q q <| R0 <| Js <| Jq q <| Ra (I_ 0) q q <| R0 ?_
  refine J_block <| Jl (fun x1 => [(1, I_ t1), (2, APtr (c_api_Pattern t0)), (5, I_ x1)]) (.c3 q q q .nil) (fun E2 hE2 x1 => ?_)
  refine Js <| Jq q <| Rm (I_ x1) q q <| r_faT ((cL 4 c_api_Slot) t0.Slots) fo_33_1 q q q <| r_ld (AL 4 c_api_Slot t0.Slots) sc_30 q q q <| r_len (cc := c_api_Slot) il_30 q q <| r_lss q q q <| R0 <| J_cond_p q (fun h6 => ?_) (fun h6 => ?_)
  rotate_left
  · exact J_exit q <| J_outS <| Jq q <| Ra (ABool false) q q <| Rt hΨ q q q
  refine J_skip <| Js <| J_block <| Jq q <| r_faT ((cL 4 c_api_Slot) t0.Slots) fo_33_1 q q q <| r_ld (AL 4 c_api_Slot t0.Slots) sc_30 q q q <| Rm (I_ x1) q q <| R_if (fun h7 => ?_) (fun _ => R_none)
  refine r_ix (cc := c_api_Slot) el_30 q q h7.1 h7.2 q <| r_faT (c_api_Term ((nth t0.Slots x1).Term)) fo_156_2 q q q <| r_faT (c_i64 (((nth t0.Slots x1).Term).Var)) fo_154_0 q q q <| r_ld (I_ (((nth t0.Slots x1).Term).Var)) sc_3 q q q <| Rm (I_ t1) q q <| r_eql q q q <| R0 <| J_cond_p q (fun h8 => ?_) (fun h8 => ?_)
  · exact Jq q <| Ra (ABool true) q q <| R0 <| J_outS <| Jt hΨ (Res_one q) q q
  exact J_skip <| J_inBlock <| J_range 9 (m := (t0.Slots.length : Int)) q fun q9 => J_range 5 (m := x1) q fun q10 => Jr q <| Rm (I_ x1) q q <| r_add (x1 + 1) q q (wrap_i64 (by omega) (by omega)) q <| Ra (I_ (x1 + 1)) q q <| R0 <| J_go <| Jk (hE2 (x1 + 1)) (.c3 q q q .nil)
theorem k_ref21_Valid (t0 : api_Types) (t1 : api_Pattern) (r : Int) (hr : ref21_Valid t0 t1 = some r) : FnP PP 68 [AAgg (c_api_Types t0), AAgg (c_api_Pattern t1)] (I_ r) := by
  refine Fo (fun (r : Int) => I_ r) Tryz.func68 q (n := 114) q q hr fun X hΨ => ?_
  refine Jq q <| r_boxV (AAgg (c_api_Types t0)) q q <| r_boxV (AAgg (c_api_Pattern t1)) q q <| Ra (I_ 0) q q <| R0 <| Js <| Jq q <| r_lda (c_api_Types t0) ag_25 q q q q ?_
  refine R_bind fun b1 h2 => r_call _ fn_33 (k_ref04_Valid _ _ h2) q q <| Rm (ATup [AStr b1.1, I_ b1.2]) q q <| r_ext (AStr b1.1) q q q <| r_ext (I_ b1.2) q q q <| Ra (AStr b1.1) q q <| Ra (I_ b1.2) q q <| R0 <| Jq q ?_
  refine Rm (I_ b1.2) q q <| r_neq q q q <| R0 <| J_cond_p q (fun h3 => ?_) (fun h3 => ?_)
  · exact Jq q <| Rm (I_ b1.2) q q <| Ra (I_ b1.2) q q <| Rt hΨ q q q
  refine J_skip <| Js <| Jq q <| r_faT (c_api_Graph t1.Graph) fo_33_0 q q q <| r_lda (c_api_Graph t1.Graph) ag_29 q q q q <| R_bind fun b4 h5 => r_call _ fn_88 (k_ref05_Valid _ _ h5) q q <| Ra (I_ b4) q q <| R0 ?_
  refine Jq q <| Rm (I_ b4) q q <| r_neq q q q <| R0 <| J_cond_p q (fun h6 => ?_) (fun h6 => ?_)
  · exact Jq q <| Rm (I_ b4) q q <| Ra (I_ b4) q q <| Rt hΨ q q q
  refine J_skip <| Js <| Jq q <| r_lda (c_api_Types t0) ag_25 q q q q <| r_faT (c_api_Graph t1.Graph) fo_33_0 q q q <| r_lda (c_api_Graph t1.Graph) ag_29 q q q q <| R_bind fun b7 h8 => r_call _ fn_113 (k_ref17_Typed _ _ _ h8) q q <| r_not q q ?_
  refine R0 <| J_cond q (fun h9 => ?_) (fun h9 => ?_)
  · exact Jq q <| Ra (I_ 13) q q <| Rt hΨ q q q
  refine J_skip <| Js <| Jq q <| r_faT (c_i64 t1.Vars) fo_33_2 q q q <| r_ld (I_ t1.Vars) sc_3 q q q <| r_lss q q q <| Rm (ABool (decide (t1.Vars < 0))) q q <| R_if (fun h10 => ?_) (fun h10 => ?_)
  · refine Rk (g_fn q q (dt h10)) <| Rk (g_fn q q (dt h10)) <| Rk (g_fn q q (dt h10)) <| r_pickT (ABool true) q (dt h10) q q <| R0 <| J_cond_T q q <| Jq q <| Ra (I_ 6) q q <| R0 ?_
    exact Jt hΨ (Res_one q) q q
  refine r_faT (c_i64 t1.Vars) fo_33_2 q q (g_f q q (df h10)) <| r_ld (I_ t1.Vars) sc_3 q q (g_f q q (df h10)) <| r_gtr q q (g_f q q (df h10)) <| r_pickF (ABool (decide (12 < t1.Vars))) q (df h10) q q <| R0 <| J_cond_p q (fun h11 => ?_) (fun h11 => ?_)
  · exact Jq q <| Ra (I_ 6) q q <| Rt hΨ q q q
  refine J_skip <| Js <| Jq q <| r_faT ((cL 4 c_api_Slot) t1.Slots) fo_33_1 q q q <| r_ld (AL 4 c_api_Slot t1.Slots) sc_30 q q q <| r_len (cc := c_api_Slot) il_30 q q <| r_gtr q q q <| Rm (ABool (decide (10 < (t1.Slots.length : Int)))) q q <| R_if (fun h12 => ?_) (fun h12 => ?_)
  · refine Rk (g_fn q q (dt h12)) <| Rk (g_fn q q (dt h12)) <| Rk (g_fn q q (dt h12)) <| Rk (g_fn q q (dt h12)) <| r_pickT (ABool true) q (dt h12) q q <| R0 <| J_cond_T q q <| Jq q <| Ra (I_ 3) q q ?_
    exact Rt hΨ q q q
  refine r_faT ((cL 5 c_api_Test) t1.Tests) fo_33_3 q q (g_f q q (df h12)) <| r_ld (AL 5 c_api_Test t1.Tests) sc_31 q q (g_f q q (df h12)) <| r_len (cc := c_api_Test) il_31 q (g_f q q (df h12)) <| r_gtr q q (g_f q q (df h12)) <| r_pickF (ABool (decide (10 < (t1.Tests.length : Int)))) q (df h12) q q <| R0 <| J_cond_p q (fun h13 => ?_) (fun h13 => ?_)
  · exact Jq q <| Ra (I_ 3) q q <| Rt hΨ q q q
  refine J_skip <| Js <| Jq q <| Ra (I_ 0) q q <| R0 <| J_block <| Jn (fun x14 => ⟨fr [(2, APtr (c_api_Types t0)), (3, APtr (c_api_Pattern t1)), (4, I_ 0), (6, I_ b1.2), (7, I_ b4), (8, I_ x14), (18, I_ b1.2), (19, I_ b1.2), (24, I_ b4), (25, I_ b4), (34, I_ t1.Vars), (38, I_ t1.Vars), (43, I_ (t1.Slots.length : Int)), (48, I_ (t1.Tests.length : Int))], hp [], 0⟩) [] [] [] q (.s2 q q (.s6 q q q q q q (.s6 q q q q q q .nil))) .nil q q (fun E15 hE15 x14 => ?_)
  refine Js <| Jq q <| Rm (I_ x14) q q <| r_faT ((cL 4 c_api_Slot) t1.Slots) fo_33_1 q q q <| r_ld (AL 4 c_api_Slot t1.Slots) sc_30 q q q <| r_len (cc := c_api_Slot) il_30 q q <| r_lss q q q <| R0 <| J_cond_p q (fun h26 => ?_) (fun h26 => ?_)
  rotate_left
  · refine J_exit q <| J_out <| Js <| Jq q <| r_faT (c_i64 t1.Vars) fo_33_2 q q q <| r_ld (I_ t1.Vars) sc_3 q q q <| r_faT ((cL 5 c_api_Test) t1.Tests) fo_33_3 q q q <| r_ld (AL 5 c_api_Test t1.Tests) sc_31 q q q <| R_bind fun b38 h39 => ?_
    refine r_call _ fn_116 (k_ref03_Valid _ _ _ h39) q q <| Ra (I_ b38) q q <| R0 <| Jq q <| Rm (I_ b38) q q <| r_neq q q q <| R0 <| J_cond_p q (fun h40 => ?_) (fun h40 => ?_)
    · exact Jq q <| Rm (I_ b38) q q <| Ra (I_ b38) q q <| Rt hΨ q q q
    refine J_skip <| Js <| Jq q <| Ra (I_ 0) q q <| R0 <| J_block <| Jn (fun x41 => ⟨fr [(3, APtr (c_api_Pattern t1)), (4, I_ 0), (6, I_ b1.2), (7, I_ b4), (8, I_ x14), (12, I_ b38), (13, I_ x41), (18, I_ b1.2), (19, I_ b1.2), (24, I_ b4), (25, I_ b4), (34, I_ t1.Vars), (38, I_ t1.Vars), (43, I_ (t1.Slots.length : Int)), (48, I_ (t1.Tests.length : Int)), (51, I_ x14), (54, I_ (t1.Slots.length : Int)), (97, I_ t1.Vars), (100, I_ b38), (101, I_ b38)], hp [], 0⟩) [] [] [] q (.s2 q q (.s6 q q q q q q (.s6 q q q q q q (.s6 q q q q q q .nil)))) .nil q q (fun E42 hE42 x41 => ?_)
    refine Js <| Jq q <| Rm (I_ x41) q q <| r_faT (c_i64 t1.Vars) fo_33_2 q q q <| r_ld (I_ t1.Vars) sc_3 q q q <| r_lss q q q <| R0 <| J_cond_p q (fun h47 => ?_) (fun h47 => ?_)
    rotate_left
    · exact J_exit q <| J_outS <| Jq q <| Ra (I_ 0) q q <| Rt hΨ q q q
    refine J_skip <| Js <| J_block <| Jq q <| r_lda (c_api_Pattern t1) ag_33 q q q q <| Rm (I_ x41) q q <| R_bind fun b48 h49 => r_call _ fn_117 (k_ref21_occurs _ _ _ h49) q q <| r_not q q ?_
    refine R0 <| J_cond q (fun h50 => ?_) (fun h50 => ?_)
    · exact Jq q <| Ra (I_ 9) q q <| R0 <| J_outS <| Jt hΨ (Res_one q) q q
    exact J_skip <| J_inBlock <| J_range 34 (m := t1.Vars) q fun q51 => J_range 13 (m := x41) q fun q52 => Jr q <| Rm (I_ x41) q q <| r_add (x41 + 1) q q (wrap_i64 (by omega) (by omega)) q <| Ra (I_ (x41 + 1)) q q <| R0 <| J_go <| Jc [] [] [] (hE42 (x41 + 1)) (.s2 q q (.s6 q q q q q q (.s6 q q q q q q (.s6 q q q q q q .nil)))) .nil q q
  refine J_skip <| Js <| J_block <| Jq q <| r_faT ((cL 4 c_api_Slot) t1.Slots) fo_33_1 q q q <| r_ld (AL 4 c_api_Slot t1.Slots) sc_30 q q q <| Rm (I_ x14) q q <| R_if (fun h27 => ?_) (fun _ => R_none)
  refine r_ix (cc := c_api_Slot) el_30 q q h27.1 h27.2 q <| r_lda (c_api_Slot (nth t1.Slots x14)) ag_156 q q q q <| r_alloc 0 _ z_156 q q <| r_stO (AObj 0) (AAgg (c_api_Slot (nth t1.Slots x14))) (c_api_Slot (nth t1.Slots x14)) sz_156 q .obj q q q q q q <| R0 <| Jq q <| r_lda (c_api_Types t0) ag_25 q q q q <| r_lda (c_api_Pattern t1) ag_33 q q q q <| r_faO (AObj 0) 0 fo_156_0 q .obj q q q ?_
  refine r_ldO (ABoxAt 0 0) (I_ ((nth t1.Slots x14).Node)) sc_3 q .at q q q <| r_faO (AObj 0) 1 fo_156_1 q .obj q q q <| r_ldO (ABoxAt 0 1) (I_ ((nth t1.Slots x14).Attr)) sc_3 q .at q q q <| R_bind fun b28 h29 => r_call _ fn_114 (k_ref21_attr _ _ _ _ _ h29) q q <| Rm (ATup [AAgg (c_api_Attr b28.1), ABool b28.2]) q q <| r_ext (AAgg (c_api_Attr b28.1)) q q q <| r_ext (ABool b28.2) q q q <| r_alloc 1 _ z_100 q q <| r_stO (AObj 1) (AAgg (c_api_Attr b28.1)) (c_api_Attr b28.1) sz_100 q .obj q q q q q q ?_
  refine Ra (ABool b28.2) q q <| R0 <| Jq q <| Rm (ABool b28.2) q q <| r_not q q <| Rm (ABool (!b28.2)) q q <| R_if (fun h30 => ?_) (fun h30 => ?_)
  · refine Rk (g_fn q q h30) <| Rk (g_fn q q h30) <| Rk (g_fn q q h30) <| Rk (g_fn q q h30) <| r_pickT (ABool true) q h30 q q <| Rm (ABool true) q q <| Rk (g_fn q q q) <| Rk (g_fn q q q) <| Rk (g_fn q q q) <| Rk (g_fn q q q) ?_
    refine Rk (g_fn q q q) <| Rk (g_fn q q q) <| r_pickT (ABool true) q q q q <| Rm (ABool true) q q <| Rk (g_fn q q q) <| Rk (g_fn q q q) <| Rk (g_fn q q q) <| Rk (g_fn q q q) <| Rk (g_fn q q q) <| r_pickT (ABool true) q q q q ?_
    exact R0 <| J_cond_T q q <| Jq q <| Ra (I_ 6) q q <| R0 <| J_outS <| Jt hΨ (Res_one q) q q
  refine r_faO (AObj 0) 2 fo_156_2 q .obj q q (g_f q q (bf h30)) <| r_faO (ABoxAt 0 2) 2 fo_154_0 q .at q q (g_f q q (bf h30)) <| r_ldO (ABoxAt 0 2) (I_ (((nth t1.Slots x14).Term).Var)) sc_3 q .at q q (g_f q q (bf h30)) <| r_lss q q (g_f q q (bf h30)) <| r_pickF (ABool (decide (((nth t1.Slots x14).Term).Var < (-1)))) q (bf h30) q q <| Rm (ABool (decide (((nth t1.Slots x14).Term).Var < (-1)))) q q <| R_if (fun h31 => ?_) (fun h31 => ?_)
  · refine Rk (g_fn q q (dt h31)) <| Rk (g_fn q q (dt h31)) <| Rk (g_fn q q (dt h31)) <| Rk (g_fn q q (dt h31)) <| Rk (g_fn q q (dt h31)) <| Rk (g_fn q q (dt h31)) <| r_pickT (ABool true) q (dt h31) q q <| Rm (ABool true) q q <| Rk (g_fn q q q) <| Rk (g_fn q q q) ?_
    refine Rk (g_fn q q q) <| Rk (g_fn q q q) <| Rk (g_fn q q q) <| r_pickT (ABool true) q q q q <| R0 <| J_cond_T q q <| Jq q <| Ra (I_ 6) q q <| R0 ?_
    exact J_outS <| Jt hΨ (Res_one q) q q
  refine r_faO (AObj 0) 2 fo_156_2 q .obj q q (g_f q q (df h31)) <| r_faO (ABoxAt 0 2) 2 fo_154_0 q .at q q (g_f q q (df h31)) <| r_ldO (ABoxAt 0 2) (I_ (((nth t1.Slots x14).Term).Var)) sc_3 q .at q q (g_f q q (df h31)) <| r_faT (c_i64 t1.Vars) fo_33_2 q q (g_f q q (df h31)) <| r_ld (I_ t1.Vars) sc_3 q q (g_f q q (df h31)) <| r_geq q q (g_f q q (df h31)) <| r_pickF (ABool (decide (t1.Vars ≤ ((nth t1.Slots x14).Term).Var))) q (df h31) q q <| Rm (ABool (decide (t1.Vars ≤ ((nth t1.Slots x14).Term).Var))) q q <| R_if (fun h32 => ?_) (fun h32 => ?_)
  · refine Rk (g_fn q q (dt h32)) <| Rk (g_fn q q (dt h32)) <| Rk (g_fn q q (dt h32)) <| Rk (g_fn q q (dt h32)) <| Rk (g_fn q q (dt h32)) <| r_pickT (ABool true) q (dt h32) q q <| R0 <| J_cond_T q q <| Jq q ?_
    exact Ra (I_ 6) q q <| R0 <| J_outS <| Jt hΨ (Res_one q) q q
  refine r_faO (AObj 0) 2 fo_156_2 q .obj q q (g_f q q (df h32)) <| r_faO (ABoxAt 0 2) 3 fo_154_1 q .at q q (g_f q q (df h32)) <| r_ldO (ABoxAt 0 3) (I_ (((nth t1.Slots x14).Term).Add)) sc_3 q .at q q (g_f q q (df h32)) <| R_bind fun b33 h34 => r_call _ fn_115 (k_ref21_bounded _ _ h34) q (g_f q q (df h32)) <| r_not q (g_f q q (df h32)) <| r_pickF (ABool (!b33)) q (df h32) q q <| R0 <| J_cond q (fun h35 => ?_) (fun h35 => ?_)
  · exact Jq q <| Ra (I_ 6) q q <| R0 <| J_outS <| Jt hΨ (Res_one q) q q
  exact J_skip <| J_inBlock <| J_range 43 (m := (t1.Slots.length : Int)) q fun q36 => J_range 8 (m := x14) q fun q37 => Jr q <| Rm (I_ x14) q q <| r_add (x14 + 1) q q (wrap_i64 (by omega) (by omega)) q <| Ra (I_ (x14 + 1)) q q <| R0 <| J_go <| Jc [] [] [] (hE15 (x14 + 1)) (.s2 q q (.s6 q q q q q q (.s6 q q q q q q .nil))) .nil q q
theorem k_ref24_slot (t0 : api_Types) (t1 : api_Pattern) (t2 : Int) (r : Int) (hr : ref24_slot t0 t1 t2 = some r) : FnP PP 118 [AAgg (c_api_Types t0), AAgg (c_api_Pattern t1), I_ t2] (I_ r) := by
  refine Fo (fun (r : Int) => I_ r) Tryz.func118 q (n := 101) q q hr fun X hΨ => ?_
  refine Jq q <| r_boxV (AAgg (c_api_Types t0)) q q <| r_boxV (AAgg (c_api_Pattern t1)) q q <| Ra (I_ 0) q q <| R0 <| Jq q <| r_faT ((cL 4 c_api_Slot) t1.Slots) fo_33_1 q q q <| r_ld (AL 4 c_api_Slot t1.Slots) sc_30 q q q ?_
  refine Rm (I_ t2) q q <| R_if (fun h1 => ?_) (fun _ => R_none)
  refine r_ix (cc := c_api_Slot) el_30 q q h1.1 h1.2 q <| r_lda (c_api_Slot (nth t1.Slots t2)) ag_156 q q q q <| r_alloc 0 _ z_156 q q <| r_stO (AObj 0) (AAgg (c_api_Slot (nth t1.Slots t2))) (c_api_Slot (nth t1.Slots t2)) sz_156 q .obj q q q q q q <| R0 <| Js <| Jq q <| r_faO (AObj 0) 0 fo_156_0 q .obj q q q <| r_ldO (ABoxAt 0 0) (I_ ((nth t1.Slots t2).Node)) sc_3 q .at q q q ?_
  refine r_lss q q q <| Rm (ABool (decide ((nth t1.Slots t2).Node < 0))) q q <| R_if (fun h2 => ?_) (fun h2 => ?_)
  · refine Rk (g_fn q q (dt h2)) <| Rk (g_fn q q (dt h2)) <| Rk (g_fn q q (dt h2)) <| Rk (g_fn q q (dt h2)) <| Rk (g_fn q q (dt h2)) <| Rk (g_fn q q (dt h2)) <| Rk (g_fn q q (dt h2)) <| r_pickT (ABool true) q (dt h2) q q <| R0 <| J_cond_T q q ?_
    exact Jq q <| Ra (I_ 6) q q <| Rt hΨ q q q
  refine r_faO (AObj 0) 0 fo_156_0 q .obj q q (g_f q q (df h2)) <| r_ldO (ABoxAt 0 0) (I_ ((nth t1.Slots t2).Node)) sc_3 q .at q q (g_f q q (df h2)) <| r_faT (c_api_Graph t1.Graph) fo_33_0 q q (g_f q q (df h2)) <| r_faT ((cL 1 c_i64) t1.Graph.Nodes) fo_29_0 q q (g_f q q (df h2)) <| r_ld (AL 1 c_i64 t1.Graph.Nodes) sc_26 q q (g_f q q (df h2)) <| r_len (cc := c_i64) il_26 q (g_f q q (df h2)) <| r_geq q q (g_f q q (df h2)) <| r_pickF (ABool (decide ((t1.Graph.Nodes.length : Int) ≤ (nth t1.Slots t2).Node))) q (df h2) q q <| R0 <| J_cond_p q (fun h3 => ?_) (fun h3 => ?_)
  · exact Jq q <| Ra (I_ 6) q q <| Rt hΨ q q q
  refine J_skip <| Js <| J_draw <| r_lda (c_api_Types t0) ag_25 q q q q <| r_faT (c_api_Graph t1.Graph) fo_33_0 q q q <| r_faT ((cL 1 c_i64) t1.Graph.Nodes) fo_29_0 q q q <| r_ld (AL 1 c_i64 t1.Graph.Nodes) sc_26 q q q <| r_faO (AObj 0) 0 fo_156_0 q .obj q q q <| r_ldO (ABoxAt 0 0) (I_ ((nth t1.Slots t2).Node)) sc_3 q .at q q q <| R_if (fun h4 => ?_) (fun _ => R_none)
  refine r_ix (cc := c_i64) el_26 q q h4.1 h4.2 q <| r_ld (I_ (nth t1.Graph.Nodes ((nth t1.Slots t2).Node))) sc_3 q q q <| R_bind fun b5 h6 => r_call _ fn_163 (k_ref04_Attrs _ _ _ h6) q q <| Rm (ATup [AL 4 c_api_Attr b5.1, I_ b5.2]) q q <| r_ext (AL 4 c_api_Attr b5.1) q q q <| r_ext (I_ b5.2) q q q <| Ra (AL 4 c_api_Attr b5.1) q q <| Ra (I_ b5.2) q q <| R_nilD (by kernel_rfl) ?_
  refine Js <| Jq q <| r_faO (AObj 0) 1 fo_156_1 q .obj q q q <| r_ldO (ABoxAt 0 1) (I_ ((nth t1.Slots t2).Attr)) sc_3 q .at q q q <| r_lss q q q <| Rm (ABool (decide ((nth t1.Slots t2).Attr < 0))) q q <| R_if (fun h7 => ?_) (fun h7 => ?_)
  · refine Rk (g_fn q q (dt h7)) <| Rk (g_fn q q (dt h7)) <| Rk (g_fn q q (dt h7)) <| Rk (g_fn q q (dt h7)) <| Rk (g_fn q q (dt h7)) <| r_pickT (ABool true) q (dt h7) q q <| Rm (ABool true) q q <| Rk (g_fn q q q) <| Rk (g_fn q q q) <| Rk (g_fn q q q) ?_
    refine Rk (g_fn q q q) <| r_pickT (ABool true) q q q q <| Rm (ABool true) q q <| Rk (g_fn q q q) <| Rk (g_fn q q q) <| Rk (g_fn q q q) <| Rk (g_fn q q q) <| Rk (g_fn q q q) <| Rk (g_fn q q q) <| r_pickT (ABool true) q q q q ?_
    refine Rm (ABool true) q q <| Rk (g_fn q q q) <| Rk (g_fn q q q) <| Rk (g_fn q q q) <| Rk (g_fn q q q) <| r_pickT (ABool true) q q q q <| Rm (ABool true) q q <| Rk (g_fn q q q) <| Rk (g_fn q q q) <| Rk (g_fn q q q) ?_
    exact Rk (g_fn q q q) <| r_pickT (ABool true) q q q q <| R0 <| J_cond_T q q <| Jq q <| Ra (I_ 6) q q <| Rt hΨ q q q
  refine r_faO (AObj 0) 1 fo_156_1 q .obj q q (g_f q q (df h7)) <| r_ldO (ABoxAt 0 1) (I_ ((nth t1.Slots t2).Attr)) sc_3 q .at q q (g_f q q (df h7)) <| Rm (AL 4 c_api_Attr b5.1) q (g_f q q (df h7)) <| r_len (cc := c_api_Attr) il_95 q (g_f q q (df h7)) <| r_geq q q (g_f q q (df h7)) <| r_pickF (ABool (decide ((b5.1.length : Int) ≤ (nth t1.Slots t2).Attr))) q (df h7) q q <| Rm (ABool (decide ((b5.1.length : Int) ≤ (nth t1.Slots t2).Attr))) q q <| R_if (fun h8 => ?_) (fun h8 => ?_)
  · refine Rk (g_fn q q (dt h8)) <| Rk (g_fn q q (dt h8)) <| Rk (g_fn q q (dt h8)) <| Rk (g_fn q q (dt h8)) <| r_pickT (ABool true) q (dt h8) q q <| Rm (ABool true) q q <| Rk (g_fn q q q) <| Rk (g_fn q q q) <| Rk (g_fn q q q) <| Rk (g_fn q q q) ?_
    refine Rk (g_fn q q q) <| Rk (g_fn q q q) <| r_pickT (ABool true) q q q q <| Rm (ABool true) q q <| Rk (g_fn q q q) <| Rk (g_fn q q q) <| Rk (g_fn q q q) <| Rk (g_fn q q q) <| r_pickT (ABool true) q q q q <| Rm (ABool true) q q ?_
    refine Rk (g_fn q q q) <| Rk (g_fn q q q) <| Rk (g_fn q q q) <| Rk (g_fn q q q) <| r_pickT (ABool true) q q q q <| R0 <| J_cond_T q q <| Jq q <| Ra (I_ 6) q q ?_
    exact Rt hΨ q q q
  refine r_faO (AObj 0) 2 fo_156_2 q .obj q q (g_f q q (df h8)) <| r_faO (ABoxAt 0 2) 2 fo_154_0 q .at q q (g_f q q (df h8)) <| r_ldO (ABoxAt 0 2) (I_ (((nth t1.Slots t2).Term).Var)) sc_3 q .at q q (g_f q q (df h8)) <| r_lss q q (g_f q q (df h8)) <| r_pickF (ABool (decide (((nth t1.Slots t2).Term).Var < (-1)))) q (df h8) q q <| Rm (ABool (decide (((nth t1.Slots t2).Term).Var < (-1)))) q q <| R_if (fun h9 => ?_) (fun h9 => ?_)
  · refine Rk (g_fn q q (dt h9)) <| Rk (g_fn q q (dt h9)) <| Rk (g_fn q q (dt h9)) <| Rk (g_fn q q (dt h9)) <| Rk (g_fn q q (dt h9)) <| Rk (g_fn q q (dt h9)) <| r_pickT (ABool true) q (dt h9) q q <| Rm (ABool true) q q <| Rk (g_fn q q q) <| Rk (g_fn q q q) ?_
    refine Rk (g_fn q q q) <| Rk (g_fn q q q) <| r_pickT (ABool true) q q q q <| Rm (ABool true) q q <| Rk (g_fn q q q) <| Rk (g_fn q q q) <| Rk (g_fn q q q) <| Rk (g_fn q q q) <| r_pickT (ABool true) q q q q <| R0 ?_
    exact J_cond_T q q <| Jq q <| Ra (I_ 6) q q <| Rt hΨ q q q
  refine r_faO (AObj 0) 2 fo_156_2 q .obj q q (g_f q q (df h9)) <| r_faO (ABoxAt 0 2) 2 fo_154_0 q .at q q (g_f q q (df h9)) <| r_ldO (ABoxAt 0 2) (I_ (((nth t1.Slots t2).Term).Var)) sc_3 q .at q q (g_f q q (df h9)) <| r_faT (c_i64 t1.Vars) fo_33_2 q q (g_f q q (df h9)) <| r_ld (I_ t1.Vars) sc_3 q q (g_f q q (df h9)) <| r_geq q q (g_f q q (df h9)) <| r_pickF (ABool (decide (t1.Vars ≤ ((nth t1.Slots t2).Term).Var))) q (df h9) q q <| Rm (ABool (decide (t1.Vars ≤ ((nth t1.Slots t2).Term).Var))) q q <| R_if (fun h10 => ?_) (fun h10 => ?_)
  · refine Rk (g_fn q q (dt h10)) <| Rk (g_fn q q (dt h10)) <| Rk (g_fn q q (dt h10)) <| Rk (g_fn q q (dt h10)) <| r_pickT (ABool true) q (dt h10) q q <| Rm (ABool true) q q <| Rk (g_fn q q q) <| Rk (g_fn q q q) <| Rk (g_fn q q q) <| Rk (g_fn q q q) ?_
    exact r_pickT (ABool true) q q q q <| R0 <| J_cond_T q q <| Jq q <| Ra (I_ 6) q q <| Rt hΨ q q q
  refine r_faO (AObj 0) 2 fo_156_2 q .obj q q (g_f q q (df h10)) <| r_faO (ABoxAt 0 2) 3 fo_154_1 q .at q q (g_f q q (df h10)) <| r_ldO (ABoxAt 0 3) (I_ (((nth t1.Slots t2).Term).Add)) sc_3 q .at q q (g_f q q (df h10)) <| r_lss q q (g_f q q (df h10)) <| r_pickF (ABool (decide (((nth t1.Slots t2).Term).Add < (-1000000)))) q (df h10) q q <| Rm (ABool (decide (((nth t1.Slots t2).Term).Add < (-1000000)))) q q <| R_if (fun h11 => ?_) (fun h11 => ?_)
  · refine Rk (g_fn q q (dt h11)) <| Rk (g_fn q q (dt h11)) <| Rk (g_fn q q (dt h11)) <| Rk (g_fn q q (dt h11)) <| r_pickT (ABool true) q (dt h11) q q <| R0 <| J_cond_T q q <| Jq q <| Ra (I_ 6) q q ?_
    exact Rt hΨ q q q
  refine r_faO (AObj 0) 2 fo_156_2 q .obj q q (g_f q q (df h11)) <| r_faO (ABoxAt 0 2) 3 fo_154_1 q .at q q (g_f q q (df h11)) <| r_ldO (ABoxAt 0 3) (I_ (((nth t1.Slots t2).Term).Add)) sc_3 q .at q q (g_f q q (df h11)) <| r_gtr q q (g_f q q (df h11)) <| r_pickF (ABool (decide (1000000 < ((nth t1.Slots t2).Term).Add))) q (df h11) q q <| R0 <| J_cond_p q (fun h12 => ?_) (fun h12 => ?_)
  · exact Jq q <| Ra (I_ 6) q q <| Rt hΨ q q q
  refine J_skip <| Js <| Jq q <| Ra (I_ 0) q q <| R0 <| J_block <| Jn (fun x13 => ⟨fr [(2, I_ t2), (4, APtr (c_api_Pattern t1)), (6, I_ 0), (7, AObj 0), (10, I_ x13), (13, I_ t2), (17, I_ ((nth t1.Slots t2).Node)), (21, I_ ((nth t1.Slots t2).Node)), (25, I_ (t1.Graph.Nodes.length : Int)), (34, I_ ((nth t1.Slots t2).Node)), (41, I_ ((nth t1.Slots t2).Attr)), (45, I_ ((nth t1.Slots t2).Attr)), (47, I_ (b5.1.length : Int)), (53, I_ (((nth t1.Slots t2).Term).Var)), (59, I_ (((nth t1.Slots t2).Term).Var)), (61, I_ t1.Vars), (67, I_ (((nth t1.Slots t2).Term).Add)), (73, I_ (((nth t1.Slots t2).Term).Add))], hp [(0, .box 156 (c_api_Slot (nth t1.Slots t2)))], 1⟩) [] [] [] q (.s3 q q q (.cons (A := AObj 0) q (.obj q q q) (.s2 q q (.s6 q q q q q q (.s6 q q q q q q .nil))))) (.cons q q q q (.box (CvL.sames)) q q .nil) q q (fun E14 hE14 x13 => ?_)
  refine Js <| Jq q <| Rm (I_ x13) q q <| Rm (I_ t2) q q <| r_lss q q q <| R0 <| J_cond_p q (fun h21 => ?_) (fun h21 => ?_)
  rotate_left
  · exact J_exit q <| J_outS <| Jq q <| Ra (I_ 0) q q <| Rt hΨ q q q
  refine J_skip <| Js <| J_block <| Js ?_
  apply J_joinA (fun v25 => ⟨fr [(2, I_ t2), (4, APtr (c_api_Pattern t1)), (6, I_ 0), (7, AObj 0), (10, I_ x13), (13, I_ t2), (17, I_ ((nth t1.Slots t2).Node)), (21, I_ ((nth t1.Slots t2).Node)), (25, I_ (t1.Graph.Nodes.length : Int)), (34, I_ ((nth t1.Slots t2).Node)), (41, I_ ((nth t1.Slots t2).Attr)), (45, I_ ((nth t1.Slots t2).Attr)), (47, I_ (b5.1.length : Int)), (53, I_ (((nth t1.Slots t2).Term).Var)), (59, I_ (((nth t1.Slots t2).Term).Var)), (61, I_ t1.Vars), (67, I_ (((nth t1.Slots t2).Term).Add)), (73, I_ (((nth t1.Slots t2).Term).Add)), (76, I_ x13), (77, I_ t2), (83, I_ x13), (86, I_ ((nth t1.Slots x13).Node)), (88, I_ ((nth t1.Slots t2).Node))], hp [(0, .box 156 (c_api_Slot (nth t1.Slots t2)))], 1⟩) (fun v25 => ref24_slot_j25 x13 v25)
  · intro K26
    refine J_draw <| r_faT ((cL 4 c_api_Slot) t1.Slots) fo_33_1 q q q <| r_ld (AL 4 c_api_Slot t1.Slots) sc_30 q q q <| Rm (I_ x13) q q <| R_if (fun h22 => ?_) (fun _ => R_none)
    refine r_ix (cc := c_api_Slot) el_30 q q h22.1 h22.2 q <| r_faT (c_i64 ((nth t1.Slots x13).Node)) fo_156_0 q q q <| r_ld (I_ ((nth t1.Slots x13).Node)) sc_3 q q q <| r_faO (AObj 0) 0 fo_156_0 q .obj q q q <| r_ldO (ABoxAt 0 0) (I_ ((nth t1.Slots t2).Node)) sc_3 q .at q q q <| r_eql q q q <| Rm (ABool (decide ((nth t1.Slots x13).Node = (nth t1.Slots t2).Node))) q q <| R_if (fun h23 => ?_) (fun h23 => ?_)
    rotate_left
    · refine Rk (g_tn q q (df h23)) <| Rk (g_tn q q (df h23)) <| Rk (g_tn q q (df h23)) <| Rk (g_tn q q (df h23)) <| Rk (g_tn q q (df h23)) <| Rk (g_tn q q (df h23)) <| Rk (g_tn q q (df h23)) <| Rk (g_tn q q (df h23)) <| Rk (g_tn q q (df h23)) <| r_pickF (ABool false) q (df h23) q q ?_
      exact R_nilD (by kernel_rfl) <| J_cond_F q q <| Jc [] [] [] (K26 ()) (.s3 q q q (.cons (A := AObj 0) q (.obj q q q) (.same q (.s6 q q q q q q (.s6 q q q q q q (.s6 q q q q q q .nil)))))) (.cons q q q q (.box (CvL.sames)) q q .nil) q q
    refine r_faT ((cL 4 c_api_Slot) t1.Slots) fo_33_1 q q (g_t q q (dt h23)) <| r_ld (AL 4 c_api_Slot t1.Slots) sc_30 q q (g_t q q (dt h23)) <| Rm (I_ x13) q (g_t q q (dt h23)) <| r_ix (cc := c_api_Slot) el_30 q q h22.1 h22.2 (g_t q q (dt h23)) <| r_faT (c_i64 ((nth t1.Slots x13).Attr)) fo_156_1 q q (g_t q q (dt h23)) <| r_ld (I_ ((nth t1.Slots x13).Attr)) sc_3 q q (g_t q q (dt h23)) <| r_faO (AObj 0) 1 fo_156_1 q .obj q q (g_t q q (dt h23)) <| r_ldO (ABoxAt 0 1) (I_ ((nth t1.Slots t2).Attr)) sc_3 q .at q q (g_t q q (dt h23)) <| r_eql q q (g_t q q (dt h23)) <| r_pickT (ABool (decide ((nth t1.Slots x13).Attr = (nth t1.Slots t2).Attr))) q (dt h23) q q ?_
    refine R_nilD (by kernel_rfl) <| J_cond_p q (fun h24 => ?_) (fun h24 => ?_)
    rotate_left
    · exact Jc [] [] [] (K26 ()) (.s3 q q q (.cons (A := AObj 0) q (.obj q q q) (.same q (.s6 q q q q q q (.s6 q q q q q q (.s6 q q q q q q .nil)))))) (.cons q q q q (.box (CvL.sames)) q q .nil) q q
    exact Jq q <| Ra (I_ 5) q q <| R0 <| J_outS <| Jt hΨ (Res_one q) q q
  intro v25
  exact J_skip <| J_inBlock <| J_range 2 (m := t2) q fun q27 => J_range 10 (m := x13) q fun q28 => Jr q <| Rm (I_ x13) q q <| r_add (x13 + 1) q q (wrap_i64 (by omega) (by omega)) q <| Ra (I_ (x13 + 1)) q q <| R0 <| J_go <| Jc [] [] [] (hE14 (x13 + 1)) (.s3 q q q (.cons (A := AObj 0) q (.obj q q q) (.s2 q q (.s6 q q q q q q (.s6 q q q q q q .nil))))) (.cons q q q q (.box (CvL.sames)) q q .nil) q q
theorem k_ref24_right (t0 : api_Types) (t1 : api_Rule) (r : Int) (hr : ref24_right t0 t1 = some r) : FnP PP 69 [AAgg (c_api_Types t0), AAgg (c_api_Rule t1)] (I_ r) := by
  refine Fo (fun (r : Int) => I_ r) Tryz.func69 q (n := 56) q q hr fun X hΨ => ?_
  refine Jq q <| r_boxV (AAgg (c_api_Types t0)) q q <| r_boxV (AAgg (c_api_Rule t1)) q q <| Ra (I_ 0) q q <| R0 <| Js <| Jq q <| r_faT (c_api_Pattern t1.Right) fo_41_2 q q q ?_
  refine r_faT (c_api_Graph t1.Right.Graph) fo_33_0 q q q <| r_lda (c_api_Graph t1.Right.Graph) ag_29 q q q q <| R_bind fun b1 h2 => r_call _ fn_88 (k_ref05_Valid _ _ h2) q q <| Ra (I_ b1) q q <| R0 <| Jq q <| Rm (I_ b1) q q <| r_neq q q q ?_
  refine R0 <| J_cond_p q (fun h3 => ?_) (fun h3 => ?_)
  · exact Jq q <| Rm (I_ b1) q q <| Ra (I_ b1) q q <| Rt hΨ q q q
  refine J_skip <| Js <| Jq q <| r_lda (c_api_Types t0) ag_25 q q q q <| r_faT (c_api_Pattern t1.Right) fo_41_2 q q q <| r_faT (c_api_Graph t1.Right.Graph) fo_33_0 q q q <| r_lda (c_api_Graph t1.Right.Graph) ag_29 q q q q <| R_bind fun b4 h5 => r_call _ fn_113 (k_ref17_Typed _ _ _ h5) q q ?_
  refine r_not q q <| R0 <| J_cond q (fun h6 => ?_) (fun h6 => ?_)
  · exact Jq q <| Ra (I_ 13) q q <| Rt hΨ q q q
  refine J_skip <| Js <| Jq q <| r_faT (c_api_Pattern t1.Right) fo_41_2 q q q <| r_faT (c_i64 t1.Right.Vars) fo_33_2 q q q <| r_ld (I_ t1.Right.Vars) sc_3 q q q <| r_faT (c_api_Pattern t1.Left) fo_41_1 q q q <| r_faT (c_i64 t1.Left.Vars) fo_33_2 q q q <| r_ld (I_ t1.Left.Vars) sc_3 q q q ?_
  refine r_neq q q q <| Rm (ABool (decide (¬ (t1.Right.Vars = t1.Left.Vars)))) q q <| R_if (fun h7 => ?_) (fun h7 => ?_)
  · refine Rk (g_fn q q (dt h7)) <| Rk (g_fn q q (dt h7)) <| Rk (g_fn q q (dt h7)) <| Rk (g_fn q q (dt h7)) <| Rk (g_fn q q (dt h7)) <| r_pickT (ABool true) q (dt h7) q q <| R0 <| J_cond_T q q <| Jq q ?_
    exact Ra (I_ 1) q q <| Rt hΨ q q q
  refine r_faT (c_api_Pattern t1.Right) fo_41_2 q q (g_f q q (df h7)) <| r_faT ((cL 5 c_api_Test) t1.Right.Tests) fo_33_3 q q (g_f q q (df h7)) <| r_ld (AL 5 c_api_Test t1.Right.Tests) sc_31 q q (g_f q q (df h7)) <| r_len (cc := c_api_Test) il_31 q (g_f q q (df h7)) <| r_gtr q q (g_f q q (df h7)) <| r_pickF (ABool (decide (0 < (t1.Right.Tests.length : Int)))) q (df h7) q q <| R0 <| J_cond_p q (fun h8 => ?_) (fun h8 => ?_)
  · exact Jq q <| Ra (I_ 1) q q <| Rt hΨ q q q
  refine J_skip <| Js <| Jq q <| r_faT (c_api_Pattern t1.Right) fo_41_2 q q q <| r_faT ((cL 4 c_api_Slot) t1.Right.Slots) fo_33_1 q q q <| r_ld (AL 4 c_api_Slot t1.Right.Slots) sc_30 q q q <| r_len (cc := c_api_Slot) il_30 q q <| r_gtr q q q <| R0 ?_
  refine J_cond_p q (fun h9 => ?_) (fun h9 => ?_)
  · exact Jq q <| Ra (I_ 3) q q <| Rt hΨ q q q
  refine J_skip <| Js <| Jq q <| Ra (I_ 0) q q <| R0 <| J_block <| Jl (fun x10 => [(2, APtr (c_api_Types t0)), (3, APtr (c_api_Rule t1)), (4, I_ 0), (5, I_ b1), (6, I_ x10), (11, I_ b1), (12, I_ b1), (23, I_ t1.Right.Vars), (26, I_ t1.Left.Vars), (32, I_ (t1.Right.Tests.length : Int)), (38, I_ (t1.Right.Slots.length : Int))]) (.c2 q q (.c3 q q q (.c6 q q q q q q .nil))) (fun E11 hE11 x10 => ?_)
  refine Js <| Jq q <| Rm (I_ x10) q q <| r_faT (c_api_Pattern t1.Right) fo_41_2 q q q <| r_faT ((cL 4 c_api_Slot) t1.Right.Slots) fo_33_1 q q q <| r_ld (AL 4 c_api_Slot t1.Right.Slots) sc_30 q q q <| r_len (cc := c_api_Slot) il_30 q q <| r_lss q q q <| R0 ?_
  refine J_cond_p q (fun h16 => ?_) (fun h16 => ?_)
  rotate_left
  · exact J_exit q <| J_outS <| Jq q <| Ra (I_ 0) q q <| Rt hΨ q q q
  refine J_skip <| Js <| J_block <| Jq q <| r_lda (c_api_Types t0) ag_25 q q q q <| r_faT (c_api_Pattern t1.Right) fo_41_2 q q q <| r_lda (c_api_Pattern t1.Right) ag_33 q q q q <| Rm (I_ x10) q q <| R_bind fun b17 h18 => ?_
  refine r_call _ fn_118 (k_ref24_slot _ _ _ _ h18) q q <| Ra (I_ b17) q q <| R0 <| Jq q <| Rm (I_ b17) q q <| r_neq q q q <| R0 <| J_cond_p q (fun h19 => ?_) (fun h19 => ?_)
  · exact Jq q <| Rm (I_ b17) q q <| Ra (I_ b17) q q <| R0 <| J_outS <| Jt hΨ (Res_one q) q q
  exact J_skip <| J_inBlock <| J_range 38 (m := (t1.Right.Slots.length : Int)) q fun q20 => J_range 6 (m := x10) q fun q21 => Jr q <| Rm (I_ x10) q q <| r_add (x10 + 1) q q (wrap_i64 (by omega) (by omega)) q <| Ra (I_ (x10 + 1)) q q <| R0 <| J_go <| Jk (hE11 (x10 + 1)) (.c2 q q (.c3 q q q (.c6 q q q q q q .nil)))
theorem k_ref07_ascending (t0 : (List Int)) (t1 : Int) (r : Int) (hr : ref07_ascending t0 t1 = some r) : FnP PP 207 [AL 1 c_i64 t0, I_ t1] (I_ r) := by
  refine Fo (fun (r : Int) => I_ r) Tryz.func207 q (n := 39) q q hr fun X hΨ => ?_
  refine Jq q <| Ra (I_ 0) q q <| R0 <| Js <| Jq q <| Ra (I_ 0) q q <| R0 <| J_block ?_
  refine Jl (fun x1 => [(0, AL 1 c_i64 t0), (1, I_ t1), (5, I_ x1)]) (.c3 q q q .nil) (fun E2 hE2 x1 => ?_)
  refine Js <| Jq q <| Rm (I_ x1) q q <| Rm (AL 1 c_i64 t0) q q <| r_len (cc := c_i64) il_26 q q <| r_lss q q q <| R0 <| J_cond_p q (fun h12 => ?_) (fun h12 => ?_)
  rotate_left
  · exact J_exit q <| J_outS <| Jq q <| Ra (I_ 0) q q <| Rt hΨ q q q
  refine J_skip <| Js <| J_block <| Js <| Jq q <| Rm (AL 1 c_i64 t0) q q <| Rm (I_ x1) q q <| R_if (fun h13 => ?_) (fun _ => R_none)
  refine r_ix (cc := c_i64) el_26 q q h13.1 h13.2 q <| r_ld (I_ (nth t0 x1)) sc_3 q q q <| r_lss q q q <| Rm (ABool (decide ((nth t0 x1) < 0))) q q <| R_if (fun h14 => ?_) (fun h14 => ?_)
  · refine Rk (g_fn q q (dt h14)) <| Rk (g_fn q q (dt h14)) <| Rk (g_fn q q (dt h14)) <| Rk (g_fn q q (dt h14)) <| Rk (g_fn q q (dt h14)) <| Rk (g_fn q q (dt h14)) <| r_pickT (ABool true) q (dt h14) q q <| R0 <| J_cond_T q q <| Js ?_
    exact Jr q <| Ra (I_ 6) q q <| R0 <| J_outS <| Jt hΨ (Res_one q) q q
  refine Rm (AL 1 c_i64 t0) q (g_f q q (df h14)) <| Rm (I_ x1) q (g_f q q (df h14)) <| r_ix (cc := c_i64) el_26 q q h13.1 h13.2 (g_f q q (df h14)) <| r_ld (I_ (nth t0 x1)) sc_3 q q (g_f q q (df h14)) <| Rm (I_ t1) q (g_f q q (df h14)) <| r_geq q q (g_f q q (df h14)) <| r_pickF (ABool (decide (t1 ≤ (nth t0 x1)))) q (df h14) q q <| R0 <| J_cond_p q (fun h15 => ?_) (fun h15 => ?_)
  · exact Jq q <| Ra (I_ 6) q q <| R0 <| J_outS <| Jt hΨ (Res_one q) q q
  refine J_skip <| Js ?_
  apply J_joinA (fun v20 => ⟨fr [(0, AL 1 c_i64 t0), (1, I_ t1), (5, I_ x1), (6, I_ x1), (8, I_ (t0.length : Int)), (13, I_ x1), (15, I_ (nth t0 x1)), (19, I_ x1), (21, I_ (nth t0 x1)), (22, I_ t1), (25, I_ x1)], fun _ => none, 0⟩) (fun v20 => ref07_ascending_j20 x1 v20)
  · intro K21
    refine J_range 5 (m := x1) q fun q17 => J_draw <| Rm (I_ x1) q q <| r_gtr q q q <| Rm (ABool (decide (0 < x1))) q q <| R_if (fun h16 => ?_) (fun h16 => ?_)
    rotate_left
    · refine Rk (g_tn q q (df h16)) <| Rk (g_tn q q (df h16)) <| Rk (g_tn q q (df h16)) <| Rk (g_tn q q (df h16)) <| Rk (g_tn q q (df h16)) <| Rk (g_tn q q (df h16)) <| Rk (g_tn q q (df h16)) <| Rk (g_tn q q (df h16)) <| Rk (g_tn q q (df h16)) <| Rk (g_tn q q (df h16)) ?_
      exact r_pickF (ABool false) q (df h16) q q <| R_nilD (by kernel_rfl) <| J_cond_F q q <| Jk (K21 ()) (.c2 q q (.c3 q q q (.c6 q q q q q q .nil)))
    refine Rm (AL 1 c_i64 t0) q (g_t q q (dt h16)) <| Rm (I_ x1) q (g_t q q (dt h16)) <| r_ix (cc := c_i64) el_26 q q h13.1 h13.2 (g_t q q (dt h16)) <| r_ld (I_ (nth t0 x1)) sc_3 q q (g_t q q (dt h16)) <| Rm (AL 1 c_i64 t0) q (g_t q q (dt h16)) <| Rm (I_ x1) q (g_t q q (dt h16)) <| r_sub (x1 - 1) q q (wrap_i64 (by omega) (by omega)) (g_t q q (dt h16)) <| R_if (fun h18 => ?_) (fun _ => R_none)
    refine r_ix (cc := c_i64) el_26 q q h18.1 h18.2 (g_t q q (dt h16)) <| r_ld (I_ (nth t0 (x1 - 1))) sc_3 q q (g_t q q (dt h16)) <| r_leq q q (g_t q q (dt h16)) <| r_pickT (ABool (decide ((nth t0 x1) ≤ (nth t0 (x1 - 1))))) q (dt h16) q q <| R_nilD (by kernel_rfl) <| J_cond_p q (fun h19 => ?_) (fun h19 => ?_)
    rotate_left
    · exact Jk (K21 ()) (.c2 q q (.c3 q q q (.c6 q q q q q q .nil)))
    exact Jq q <| Ra (I_ 12) q q <| R0 <| J_outS <| Jt hΨ (Res_one q) q q
  intro v20
  exact J_skip <| J_inBlock <| J_range 8 (m := (t0.length : Int)) q fun q22 => J_range 5 (m := x1) q fun q23 => Jr q <| Rm (I_ x1) q q <| r_add (x1 + 1) q q (wrap_i64 (by omega) (by omega)) q <| Ra (I_ (x1 + 1)) q q <| R0 <| J_go <| Jk (hE2 (x1 + 1)) (.c3 q q q .nil)
theorem k_ref07_has (t0 : (List Int)) (t1 : Int) (r : Bool) (hr : ref07_has t0 t1 = some r) : FnP PP 208 [AL 1 c_i64 t0, I_ t1] (ABool r) := by
  refine Fo (fun (r : Bool) => ABool r) Tryz.func208 q (n := 18) q q hr fun X hΨ => ?_
  refine Jq q <| Ra (ABool false) q q <| R0 <| Js <| Jq q <| Ra (I_ 0) q q <| R0 <| J_block ?_
  refine Jl (fun x1 => [(0, AL 1 c_i64 t0), (1, I_ t1), (5, I_ x1)]) (.c3 q q q .nil) (fun E2 hE2 x1 => ?_)
  refine Js <| Jq q <| Rm (I_ x1) q q <| Rm (AL 1 c_i64 t0) q q <| r_len (cc := c_i64) il_26 q q <| r_lss q q q <| R0 <| J_cond_p q (fun h6 => ?_) (fun h6 => ?_)
  rotate_left
  · exact J_exit q <| J_outS <| Jq q <| Ra (ABool false) q q <| Rt hΨ q q q
  refine J_skip <| Js <| J_block <| Jq q <| Rm (AL 1 c_i64 t0) q q <| Rm (I_ x1) q q <| R_if (fun h7 => ?_) (fun _ => R_none)
  refine r_ix (cc := c_i64) el_26 q q h7.1 h7.2 q <| r_ld (I_ (nth t0 x1)) sc_3 q q q <| Rm (I_ t1) q q <| r_eql q q q <| R0 <| J_cond_p q (fun h8 => ?_) (fun h8 => ?_)
  · exact Jq q <| Ra (ABool true) q q <| R0 <| J_outS <| Jt hΨ (Res_one q) q q
  exact J_skip <| J_inBlock <| J_range 8 (m := (t0.length : Int)) q fun q9 => J_range 5 (m := x1) q fun q10 => Jr q <| Rm (I_ x1) q q <| r_add (x1 + 1) q q (wrap_i64 (by omega) (by omega)) q <| Ra (I_ (x1 + 1)) q q <| R0 <| J_go <| Jk (hE2 (x1 + 1)) (.c3 q q q .nil)
theorem k_ref07_Right (t0 : api_Graph) (t1 : api_Part) (r : Int) (hr : ref07_Right t0 t1 = some r) : FnP PP 165 [AAgg (c_api_Graph t0), AAgg (c_api_Part t1)] (I_ r) := by
  refine Fo (fun (r : Int) => I_ r) Tryz.func165 q (n := 57) q q hr fun X hΨ => ?_
  refine Jq q <| r_boxV (AAgg (c_api_Graph t0)) q q <| r_boxV (AAgg (c_api_Part t1)) q q <| Ra (I_ 0) q q <| R0 <| Js <| Jq q <| r_faT ((cL 1 c_i64) t1.Nodes) fo_35_0 q q q ?_
  refine r_ld (AL 1 c_i64 t1.Nodes) sc_26 q q q <| r_faT ((cL 1 c_i64) t0.Nodes) fo_29_0 q q q <| r_ld (AL 1 c_i64 t0.Nodes) sc_26 q q q <| r_len (cc := c_i64) il_26 q q <| R_bind fun b1 h2 => r_call _ fn_207 (k_ref07_ascending _ _ _ h2) q q <| Ra (I_ b1) q q <| R0 <| Jq q ?_
  refine Rm (I_ b1) q q <| r_neq q q q <| R0 <| J_cond_p q (fun h3 => ?_) (fun h3 => ?_)
  · exact Jq q <| Rm (I_ b1) q q <| Ra (I_ b1) q q <| Rt hΨ q q q
  refine J_skip <| Js <| Jq q <| r_faT ((cL 1 c_i64) t1.Edges) fo_35_1 q q q <| r_ld (AL 1 c_i64 t1.Edges) sc_26 q q q <| r_faT ((cL 3 c_api_Edge) t0.Edges) fo_29_1 q q q <| r_ld (AL 3 c_api_Edge t0.Edges) sc_27 q q q <| r_len (cc := c_api_Edge) il_27 q q <| R_bind fun b4 h5 => ?_
  refine r_call _ fn_207 (k_ref07_ascending _ _ _ h5) q q <| Ra (I_ b4) q q <| R0 <| Jq q <| Rm (I_ b4) q q <| r_neq q q q <| R0 <| J_cond_p q (fun h6 => ?_) (fun h6 => ?_)
  · exact Jq q <| Rm (I_ b4) q q <| Ra (I_ b4) q q <| Rt hΨ q q q
  refine J_skip <| Js <| Jq q <| Ra (I_ 0) q q <| R0 <| J_block <| Jn (fun x7 => ⟨fr [(2, APtr (c_api_Graph t0)), (3, APtr (c_api_Part t1)), (4, I_ 0), (5, I_ b1), (6, I_ b4), (7, I_ x7), (14, I_ b1), (15, I_ b1), (23, I_ b4), (24, I_ b4)], hp [], 0⟩) [] [] [] q (.same q (.s3 q q q (.s6 q q q q q q .nil))) .nil q q (fun E8 hE8 x7 => ?_)
  refine Js <| Jq q <| Rm (I_ x7) q q <| r_faT ((cL 1 c_i64) t1.Edges) fo_35_1 q q q <| r_ld (AL 1 c_i64 t1.Edges) sc_26 q q q <| r_len (cc := c_i64) il_26 q q <| r_lss q q q <| R0 <| J_cond_p q (fun h18 => ?_) (fun h18 => ?_)
  rotate_left
  · exact J_exit q <| J_outS <| Jq q <| Ra (I_ 0) q q <| Rt hΨ q q q
  refine J_skip <| Js <| J_block <| Js <| J_draw <| r_faT ((cL 3 c_api_Edge) t0.Edges) fo_29_1 q q q <| r_ld (AL 3 c_api_Edge t0.Edges) sc_27 q q q <| r_faT ((cL 1 c_i64) t1.Edges) fo_35_1 q q q <| r_ld (AL 1 c_i64 t1.Edges) sc_26 q q q <| Rm (I_ x7) q q ?_
  refine R_if (fun h19 => ?_) (fun _ => R_none)
  refine r_ix (cc := c_i64) el_26 q q h19.1 h19.2 q <| r_ld (I_ (nth t1.Edges x7)) sc_3 q q q <| R_if (fun h20 => ?_) (fun _ => R_none)
  refine r_ix (cc := c_api_Edge) el_27 q q h20.1 h20.2 q <| r_lda (c_api_Edge (nth t0.Edges (nth t1.Edges x7))) ag_77 q q q q <| r_alloc 0 _ z_77 q q <| r_stO (AObj 0) (AAgg (c_api_Edge (nth t0.Edges (nth t1.Edges x7)))) (c_api_Edge (nth t0.Edges (nth t1.Edges x7))) sz_77 q .obj q q q q q q <| R_nilD (by kernel_rfl) <| Jq q <| r_faT ((cL 1 c_i64) t1.Nodes) fo_35_0 q q q <| r_ld (AL 1 c_i64 t1.Nodes) sc_26 q q q <| r_faO (AObj 0) 1 fo_77_1 q .obj q q q ?_
  refine r_ldO (ABoxAt 0 1) (I_ ((nth t0.Edges (nth t1.Edges x7)).From)) sc_3 q .at q q q <| R_bind fun b21 h22 => r_call _ fn_208 (k_ref07_has _ _ _ h22) q q <| r_not q q <| Rm (ABool (!b21)) q q <| R_if (fun h23 => ?_) (fun h23 => ?_)
  · refine Rk (g_fn q q h23) <| Rk (g_fn q q h23) <| Rk (g_fn q q h23) <| Rk (g_fn q q h23) <| Rk (g_fn q q h23) <| Rk (g_fn q q h23) <| r_pickT (ABool true) q h23 q q <| R0 <| J_cond_T q q <| Js ?_
    exact Jr q <| Ra (I_ 14) q q <| R0 <| J_outS <| Jt hΨ (Res_one q) q q
  refine r_faT ((cL 1 c_i64) t1.Nodes) fo_35_0 q q (g_f q q (bf h23)) <| r_ld (AL 1 c_i64 t1.Nodes) sc_26 q q (g_f q q (bf h23)) <| r_faO (AObj 0) 2 fo_77_2 q .obj q q (g_f q q (bf h23)) <| r_ldO (ABoxAt 0 2) (I_ ((nth t0.Edges (nth t1.Edges x7)).To)) sc_3 q .at q q (g_f q q (bf h23)) <| R_bind fun b24 h25 => r_call _ fn_208 (k_ref07_has _ _ _ h25) q (g_f q q (bf h23)) <| r_not q (g_f q q (bf h23)) <| r_pickF (ABool (!b24)) q (bf h23) q q <| R0 <| J_cond q (fun h26 => ?_) (fun h26 => ?_)
  · exact Jq q <| Ra (I_ 14) q q <| R0 <| J_outS <| Jt hΨ (Res_one q) q q
  exact J_skip <| J_inBlock <| J_range 30 (m := (t1.Edges.length : Int)) q fun q27 => J_range 7 (m := x7) q fun q28 => Jr q <| Rm (I_ x7) q q <| r_add (x7 + 1) q q (wrap_i64 (by omega) (by omega)) q <| Ra (I_ (x7 + 1)) q q <| R0 <| J_go <| Jc [] [] [] (hE8 (x7 + 1)) (.same q (.s3 q q q (.s6 q q q q q q .nil))) .nil q q
theorem k_ref07_Valid (t0 : api_Graph) (t1 : api_Part) (r : Int) (hr : ref07_Valid t0 t1 = some r) : FnP PP 119 [AAgg (c_api_Graph t0), AAgg (c_api_Part t1)] (I_ r) := by
  refine Fo (fun (r : Int) => I_ r) Tryz.func119 q (n := 14) q q hr fun X hΨ => ?_
  refine Jq q <| r_boxV (AAgg (c_api_Graph t0)) q q <| r_boxV (AAgg (c_api_Part t1)) q q <| Ra (I_ 0) q q <| R0 <| Js <| Jq q <| r_lda (c_api_Graph t0) ag_29 q q q q ?_
  refine R_bind fun b1 h2 => r_call _ fn_88 (k_ref05_Valid _ _ h2) q q <| Ra (I_ b1) q q <| R0 <| Jq q <| Rm (I_ b1) q q <| r_neq q q q <| R0 <| J_cond_p q (fun h3 => ?_) (fun h3 => ?_)
  · exact Jq q <| Rm (I_ b1) q q <| Ra (I_ b1) q q <| Rt hΨ q q q
  exact J_skip <| Jq q <| r_lda (c_api_Graph t0) ag_29 q q q q <| r_lda (c_api_Part t1) ag_35 q q q q <| R_bind fun b4 h5 => r_call _ fn_165 (k_ref07_Right _ _ _ h5) q q <| Ra (I_ b4) q q <| Rt hΨ q q q
theorem k_ref07_index (t0 : (List Int)) (t1 : Int) (r : Int) (hr : ref07_index t0 t1 = some r) : FnP PP 166 [AL 1 c_i64 t0, I_ t1] (I_ r) := by
  refine Fo (fun (r : Int) => I_ r) Tryz.func166 q (n := 19) q q hr fun X hΨ => ?_
  refine Jq q <| Ra (I_ 0) q q <| R0 <| Js <| Jq q <| Ra (I_ 0) q q <| R0 <| J_block ?_
  refine Jl (fun x1 => [(0, AL 1 c_i64 t0), (1, I_ t1), (5, I_ x1)]) (.c3 q q q .nil) (fun E2 hE2 x1 => ?_)
  refine Js <| Jq q <| Rm (I_ x1) q q <| Rm (AL 1 c_i64 t0) q q <| r_len (cc := c_i64) il_26 q q <| r_lss q q q <| R0 <| J_cond_p q (fun h6 => ?_) (fun h6 => ?_)
  rotate_left
  · exact J_exit q <| J_outS <| Jq q <| Ra (I_ (-1)) q q <| Rt hΨ q q q
  refine J_skip <| Js <| J_block <| Jq q <| Rm (AL 1 c_i64 t0) q q <| Rm (I_ x1) q q <| R_if (fun h7 => ?_) (fun _ => R_none)
  refine r_ix (cc := c_i64) el_26 q q h7.1 h7.2 q <| r_ld (I_ (nth t0 x1)) sc_3 q q q <| Rm (I_ t1) q q <| r_eql q q q <| R0 <| J_cond_p q (fun h8 => ?_) (fun h8 => ?_)
  · exact Jq q <| Rm (I_ x1) q q <| Ra (I_ x1) q q <| R0 <| J_outS <| Jt hΨ (Res_one q) q q
  exact J_skip <| J_inBlock <| J_range 8 (m := (t0.length : Int)) q fun q9 => J_range 5 (m := x1) q fun q10 => Jr q <| Rm (I_ x1) q q <| r_add (x1 + 1) q q (wrap_i64 (by omega) (by omega)) q <| Ra (I_ (x1 + 1)) q q <| R0 <| J_go <| Jk (hE2 (x1 + 1)) (.c3 q q q .nil)
theorem k_ref07_Extract (t0 : api_Graph) (t1 : api_Part) (r : api_Graph × api_Morphism × Int) (hr : ref07_Extract t0 t1 = some r) : FnP PP 120 [AAgg (c_api_Graph t0), AAgg (c_api_Part t1)] (ATup [AAgg (c_api_Graph r.1), AAgg (c_api_Morphism r.2.1), I_ r.2.2]) := by
  refine Fo (fun (r : api_Graph × api_Morphism × Int) => ATup [AAgg (c_api_Graph r.1), AAgg (c_api_Morphism r.2.1), I_ r.2.2]) Tryz.func120 q (n := 85) q q hr fun X hΨ => ?_
  refine Jq q <| r_boxV (AAgg (c_api_Graph t0)) q q <| r_boxV (AAgg (c_api_Part t1)) q q <| r_alloc 0 _ z_29 q q <| r_alloc 1 _ z_36 q q <| Ra (I_ 0) q q <| R0 <| Js <| Js ?_
  refine Jr q <| r_lda (c_api_Graph t0) ag_29 q q q q <| r_lda (c_api_Part t1) ag_35 q q q q <| R_bind fun b1 h2 => r_call _ fn_119 (k_ref07_Valid _ _ _ h2) q q <| Ra (I_ b1) q q <| R0 <| Jq q <| Rm (I_ b1) q q ?_
  refine r_neq q q q <| R0 <| J_cond_p q (fun h3 => ?_) (fun h3 => ?_)
  · exact Jq q <| r_buildI (Cs := [ANil, ANil]) (c_api_Graph (api_Graph.mk [] [])) pl_29 z_29 .nil q (.nl (.nl .nil)) q <| r_buildI (Cs := [ANil, ANil]) (c_api_Morphism (api_Morphism.mk [] [])) pl_36 z_36 .nil q (.nl (.nl .nil)) q <| Rm (I_ b1) q q <| r_stO (AObj 0) (AAgg (c_api_Graph (api_Graph.mk [] []))) (c_api_Graph (api_Graph.mk [] [])) sz_29 q .obj q q q q q q <| r_stO (AObj 1) (AAgg (c_api_Morphism (api_Morphism.mk [] []))) (c_api_Morphism (api_Morphism.mk [] [])) sz_36 q .obj q q q q q q <| Ra (I_ b1) q q <| R0 <| Jt hΨ (Res_many (As := [AAgg (c_api_Graph (api_Graph.mk [] [])), AAgg (c_api_Morphism (api_Morphism.mk [] [])), I_ b1]) q q (.cons (.boxA (cs := (c_api_Graph (api_Graph.mk [] []))) ag_29 q q q) (.cons (.boxA (cs := (c_api_Morphism (api_Morphism.mk [] []))) ag_36 q q q) (.cons (.tmp (A := I_ b1) q) .nil)))) q q
  refine J_skip <| Jq q <| r_alloc 2 _ z_29 q q <| R0 <| Js <| Jq q <| Ra (I_ 0) q q <| R0 ?_
  refine J_block <| Jn (fun x4 => ⟨fr [(2, APtr (c_api_Graph t0)), (3, APtr (c_api_Part t1)), (4, AObj 0), (5, AObj 1), (6, I_ 0), (7, I_ b1), (8, AObj 2), (9, I_ x4.2), (14, I_ b1), (15, I_ b1)], hp [(0, .box 29 [ANil, ANil]), (1, .box 36 [ANil, ANil]), (2, .box 29 [AObj 3, ANil]), (3, .row 3 1 (x4.1.map c_i64))], 4⟩) [] [] [3] q (.s2 q q (.cons (A := AObj 0) q (.obj q q q) (.cons (A := AObj 1) q (.obj q q q) (.s2 q q (.cons (A := AObj 2) q (.obj q q q) (.s3 q q q .nil)))))) (.cons q q q q (.box (.cons .same (.cons .same .nil))) q q (.cons q q q q (.box (.cons .same (.cons .same .nil))) q q (.cons q q q q (.box (.cons (.nilobj q q) (.cons .same .nil))) q q (.new q q .nil)))) q q (fun E5 hE5 x4 => ?_)
  refine Js <| Jq q <| Rm (I_ x4.2) q q <| r_faT ((cL 1 c_i64) t1.Nodes) fo_35_0 q q q <| r_ld (AL 1 c_i64 t1.Nodes) sc_26 q q q <| r_len (cc := c_i64) il_26 q q <| r_lss q q q <| R0 <| J_cond_p q (fun h9 => ?_) (fun h9 => ?_)
  · refine J_skip <| Js <| J_block <| J_draw <| r_faO (AObj 2) 0 fo_29_0 q .obj q q q <| r_ldO (ABoxAt 2 0) (AObj 3) sc_26 q .at q q q <| r_faT ((cL 1 c_i64) t0.Nodes) fo_29_0 q q q <| r_ld (AL 1 c_i64 t0.Nodes) sc_26 q q q <| r_faT ((cL 1 c_i64) t1.Nodes) fo_35_0 q q q <| r_ld (AL 1 c_i64 t1.Nodes) sc_26 q q q ?_
    refine Rm (I_ x4.2) q q <| R_if (fun h10 => ?_) (fun _ => R_none)
    refine r_ix (cc := c_i64) el_26 q q h10.1 h10.2 q <| r_ld (I_ (nth t1.Nodes x4.2)) sc_3 q q q <| R_if (fun h11 => ?_) (fun _ => R_none)
    refine r_ix (cc := c_i64) el_26 q q h11.1 h11.2 q <| r_ld (I_ (nth t0.Nodes (nth t1.Nodes x4.2))) sc_3 q q q <| r_bs (cc := c_i64) [(nth t0.Nodes (nth t1.Nodes x4.2))] el_26 zr_3_1 (.cons (A := I_ (nth t0.Nodes (nth t1.Nodes x4.2))) q q q .nil) q q q <| R_if (fun h12 => ?_) (fun _ => R_none)
    refine r_app (cc := c_i64) (xs := x4.1) (ys := [(nth t0.Nodes (nth t1.Nodes x4.2))]) 4 ap_26 q q q h12 q q q <| r_faO (AObj 2) 0 fo_29_0 q .obj q q q <| r_stO (ABoxAt 2 0) (AObj 4) [AObj 4, ANil] sz_26 q .at q q q q q q <| R_nilD (by kernel_rfl) <| J_inBlock <| J_range 23 (m := (t1.Nodes.length : Int)) q fun q13 => J_range 9 (m := x4.2) q fun q14 => Jr q <| Rm (I_ x4.2) q q <| r_add (x4.2 + 1) q q (wrap_i64 (by omega) (by omega)) q ?_
    exact Ra (I_ (x4.2 + 1)) q q <| R0 <| J_go <| Jc [] [(3, 4)] [] (hE5 ((x4.1 ++ [(nth t0.Nodes (nth t1.Nodes x4.2))]), x4.2 + 1)) (.s2 q q (.cons (A := AObj 0) q (.obj q q q) (.cons (A := AObj 1) q (.obj q q q) (.s2 q q (.cons (A := AObj 2) q (.obj q q q) (.s3 q q q .nil)))))) (.cons q q q q (.box (.cons .same (.cons .same .nil))) q q (.cons q q q q (.box (.cons .same (.cons .same .nil))) q q (.cons q q q q (.box (.cons (.obj q q q) (.cons .same .nil))) q q (.cons q q q q (.row (NKC.flat _ _)) q q .nil)))) q q
  refine J_exit q <| J_out <| Js <| Jq q <| Ra (I_ 0) q q <| R0 <| J_block <| Jn (fun x15 => ⟨fr [(2, APtr (c_api_Graph t0)), (3, APtr (c_api_Part t1)), (4, AObj 0), (5, AObj 1), (6, I_ 0), (7, I_ b1), (8, AObj 2), (9, I_ x4.2), (10, I_ x15.2), (14, I_ b1), (15, I_ b1), (20, I_ x4.2), (23, I_ (t1.Nodes.length : Int))], hp [(0, .box 29 [ANil, ANil]), (1, .box 36 [ANil, ANil]), (2, .box 29 [AObj 3, AObj 4]), (3, .row 3 1 (x4.1.map c_i64)), (4, .row 77 3 (x15.1.map c_api_Edge))], 5⟩) [] [] [4] q (.s2 q q (.cons (A := AObj 0) q (.obj q q q) (.cons (A := AObj 1) q (.obj q q q) (.s2 q q (.cons (A := AObj 2) q (.obj q q q) (.s6 q q q q q q .nil)))))) (.cons q q q q (.box (.cons .same (.cons .same .nil))) q q (.cons q q q q (.box (.cons .same (.cons .same .nil))) q q (.cons q q q q (.box (.cons (.obj q q q) (.cons (.nilobj q q) .nil))) q q (.cons q q q q (.row (NKC.flat _ _)) q q (.new q q .nil))))) q q (fun E16 hE16 x15 => ?_)
  refine Js <| Jq q <| Rm (I_ x15.2) q q <| r_faT ((cL 1 c_i64) t1.Edges) fo_35_1 q q q <| r_ld (AL 1 c_i64 t1.Edges) sc_26 q q q <| r_len (cc := c_i64) il_26 q q <| r_lss q q q <| R0 <| J_cond_p q (fun h24 => ?_) (fun h24 => ?_)
  rotate_left
  · refine J_exit q <| J_out <| Js <| J_draw <| r_ldaO (AObj 2) [AObj 3, AObj 4] ag_29 q .obj q q q q <| r_bs0 5 el_26 q q <| r_faT ((cL 1 c_i64) t1.Nodes) fo_35_0 q q q <| r_ld (AL 1 c_i64 t1.Nodes) sc_26 q q q <| R_if (fun h34 => ?_) (fun _ => R_none)
    refine r_app0 (cc := c_i64) (ys := t1.Nodes) 6 ap_26 q q q h34 q q q <| r_bs0 7 el_26 q q <| r_faT ((cL 1 c_i64) t1.Edges) fo_35_1 q q q <| r_ld (AL 1 c_i64 t1.Edges) sc_26 q q q <| R_if (fun h35 => ?_) (fun _ => R_none)
    exact r_app0 (cc := c_i64) (ys := t1.Edges) 8 ap_26 q q q h35 q q q <| r_build [AObj 6, AObj 8] pl_36 z_36 (.cons (A := AObj 6) q po_36_0 q (.cons (A := AObj 8) q po_36_1 q .nil)) q q <| r_stO (AObj 0) (AAgg [AObj 3, AObj 4]) [AObj 3, AObj 4] sz_29 q .obj q q q q q q <| r_stO (AObj 1) (AAgg [AObj 6, AObj 8]) [AObj 6, AObj 8] sz_36 q .obj q q q q q q <| Ra (I_ 0) q q <| R_nilD (by kernel_rfl) <| J_retF hΨ (Res_many (As := [AAgg [AObj 3, AObj 4], AAgg [AObj 6, AObj 8], I_ 0]) q q (.cons (.boxA (cs := [AObj 3, AObj 4]) ag_29 q q q) (.cons (.boxA (cs := [AObj 6, AObj 8]) ag_36 q q q) (.cons (.tmp (A := I_ 0) q) .nil)))) (fun y hy => by cases hy; exact (.tup (.cons (.agg (.cons (.frow q q (NKC.flat _ _)) (.cons (.frow q q (NKC.flat _ _)) .nil))) (.cons (.agg (.cons (.frow q q (NKC.flat _ _)) (.cons (.frow q q (NKC.flat _ _)) .nil))) (.cons .same .nil)))))
  refine J_skip <| Js <| J_block <| Js <| J_draw <| r_faT ((cL 3 c_api_Edge) t0.Edges) fo_29_1 q q q <| r_ld (AL 3 c_api_Edge t0.Edges) sc_27 q q q <| r_faT ((cL 1 c_i64) t1.Edges) fo_35_1 q q q <| r_ld (AL 1 c_i64 t1.Edges) sc_26 q q q <| Rm (I_ x15.2) q q ?_
  refine R_if (fun h25 => ?_) (fun _ => R_none)
  refine r_ix (cc := c_i64) el_26 q q h25.1 h25.2 q <| r_ld (I_ (nth t1.Edges x15.2)) sc_3 q q q <| R_if (fun h26 => ?_) (fun _ => R_none)
  refine r_ix (cc := c_api_Edge) el_27 q q h26.1 h26.2 q <| r_lda (c_api_Edge (nth t0.Edges (nth t1.Edges x15.2))) ag_77 q q q q <| r_alloc 5 _ z_77 q q <| r_stO (AObj 5) (AAgg (c_api_Edge (nth t0.Edges (nth t1.Edges x15.2)))) (c_api_Edge (nth t0.Edges (nth t1.Edges x15.2))) sz_77 q .obj q q q q q q <| R_nilD (by kernel_rfl) <| J_draw <| r_faO (AObj 2) 1 fo_29_1 q .obj q q q <| r_ldO (ABoxAt 2 1) (AObj 4) sc_27 q .at q q q <| r_faO (AObj 5) 0 fo_77_0 q .obj q q q <| r_ldO (ABoxAt 5 0) (I_ ((nth t0.Edges (nth t1.Edges x15.2)).Type_)) sc_3 q .at q q q ?_
  refine r_faT ((cL 1 c_i64) t1.Nodes) fo_35_0 q q q <| r_ld (AL 1 c_i64 t1.Nodes) sc_26 q q q <| r_faO (AObj 5) 1 fo_77_1 q .obj q q q <| r_ldO (ABoxAt 5 1) (I_ ((nth t0.Edges (nth t1.Edges x15.2)).From)) sc_3 q .at q q q <| R_bind fun b27 h28 => r_call _ fn_166 (k_ref07_index _ _ _ h28) q q <| r_faT ((cL 1 c_i64) t1.Nodes) fo_35_0 q q q <| r_ld (AL 1 c_i64 t1.Nodes) sc_26 q q q <| r_faO (AObj 5) 2 fo_77_2 q .obj q q q <| r_ldO (ABoxAt 5 2) (I_ ((nth t0.Edges (nth t1.Edges x15.2)).To)) sc_3 q .at q q q ?_
  refine R_bind fun b29 h30 => r_call _ fn_166 (k_ref07_index _ _ _ h30) q q <| r_build (c_api_Edge (api_Edge.mk ((nth t0.Edges (nth t1.Edges x15.2)).Type_) b27 b29)) pl_77 z_77 (.cons (A := I_ ((nth t0.Edges (nth t1.Edges x15.2)).Type_)) q po_77_0 q (.cons (A := I_ b27) q po_77_1 q (.cons (A := I_ b29) q po_77_2 q .nil))) q q <| r_bs (cc := c_api_Edge) [(api_Edge.mk ((nth t0.Edges (nth t1.Edges x15.2)).Type_) b27 b29)] el_27 zr_77_1 (.cons (A := AAgg (c_api_Edge (api_Edge.mk ((nth t0.Edges (nth t1.Edges x15.2)).Type_) b27 b29))) q q q .nil) q q q <| R_if (fun h31 => ?_) (fun _ => R_none)
  refine r_app (cc := c_api_Edge) (xs := x15.1) (ys := [(api_Edge.mk ((nth t0.Edges (nth t1.Edges x15.2)).Type_) b27 b29)]) 6 ap_27 q q q h31 q q q <| r_faO (AObj 2) 1 fo_29_1 q .obj q q q <| r_stO (ABoxAt 2 1) (AObj 6) [AObj 3, AObj 6] sz_27 q .at q q q q q q <| R_nilD (by kernel_rfl) <| J_inBlock <| J_range 44 (m := (t1.Edges.length : Int)) q fun q32 => J_range 10 (m := x15.2) q fun q33 => Jr q <| Rm (I_ x15.2) q q <| r_add (x15.2 + 1) q q (wrap_i64 (by omega) (by omega)) q ?_
  exact Ra (I_ (x15.2 + 1)) q q <| R0 <| J_go <| Jc [] [(4, 6)] [] (hE16 ((x15.1 ++ [(api_Edge.mk ((nth t0.Edges (nth t1.Edges x15.2)).Type_) b27 b29)]), x15.2 + 1)) (.s2 q q (.cons (A := AObj 0) q (.obj q q q) (.cons (A := AObj 1) q (.obj q q q) (.s2 q q (.cons (A := AObj 2) q (.obj q q q) (.s6 q q q q q q .nil)))))) (.cons q q q q (.box (.cons .same (.cons .same .nil))) q q (.cons q q q q (.box (.cons .same (.cons .same .nil))) q q (.cons q q q q (.box (.cons (.obj q q q) (.cons (.obj q q q) .nil))) q q (.cons q q q q (.row (NKC.flat _ _)) q q (.cons q q q q (.row (NKC.flat _ _)) q q .nil))))) q q
theorem k_ref06_Valid (t0 : api_Graph) (t1 : api_Graph) (t2 : api_Morphism) (r : Int) (hr : ref06_Valid t0 t1 t2 = some r) : FnP PP 121 [AAgg (c_api_Graph t0), AAgg (c_api_Graph t1), AAgg (c_api_Morphism t2)] (I_ r) := by
  refine Fo (fun (r : Int) => I_ r) Tryz.func121 q (n := 141) q q hr fun X hΨ => ?_
  refine Jq q <| r_boxV (AAgg (c_api_Graph t0)) q q <| r_boxV (AAgg (c_api_Graph t1)) q q <| r_boxV (AAgg (c_api_Morphism t2)) q q <| Ra (I_ 0) q q <| R0 <| Js <| Jq q ?_
  refine r_lda (c_api_Graph t0) ag_29 q q q q <| R_bind fun b1 h2 => r_call _ fn_88 (k_ref05_Valid _ _ h2) q q <| Ra (I_ b1) q q <| R0 <| Jq q <| Rm (I_ b1) q q <| r_neq q q q <| R0 ?_
  refine J_cond_p q (fun h3 => ?_) (fun h3 => ?_)
  · exact Jq q <| Rm (I_ b1) q q <| Ra (I_ b1) q q <| Rt hΨ q q q
  refine J_skip <| Js <| Jq q <| r_lda (c_api_Graph t1) ag_29 q q q q <| R_bind fun b4 h5 => r_call _ fn_88 (k_ref05_Valid _ _ h5) q q <| Ra (I_ b4) q q <| R0 <| Js ?_
  refine Jr q <| Rm (I_ b4) q q <| r_neq q q q <| R0 <| J_cond_p q (fun h6 => ?_) (fun h6 => ?_)
  · exact Jq q <| Rm (I_ b4) q q <| Ra (I_ b4) q q <| Rt hΨ q q q
  refine J_skip <| Js <| Jq q <| r_faT ((cL 1 c_i64) t2.Nodes) fo_36_0 q q q <| r_ld (AL 1 c_i64 t2.Nodes) sc_26 q q q <| r_len (cc := c_i64) il_26 q q <| r_faT ((cL 1 c_i64) t0.Nodes) fo_29_0 q q q <| r_ld (AL 1 c_i64 t0.Nodes) sc_26 q q q <| r_len (cc := c_i64) il_26 q q ?_
  refine r_neq q q q <| Rm (ABool (decide (¬ ((t2.Nodes.length : Int) = (t0.Nodes.length : Int))))) q q <| R_if (fun h7 => ?_) (fun h7 => ?_)
  · refine Rk (g_fn q q (dt h7)) <| Rk (g_fn q q (dt h7)) <| Rk (g_fn q q (dt h7)) <| Rk (g_fn q q (dt h7)) <| Rk (g_fn q q (dt h7)) <| Rk (g_fn q q (dt h7)) <| Rk (g_fn q q (dt h7)) <| r_pickT (ABool true) q (dt h7) q q <| R0 <| J_cond_T q q ?_
    exact Jq q <| Ra (I_ 20) q q <| Rt hΨ q q q
  refine r_faT ((cL 1 c_i64) t2.Edges) fo_36_1 q q (g_f q q (df h7)) <| r_ld (AL 1 c_i64 t2.Edges) sc_26 q q (g_f q q (df h7)) <| r_len (cc := c_i64) il_26 q (g_f q q (df h7)) <| r_faT ((cL 3 c_api_Edge) t0.Edges) fo_29_1 q q (g_f q q (df h7)) <| r_ld (AL 3 c_api_Edge t0.Edges) sc_27 q q (g_f q q (df h7)) <| r_len (cc := c_api_Edge) il_27 q (g_f q q (df h7)) <| r_neq q q (g_f q q (df h7)) <| r_pickF (ABool (decide (¬ ((t2.Edges.length : Int) = (t0.Edges.length : Int))))) q (df h7) q q <| R0 <| J_cond_p q (fun h8 => ?_) (fun h8 => ?_)
  · exact Jq q <| Ra (I_ 20) q q <| Rt hΨ q q q
  refine J_skip <| Js <| Jq q <| Ra (I_ 0) q q <| R0 <| J_block <| Jn (fun x9 => ⟨fr [(3, APtr (c_api_Graph t0)), (4, APtr (c_api_Graph t1)), (5, APtr (c_api_Morphism t2)), (6, I_ 0), (7, I_ b1), (8, I_ b4), (9, I_ x9), (14, I_ b1), (15, I_ b1), (19, I_ b4), (20, I_ b4), (25, I_ (t2.Nodes.length : Int)), (28, I_ (t0.Nodes.length : Int)), (33, I_ (t2.Edges.length : Int)), (36, I_ (t0.Edges.length : Int))], hp [], 0⟩) [] [] [] q (.s3 q q q (.s6 q q q q q q (.s6 q q q q q q .nil))) .nil q q (fun E10 hE10 x9 => ?_)
  refine Js <| Jq q <| Rm (I_ x9) q q <| r_faT ((cL 1 c_i64) t0.Nodes) fo_29_0 q q q <| r_ld (AL 1 c_i64 t0.Nodes) sc_26 q q q <| r_len (cc := c_i64) il_26 q q <| r_lss q q q <| R0 <| J_cond_p q (fun h18 => ?_) (fun h18 => ?_)
  · refine J_skip <| Js <| J_block <| Js <| Js <| J_draw <| r_faT ((cL 1 c_i64) t2.Nodes) fo_36_0 q q q <| r_ld (AL 1 c_i64 t2.Nodes) sc_26 q q q <| Rm (I_ x9) q q <| R_if (fun h19 => ?_) (fun _ => R_none)
    refine r_ix (cc := c_i64) el_26 q q h19.1 h19.2 q <| r_ld (I_ (nth t2.Nodes x9)) sc_3 q q q <| r_lss q q q <| Rm (ABool (decide ((nth t2.Nodes x9) < 0))) q q <| R_if (fun h20 => ?_) (fun h20 => ?_)
    · refine Rk (g_fn q q (dt h20)) <| Rk (g_fn q q (dt h20)) <| Rk (g_fn q q (dt h20)) <| Rk (g_fn q q (dt h20)) <| Rk (g_fn q q (dt h20)) <| Rk (g_fn q q (dt h20)) <| Rk (g_fn q q (dt h20)) <| Rk (g_fn q q (dt h20)) <| Rk (g_fn q q (dt h20)) <| r_pickT (ABool true) q (dt h20) q q ?_
      exact R_nilD (by kernel_rfl) <| J_cond_T q q <| Jq q <| Ra (I_ 6) q q <| R0 <| J_outS <| Jt hΨ (Res_one q) q q
    refine r_faT ((cL 1 c_i64) t2.Nodes) fo_36_0 q q (g_f q q (df h20)) <| r_ld (AL 1 c_i64 t2.Nodes) sc_26 q q (g_f q q (df h20)) <| Rm (I_ x9) q (g_f q q (df h20)) <| r_ix (cc := c_i64) el_26 q q h19.1 h19.2 (g_f q q (df h20)) <| r_ld (I_ (nth t2.Nodes x9)) sc_3 q q (g_f q q (df h20)) <| r_faT ((cL 1 c_i64) t1.Nodes) fo_29_0 q q (g_f q q (df h20)) <| r_ld (AL 1 c_i64 t1.Nodes) sc_26 q q (g_f q q (df h20)) <| r_len (cc := c_i64) il_26 q (g_f q q (df h20)) <| r_geq q q (g_f q q (df h20)) <| r_pickF (ABool (decide ((t1.Nodes.length : Int) ≤ (nth t2.Nodes x9)))) q (df h20) q q ?_
    refine R_nilD (by kernel_rfl) <| J_cond_p q (fun h21 => ?_) (fun h21 => ?_)
    · exact Jq q <| Ra (I_ 6) q q <| R0 <| J_outS <| Jt hΨ (Res_one q) q q
    refine J_skip <| Js <| J_draw <| r_faT ((cL 1 c_i64) t1.Nodes) fo_29_0 q q q <| r_ld (AL 1 c_i64 t1.Nodes) sc_26 q q q <| r_faT ((cL 1 c_i64) t2.Nodes) fo_36_0 q q q <| r_ld (AL 1 c_i64 t2.Nodes) sc_26 q q q <| Rm (I_ x9) q q <| r_ix (cc := c_i64) el_26 q q h19.1 h19.2 q <| r_ld (I_ (nth t2.Nodes x9)) sc_3 q q q ?_
    refine R_if (fun h22 => ?_) (fun _ => R_none)
    refine r_ix (cc := c_i64) el_26 q q h22.1 h22.2 q <| r_ld (I_ (nth t1.Nodes (nth t2.Nodes x9))) sc_3 q q q <| r_faT ((cL 1 c_i64) t0.Nodes) fo_29_0 q q q <| r_ld (AL 1 c_i64 t0.Nodes) sc_26 q q q <| Rm (I_ x9) q q <| R_if (fun h23 => ?_) (fun _ => R_none)
    refine r_ix (cc := c_i64) el_26 q q h23.1 h23.2 q <| r_ld (I_ (nth t0.Nodes x9)) sc_3 q q q <| r_neq q q q <| R_nilD (by kernel_rfl) <| J_cond_p q (fun h24 => ?_) (fun h24 => ?_)
    · exact Jq q <| Ra (I_ 13) q q <| R0 <| J_outS <| Jt hΨ (Res_one q) q q
    exact J_skip <| J_inBlock <| J_range 28 (m := (t0.Nodes.length : Int)) q fun q25 => J_range 9 (m := x9) q fun q26 => Jr q <| Rm (I_ x9) q q <| r_add (x9 + 1) q q (wrap_i64 (by omega) (by omega)) q <| Ra (I_ (x9 + 1)) q q <| R0 <| J_go <| Jc [] [] [] (hE10 (x9 + 1)) (.s3 q q q (.s6 q q q q q q (.s6 q q q q q q .nil))) .nil q q
  refine J_exit q <| J_out <| Js <| Jq q <| Ra (I_ 0) q q <| R0 <| J_block <| Jn (fun x27 => ⟨fr [(3, APtr (c_api_Graph t0)), (4, APtr (c_api_Graph t1)), (5, APtr (c_api_Morphism t2)), (6, I_ 0), (7, I_ b1), (8, I_ b4), (9, I_ x9), (10, I_ x27), (14, I_ b1), (15, I_ b1), (19, I_ b4), (20, I_ b4), (25, I_ (t2.Nodes.length : Int)), (28, I_ (t0.Nodes.length : Int)), (33, I_ (t2.Edges.length : Int)), (36, I_ (t0.Edges.length : Int)), (39, I_ x9), (42, I_ (t0.Nodes.length : Int))], hp [], 0⟩) [] [] [] q (.s6 q q q q q q (.s6 q q q q q q (.s6 q q q q q q .nil))) .nil q q (fun E28 hE28 x27 => ?_)
  refine Js <| Jq q <| Rm (I_ x27) q q <| r_faT ((cL 3 c_api_Edge) t0.Edges) fo_29_1 q q q <| r_ld (AL 3 c_api_Edge t0.Edges) sc_27 q q q <| r_len (cc := c_api_Edge) il_27 q q <| r_lss q q q <| R0 <| J_cond_p q (fun h40 => ?_) (fun h40 => ?_)
  rotate_left
  · exact J_exit q <| J_outS <| Jq q <| Ra (I_ 0) q q <| Rt hΨ q q q
  refine J_skip <| Js <| J_block <| Js <| Js <| J_draw <| r_faT ((cL 1 c_i64) t2.Edges) fo_36_1 q q q <| r_ld (AL 1 c_i64 t2.Edges) sc_26 q q q <| Rm (I_ x27) q q <| R_if (fun h41 => ?_) (fun _ => R_none)
  refine r_ix (cc := c_i64) el_26 q q h41.1 h41.2 q <| r_ld (I_ (nth t2.Edges x27)) sc_3 q q q <| r_lss q q q <| Rm (ABool (decide ((nth t2.Edges x27) < 0))) q q <| R_if (fun h42 => ?_) (fun h42 => ?_)
  · refine Rk (g_fn q q (dt h42)) <| Rk (g_fn q q (dt h42)) <| Rk (g_fn q q (dt h42)) <| Rk (g_fn q q (dt h42)) <| Rk (g_fn q q (dt h42)) <| Rk (g_fn q q (dt h42)) <| Rk (g_fn q q (dt h42)) <| Rk (g_fn q q (dt h42)) <| Rk (g_fn q q (dt h42)) <| r_pickT (ABool true) q (dt h42) q q ?_
    exact R_nilD (by kernel_rfl) <| J_cond_T q q <| Jq q <| Ra (I_ 6) q q <| R0 <| J_outS <| Jt hΨ (Res_one q) q q
  refine r_faT ((cL 1 c_i64) t2.Edges) fo_36_1 q q (g_f q q (df h42)) <| r_ld (AL 1 c_i64 t2.Edges) sc_26 q q (g_f q q (df h42)) <| Rm (I_ x27) q (g_f q q (df h42)) <| r_ix (cc := c_i64) el_26 q q h41.1 h41.2 (g_f q q (df h42)) <| r_ld (I_ (nth t2.Edges x27)) sc_3 q q (g_f q q (df h42)) <| r_faT ((cL 3 c_api_Edge) t1.Edges) fo_29_1 q q (g_f q q (df h42)) <| r_ld (AL 3 c_api_Edge t1.Edges) sc_27 q q (g_f q q (df h42)) <| r_len (cc := c_api_Edge) il_27 q (g_f q q (df h42)) <| r_geq q q (g_f q q (df h42)) <| r_pickF (ABool (decide ((t1.Edges.length : Int) ≤ (nth t2.Edges x27)))) q (df h42) q q ?_
  refine R_nilD (by kernel_rfl) <| J_cond_p q (fun h43 => ?_) (fun h43 => ?_)
  · exact Jq q <| Ra (I_ 6) q q <| R0 <| J_outS <| Jt hΨ (Res_one q) q q
  refine J_skip <| Js <| J_draw <| r_faT ((cL 3 c_api_Edge) t0.Edges) fo_29_1 q q q <| r_ld (AL 3 c_api_Edge t0.Edges) sc_27 q q q <| Rm (I_ x27) q q <| R_if (fun h44 => ?_) (fun _ => R_none)
  refine r_ix (cc := c_api_Edge) el_27 q q h44.1 h44.2 q <| r_lda (c_api_Edge (nth t0.Edges x27)) ag_77 q q q q <| r_faT ((cL 3 c_api_Edge) t1.Edges) fo_29_1 q q q <| r_ld (AL 3 c_api_Edge t1.Edges) sc_27 q q q <| r_faT ((cL 1 c_i64) t2.Edges) fo_36_1 q q q <| r_ld (AL 1 c_i64 t2.Edges) sc_26 q q q <| Rm (I_ x27) q q <| r_ix (cc := c_i64) el_26 q q h41.1 h41.2 q <| r_ld (I_ (nth t2.Edges x27)) sc_3 q q q <| R_if (fun h45 => ?_) (fun _ => R_none)
  refine r_ix (cc := c_api_Edge) el_27 q q h45.1 h45.2 q <| r_lda (c_api_Edge (nth t1.Edges (nth t2.Edges x27))) ag_77 q q q q <| r_alloc 0 _ z_77 q q <| r_alloc 1 _ z_77 q q <| r_stO (AObj 0) (AAgg (c_api_Edge (nth t0.Edges x27))) (c_api_Edge (nth t0.Edges x27)) sz_77 q .obj q q q q q q <| r_stO (AObj 1) (AAgg (c_api_Edge (nth t1.Edges (nth t2.Edges x27)))) (c_api_Edge (nth t1.Edges (nth t2.Edges x27))) sz_77 q .obj q q q q q q <| R_nilD (by kernel_rfl) <| Js <| Jq q ?_
  refine r_faO (AObj 0) 0 fo_77_0 q .obj q q q <| r_ldO (ABoxAt 0 0) (I_ ((nth t0.Edges x27).Type_)) sc_3 q .at q q q <| r_faO (AObj 1) 0 fo_77_0 q .obj q q q <| r_ldO (ABoxAt 1 0) (I_ ((nth t1.Edges (nth t2.Edges x27)).Type_)) sc_3 q .at q q q <| r_neq q q q <| R0 <| J_cond_p q (fun h46 => ?_) (fun h46 => ?_)
  · exact Jq q <| Ra (I_ 13) q q <| R0 <| J_outS <| Jt hΨ (Res_one q) q q
  refine J_skip <| Js <| J_draw <| r_faT ((cL 1 c_i64) t2.Nodes) fo_36_0 q q q <| r_ld (AL 1 c_i64 t2.Nodes) sc_26 q q q <| r_faO (AObj 0) 1 fo_77_1 q .obj q q q <| r_ldO (ABoxAt 0 1) (I_ ((nth t0.Edges x27).From)) sc_3 q .at q q q <| R_if (fun h47 => ?_) (fun _ => R_none)
  refine r_ix (cc := c_i64) el_26 q q h47.1 h47.2 q <| r_ld (I_ (nth t2.Nodes ((nth t0.Edges x27).From))) sc_3 q q q <| r_faO (AObj 1) 1 fo_77_1 q .obj q q q <| r_ldO (ABoxAt 1 1) (I_ ((nth t1.Edges (nth t2.Edges x27)).From)) sc_3 q .at q q q <| r_neq q q q <| Rm (ABool (decide (¬ ((nth t2.Nodes ((nth t0.Edges x27).From)) = (nth t1.Edges (nth t2.Edges x27)).From)))) q q <| R_if (fun h48 => ?_) (fun h48 => ?_)
  · refine Rk (g_fn q q (dt h48)) <| Rk (g_fn q q (dt h48)) <| Rk (g_fn q q (dt h48)) <| Rk (g_fn q q (dt h48)) <| Rk (g_fn q q (dt h48)) <| Rk (g_fn q q (dt h48)) <| Rk (g_fn q q (dt h48)) <| Rk (g_fn q q (dt h48)) <| Rk (g_fn q q (dt h48)) <| r_pickT (ABool true) q (dt h48) q q ?_
    exact R_nilD (by kernel_rfl) <| J_cond_T q q <| Jq q <| Ra (I_ 11) q q <| R0 <| J_outS <| Jt hΨ (Res_one q) q q
  refine r_faT ((cL 1 c_i64) t2.Nodes) fo_36_0 q q (g_f q q (df h48)) <| r_ld (AL 1 c_i64 t2.Nodes) sc_26 q q (g_f q q (df h48)) <| r_faO (AObj 0) 2 fo_77_2 q .obj q q (g_f q q (df h48)) <| r_ldO (ABoxAt 0 2) (I_ ((nth t0.Edges x27).To)) sc_3 q .at q q (g_f q q (df h48)) <| R_if (fun h49 => ?_) (fun _ => R_none)
  refine r_ix (cc := c_i64) el_26 q q h49.1 h49.2 (g_f q q (df h48)) <| r_ld (I_ (nth t2.Nodes ((nth t0.Edges x27).To))) sc_3 q q (g_f q q (df h48)) <| r_faO (AObj 1) 2 fo_77_2 q .obj q q (g_f q q (df h48)) <| r_ldO (ABoxAt 1 2) (I_ ((nth t1.Edges (nth t2.Edges x27)).To)) sc_3 q .at q q (g_f q q (df h48)) <| r_neq q q (g_f q q (df h48)) <| r_pickF (ABool (decide (¬ ((nth t2.Nodes ((nth t0.Edges x27).To)) = (nth t1.Edges (nth t2.Edges x27)).To)))) q (df h48) q q <| R_nilD (by kernel_rfl) <| J_cond_p q (fun h50 => ?_) (fun h50 => ?_)
  · exact Jq q <| Ra (I_ 11) q q <| R0 <| J_outS <| Jt hΨ (Res_one q) q q
  exact J_skip <| J_inBlock <| J_range 36 (m := (t0.Edges.length : Int)) q fun q51 => J_range 10 (m := x27) q fun q52 => Jr q <| Rm (I_ x27) q q <| r_add (x27 + 1) q q (wrap_i64 (by omega) (by omega)) q <| Ra (I_ (x27 + 1)) q q <| R0 <| J_go <| Jc [] [] [] (hE28 (x27 + 1)) (.s6 q q q q q q (.s6 q q q q q q (.s6 q q q q q q .nil))) .nil q q
theorem k_ref24_span (t0 : api_Rule) (r : Int) (hr : ref24_span t0 = some r) : FnP PP 70 [AAgg (c_api_Rule t0)] (I_ r) := by
  refine Fo (fun (r : Int) => I_ r) Tryz.func70 q (n := 33) q q hr fun X hΨ => ?_
  refine Jq q <| r_boxV (AAgg (c_api_Rule t0)) q q <| Ra (I_ 0) q q <| R0 <| Js <| Jq q <| r_faT (c_api_Pattern t0.Left) fo_41_1 q q q <| r_faT (c_api_Graph t0.Left.Graph) fo_33_0 q q q ?_
  refine r_lda (c_api_Graph t0.Left.Graph) ag_29 q q q q <| r_faT (c_api_Part t0.Keep) fo_41_3 q q q <| r_lda (c_api_Part t0.Keep) ag_35 q q q q <| R_bind fun b1 h2 => r_call _ fn_119 (k_ref07_Valid _ _ _ h2) q q <| Ra (I_ b1) q q <| R0 <| Jq q <| Rm (I_ b1) q q ?_
  refine r_neq q q q <| R0 <| J_cond_p q (fun h3 => ?_) (fun h3 => ?_)
  · exact Jq q <| Rm (I_ b1) q q <| Ra (I_ b1) q q <| Rt hΨ q q q
  refine J_skip <| Jq q <| r_faT (c_api_Pattern t0.Left) fo_41_1 q q q <| r_faT (c_api_Graph t0.Left.Graph) fo_33_0 q q q <| r_lda (c_api_Graph t0.Left.Graph) ag_29 q q q q <| r_faT (c_api_Part t0.Keep) fo_41_3 q q q <| r_lda (c_api_Part t0.Keep) ag_35 q q q q <| R_bind fun b4 h5 => r_call _ fn_120 (k_ref07_Extract _ _ _ h5) q q ?_
  refine Rm (ATup [AAgg (c_api_Graph b4.1), AAgg (c_api_Morphism b4.2.1), I_ b4.2.2]) q q <| r_ext (AAgg (c_api_Graph b4.1)) q q q <| r_ext (AAgg (c_api_Morphism b4.2.1)) q q q <| r_ext (I_ b4.2.2) q q q <| r_alloc 0 _ z_29 q q <| r_alloc 1 _ z_36 q q <| r_stO (AObj 0) (AAgg (c_api_Graph b4.1)) (c_api_Graph b4.1) sz_29 q .obj q q q q q q <| r_stO (AObj 1) (AAgg (c_api_Morphism b4.2.1)) (c_api_Morphism b4.2.1) sz_36 q .obj q q q q q q <| Ra (I_ b4.2.2) q q <| R0 ?_
  refine Jq q <| r_ldaO (AObj 0) (c_api_Graph b4.1) ag_29 q .obj q q q q <| r_faT (c_api_Pattern t0.Right) fo_41_2 q q q <| r_faT (c_api_Graph t0.Right.Graph) fo_33_0 q q q <| r_lda (c_api_Graph t0.Right.Graph) ag_29 q q q q <| r_faT (c_api_Morphism t0.Into) fo_41_4 q q q <| r_lda (c_api_Morphism t0.Into) ag_36 q q q q <| R_bind fun b6 h7 => r_call _ fn_121 (k_ref06_Valid _ _ _ _ h7) q q ?_
  exact Ra (I_ b6) q q <| Rt hΨ q q q
theorem k_ref06_Distinct (t0 : (List Int)) (r : Bool) (hr : ref06_Distinct t0 = some r) : FnP PP 71 [AL 1 c_i64 t0] (ABool r) := by
  refine Fo (fun (r : Bool) => ABool r) Tryz.func71 q (n := 25) q q hr fun X hΨ => ?_
  refine Jq q <| Ra (ABool false) q q <| R0 <| Js <| Jq q <| Ra (I_ 0) q q <| R0 <| J_block ?_
  refine Jl (fun x1 => [(0, AL 1 c_i64 t0), (3, I_ x1)]) (.c2 q q .nil) (fun E2 hE2 x1 => ?_)
  refine Js <| Jq q <| Rm (I_ x1) q q <| Rm (AL 1 c_i64 t0) q q <| r_len (cc := c_i64) il_26 q q <| r_lss q q q <| R0 <| J_cond_p q (fun h14 => ?_) (fun h14 => ?_)
  rotate_left
  · exact J_exit q <| J_outS <| Jq q <| Ra (ABool true) q q <| Rt hΨ q q q
  refine J_skip <| Js <| J_block <| Jq q <| Ra (I_ 0) q q <| R0 <| J_block <| Jl (fun x15 => [(0, AL 1 c_i64 t0), (3, I_ x1), (4, I_ x15), (5, I_ x1), (7, I_ (t0.length : Int))]) (.c2 q q (.c3 q q q .nil)) (fun E16 hE16 x15 => ?_)
  refine Js <| Jq q <| Rm (I_ x15) q q <| Rm (I_ x1) q q <| r_lss q q q <| R0 <| J_cond_p q (fun h21 => ?_) (fun h21 => ?_)
  rotate_left
  · refine J_exit q <| J_outS <| J_inBlock <| J_range 7 (m := (t0.length : Int)) q fun q27 => J_range 3 (m := x1) q fun q28 => Jr q <| Rm (I_ x1) q q <| r_add (x1 + 1) q q (wrap_i64 (by omega) (by omega)) q <| Ra (I_ (x1 + 1)) q q <| R0 ?_
    exact J_go <| Jk (hE2 (x1 + 1)) (.c2 q q .nil)
  refine J_skip <| Js <| J_block <| Js <| J_draw <| Rm (AL 1 c_i64 t0) q q <| Rm (I_ x1) q q <| R_if (fun h22 => ?_) (fun _ => R_none)
  refine r_ix (cc := c_i64) el_26 q q h22.1 h22.2 q <| r_ld (I_ (nth t0 x1)) sc_3 q q q <| Rm (AL 1 c_i64 t0) q q <| Rm (I_ x15) q q <| R_if (fun h23 => ?_) (fun _ => R_none)
  refine r_ix (cc := c_i64) el_26 q q h23.1 h23.2 q <| r_ld (I_ (nth t0 x15)) sc_3 q q q <| r_eql q q q <| R_nilD (by kernel_rfl) <| J_cond_p q (fun h24 => ?_) (fun h24 => ?_)
  · exact Jq q <| Ra (ABool false) q q <| R0 <| J_outS <| J_outS <| Jt hΨ (Res_one q) q q
  exact J_skip <| J_inBlock <| J_range 3 (m := x1) q fun q25 => J_range 4 (m := x15) q fun q26 => Jr q <| Rm (I_ x15) q q <| r_add (x15 + 1) q q (wrap_i64 (by omega) (by omega)) q <| Ra (I_ (x15 + 1)) q q <| R0 <| J_go <| Jk (hE16 (x15 + 1)) (.c2 q q (.c3 q q q .nil))
theorem k_ref24_has (t0 : (List Int)) (t1 : Int) (r : Bool) (hr : ref24_has t0 t1 = some r) : FnP PP 167 [AL 1 c_i64 t0, I_ t1] (ABool r) := by
  refine Fo (fun (r : Bool) => ABool r) Tryz.func167 q (n := 18) q q hr fun X hΨ => ?_
  refine Jq q <| Ra (ABool false) q q <| R0 <| Js <| Jq q <| Ra (I_ 0) q q <| R0 <| J_block ?_
  refine Jl (fun x1 => [(0, AL 1 c_i64 t0), (1, I_ t1), (5, I_ x1)]) (.c3 q q q .nil) (fun E2 hE2 x1 => ?_)
  refine Js <| Jq q <| Rm (I_ x1) q q <| Rm (AL 1 c_i64 t0) q q <| r_len (cc := c_i64) il_26 q q <| r_lss q q q <| R0 <| J_cond_p q (fun h6 => ?_) (fun h6 => ?_)
  rotate_left
  · exact J_exit q <| J_outS <| Jq q <| Ra (ABool false) q q <| Rt hΨ q q q
  refine J_skip <| Js <| J_block <| Jq q <| Rm (AL 1 c_i64 t0) q q <| Rm (I_ x1) q q <| R_if (fun h7 => ?_) (fun _ => R_none)
  refine r_ix (cc := c_i64) el_26 q q h7.1 h7.2 q <| r_ld (I_ (nth t0 x1)) sc_3 q q q <| Rm (I_ t1) q q <| r_eql q q q <| R0 <| J_cond_p q (fun h8 => ?_) (fun h8 => ?_)
  · exact Jq q <| Ra (ABool true) q q <| R0 <| J_outS <| Jt hΨ (Res_one q) q q
  exact J_skip <| J_inBlock <| J_range 8 (m := (t0.length : Int)) q fun q9 => J_range 5 (m := x1) q fun q10 => Jr q <| Rm (I_ x1) q q <| r_add (x1 + 1) q q (wrap_i64 (by omega) (by omega)) q <| Ra (I_ (x1 + 1)) q q <| R0 <| J_go <| Jk (hE2 (x1 + 1)) (.c3 q q q .nil)
theorem k_ref24_rest (t0 : Int) (t1 : (List Int)) (r : (List Int)) (hr : ref24_rest t0 t1 = some r) : FnP PP 122 [I_ t0, AL 1 c_i64 t1] (AL 1 c_i64 r) := by
  refine Fo (fun (r : (List Int)) => AL 1 c_i64 r) Tryz.func122 q (n := 21) q q hr fun X hΨ => ?_
  refine Jq q <| Ra (ANil) q q <| R0 <| Jq q <| Ra (ANil) q q <| R0 <| Js <| Js ?_
  refine Jr q <| Ra (I_ 0) q q <| R0 <| J_block <| Jn (fun x1 => ⟨fr [(0, I_ t0), (1, AL 1 c_i64 t1), (5, AObj 0), (6, I_ x1.2)], hp [(0, .row 3 1 (x1.1.map c_i64))], 1⟩) [] [] [0] q (.s2 q q (.cons (A := ANil) q (.nilobj q q) (.same q .nil))) (.new q q .nil) q q (fun E2 hE2 x1 => ?_)
  refine Js <| Jq q <| Rm (I_ x1.2) q q <| Rm (I_ t0) q q <| r_lss q q q <| R0 <| J_cond_p q (fun h9 => ?_) (fun h9 => ?_)
  rotate_left
  · exact J_exit q <| J_outS <| Jq q <| Rm (AObj 0) q q <| Ra (AObj 0) q q <| R0 <| J_retF hΨ (Res_box q (.tmp (A := AObj 0) q)) (fun y hy => by cases hy; exact (.frow q q (NKC.flat _ _)))
  refine J_skip <| Js <| J_block <| Jq q <| Rm (AL 1 c_i64 t1) q q <| Rm (I_ x1.2) q q <| R_bind fun b10 h11 => r_call _ fn_167 (k_ref24_has _ _ _ h11) q q <| r_not q q ?_
  refine R0 ?_
  apply J_joinA (fun v14 => ⟨fr [(0, I_ t0), (1, AL 1 c_i64 t1), (5, AObj 0), (6, I_ x1.2), (7, I_ x1.2), (8, I_ t0), (13, I_ x1.2)], hp [(0, .row 3 1 (v14.map c_i64))], 1⟩) (fun v14 => ref24_rest_j14 x1 v14)
  · intro K15
    refine J_cond q (fun h12 => ?_) (fun h12 => ?_)
    rotate_left
    · exact J_skip <| Jc [] [] [] (K15 x1.1) (.s2 q q (.cons (A := AObj 0) q (.obj q q q) (.same q (.s3 q q q .nil)))) (.cons q q q q (.row (NKC.flat _ _)) q q .nil) q q
    refine Jr q <| Rm (AObj 0) q q <| Rm (I_ x1.2) q q <| r_bs (cc := c_i64) [x1.2] el_26 zr_3_1 (.cons (A := I_ x1.2) q q q .nil) q q q <| R_if (fun h13 => ?_) (fun _ => R_none)
    exact r_app (cc := c_i64) (xs := x1.1) (ys := [x1.2]) 1 ap_26 q q q h13 q q q <| Ra (AObj 1) q q <| R0 <| Jc [] [(0, 1)] [] (K15 (x1.1 ++ [x1.2])) (.s2 q q (.cons (A := AObj 1) q (.obj q q q) (.same q (.s3 q q q .nil)))) (.cons q q q q (.row (NKC.flat _ _)) q q .nil) q q
  intro v14
  exact J_inBlock <| J_range 0 (m := t0) q fun q16 => J_range 6 (m := x1.2) q fun q17 => Jr q <| Rm (I_ x1.2) q q <| r_add (x1.2 + 1) q q (wrap_i64 (by omega) (by omega)) q <| Ra (I_ (x1.2 + 1)) q q <| R0 <| J_go <| Jc [] [] [] (hE2 (v14, x1.2 + 1)) (.s2 q q (.cons (A := AObj 0) q (.obj q q q) (.same q .nil))) (.cons q q q q (.row (NKC.flat _ _)) q q .nil) q q
theorem k_ref24_created (t0 : api_Rule) (r : (List Int) × (List Int)) (hr : ref24_created t0 = some r) : FnP PP 72 [AAgg (c_api_Rule t0)] (ATup [AL 1 c_i64 r.1, AL 1 c_i64 r.2]) := by
  refine Fo (fun (r : (List Int) × (List Int)) => ATup [AL 1 c_i64 r.1, AL 1 c_i64 r.2]) Tryz.func72 q (n := 22) q q hr fun X hΨ => ?_
  refine Jq q <| r_boxV (AAgg (c_api_Rule t0)) q q <| Ra (ANil) q q <| Ra (ANil) q q <| R0 <| Js <| J_draw <| r_faT (c_api_Pattern t0.Right) fo_41_2 q q q <| r_faT (c_api_Graph t0.Right.Graph) fo_33_0 q q q ?_
  refine r_faT ((cL 1 c_i64) t0.Right.Graph.Nodes) fo_29_0 q q q <| r_ld (AL 1 c_i64 t0.Right.Graph.Nodes) sc_26 q q q <| r_len (cc := c_i64) il_26 q q <| r_faT (c_api_Morphism t0.Into) fo_41_4 q q q <| r_faT ((cL 1 c_i64) t0.Into.Nodes) fo_36_0 q q q <| r_ld (AL 1 c_i64 t0.Into.Nodes) sc_26 q q q <| R_bind fun b1 h2 => r_call _ fn_122 (k_ref24_rest _ _ _ h2) q q <| r_faT (c_api_Pattern t0.Right) fo_41_2 q q q <| r_faT (c_api_Graph t0.Right.Graph) fo_33_0 q q q ?_
  refine r_faT ((cL 3 c_api_Edge) t0.Right.Graph.Edges) fo_29_1 q q q <| r_ld (AL 3 c_api_Edge t0.Right.Graph.Edges) sc_27 q q q <| r_len (cc := c_api_Edge) il_27 q q <| r_faT (c_api_Morphism t0.Into) fo_41_4 q q q <| r_faT ((cL 1 c_i64) t0.Into.Edges) fo_36_1 q q q <| r_ld (AL 1 c_i64 t0.Into.Edges) sc_26 q q q <| R_bind fun b3 h4 => r_call _ fn_122 (k_ref24_rest _ _ _ h4) q q <| Ra (AL 1 c_i64 b1) q q <| Ra (AL 1 c_i64 b3) q q ?_
  exact R_nilD (by kernel_rfl) <| Jt hΨ (Res_many (As := [AL 1 c_i64 b1, AL 1 c_i64 b3]) q q (.cons (.tmp (A := AL 1 c_i64 b1) q) (.cons (.tmp (A := AL 1 c_i64 b3) q) .nil))) q q
theorem k_ref04_Below1_b (q_ref04_Below1 : api_Types → Int → Int → Option Bool) (hq_ref04_Below1 : ∀ (t0 : api_Types) (t1 : Int) (t2 : Int) (r : Bool), q_ref04_Below1 t0 t1 t2 = some r → FnP PP 143 [AAgg (c_api_Types t0), I_ t1, I_ t2] (ABool r)) (t0 : api_Types) (t1 : Int) (t2 : Int) (r : Bool) (hr : ref04_Below1_b q_ref04_Below1 t0 t1 t2 = some r) : FnP PP 143 [AAgg (c_api_Types t0), I_ t1, I_ t2] (ABool r) := by
  refine Fo (fun (r : Bool) => ABool r) Tryz.func143 q (n := 25) q q hr fun X hΨ => ?_
  refine Jq q <| r_boxV (AAgg (c_api_Types t0)) q q <| Ra (ABool false) q q <| R0 <| Js <| J_draw <| Rm (I_ t1) q q <| Rm (I_ t2) q q <| r_eql q q q ?_
  refine Rm (ABool (decide (t1 = t2))) q q <| R_if (fun h1 => ?_) (fun h1 => ?_)
  · refine Rk (g_fn q q (dt h1)) <| Rk (g_fn q q (dt h1)) <| Rk (g_fn q q (dt h1)) <| Rk (g_u q q) <| Rk (g_u q q) <| Rk (g_u q q) <| Rk (g_u q q) <| Rk (g_u q q) <| Rk (g_u q q) <| Rk (g_u q q) ?_
    exact Rk (g_u q q) <| Rk (g_u q q) <| Rk (g_fn q q (dt h1)) <| r_pickT (ABool true) q (dt h1) q q <| Ra (ABool true) q q <| R_nilD (by kernel_rfl) <| Jt hΨ (Res_one q) q q
  refine Rm (I_ t1) q (g_f q q (df h1)) <| r_geq q q (g_f q q (df h1)) <| Rm (ABool (decide (0 ≤ t1))) q (g_f q q (df h1)) <| R_if (fun h2 => ?_) (fun h2 => ?_)
  rotate_left
  · refine Rk (g_tn q q (df h2)) <| Rk (g_tn q q (df h2)) <| Rk (g_tn q q (df h2)) <| Rk (g_tn q q (df h2)) <| Rk (g_tn q q (df h2)) <| Rk (g_tn q q (df h2)) <| Rk (g_tn q q (df h2)) <| Rk (g_tn q q (df h2)) <| Rk (g_tn q q (df h2)) <| r_pickF (ABool false) q (df h2) q (g_f q q (df h1)) ?_
    exact r_pickF (ABool false) q (df h1) q q <| Ra (ABool false) q q <| R_nilD (by kernel_rfl) <| Jt hΨ (Res_one q) q q
  refine r_lda (c_api_Types t0) ag_25 q q q (g_t q q (dt h2)) <| r_faT ((cL 4 c_api_NodeType) t0.Nodes) fo_25_0 q q (g_t q q (dt h2)) <| r_ld (AL 4 c_api_NodeType t0.Nodes) sc_22 q q (g_t q q (dt h2)) <| Rm (I_ t1) q (g_t q q (dt h2)) <| R_if (fun h3 => ?_) (fun _ => R_none)
  refine r_ix (cc := c_api_NodeType) el_22 q q h3.1 h3.2 (g_t q q (dt h2)) <| r_faT (c_i64 ((nth t0.Nodes t1).Parent)) fo_97_1 q q (g_t q q (dt h2)) <| r_ld (I_ ((nth t0.Nodes t1).Parent)) sc_3 q q (g_t q q (dt h2)) <| Rm (I_ t2) q (g_t q q (dt h2)) <| R_bind fun b4 h5 => r_call _ fn_143 (hq_ref04_Below1 _ _ _ _ h5) q (g_t q q (dt h2)) <| r_pickT (ABool b4) q (dt h2) q (g_f q q (df h1)) <| r_pickF (ABool b4) q (df h1) q q <| Ra (ABool b4) q q <| R_nilD (by kernel_rfl) ?_
  exact Jt hΨ (Res_one q) q q
theorem ref04_Below1_n_ok : ∀ n, (∀ (t0 : api_Types) (t1 : Int) (t2 : Int) (r : Bool), (ref04_Below1_n n) t0 t1 t2 = some r → FnP PP 143 [AAgg (c_api_Types t0), I_ t1, I_ t2] (ABool r)) := by
  intro n
  induction n with
  | zero => exact (fun _ _ _ _ h => by cases h)
  | succ n ih => exact (fun a0 a1 a2 r h => k_ref04_Below1_b _ ih a0 a1 a2 r h)
theorem k_ref04_Below1 (t0 : api_Types) (t1 : Int) (t2 : Int) (r : Bool) (hr : ref04_Below1 t0 t1 t2 = some r) : FnP PP 143 [AAgg (c_api_Types t0), I_ t1, I_ t2] (ABool r) := by
  obtain ⟨n, hn⟩ := Ev_some hr
  exact (ref04_Below1_n_ok n) t0 t1 t2 r hn
theorem k_ref04_Fits (t0 : api_Types) (t1 : Int) (t2 : Int) (t3 : Int) (r : Bool) (hr : ref04_Fits t0 t1 t2 t3 = some r) : FnP PP 89 [AAgg (c_api_Types t0), I_ t1, I_ t2, I_ t3] (ABool r) := by
  refine Fo (fun (r : Bool) => ABool r) Tryz.func89 q (n := 43) q q hr fun X hΨ => ?_
  refine Jq q <| r_boxV (AAgg (c_api_Types t0)) q q <| Ra (ABool false) q q <| R0 <| Js <| Jq q <| r_lda (c_api_Types t0) ag_25 q q q q <| Rm (I_ t2) q q ?_
  refine Rm (I_ t3) q q <| R_bind fun b1 h2 => r_call _ fn_142 (k_ref04_given _ _ _ _ h2) q q <| r_neq q q q <| Rm (ABool (decide (¬ (b1 = 0)))) q q <| R_if (fun h3 => ?_) (fun h3 => ?_)
  · refine Rk (g_fn q q (dt h3)) <| Rk (g_fn q q (dt h3)) <| Rk (g_fn q q (dt h3)) <| Rk (g_fn q q (dt h3)) <| Rk (g_fn q q (dt h3)) <| Rk (g_fn q q (dt h3)) <| Rk (g_fn q q (dt h3)) <| r_pickT (ABool true) q (dt h3) q q <| R0 <| J_cond_T q q ?_
    exact Jq q <| Ra (ABool false) q q <| Rt hΨ q q q
  refine Rm (I_ t1) q (g_f q q (df h3)) <| r_faT ((cL 7 c_api_EdgeType) t0.Edges) fo_25_1 q q (g_f q q (df h3)) <| r_ld (AL 7 c_api_EdgeType t0.Edges) sc_23 q q (g_f q q (df h3)) <| r_len (cc := c_api_EdgeType) il_23 q (g_f q q (df h3)) <| R_bind fun b4 h5 => r_sub b4 q q (Option.some.inj h5) (g_f q q (df h3)) <| R_bind fun b6 h7 => r_call _ fn_108 (k_ref04_in _ _ _ _ h7) q (g_f q q (df h3)) <| r_not q (g_f q q (df h3)) <| r_pickF (ABool (!b6)) q (df h3) q q ?_
  refine R0 <| J_cond q (fun h8 => ?_) (fun h8 => ?_)
  · exact Jq q <| Ra (ABool false) q q <| Rt hΨ q q q
  refine J_skip <| Js <| J_draw <| r_lda (c_api_Types t0) ag_25 q q q q <| Rm (I_ t2) q q <| r_faT ((cL 7 c_api_EdgeType) t0.Edges) fo_25_1 q q q <| r_ld (AL 7 c_api_EdgeType t0.Edges) sc_23 q q q <| Rm (I_ t1) q q <| R_if (fun h9 => ?_) (fun _ => R_none)
  refine r_ix (cc := c_api_EdgeType) el_23 q q h9.1 h9.2 q <| r_faT (c_i64 ((nth t0.Edges t1).From)) fo_102_1 q q q <| r_ld (I_ ((nth t0.Edges t1).From)) sc_3 q q q <| R_bind fun b10 h11 => r_call _ fn_143 (k_ref04_Below1 _ _ _ _ h11) q q <| Rm (ABool b10) q q <| R_if (fun h12 => ?_) (fun h12 => ?_)
  rotate_left
  · refine Rk (g_tn q q (bf h12)) <| Rk (g_tn q q (bf h12)) <| Rk (g_tn q q (bf h12)) <| Rk (g_tn q q (bf h12)) <| Rk (g_tn q q (bf h12)) <| Rk (g_tn q q (bf h12)) <| Rk (g_tn q q (bf h12)) <| Rk (g_tn q q (bf h12)) <| Rk (g_tn q q (bf h12)) <| r_pickF (ABool false) q (bf h12) q q ?_
    exact Ra (ABool false) q q <| R_nilD (by kernel_rfl) <| Jt hΨ (Res_one q) q q
  refine r_lda (c_api_Types t0) ag_25 q q q (g_t q q h12) <| Rm (I_ t3) q (g_t q q h12) <| r_faT ((cL 7 c_api_EdgeType) t0.Edges) fo_25_1 q q (g_t q q h12) <| r_ld (AL 7 c_api_EdgeType t0.Edges) sc_23 q q (g_t q q h12) <| Rm (I_ t1) q (g_t q q h12) <| r_ix (cc := c_api_EdgeType) el_23 q q h9.1 h9.2 (g_t q q h12) <| r_faT (c_i64 ((nth t0.Edges t1).To)) fo_102_2 q q (g_t q q h12) <| r_ld (I_ ((nth t0.Edges t1).To)) sc_3 q q (g_t q q h12) <| R_bind fun b13 h14 => r_call _ fn_143 (k_ref04_Below1 _ _ _ _ h14) q (g_t q q h12) ?_
  exact r_pickT (ABool b13) q h12 q q <| Ra (ABool b13) q q <| R_nilD (by kernel_rfl) <| Jt hΨ (Res_one q) q q
theorem k_ref24_proper (t0 : api_Types) (t1 : api_Graph) (t2 : (List Int)) (t3 : (List Int)) (r : Bool) (hr : ref24_proper t0 t1 t2 t3 = some r) : FnP PP 73 [AAgg (c_api_Types t0), AAgg (c_api_Graph t1), AL 1 c_i64 t2, AL 1 c_i64 t3] (ABool r) := by
  refine Fo (fun (r : Bool) => ABool r) Tryz.func73 q (n := 62) q q hr fun X hΨ => ?_
  refine Jq q <| r_boxV (AAgg (c_api_Types t0)) q q <| r_boxV (AAgg (c_api_Graph t1)) q q <| Ra (ABool false) q q <| R0 <| Js <| Jq q <| Ra (I_ 0) q q ?_
  refine R0 <| J_block <| Jn (fun x1 => ⟨fr [(2, AL 1 c_i64 t2), (3, AL 1 c_i64 t3), (4, APtr (c_api_Types t0)), (5, APtr (c_api_Graph t1)), (9, I_ x1)], hp [], 0⟩) [] [] [] q (.s2 q q (.s3 q q q .nil)) .nil q q (fun E2 hE2 x1 => ?_)
  refine Js <| Jq q <| Rm (I_ x1) q q <| Rm (AL 1 c_i64 t2) q q <| r_len (cc := c_i64) il_26 q q <| r_lss q q q <| R0 <| J_cond_p q (fun h8 => ?_) (fun h8 => ?_)
  · refine J_skip <| Js <| J_block <| Js <| J_draw <| r_faT ((cL 4 c_api_NodeType) t0.Nodes) fo_25_0 q q q <| r_ld (AL 4 c_api_NodeType t0.Nodes) sc_22 q q q <| r_faT ((cL 1 c_i64) t1.Nodes) fo_29_0 q q q <| r_ld (AL 1 c_i64 t1.Nodes) sc_26 q q q <| Rm (AL 1 c_i64 t2) q q ?_
    refine Rm (I_ x1) q q <| R_if (fun h9 => ?_) (fun _ => R_none)
    refine r_ix (cc := c_i64) el_26 q q h9.1 h9.2 q <| r_ld (I_ (nth t2 x1)) sc_3 q q q <| R_if (fun h10 => ?_) (fun _ => R_none)
    refine r_ix (cc := c_i64) el_26 q q h10.1 h10.2 q <| r_ld (I_ (nth t1.Nodes (nth t2 x1))) sc_3 q q q <| R_if (fun h11 => ?_) (fun _ => R_none)
    refine r_ix (cc := c_api_NodeType) el_22 q q h11.1 h11.2 q <| r_faT (c_bool ((nth t0.Nodes (nth t1.Nodes (nth t2 x1))).Abstract)) fo_97_2 q q q <| r_ld (ABool ((nth t0.Nodes (nth t1.Nodes (nth t2 x1))).Abstract)) sc_4 q q q <| R_nilD (by kernel_rfl) <| J_cond q (fun h12 => ?_) (fun h12 => ?_)
    · exact Jq q <| Ra (ABool false) q q <| R0 <| J_outS <| Jt hΨ (Res_one q) q q
    exact J_skip <| J_inBlock <| J_range 14 (m := (t2.length : Int)) q fun q13 => J_range 9 (m := x1) q fun q14 => Jr q <| Rm (I_ x1) q q <| r_add (x1 + 1) q q (wrap_i64 (by omega) (by omega)) q <| Ra (I_ (x1 + 1)) q q <| R0 <| J_go <| Jc [] [] [] (hE2 (x1 + 1)) (.s2 q q (.s3 q q q .nil)) .nil q q
  refine J_exit q <| J_out <| Js <| Jq q <| Ra (I_ 0) q q <| R0 <| J_block <| Jn (fun x15 => ⟨fr [(3, AL 1 c_i64 t3), (4, APtr (c_api_Types t0)), (5, APtr (c_api_Graph t1)), (9, I_ x1), (10, I_ x15), (12, I_ x1), (14, I_ (t2.length : Int))], hp [], 0⟩) [] [] [] q (.same q (.s6 q q q q q q .nil)) .nil q q (fun E16 hE16 x15 => ?_)
  refine Js <| Jq q <| Rm (I_ x15) q q <| Rm (AL 1 c_i64 t3) q q <| r_len (cc := c_i64) il_26 q q <| r_lss q q q <| R0 <| J_cond_p q (fun h25 => ?_) (fun h25 => ?_)
  rotate_left
  · exact J_exit q <| J_outS <| Jq q <| Ra (ABool true) q q <| Rt hΨ q q q
  refine J_skip <| Js <| J_block <| Js <| J_draw <| r_faT ((cL 3 c_api_Edge) t1.Edges) fo_29_1 q q q <| r_ld (AL 3 c_api_Edge t1.Edges) sc_27 q q q <| Rm (AL 1 c_i64 t3) q q <| Rm (I_ x15) q q <| R_if (fun h26 => ?_) (fun _ => R_none)
  refine r_ix (cc := c_i64) el_26 q q h26.1 h26.2 q <| r_ld (I_ (nth t3 x15)) sc_3 q q q <| R_if (fun h27 => ?_) (fun _ => R_none)
  refine r_ix (cc := c_api_Edge) el_27 q q h27.1 h27.2 q <| r_lda (c_api_Edge (nth t1.Edges (nth t3 x15))) ag_77 q q q q <| r_alloc 0 _ z_77 q q <| r_stO (AObj 0) (AAgg (c_api_Edge (nth t1.Edges (nth t3 x15)))) (c_api_Edge (nth t1.Edges (nth t3 x15))) sz_77 q .obj q q q q q q <| R_nilD (by kernel_rfl) <| Js <| J_draw <| r_lda (c_api_Types t0) ag_25 q q q q <| r_faO (AObj 0) 0 fo_77_0 q .obj q q q <| r_ldO (ABoxAt 0 0) (I_ ((nth t1.Edges (nth t3 x15)).Type_)) sc_3 q .at q q q ?_
  refine r_faT ((cL 1 c_i64) t1.Nodes) fo_29_0 q q q <| r_ld (AL 1 c_i64 t1.Nodes) sc_26 q q q <| r_faO (AObj 0) 1 fo_77_1 q .obj q q q <| r_ldO (ABoxAt 0 1) (I_ ((nth t1.Edges (nth t3 x15)).From)) sc_3 q .at q q q <| R_if (fun h28 => ?_) (fun _ => R_none)
  refine r_ix (cc := c_i64) el_26 q q h28.1 h28.2 q <| r_ld (I_ (nth t1.Nodes ((nth t1.Edges (nth t3 x15)).From))) sc_3 q q q <| r_faT ((cL 1 c_i64) t1.Nodes) fo_29_0 q q q <| r_ld (AL 1 c_i64 t1.Nodes) sc_26 q q q <| r_faO (AObj 0) 2 fo_77_2 q .obj q q q <| r_ldO (ABoxAt 0 2) (I_ ((nth t1.Edges (nth t3 x15)).To)) sc_3 q .at q q q <| R_if (fun h29 => ?_) (fun _ => R_none)
  refine r_ix (cc := c_i64) el_26 q q h29.1 h29.2 q <| r_ld (I_ (nth t1.Nodes ((nth t1.Edges (nth t3 x15)).To))) sc_3 q q q <| R_bind fun b30 h31 => r_call _ fn_89 (k_ref04_Fits _ _ _ _ _ h31) q q <| r_not q q <| R_nilD (by kernel_rfl) <| J_cond q (fun h32 => ?_) (fun h32 => ?_)
  · exact Jq q <| Ra (ABool false) q q <| R0 <| J_outS <| Jt hΨ (Res_one q) q q
  exact J_skip <| J_inBlock <| J_range 33 (m := (t3.length : Int)) q fun q33 => J_range 10 (m := x15) q fun q34 => Jr q <| Rm (I_ x15) q q <| r_add (x15 + 1) q q (wrap_i64 (by omega) (by omega)) q <| Ra (I_ (x15 + 1)) q q <| R0 <| J_go <| Jc [] [] [] (hE16 (x15 + 1)) (.same q (.s6 q q q q q q .nil)) .nil q q
theorem k_ref22_unused (t0 : api_Condition) (r : Bool) (hr : ref22_unused t0 = some r) : FnP PP 236 [AAgg (c_api_Condition t0)] (ABool r) := by
  refine Fo (fun (r : Bool) => ABool r) Tryz.func236 q (n := 45) q q hr fun X hΨ => ?_
  refine Jq q <| r_boxV (AAgg (c_api_Condition t0)) q q <| Ra (ABool false) q q <| R0 <| Jq q <| r_faT (c_api_Morphism t0.Map) fo_39_2 q q q <| r_faT ((cL 1 c_i64) t0.Map.Nodes) fo_36_0 q q q <| r_ld (AL 1 c_i64 t0.Map.Nodes) sc_26 q q q ?_
  refine r_len (cc := c_i64) il_26 q q <| r_faT (c_api_Morphism t0.Map) fo_39_2 q q q <| r_faT ((cL 1 c_i64) t0.Map.Edges) fo_36_1 q q q <| r_ld (AL 1 c_i64 t0.Map.Edges) sc_26 q q q <| r_len (cc := c_i64) il_26 q q <| R_bind fun b1 h2 => r_add b1 q q (Option.some.inj h2) q <| r_faT (c_api_Pattern t0.Pattern) fo_39_3 q q q <| r_faT (c_api_Graph t0.Pattern.Graph) fo_33_0 q q q <| r_faT ((cL 1 c_i64) t0.Pattern.Graph.Nodes) fo_29_0 q q q ?_
  refine r_ld (AL 1 c_i64 t0.Pattern.Graph.Nodes) sc_26 q q q <| r_len (cc := c_i64) il_26 q q <| R_bind fun b3 h4 => r_add b3 q q (Option.some.inj h4) q <| r_faT (c_api_Pattern t0.Pattern) fo_39_3 q q q <| r_faT (c_api_Graph t0.Pattern.Graph) fo_33_0 q q q <| r_faT ((cL 3 c_api_Edge) t0.Pattern.Graph.Edges) fo_29_1 q q q <| r_ld (AL 3 c_api_Edge t0.Pattern.Graph.Edges) sc_27 q q q <| r_len (cc := c_api_Edge) il_27 q q <| R_bind fun b5 h6 => ?_
  refine r_add b5 q q (Option.some.inj h6) q <| r_eql q q q <| Ra (ABool (decide (b5 = 0))) q q <| R0 <| Jq q <| Rm (ABool (decide (b5 = 0))) q q <| Rm (ABool (decide (b5 = 0))) q q <| R_if (fun h7 => ?_) (fun h7 => ?_)
  rotate_left
  · refine Rk (g_tn q q (df h7)) <| Rk (g_tn q q (df h7)) <| Rk (g_tn q q (df h7)) <| Rk (g_tn q q (df h7)) <| Rk (g_tn q q (df h7)) <| Rk (g_tn q q (df h7)) <| Rk (g_tn q q (df h7)) <| Rk (g_tn q q (df h7)) <| Rk (g_tn q q (df h7)) <| Rk (g_tn q q (df h7)) ?_
    exact r_pickF (ABool false) q (df h7) q q <| Rm (ABool false) q q <| Rk (g_tn q q q) <| Rk (g_tn q q q) <| Rk (g_tn q q q) <| Rk (g_tn q q q) <| r_pickF (ABool false) q q q q <| Ra (ABool false) q q <| Rt hΨ q q q
  refine r_faT (c_api_Pattern t0.Pattern) fo_39_3 q q (g_t q q (dt h7)) <| r_faT ((cL 4 c_api_Slot) t0.Pattern.Slots) fo_33_1 q q (g_t q q (dt h7)) <| r_ld (AL 4 c_api_Slot t0.Pattern.Slots) sc_30 q q (g_t q q (dt h7)) <| r_len (cc := c_api_Slot) il_30 q (g_t q q (dt h7)) <| r_faT (c_api_Pattern t0.Pattern) fo_39_3 q q (g_t q q (dt h7)) <| r_faT ((cL 5 c_api_Test) t0.Pattern.Tests) fo_33_3 q q (g_t q q (dt h7)) <| r_ld (AL 5 c_api_Test t0.Pattern.Tests) sc_31 q q (g_t q q (dt h7)) <| r_len (cc := c_api_Test) il_31 q (g_t q q (dt h7)) <| R_bind fun b8 h9 => r_add b8 q q (Option.some.inj h9) (g_t q q (dt h7)) ?_
  refine r_eql q q (g_t q q (dt h7)) <| r_pickT (ABool (decide (b8 = 0))) q (dt h7) q q <| Rm (ABool (decide (b8 = 0))) q q <| R_if (fun h10 => ?_) (fun h10 => ?_)
  · exact r_faT (c_api_Pattern t0.Pattern) fo_39_3 q q (g_t q q (dt h10)) <| r_faT (c_i64 t0.Pattern.Vars) fo_33_2 q q (g_t q q (dt h10)) <| r_ld (I_ t0.Pattern.Vars) sc_3 q q (g_t q q (dt h10)) <| r_eql q q (g_t q q (dt h10)) <| r_pickT (ABool (decide (t0.Pattern.Vars = 0))) q (dt h10) q q <| Ra (ABool (decide (t0.Pattern.Vars = 0))) q q <| Rt hΨ q q q
  exact Rk (g_tn q q (df h10)) <| Rk (g_tn q q (df h10)) <| Rk (g_tn q q (df h10)) <| Rk (g_tn q q (df h10)) <| r_pickF (ABool false) q (df h10) q q <| Ra (ABool false) q q <| Rt hΨ q q q
theorem k_ref22_right (t0 : api_Condition) (r : Bool) (hr : ref22_right t0 = some r) : FnP PP 209 [AAgg (c_api_Condition t0)] (ABool r) := by
  refine Fo (fun (r : Bool) => ABool r) Tryz.func209 q (n := 42) q q hr fun X hΨ => ?_
  refine Jq q <| r_boxV (AAgg (c_api_Condition t0)) q q <| Ra (ABool false) q q <| R0 <| Js <| Jq q <| r_faT (c_i64 t0.Kind) fo_39_0 q q q <| r_ld (I_ t0.Kind) sc_3 q q q ?_
  refine R0 <| J_block <| Jq q <| r_eql q q q <| Ra (ABool (decide (t0.Kind = 1))) q q <| R0 <| J_cond_p q (fun h1 => ?_) (fun h1 => ?_)
  · refine Jq q <| r_faT (k_api_Condition t0.Kids) fo_39_1 q q q <| r_ld (AL 9 c_api_Condition t0.Kids) sc_37 q (kid_api_Condition _) q <| r_len (cc := c_api_Condition) il_37 q q <| r_eql q q q <| Rm (ABool (decide ((t0.Kids.length : Int) = 0))) q q <| R_if (fun h2 => ?_) (fun h2 => ?_)
    rotate_left
    · exact Rk (g_tn q q (df h2)) <| Rk (g_tn q q (df h2)) <| r_pickF (ABool false) q (df h2) q q <| Ra (ABool false) q q <| Rt hΨ q q q
    exact r_lda (c_api_Condition t0) ag_39 q q q (g_t q q (dt h2)) <| R_bind fun b3 h4 => r_call _ fn_236 (k_ref22_unused _ _ h4) q (g_t q q (dt h2)) <| r_pickT (ABool b3) q (dt h2) q q <| Ra (ABool b3) q q <| Rt hΨ q q q
  refine Jq q <| r_eql q q q <| Ra (ABool (decide (t0.Kind = 2))) q q <| R0 <| J_cond_p q (fun h5 => ?_) (fun h5 => ?_)
  · refine Jq q <| r_faT (k_api_Condition t0.Kids) fo_39_1 q q q <| r_ld (AL 9 c_api_Condition t0.Kids) sc_37 q (kid_api_Condition _) q <| r_len (cc := c_api_Condition) il_37 q q <| r_eql q q q <| Rm (ABool (decide ((t0.Kids.length : Int) = 1))) q q <| R_if (fun h6 => ?_) (fun h6 => ?_)
    rotate_left
    · exact Rk (g_tn q q (df h6)) <| Rk (g_tn q q (df h6)) <| r_pickF (ABool false) q (df h6) q q <| Ra (ABool false) q q <| Rt hΨ q q q
    exact r_lda (c_api_Condition t0) ag_39 q q q (g_t q q (dt h6)) <| R_bind fun b7 h8 => r_call _ fn_236 (k_ref22_unused _ _ h8) q (g_t q q (dt h6)) <| r_pickT (ABool b7) q (dt h6) q q <| Ra (ABool b7) q q <| Rt hΨ q q q
  refine Js <| Jq q <| r_eql q q q <| Ra (ABool (decide (t0.Kind = 3))) q q <| R0 ?_
  apply J_joinA (fun v13 => ⟨fr [(1, APtr (c_api_Condition t0)), (4, I_ t0.Kind), (25, ABool v13)], fun _ => none, 0⟩) (fun v13 => ref22_right_j13 t0 v13)
  · intro K19
    refine J_cond_p q (fun h9 => ?_) (fun h9 => ?_)
    · exact J_skip <| Jk (K19 (decide (t0.Kind = 3))) (.c3 q q q .nil)
    exact Jr q <| r_eql q q q <| Ra (ABool (decide (t0.Kind = 4))) q q <| R0 <| Jk (K19 (decide (t0.Kind = 4))) (.c3 q q q .nil)
  intro v13
  refine J_cond q (fun h14 => ?_) (fun h14 => ?_)
  · refine Jq q <| r_faT (k_api_Condition t0.Kids) fo_39_1 q q q <| r_ld (AL 9 c_api_Condition t0.Kids) sc_37 q (kid_api_Condition _) q <| r_len (cc := c_api_Condition) il_37 q q <| r_gtr q q q <| Rm (ABool (decide (0 < (t0.Kids.length : Int)))) q q <| R_if (fun h15 => ?_) (fun h15 => ?_)
    rotate_left
    · exact Rk (g_tn q q (df h15)) <| Rk (g_tn q q (df h15)) <| r_pickF (ABool false) q (df h15) q q <| Ra (ABool false) q q <| Rt hΨ q q q
    exact r_lda (c_api_Condition t0) ag_39 q q q (g_t q q (dt h15)) <| R_bind fun b16 h17 => r_call _ fn_236 (k_ref22_unused _ _ h17) q (g_t q q (dt h15)) <| r_pickT (ABool b16) q (dt h15) q q <| Ra (ABool b16) q q <| Rt hΨ q q q
  refine Jq q <| r_eql q q q <| Ra (ABool (decide (t0.Kind = 5))) q q <| R0 <| J_cond_p q (fun h18 => ?_) (fun h18 => ?_)
  rotate_left
  · exact J_skip <| J_inBlock <| Jq q <| Ra (ABool false) q q <| Rt hΨ q q q
  exact Jq q <| r_faT (k_api_Condition t0.Kids) fo_39_1 q q q <| r_ld (AL 9 c_api_Condition t0.Kids) sc_37 q (kid_api_Condition _) q <| r_len (cc := c_api_Condition) il_37 q q <| r_eql q q q <| Ra (ABool (decide ((t0.Kids.length : Int) = 1))) q q <| Rt hΨ q q q
theorem k_ref22_allRight_b (q_ref22_allRight : api_Condition → Option Bool) (hq_ref22_allRight : ∀ (t0 : api_Condition) (r : Bool), q_ref22_allRight t0 = some r → FnP PP 168 [AAgg (c_api_Condition t0)] (ABool r)) (t0 : api_Condition) (r : Bool) (hr : ref22_allRight_b q_ref22_allRight t0 = some r) : FnP PP 168 [AAgg (c_api_Condition t0)] (ABool r) := by
  refine Fo (fun (r : Bool) => ABool r) Tryz.func168 q (n := 21) q q hr fun X hΨ => ?_
  refine Jq q <| r_boxV (AAgg (c_api_Condition t0)) q q <| Ra (ABool false) q q <| R0 <| Js <| Jq q <| r_lda (c_api_Condition t0) ag_39 q q q q <| R_bind fun b1 h2 => ?_
  refine r_call _ fn_209 (k_ref22_right _ _ h2) q q <| r_not q q <| R0 <| J_cond q (fun h3 => ?_) (fun h3 => ?_)
  · exact Jq q <| Ra (ABool false) q q <| Rt hΨ q q q
  refine J_skip <| Js <| Jq q <| Ra (I_ 0) q q <| R0 <| J_block <| Jl (fun x4 => [(1, APtr (c_api_Condition t0)), (3, I_ x4)]) (.c2 q q .nil) (fun E5 hE5 x4 => ?_)
  refine Js <| Jq q <| Rm (I_ x4) q q <| r_faT (k_api_Condition t0.Kids) fo_39_1 q q q <| r_ld (AL 9 c_api_Condition t0.Kids) sc_37 q (kid_api_Condition _) q <| r_len (cc := c_api_Condition) il_37 q q <| r_lss q q q <| R0 <| J_cond_p q (fun h11 => ?_) (fun h11 => ?_)
  rotate_left
  · exact J_exit q <| J_outS <| Jq q <| Ra (ABool true) q q <| Rt hΨ q q q
  refine J_skip <| Js <| J_block <| Jq q <| r_faT (k_api_Condition t0.Kids) fo_39_1 q q q <| r_ld (AL 9 c_api_Condition t0.Kids) sc_37 q (kid_api_Condition _) q <| Rm (I_ x4) q q <| R_if (fun h12 => ?_) (fun _ => R_none)
  refine r_ix (cc := c_api_Condition) el_37 q q h12.1 h12.2 q <| r_lda (c_api_Condition (nth t0.Kids x4)) ag_39 q q q q <| R_bind fun b13 h14 => r_call _ fn_168 (hq_ref22_allRight _ _ h14) q q <| r_not q q <| R0 <| J_cond q (fun h15 => ?_) (fun h15 => ?_)
  · exact Jq q <| Ra (ABool false) q q <| R0 <| J_outS <| Jt hΨ (Res_one q) q q
  exact J_skip <| J_inBlock <| J_range 10 (m := (t0.Kids.length : Int)) q fun q16 => J_range 3 (m := x4) q fun q17 => Jr q <| Rm (I_ x4) q q <| r_add (x4 + 1) q q (wrap_i64 (by omega) (by omega)) q <| Ra (I_ (x4 + 1)) q q <| R0 <| J_go <| Jk (hE5 (x4 + 1)) (.c2 q q .nil)
theorem ref22_allRight_n_ok : ∀ n, (∀ (t0 : api_Condition) (r : Bool), (ref22_allRight_n n) t0 = some r → FnP PP 168 [AAgg (c_api_Condition t0)] (ABool r)) := by
  intro n
  induction n with
  | zero => exact (fun _ _ h => by cases h)
  | succ n ih => exact (fun a0 r h => k_ref22_allRight_b _ ih a0 r h)
theorem k_ref22_allRight (t0 : api_Condition) (r : Bool) (hr : ref22_allRight t0 = some r) : FnP PP 168 [AAgg (c_api_Condition t0)] (ABool r) := by
  obtain ⟨n, hn⟩ := Ev_some hr
  exact (ref22_allRight_n_ok n) t0 r hn
theorem k_ref22_Measure_b (q_ref22_Measure : api_Condition → Option (Int × Int)) (hq_ref22_Measure : ∀ (t0 : api_Condition) (r : Int × Int), q_ref22_Measure t0 = some r → FnP PP 169 [AAgg (c_api_Condition t0)] (ATup [I_ r.1, I_ r.2])) (t0 : api_Condition) (r : Int × Int) (hr : ref22_Measure_b q_ref22_Measure t0 = some r) : FnP PP 169 [AAgg (c_api_Condition t0)] (ATup [I_ r.1, I_ r.2]) := by
  refine Fo (fun (r : Int × Int) => ATup [I_ r.1, I_ r.2]) Tryz.func169 q (n := 38) q q hr fun X hΨ => ?_
  refine Jq q <| r_boxV (AAgg (c_api_Condition t0)) q q <| Ra (I_ 0) q q <| Ra (I_ 0) q q <| R0 <| Jq q <| Ra (I_ 1) q q <| Ra (I_ 0) q q ?_
  refine R0 <| Js <| Jq q <| Ra (I_ 0) q q <| R0 <| J_block <| Jl (fun x1 => [(1, APtr (c_api_Condition t0)), (4, I_ x1.1), (5, I_ x1.2.1), (6, I_ x1.2.2)]) (.cons q (.c3 q q q .nil)) (fun E2 hE2 x1 => ?_)
  refine Js <| Jq q <| Rm (I_ x1.2.2) q q <| r_faT (k_api_Condition t0.Kids) fo_39_1 q q q <| r_ld (AL 9 c_api_Condition t0.Kids) sc_37 q (kid_api_Condition _) q <| r_len (cc := c_api_Condition) il_37 q q <| r_lss q q q <| R0 <| J_cond_p q (fun h9 => ?_) (fun h9 => ?_)
  rotate_left
  · refine J_exit q <| J_out <| Js <| Jq q <| r_faT (c_i64 t0.Kind) fo_39_0 q q q <| r_ld (I_ t0.Kind) sc_3 q q q <| r_eql q q q <| R0 ?_
    apply J_joinA (fun v20 => ⟨fr [(4, I_ x1.1), (5, I_ v20), (6, I_ x1.2.2), (9, I_ x1.2.2), (12, I_ (t0.Kids.length : Int)), (32, I_ t0.Kind)], fun _ => none, 0⟩) (fun v20 => ref22_Measure_j20 x1 v20)
    · intro K21
      refine J_cond_p q (fun h17 => ?_) (fun h17 => ?_)
      rotate_left
      · exact J_skip <| Jk (K21 x1.2.1) (.c6 q q q q q q .nil)
      exact Jr q <| Rm (I_ x1.2.1) q q <| R_bind fun b18 h19 => r_add b18 q q (Option.some.inj h19) q <| Ra (I_ b18) q q <| R0 <| Jk (K21 b18) (.c6 q q q q q q .nil)
    intro v20
    exact Jq q <| Rm (I_ x1.1) q q <| Rm (I_ v20) q q <| Ra (I_ x1.1) q q <| Ra (I_ v20) q q <| R0 <| Jt hΨ (Res_many (As := [I_ x1.1, I_ v20]) q q (.cons (.tmp (A := I_ x1.1) q) (.cons (.tmp (A := I_ v20) q) .nil))) q q
  refine J_skip <| Js <| J_block <| Jq q <| r_faT (k_api_Condition t0.Kids) fo_39_1 q q q <| r_ld (AL 9 c_api_Condition t0.Kids) sc_37 q (kid_api_Condition _) q <| Rm (I_ x1.2.2) q q <| R_if (fun h10 => ?_) (fun _ => R_none)
  refine r_ix (cc := c_api_Condition) el_37 q q h10.1 h10.2 q <| r_lda (c_api_Condition (nth t0.Kids x1.2.2)) ag_39 q q q q <| R_bind fun b11 h12 => r_call _ fn_169 (hq_ref22_Measure _ _ h12) q q <| Rm (ATup [I_ b11.1, I_ b11.2]) q q <| r_ext (I_ b11.1) q q q <| r_ext (I_ b11.2) q q q <| Ra (I_ b11.1) q q <| Ra (I_ b11.2) q q <| R0 ?_
  refine Jr q <| Rm (I_ x1.1) q q <| Rm (I_ b11.1) q q <| R_bind fun b13 h14 => r_add b13 q q (Option.some.inj h14) q <| Rm (I_ x1.2.1) q q <| Rm (I_ b11.2) q q <| r_max q q q <| Ra (I_ b13) q q <| Ra (I_ (if x1.2.1 < b11.2 then b11.2 else x1.2.1)) q q ?_
  exact R0 <| J_inBlock <| J_range 12 (m := (t0.Kids.length : Int)) q fun q15 => J_range 6 (m := x1.2.2) q fun q16 => Jr q <| Rm (I_ x1.2.2) q q <| r_add (x1.2.2 + 1) q q (wrap_i64 (by omega) (by omega)) q <| Ra (I_ (x1.2.2 + 1)) q q <| R0 <| J_go <| Jk (hE2 (b13, (if x1.2.1 < b11.2 then b11.2 else x1.2.1), x1.2.2 + 1)) (.cons q (.c3 q q q .nil))
theorem ref22_Measure_n_ok : ∀ n, (∀ (t0 : api_Condition) (r : Int × Int), (ref22_Measure_n n) t0 = some r → FnP PP 169 [AAgg (c_api_Condition t0)] (ATup [I_ r.1, I_ r.2])) := by
  intro n
  induction n with
  | zero => exact (fun _ _ h => by cases h)
  | succ n ih => exact (fun a0 r h => k_ref22_Measure_b _ ih a0 r h)
theorem k_ref22_Measure (t0 : api_Condition) (r : Int × Int) (hr : ref22_Measure t0 = some r) : FnP PP 169 [AAgg (c_api_Condition t0)] (ATup [I_ r.1, I_ r.2]) := by
  obtain ⟨n, hn⟩ := Ev_some hr
  exact (ref22_Measure_n_ok n) t0 r hn
theorem k_ref22_Shape (t0 : api_Condition) (r : Int) (hr : ref22_Shape t0 = some r) : FnP PP 123 [AAgg (c_api_Condition t0)] (I_ r) := by
  refine Fo (fun (r : Int) => I_ r) Tryz.func123 q (n := 19) q q hr fun X hΨ => ?_
  refine Jq q <| r_boxV (AAgg (c_api_Condition t0)) q q <| Ra (I_ 0) q q <| R0 <| Js <| Jq q <| r_lda (c_api_Condition t0) ag_39 q q q q <| R_bind fun b1 h2 => ?_
  refine r_call _ fn_168 (k_ref22_allRight _ _ h2) q q <| r_not q q <| R0 <| J_cond q (fun h3 => ?_) (fun h3 => ?_)
  · exact Jq q <| Ra (I_ 1) q q <| Rt hΨ q q q
  refine J_skip <| Js <| Jq q <| r_lda (c_api_Condition t0) ag_39 q q q q <| R_bind fun b4 h5 => r_call _ fn_169 (k_ref22_Measure _ _ h5) q q <| Rm (ATup [I_ b4.1, I_ b4.2]) q q <| r_ext (I_ b4.1) q q q <| r_ext (I_ b4.2) q q q ?_
  refine Ra (I_ b4.1) q q <| Ra (I_ b4.2) q q <| R0 <| Jq q <| Rm (I_ b4.1) q q <| r_gtr q q q <| Rm (ABool (decide (12 < b4.1))) q q <| R_if (fun h6 => ?_) (fun h6 => ?_)
  · exact Rk (g_fn q q (dt h6)) <| Rk (g_fn q q (dt h6)) <| r_pickT (ABool true) q (dt h6) q q <| R0 <| J_cond_T q q <| Jq q <| Ra (I_ 3) q q <| Rt hΨ q q q
  refine Rm (I_ b4.2) q (g_f q q (df h6)) <| r_gtr q q (g_f q q (df h6)) <| r_pickF (ABool (decide (3 < b4.2))) q (df h6) q q <| R0 <| J_cond_p q (fun h7 => ?_) (fun h7 => ?_)
  · exact Jq q <| Ra (I_ 3) q q <| Rt hΨ q q q
  exact J_skip <| Jq q <| Ra (I_ 0) q q <| Rt hΨ q q q
theorem k_ref22_occurs (t0 : api_Pattern) (t1 : Int) (r : Bool) (hr : ref22_occurs t0 t1 = some r) : FnP PP 210 [AAgg (c_api_Pattern t0), I_ t1] (ABool r) := by
  refine Fo (fun (r : Bool) => ABool r) Tryz.func210 q (n := 22) q q hr fun X hΨ => ?_
  refine Jq q <| r_boxV (AAgg (c_api_Pattern t0)) q q <| Ra (ABool false) q q <| R0 <| Js <| Jq q <| Ra (I_ 0) q q <| R0 ?_
  refine J_block <| Jl (fun x1 => [(1, I_ t1), (2, APtr (c_api_Pattern t0)), (5, I_ x1)]) (.c3 q q q .nil) (fun E2 hE2 x1 => ?_)
  refine Js <| Jq q <| Rm (I_ x1) q q <| r_faT ((cL 4 c_api_Slot) t0.Slots) fo_33_1 q q q <| r_ld (AL 4 c_api_Slot t0.Slots) sc_30 q q q <| r_len (cc := c_api_Slot) il_30 q q <| r_lss q q q <| R0 <| J_cond_p q (fun h6 => ?_) (fun h6 => ?_)
  rotate_left
  · exact J_exit q <| J_outS <| Jq q <| Ra (ABool false) q q <| Rt hΨ q q q
  refine J_skip <| Js <| J_block <| Jq q <| r_faT ((cL 4 c_api_Slot) t0.Slots) fo_33_1 q q q <| r_ld (AL 4 c_api_Slot t0.Slots) sc_30 q q q <| Rm (I_ x1) q q <| R_if (fun h7 => ?_) (fun _ => R_none)
  refine r_ix (cc := c_api_Slot) el_30 q q h7.1 h7.2 q <| r_faT (c_api_Term ((nth t0.Slots x1).Term)) fo_156_2 q q q <| r_faT (c_i64 (((nth t0.Slots x1).Term).Var)) fo_154_0 q q q <| r_ld (I_ (((nth t0.Slots x1).Term).Var)) sc_3 q q q <| Rm (I_ t1) q q <| r_eql q q q <| R0 <| J_cond_p q (fun h8 => ?_) (fun h8 => ?_)
  · exact Jq q <| Ra (ABool true) q q <| R0 <| J_outS <| Jt hΨ (Res_one q) q q
  exact J_skip <| J_inBlock <| J_range 9 (m := (t0.Slots.length : Int)) q fun q9 => J_range 5 (m := x1) q fun q10 => Jr q <| Rm (I_ x1) q q <| r_add (x1 + 1) q q (wrap_i64 (by omega) (by omega)) q <| Ra (I_ (x1 + 1)) q q <| R0 <| J_go <| Jk (hE2 (x1 + 1)) (.c3 q q q .nil)
theorem k_ref22_inner (t0 : api_Types) (t1 : Int) (t2 : api_Pattern) (r : Int) (hr : ref22_inner t0 t1 t2 = some r) : FnP PP 170 [AAgg (c_api_Types t0), I_ t1, AAgg (c_api_Pattern t2)] (I_ r) := by
  refine Fo (fun (r : Int) => I_ r) Tryz.func170 q (n := 31) q q hr fun X hΨ => ?_
  refine Jq q <| r_boxV (AAgg (c_api_Types t0)) q q <| r_boxV (AAgg (c_api_Pattern t2)) q q <| Ra (I_ 0) q q <| R0 <| Js <| Jq q <| r_faT (c_i64 t2.Vars) fo_33_2 q q q ?_
  refine r_ld (I_ t2.Vars) sc_3 q q q <| Rm (I_ t1) q q <| r_lss q q q <| R0 <| J_cond_p q (fun h1 => ?_) (fun h1 => ?_)
  · exact Jq q <| Ra (I_ 20) q q <| Rt hΨ q q q
  refine J_skip <| Jq q <| r_lda (c_api_Types t0) ag_25 q q q q <| r_lda (c_api_Pattern t2) ag_33 q q q q <| R_bind fun b2 h3 => r_call _ fn_68 (k_ref21_Valid _ _ _ h3) q q <| Ra (I_ b2) q q <| R0 <| Js ?_
  refine Jq q <| Rm (I_ b2) q q <| r_neq q q q <| R0 <| J_cond_p q (fun h4 => ?_) (fun h4 => ?_)
  · exact Jq q <| Rm (I_ b2) q q <| Ra (I_ b2) q q <| Rt hΨ q q q
  refine J_skip <| Js <| Jq q <| Rm (I_ t1) q q <| Ra (I_ t1) q q <| R0 <| J_block <| Jl (fun x5 => [(1, I_ t1), (5, APtr (c_api_Pattern t2)), (7, I_ b2), (8, I_ x5), (10, I_ t2.Vars), (11, I_ t1), (15, I_ b2), (16, I_ b2), (19, I_ t1)]) (.c3 q q q (.c6 q q q q q q .nil)) (fun E6 hE6 x5 => ?_)
  refine Js <| Jq q <| Rm (I_ x5) q q <| r_faT (c_i64 t2.Vars) fo_33_2 q q q <| r_ld (I_ t2.Vars) sc_3 q q q <| r_lss q q q <| R0 <| J_cond_p q (fun h13 => ?_) (fun h13 => ?_)
  rotate_left
  · exact J_exit q <| J_outS <| Jq q <| Ra (I_ 0) q q <| Rt hΨ q q q
  refine J_skip <| Js <| J_block <| Jq q <| r_lda (c_api_Pattern t2) ag_33 q q q q <| Rm (I_ x5) q q <| R_bind fun b14 h15 => r_call _ fn_210 (k_ref22_occurs _ _ _ h15) q q <| r_not q q ?_
  refine R0 <| J_cond q (fun h16 => ?_) (fun h16 => ?_)
  · exact Jq q <| Rm (I_ b2) q q <| Ra (I_ b2) q q <| R0 <| J_outS <| Jt hΨ (Res_one q) q q
  exact J_skip <| J_inBlock <| J_range 10 (m := t2.Vars) q fun q17 => J_range 8 (m := x5) q fun q18 => Jr q <| Rm (I_ x5) q q <| r_add (x5 + 1) q q (wrap_i64 (by omega) (by omega)) q <| Ra (I_ (x5 + 1)) q q <| R0 <| J_go <| Jk (hE6 (x5 + 1)) (.c3 q q q (.c6 q q q q q q .nil))
theorem k_ref06_Injective (t0 : api_Graph) (t1 : api_Graph) (t2 : api_Morphism) (r : Bool) (hr : ref06_Injective t0 t1 t2 = some r) : FnP PP 171 [AAgg (c_api_Graph t0), AAgg (c_api_Graph t1), AAgg (c_api_Morphism t2)] (ABool r) := by
  refine Fo (fun (r : Bool) => ABool r) Tryz.func171 q (n := 22) q q hr fun X hΨ => ?_
  refine Jq q <| r_boxV (AAgg (c_api_Graph t0)) q q <| r_boxV (AAgg (c_api_Graph t1)) q q <| r_boxV (AAgg (c_api_Morphism t2)) q q <| Ra (ABool false) q q <| R0 <| Jq q <| r_lda (c_api_Graph t0) ag_29 q q q q ?_
  refine r_lda (c_api_Graph t1) ag_29 q q q q <| r_lda (c_api_Morphism t2) ag_36 q q q q <| R_bind fun b1 h2 => r_call _ fn_121 (k_ref06_Valid _ _ _ _ h2) q q <| r_eql q q q <| Rm (ABool (decide (b1 = 0))) q q <| R_if (fun h3 => ?_) (fun h3 => ?_)
  rotate_left
  · refine Rk (g_tn q q (df h3)) <| Rk (g_tn q q (df h3)) <| Rk (g_tn q q (df h3)) <| r_pickF (ABool false) q (df h3) q q <| Rm (ABool false) q q <| Rk (g_tn q q q) <| Rk (g_tn q q q) <| Rk (g_tn q q q) <| r_pickF (ABool false) q q q q <| Ra (ABool false) q q ?_
    exact Rt hΨ q q q
  refine r_faT ((cL 1 c_i64) t2.Nodes) fo_36_0 q q (g_t q q (dt h3)) <| r_ld (AL 1 c_i64 t2.Nodes) sc_26 q q (g_t q q (dt h3)) <| R_bind fun b4 h5 => r_call _ fn_71 (k_ref06_Distinct _ _ h5) q (g_t q q (dt h3)) <| r_pickT (ABool b4) q (dt h3) q q <| Rm (ABool b4) q q <| R_if (fun h6 => ?_) (fun h6 => ?_)
  rotate_left
  · exact Rk (g_tn q q (bf h6)) <| Rk (g_tn q q (bf h6)) <| Rk (g_tn q q (bf h6)) <| r_pickF (ABool false) q (bf h6) q q <| Ra (ABool false) q q <| Rt hΨ q q q
  exact r_faT ((cL 1 c_i64) t2.Edges) fo_36_1 q q (g_t q q h6) <| r_ld (AL 1 c_i64 t2.Edges) sc_26 q q (g_t q q h6) <| R_bind fun b7 h8 => r_call _ fn_71 (k_ref06_Distinct _ _ h8) q (g_t q q h6) <| r_pickT (ABool b7) q h6 q q <| Ra (ABool b7) q q <| Rt hΨ q q q
theorem k_ref22_over_b (q_ref22_over : api_Types → api_Pattern → api_Condition → Option Int) (hq_ref22_over : ∀ (t0 : api_Types) (t1 : api_Pattern) (t2 : api_Condition) (r : Int), q_ref22_over t0 t1 t2 = some r → FnP PP 124 [AAgg (c_api_Types t0), AAgg (c_api_Pattern t1), AAgg (c_api_Condition t2)] (I_ r)) (t0 : api_Types) (t1 : api_Pattern) (t2 : api_Condition) (r : Int) (hr : ref22_over_b q_ref22_over t0 t1 t2 = some r) : FnP PP 124 [AAgg (c_api_Types t0), AAgg (c_api_Pattern t1), AAgg (c_api_Condition t2)] (I_ r) := by
  refine Fo (fun (r : Int) => I_ r) Tryz.func124 q (n := 65) q q hr fun X hΨ => ?_
  refine Jq q <| r_boxV (AAgg (c_api_Types t0)) q q <| r_boxV (AAgg (c_api_Pattern t1)) q q <| r_boxV (AAgg (c_api_Condition t2)) q q <| Ra (I_ 0) q q <| R0 <| Jq q <| r_lda (c_api_Pattern t1) ag_33 q q q q ?_
  refine r_alloc 0 _ z_33 q q <| r_stO (AObj 0) (AAgg (c_api_Pattern t1)) (c_api_Pattern t1) sz_33 q .obj q q q q q q <| R0 <| Js <| Jq q <| r_faT (c_i64 t2.Kind) fo_39_0 q q q <| r_ld (I_ t2.Kind) sc_3 q q q <| r_eql q q q <| R0 ?_
  apply J_joinA (fun v25 => ⟨fr [(3, APtr (c_api_Types t0)), (5, APtr (c_api_Condition t2)), (6, I_ 0), (7, AObj 0), (14, I_ t2.Kind)], hp [(0, .box 33 (c_api_Pattern v25))], 1⟩) (fun v25 => ref22_over_j25 q_ref22_over t0 t2 v25)
  · intro K40
    refine J_cond_p q (fun h1 => ?_) (fun h1 => ?_)
    rotate_left
    · exact J_skip <| Jc [] [] [] (K40 t1) (.s3 q q q (.cons (A := AObj 0) q (.obj q q q) (.same q .nil))) (.cons q q q q (.box (CvL.sames)) q q .nil) q q
    refine Js <| Jq q <| r_lda (c_api_Types t0) ag_25 q q q q <| r_faT (c_i64 t1.Vars) fo_33_2 q q q <| r_ld (I_ t1.Vars) sc_3 q q q <| r_faT (c_api_Pattern t2.Pattern) fo_39_3 q q q <| r_lda (c_api_Pattern t2.Pattern) ag_33 q q q q <| R_bind fun b2 h3 => r_call _ fn_170 (k_ref22_inner _ _ _ _ h3) q q ?_
    refine Ra (I_ b2) q q <| R0 <| Jq q <| Rm (I_ b2) q q <| r_neq q q q <| R0 <| J_cond_p q (fun h4 => ?_) (fun h4 => ?_)
    · exact Jq q <| Rm (I_ b2) q q <| Ra (I_ b2) q q <| Rt hΨ q q q
    refine J_skip <| Js <| Jq q <| r_faT (c_api_Graph t1.Graph) fo_33_0 q q q <| r_lda (c_api_Graph t1.Graph) ag_29 q q q q <| r_faT (c_api_Pattern t2.Pattern) fo_39_3 q q q <| r_faT (c_api_Graph t2.Pattern.Graph) fo_33_0 q q q <| r_lda (c_api_Graph t2.Pattern.Graph) ag_29 q q q q <| r_faT (c_api_Morphism t2.Map) fo_39_2 q q q ?_
    refine r_lda (c_api_Morphism t2.Map) ag_36 q q q q <| R_bind fun b5 h6 => r_call _ fn_121 (k_ref06_Valid _ _ _ _ h6) q q <| Ra (I_ b5) q q <| R0 <| Jq q <| Rm (I_ b5) q q <| r_neq q q q <| R0 ?_
    refine J_cond_p q (fun h7 => ?_) (fun h7 => ?_)
    · exact Jq q <| Rm (I_ b5) q q <| Ra (I_ b5) q q <| Rt hΨ q q q
    refine J_skip <| Js <| Jq q <| r_faT (c_api_Graph t1.Graph) fo_33_0 q q q <| r_lda (c_api_Graph t1.Graph) ag_29 q q q q <| r_faT (c_api_Pattern t2.Pattern) fo_39_3 q q q <| r_faT (c_api_Graph t2.Pattern.Graph) fo_33_0 q q q <| r_lda (c_api_Graph t2.Pattern.Graph) ag_29 q q q q <| r_faT (c_api_Morphism t2.Map) fo_39_2 q q q ?_
    refine r_lda (c_api_Morphism t2.Map) ag_36 q q q q <| R_bind fun b8 h9 => r_call _ fn_171 (k_ref06_Injective _ _ _ _ h9) q q <| r_not q q <| R0 <| J_cond q (fun h10 => ?_) (fun h10 => ?_)
    · exact Jq q <| Ra (I_ 1) q q <| Rt hΨ q q q
    exact J_skip <| Jr q <| r_faT (c_api_Pattern t2.Pattern) fo_39_3 q q q <| r_lda (c_api_Pattern t2.Pattern) ag_33 q q q q <| r_stO (AObj 0) (AAgg (c_api_Pattern t2.Pattern)) (c_api_Pattern t2.Pattern) sz_33 q .obj q q q q q q <| R0 <| Jc [] [] [] (K40 t2.Pattern) (.s3 q q q (.cons (A := AObj 0) q (.obj q q q) (.same q .nil))) (.cons q q q q (.box (CvL.sames)) q q .nil) q q
  intro v25
  refine Js <| Jq q <| Ra (I_ 0) q q <| R0 <| J_block <| Jn (fun x26 => ⟨fr [(3, APtr (c_api_Types t0)), (5, APtr (c_api_Condition t2)), (7, AObj 0), (10, I_ x26)], hp [(0, .box 33 (c_api_Pattern v25))], 1⟩) [] [] [] q (.s2 q q (.cons (A := AObj 0) q (.obj q q q) (.same q .nil))) (.cons q q q q (.box (CvL.sames)) q q .nil) q q (fun E27 hE27 x26 => ?_)
  refine Js <| Jq q <| Rm (I_ x26) q q <| r_faT (k_api_Condition t2.Kids) fo_39_1 q q q <| r_ld (AL 9 c_api_Condition t2.Kids) sc_37 q (kid_api_Condition _) q <| r_len (cc := c_api_Condition) il_37 q q <| r_lss q q q <| R0 <| J_cond_p q (fun h33 => ?_) (fun h33 => ?_)
  rotate_left
  · exact J_exit q <| J_outS <| Jq q <| Ra (I_ 0) q q <| Rt hΨ q q q
  refine J_skip <| Js <| J_block <| Js <| J_draw <| r_lda (c_api_Types t0) ag_25 q q q q <| r_ldaO (AObj 0) (c_api_Pattern v25) ag_33 q .obj q q q q <| r_faT (k_api_Condition t2.Kids) fo_39_1 q q q <| r_ld (AL 9 c_api_Condition t2.Kids) sc_37 q (kid_api_Condition _) q <| Rm (I_ x26) q q ?_
  refine R_if (fun h34 => ?_) (fun _ => R_none)
  refine r_ix (cc := c_api_Condition) el_37 q q h34.1 h34.2 q <| r_lda (c_api_Condition (nth t2.Kids x26)) ag_39 q q q q <| R_bind fun b35 h36 => r_call _ fn_124 (hq_ref22_over _ _ _ _ h36) q q <| Ra (I_ b35) q q <| R_nilD (by kernel_rfl) <| Jq q <| Rm (I_ b35) q q <| r_neq q q q ?_
  refine R0 <| J_cond_p q (fun h37 => ?_) (fun h37 => ?_)
  · exact Jq q <| Rm (I_ b35) q q <| Ra (I_ b35) q q <| R0 <| J_outS <| Jt hΨ (Res_one q) q q
  exact J_skip <| J_inBlock <| J_range 50 (m := (t2.Kids.length : Int)) q fun q38 => J_range 10 (m := x26) q fun q39 => Jr q <| Rm (I_ x26) q q <| r_add (x26 + 1) q q (wrap_i64 (by omega) (by omega)) q <| Ra (I_ (x26 + 1)) q q <| R0 <| J_go <| Jc [] [] [] (hE27 (x26 + 1)) (.s2 q q (.cons (A := AObj 0) q (.obj q q q) (.same q .nil))) (.cons q q q q (.box (CvL.sames)) q q .nil) q q
theorem ref22_over_n_ok : ∀ n, (∀ (t0 : api_Types) (t1 : api_Pattern) (t2 : api_Condition) (r : Int), (ref22_over_n n) t0 t1 t2 = some r → FnP PP 124 [AAgg (c_api_Types t0), AAgg (c_api_Pattern t1), AAgg (c_api_Condition t2)] (I_ r)) := by
  intro n
  induction n with
  | zero => exact (fun _ _ _ _ h => by cases h)
  | succ n ih => exact (fun a0 a1 a2 r h => k_ref22_over_b _ ih a0 a1 a2 r h)
theorem k_ref22_over (t0 : api_Types) (t1 : api_Pattern) (t2 : api_Condition) (r : Int) (hr : ref22_over t0 t1 t2 = some r) : FnP PP 124 [AAgg (c_api_Types t0), AAgg (c_api_Pattern t1), AAgg (c_api_Condition t2)] (I_ r) := by
  obtain ⟨n, hn⟩ := Ev_some hr
  exact (ref22_over_n_ok n) t0 t1 t2 r hn
theorem k_ref22_Valid (t0 : api_Types) (t1 : api_Pattern) (t2 : api_Condition) (r : Int) (hr : ref22_Valid t0 t1 t2 = some r) : FnP PP 74 [AAgg (c_api_Types t0), AAgg (c_api_Pattern t1), AAgg (c_api_Condition t2)] (I_ r) := by
  refine Fo (fun (r : Int) => I_ r) Tryz.func74 q (n := 24) q q hr fun X hΨ => ?_
  refine Jq q <| r_boxV (AAgg (c_api_Types t0)) q q <| r_boxV (AAgg (c_api_Pattern t1)) q q <| r_boxV (AAgg (c_api_Condition t2)) q q <| Ra (I_ 0) q q <| R0 <| Js <| Jq q ?_
  refine r_lda (c_api_Types t0) ag_25 q q q q <| r_lda (c_api_Pattern t1) ag_33 q q q q <| R_bind fun b1 h2 => r_call _ fn_68 (k_ref21_Valid _ _ _ h2) q q <| Ra (I_ b1) q q <| R0 <| Jq q <| Rm (I_ b1) q q <| r_neq q q q ?_
  refine R0 <| J_cond_p q (fun h3 => ?_) (fun h3 => ?_)
  · exact Jq q <| Rm (I_ b1) q q <| Ra (I_ b1) q q <| Rt hΨ q q q
  refine J_skip <| Js <| Jq q <| r_lda (c_api_Condition t2) ag_39 q q q q <| R_bind fun b4 h5 => r_call _ fn_123 (k_ref22_Shape _ _ h5) q q <| Ra (I_ b4) q q <| R0 <| Js ?_
  refine Jr q <| Rm (I_ b4) q q <| r_neq q q q <| R0 <| J_cond_p q (fun h6 => ?_) (fun h6 => ?_)
  · exact Jq q <| Rm (I_ b4) q q <| Ra (I_ b4) q q <| Rt hΨ q q q
  refine J_skip <| Jq q <| r_lda (c_api_Types t0) ag_25 q q q q <| r_lda (c_api_Pattern t1) ag_33 q q q q <| r_lda (c_api_Condition t2) ag_39 q q q q <| R_bind fun b7 h8 => r_call _ fn_124 (k_ref22_over _ _ _ _ h8) q q <| Ra (I_ b7) q q <| R0 ?_
  exact Jt hΨ (Res_one q) q q
theorem k_ref24_Valid (t0 : api_Types) (t1 : api_Rule) (r : Int) (hr : ref24_Valid t0 t1 = some r) : FnP PP 34 [AAgg (c_api_Types t0), AAgg (c_api_Rule t1)] (I_ r) := by
  refine Fo (fun (r : Int) => I_ r) Tryz.func34 q (n := 73) q q hr fun X hΨ => ?_
  refine Jq q <| r_boxV (AAgg (c_api_Types t0)) q q <| r_boxV (AAgg (c_api_Rule t1)) q q <| Ra (I_ 0) q q <| R0 <| Js <| Jq q <| r_lda (c_api_Types t0) ag_25 q q q q ?_
  refine R_bind fun b1 h2 => r_call _ fn_33 (k_ref04_Valid _ _ h2) q q <| Rm (ATup [AStr b1.1, I_ b1.2]) q q <| r_ext (AStr b1.1) q q q <| r_ext (I_ b1.2) q q q <| Ra (AStr b1.1) q q <| Ra (I_ b1.2) q q <| R0 <| Jq q ?_
  refine Rm (I_ b1.2) q q <| r_neq q q q <| R0 <| J_cond_p q (fun h3 => ?_) (fun h3 => ?_)
  · exact Jq q <| Rm (I_ b1.2) q q <| Ra (I_ b1.2) q q <| Rt hΨ q q q
  refine J_skip <| Js <| Jq q <| r_faT (c_str t1.Name) fo_41_0 q q q <| r_ld (AStr t1.Name) sc_9 q q q <| R_bind fun b4 h5 => r_call _ fn_67 (k_ref01_IsName _ _ h5) q q <| r_not q q <| R0 ?_
  refine J_cond q (fun h6 => ?_) (fun h6 => ?_)
  · exact Jq q <| Ra (I_ 2) q q <| Rt hΨ q q q
  refine J_skip <| Js <| Jq q <| r_lda (c_api_Types t0) ag_25 q q q q <| r_faT (c_api_Pattern t1.Left) fo_41_1 q q q <| r_lda (c_api_Pattern t1.Left) ag_33 q q q q <| R_bind fun b7 h8 => r_call _ fn_68 (k_ref21_Valid _ _ _ h8) q q <| Ra (I_ b7) q q ?_
  refine R0 <| Jq q <| Rm (I_ b7) q q <| r_neq q q q <| R0 <| J_cond_p q (fun h9 => ?_) (fun h9 => ?_)
  · exact Jq q <| Rm (I_ b7) q q <| Ra (I_ b7) q q <| Rt hΨ q q q
  refine J_skip <| Js <| Jq q <| r_lda (c_api_Types t0) ag_25 q q q q <| r_lda (c_api_Rule t1) ag_41 q q q q <| R_bind fun b10 h11 => r_call _ fn_69 (k_ref24_right _ _ _ h11) q q <| Ra (I_ b10) q q <| R0 ?_
  refine Jq q <| Rm (I_ b10) q q <| r_neq q q q <| R0 <| J_cond_p q (fun h12 => ?_) (fun h12 => ?_)
  · exact Jq q <| Rm (I_ b10) q q <| Ra (I_ b10) q q <| Rt hΨ q q q
  refine J_skip <| Js <| Jq q <| r_lda (c_api_Rule t1) ag_41 q q q q <| R_bind fun b13 h14 => r_call _ fn_70 (k_ref24_span _ _ h14) q q <| Ra (I_ b13) q q <| R0 <| Js ?_
  refine Jr q <| Rm (I_ b13) q q <| r_neq q q q <| R0 <| J_cond_p q (fun h15 => ?_) (fun h15 => ?_)
  · exact Jq q <| Rm (I_ b13) q q <| Ra (I_ b13) q q <| Rt hΨ q q q
  refine J_skip <| Js <| Jq q <| r_faT (c_api_Morphism t1.Into) fo_41_4 q q q <| r_faT ((cL 1 c_i64) t1.Into.Nodes) fo_36_0 q q q <| r_ld (AL 1 c_i64 t1.Into.Nodes) sc_26 q q q <| R_bind fun b16 h17 => r_call _ fn_71 (k_ref06_Distinct _ _ h17) q q <| r_not q q ?_
  refine Rm (ABool (!b16)) q q <| R_if (fun h18 => ?_) (fun h18 => ?_)
  · refine Rk (g_fn q q h18) <| Rk (g_fn q q h18) <| Rk (g_fn q q h18) <| Rk (g_fn q q h18) <| Rk (g_fn q q h18) <| r_pickT (ABool true) q h18 q q <| R0 <| J_cond_T q q <| Jq q ?_
    exact Ra (I_ 11) q q <| Rt hΨ q q q
  refine r_faT (c_api_Morphism t1.Into) fo_41_4 q q (g_f q q (bf h18)) <| r_faT ((cL 1 c_i64) t1.Into.Edges) fo_36_1 q q (g_f q q (bf h18)) <| r_ld (AL 1 c_i64 t1.Into.Edges) sc_26 q q (g_f q q (bf h18)) <| R_bind fun b19 h20 => r_call _ fn_71 (k_ref06_Distinct _ _ h20) q (g_f q q (bf h18)) <| r_not q (g_f q q (bf h18)) <| r_pickF (ABool (!b19)) q (bf h18) q q <| R0 <| J_cond q (fun h21 => ?_) (fun h21 => ?_)
  · exact Jq q <| Ra (I_ 11) q q <| Rt hΨ q q q
  refine J_skip <| Jq q <| r_lda (c_api_Rule t1) ag_41 q q q q <| R_bind fun b22 h23 => r_call _ fn_72 (k_ref24_created _ _ h23) q q <| Rm (ATup [AL 1 c_i64 b22.1, AL 1 c_i64 b22.2]) q q <| r_ext (AL 1 c_i64 b22.1) q q q <| r_ext (AL 1 c_i64 b22.2) q q q <| Ra (AL 1 c_i64 b22.1) q q ?_
  refine Ra (AL 1 c_i64 b22.2) q q <| R0 <| Js <| Jq q <| r_lda (c_api_Types t0) ag_25 q q q q <| r_faT (c_api_Pattern t1.Right) fo_41_2 q q q <| r_faT (c_api_Graph t1.Right.Graph) fo_33_0 q q q <| r_lda (c_api_Graph t1.Right.Graph) ag_29 q q q q <| Rm (AL 1 c_i64 b22.1) q q ?_
  refine Rm (AL 1 c_i64 b22.2) q q <| R_bind fun b24 h25 => r_call _ fn_73 (k_ref24_proper _ _ _ _ _ h25) q q <| r_not q q <| R0 <| J_cond q (fun h26 => ?_) (fun h26 => ?_)
  · exact Jq q <| Ra (I_ 13) q q <| Rt hΨ q q q
  refine J_skip <| Jq q <| r_lda (c_api_Types t0) ag_25 q q q q <| r_faT (c_api_Pattern t1.Left) fo_41_1 q q q <| r_lda (c_api_Pattern t1.Left) ag_33 q q q q <| r_faT (c_api_Condition t1.Condition) fo_41_6 q q q <| r_lda (c_api_Condition t1.Condition) ag_39 q q q q <| R_bind fun b27 h28 => r_call _ fn_74 (k_ref22_Valid _ _ _ _ h28) q q ?_
  exact Ra (I_ b27) q q <| Rt hΨ q q q
theorem k_ref24_deleted (t0 : api_Rule) (r : (List Int) × (List Int)) (hr : ref24_deleted t0 = some r) : FnP PP 75 [AAgg (c_api_Rule t0)] (ATup [AL 1 c_i64 r.1, AL 1 c_i64 r.2]) := by
  refine Fo (fun (r : (List Int) × (List Int)) => ATup [AL 1 c_i64 r.1, AL 1 c_i64 r.2]) Tryz.func75 q (n := 22) q q hr fun X hΨ => ?_
  refine Jq q <| r_boxV (AAgg (c_api_Rule t0)) q q <| Ra (ANil) q q <| Ra (ANil) q q <| R0 <| Js <| J_draw <| r_faT (c_api_Pattern t0.Left) fo_41_1 q q q <| r_faT (c_api_Graph t0.Left.Graph) fo_33_0 q q q ?_
  refine r_faT ((cL 1 c_i64) t0.Left.Graph.Nodes) fo_29_0 q q q <| r_ld (AL 1 c_i64 t0.Left.Graph.Nodes) sc_26 q q q <| r_len (cc := c_i64) il_26 q q <| r_faT (c_api_Part t0.Keep) fo_41_3 q q q <| r_faT ((cL 1 c_i64) t0.Keep.Nodes) fo_35_0 q q q <| r_ld (AL 1 c_i64 t0.Keep.Nodes) sc_26 q q q <| R_bind fun b1 h2 => r_call _ fn_122 (k_ref24_rest _ _ _ h2) q q <| r_faT (c_api_Pattern t0.Left) fo_41_1 q q q <| r_faT (c_api_Graph t0.Left.Graph) fo_33_0 q q q ?_
  refine r_faT ((cL 3 c_api_Edge) t0.Left.Graph.Edges) fo_29_1 q q q <| r_ld (AL 3 c_api_Edge t0.Left.Graph.Edges) sc_27 q q q <| r_len (cc := c_api_Edge) il_27 q q <| r_faT (c_api_Part t0.Keep) fo_41_3 q q q <| r_faT ((cL 1 c_i64) t0.Keep.Edges) fo_35_1 q q q <| r_ld (AL 1 c_i64 t0.Keep.Edges) sc_26 q q q <| R_bind fun b3 h4 => r_call _ fn_122 (k_ref24_rest _ _ _ h4) q q <| Ra (AL 1 c_i64 b1) q q <| Ra (AL 1 c_i64 b3) q q ?_
  exact R_nilD (by kernel_rfl) <| Jt hΨ (Res_many (As := [AL 1 c_i64 b1, AL 1 c_i64 b3]) q q (.cons (.tmp (A := AL 1 c_i64 b1) q) (.cons (.tmp (A := AL 1 c_i64 b3) q) .nil))) q q
theorem k_ref24_Deleted (t0 : api_Types) (t1 : api_Rule) (r : (List Int) × (List Int) × Int) (hr : ref24_Deleted t0 t1 = some r) : FnP PP 35 [AAgg (c_api_Types t0), AAgg (c_api_Rule t1)] (ATup [AL 1 c_i64 r.1, AL 1 c_i64 r.2.1, I_ r.2.2]) := by
  refine Fo (fun (r : (List Int) × (List Int) × Int) => ATup [AL 1 c_i64 r.1, AL 1 c_i64 r.2.1, I_ r.2.2]) Tryz.func35 q (n := 23) q q hr fun X hΨ => ?_
  refine Jq q <| r_boxV (AAgg (c_api_Types t0)) q q <| r_boxV (AAgg (c_api_Rule t1)) q q <| Ra (ANil) q q <| Ra (ANil) q q <| Ra (I_ 0) q q <| R0 <| Js <| Js ?_
  refine Jr q <| r_lda (c_api_Types t0) ag_25 q q q q <| r_lda (c_api_Rule t1) ag_41 q q q q <| R_bind fun b1 h2 => r_call _ fn_34 (k_ref24_Valid _ _ _ h2) q q <| Ra (I_ b1) q q <| R0 <| Jq q <| Rm (I_ b1) q q ?_
  refine r_neq q q q <| R0 <| J_cond_p q (fun h3 => ?_) (fun h3 => ?_)
  · exact Jq q <| Rm (I_ b1) q q <| Ra (ANil) q q <| Ra (ANil) q q <| Ra (I_ b1) q q <| R0 <| J_retF hΨ (Res_many (As := [ANil, ANil, I_ b1]) q q (.cons (.tmp (A := ANil) q) (.cons (.tmp (A := ANil) q) (.cons (.tmp (A := I_ b1) q) .nil)))) (fun y hy => by cases hy; exact (.tup (.cons .nil (.cons .nil (.cons .same .nil)))))
  refine J_skip <| Jq q <| r_lda (c_api_Rule t1) ag_41 q q q q <| R_bind fun b4 h5 => r_call _ fn_75 (k_ref24_deleted _ _ h5) q q <| Rm (ATup [AL 1 c_i64 b4.1, AL 1 c_i64 b4.2]) q q <| r_ext (AL 1 c_i64 b4.1) q q q <| r_ext (AL 1 c_i64 b4.2) q q q <| Ra (AL 1 c_i64 b4.1) q q ?_
  refine Ra (AL 1 c_i64 b4.2) q q <| R0 <| Jq q <| Rm (AL 1 c_i64 b4.1) q q <| Rm (AL 1 c_i64 b4.2) q q <| Ra (AL 1 c_i64 b4.1) q q <| Ra (AL 1 c_i64 b4.2) q q <| Ra (I_ 0) q q <| R0 ?_
  exact Jt hΨ (Res_many (As := [AL 1 c_i64 b4.1, AL 1 c_i64 b4.2, I_ 0]) q q (.cons (.tmp (A := AL 1 c_i64 b4.1) q) (.cons (.tmp (A := AL 1 c_i64 b4.2) q) (.cons (.tmp (A := I_ 0) q) .nil)))) q q
theorem k_ref39_leaf (t0 : api_Types) (t1 : Int) (r : Bool) (hr : ref39_leaf t0 t1 = some r) : FnP PP 36 [AAgg (c_api_Types t0), I_ t1] (ABool r) := by
  refine Fo (fun (r : Bool) => ABool r) Tryz.func36 q (n := 21) q q hr fun X hΨ => ?_
  refine Jq q <| r_boxV (AAgg (c_api_Types t0)) q q <| Ra (ABool false) q q <| R0 <| Js <| Jq q <| Ra (I_ 0) q q <| R0 ?_
  refine J_block <| Jl (fun x1 => [(1, I_ t1), (2, APtr (c_api_Types t0)), (5, I_ x1)]) (.c3 q q q .nil) (fun E2 hE2 x1 => ?_)
  refine Js <| Jq q <| Rm (I_ x1) q q <| r_faT ((cL 4 c_api_NodeType) t0.Nodes) fo_25_0 q q q <| r_ld (AL 4 c_api_NodeType t0.Nodes) sc_22 q q q <| r_len (cc := c_api_NodeType) il_22 q q <| r_lss q q q <| R0 <| J_cond_p q (fun h6 => ?_) (fun h6 => ?_)
  rotate_left
  · exact J_exit q <| J_outS <| Jq q <| Ra (ABool true) q q <| Rt hΨ q q q
  refine J_skip <| Js <| J_block <| Jq q <| r_faT ((cL 4 c_api_NodeType) t0.Nodes) fo_25_0 q q q <| r_ld (AL 4 c_api_NodeType t0.Nodes) sc_22 q q q <| Rm (I_ x1) q q <| R_if (fun h7 => ?_) (fun _ => R_none)
  refine r_ix (cc := c_api_NodeType) el_22 q q h7.1 h7.2 q <| r_faT (c_i64 ((nth t0.Nodes x1).Parent)) fo_97_1 q q q <| r_ld (I_ ((nth t0.Nodes x1).Parent)) sc_3 q q q <| Rm (I_ t1) q q <| r_eql q q q <| R0 <| J_cond_p q (fun h8 => ?_) (fun h8 => ?_)
  · exact Jq q <| Ra (ABool false) q q <| R0 <| J_outS <| Jt hΨ (Res_one q) q q
  exact J_skip <| J_inBlock <| J_range 9 (m := (t0.Nodes.length : Int)) q fun q9 => J_range 5 (m := x1) q fun q10 => Jr q <| Rm (I_ x1) q q <| r_add (x1 + 1) q q (wrap_i64 (by omega) (by omega)) q <| Ra (I_ (x1 + 1)) q q <| R0 <| J_go <| Jk (hE2 (x1 + 1)) (.c3 q q q .nil)
theorem k_ref24_Created (t0 : api_Types) (t1 : api_Rule) (r : (List Int) × (List Int) × Int) (hr : ref24_Created t0 t1 = some r) : FnP PP 37 [AAgg (c_api_Types t0), AAgg (c_api_Rule t1)] (ATup [AL 1 c_i64 r.1, AL 1 c_i64 r.2.1, I_ r.2.2]) := by
  refine Fo (fun (r : (List Int) × (List Int) × Int) => ATup [AL 1 c_i64 r.1, AL 1 c_i64 r.2.1, I_ r.2.2]) Tryz.func37 q (n := 23) q q hr fun X hΨ => ?_
  refine Jq q <| r_boxV (AAgg (c_api_Types t0)) q q <| r_boxV (AAgg (c_api_Rule t1)) q q <| Ra (ANil) q q <| Ra (ANil) q q <| Ra (I_ 0) q q <| R0 <| Js <| Js ?_
  refine Jr q <| r_lda (c_api_Types t0) ag_25 q q q q <| r_lda (c_api_Rule t1) ag_41 q q q q <| R_bind fun b1 h2 => r_call _ fn_34 (k_ref24_Valid _ _ _ h2) q q <| Ra (I_ b1) q q <| R0 <| Jq q <| Rm (I_ b1) q q ?_
  refine r_neq q q q <| R0 <| J_cond_p q (fun h3 => ?_) (fun h3 => ?_)
  · exact Jq q <| Rm (I_ b1) q q <| Ra (ANil) q q <| Ra (ANil) q q <| Ra (I_ b1) q q <| R0 <| J_retF hΨ (Res_many (As := [ANil, ANil, I_ b1]) q q (.cons (.tmp (A := ANil) q) (.cons (.tmp (A := ANil) q) (.cons (.tmp (A := I_ b1) q) .nil)))) (fun y hy => by cases hy; exact (.tup (.cons .nil (.cons .nil (.cons .same .nil)))))
  refine J_skip <| Jq q <| r_lda (c_api_Rule t1) ag_41 q q q q <| R_bind fun b4 h5 => r_call _ fn_72 (k_ref24_created _ _ h5) q q <| Rm (ATup [AL 1 c_i64 b4.1, AL 1 c_i64 b4.2]) q q <| r_ext (AL 1 c_i64 b4.1) q q q <| r_ext (AL 1 c_i64 b4.2) q q q <| Ra (AL 1 c_i64 b4.1) q q ?_
  refine Ra (AL 1 c_i64 b4.2) q q <| R0 <| Jq q <| Rm (AL 1 c_i64 b4.1) q q <| Rm (AL 1 c_i64 b4.2) q q <| Ra (AL 1 c_i64 b4.1) q q <| Ra (AL 1 c_i64 b4.2) q q <| Ra (I_ 0) q q <| R0 ?_
  exact Jt hΨ (Res_many (As := [AL 1 c_i64 b4.1, AL 1 c_i64 b4.2, I_ 0]) q q (.cons (.tmp (A := AL 1 c_i64 b4.1) q) (.cons (.tmp (A := AL 1 c_i64 b4.2) q) (.cons (.tmp (A := I_ 0) q) .nil)))) q q
theorem k_ref39_Effect (t0 : api_Types) (t1 : api_Rule) (r : (List Int) × Int) (hr : ref39_Effect t0 t1 = some r) : FnP PP 12 [AAgg (c_api_Types t0), AAgg (c_api_Rule t1)] (ATup [AL 1 c_i64 r.1, I_ r.2]) := by
  refine Fo (fun (r : (List Int) × Int) => ATup [AL 1 c_i64 r.1, I_ r.2]) Tryz.func12 q (n := 154) q q hr fun X hΨ => ?_
  refine Jq q <| r_boxV (AAgg (c_api_Types t0)) q q <| r_boxV (AAgg (c_api_Rule t1)) q q <| Ra (ANil) q q <| Ra (I_ 0) q q <| R0 <| Js <| Jq q ?_
  refine r_lda (c_api_Types t0) ag_25 q q q q <| R_bind fun b1 h2 => r_call _ fn_33 (k_ref04_Valid _ _ h2) q q <| Rm (ATup [AStr b1.1, I_ b1.2]) q q <| r_ext (AStr b1.1) q q q <| r_ext (I_ b1.2) q q q <| Ra (AStr b1.1) q q <| Ra (I_ b1.2) q q <| R0 <| Js ?_
  refine Jr q <| Rm (I_ b1.2) q q <| r_neq q q q <| R0 <| J_cond_p q (fun h3 => ?_) (fun h3 => ?_)
  · exact Jq q <| Rm (I_ b1.2) q q <| Ra (ANil) q q <| Ra (I_ b1.2) q q <| R0 <| J_retF hΨ (Res_many (As := [ANil, I_ b1.2]) q q (.cons (.tmp (A := ANil) q) (.cons (.tmp (A := I_ b1.2) q) .nil))) (fun y hy => by cases hy; exact (.tup (.cons .nil (.cons .same .nil))))
  refine J_skip <| Js <| Jq q <| r_lda (c_api_Types t0) ag_25 q q q q <| r_lda (c_api_Rule t1) ag_41 q q q q <| R_bind fun b4 h5 => r_call _ fn_34 (k_ref24_Valid _ _ _ h5) q q <| Ra (I_ b4) q q <| R0 ?_
  refine Jq q <| Rm (I_ b4) q q <| r_neq q q q <| R0 <| J_cond_p q (fun h6 => ?_) (fun h6 => ?_)
  · exact Jq q <| Rm (I_ b4) q q <| Ra (ANil) q q <| Ra (I_ b4) q q <| R0 <| J_retF hΨ (Res_many (As := [ANil, I_ b4]) q q (.cons (.tmp (A := ANil) q) (.cons (.tmp (A := I_ b4) q) .nil))) (fun y hy => by cases hy; exact (.tup (.cons .nil (.cons .same .nil))))
  refine J_skip <| Jq q <| r_faT ((cL 4 c_api_NodeType) t0.Nodes) fo_25_0 q q q <| r_ld (AL 4 c_api_NodeType t0.Nodes) sc_22 q q q <| r_len (cc := c_api_NodeType) il_22 q q <| r_faT ((cL 7 c_api_EdgeType) t0.Edges) fo_25_1 q q q <| r_ld (AL 7 c_api_EdgeType t0.Edges) sc_23 q q q <| r_len (cc := c_api_EdgeType) il_23 q q <| R_bind fun b7 h8 => ?_
  refine r_add b7 q q (Option.some.inj h8) q <| R_if (fun h9 => ?_) (fun _ => R_none)
  refine r_make (cc := c_i64) 0 0 ap_26 z_3 q q h9.1 h9.2 q q <| Ra (AObj 0) q q <| R0 <| Jq q <| r_lda (c_api_Types t0) ag_25 q q q q <| r_lda (c_api_Rule t1) ag_41 q q q q <| R_bind fun b10 h11 => r_call _ fn_35 (k_ref24_Deleted _ _ _ h11) q q <| Rm (ATup [AL 1 c_i64 b10.1, AL 1 c_i64 b10.2.1, I_ b10.2.2]) q q ?_
  refine r_ext (AL 1 c_i64 b10.1) q q q <| r_ext (AL 1 c_i64 b10.2.1) q q q <| r_ext (I_ b10.2.2) q q q <| Ra (AL 1 c_i64 b10.1) q q <| Ra (AL 1 c_i64 b10.2.1) q q <| Ra (I_ b10.2.2) q q <| R0 <| Js <| Jq q ?_
  refine Ra (I_ 0) q q <| R0 <| J_block <| Jn (fun x12 => ⟨fr [(2, APtr (c_api_Types t0)), (3, APtr (c_api_Rule t1)), (5, I_ 0), (7, I_ b1.2), (8, I_ b4), (9, AObj 0), (10, AL 1 c_i64 b10.1), (11, AL 1 c_i64 b10.2.1), (13, I_ x12.2), (22, I_ b1.2), (23, I_ b1.2), (28, I_ b4), (29, I_ b4), (38, I_ b7)], hp [(0, .row 3 1 (x12.1.map c_i64))], 1⟩) [] [] [] q (.s2 q q (.s3 q q q (.cons (A := AObj 0) q (.obj q q q) (.s2 q q (.s6 q q q q q q .nil))))) (.cons q q q q (.row (NKC.flat _ _)) q q .nil) q q (fun E13 hE13 x12 => ?_)
  refine Js <| Jq q <| Rm (I_ x12.2) q q <| Rm (AL 1 c_i64 b10.1) q q <| r_len (cc := c_i64) il_26 q q <| r_lss q q q <| R0 <| J_cond_p q (fun h23 => ?_) (fun h23 => ?_)
  · refine J_skip <| Js <| J_block <| Js <| J_draw <| r_faT (c_api_Pattern t1.Left) fo_41_1 q q q <| r_faT (c_api_Graph t1.Left.Graph) fo_33_0 q q q <| r_faT ((cL 1 c_i64) t1.Left.Graph.Nodes) fo_29_0 q q q <| r_ld (AL 1 c_i64 t1.Left.Graph.Nodes) sc_26 q q q <| Rm (AL 1 c_i64 b10.1) q q ?_
    refine Rm (I_ x12.2) q q <| R_if (fun h24 => ?_) (fun _ => R_none)
    refine r_ix (cc := c_i64) el_26 q q h24.1 h24.2 q <| r_ld (I_ (nth b10.1 x12.2)) sc_3 q q q <| R_if (fun h25 => ?_) (fun _ => R_none)
    refine r_ix (cc := c_i64) el_26 q q h25.1 h25.2 q <| r_ld (I_ (nth t1.Left.Graph.Nodes (nth b10.1 x12.2))) sc_3 q q q <| Ra (I_ (nth t1.Left.Graph.Nodes (nth b10.1 x12.2))) q q <| R_nilD (by kernel_rfl) <| Js <| Jq q <| r_lda (c_api_Types t0) ag_25 q q q q <| Rm (I_ (nth t1.Left.Graph.Nodes (nth b10.1 x12.2))) q q <| R_bind fun b26 h27 => ?_
    refine r_call _ fn_36 (k_ref39_leaf _ _ _ h27) q q <| r_not q q <| R0 <| J_cond q (fun h28 => ?_) (fun h28 => ?_)
    · exact Jq q <| Ra (ANil) q q <| Ra (I_ 13) q q <| R0 <| J_outS <| J_retF hΨ (Res_many (As := [ANil, I_ 13]) q q (.cons (.tmp (A := ANil) q) (.cons (.tmp (A := I_ 13) q) .nil))) (fun y hy => by cases hy; exact (.tup (.cons .nil (.cons .same .nil))))
    refine J_skip <| Jr q <| Rm (AObj 0) q q <| Rm (I_ (nth t1.Left.Graph.Nodes (nth b10.1 x12.2))) q q <| R_if (fun h29 => ?_) (fun _ => R_none)
    refine r_ixO (cc := c_i64) el_26 q q q h29.1 h29.2 q <| r_ldR (cc := c_i64) (nth t1.Left.Graph.Nodes (nth b10.1 x12.2)) 0 (I_ (nth x12.1 (nth t1.Left.Graph.Nodes (nth b10.1 x12.2)))) sc_3 q q h29.1 h29.2 q q <| R_bind fun b30 h31 => r_sub b30 q q (Option.some.inj h31) q <| r_ixO (cc := c_i64) el_26 q q q h29.1 h29.2 q <| r_stR (cc := c_i64) (nth t1.Left.Graph.Nodes (nth b10.1 x12.2)) 0 (I_ b30) b30 sz_3 q q q h29.1 h29.2 q q q q <| R0 <| J_inBlock <| J_range 49 (m := (b10.1.length : Int)) q fun q32 => J_range 13 (m := x12.2) q fun q33 => ?_
    exact Jr q <| Rm (I_ x12.2) q q <| r_add (x12.2 + 1) q q (wrap_i64 (by omega) (by omega)) q <| Ra (I_ (x12.2 + 1)) q q <| R0 <| J_go <| Jc [] [] [] (hE13 ((x12.1.set (nth t1.Left.Graph.Nodes (nth b10.1 x12.2)).toNat b30), x12.2 + 1)) (.s2 q q (.s3 q q q (.cons (A := AObj 0) q (.obj q q q) (.s2 q q (.s6 q q q q q q .nil))))) (.cons q q q q (.row (NKC.flat _ _)) q q .nil) q q
  refine J_exit q <| J_out <| Js <| Jq q <| Ra (I_ 0) q q <| R0 <| J_block <| Jn (fun x34 => ⟨fr [(2, APtr (c_api_Types t0)), (3, APtr (c_api_Rule t1)), (5, I_ 0), (7, I_ b1.2), (8, I_ b4), (9, AObj 0), (11, AL 1 c_i64 b10.2.1), (13, I_ x12.2), (15, I_ x34.2), (22, I_ b1.2), (23, I_ b1.2), (28, I_ b4), (29, I_ b4), (38, I_ b7), (47, I_ x12.2), (49, I_ (b10.1.length : Int))], hp [(0, .row 3 1 (x34.1.map c_i64))], 1⟩) [] [] [] q (.s2 q q (.s3 q q q (.cons (A := AObj 0) q (.obj q q q) (.same q (.s3 q q q (.s6 q q q q q q .nil)))))) (.cons q q q q (.row (NKC.flat _ _)) q q .nil) q q (fun E35 hE35 x34 => ?_)
  refine Js <| Jq q <| Rm (I_ x34.2) q q <| Rm (AL 1 c_i64 b10.2.1) q q <| r_len (cc := c_i64) il_26 q q <| r_lss q q q <| R0 <| J_cond_p q (fun h44 => ?_) (fun h44 => ?_)
  · refine J_skip <| Js <| J_block <| J_draw <| Rm (AObj 0) q q <| r_faT ((cL 4 c_api_NodeType) t0.Nodes) fo_25_0 q q q <| r_ld (AL 4 c_api_NodeType t0.Nodes) sc_22 q q q <| r_len (cc := c_api_NodeType) il_22 q q <| r_faT (c_api_Pattern t1.Left) fo_41_1 q q q <| r_faT (c_api_Graph t1.Left.Graph) fo_33_0 q q q ?_
    refine r_faT ((cL 3 c_api_Edge) t1.Left.Graph.Edges) fo_29_1 q q q <| r_ld (AL 3 c_api_Edge t1.Left.Graph.Edges) sc_27 q q q <| Rm (AL 1 c_i64 b10.2.1) q q <| Rm (I_ x34.2) q q <| R_if (fun h45 => ?_) (fun _ => R_none)
    refine r_ix (cc := c_i64) el_26 q q h45.1 h45.2 q <| r_ld (I_ (nth b10.2.1 x34.2)) sc_3 q q q <| R_if (fun h46 => ?_) (fun _ => R_none)
    refine r_ix (cc := c_api_Edge) el_27 q q h46.1 h46.2 q <| r_faT (c_i64 ((nth t1.Left.Graph.Edges (nth b10.2.1 x34.2)).Type_)) fo_77_0 q q q <| r_ld (I_ ((nth t1.Left.Graph.Edges (nth b10.2.1 x34.2)).Type_)) sc_3 q q q <| R_bind fun b47 h48 => r_add b47 q q (Option.some.inj h48) q <| R_if (fun h49 => ?_) (fun _ => R_none)
    refine r_ixO (cc := c_i64) el_26 q q q h49.1 h49.2 q <| r_ldR (cc := c_i64) b47 0 (I_ (nth x34.1 b47)) sc_3 q q h49.1 h49.2 q q <| R_bind fun b50 h51 => r_sub b50 q q (Option.some.inj h51) q <| r_ixO (cc := c_i64) el_26 q q q h49.1 h49.2 q <| r_stR (cc := c_i64) b47 0 (I_ b50) b50 sz_3 q q q h49.1 h49.2 q q q q <| R_nilD (by kernel_rfl) <| J_inBlock <| J_range 75 (m := (b10.2.1.length : Int)) q fun q52 => J_range 15 (m := x34.2) q fun q53 => ?_
    exact Jr q <| Rm (I_ x34.2) q q <| r_add (x34.2 + 1) q q (wrap_i64 (by omega) (by omega)) q <| Ra (I_ (x34.2 + 1)) q q <| R0 <| J_go <| Jc [] [] [] (hE35 ((x34.1.set b47.toNat b50), x34.2 + 1)) (.s2 q q (.s3 q q q (.cons (A := AObj 0) q (.obj q q q) (.same q (.s3 q q q (.s6 q q q q q q .nil)))))) (.cons q q q q (.row (NKC.flat _ _)) q q .nil) q q
  refine J_exit q <| J_out <| Jq q <| r_lda (c_api_Types t0) ag_25 q q q q <| r_lda (c_api_Rule t1) ag_41 q q q q <| R_bind fun b54 h55 => r_call _ fn_37 (k_ref24_Created _ _ _ h55) q q <| Rm (ATup [AL 1 c_i64 b54.1, AL 1 c_i64 b54.2.1, I_ b54.2.2]) q q <| r_ext (AL 1 c_i64 b54.1) q q q ?_
  refine r_ext (AL 1 c_i64 b54.2.1) q q q <| r_ext (I_ b54.2.2) q q q <| Ra (AL 1 c_i64 b54.1) q q <| Ra (AL 1 c_i64 b54.2.1) q q <| R0 <| Js <| Jq q <| Ra (I_ 0) q q <| R0 ?_
  refine J_block <| Jn (fun x56 => ⟨fr [(2, APtr (c_api_Types t0)), (3, APtr (c_api_Rule t1)), (5, I_ 0), (7, I_ b1.2), (8, I_ b4), (9, AObj 0), (10, AL 1 c_i64 b54.1), (11, AL 1 c_i64 b54.2.1), (13, I_ x12.2), (15, I_ x34.2), (16, I_ x56.2), (22, I_ b1.2), (23, I_ b1.2), (28, I_ b4), (29, I_ b4), (38, I_ b7), (47, I_ x12.2), (49, I_ (b10.1.length : Int)), (73, I_ x34.2), (75, I_ (b10.2.1.length : Int))], hp [(0, .row 3 1 (x56.1.map c_i64))], 1⟩) [] [] [] q (.s2 q q (.s3 q q q (.cons (A := AObj 0) q (.obj q q q) (.s2 q q (.s6 q q q q q q (.s6 q q q q q q .nil)))))) (.cons q q q q (.row (NKC.flat _ _)) q q .nil) q q (fun E57 hE57 x56 => ?_)
  refine Js <| Jq q <| Rm (I_ x56.2) q q <| Rm (AL 1 c_i64 b54.1) q q <| r_len (cc := c_i64) il_26 q q <| r_lss q q q <| R0 <| J_cond_p q (fun h64 => ?_) (fun h64 => ?_)
  · refine J_skip <| Js <| J_block <| J_draw <| Rm (AObj 0) q q <| r_faT (c_api_Pattern t1.Right) fo_41_2 q q q <| r_faT (c_api_Graph t1.Right.Graph) fo_33_0 q q q <| r_faT ((cL 1 c_i64) t1.Right.Graph.Nodes) fo_29_0 q q q <| r_ld (AL 1 c_i64 t1.Right.Graph.Nodes) sc_26 q q q <| Rm (AL 1 c_i64 b54.1) q q ?_
    refine Rm (I_ x56.2) q q <| R_if (fun h65 => ?_) (fun _ => R_none)
    refine r_ix (cc := c_i64) el_26 q q h65.1 h65.2 q <| r_ld (I_ (nth b54.1 x56.2)) sc_3 q q q <| R_if (fun h66 => ?_) (fun _ => R_none)
    refine r_ix (cc := c_i64) el_26 q q h66.1 h66.2 q <| r_ld (I_ (nth t1.Right.Graph.Nodes (nth b54.1 x56.2))) sc_3 q q q <| R_if (fun h67 => ?_) (fun _ => R_none)
    refine r_ixO (cc := c_i64) el_26 q q q h67.1 h67.2 q <| r_ldR (cc := c_i64) (nth t1.Right.Graph.Nodes (nth b54.1 x56.2)) 0 (I_ (nth x56.1 (nth t1.Right.Graph.Nodes (nth b54.1 x56.2)))) sc_3 q q h67.1 h67.2 q q <| R_bind fun b68 h69 => r_add b68 q q (Option.some.inj h69) q <| r_ixO (cc := c_i64) el_26 q q q h67.1 h67.2 q <| r_stR (cc := c_i64) (nth t1.Right.Graph.Nodes (nth b54.1 x56.2)) 0 (I_ b68) b68 sz_3 q q q h67.1 h67.2 q q q q <| R_nilD (by kernel_rfl) <| J_inBlock <| J_range 108 (m := (b54.1.length : Int)) q fun q70 => J_range 16 (m := x56.2) q fun q71 => ?_
    exact Jr q <| Rm (I_ x56.2) q q <| r_add (x56.2 + 1) q q (wrap_i64 (by omega) (by omega)) q <| Ra (I_ (x56.2 + 1)) q q <| R0 <| J_go <| Jc [] [] [] (hE57 ((x56.1.set (nth t1.Right.Graph.Nodes (nth b54.1 x56.2)).toNat b68), x56.2 + 1)) (.s2 q q (.s3 q q q (.cons (A := AObj 0) q (.obj q q q) (.s2 q q (.s6 q q q q q q (.s6 q q q q q q .nil)))))) (.cons q q q q (.row (NKC.flat _ _)) q q .nil) q q
  refine J_exit q <| J_out <| Js <| Jq q <| Ra (I_ 0) q q <| R0 <| J_block <| Jn (fun x72 => ⟨fr [(2, APtr (c_api_Types t0)), (3, APtr (c_api_Rule t1)), (5, I_ 0), (7, I_ b1.2), (8, I_ b4), (9, AObj 0), (11, AL 1 c_i64 b54.2.1), (13, I_ x12.2), (15, I_ x34.2), (16, I_ x56.2), (17, I_ x72.2), (22, I_ b1.2), (23, I_ b1.2), (28, I_ b4), (29, I_ b4), (38, I_ b7), (47, I_ x12.2), (49, I_ (b10.1.length : Int)), (73, I_ x34.2), (75, I_ (b10.2.1.length : Int)), (106, I_ x56.2), (108, I_ (b54.1.length : Int))], hp [(0, .row 3 1 (x72.1.map c_i64))], 1⟩) [] [] [] q (.s2 q q (.s3 q q q (.cons (A := AObj 0) q (.obj q q q) (.same q (.s3 q q q (.s6 q q q q q q (.s6 q q q q q q .nil))))))) (.cons q q q q (.row (NKC.flat _ _)) q q .nil) q q (fun E73 hE73 x72 => ?_)
  refine Js <| Jq q <| Rm (I_ x72.2) q q <| Rm (AL 1 c_i64 b54.2.1) q q <| r_len (cc := c_i64) il_26 q q <| r_lss q q q <| R0 <| J_cond_p q (fun h82 => ?_) (fun h82 => ?_)
  rotate_left
  · exact J_exit q <| J_outS <| Jq q <| Rm (AObj 0) q q <| Ra (AObj 0) q q <| Ra (I_ 0) q q <| R0 <| J_retF hΨ (Res_many (As := [AObj 0, I_ 0]) q q (.cons (.tmp (A := AObj 0) q) (.cons (.tmp (A := I_ 0) q) .nil))) (fun y hy => by cases hy; exact (.tup (.cons (.frow q q (NKC.flat _ _)) (.cons .same .nil))))
  refine J_skip <| Js <| J_block <| J_draw <| Rm (AObj 0) q q <| r_faT ((cL 4 c_api_NodeType) t0.Nodes) fo_25_0 q q q <| r_ld (AL 4 c_api_NodeType t0.Nodes) sc_22 q q q <| r_len (cc := c_api_NodeType) il_22 q q <| r_faT (c_api_Pattern t1.Right) fo_41_2 q q q <| r_faT (c_api_Graph t1.Right.Graph) fo_33_0 q q q ?_
  refine r_faT ((cL 3 c_api_Edge) t1.Right.Graph.Edges) fo_29_1 q q q <| r_ld (AL 3 c_api_Edge t1.Right.Graph.Edges) sc_27 q q q <| Rm (AL 1 c_i64 b54.2.1) q q <| Rm (I_ x72.2) q q <| R_if (fun h83 => ?_) (fun _ => R_none)
  refine r_ix (cc := c_i64) el_26 q q h83.1 h83.2 q <| r_ld (I_ (nth b54.2.1 x72.2)) sc_3 q q q <| R_if (fun h84 => ?_) (fun _ => R_none)
  refine r_ix (cc := c_api_Edge) el_27 q q h84.1 h84.2 q <| r_faT (c_i64 ((nth t1.Right.Graph.Edges (nth b54.2.1 x72.2)).Type_)) fo_77_0 q q q <| r_ld (I_ ((nth t1.Right.Graph.Edges (nth b54.2.1 x72.2)).Type_)) sc_3 q q q <| R_bind fun b85 h86 => r_add b85 q q (Option.some.inj h86) q <| R_if (fun h87 => ?_) (fun _ => R_none)
  refine r_ixO (cc := c_i64) el_26 q q q h87.1 h87.2 q <| r_ldR (cc := c_i64) b85 0 (I_ (nth x72.1 b85)) sc_3 q q h87.1 h87.2 q q <| R_bind fun b88 h89 => r_add b88 q q (Option.some.inj h89) q <| r_ixO (cc := c_i64) el_26 q q q h87.1 h87.2 q <| r_stR (cc := c_i64) b85 0 (I_ b88) b88 sz_3 q q q h87.1 h87.2 q q q q <| R_nilD (by kernel_rfl) <| J_inBlock <| J_range 129 (m := (b54.2.1.length : Int)) q fun q90 => J_range 17 (m := x72.2) q fun q91 => ?_
  exact Jr q <| Rm (I_ x72.2) q q <| r_add (x72.2 + 1) q q (wrap_i64 (by omega) (by omega)) q <| Ra (I_ (x72.2 + 1)) q q <| R0 <| J_go <| Jc [] [] [] (hE73 ((x72.1.set b85.toNat b88), x72.2 + 1)) (.s2 q q (.s3 q q q (.cons (A := AObj 0) q (.obj q q q) (.same q (.s3 q q q (.s6 q q q q q q (.s6 q q q q q q .nil))))))) (.cons q q q q (.row (NKC.flat _ _)) q q .nil) q q
theorem k_law39_WeightEffect (t0 : api_Types) (t1 : api_Rule) (r : Bool) (hr : law39_WeightEffect t0 t1 = some r) : FnP PP 3 [AAgg (c_api_Types t0), AAgg (c_api_Rule t1)] (ABool r) := by
  refine Fo (fun (r : Bool) => ABool r) Tryz.func3 q (n := 39) q q hr fun X hΨ => ?_
  refine Jq q <| r_boxV (AAgg (c_api_Types t0)) q q <| r_boxV (AAgg (c_api_Rule t1)) q q <| Ra (ABool false) q q <| R0 <| Js <| Jq q <| R_bind fun b1 h2 => ?_
  refine r_call _ fn_9 (k_law39_awake  _ h2) q q <| r_not q q <| Rm (ABool (!b1)) q q <| R_if (fun h3 => ?_) (fun h3 => ?_)
  · refine Rk (g_fn q q h3) <| Rk (g_fn q q h3) <| Rk (g_fn q q h3) <| Rk (g_fn q q h3) <| Rk (g_fn q q h3) <| r_pickT (ABool true) q h3 q q <| R0 <| J_cond_T q q <| Jq q ?_
    exact R_bind fun b7 h8 => r_call _ fn_9 (k_law39_awake  _ h8) q q <| Ra (ABool b7) q q <| Rt hΨ q q q
  refine r_lda (c_api_Types t0) ag_25 q q q (g_f q q (bf h3)) <| r_lda (c_api_Rule t1) ag_41 q q q (g_f q q (bf h3)) <| r_bs (cc := c_api_Rule) [t1] el_44 zr_41_1 (.cons (A := AAgg (c_api_Rule t1)) q q q .nil) q q (g_f q q (bf h3)) <| R_bind fun b4 h5 => r_call _ fn_10 (k_law39_small _ _ _ h5) q (g_f q q (bf h3)) <| r_not q (g_f q q (bf h3)) <| r_pickF (ABool (!b4)) q (bf h3) q q <| R0 <| J_cond q (fun h6 => ?_) (fun h6 => ?_)
  · exact Jq q <| R_bind fun b9 h10 => r_call _ fn_9 (k_law39_awake  _ h10) q q <| Ra (ABool b9) q q <| Rt hΨ q q q
  refine J_skip <| Jq q <| r_lda (c_api_Types t0) ag_25 q q q q <| r_lda (c_api_Rule t1) ag_41 q q q q <| R_bind fun b11 h12 => r_call _ fn_11 (k_weight_Effect _ _ _ h12) q q <| Rm (ATup [AL 1 c_i64 b11.1, I_ b11.2]) q q <| r_ext (AL 1 c_i64 b11.1) q q q <| r_ext (I_ b11.2) q q q ?_
  refine Ra (AL 1 c_i64 b11.1) q q <| Ra (I_ b11.2) q q <| R0 <| Jq q <| r_lda (c_api_Types t0) ag_25 q q q q <| r_lda (c_api_Rule t1) ag_41 q q q q <| R_bind fun b13 h14 => r_call _ fn_12 (k_ref39_Effect _ _ _ h14) q q <| Rm (ATup [AL 1 c_i64 b13.1, I_ b13.2]) q q ?_
  refine r_ext (AL 1 c_i64 b13.1) q q q <| r_ext (I_ b13.2) q q q <| Ra (AL 1 c_i64 b13.1) q q <| Ra (I_ b13.2) q q <| R0 <| Jq q <| Rm (AL 1 c_i64 b11.1) q q <| Rm (AL 1 c_i64 b13.1) q q <| R_bind fun b15 h16 => ?_
  refine r_call _ fn_13 (k_slices_Equal_int _ _ _ h16) q q <| Rm (ABool b15) q q <| R_if (fun h17 => ?_) (fun h17 => ?_)
  · exact Rm (I_ b11.2) q (g_t q q h17) <| Rm (I_ b13.2) q (g_t q q h17) <| r_eql q q (g_t q q h17) <| r_pickT (ABool (decide (b11.2 = b13.2))) q h17 q q <| Ra (ABool (decide (b11.2 = b13.2))) q q <| Rt hΨ q q q
  exact Rk (g_tn q q (bf h17)) <| Rk (g_tn q q (bf h17)) <| Rk (g_tn q q (bf h17)) <| r_pickF (ABool false) q (bf h17) q q <| Ra (ABool false) q q <| Rt hΨ q q q
end Go.Proofs.YtngimdmkomkeoaaGreat.K
