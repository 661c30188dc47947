/- Each function computes what its plain form says. -/
import Derived.Test.YtpnfoacmgfklaaaGreatWalk2
set_option linter.unusedVariables false
set_option linter.unusedSimpArgs false
namespace Go.Proofs.YtpnfoacmgfklaaaGreat.K
open Go.RowKit Go.Proofs
set_option maxHeartbeats 4000000
set_option maxRecDepth 100000
theorem k_ref06_Valid (t0 : api_Graph) (t1 : api_Graph) (t2 : api_Morphism) (r : Int) (hr : ref06_Valid t0 t1 t2 = some r) : FnP PP 93 [AAgg (c_api_Graph t0), AAgg (c_api_Graph t1), AAgg (c_api_Morphism t2)] (I_ r) := by
  refine FnP.of mixed_ Tryz.func93 rfl (n := 141) rfl (fun (r : Int) => I_ r) nk_args NK.nk rfl hr fun X hΨ => ?_
  refine J_seq ?_
  refine J_region rfl ?_
  refine r_boxV (AAgg (c_api_Graph t0)) rfl rfl ?_
  refine r_boxV (AAgg (c_api_Graph t1)) rfl rfl ?_
  refine r_boxV (AAgg (c_api_Morphism t2)) rfl rfl ?_
  refine r_assign (I_ 0) rfl rfl ?_
  refine R_nil0 ?_
  refine J_seq ?_
  refine J_seq ?_
  refine J_region rfl ?_
  refine r_lda (c_api_Graph t0) ag_25 rfl rfl rfl rfl ?_
  refine R_bind fun b1 h2 => ?_
  refine r_call _ fn_40 (k_ref05_Valid _ _ h2) rfl rfl ?_
  refine r_assign (I_ b1) rfl rfl ?_
  refine R_nil0 ?_
  refine J_seq ?_
  refine J_region rfl ?_
  refine r_move (I_ b1) rfl rfl ?_
  refine r_neq rfl rfl rfl ?_
  refine R_nil0 ?_
  refine J_cond_p rfl (fun h3 => ?_) (fun h3 => ?_)
  · refine J_seq ?_
    refine J_region rfl ?_
    refine r_move (I_ b1) rfl rfl ?_
    refine r_assign (I_ b1) rfl rfl ?_
    refine R_nil0 ?_
    exact J_ret hΨ (Res_one rfl) (fun y hy => by cases hy; rfl)
  refine J_skip ?_
  refine J_seq ?_
  refine J_seq ?_
  refine J_region rfl ?_
  refine r_lda (c_api_Graph t1) ag_25 rfl rfl rfl rfl ?_
  refine R_bind fun b4 h5 => ?_
  refine r_call _ fn_40 (k_ref05_Valid _ _ h5) rfl rfl ?_
  refine r_assign (I_ b4) rfl rfl ?_
  refine R_nil0 ?_
  refine J_seq ?_
  refine J_region rfl ?_
  refine r_move (I_ b4) rfl rfl ?_
  refine r_neq rfl rfl rfl ?_
  refine R_nil0 ?_
  refine J_cond_p rfl (fun h6 => ?_) (fun h6 => ?_)
  · refine J_seq ?_
    refine J_region rfl ?_
    refine r_move (I_ b4) rfl rfl ?_
    refine r_assign (I_ b4) rfl rfl ?_
    refine R_nil0 ?_
    exact J_ret hΨ (Res_one rfl) (fun y hy => by cases hy; rfl)
  refine J_skip ?_
  refine J_seq ?_
  refine J_seq ?_
  refine J_region rfl ?_
  refine r_faT ((cL 1 c_i64) t2.Nodes) fo_32_0 rfl rfl rfl ?_
  refine r_ld (AL 1 c_i64 t2.Nodes) sc_22 rfl rfl rfl ?_
  refine r_len (cc := c_i64) il_22 rfl rfl ?_
  refine r_faT ((cL 1 c_i64) t0.Nodes) fo_25_0 rfl rfl rfl ?_
  refine r_ld (AL 1 c_i64 t0.Nodes) sc_22 rfl rfl rfl ?_
  refine r_len (cc := c_i64) il_22 rfl rfl ?_
  refine r_neq rfl rfl rfl ?_
  refine r_move (ABool (decide (¬ ((t2.Nodes.length : Int) = (t0.Nodes.length : Int))))) rfl rfl ?_
  refine R_if (fun h7 => ?_) (fun h7 => ?_)
  · refine R_skip (g_fn rfl rfl (dt h7)) ?_
    refine R_skip (g_fn rfl rfl (dt h7)) ?_
    refine R_skip (g_fn rfl rfl (dt h7)) ?_
    refine R_skip (g_fn rfl rfl (dt h7)) ?_
    refine R_skip (g_fn rfl rfl (dt h7)) ?_
    refine R_skip (g_fn rfl rfl (dt h7)) ?_
    refine R_skip (g_fn rfl rfl (dt h7)) ?_
    refine r_pickT (ABool true) rfl (dt h7) rfl rfl ?_
    refine R_nil0 ?_
    refine J_cond_T rfl rfl ?_
    refine J_seq ?_
    refine J_region rfl ?_
    refine r_assign (I_ 20) rfl rfl ?_
    refine R_nil0 ?_
    exact J_ret hΨ (Res_one rfl) (fun y hy => by cases hy; rfl)
  refine r_faT ((cL 1 c_i64) t2.Edges) fo_32_1 rfl rfl (g_f rfl rfl (df h7)) ?_
  refine r_ld (AL 1 c_i64 t2.Edges) sc_22 rfl rfl (g_f rfl rfl (df h7)) ?_
  refine r_len (cc := c_i64) il_22 rfl (g_f rfl rfl (df h7)) ?_
  refine r_faT ((cL 3 c_api_Edge) t0.Edges) fo_25_1 rfl rfl (g_f rfl rfl (df h7)) ?_
  refine r_ld (AL 3 c_api_Edge t0.Edges) sc_23 rfl rfl (g_f rfl rfl (df h7)) ?_
  refine r_len (cc := c_api_Edge) il_23 rfl (g_f rfl rfl (df h7)) ?_
  refine r_neq rfl rfl (g_f rfl rfl (df h7)) ?_
  refine r_pickF (ABool (decide (¬ ((t2.Edges.length : Int) = (t0.Edges.length : Int))))) rfl (df h7) rfl rfl ?_
  refine R_nil0 ?_
  refine J_cond_p rfl (fun h8 => ?_) (fun h8 => ?_)
  · refine J_seq ?_
    refine J_region rfl ?_
    refine r_assign (I_ 20) rfl rfl ?_
    refine R_nil0 ?_
    exact J_ret hΨ (Res_one rfl) (fun y hy => by cases hy; rfl)
  refine J_skip ?_
  refine J_seq ?_
  refine J_seq ?_
  refine J_region rfl ?_
  refine r_assign (I_ 0) rfl rfl ?_
  refine R_nil0 ?_
  refine J_block ?_
  refine J_cv [] [] [] 0 [(3, APtr (c_api_Graph t0)), (4, APtr (c_api_Graph t1)), (5, APtr (c_api_Morphism t2)), (6, I_ 0), (7, I_ b1), (8, I_ b4), (9, I_ 0), (14, I_ b1), (15, I_ b1), (19, I_ b4), (20, I_ b4), (25, I_ (t2.Nodes.length : Int)), (28, I_ (t0.Nodes.length : Int)), (33, I_ (t2.Edges.length : Int)), (36, I_ (t0.Edges.length : Int))] [] (.same rfl (.same rfl (.same rfl (.same rfl (.same rfl (.same rfl (.same rfl (.same rfl (.same rfl (.same rfl (.same rfl (.same rfl (.same rfl (.same rfl (.same rfl .nil))))))))))))))) .nil rfl rfl ?_
  refine J_it (fun x9 => ⟨fr [(3, APtr (c_api_Graph t0)), (4, APtr (c_api_Graph t1)), (5, APtr (c_api_Morphism t2)), (6, I_ 0), (7, I_ b1), (8, I_ b4), (9, I_ x9), (14, I_ b1), (15, I_ b1), (19, I_ b4), (20, I_ b4), (25, I_ (t2.Nodes.length : Int)), (28, I_ (t0.Nodes.length : Int)), (33, I_ (t2.Edges.length : Int)), (36, I_ (t0.Edges.length : Int))], hp [], 0⟩) (fun E10 hE10 x9 => ?_) (by rfl)
  refine J_seq ?_
  refine J_seq ?_
  refine J_region rfl ?_
  refine r_move (I_ x9) rfl rfl ?_
  refine r_faT ((cL 1 c_i64) t0.Nodes) fo_25_0 rfl rfl rfl ?_
  refine r_ld (AL 1 c_i64 t0.Nodes) sc_22 rfl rfl rfl ?_
  refine r_len (cc := c_i64) il_22 rfl rfl ?_
  refine r_lss rfl rfl rfl ?_
  refine R_nil0 ?_
  refine J_cond_p rfl (fun h18 => ?_) (fun h18 => ?_)
  · refine J_skip ?_
    refine J_seq ?_
    refine J_block ?_
    refine J_seq ?_
    refine J_seq ?_
    refine J_draw ?_
    refine r_faT ((cL 1 c_i64) t2.Nodes) fo_32_0 rfl rfl rfl ?_
    refine r_ld (AL 1 c_i64 t2.Nodes) sc_22 rfl rfl rfl ?_
    refine r_move (I_ x9) rfl rfl ?_
    refine R_if (fun h19 => ?_) (fun _ => R_none)
    refine r_ix (cc := c_i64) el_22 rfl rfl h19.1 h19.2 rfl ?_
    refine r_ld (I_ (nth t2.Nodes x9)) sc_3 rfl rfl rfl ?_
    refine r_lss rfl rfl rfl ?_
    refine r_move (ABool (decide ((nth t2.Nodes x9) < 0))) rfl rfl ?_
    refine R_if (fun h20 => ?_) (fun h20 => ?_)
    · refine R_skip (g_fn rfl rfl (dt h20)) ?_
      refine R_skip (g_fn rfl rfl (dt h20)) ?_
      refine R_skip (g_fn rfl rfl (dt h20)) ?_
      refine R_skip (g_fn rfl rfl (dt h20)) ?_
      refine R_skip (g_fn rfl rfl (dt h20)) ?_
      refine R_skip (g_fn rfl rfl (dt h20)) ?_
      refine R_skip (g_fn rfl rfl (dt h20)) ?_
      refine R_skip (g_fn rfl rfl (dt h20)) ?_
      refine R_skip (g_fn rfl rfl (dt h20)) ?_
      refine r_pickT (ABool true) rfl (dt h20) rfl rfl ?_
      refine R_nilD rfl ?_
      refine J_cond_T rfl rfl ?_
      refine J_seq ?_
      refine J_region rfl ?_
      refine r_assign (I_ 6) rfl rfl ?_
      refine R_nil0 ?_
      refine J_outS ?_
      exact J_ret hΨ (Res_one rfl) (fun y hy => by cases hy; rfl)
    refine r_faT ((cL 1 c_i64) t2.Nodes) fo_32_0 rfl rfl (g_f rfl rfl (df h20)) ?_
    refine r_ld (AL 1 c_i64 t2.Nodes) sc_22 rfl rfl (g_f rfl rfl (df h20)) ?_
    refine r_move (I_ x9) rfl (g_f rfl rfl (df h20)) ?_
    refine r_ix (cc := c_i64) el_22 rfl rfl h19.1 h19.2 (g_f rfl rfl (df h20)) ?_
    refine r_ld (I_ (nth t2.Nodes x9)) sc_3 rfl rfl (g_f rfl rfl (df h20)) ?_
    refine r_faT ((cL 1 c_i64) t1.Nodes) fo_25_0 rfl rfl (g_f rfl rfl (df h20)) ?_
    refine r_ld (AL 1 c_i64 t1.Nodes) sc_22 rfl rfl (g_f rfl rfl (df h20)) ?_
    refine r_len (cc := c_i64) il_22 rfl (g_f rfl rfl (df h20)) ?_
    refine r_geq rfl rfl (g_f rfl rfl (df h20)) ?_
    refine r_pickF (ABool (decide ((t1.Nodes.length : Int) ≤ (nth t2.Nodes x9)))) rfl (df h20) rfl rfl ?_
    refine R_nilD rfl ?_
    refine J_cond_p rfl (fun h21 => ?_) (fun h21 => ?_)
    · refine J_seq ?_
      refine J_region rfl ?_
      refine r_assign (I_ 6) rfl rfl ?_
      refine R_nil0 ?_
      refine J_outS ?_
      exact J_ret hΨ (Res_one rfl) (fun y hy => by cases hy; rfl)
    refine J_skip ?_
    refine J_seq ?_
    refine J_draw ?_
    refine r_faT ((cL 1 c_i64) t1.Nodes) fo_25_0 rfl rfl rfl ?_
    refine r_ld (AL 1 c_i64 t1.Nodes) sc_22 rfl rfl rfl ?_
    refine r_faT ((cL 1 c_i64) t2.Nodes) fo_32_0 rfl rfl rfl ?_
    refine r_ld (AL 1 c_i64 t2.Nodes) sc_22 rfl rfl rfl ?_
    refine r_move (I_ x9) rfl rfl ?_
    refine r_ix (cc := c_i64) el_22 rfl rfl h19.1 h19.2 rfl ?_
    refine r_ld (I_ (nth t2.Nodes x9)) sc_3 rfl rfl rfl ?_
    refine R_if (fun h22 => ?_) (fun _ => R_none)
    refine r_ix (cc := c_i64) el_22 rfl rfl h22.1 h22.2 rfl ?_
    refine r_ld (I_ (nth t1.Nodes (nth t2.Nodes x9))) sc_3 rfl rfl rfl ?_
    refine r_faT ((cL 1 c_i64) t0.Nodes) fo_25_0 rfl rfl rfl ?_
    refine r_ld (AL 1 c_i64 t0.Nodes) sc_22 rfl rfl rfl ?_
    refine r_move (I_ x9) rfl rfl ?_
    refine R_if (fun h23 => ?_) (fun _ => R_none)
    refine r_ix (cc := c_i64) el_22 rfl rfl h23.1 h23.2 rfl ?_
    refine r_ld (I_ (nth t0.Nodes x9)) sc_3 rfl rfl rfl ?_
    refine r_neq rfl rfl rfl ?_
    refine R_nilD rfl ?_
    refine J_cond_p rfl (fun h24 => ?_) (fun h24 => ?_)
    · refine J_seq ?_
      refine J_region rfl ?_
      refine r_assign (I_ 13) rfl rfl ?_
      refine R_nil0 ?_
      refine J_outS ?_
      exact J_ret hΨ (Res_one rfl) (fun y hy => by cases hy; rfl)
    refine J_skip ?_
    refine J_inBlock ?_
    refine J_range 28 (m := (t0.Nodes.length : Int)) rfl fun q25 => ?_
    refine J_range 9 (m := x9) rfl fun q26 => ?_
    refine J_region rfl ?_
    refine r_move (I_ x9) rfl rfl ?_
    refine r_add (x9 + 1) rfl rfl (wrap_i64 (by omega) (by omega)) rfl ?_
    refine r_assign (I_ (x9 + 1)) rfl rfl ?_
    refine R_nil0 ?_
    refine J_go ?_
    refine J_cv [] [] [] 0 [(3, APtr (c_api_Graph t0)), (4, APtr (c_api_Graph t1)), (5, APtr (c_api_Morphism t2)), (6, I_ 0), (7, I_ b1), (8, I_ b4), (9, I_ (x9 + 1)), (14, I_ b1), (15, I_ b1), (19, I_ b4), (20, I_ b4), (25, I_ (t2.Nodes.length : Int)), (28, I_ (t0.Nodes.length : Int)), (33, I_ (t2.Edges.length : Int)), (36, I_ (t0.Edges.length : Int))] [] (.same rfl (.same rfl (.same rfl (.same rfl (.same rfl (.same rfl (.same rfl (.same rfl (.same rfl (.same rfl (.same rfl (.same rfl (.same rfl (.same rfl (.same rfl .nil))))))))))))))) .nil rfl rfl ?_
    exact hE10 (x9 + 1)
  refine J_exit rfl ?_
  refine J_out ?_
  refine J_seq ?_
  refine J_seq ?_
  refine J_region rfl ?_
  refine r_assign (I_ 0) rfl rfl ?_
  refine R_nil0 ?_
  refine J_block ?_
  refine J_cv [] [] [] 0 [(3, APtr (c_api_Graph t0)), (4, APtr (c_api_Graph t1)), (5, APtr (c_api_Morphism t2)), (6, I_ 0), (7, I_ b1), (8, I_ b4), (9, I_ x9), (10, I_ 0), (14, I_ b1), (15, I_ b1), (19, I_ b4), (20, I_ b4), (25, I_ (t2.Nodes.length : Int)), (28, I_ (t0.Nodes.length : Int)), (33, I_ (t2.Edges.length : Int)), (36, I_ (t0.Edges.length : Int)), (39, I_ x9), (42, I_ (t0.Nodes.length : Int))] [] (.same rfl (.same rfl (.same rfl (.same rfl (.same rfl (.same rfl (.same rfl (.same rfl (.same rfl (.same rfl (.same rfl (.same rfl (.same rfl (.same rfl (.same rfl (.same rfl (.same rfl (.same rfl .nil)))))))))))))))))) .nil rfl rfl ?_
  refine J_it (fun x27 => ⟨fr [(3, APtr (c_api_Graph t0)), (4, APtr (c_api_Graph t1)), (5, APtr (c_api_Morphism t2)), (6, I_ 0), (7, I_ b1), (8, I_ b4), (9, I_ x9), (10, I_ x27), (14, I_ b1), (15, I_ b1), (19, I_ b4), (20, I_ b4), (25, I_ (t2.Nodes.length : Int)), (28, I_ (t0.Nodes.length : Int)), (33, I_ (t2.Edges.length : Int)), (36, I_ (t0.Edges.length : Int)), (39, I_ x9), (42, I_ (t0.Nodes.length : Int))], hp [], 0⟩) (fun E28 hE28 x27 => ?_) (by rfl)
  refine J_seq ?_
  refine J_seq ?_
  refine J_region rfl ?_
  refine r_move (I_ x27) rfl rfl ?_
  refine r_faT ((cL 3 c_api_Edge) t0.Edges) fo_25_1 rfl rfl rfl ?_
  refine r_ld (AL 3 c_api_Edge t0.Edges) sc_23 rfl rfl rfl ?_
  refine r_len (cc := c_api_Edge) il_23 rfl rfl ?_
  refine r_lss rfl rfl rfl ?_
  refine R_nil0 ?_
  refine J_cond_p rfl (fun h40 => ?_) (fun h40 => ?_)
  rotate_left
  · refine J_exit rfl ?_
    refine J_outS ?_
    refine J_seq ?_
    refine J_region rfl ?_
    refine r_assign (I_ 0) rfl rfl ?_
    refine R_nil0 ?_
    exact J_ret hΨ (Res_one rfl) (fun y hy => by cases hy; rfl)
  refine J_skip ?_
  refine J_seq ?_
  refine J_block ?_
  refine J_seq ?_
  refine J_seq ?_
  refine J_draw ?_
  refine r_faT ((cL 1 c_i64) t2.Edges) fo_32_1 rfl rfl rfl ?_
  refine r_ld (AL 1 c_i64 t2.Edges) sc_22 rfl rfl rfl ?_
  refine r_move (I_ x27) rfl rfl ?_
  refine R_if (fun h41 => ?_) (fun _ => R_none)
  refine r_ix (cc := c_i64) el_22 rfl rfl h41.1 h41.2 rfl ?_
  refine r_ld (I_ (nth t2.Edges x27)) sc_3 rfl rfl rfl ?_
  refine r_lss rfl rfl rfl ?_
  refine r_move (ABool (decide ((nth t2.Edges x27) < 0))) rfl rfl ?_
  refine R_if (fun h42 => ?_) (fun h42 => ?_)
  · refine R_skip (g_fn rfl rfl (dt h42)) ?_
    refine R_skip (g_fn rfl rfl (dt h42)) ?_
    refine R_skip (g_fn rfl rfl (dt h42)) ?_
    refine R_skip (g_fn rfl rfl (dt h42)) ?_
    refine R_skip (g_fn rfl rfl (dt h42)) ?_
    refine R_skip (g_fn rfl rfl (dt h42)) ?_
    refine R_skip (g_fn rfl rfl (dt h42)) ?_
    refine R_skip (g_fn rfl rfl (dt h42)) ?_
    refine R_skip (g_fn rfl rfl (dt h42)) ?_
    refine r_pickT (ABool true) rfl (dt h42) rfl rfl ?_
    refine R_nilD rfl ?_
    refine J_cond_T rfl rfl ?_
    refine J_seq ?_
    refine J_region rfl ?_
    refine r_assign (I_ 6) rfl rfl ?_
    refine R_nil0 ?_
    refine J_outS ?_
    exact J_ret hΨ (Res_one rfl) (fun y hy => by cases hy; rfl)
  refine r_faT ((cL 1 c_i64) t2.Edges) fo_32_1 rfl rfl (g_f rfl rfl (df h42)) ?_
  refine r_ld (AL 1 c_i64 t2.Edges) sc_22 rfl rfl (g_f rfl rfl (df h42)) ?_
  refine r_move (I_ x27) rfl (g_f rfl rfl (df h42)) ?_
  refine r_ix (cc := c_i64) el_22 rfl rfl h41.1 h41.2 (g_f rfl rfl (df h42)) ?_
  refine r_ld (I_ (nth t2.Edges x27)) sc_3 rfl rfl (g_f rfl rfl (df h42)) ?_
  refine r_faT ((cL 3 c_api_Edge) t1.Edges) fo_25_1 rfl rfl (g_f rfl rfl (df h42)) ?_
  refine r_ld (AL 3 c_api_Edge t1.Edges) sc_23 rfl rfl (g_f rfl rfl (df h42)) ?_
  refine r_len (cc := c_api_Edge) il_23 rfl (g_f rfl rfl (df h42)) ?_
  refine r_geq rfl rfl (g_f rfl rfl (df h42)) ?_
  refine r_pickF (ABool (decide ((t1.Edges.length : Int) ≤ (nth t2.Edges x27)))) rfl (df h42) rfl rfl ?_
  refine R_nilD rfl ?_
  refine J_cond_p rfl (fun h43 => ?_) (fun h43 => ?_)
  · refine J_seq ?_
    refine J_region rfl ?_
    refine r_assign (I_ 6) rfl rfl ?_
    refine R_nil0 ?_
    refine J_outS ?_
    exact J_ret hΨ (Res_one rfl) (fun y hy => by cases hy; rfl)
  refine J_skip ?_
  refine J_seq ?_
  refine J_draw ?_
  refine r_faT ((cL 3 c_api_Edge) t0.Edges) fo_25_1 rfl rfl rfl ?_
  refine r_ld (AL 3 c_api_Edge t0.Edges) sc_23 rfl rfl rfl ?_
  refine r_move (I_ x27) rfl rfl ?_
  refine R_if (fun h44 => ?_) (fun _ => R_none)
  refine r_ix (cc := c_api_Edge) el_23 rfl rfl h44.1 h44.2 rfl ?_
  refine r_lda (c_api_Edge (nth t0.Edges x27)) ag_135 rfl rfl rfl rfl ?_
  refine r_faT ((cL 3 c_api_Edge) t1.Edges) fo_25_1 rfl rfl rfl ?_
  refine r_ld (AL 3 c_api_Edge t1.Edges) sc_23 rfl rfl rfl ?_
  refine r_faT ((cL 1 c_i64) t2.Edges) fo_32_1 rfl rfl rfl ?_
  refine r_ld (AL 1 c_i64 t2.Edges) sc_22 rfl rfl rfl ?_
  refine r_move (I_ x27) rfl rfl ?_
  refine r_ix (cc := c_i64) el_22 rfl rfl h41.1 h41.2 rfl ?_
  refine r_ld (I_ (nth t2.Edges x27)) sc_3 rfl rfl rfl ?_
  refine R_if (fun h45 => ?_) (fun _ => R_none)
  refine r_ix (cc := c_api_Edge) el_23 rfl rfl h45.1 h45.2 rfl ?_
  refine r_lda (c_api_Edge (nth t1.Edges (nth t2.Edges x27))) ag_135 rfl rfl rfl rfl ?_
  refine r_alloc 0 _ z_135 rfl rfl ?_
  refine r_alloc 1 _ z_135 rfl rfl ?_
  refine r_stO (AObj 0) (AAgg (c_api_Edge (nth t0.Edges x27))) (c_api_Edge (nth t0.Edges x27)) sz_135 rfl .obj rfl rfl rfl rfl rfl rfl ?_
  refine r_stO (AObj 1) (AAgg (c_api_Edge (nth t1.Edges (nth t2.Edges x27)))) (c_api_Edge (nth t1.Edges (nth t2.Edges x27))) sz_135 rfl .obj rfl rfl rfl rfl rfl rfl ?_
  refine R_nilD rfl ?_
  refine J_seq ?_
  refine J_seq ?_
  refine J_region rfl ?_
  refine r_faO (AObj 0) 0 fo_135_0 rfl .obj rfl rfl rfl ?_
  refine r_ldO (ABoxAt 0 0) (I_ ((nth t0.Edges x27).Type_)) sc_3 rfl .at rfl rfl rfl ?_
  refine r_faO (AObj 1) 0 fo_135_0 rfl .obj rfl rfl rfl ?_
  refine r_ldO (ABoxAt 1 0) (I_ ((nth t1.Edges (nth t2.Edges x27)).Type_)) sc_3 rfl .at rfl rfl rfl ?_
  refine r_neq rfl rfl rfl ?_
  refine R_nil0 ?_
  refine J_cond_p rfl (fun h46 => ?_) (fun h46 => ?_)
  · refine J_seq ?_
    refine J_region rfl ?_
    refine r_assign (I_ 13) rfl rfl ?_
    refine R_nil0 ?_
    refine J_outS ?_
    exact J_ret hΨ (Res_one rfl) (fun y hy => by cases hy; rfl)
  refine J_skip ?_
  refine J_seq ?_
  refine J_draw ?_
  refine r_faT ((cL 1 c_i64) t2.Nodes) fo_32_0 rfl rfl rfl ?_
  refine r_ld (AL 1 c_i64 t2.Nodes) sc_22 rfl rfl rfl ?_
  refine r_faO (AObj 0) 1 fo_135_1 rfl .obj rfl rfl rfl ?_
  refine r_ldO (ABoxAt 0 1) (I_ ((nth t0.Edges x27).From)) sc_3 rfl .at rfl rfl rfl ?_
  refine R_if (fun h47 => ?_) (fun _ => R_none)
  refine r_ix (cc := c_i64) el_22 rfl rfl h47.1 h47.2 rfl ?_
  refine r_ld (I_ (nth t2.Nodes ((nth t0.Edges x27).From))) sc_3 rfl rfl rfl ?_
  refine r_faO (AObj 1) 1 fo_135_1 rfl .obj rfl rfl rfl ?_
  refine r_ldO (ABoxAt 1 1) (I_ ((nth t1.Edges (nth t2.Edges x27)).From)) sc_3 rfl .at rfl rfl rfl ?_
  refine r_neq rfl rfl rfl ?_
  refine r_move (ABool (decide (¬ ((nth t2.Nodes ((nth t0.Edges x27).From)) = (nth t1.Edges (nth t2.Edges x27)).From)))) rfl rfl ?_
  refine R_if (fun h48 => ?_) (fun h48 => ?_)
  · refine R_skip (g_fn rfl rfl (dt h48)) ?_
    refine R_skip (g_fn rfl rfl (dt h48)) ?_
    refine R_skip (g_fn rfl rfl (dt h48)) ?_
    refine R_skip (g_fn rfl rfl (dt h48)) ?_
    refine R_skip (g_fn rfl rfl (dt h48)) ?_
    refine R_skip (g_fn rfl rfl (dt h48)) ?_
    refine R_skip (g_fn rfl rfl (dt h48)) ?_
    refine R_skip (g_fn rfl rfl (dt h48)) ?_
    refine R_skip (g_fn rfl rfl (dt h48)) ?_
    refine r_pickT (ABool true) rfl (dt h48) rfl rfl ?_
    refine R_nilD rfl ?_
    refine J_cond_T rfl rfl ?_
    refine J_seq ?_
    refine J_region rfl ?_
    refine r_assign (I_ 11) rfl rfl ?_
    refine R_nil0 ?_
    refine J_outS ?_
    exact J_ret hΨ (Res_one rfl) (fun y hy => by cases hy; rfl)
  refine r_faT ((cL 1 c_i64) t2.Nodes) fo_32_0 rfl rfl (g_f rfl rfl (df h48)) ?_
  refine r_ld (AL 1 c_i64 t2.Nodes) sc_22 rfl rfl (g_f rfl rfl (df h48)) ?_
  refine r_faO (AObj 0) 2 fo_135_2 rfl .obj rfl rfl (g_f rfl rfl (df h48)) ?_
  refine r_ldO (ABoxAt 0 2) (I_ ((nth t0.Edges x27).To)) sc_3 rfl .at rfl rfl (g_f rfl rfl (df h48)) ?_
  refine R_if (fun h49 => ?_) (fun _ => R_none)
  refine r_ix (cc := c_i64) el_22 rfl rfl h49.1 h49.2 (g_f rfl rfl (df h48)) ?_
  refine r_ld (I_ (nth t2.Nodes ((nth t0.Edges x27).To))) sc_3 rfl rfl (g_f rfl rfl (df h48)) ?_
  refine r_faO (AObj 1) 2 fo_135_2 rfl .obj rfl rfl (g_f rfl rfl (df h48)) ?_
  refine r_ldO (ABoxAt 1 2) (I_ ((nth t1.Edges (nth t2.Edges x27)).To)) sc_3 rfl .at rfl rfl (g_f rfl rfl (df h48)) ?_
  refine r_neq rfl rfl (g_f rfl rfl (df h48)) ?_
  refine r_pickF (ABool (decide (¬ ((nth t2.Nodes ((nth t0.Edges x27).To)) = (nth t1.Edges (nth t2.Edges x27)).To)))) rfl (df h48) rfl rfl ?_
  refine R_nilD rfl ?_
  refine J_cond_p rfl (fun h50 => ?_) (fun h50 => ?_)
  · refine J_seq ?_
    refine J_region rfl ?_
    refine r_assign (I_ 11) rfl rfl ?_
    refine R_nil0 ?_
    refine J_outS ?_
    exact J_ret hΨ (Res_one rfl) (fun y hy => by cases hy; rfl)
  refine J_skip ?_
  refine J_inBlock ?_
  refine J_range 36 (m := (t0.Edges.length : Int)) rfl fun q51 => ?_
  refine J_range 10 (m := x27) rfl fun q52 => ?_
  refine J_region rfl ?_
  refine r_move (I_ x27) rfl rfl ?_
  refine r_add (x27 + 1) rfl rfl (wrap_i64 (by omega) (by omega)) rfl ?_
  refine r_assign (I_ (x27 + 1)) rfl rfl ?_
  refine R_nil0 ?_
  refine J_go ?_
  refine J_cv [] [] [] 0 [(3, APtr (c_api_Graph t0)), (4, APtr (c_api_Graph t1)), (5, APtr (c_api_Morphism t2)), (6, I_ 0), (7, I_ b1), (8, I_ b4), (9, I_ x9), (10, I_ (x27 + 1)), (14, I_ b1), (15, I_ b1), (19, I_ b4), (20, I_ b4), (25, I_ (t2.Nodes.length : Int)), (28, I_ (t0.Nodes.length : Int)), (33, I_ (t2.Edges.length : Int)), (36, I_ (t0.Edges.length : Int)), (39, I_ x9), (42, I_ (t0.Nodes.length : Int))] [] (.same rfl (.same rfl (.same rfl (.same rfl (.same rfl (.same rfl (.same rfl (.same rfl (.same rfl (.same rfl (.same rfl (.same rfl (.same rfl (.same rfl (.same rfl (.same rfl (.same rfl (.same rfl .nil)))))))))))))))))) .nil rfl rfl ?_
  exact hE28 (x27 + 1)
theorem k_ref24_span (t0 : api_Rule) (r : Int) (hr : ref24_span t0 = some r) : FnP PP 41 [AAgg (c_api_Rule t0)] (I_ r) := by
  refine FnP.of mixed_ Tryz.func41 rfl (n := 33) rfl (fun (r : Int) => I_ r) nk_args NK.nk rfl hr fun X hΨ => ?_
  refine J_seq ?_
  refine J_region rfl ?_
  refine r_boxV (AAgg (c_api_Rule t0)) rfl rfl ?_
  refine r_assign (I_ 0) rfl rfl ?_
  refine R_nil0 ?_
  refine J_seq ?_
  refine J_seq ?_
  refine J_region rfl ?_
  refine r_faT (c_api_Pattern t0.Left) fo_37_1 rfl rfl rfl ?_
  refine r_faT (c_api_Graph t0.Left.Graph) fo_29_0 rfl rfl rfl ?_
  refine r_lda (c_api_Graph t0.Left.Graph) ag_25 rfl rfl rfl rfl ?_
  refine r_faT (c_api_Part t0.Keep) fo_37_3 rfl rfl rfl ?_
  refine r_lda (c_api_Part t0.Keep) ag_31 rfl rfl rfl rfl ?_
  refine R_bind fun b1 h2 => ?_
  refine r_call _ fn_92 (k_ref07_Valid _ _ _ h2) rfl rfl ?_
  refine r_assign (I_ b1) rfl rfl ?_
  refine R_nil0 ?_
  refine J_seq ?_
  refine J_region rfl ?_
  refine r_move (I_ b1) rfl rfl ?_
  refine r_neq rfl rfl rfl ?_
  refine R_nil0 ?_
  refine J_cond_p rfl (fun h3 => ?_) (fun h3 => ?_)
  · refine J_seq ?_
    refine J_region rfl ?_
    refine r_move (I_ b1) rfl rfl ?_
    refine r_assign (I_ b1) rfl rfl ?_
    refine R_nil0 ?_
    exact J_ret hΨ (Res_one rfl) (fun y hy => by cases hy; rfl)
  refine J_skip ?_
  refine J_seq ?_
  refine J_region rfl ?_
  refine r_faT (c_api_Pattern t0.Left) fo_37_1 rfl rfl rfl ?_
  refine r_faT (c_api_Graph t0.Left.Graph) fo_29_0 rfl rfl rfl ?_
  refine r_lda (c_api_Graph t0.Left.Graph) ag_25 rfl rfl rfl rfl ?_
  refine r_faT (c_api_Part t0.Keep) fo_37_3 rfl rfl rfl ?_
  refine r_lda (c_api_Part t0.Keep) ag_31 rfl rfl rfl rfl ?_
  refine R_bind fun b4 h5 => ?_
  refine r_call _ fn_52 (k_ref07_Extract _ _ _ h5) rfl rfl ?_
  refine r_move (ATup [AAgg (c_api_Graph b4.1), AAgg (c_api_Morphism b4.2.1), I_ b4.2.2]) rfl rfl ?_
  refine r_ext (AAgg (c_api_Graph b4.1)) rfl rfl rfl ?_
  refine r_ext (AAgg (c_api_Morphism b4.2.1)) rfl rfl rfl ?_
  refine r_ext (I_ b4.2.2) rfl rfl rfl ?_
  refine r_alloc 0 _ z_25 rfl rfl ?_
  refine r_alloc 1 _ z_32 rfl rfl ?_
  refine r_stO (AObj 0) (AAgg (c_api_Graph b4.1)) (c_api_Graph b4.1) sz_25 rfl .obj rfl rfl rfl rfl rfl rfl ?_
  refine r_stO (AObj 1) (AAgg (c_api_Morphism b4.2.1)) (c_api_Morphism b4.2.1) sz_32 rfl .obj rfl rfl rfl rfl rfl rfl ?_
  refine r_assign (I_ b4.2.2) rfl rfl ?_
  refine R_nil0 ?_
  refine J_seq ?_
  refine J_region rfl ?_
  refine r_ldaO (AObj 0) (c_api_Graph b4.1) ag_25 rfl .obj rfl rfl rfl rfl ?_
  refine r_faT (c_api_Pattern t0.Right) fo_37_2 rfl rfl rfl ?_
  refine r_faT (c_api_Graph t0.Right.Graph) fo_29_0 rfl rfl rfl ?_
  refine r_lda (c_api_Graph t0.Right.Graph) ag_25 rfl rfl rfl rfl ?_
  refine r_faT (c_api_Morphism t0.Into) fo_37_4 rfl rfl rfl ?_
  refine r_lda (c_api_Morphism t0.Into) ag_32 rfl rfl rfl rfl ?_
  refine R_bind fun b6 h7 => ?_
  refine r_call _ fn_93 (k_ref06_Valid _ _ _ _ h7) rfl rfl ?_
  refine r_assign (I_ b6) rfl rfl ?_
  refine R_nil0 ?_
  exact J_ret hΨ (Res_one rfl) (fun y hy => by cases hy; rfl)
theorem k_ref05_Copied (t0 : api_Graph) (r : api_Graph) (hr : ref05_Copied t0 = some r) : FnP PP 94 [AAgg (c_api_Graph t0)] (AAgg (c_api_Graph r)) := by
  refine FnP.of mixed_ Tryz.func94 rfl (n := 12) rfl (fun (r : api_Graph) => AAgg (c_api_Graph r)) nk_args NK.nk rfl hr fun X hΨ => ?_
  refine J_seq ?_
  refine J_region rfl ?_
  refine r_boxV (AAgg (c_api_Graph t0)) rfl rfl ?_
  refine r_alloc 0 _ z_25 rfl rfl ?_
  refine R_nil0 ?_
  refine J_seq ?_
  refine J_draw ?_
  refine r_bs0 1 el_22 rfl rfl ?_
  refine r_faT ((cL 1 c_i64) t0.Nodes) fo_25_0 rfl rfl rfl ?_
  refine r_ld (AL 1 c_i64 t0.Nodes) sc_22 rfl rfl rfl ?_
  refine R_if (fun h1 => ?_) (fun _ => R_none)
  refine r_app0 (cc := c_i64) (ys := t0.Nodes) 2 ap_22 rfl rfl rfl h1 rfl rfl rfl ?_
  refine r_bs0 3 el_23 rfl rfl ?_
  refine r_faT ((cL 3 c_api_Edge) t0.Edges) fo_25_1 rfl rfl rfl ?_
  refine r_ld (AL 3 c_api_Edge t0.Edges) sc_23 rfl rfl rfl ?_
  refine R_if (fun h2 => ?_) (fun _ => R_none)
  refine r_app0 (cc := c_api_Edge) (ys := t0.Edges) 4 ap_23 rfl rfl rfl h2 rfl rfl rfl ?_
  refine r_build [AObj 2, AObj 4] pl_25 z_25 (.cons (A := AObj 2) rfl po_25_0 rfl (.cons (A := AObj 4) rfl po_25_1 rfl .nil)) rfl rfl ?_
  refine r_stO (AObj 0) (AAgg [AObj 2, AObj 4]) [AObj 2, AObj 4] sz_25 rfl .obj rfl rfl rfl rfl rfl rfl ?_
  refine R_nilD rfl ?_
  exact J_retF hΨ (Res_box rfl (.boxA (cs := [AObj 2, AObj 4]) ag_25 rfl rfl rfl)) (fun y hy => by cases hy; exact (.agg (.cons (.frow rfl rfl (NKC.flat _ _)) (.cons (.frow rfl rfl (NKC.flat _ _)) .nil))))
theorem k_ref24_plain (t0 : api_Rule) (r : api_Rule) (hr : ref24_plain t0 = some r) : FnP PP 42 [AAgg (c_api_Rule t0)] (AAgg (c_api_Rule r)) := by
  refine FnP.of mixed_ Tryz.func42 rfl (n := 41) rfl (fun (r : api_Rule) => AAgg (c_api_Rule r)) nk_args NK.nk rfl hr fun X hΨ => ?_
  refine J_seq ?_
  refine J_region rfl ?_
  refine r_boxV (AAgg (c_api_Rule t0)) rfl rfl ?_
  refine r_alloc 0 _ z_37 rfl rfl ?_
  refine R_nil0 ?_
  refine J_seq ?_
  refine J_draw ?_
  refine r_faT (c_str t0.Name) fo_37_0 rfl rfl rfl ?_
  refine r_ld (AStr t0.Name) sc_9 rfl rfl rfl ?_
  refine r_faT (c_api_Pattern t0.Left) fo_37_1 rfl rfl rfl ?_
  refine r_faT (c_api_Graph t0.Left.Graph) fo_29_0 rfl rfl rfl ?_
  refine r_lda (c_api_Graph t0.Left.Graph) ag_25 rfl rfl rfl rfl ?_
  refine R_bind fun b1 h2 => ?_
  refine r_call _ fn_94 (k_ref05_Copied _ _ h2) rfl rfl ?_
  refine r_buildI (Cs := [AL 1 c_i64 b1.Nodes, AL 3 c_api_Edge b1.Edges, ANil, I_ 0, ANil]) (c_api_Pattern (api_Pattern.mk b1 [] 0 [])) pl_29 z_29 (.cons (A := AAgg (c_api_Graph b1)) rfl po_29_0 rfl .nil) rfl (.same (.same (.nl (.same (.nl .nil))))) rfl ?_
  refine r_faT (c_api_Pattern t0.Right) fo_37_2 rfl rfl rfl ?_
  refine r_faT (c_api_Graph t0.Right.Graph) fo_29_0 rfl rfl rfl ?_
  refine r_lda (c_api_Graph t0.Right.Graph) ag_25 rfl rfl rfl rfl ?_
  refine R_bind fun b3 h4 => ?_
  refine r_call _ fn_94 (k_ref05_Copied _ _ h4) rfl rfl ?_
  refine r_buildI (Cs := [AL 1 c_i64 b3.Nodes, AL 3 c_api_Edge b3.Edges, ANil, I_ 0, ANil]) (c_api_Pattern (api_Pattern.mk b3 [] 0 [])) pl_29 z_29 (.cons (A := AAgg (c_api_Graph b3)) rfl po_29_0 rfl .nil) rfl (.same (.same (.nl (.same (.nl .nil))))) rfl ?_
  refine r_bs0 1 el_22 rfl rfl ?_
  refine r_faT (c_api_Part t0.Keep) fo_37_3 rfl rfl rfl ?_
  refine r_faT ((cL 1 c_i64) t0.Keep.Nodes) fo_31_0 rfl rfl rfl ?_
  refine r_ld (AL 1 c_i64 t0.Keep.Nodes) sc_22 rfl rfl rfl ?_
  refine R_if (fun h5 => ?_) (fun _ => R_none)
  refine r_app0 (cc := c_i64) (ys := t0.Keep.Nodes) 2 ap_22 rfl rfl rfl h5 rfl rfl rfl ?_
  refine r_bs0 3 el_22 rfl rfl ?_
  refine r_faT (c_api_Part t0.Keep) fo_37_3 rfl rfl rfl ?_
  refine r_faT ((cL 1 c_i64) t0.Keep.Edges) fo_31_1 rfl rfl rfl ?_
  refine r_ld (AL 1 c_i64 t0.Keep.Edges) sc_22 rfl rfl rfl ?_
  refine R_if (fun h6 => ?_) (fun _ => R_none)
  refine r_app0 (cc := c_i64) (ys := t0.Keep.Edges) 4 ap_22 rfl rfl rfl h6 rfl rfl rfl ?_
  refine r_build [AObj 2, AObj 4] pl_31 z_31 (.cons (A := AObj 2) rfl po_31_0 rfl (.cons (A := AObj 4) rfl po_31_1 rfl .nil)) rfl rfl ?_
  refine r_bs0 5 el_22 rfl rfl ?_
  refine r_faT (c_api_Morphism t0.Into) fo_37_4 rfl rfl rfl ?_
  refine r_faT ((cL 1 c_i64) t0.Into.Nodes) fo_32_0 rfl rfl rfl ?_
  refine r_ld (AL 1 c_i64 t0.Into.Nodes) sc_22 rfl rfl rfl ?_
  refine R_if (fun h7 => ?_) (fun _ => R_none)
  refine r_app0 (cc := c_i64) (ys := t0.Into.Nodes) 6 ap_22 rfl rfl rfl h7 rfl rfl rfl ?_
  refine r_bs0 7 el_22 rfl rfl ?_
  refine r_faT (c_api_Morphism t0.Into) fo_37_4 rfl rfl rfl ?_
  refine r_faT ((cL 1 c_i64) t0.Into.Edges) fo_32_1 rfl rfl rfl ?_
  refine r_ld (AL 1 c_i64 t0.Into.Edges) sc_22 rfl rfl rfl ?_
  refine R_if (fun h8 => ?_) (fun _ => R_none)
  refine r_app0 (cc := c_i64) (ys := t0.Into.Edges) 8 ap_22 rfl rfl rfl h8 rfl rfl rfl ?_
  refine r_build [AObj 6, AObj 8] pl_32 z_32 (.cons (A := AObj 6) rfl po_32_0 rfl (.cons (A := AObj 8) rfl po_32_1 rfl .nil)) rfl rfl ?_
  refine r_faT (c_bool t0.Injective) fo_37_5 rfl rfl rfl ?_
  refine r_ld (ABool t0.Injective) sc_4 rfl rfl rfl ?_
  refine r_buildI (Cs := [I_ 1, ANil, ANil, ANil, ANil, ANil, ANil, I_ 0, ANil]) (c_api_Condition (api_Condition.mk 1 [] (api_Morphism.mk [] []) (api_Pattern.mk (api_Graph.mk [] []) [] 0 []))) pl_35 z_35 (.cons (A := I_ 1) rfl po_35_0 rfl .nil) rfl (by rw [c_api_Condition_def]; exact (.same (.nl (.nl (.nl (.nl (.nl (.nl (.same (.nl .nil)))))))))) rfl ?_
  refine r_build [AStr t0.Name, AL 1 c_i64 b1.Nodes, AL 3 c_api_Edge b1.Edges, AL 4 c_api_Slot [], I_ 0, AL 5 c_api_Test [], AL 1 c_i64 b3.Nodes, AL 3 c_api_Edge b3.Edges, AL 4 c_api_Slot [], I_ 0, AL 5 c_api_Test [], AObj 2, AObj 4, AObj 6, AObj 8, ABool t0.Injective, I_ 1, AL 9 c_api_Condition [], AL 1 c_i64 [], AL 1 c_i64 [], AL 1 c_i64 [], AL 3 c_api_Edge [], AL 4 c_api_Slot [], I_ 0, AL 5 c_api_Test []] pl_37 z_37 (.cons (A := AStr t0.Name) rfl po_37_0 rfl (.cons (A := AAgg (c_api_Pattern (api_Pattern.mk b1 [] 0 []))) rfl po_37_1 rfl (.cons (A := AAgg (c_api_Pattern (api_Pattern.mk b3 [] 0 []))) rfl po_37_2 rfl (.cons (A := AAgg [AObj 2, AObj 4]) rfl po_37_3 rfl (.cons (A := AAgg [AObj 6, AObj 8]) rfl po_37_4 rfl (.cons (A := ABool t0.Injective) rfl po_37_5 rfl (.cons (A := AAgg (c_api_Condition (api_Condition.mk 1 [] (api_Morphism.mk [] []) (api_Pattern.mk (api_Graph.mk [] []) [] 0 [])))) rfl po_37_6 rfl .nil))))))) rfl rfl ?_
  refine r_stO (AObj 0) (AAgg [AStr t0.Name, AL 1 c_i64 b1.Nodes, AL 3 c_api_Edge b1.Edges, AL 4 c_api_Slot [], I_ 0, AL 5 c_api_Test [], AL 1 c_i64 b3.Nodes, AL 3 c_api_Edge b3.Edges, AL 4 c_api_Slot [], I_ 0, AL 5 c_api_Test [], AObj 2, AObj 4, AObj 6, AObj 8, ABool t0.Injective, I_ 1, AL 9 c_api_Condition [], AL 1 c_i64 [], AL 1 c_i64 [], AL 1 c_i64 [], AL 3 c_api_Edge [], AL 4 c_api_Slot [], I_ 0, AL 5 c_api_Test []]) [AStr t0.Name, AL 1 c_i64 b1.Nodes, AL 3 c_api_Edge b1.Edges, AL 4 c_api_Slot [], I_ 0, AL 5 c_api_Test [], AL 1 c_i64 b3.Nodes, AL 3 c_api_Edge b3.Edges, AL 4 c_api_Slot [], I_ 0, AL 5 c_api_Test [], AObj 2, AObj 4, AObj 6, AObj 8, ABool t0.Injective, I_ 1, AL 9 c_api_Condition [], AL 1 c_i64 [], AL 1 c_i64 [], AL 1 c_i64 [], AL 3 c_api_Edge [], AL 4 c_api_Slot [], I_ 0, AL 5 c_api_Test []] sz_37 rfl .obj rfl rfl rfl rfl rfl rfl ?_
  refine R_nilD rfl ?_
  exact J_retF hΨ (Res_box rfl (.boxA (cs := [AStr t0.Name, AL 1 c_i64 b1.Nodes, AL 3 c_api_Edge b1.Edges, AL 4 c_api_Slot [], I_ 0, AL 5 c_api_Test [], AL 1 c_i64 b3.Nodes, AL 3 c_api_Edge b3.Edges, AL 4 c_api_Slot [], I_ 0, AL 5 c_api_Test [], AObj 2, AObj 4, AObj 6, AObj 8, ABool t0.Injective, I_ 1, AL 9 c_api_Condition [], AL 1 c_i64 [], AL 1 c_i64 [], AL 1 c_i64 [], AL 3 c_api_Edge [], AL 4 c_api_Slot [], I_ 0, AL 5 c_api_Test []]) ag_37 rfl rfl rfl)) (fun y hy => by cases hy; exact (.agg (.cons .same (.cons .same (.cons .same (.cons .same (.cons .same (.cons .same (.cons .same (.cons .same (.cons .same (.cons .same (.cons .same (.cons (.frow rfl rfl (NKC.flat _ _)) (.cons (.frow rfl rfl (NKC.flat _ _)) (.cons (.frow rfl rfl (NKC.flat _ _)) (.cons (.frow rfl rfl (NKC.flat _ _)) (.cons .same (.cons .same (.cons .same (.cons .same (.cons .same (.cons .same (.cons .same (.cons .same (.cons .same (.cons .same .nil)))))))))))))))))))))))))))
theorem k_ref24_Plain (t0 : api_Rule) (r : api_Rule × Int) (hr : ref24_Plain t0 = some r) : FnP PP 11 [AAgg (c_api_Rule t0)] (ATup [AAgg (c_api_Rule r.1), I_ r.2]) := by
  refine FnP.of mixed_ Tryz.func11 rfl (n := 31) rfl (fun (r : api_Rule × Int) => ATup [AAgg (c_api_Rule r.1), I_ r.2]) nk_args NK.nk rfl hr fun X hΨ => ?_
  refine J_seq ?_
  refine J_region rfl ?_
  refine r_boxV (AAgg (c_api_Rule t0)) rfl rfl ?_
  refine r_alloc 0 _ z_37 rfl rfl ?_
  refine r_assign (I_ 0) rfl rfl ?_
  refine R_nil0 ?_
  refine J_seq ?_
  refine J_seq ?_
  refine J_region rfl ?_
  refine r_faT (c_api_Pattern t0.Left) fo_37_1 rfl rfl rfl ?_
  refine r_faT (c_api_Graph t0.Left.Graph) fo_29_0 rfl rfl rfl ?_
  refine r_lda (c_api_Graph t0.Left.Graph) ag_25 rfl rfl rfl rfl ?_
  refine R_bind fun b1 h2 => ?_
  refine r_call _ fn_40 (k_ref05_Valid _ _ h2) rfl rfl ?_
  refine r_assign (I_ b1) rfl rfl ?_
  refine R_nil0 ?_
  refine J_seq ?_
  refine J_region rfl ?_
  refine r_move (I_ b1) rfl rfl ?_
  refine r_neq rfl rfl rfl ?_
  refine R_nil0 ?_
  refine J_cond_p rfl (fun h3 => ?_) (fun h3 => ?_)
  · refine J_seq ?_
    refine J_region rfl ?_
    refine r_buildI (Cs := [AStr (ByteArray.mk #[]), ANil, ANil, ANil, I_ 0, ANil, ANil, ANil, ANil, I_ 0, ANil, ANil, ANil, ANil, ANil, ABool false, I_ 0, ANil, ANil, ANil, ANil, ANil, ANil, I_ 0, ANil]) (c_api_Rule (api_Rule.mk (ByteArray.mk #[]) (api_Pattern.mk (api_Graph.mk [] []) [] 0 []) (api_Pattern.mk (api_Graph.mk [] []) [] 0 []) (api_Part.mk [] []) (api_Morphism.mk [] []) false (api_Condition.mk 0 [] (api_Morphism.mk [] []) (api_Pattern.mk (api_Graph.mk [] []) [] 0 [])))) pl_37 z_37 .nil rfl (.same (.nl (.nl (.nl (.same (.nl (.nl (.nl (.nl (.same (.nl (.nl (.nl (.nl (.nl (.same (.same (.nl (.nl (.nl (.nl (.nl (.nl (.same (.nl .nil))))))))))))))))))))))))) rfl ?_
    refine r_move (I_ b1) rfl rfl ?_
    refine r_stO (AObj 0) (AAgg (c_api_Rule (api_Rule.mk (ByteArray.mk #[]) (api_Pattern.mk (api_Graph.mk [] []) [] 0 []) (api_Pattern.mk (api_Graph.mk [] []) [] 0 []) (api_Part.mk [] []) (api_Morphism.mk [] []) false (api_Condition.mk 0 [] (api_Morphism.mk [] []) (api_Pattern.mk (api_Graph.mk [] []) [] 0 []))))) (c_api_Rule (api_Rule.mk (ByteArray.mk #[]) (api_Pattern.mk (api_Graph.mk [] []) [] 0 []) (api_Pattern.mk (api_Graph.mk [] []) [] 0 []) (api_Part.mk [] []) (api_Morphism.mk [] []) false (api_Condition.mk 0 [] (api_Morphism.mk [] []) (api_Pattern.mk (api_Graph.mk [] []) [] 0 [])))) sz_37 rfl .obj rfl rfl rfl rfl rfl rfl ?_
    refine r_assign (I_ b1) rfl rfl ?_
    refine R_nil0 ?_
    exact J_ret hΨ (Res_many (As := [AAgg (c_api_Rule (api_Rule.mk (ByteArray.mk #[]) (api_Pattern.mk (api_Graph.mk [] []) [] 0 []) (api_Pattern.mk (api_Graph.mk [] []) [] 0 []) (api_Part.mk [] []) (api_Morphism.mk [] []) false (api_Condition.mk 0 [] (api_Morphism.mk [] []) (api_Pattern.mk (api_Graph.mk [] []) [] 0 [])))), I_ b1]) rfl rfl (.cons (.boxA (cs := (c_api_Rule (api_Rule.mk (ByteArray.mk #[]) (api_Pattern.mk (api_Graph.mk [] []) [] 0 []) (api_Pattern.mk (api_Graph.mk [] []) [] 0 []) (api_Part.mk [] []) (api_Morphism.mk [] []) false (api_Condition.mk 0 [] (api_Morphism.mk [] []) (api_Pattern.mk (api_Graph.mk [] []) [] 0 []))))) ag_37 rfl rfl rfl) (.cons (.tmp (A := I_ b1) rfl) .nil))) (fun y hy => by cases hy; rfl)
  refine J_skip ?_
  refine J_seq ?_
  refine J_seq ?_
  refine J_region rfl ?_
  refine r_faT (c_api_Pattern t0.Right) fo_37_2 rfl rfl rfl ?_
  refine r_faT (c_api_Graph t0.Right.Graph) fo_29_0 rfl rfl rfl ?_
  refine r_lda (c_api_Graph t0.Right.Graph) ag_25 rfl rfl rfl rfl ?_
  refine R_bind fun b4 h5 => ?_
  refine r_call _ fn_40 (k_ref05_Valid _ _ h5) rfl rfl ?_
  refine r_assign (I_ b4) rfl rfl ?_
  refine R_nil0 ?_
  refine J_seq ?_
  refine J_region rfl ?_
  refine r_move (I_ b4) rfl rfl ?_
  refine r_neq rfl rfl rfl ?_
  refine R_nil0 ?_
  refine J_cond_p rfl (fun h6 => ?_) (fun h6 => ?_)
  · refine J_seq ?_
    refine J_region rfl ?_
    refine r_buildI (Cs := [AStr (ByteArray.mk #[]), ANil, ANil, ANil, I_ 0, ANil, ANil, ANil, ANil, I_ 0, ANil, ANil, ANil, ANil, ANil, ABool false, I_ 0, ANil, ANil, ANil, ANil, ANil, ANil, I_ 0, ANil]) (c_api_Rule (api_Rule.mk (ByteArray.mk #[]) (api_Pattern.mk (api_Graph.mk [] []) [] 0 []) (api_Pattern.mk (api_Graph.mk [] []) [] 0 []) (api_Part.mk [] []) (api_Morphism.mk [] []) false (api_Condition.mk 0 [] (api_Morphism.mk [] []) (api_Pattern.mk (api_Graph.mk [] []) [] 0 [])))) pl_37 z_37 .nil rfl (.same (.nl (.nl (.nl (.same (.nl (.nl (.nl (.nl (.same (.nl (.nl (.nl (.nl (.nl (.same (.same (.nl (.nl (.nl (.nl (.nl (.nl (.same (.nl .nil))))))))))))))))))))))))) rfl ?_
    refine r_move (I_ b4) rfl rfl ?_
    refine r_stO (AObj 0) (AAgg (c_api_Rule (api_Rule.mk (ByteArray.mk #[]) (api_Pattern.mk (api_Graph.mk [] []) [] 0 []) (api_Pattern.mk (api_Graph.mk [] []) [] 0 []) (api_Part.mk [] []) (api_Morphism.mk [] []) false (api_Condition.mk 0 [] (api_Morphism.mk [] []) (api_Pattern.mk (api_Graph.mk [] []) [] 0 []))))) (c_api_Rule (api_Rule.mk (ByteArray.mk #[]) (api_Pattern.mk (api_Graph.mk [] []) [] 0 []) (api_Pattern.mk (api_Graph.mk [] []) [] 0 []) (api_Part.mk [] []) (api_Morphism.mk [] []) false (api_Condition.mk 0 [] (api_Morphism.mk [] []) (api_Pattern.mk (api_Graph.mk [] []) [] 0 [])))) sz_37 rfl .obj rfl rfl rfl rfl rfl rfl ?_
    refine r_assign (I_ b4) rfl rfl ?_
    refine R_nil0 ?_
    exact J_ret hΨ (Res_many (As := [AAgg (c_api_Rule (api_Rule.mk (ByteArray.mk #[]) (api_Pattern.mk (api_Graph.mk [] []) [] 0 []) (api_Pattern.mk (api_Graph.mk [] []) [] 0 []) (api_Part.mk [] []) (api_Morphism.mk [] []) false (api_Condition.mk 0 [] (api_Morphism.mk [] []) (api_Pattern.mk (api_Graph.mk [] []) [] 0 [])))), I_ b4]) rfl rfl (.cons (.boxA (cs := (c_api_Rule (api_Rule.mk (ByteArray.mk #[]) (api_Pattern.mk (api_Graph.mk [] []) [] 0 []) (api_Pattern.mk (api_Graph.mk [] []) [] 0 []) (api_Part.mk [] []) (api_Morphism.mk [] []) false (api_Condition.mk 0 [] (api_Morphism.mk [] []) (api_Pattern.mk (api_Graph.mk [] []) [] 0 []))))) ag_37 rfl rfl rfl) (.cons (.tmp (A := I_ b4) rfl) .nil))) (fun y hy => by cases hy; rfl)
  refine J_skip ?_
  refine J_seq ?_
  refine J_seq ?_
  refine J_region rfl ?_
  refine r_lda (c_api_Rule t0) ag_37 rfl rfl rfl rfl ?_
  refine R_bind fun b7 h8 => ?_
  refine r_call _ fn_41 (k_ref24_span _ _ h8) rfl rfl ?_
  refine r_assign (I_ b7) rfl rfl ?_
  refine R_nil0 ?_
  refine J_seq ?_
  refine J_region rfl ?_
  refine r_move (I_ b7) rfl rfl ?_
  refine r_neq rfl rfl rfl ?_
  refine R_nil0 ?_
  refine J_cond_p rfl (fun h9 => ?_) (fun h9 => ?_)
  · refine J_seq ?_
    refine J_region rfl ?_
    refine r_buildI (Cs := [AStr (ByteArray.mk #[]), ANil, ANil, ANil, I_ 0, ANil, ANil, ANil, ANil, I_ 0, ANil, ANil, ANil, ANil, ANil, ABool false, I_ 0, ANil, ANil, ANil, ANil, ANil, ANil, I_ 0, ANil]) (c_api_Rule (api_Rule.mk (ByteArray.mk #[]) (api_Pattern.mk (api_Graph.mk [] []) [] 0 []) (api_Pattern.mk (api_Graph.mk [] []) [] 0 []) (api_Part.mk [] []) (api_Morphism.mk [] []) false (api_Condition.mk 0 [] (api_Morphism.mk [] []) (api_Pattern.mk (api_Graph.mk [] []) [] 0 [])))) pl_37 z_37 .nil rfl (.same (.nl (.nl (.nl (.same (.nl (.nl (.nl (.nl (.same (.nl (.nl (.nl (.nl (.nl (.same (.same (.nl (.nl (.nl (.nl (.nl (.nl (.same (.nl .nil))))))))))))))))))))))))) rfl ?_
    refine r_move (I_ b7) rfl rfl ?_
    refine r_stO (AObj 0) (AAgg (c_api_Rule (api_Rule.mk (ByteArray.mk #[]) (api_Pattern.mk (api_Graph.mk [] []) [] 0 []) (api_Pattern.mk (api_Graph.mk [] []) [] 0 []) (api_Part.mk [] []) (api_Morphism.mk [] []) false (api_Condition.mk 0 [] (api_Morphism.mk [] []) (api_Pattern.mk (api_Graph.mk [] []) [] 0 []))))) (c_api_Rule (api_Rule.mk (ByteArray.mk #[]) (api_Pattern.mk (api_Graph.mk [] []) [] 0 []) (api_Pattern.mk (api_Graph.mk [] []) [] 0 []) (api_Part.mk [] []) (api_Morphism.mk [] []) false (api_Condition.mk 0 [] (api_Morphism.mk [] []) (api_Pattern.mk (api_Graph.mk [] []) [] 0 [])))) sz_37 rfl .obj rfl rfl rfl rfl rfl rfl ?_
    refine r_assign (I_ b7) rfl rfl ?_
    refine R_nil0 ?_
    exact J_ret hΨ (Res_many (As := [AAgg (c_api_Rule (api_Rule.mk (ByteArray.mk #[]) (api_Pattern.mk (api_Graph.mk [] []) [] 0 []) (api_Pattern.mk (api_Graph.mk [] []) [] 0 []) (api_Part.mk [] []) (api_Morphism.mk [] []) false (api_Condition.mk 0 [] (api_Morphism.mk [] []) (api_Pattern.mk (api_Graph.mk [] []) [] 0 [])))), I_ b7]) rfl rfl (.cons (.boxA (cs := (c_api_Rule (api_Rule.mk (ByteArray.mk #[]) (api_Pattern.mk (api_Graph.mk [] []) [] 0 []) (api_Pattern.mk (api_Graph.mk [] []) [] 0 []) (api_Part.mk [] []) (api_Morphism.mk [] []) false (api_Condition.mk 0 [] (api_Morphism.mk [] []) (api_Pattern.mk (api_Graph.mk [] []) [] 0 []))))) ag_37 rfl rfl rfl) (.cons (.tmp (A := I_ b7) rfl) .nil))) (fun y hy => by cases hy; rfl)
  refine J_skip ?_
  refine J_seq ?_
  refine J_region rfl ?_
  refine r_lda (c_api_Rule t0) ag_37 rfl rfl rfl rfl ?_
  refine R_bind fun b10 h11 => ?_
  refine r_call _ fn_42 (k_ref24_plain _ _ h11) rfl rfl ?_
  refine r_stO (AObj 0) (AAgg (c_api_Rule b10)) (c_api_Rule b10) sz_37 rfl .obj rfl rfl rfl rfl rfl rfl ?_
  refine r_assign (I_ 0) rfl rfl ?_
  refine R_nil0 ?_
  exact J_ret hΨ (Res_many (As := [AAgg (c_api_Rule b10), I_ 0]) rfl rfl (.cons (.boxA (cs := (c_api_Rule b10)) ag_37 rfl rfl rfl) (.cons (.tmp (A := I_ 0) rfl) .nil))) (fun y hy => by cases hy; rfl)
theorem k_ref05_SameInts (t0 : (List Int)) (t1 : (List Int)) (r : Bool) (hr : ref05_SameInts t0 t1 = some r) : FnP PP 96 [AL 1 c_i64 t0, AL 1 c_i64 t1] (ABool r) := by
  refine FnP.of mixed_ Tryz.func96 rfl (n := 26) rfl (fun (r : Bool) => ABool r) nk_args NK.nk rfl hr fun X hΨ => ?_
  refine J_seq ?_
  refine J_region rfl ?_
  refine r_assign (ABool false) rfl rfl ?_
  refine R_nil0 ?_
  refine J_seq ?_
  refine J_seq ?_
  refine J_region rfl ?_
  refine r_move (AL 1 c_i64 t0) rfl rfl ?_
  refine r_len (cc := c_i64) il_22 rfl rfl ?_
  refine r_move (AL 1 c_i64 t1) rfl rfl ?_
  refine r_len (cc := c_i64) il_22 rfl rfl ?_
  refine r_neq rfl rfl rfl ?_
  refine R_nil0 ?_
  refine J_cond_p rfl (fun h1 => ?_) (fun h1 => ?_)
  · refine J_seq ?_
    refine J_region rfl ?_
    refine r_assign (ABool false) rfl rfl ?_
    refine R_nil0 ?_
    exact J_ret hΨ (Res_one rfl) (fun y hy => by cases hy; rfl)
  refine J_skip ?_
  refine J_seq ?_
  refine J_seq ?_
  refine J_region rfl ?_
  refine r_assign (I_ 0) rfl rfl ?_
  refine R_nil0 ?_
  refine J_block ?_
  refine J_to [(0, AL 1 c_i64 t0), (1, AL 1 c_i64 t1), (5, I_ 0), (7, I_ (t0.length : Int)), (9, I_ (t1.length : Int))] (.cons rfl (.cons rfl (.cons rfl (.cons rfl (.cons rfl .nil))))) ?_
  refine J_it (fun x2 => ⟨fr [(0, AL 1 c_i64 t0), (1, AL 1 c_i64 t1), (5, I_ x2), (7, I_ (t0.length : Int)), (9, I_ (t1.length : Int))], fun _ => none, 0⟩) (fun E3 hE3 x2 => ?_) (by rfl)
  refine J_seq ?_
  refine J_seq ?_
  refine J_region rfl ?_
  refine r_move (I_ x2) rfl rfl ?_
  refine r_move (AL 1 c_i64 t0) rfl rfl ?_
  refine r_len (cc := c_i64) il_22 rfl rfl ?_
  refine r_lss rfl rfl rfl ?_
  refine R_nil0 ?_
  refine J_cond_p rfl (fun h8 => ?_) (fun h8 => ?_)
  rotate_left
  · refine J_exit rfl ?_
    refine J_outS ?_
    refine J_seq ?_
    refine J_region rfl ?_
    refine r_assign (ABool true) rfl rfl ?_
    refine R_nil0 ?_
    exact J_ret hΨ (Res_one rfl) (fun y hy => by cases hy; rfl)
  refine J_skip ?_
  refine J_seq ?_
  refine J_block ?_
  refine J_seq ?_
  refine J_draw ?_
  refine r_move (AL 1 c_i64 t0) rfl rfl ?_
  refine r_move (I_ x2) rfl rfl ?_
  refine R_if (fun h9 => ?_) (fun _ => R_none)
  refine r_ix (cc := c_i64) el_22 rfl rfl h9.1 h9.2 rfl ?_
  refine r_ld (I_ (nth t0 x2)) sc_3 rfl rfl rfl ?_
  refine r_move (AL 1 c_i64 t1) rfl rfl ?_
  refine r_move (I_ x2) rfl rfl ?_
  refine R_if (fun h10 => ?_) (fun _ => R_none)
  refine r_ix (cc := c_i64) el_22 rfl rfl h10.1 h10.2 rfl ?_
  refine r_ld (I_ (nth t1 x2)) sc_3 rfl rfl rfl ?_
  refine r_neq rfl rfl rfl ?_
  refine R_nilD rfl ?_
  refine J_cond_p rfl (fun h11 => ?_) (fun h11 => ?_)
  · refine J_seq ?_
    refine J_region rfl ?_
    refine r_assign (ABool false) rfl rfl ?_
    refine R_nil0 ?_
    refine J_outS ?_
    exact J_ret hΨ (Res_one rfl) (fun y hy => by cases hy; rfl)
  refine J_skip ?_
  refine J_inBlock ?_
  refine J_range 7 (m := (t0.length : Int)) rfl fun q12 => ?_
  refine J_range 5 (m := x2) rfl fun q13 => ?_
  refine J_region rfl ?_
  refine r_move (I_ x2) rfl rfl ?_
  refine r_add (x2 + 1) rfl rfl (wrap_i64 (by omega) (by omega)) rfl ?_
  refine r_assign (I_ (x2 + 1)) rfl rfl ?_
  refine R_nil0 ?_
  refine J_go ?_
  refine J_to [(0, AL 1 c_i64 t0), (1, AL 1 c_i64 t1), (5, I_ (x2 + 1)), (7, I_ (t0.length : Int)), (9, I_ (t1.length : Int))] (.cons rfl (.cons rfl (.cons rfl (.cons rfl (.cons rfl .nil))))) ?_
  exact hE3 (x2 + 1)
theorem k_ref05_Same (t0 : api_Graph) (t1 : api_Graph) (r : Bool) (hr : ref05_Same t0 t1 = some r) : FnP PP 95 [AAgg (c_api_Graph t0), AAgg (c_api_Graph t1)] (ABool r) := by
  refine FnP.of mixed_ Tryz.func95 rfl (n := 39) rfl (fun (r : Bool) => ABool r) nk_args NK.nk rfl hr fun X hΨ => ?_
  refine J_seq ?_
  refine J_region rfl ?_
  refine r_boxV (AAgg (c_api_Graph t0)) rfl rfl ?_
  refine r_boxV (AAgg (c_api_Graph t1)) rfl rfl ?_
  refine r_assign (ABool false) rfl rfl ?_
  refine R_nil0 ?_
  refine J_seq ?_
  refine J_seq ?_
  refine J_region rfl ?_
  refine r_faT ((cL 1 c_i64) t0.Nodes) fo_25_0 rfl rfl rfl ?_
  refine r_ld (AL 1 c_i64 t0.Nodes) sc_22 rfl rfl rfl ?_
  refine r_faT ((cL 1 c_i64) t1.Nodes) fo_25_0 rfl rfl rfl ?_
  refine r_ld (AL 1 c_i64 t1.Nodes) sc_22 rfl rfl rfl ?_
  refine R_bind fun b1 h2 => ?_
  refine r_call _ fn_96 (k_ref05_SameInts _ _ _ h2) rfl rfl ?_
  refine r_not rfl rfl ?_
  refine r_move (ABool (!b1)) rfl rfl ?_
  refine R_if (fun h3 => ?_) (fun h3 => ?_)
  · refine R_skip (g_fn rfl rfl h3) ?_
    refine R_skip (g_fn rfl rfl h3) ?_
    refine R_skip (g_fn rfl rfl h3) ?_
    refine R_skip (g_fn rfl rfl h3) ?_
    refine R_skip (g_fn rfl rfl h3) ?_
    refine R_skip (g_fn rfl rfl h3) ?_
    refine R_skip (g_fn rfl rfl h3) ?_
    refine r_pickT (ABool true) rfl h3 rfl rfl ?_
    refine R_nil0 ?_
    refine J_cond_T rfl rfl ?_
    refine J_seq ?_
    refine J_region rfl ?_
    refine r_assign (ABool false) rfl rfl ?_
    refine R_nil0 ?_
    exact J_ret hΨ (Res_one rfl) (fun y hy => by cases hy; rfl)
  refine r_faT ((cL 3 c_api_Edge) t0.Edges) fo_25_1 rfl rfl (g_f rfl rfl (bf h3)) ?_
  refine r_ld (AL 3 c_api_Edge t0.Edges) sc_23 rfl rfl (g_f rfl rfl (bf h3)) ?_
  refine r_len (cc := c_api_Edge) il_23 rfl (g_f rfl rfl (bf h3)) ?_
  refine r_faT ((cL 3 c_api_Edge) t1.Edges) fo_25_1 rfl rfl (g_f rfl rfl (bf h3)) ?_
  refine r_ld (AL 3 c_api_Edge t1.Edges) sc_23 rfl rfl (g_f rfl rfl (bf h3)) ?_
  refine r_len (cc := c_api_Edge) il_23 rfl (g_f rfl rfl (bf h3)) ?_
  refine r_neq rfl rfl (g_f rfl rfl (bf h3)) ?_
  refine r_pickF (ABool (decide (¬ ((t0.Edges.length : Int) = (t1.Edges.length : Int))))) rfl (bf h3) rfl rfl ?_
  refine R_nil0 ?_
  refine J_cond_p rfl (fun h4 => ?_) (fun h4 => ?_)
  · refine J_seq ?_
    refine J_region rfl ?_
    refine r_assign (ABool false) rfl rfl ?_
    refine R_nil0 ?_
    exact J_ret hΨ (Res_one rfl) (fun y hy => by cases hy; rfl)
  refine J_skip ?_
  refine J_seq ?_
  refine J_seq ?_
  refine J_region rfl ?_
  refine r_assign (I_ 0) rfl rfl ?_
  refine R_nil0 ?_
  refine J_block ?_
  refine J_to [(2, APtr (c_api_Graph t0)), (3, APtr (c_api_Graph t1)), (5, I_ 0), (15, I_ (t0.Edges.length : Int)), (18, I_ (t1.Edges.length : Int))] (.cons rfl (.cons rfl (.cons rfl (.cons rfl (.cons rfl .nil))))) ?_
  refine J_it (fun x5 => ⟨fr [(2, APtr (c_api_Graph t0)), (3, APtr (c_api_Graph t1)), (5, I_ x5), (15, I_ (t0.Edges.length : Int)), (18, I_ (t1.Edges.length : Int))], fun _ => none, 0⟩) (fun E6 hE6 x5 => ?_) (by rfl)
  refine J_seq ?_
  refine J_seq ?_
  refine J_region rfl ?_
  refine r_move (I_ x5) rfl rfl ?_
  refine r_faT ((cL 3 c_api_Edge) t0.Edges) fo_25_1 rfl rfl rfl ?_
  refine r_ld (AL 3 c_api_Edge t0.Edges) sc_23 rfl rfl rfl ?_
  refine r_len (cc := c_api_Edge) il_23 rfl rfl ?_
  refine r_lss rfl rfl rfl ?_
  refine R_nil0 ?_
  refine J_cond_p rfl (fun h11 => ?_) (fun h11 => ?_)
  rotate_left
  · refine J_exit rfl ?_
    refine J_outS ?_
    refine J_seq ?_
    refine J_region rfl ?_
    refine r_assign (ABool true) rfl rfl ?_
    refine R_nil0 ?_
    exact J_ret hΨ (Res_one rfl) (fun y hy => by cases hy; rfl)
  refine J_skip ?_
  refine J_seq ?_
  refine J_block ?_
  refine J_seq ?_
  refine J_draw ?_
  refine r_faT ((cL 3 c_api_Edge) t0.Edges) fo_25_1 rfl rfl rfl ?_
  refine r_ld (AL 3 c_api_Edge t0.Edges) sc_23 rfl rfl rfl ?_
  refine r_move (I_ x5) rfl rfl ?_
  refine R_if (fun h12 => ?_) (fun _ => R_none)
  refine r_ix (cc := c_api_Edge) el_23 rfl rfl h12.1 h12.2 rfl ?_
  refine r_lda (c_api_Edge (nth t0.Edges x5)) ag_135 rfl rfl rfl rfl ?_
  refine r_faT ((cL 3 c_api_Edge) t1.Edges) fo_25_1 rfl rfl rfl ?_
  refine r_ld (AL 3 c_api_Edge t1.Edges) sc_23 rfl rfl rfl ?_
  refine r_move (I_ x5) rfl rfl ?_
  refine R_if (fun h13 => ?_) (fun _ => R_none)
  refine r_ix (cc := c_api_Edge) el_23 rfl rfl h13.1 h13.2 rfl ?_
  refine r_lda (c_api_Edge (nth t1.Edges x5)) ag_135 rfl rfl rfl rfl ?_
  refine r_neT (cc := c_api_Edge) fl_135 st_135 eg_135 rfl rfl rfl rfl ?_
  refine R_nilD rfl ?_
  refine J_cond_p rfl (fun h14 => ?_) (fun h14 => ?_)
  · refine J_seq ?_
    refine J_region rfl ?_
    refine r_assign (ABool false) rfl rfl ?_
    refine R_nil0 ?_
    refine J_outS ?_
    exact J_ret hΨ (Res_one rfl) (fun y hy => by cases hy; rfl)
  refine J_skip ?_
  refine J_inBlock ?_
  refine J_range 15 (m := (t0.Edges.length : Int)) rfl fun q15 => ?_
  refine J_range 5 (m := x5) rfl fun q16 => ?_
  refine J_region rfl ?_
  refine r_move (I_ x5) rfl rfl ?_
  refine r_add (x5 + 1) rfl rfl (wrap_i64 (by omega) (by omega)) rfl ?_
  refine r_assign (I_ (x5 + 1)) rfl rfl ?_
  refine R_nil0 ?_
  refine J_go ?_
  refine J_to [(2, APtr (c_api_Graph t0)), (3, APtr (c_api_Graph t1)), (5, I_ (x5 + 1)), (15, I_ (t0.Edges.length : Int)), (18, I_ (t1.Edges.length : Int))] (.cons rfl (.cons rfl (.cons rfl (.cons rfl (.cons rfl .nil))))) ?_
  exact hE6 (x5 + 1)
theorem k_ref21_Same (t0 : api_Pattern) (t1 : api_Pattern) (r : Bool) (hr : ref21_Same t0 t1 = some r) : FnP PP 43 [AAgg (c_api_Pattern t0), AAgg (c_api_Pattern t1)] (ABool r) := by
  refine FnP.of mixed_ Tryz.func43 rfl (n := 74) rfl (fun (r : Bool) => ABool r) nk_args NK.nk rfl hr fun X hΨ => ?_
  refine J_seq ?_
  refine J_region rfl ?_
  refine r_boxV (AAgg (c_api_Pattern t0)) rfl rfl ?_
  refine r_boxV (AAgg (c_api_Pattern t1)) rfl rfl ?_
  refine r_assign (ABool false) rfl rfl ?_
  refine R_nil0 ?_
  refine J_seq ?_
  refine J_seq ?_
  refine J_region rfl ?_
  refine r_faT (c_api_Graph t0.Graph) fo_29_0 rfl rfl rfl ?_
  refine r_lda (c_api_Graph t0.Graph) ag_25 rfl rfl rfl rfl ?_
  refine r_faT (c_api_Graph t1.Graph) fo_29_0 rfl rfl rfl ?_
  refine r_lda (c_api_Graph t1.Graph) ag_25 rfl rfl rfl rfl ?_
  refine R_bind fun b1 h2 => ?_
  refine r_call _ fn_95 (k_ref05_Same _ _ _ h2) rfl rfl ?_
  refine r_not rfl rfl ?_
  refine r_move (ABool (!b1)) rfl rfl ?_
  refine R_if (fun h3 => ?_) (fun h3 => ?_)
  · refine R_skip (g_fn rfl rfl h3) ?_
    refine R_skip (g_fn rfl rfl h3) ?_
    refine R_skip (g_fn rfl rfl h3) ?_
    refine R_skip (g_fn rfl rfl h3) ?_
    refine R_skip (g_fn rfl rfl h3) ?_
    refine r_pickT (ABool true) rfl h3 rfl rfl ?_
    refine r_move (ABool true) rfl rfl ?_
    refine R_skip (g_fn rfl rfl rfl) ?_
    refine R_skip (g_fn rfl rfl rfl) ?_
    refine R_skip (g_fn rfl rfl rfl) ?_
    refine R_skip (g_fn rfl rfl rfl) ?_
    refine R_skip (g_fn rfl rfl rfl) ?_
    refine R_skip (g_fn rfl rfl rfl) ?_
    refine R_skip (g_fn rfl rfl rfl) ?_
    refine r_pickT (ABool true) rfl rfl rfl rfl ?_
    refine r_move (ABool true) rfl rfl ?_
    refine R_skip (g_fn rfl rfl rfl) ?_
    refine R_skip (g_fn rfl rfl rfl) ?_
    refine R_skip (g_fn rfl rfl rfl) ?_
    refine R_skip (g_fn rfl rfl rfl) ?_
    refine R_skip (g_fn rfl rfl rfl) ?_
    refine R_skip (g_fn rfl rfl rfl) ?_
    refine R_skip (g_fn rfl rfl rfl) ?_
    refine r_pickT (ABool true) rfl rfl rfl rfl ?_
    refine R_nil0 ?_
    refine J_cond_T rfl rfl ?_
    refine J_seq ?_
    refine J_region rfl ?_
    refine r_assign (ABool false) rfl rfl ?_
    refine R_nil0 ?_
    exact J_ret hΨ (Res_one rfl) (fun y hy => by cases hy; rfl)
  refine r_faT (c_i64 t0.Vars) fo_29_2 rfl rfl (g_f rfl rfl (bf h3)) ?_
  refine r_ld (I_ t0.Vars) sc_3 rfl rfl (g_f rfl rfl (bf h3)) ?_
  refine r_faT (c_i64 t1.Vars) fo_29_2 rfl rfl (g_f rfl rfl (bf h3)) ?_
  refine r_ld (I_ t1.Vars) sc_3 rfl rfl (g_f rfl rfl (bf h3)) ?_
  refine r_neq rfl rfl (g_f rfl rfl (bf h3)) ?_
  refine r_pickF (ABool (decide (¬ (t0.Vars = t1.Vars)))) rfl (bf h3) rfl rfl ?_
  refine r_move (ABool (decide (¬ (t0.Vars = t1.Vars)))) rfl rfl ?_
  refine R_if (fun h4 => ?_) (fun h4 => ?_)
  · refine R_skip (g_fn rfl rfl (dt h4)) ?_
    refine R_skip (g_fn rfl rfl (dt h4)) ?_
    refine R_skip (g_fn rfl rfl (dt h4)) ?_
    refine R_skip (g_fn rfl rfl (dt h4)) ?_
    refine R_skip (g_fn rfl rfl (dt h4)) ?_
    refine R_skip (g_fn rfl rfl (dt h4)) ?_
    refine R_skip (g_fn rfl rfl (dt h4)) ?_
    refine r_pickT (ABool true) rfl (dt h4) rfl rfl ?_
    refine r_move (ABool true) rfl rfl ?_
    refine R_skip (g_fn rfl rfl rfl) ?_
    refine R_skip (g_fn rfl rfl rfl) ?_
    refine R_skip (g_fn rfl rfl rfl) ?_
    refine R_skip (g_fn rfl rfl rfl) ?_
    refine R_skip (g_fn rfl rfl rfl) ?_
    refine R_skip (g_fn rfl rfl rfl) ?_
    refine R_skip (g_fn rfl rfl rfl) ?_
    refine r_pickT (ABool true) rfl rfl rfl rfl ?_
    refine R_nil0 ?_
    refine J_cond_T rfl rfl ?_
    refine J_seq ?_
    refine J_region rfl ?_
    refine r_assign (ABool false) rfl rfl ?_
    refine R_nil0 ?_
    exact J_ret hΨ (Res_one rfl) (fun y hy => by cases hy; rfl)
  refine r_faT ((cL 4 c_api_Slot) t0.Slots) fo_29_1 rfl rfl (g_f rfl rfl (df h4)) ?_
  refine r_ld (AL 4 c_api_Slot t0.Slots) sc_26 rfl rfl (g_f rfl rfl (df h4)) ?_
  refine r_len (cc := c_api_Slot) il_26 rfl (g_f rfl rfl (df h4)) ?_
  refine r_faT ((cL 4 c_api_Slot) t1.Slots) fo_29_1 rfl rfl (g_f rfl rfl (df h4)) ?_
  refine r_ld (AL 4 c_api_Slot t1.Slots) sc_26 rfl rfl (g_f rfl rfl (df h4)) ?_
  refine r_len (cc := c_api_Slot) il_26 rfl (g_f rfl rfl (df h4)) ?_
  refine r_neq rfl rfl (g_f rfl rfl (df h4)) ?_
  refine r_pickF (ABool (decide (¬ ((t0.Slots.length : Int) = (t1.Slots.length : Int))))) rfl (df h4) rfl rfl ?_
  refine r_move (ABool (decide (¬ ((t0.Slots.length : Int) = (t1.Slots.length : Int))))) rfl rfl ?_
  refine R_if (fun h5 => ?_) (fun h5 => ?_)
  · refine R_skip (g_fn rfl rfl (dt h5)) ?_
    refine R_skip (g_fn rfl rfl (dt h5)) ?_
    refine R_skip (g_fn rfl rfl (dt h5)) ?_
    refine R_skip (g_fn rfl rfl (dt h5)) ?_
    refine R_skip (g_fn rfl rfl (dt h5)) ?_
    refine R_skip (g_fn rfl rfl (dt h5)) ?_
    refine R_skip (g_fn rfl rfl (dt h5)) ?_
    refine r_pickT (ABool true) rfl (dt h5) rfl rfl ?_
    refine R_nil0 ?_
    refine J_cond_T rfl rfl ?_
    refine J_seq ?_
    refine J_region rfl ?_
    refine r_assign (ABool false) rfl rfl ?_
    refine R_nil0 ?_
    exact J_ret hΨ (Res_one rfl) (fun y hy => by cases hy; rfl)
  refine r_faT ((cL 5 c_api_Test) t0.Tests) fo_29_3 rfl rfl (g_f rfl rfl (df h5)) ?_
  refine r_ld (AL 5 c_api_Test t0.Tests) sc_27 rfl rfl (g_f rfl rfl (df h5)) ?_
  refine r_len (cc := c_api_Test) il_27 rfl (g_f rfl rfl (df h5)) ?_
  refine r_faT ((cL 5 c_api_Test) t1.Tests) fo_29_3 rfl rfl (g_f rfl rfl (df h5)) ?_
  refine r_ld (AL 5 c_api_Test t1.Tests) sc_27 rfl rfl (g_f rfl rfl (df h5)) ?_
  refine r_len (cc := c_api_Test) il_27 rfl (g_f rfl rfl (df h5)) ?_
  refine r_neq rfl rfl (g_f rfl rfl (df h5)) ?_
  refine r_pickF (ABool (decide (¬ ((t0.Tests.length : Int) = (t1.Tests.length : Int))))) rfl (df h5) rfl rfl ?_
  refine R_nil0 ?_
  refine J_cond_p rfl (fun h6 => ?_) (fun h6 => ?_)
  · refine J_seq ?_
    refine J_region rfl ?_
    refine r_assign (ABool false) rfl rfl ?_
    refine R_nil0 ?_
    exact J_ret hΨ (Res_one rfl) (fun y hy => by cases hy; rfl)
  refine J_skip ?_
  refine J_seq ?_
  refine J_seq ?_
  refine J_region rfl ?_
  refine r_assign (I_ 0) rfl rfl ?_
  refine R_nil0 ?_
  refine J_block ?_
  refine J_to [(2, APtr (c_api_Pattern t0)), (3, APtr (c_api_Pattern t1)), (5, I_ 0), (15, I_ t0.Vars), (17, I_ t1.Vars), (23, I_ (t0.Slots.length : Int)), (26, I_ (t1.Slots.length : Int)), (32, I_ (t0.Tests.length : Int)), (35, I_ (t1.Tests.length : Int))] (.cons rfl (.cons rfl (.cons rfl (.cons rfl (.cons rfl (.cons rfl (.cons rfl (.cons rfl (.cons rfl .nil))))))))) ?_
  refine J_it (fun x7 => ⟨fr [(2, APtr (c_api_Pattern t0)), (3, APtr (c_api_Pattern t1)), (5, I_ x7), (15, I_ t0.Vars), (17, I_ t1.Vars), (23, I_ (t0.Slots.length : Int)), (26, I_ (t1.Slots.length : Int)), (32, I_ (t0.Tests.length : Int)), (35, I_ (t1.Tests.length : Int))], fun _ => none, 0⟩) (fun E8 hE8 x7 => ?_) (by rfl)
  refine J_seq ?_
  refine J_seq ?_
  refine J_region rfl ?_
  refine r_move (I_ x7) rfl rfl ?_
  refine r_faT ((cL 4 c_api_Slot) t0.Slots) fo_29_1 rfl rfl rfl ?_
  refine r_ld (AL 4 c_api_Slot t0.Slots) sc_26 rfl rfl rfl ?_
  refine r_len (cc := c_api_Slot) il_26 rfl rfl ?_
  refine r_lss rfl rfl rfl ?_
  refine R_nil0 ?_
  refine J_cond_p rfl (fun h13 => ?_) (fun h13 => ?_)
  · refine J_skip ?_
    refine J_seq ?_
    refine J_block ?_
    refine J_seq ?_
    refine J_draw ?_
    refine r_faT ((cL 4 c_api_Slot) t0.Slots) fo_29_1 rfl rfl rfl ?_
    refine r_ld (AL 4 c_api_Slot t0.Slots) sc_26 rfl rfl rfl ?_
    refine r_move (I_ x7) rfl rfl ?_
    refine R_if (fun h14 => ?_) (fun _ => R_none)
    refine r_ix (cc := c_api_Slot) el_26 rfl rfl h14.1 h14.2 rfl ?_
    refine r_lda (c_api_Slot (nth t0.Slots x7)) ag_156 rfl rfl rfl rfl ?_
    refine r_faT ((cL 4 c_api_Slot) t1.Slots) fo_29_1 rfl rfl rfl ?_
    refine r_ld (AL 4 c_api_Slot t1.Slots) sc_26 rfl rfl rfl ?_
    refine r_move (I_ x7) rfl rfl ?_
    refine R_if (fun h15 => ?_) (fun _ => R_none)
    refine r_ix (cc := c_api_Slot) el_26 rfl rfl h15.1 h15.2 rfl ?_
    refine r_lda (c_api_Slot (nth t1.Slots x7)) ag_156 rfl rfl rfl rfl ?_
    refine r_neT (cc := c_api_Slot) fl_156 st_156 eg_156 rfl rfl rfl rfl ?_
    refine R_nilD rfl ?_
    refine J_cond_p rfl (fun h16 => ?_) (fun h16 => ?_)
    · refine J_seq ?_
      refine J_region rfl ?_
      refine r_assign (ABool false) rfl rfl ?_
      refine R_nil0 ?_
      refine J_outS ?_
      exact J_ret hΨ (Res_one rfl) (fun y hy => by cases hy; rfl)
    refine J_skip ?_
    refine J_inBlock ?_
    refine J_range 23 (m := (t0.Slots.length : Int)) rfl fun q17 => ?_
    refine J_range 5 (m := x7) rfl fun q18 => ?_
    refine J_region rfl ?_
    refine r_move (I_ x7) rfl rfl ?_
    refine r_add (x7 + 1) rfl rfl (wrap_i64 (by omega) (by omega)) rfl ?_
    refine r_assign (I_ (x7 + 1)) rfl rfl ?_
    refine R_nil0 ?_
    refine J_go ?_
    refine J_to [(2, APtr (c_api_Pattern t0)), (3, APtr (c_api_Pattern t1)), (5, I_ (x7 + 1)), (15, I_ t0.Vars), (17, I_ t1.Vars), (23, I_ (t0.Slots.length : Int)), (26, I_ (t1.Slots.length : Int)), (32, I_ (t0.Tests.length : Int)), (35, I_ (t1.Tests.length : Int))] (.cons rfl (.cons rfl (.cons rfl (.cons rfl (.cons rfl (.cons rfl (.cons rfl (.cons rfl (.cons rfl .nil))))))))) ?_
    exact hE8 (x7 + 1)
  refine J_exit rfl ?_
  refine J_out ?_
  refine J_seq ?_
  refine J_seq ?_
  refine J_region rfl ?_
  refine r_assign (I_ 0) rfl rfl ?_
  refine R_nil0 ?_
  refine J_block ?_
  refine J_to [(2, APtr (c_api_Pattern t0)), (3, APtr (c_api_Pattern t1)), (5, I_ x7), (6, I_ 0), (15, I_ t0.Vars), (17, I_ t1.Vars), (23, I_ (t0.Slots.length : Int)), (26, I_ (t1.Slots.length : Int)), (32, I_ (t0.Tests.length : Int)), (35, I_ (t1.Tests.length : Int)), (38, I_ x7), (41, I_ (t0.Slots.length : Int))] (.cons rfl (.cons rfl (.cons rfl (.cons rfl (.cons rfl (.cons rfl (.cons rfl (.cons rfl (.cons rfl (.cons rfl (.cons rfl (.cons rfl .nil)))))))))))) ?_
  refine J_it (fun x19 => ⟨fr [(2, APtr (c_api_Pattern t0)), (3, APtr (c_api_Pattern t1)), (5, I_ x7), (6, I_ x19), (15, I_ t0.Vars), (17, I_ t1.Vars), (23, I_ (t0.Slots.length : Int)), (26, I_ (t1.Slots.length : Int)), (32, I_ (t0.Tests.length : Int)), (35, I_ (t1.Tests.length : Int)), (38, I_ x7), (41, I_ (t0.Slots.length : Int))], fun _ => none, 0⟩) (fun E20 hE20 x19 => ?_) (by rfl)
  refine J_seq ?_
  refine J_seq ?_
  refine J_region rfl ?_
  refine r_move (I_ x19) rfl rfl ?_
  refine r_faT ((cL 5 c_api_Test) t0.Tests) fo_29_3 rfl rfl rfl ?_
  refine r_ld (AL 5 c_api_Test t0.Tests) sc_27 rfl rfl rfl ?_
  refine r_len (cc := c_api_Test) il_27 rfl rfl ?_
  refine r_lss rfl rfl rfl ?_
  refine R_nil0 ?_
  refine J_cond_p rfl (fun h25 => ?_) (fun h25 => ?_)
  rotate_left
  · refine J_exit rfl ?_
    refine J_outS ?_
    refine J_seq ?_
    refine J_region rfl ?_
    refine r_assign (ABool true) rfl rfl ?_
    refine R_nil0 ?_
    exact J_ret hΨ (Res_one rfl) (fun y hy => by cases hy; rfl)
  refine J_skip ?_
  refine J_seq ?_
  refine J_block ?_
  refine J_seq ?_
  refine J_draw ?_
  refine r_faT ((cL 5 c_api_Test) t0.Tests) fo_29_3 rfl rfl rfl ?_
  refine r_ld (AL 5 c_api_Test t0.Tests) sc_27 rfl rfl rfl ?_
  refine r_move (I_ x19) rfl rfl ?_
  refine R_if (fun h26 => ?_) (fun _ => R_none)
  refine r_ix (cc := c_api_Test) el_27 rfl rfl h26.1 h26.2 rfl ?_
  refine r_lda (c_api_Test (nth t0.Tests x19)) ag_158 rfl rfl rfl rfl ?_
  refine r_faT ((cL 5 c_api_Test) t1.Tests) fo_29_3 rfl rfl rfl ?_
  refine r_ld (AL 5 c_api_Test t1.Tests) sc_27 rfl rfl rfl ?_
  refine r_move (I_ x19) rfl rfl ?_
  refine R_if (fun h27 => ?_) (fun _ => R_none)
  refine r_ix (cc := c_api_Test) el_27 rfl rfl h27.1 h27.2 rfl ?_
  refine r_lda (c_api_Test (nth t1.Tests x19)) ag_158 rfl rfl rfl rfl ?_
  refine r_neT (cc := c_api_Test) fl_158 st_158 eg_158 rfl rfl rfl rfl ?_
  refine R_nilD rfl ?_
  refine J_cond_p rfl (fun h28 => ?_) (fun h28 => ?_)
  · refine J_seq ?_
    refine J_region rfl ?_
    refine r_assign (ABool false) rfl rfl ?_
    refine R_nil0 ?_
    refine J_outS ?_
    exact J_ret hΨ (Res_one rfl) (fun y hy => by cases hy; rfl)
  refine J_skip ?_
  refine J_inBlock ?_
  refine J_range 32 (m := (t0.Tests.length : Int)) rfl fun q29 => ?_
  refine J_range 6 (m := x19) rfl fun q30 => ?_
  refine J_region rfl ?_
  refine r_move (I_ x19) rfl rfl ?_
  refine r_add (x19 + 1) rfl rfl (wrap_i64 (by omega) (by omega)) rfl ?_
  refine r_assign (I_ (x19 + 1)) rfl rfl ?_
  refine R_nil0 ?_
  refine J_go ?_
  refine J_to [(2, APtr (c_api_Pattern t0)), (3, APtr (c_api_Pattern t1)), (5, I_ x7), (6, I_ (x19 + 1)), (15, I_ t0.Vars), (17, I_ t1.Vars), (23, I_ (t0.Slots.length : Int)), (26, I_ (t1.Slots.length : Int)), (32, I_ (t0.Tests.length : Int)), (35, I_ (t1.Tests.length : Int)), (38, I_ x7), (41, I_ (t0.Slots.length : Int))] (.cons rfl (.cons rfl (.cons rfl (.cons rfl (.cons rfl (.cons rfl (.cons rfl (.cons rfl (.cons rfl (.cons rfl (.cons rfl (.cons rfl .nil)))))))))))) ?_
  exact hE20 (x19 + 1)
theorem k_ref07_Same (t0 : api_Part) (t1 : api_Part) (r : Bool) (hr : ref07_Same t0 t1 = some r) : FnP PP 44 [AAgg (c_api_Part t0), AAgg (c_api_Part t1)] (ABool r) := by
  refine FnP.of mixed_ Tryz.func44 rfl (n := 17) rfl (fun (r : Bool) => ABool r) nk_args NK.nk rfl hr fun X hΨ => ?_
  refine J_seq ?_
  refine J_region rfl ?_
  refine r_boxV (AAgg (c_api_Part t0)) rfl rfl ?_
  refine r_boxV (AAgg (c_api_Part t1)) rfl rfl ?_
  refine r_assign (ABool false) rfl rfl ?_
  refine R_nil0 ?_
  refine J_seq ?_
  refine J_region rfl ?_
  refine r_faT ((cL 1 c_i64) t0.Nodes) fo_31_0 rfl rfl rfl ?_
  refine r_ld (AL 1 c_i64 t0.Nodes) sc_22 rfl rfl rfl ?_
  refine r_faT ((cL 1 c_i64) t1.Nodes) fo_31_0 rfl rfl rfl ?_
  refine r_ld (AL 1 c_i64 t1.Nodes) sc_22 rfl rfl rfl ?_
  refine R_bind fun b1 h2 => ?_
  refine r_call _ fn_96 (k_ref05_SameInts _ _ _ h2) rfl rfl ?_
  refine r_move (ABool b1) rfl rfl ?_
  refine R_if (fun h3 => ?_) (fun h3 => ?_)
  rotate_left
  · refine R_skip (g_tn rfl rfl (bf h3)) ?_
    refine R_skip (g_tn rfl rfl (bf h3)) ?_
    refine R_skip (g_tn rfl rfl (bf h3)) ?_
    refine R_skip (g_tn rfl rfl (bf h3)) ?_
    refine R_skip (g_tn rfl rfl (bf h3)) ?_
    refine r_pickF (ABool false) rfl (bf h3) rfl rfl ?_
    refine r_assign (ABool false) rfl rfl ?_
    refine R_nil0 ?_
    exact J_ret hΨ (Res_one rfl) (fun y hy => by cases hy; rfl)
  refine r_faT ((cL 1 c_i64) t0.Edges) fo_31_1 rfl rfl (g_t rfl rfl h3) ?_
  refine r_ld (AL 1 c_i64 t0.Edges) sc_22 rfl rfl (g_t rfl rfl h3) ?_
  refine r_faT ((cL 1 c_i64) t1.Edges) fo_31_1 rfl rfl (g_t rfl rfl h3) ?_
  refine r_ld (AL 1 c_i64 t1.Edges) sc_22 rfl rfl (g_t rfl rfl h3) ?_
  refine R_bind fun b4 h5 => ?_
  refine r_call _ fn_96 (k_ref05_SameInts _ _ _ h5) rfl (g_t rfl rfl h3) ?_
  refine r_pickT (ABool b4) rfl h3 rfl rfl ?_
  refine r_assign (ABool b4) rfl rfl ?_
  refine R_nil0 ?_
  exact J_ret hΨ (Res_one rfl) (fun y hy => by cases hy; rfl)
theorem k_ref02_SameInts (t0 : (List Int)) (t1 : (List Int)) (r : Bool) (hr : ref02_SameInts t0 t1 = some r) : FnP PP 97 [AL 1 c_i64 t0, AL 1 c_i64 t1] (ABool r) := by
  refine FnP.of mixed_ Tryz.func97 rfl (n := 26) rfl (fun (r : Bool) => ABool r) nk_args NK.nk rfl hr fun X hΨ => ?_
  refine J_seq ?_
  refine J_region rfl ?_
  refine r_assign (ABool false) rfl rfl ?_
  refine R_nil0 ?_
  refine J_seq ?_
  refine J_seq ?_
  refine J_region rfl ?_
  refine r_move (AL 1 c_i64 t0) rfl rfl ?_
  refine r_len (cc := c_i64) il_22 rfl rfl ?_
  refine r_move (AL 1 c_i64 t1) rfl rfl ?_
  refine r_len (cc := c_i64) il_22 rfl rfl ?_
  refine r_neq rfl rfl rfl ?_
  refine R_nil0 ?_
  refine J_cond_p rfl (fun h1 => ?_) (fun h1 => ?_)
  · refine J_seq ?_
    refine J_region rfl ?_
    refine r_assign (ABool false) rfl rfl ?_
    refine R_nil0 ?_
    exact J_ret hΨ (Res_one rfl) (fun y hy => by cases hy; rfl)
  refine J_skip ?_
  refine J_seq ?_
  refine J_seq ?_
  refine J_region rfl ?_
  refine r_assign (I_ 0) rfl rfl ?_
  refine R_nil0 ?_
  refine J_block ?_
  refine J_to [(0, AL 1 c_i64 t0), (1, AL 1 c_i64 t1), (5, I_ 0), (7, I_ (t0.length : Int)), (9, I_ (t1.length : Int))] (.cons rfl (.cons rfl (.cons rfl (.cons rfl (.cons rfl .nil))))) ?_
  refine J_it (fun x2 => ⟨fr [(0, AL 1 c_i64 t0), (1, AL 1 c_i64 t1), (5, I_ x2), (7, I_ (t0.length : Int)), (9, I_ (t1.length : Int))], fun _ => none, 0⟩) (fun E3 hE3 x2 => ?_) (by rfl)
  refine J_seq ?_
  refine J_seq ?_
  refine J_region rfl ?_
  refine r_move (I_ x2) rfl rfl ?_
  refine r_move (AL 1 c_i64 t0) rfl rfl ?_
  refine r_len (cc := c_i64) il_22 rfl rfl ?_
  refine r_lss rfl rfl rfl ?_
  refine R_nil0 ?_
  refine J_cond_p rfl (fun h8 => ?_) (fun h8 => ?_)
  rotate_left
  · refine J_exit rfl ?_
    refine J_outS ?_
    refine J_seq ?_
    refine J_region rfl ?_
    refine r_assign (ABool true) rfl rfl ?_
    refine R_nil0 ?_
    exact J_ret hΨ (Res_one rfl) (fun y hy => by cases hy; rfl)
  refine J_skip ?_
  refine J_seq ?_
  refine J_block ?_
  refine J_seq ?_
  refine J_draw ?_
  refine r_move (AL 1 c_i64 t0) rfl rfl ?_
  refine r_move (I_ x2) rfl rfl ?_
  refine R_if (fun h9 => ?_) (fun _ => R_none)
  refine r_ix (cc := c_i64) el_22 rfl rfl h9.1 h9.2 rfl ?_
  refine r_ld (I_ (nth t0 x2)) sc_3 rfl rfl rfl ?_
  refine r_move (AL 1 c_i64 t1) rfl rfl ?_
  refine r_move (I_ x2) rfl rfl ?_
  refine R_if (fun h10 => ?_) (fun _ => R_none)
  refine r_ix (cc := c_i64) el_22 rfl rfl h10.1 h10.2 rfl ?_
  refine r_ld (I_ (nth t1 x2)) sc_3 rfl rfl rfl ?_
  refine r_neq rfl rfl rfl ?_
  refine R_nilD rfl ?_
  refine J_cond_p rfl (fun h11 => ?_) (fun h11 => ?_)
  · refine J_seq ?_
    refine J_region rfl ?_
    refine r_assign (ABool false) rfl rfl ?_
    refine R_nil0 ?_
    refine J_outS ?_
    exact J_ret hΨ (Res_one rfl) (fun y hy => by cases hy; rfl)
  refine J_skip ?_
  refine J_inBlock ?_
  refine J_range 7 (m := (t0.length : Int)) rfl fun q12 => ?_
  refine J_range 5 (m := x2) rfl fun q13 => ?_
  refine J_region rfl ?_
  refine r_move (I_ x2) rfl rfl ?_
  refine r_add (x2 + 1) rfl rfl (wrap_i64 (by omega) (by omega)) rfl ?_
  refine r_assign (I_ (x2 + 1)) rfl rfl ?_
  refine R_nil0 ?_
  refine J_go ?_
  refine J_to [(0, AL 1 c_i64 t0), (1, AL 1 c_i64 t1), (5, I_ (x2 + 1)), (7, I_ (t0.length : Int)), (9, I_ (t1.length : Int))] (.cons rfl (.cons rfl (.cons rfl (.cons rfl (.cons rfl .nil))))) ?_
  exact hE3 (x2 + 1)
theorem k_ref06_Same (t0 : api_Morphism) (t1 : api_Morphism) (r : Bool) (hr : ref06_Same t0 t1 = some r) : FnP PP 45 [AAgg (c_api_Morphism t0), AAgg (c_api_Morphism t1)] (ABool r) := by
  refine FnP.of mixed_ Tryz.func45 rfl (n := 17) rfl (fun (r : Bool) => ABool r) nk_args NK.nk rfl hr fun X hΨ => ?_
  refine J_seq ?_
  refine J_region rfl ?_
  refine r_boxV (AAgg (c_api_Morphism t0)) rfl rfl ?_
  refine r_boxV (AAgg (c_api_Morphism t1)) rfl rfl ?_
  refine r_assign (ABool false) rfl rfl ?_
  refine R_nil0 ?_
  refine J_seq ?_
  refine J_region rfl ?_
  refine r_faT ((cL 1 c_i64) t0.Nodes) fo_32_0 rfl rfl rfl ?_
  refine r_ld (AL 1 c_i64 t0.Nodes) sc_22 rfl rfl rfl ?_
  refine r_faT ((cL 1 c_i64) t1.Nodes) fo_32_0 rfl rfl rfl ?_
  refine r_ld (AL 1 c_i64 t1.Nodes) sc_22 rfl rfl rfl ?_
  refine R_bind fun b1 h2 => ?_
  refine r_call _ fn_97 (k_ref02_SameInts _ _ _ h2) rfl rfl ?_
  refine r_move (ABool b1) rfl rfl ?_
  refine R_if (fun h3 => ?_) (fun h3 => ?_)
  rotate_left
  · refine R_skip (g_tn rfl rfl (bf h3)) ?_
    refine R_skip (g_tn rfl rfl (bf h3)) ?_
    refine R_skip (g_tn rfl rfl (bf h3)) ?_
    refine R_skip (g_tn rfl rfl (bf h3)) ?_
    refine R_skip (g_tn rfl rfl (bf h3)) ?_
    refine r_pickF (ABool false) rfl (bf h3) rfl rfl ?_
    refine r_assign (ABool false) rfl rfl ?_
    refine R_nil0 ?_
    exact J_ret hΨ (Res_one rfl) (fun y hy => by cases hy; rfl)
  refine r_faT ((cL 1 c_i64) t0.Edges) fo_32_1 rfl rfl (g_t rfl rfl h3) ?_
  refine r_ld (AL 1 c_i64 t0.Edges) sc_22 rfl rfl (g_t rfl rfl h3) ?_
  refine r_faT ((cL 1 c_i64) t1.Edges) fo_32_1 rfl rfl (g_t rfl rfl h3) ?_
  refine r_ld (AL 1 c_i64 t1.Edges) sc_22 rfl rfl (g_t rfl rfl h3) ?_
  refine R_bind fun b4 h5 => ?_
  refine r_call _ fn_97 (k_ref02_SameInts _ _ _ h5) rfl (g_t rfl rfl h3) ?_
  refine r_pickT (ABool b4) rfl h3 rfl rfl ?_
  refine r_assign (ABool b4) rfl rfl ?_
  refine R_nil0 ?_
  exact J_ret hΨ (Res_one rfl) (fun y hy => by cases hy; rfl)
theorem k_ref22_Same_b (q_ref22_Same : api_Condition → api_Condition → Option Bool) (hq_ref22_Same : ∀ (t0 : api_Condition) (t1 : api_Condition) (r : Bool), q_ref22_Same t0 t1 = some r → FnP PP 46 [AAgg (c_api_Condition t0), AAgg (c_api_Condition t1)] (ABool r)) (t0 : api_Condition) (t1 : api_Condition) (r : Bool) (hr : ref22_Same_b q_ref22_Same t0 t1 = some r) : FnP PP 46 [AAgg (c_api_Condition t0), AAgg (c_api_Condition t1)] (ABool r) := by
  refine FnP.of mixed_ Tryz.func46 rfl (n := 55) rfl (fun (r : Bool) => ABool r) nk_args NK.nk rfl hr fun X hΨ => ?_
  refine J_seq ?_
  refine J_region rfl ?_
  refine r_boxV (AAgg (c_api_Condition t0)) rfl rfl ?_
  refine r_boxV (AAgg (c_api_Condition t1)) rfl rfl ?_
  refine r_assign (ABool false) rfl rfl ?_
  refine R_nil0 ?_
  refine J_seq ?_
  refine J_seq ?_
  refine J_region rfl ?_
  refine r_faT (c_i64 t0.Kind) fo_35_0 rfl rfl rfl ?_
  refine r_ld (I_ t0.Kind) sc_3 rfl rfl rfl ?_
  refine r_faT (c_i64 t1.Kind) fo_35_0 rfl rfl rfl ?_
  refine r_ld (I_ t1.Kind) sc_3 rfl rfl rfl ?_
  refine r_neq rfl rfl rfl ?_
  refine r_move (ABool (decide (¬ (t0.Kind = t1.Kind)))) rfl rfl ?_
  refine R_if (fun h1 => ?_) (fun h1 => ?_)
  · refine R_skip (g_fn rfl rfl (dt h1)) ?_
    refine R_skip (g_fn rfl rfl (dt h1)) ?_
    refine R_skip (g_fn rfl rfl (dt h1)) ?_
    refine R_skip (g_fn rfl rfl (dt h1)) ?_
    refine R_skip (g_fn rfl rfl (dt h1)) ?_
    refine R_skip (g_fn rfl rfl (dt h1)) ?_
    refine R_skip (g_fn rfl rfl (dt h1)) ?_
    refine r_pickT (ABool true) rfl (dt h1) rfl rfl ?_
    refine r_move (ABool true) rfl rfl ?_
    refine R_skip (g_fn rfl rfl rfl) ?_
    refine R_skip (g_fn rfl rfl rfl) ?_
    refine R_skip (g_fn rfl rfl rfl) ?_
    refine R_skip (g_fn rfl rfl rfl) ?_
    refine R_skip (g_fn rfl rfl rfl) ?_
    refine R_skip (g_fn rfl rfl rfl) ?_
    refine r_pickT (ABool true) rfl rfl rfl rfl ?_
    refine r_move (ABool true) rfl rfl ?_
    refine R_skip (g_fn rfl rfl rfl) ?_
    refine R_skip (g_fn rfl rfl rfl) ?_
    refine R_skip (g_fn rfl rfl rfl) ?_
    refine R_skip (g_fn rfl rfl rfl) ?_
    refine R_skip (g_fn rfl rfl rfl) ?_
    refine R_skip (g_fn rfl rfl rfl) ?_
    refine r_pickT (ABool true) rfl rfl rfl rfl ?_
    refine R_nil0 ?_
    refine J_cond_T rfl rfl ?_
    refine J_seq ?_
    refine J_region rfl ?_
    refine r_assign (ABool false) rfl rfl ?_
    refine R_nil0 ?_
    exact J_ret hΨ (Res_one rfl) (fun y hy => by cases hy; rfl)
  refine r_faT (k_api_Condition t0.Kids) fo_35_1 rfl rfl (g_f rfl rfl (df h1)) ?_
  refine r_ld (AL 9 c_api_Condition t0.Kids) sc_33 rfl (kid_api_Condition _) (g_f rfl rfl (df h1)) ?_
  refine r_len (cc := c_api_Condition) il_33 rfl (g_f rfl rfl (df h1)) ?_
  refine r_faT (k_api_Condition t1.Kids) fo_35_1 rfl rfl (g_f rfl rfl (df h1)) ?_
  refine r_ld (AL 9 c_api_Condition t1.Kids) sc_33 rfl (kid_api_Condition _) (g_f rfl rfl (df h1)) ?_
  refine r_len (cc := c_api_Condition) il_33 rfl (g_f rfl rfl (df h1)) ?_
  refine r_neq rfl rfl (g_f rfl rfl (df h1)) ?_
  refine r_pickF (ABool (decide (¬ ((t0.Kids.length : Int) = (t1.Kids.length : Int))))) rfl (df h1) rfl rfl ?_
  refine r_move (ABool (decide (¬ ((t0.Kids.length : Int) = (t1.Kids.length : Int))))) rfl rfl ?_
  refine R_if (fun h2 => ?_) (fun h2 => ?_)
  · refine R_skip (g_fn rfl rfl (dt h2)) ?_
    refine R_skip (g_fn rfl rfl (dt h2)) ?_
    refine R_skip (g_fn rfl rfl (dt h2)) ?_
    refine R_skip (g_fn rfl rfl (dt h2)) ?_
    refine R_skip (g_fn rfl rfl (dt h2)) ?_
    refine R_skip (g_fn rfl rfl (dt h2)) ?_
    refine r_pickT (ABool true) rfl (dt h2) rfl rfl ?_
    refine r_move (ABool true) rfl rfl ?_
    refine R_skip (g_fn rfl rfl rfl) ?_
    refine R_skip (g_fn rfl rfl rfl) ?_
    refine R_skip (g_fn rfl rfl rfl) ?_
    refine R_skip (g_fn rfl rfl rfl) ?_
    refine R_skip (g_fn rfl rfl rfl) ?_
    refine R_skip (g_fn rfl rfl rfl) ?_
    refine r_pickT (ABool true) rfl rfl rfl rfl ?_
    refine R_nil0 ?_
    refine J_cond_T rfl rfl ?_
    refine J_seq ?_
    refine J_region rfl ?_
    refine r_assign (ABool false) rfl rfl ?_
    refine R_nil0 ?_
    exact J_ret hΨ (Res_one rfl) (fun y hy => by cases hy; rfl)
  refine r_faT (c_api_Morphism t0.Map) fo_35_2 rfl rfl (g_f rfl rfl (df h2)) ?_
  refine r_lda (c_api_Morphism t0.Map) ag_32 rfl rfl rfl (g_f rfl rfl (df h2)) ?_
  refine r_faT (c_api_Morphism t1.Map) fo_35_2 rfl rfl (g_f rfl rfl (df h2)) ?_
  refine r_lda (c_api_Morphism t1.Map) ag_32 rfl rfl rfl (g_f rfl rfl (df h2)) ?_
  refine R_bind fun b3 h4 => ?_
  refine r_call _ fn_45 (k_ref06_Same _ _ _ h4) rfl (g_f rfl rfl (df h2)) ?_
  refine r_not rfl (g_f rfl rfl (df h2)) ?_
  refine r_pickF (ABool (!b3)) rfl (df h2) rfl rfl ?_
  refine r_move (ABool (!b3)) rfl rfl ?_
  refine R_if (fun h5 => ?_) (fun h5 => ?_)
  · refine R_skip (g_fn rfl rfl h5) ?_
    refine R_skip (g_fn rfl rfl h5) ?_
    refine R_skip (g_fn rfl rfl h5) ?_
    refine R_skip (g_fn rfl rfl h5) ?_
    refine R_skip (g_fn rfl rfl h5) ?_
    refine R_skip (g_fn rfl rfl h5) ?_
    refine r_pickT (ABool true) rfl h5 rfl rfl ?_
    refine R_nil0 ?_
    refine J_cond_T rfl rfl ?_
    refine J_seq ?_
    refine J_region rfl ?_
    refine r_assign (ABool false) rfl rfl ?_
    refine R_nil0 ?_
    exact J_ret hΨ (Res_one rfl) (fun y hy => by cases hy; rfl)
  refine r_faT (c_api_Pattern t0.Pattern) fo_35_3 rfl rfl (g_f rfl rfl (bf h5)) ?_
  refine r_lda (c_api_Pattern t0.Pattern) ag_29 rfl rfl rfl (g_f rfl rfl (bf h5)) ?_
  refine r_faT (c_api_Pattern t1.Pattern) fo_35_3 rfl rfl (g_f rfl rfl (bf h5)) ?_
  refine r_lda (c_api_Pattern t1.Pattern) ag_29 rfl rfl rfl (g_f rfl rfl (bf h5)) ?_
  refine R_bind fun b6 h7 => ?_
  refine r_call _ fn_43 (k_ref21_Same _ _ _ h7) rfl (g_f rfl rfl (bf h5)) ?_
  refine r_not rfl (g_f rfl rfl (bf h5)) ?_
  refine r_pickF (ABool (!b6)) rfl (bf h5) rfl rfl ?_
  refine R_nil0 ?_
  refine J_cond rfl (fun h8 => ?_) (fun h8 => ?_)
  · refine J_seq ?_
    refine J_region rfl ?_
    refine r_assign (ABool false) rfl rfl ?_
    refine R_nil0 ?_
    exact J_ret hΨ (Res_one rfl) (fun y hy => by cases hy; rfl)
  refine J_skip ?_
  refine J_seq ?_
  refine J_seq ?_
  refine J_region rfl ?_
  refine r_assign (I_ 0) rfl rfl ?_
  refine R_nil0 ?_
  refine J_block ?_
  refine J_to [(2, APtr (c_api_Condition t0)), (3, APtr (c_api_Condition t1)), (5, I_ 0), (7, I_ t0.Kind), (9, I_ t1.Kind), (14, I_ (t0.Kids.length : Int)), (17, I_ (t1.Kids.length : Int))] (.cons rfl (.cons rfl (.cons rfl (.cons rfl (.cons rfl (.cons rfl (.cons rfl .nil))))))) ?_
  refine J_it (fun x9 => ⟨fr [(2, APtr (c_api_Condition t0)), (3, APtr (c_api_Condition t1)), (5, I_ x9), (7, I_ t0.Kind), (9, I_ t1.Kind), (14, I_ (t0.Kids.length : Int)), (17, I_ (t1.Kids.length : Int))], fun _ => none, 0⟩) (fun E10 hE10 x9 => ?_) (by rfl)
  refine J_seq ?_
  refine J_seq ?_
  refine J_region rfl ?_
  refine r_move (I_ x9) rfl rfl ?_
  refine r_faT (k_api_Condition t0.Kids) fo_35_1 rfl rfl rfl ?_
  refine r_ld (AL 9 c_api_Condition t0.Kids) sc_33 rfl (kid_api_Condition _) rfl ?_
  refine r_len (cc := c_api_Condition) il_33 rfl rfl ?_
  refine r_lss rfl rfl rfl ?_
  refine R_nil0 ?_
  refine J_cond_p rfl (fun h17 => ?_) (fun h17 => ?_)
  rotate_left
  · refine J_exit rfl ?_
    refine J_outS ?_
    refine J_seq ?_
    refine J_region rfl ?_
    refine r_assign (ABool true) rfl rfl ?_
    refine R_nil0 ?_
    exact J_ret hΨ (Res_one rfl) (fun y hy => by cases hy; rfl)
  refine J_skip ?_
  refine J_seq ?_
  refine J_block ?_
  refine J_seq ?_
  refine J_draw ?_
  refine r_faT (k_api_Condition t0.Kids) fo_35_1 rfl rfl rfl ?_
  refine r_ld (AL 9 c_api_Condition t0.Kids) sc_33 rfl (kid_api_Condition _) rfl ?_
  refine r_move (I_ x9) rfl rfl ?_
  refine R_if (fun h18 => ?_) (fun _ => R_none)
  refine r_ix (cc := c_api_Condition) el_33 rfl rfl h18.1 h18.2 rfl ?_
  refine r_lda (c_api_Condition (nth t0.Kids x9)) ag_35 rfl rfl rfl rfl ?_
  refine r_faT (k_api_Condition t1.Kids) fo_35_1 rfl rfl rfl ?_
  refine r_ld (AL 9 c_api_Condition t1.Kids) sc_33 rfl (kid_api_Condition _) rfl ?_
  refine r_move (I_ x9) rfl rfl ?_
  refine R_if (fun h19 => ?_) (fun _ => R_none)
  refine r_ix (cc := c_api_Condition) el_33 rfl rfl h19.1 h19.2 rfl ?_
  refine r_lda (c_api_Condition (nth t1.Kids x9)) ag_35 rfl rfl rfl rfl ?_
  refine R_bind fun b20 h21 => ?_
  refine r_call _ fn_46 (hq_ref22_Same _ _ _ h21) rfl rfl ?_
  refine r_not rfl rfl ?_
  refine R_nilD rfl ?_
  refine J_cond rfl (fun h22 => ?_) (fun h22 => ?_)
  · refine J_seq ?_
    refine J_region rfl ?_
    refine r_assign (ABool false) rfl rfl ?_
    refine R_nil0 ?_
    refine J_outS ?_
    exact J_ret hΨ (Res_one rfl) (fun y hy => by cases hy; rfl)
  refine J_skip ?_
  refine J_inBlock ?_
  refine J_range 14 (m := (t0.Kids.length : Int)) rfl fun q23 => ?_
  refine J_range 5 (m := x9) rfl fun q24 => ?_
  refine J_region rfl ?_
  refine r_move (I_ x9) rfl rfl ?_
  refine r_add (x9 + 1) rfl rfl (wrap_i64 (by omega) (by omega)) rfl ?_
  refine r_assign (I_ (x9 + 1)) rfl rfl ?_
  refine R_nil0 ?_
  refine J_go ?_
  refine J_to [(2, APtr (c_api_Condition t0)), (3, APtr (c_api_Condition t1)), (5, I_ (x9 + 1)), (7, I_ t0.Kind), (9, I_ t1.Kind), (14, I_ (t0.Kids.length : Int)), (17, I_ (t1.Kids.length : Int))] (.cons rfl (.cons rfl (.cons rfl (.cons rfl (.cons rfl (.cons rfl (.cons rfl .nil))))))) ?_
  exact hE10 (x9 + 1)
theorem ref22_Same_n_ok : ∀ n, (∀ (t0 : api_Condition) (t1 : api_Condition) (r : Bool), (ref22_Same_n n) t0 t1 = some r → FnP PP 46 [AAgg (c_api_Condition t0), AAgg (c_api_Condition t1)] (ABool r)) := by
  intro n
  induction n with
  | zero => exact (fun _ _ _ h => by cases h)
  | succ n ih => exact (fun a0 a1 r h => k_ref22_Same_b _ ih a0 a1 r h)
theorem k_ref22_Same (t0 : api_Condition) (t1 : api_Condition) (r : Bool) (hr : ref22_Same t0 t1 = some r) : FnP PP 46 [AAgg (c_api_Condition t0), AAgg (c_api_Condition t1)] (ABool r) := by
  obtain ⟨n, hn⟩ := Ev_some hr
  exact (ref22_Same_n_ok n) t0 t1 r hn
theorem k_ref24_Same (t0 : api_Rule) (t1 : api_Rule) (r : Bool) (hr : ref24_Same t0 t1 = some r) : FnP PP 12 [AAgg (c_api_Rule t0), AAgg (c_api_Rule t1)] (ABool r) := by
  refine FnP.of mixed_ Tryz.func12 rfl (n := 52) rfl (fun (r : Bool) => ABool r) nk_args NK.nk rfl hr fun X hΨ => ?_
  refine J_seq ?_
  refine J_region rfl ?_
  refine r_boxV (AAgg (c_api_Rule t0)) rfl rfl ?_
  refine r_boxV (AAgg (c_api_Rule t1)) rfl rfl ?_
  refine r_assign (ABool false) rfl rfl ?_
  refine R_nil0 ?_
  refine J_seq ?_
  refine J_region rfl ?_
  refine r_faT (c_str t0.Name) fo_37_0 rfl rfl rfl ?_
  refine r_ld (AStr t0.Name) sc_9 rfl rfl rfl ?_
  refine r_faT (c_str t1.Name) fo_37_0 rfl rfl rfl ?_
  refine r_ld (AStr t1.Name) sc_9 rfl rfl rfl ?_
  refine r_eqS rfl rfl rfl ?_
  refine r_move (ABool (decide (t0.Name = t1.Name))) rfl rfl ?_
  refine R_if (fun h1 => ?_) (fun h1 => ?_)
  rotate_left
  · refine R_skip (g_tn rfl rfl (df h1)) ?_
    refine R_skip (g_tn rfl rfl (df h1)) ?_
    refine R_skip (g_tn rfl rfl (df h1)) ?_
    refine R_skip (g_tn rfl rfl (df h1)) ?_
    refine R_skip (g_tn rfl rfl (df h1)) ?_
    refine r_pickF (ABool false) rfl (df h1) rfl rfl ?_
    refine r_move (ABool false) rfl rfl ?_
    refine R_skip (g_tn rfl rfl rfl) ?_
    refine R_skip (g_tn rfl rfl rfl) ?_
    refine R_skip (g_tn rfl rfl rfl) ?_
    refine R_skip (g_tn rfl rfl rfl) ?_
    refine R_skip (g_tn rfl rfl rfl) ?_
    refine r_pickF (ABool false) rfl rfl rfl rfl ?_
    refine r_move (ABool false) rfl rfl ?_
    refine R_skip (g_tn rfl rfl rfl) ?_
    refine R_skip (g_tn rfl rfl rfl) ?_
    refine R_skip (g_tn rfl rfl rfl) ?_
    refine R_skip (g_tn rfl rfl rfl) ?_
    refine R_skip (g_tn rfl rfl rfl) ?_
    refine r_pickF (ABool false) rfl rfl rfl rfl ?_
    refine r_move (ABool false) rfl rfl ?_
    refine R_skip (g_tn rfl rfl rfl) ?_
    refine R_skip (g_tn rfl rfl rfl) ?_
    refine R_skip (g_tn rfl rfl rfl) ?_
    refine R_skip (g_tn rfl rfl rfl) ?_
    refine R_skip (g_tn rfl rfl rfl) ?_
    refine r_pickF (ABool false) rfl rfl rfl rfl ?_
    refine r_move (ABool false) rfl rfl ?_
    refine R_skip (g_tn rfl rfl rfl) ?_
    refine R_skip (g_tn rfl rfl rfl) ?_
    refine R_skip (g_tn rfl rfl rfl) ?_
    refine R_skip (g_tn rfl rfl rfl) ?_
    refine R_skip (g_tn rfl rfl rfl) ?_
    refine r_pickF (ABool false) rfl rfl rfl rfl ?_
    refine r_move (ABool false) rfl rfl ?_
    refine R_skip (g_tn rfl rfl rfl) ?_
    refine R_skip (g_tn rfl rfl rfl) ?_
    refine R_skip (g_tn rfl rfl rfl) ?_
    refine R_skip (g_tn rfl rfl rfl) ?_
    refine R_skip (g_tn rfl rfl rfl) ?_
    refine r_pickF (ABool false) rfl rfl rfl rfl ?_
    refine r_assign (ABool false) rfl rfl ?_
    refine R_nil0 ?_
    exact J_ret hΨ (Res_one rfl) (fun y hy => by cases hy; rfl)
  refine r_faT (c_bool t0.Injective) fo_37_5 rfl rfl (g_t rfl rfl (dt h1)) ?_
  refine r_ld (ABool t0.Injective) sc_4 rfl rfl (g_t rfl rfl (dt h1)) ?_
  refine r_faT (c_bool t1.Injective) fo_37_5 rfl rfl (g_t rfl rfl (dt h1)) ?_
  refine r_ld (ABool t1.Injective) sc_4 rfl rfl (g_t rfl rfl (dt h1)) ?_
  refine r_eqB ut_4 rfl rfl (g_t rfl rfl (dt h1)) ?_
  refine r_pickT (ABool (t0.Injective == t1.Injective)) rfl (dt h1) rfl rfl ?_
  refine r_move (ABool (t0.Injective == t1.Injective)) rfl rfl ?_
  refine R_if (fun h2 => ?_) (fun h2 => ?_)
  rotate_left
  · refine R_skip (g_tn rfl rfl (bf h2)) ?_
    refine R_skip (g_tn rfl rfl (bf h2)) ?_
    refine R_skip (g_tn rfl rfl (bf h2)) ?_
    refine R_skip (g_tn rfl rfl (bf h2)) ?_
    refine R_skip (g_tn rfl rfl (bf h2)) ?_
    refine r_pickF (ABool false) rfl (bf h2) rfl rfl ?_
    refine r_move (ABool false) rfl rfl ?_
    refine R_skip (g_tn rfl rfl rfl) ?_
    refine R_skip (g_tn rfl rfl rfl) ?_
    refine R_skip (g_tn rfl rfl rfl) ?_
    refine R_skip (g_tn rfl rfl rfl) ?_
    refine R_skip (g_tn rfl rfl rfl) ?_
    refine r_pickF (ABool false) rfl rfl rfl rfl ?_
    refine r_move (ABool false) rfl rfl ?_
    refine R_skip (g_tn rfl rfl rfl) ?_
    refine R_skip (g_tn rfl rfl rfl) ?_
    refine R_skip (g_tn rfl rfl rfl) ?_
    refine R_skip (g_tn rfl rfl rfl) ?_
    refine R_skip (g_tn rfl rfl rfl) ?_
    refine r_pickF (ABool false) rfl rfl rfl rfl ?_
    refine r_move (ABool false) rfl rfl ?_
    refine R_skip (g_tn rfl rfl rfl) ?_
    refine R_skip (g_tn rfl rfl rfl) ?_
    refine R_skip (g_tn rfl rfl rfl) ?_
    refine R_skip (g_tn rfl rfl rfl) ?_
    refine R_skip (g_tn rfl rfl rfl) ?_
    refine r_pickF (ABool false) rfl rfl rfl rfl ?_
    refine r_move (ABool false) rfl rfl ?_
    refine R_skip (g_tn rfl rfl rfl) ?_
    refine R_skip (g_tn rfl rfl rfl) ?_
    refine R_skip (g_tn rfl rfl rfl) ?_
    refine R_skip (g_tn rfl rfl rfl) ?_
    refine R_skip (g_tn rfl rfl rfl) ?_
    refine r_pickF (ABool false) rfl rfl rfl rfl ?_
    refine r_assign (ABool false) rfl rfl ?_
    refine R_nil0 ?_
    exact J_ret hΨ (Res_one rfl) (fun y hy => by cases hy; rfl)
  refine r_faT (c_api_Pattern t0.Left) fo_37_1 rfl rfl (g_t rfl rfl h2) ?_
  refine r_lda (c_api_Pattern t0.Left) ag_29 rfl rfl rfl (g_t rfl rfl h2) ?_
  refine r_faT (c_api_Pattern t1.Left) fo_37_1 rfl rfl (g_t rfl rfl h2) ?_
  refine r_lda (c_api_Pattern t1.Left) ag_29 rfl rfl rfl (g_t rfl rfl h2) ?_
  refine R_bind fun b3 h4 => ?_
  refine r_call _ fn_43 (k_ref21_Same _ _ _ h4) rfl (g_t rfl rfl h2) ?_
  refine r_pickT (ABool b3) rfl h2 rfl rfl ?_
  refine r_move (ABool b3) rfl rfl ?_
  refine R_if (fun h5 => ?_) (fun h5 => ?_)
  rotate_left
  · refine R_skip (g_tn rfl rfl (bf h5)) ?_
    refine R_skip (g_tn rfl rfl (bf h5)) ?_
    refine R_skip (g_tn rfl rfl (bf h5)) ?_
    refine R_skip (g_tn rfl rfl (bf h5)) ?_
    refine R_skip (g_tn rfl rfl (bf h5)) ?_
    refine r_pickF (ABool false) rfl (bf h5) rfl rfl ?_
    refine r_move (ABool false) rfl rfl ?_
    refine R_skip (g_tn rfl rfl rfl) ?_
    refine R_skip (g_tn rfl rfl rfl) ?_
    refine R_skip (g_tn rfl rfl rfl) ?_
    refine R_skip (g_tn rfl rfl rfl) ?_
    refine R_skip (g_tn rfl rfl rfl) ?_
    refine r_pickF (ABool false) rfl rfl rfl rfl ?_
    refine r_move (ABool false) rfl rfl ?_
    refine R_skip (g_tn rfl rfl rfl) ?_
    refine R_skip (g_tn rfl rfl rfl) ?_
    refine R_skip (g_tn rfl rfl rfl) ?_
    refine R_skip (g_tn rfl rfl rfl) ?_
    refine R_skip (g_tn rfl rfl rfl) ?_
    refine r_pickF (ABool false) rfl rfl rfl rfl ?_
    refine r_move (ABool false) rfl rfl ?_
    refine R_skip (g_tn rfl rfl rfl) ?_
    refine R_skip (g_tn rfl rfl rfl) ?_
    refine R_skip (g_tn rfl rfl rfl) ?_
    refine R_skip (g_tn rfl rfl rfl) ?_
    refine R_skip (g_tn rfl rfl rfl) ?_
    refine r_pickF (ABool false) rfl rfl rfl rfl ?_
    refine r_assign (ABool false) rfl rfl ?_
    refine R_nil0 ?_
    exact J_ret hΨ (Res_one rfl) (fun y hy => by cases hy; rfl)
  refine r_faT (c_api_Pattern t0.Right) fo_37_2 rfl rfl (g_t rfl rfl h5) ?_
  refine r_lda (c_api_Pattern t0.Right) ag_29 rfl rfl rfl (g_t rfl rfl h5) ?_
  refine r_faT (c_api_Pattern t1.Right) fo_37_2 rfl rfl (g_t rfl rfl h5) ?_
  refine r_lda (c_api_Pattern t1.Right) ag_29 rfl rfl rfl (g_t rfl rfl h5) ?_
  refine R_bind fun b6 h7 => ?_
  refine r_call _ fn_43 (k_ref21_Same _ _ _ h7) rfl (g_t rfl rfl h5) ?_
  refine r_pickT (ABool b6) rfl h5 rfl rfl ?_
  refine r_move (ABool b6) rfl rfl ?_
  refine R_if (fun h8 => ?_) (fun h8 => ?_)
  rotate_left
  · refine R_skip (g_tn rfl rfl (bf h8)) ?_
    refine R_skip (g_tn rfl rfl (bf h8)) ?_
    refine R_skip (g_tn rfl rfl (bf h8)) ?_
    refine R_skip (g_tn rfl rfl (bf h8)) ?_
    refine R_skip (g_tn rfl rfl (bf h8)) ?_
    refine r_pickF (ABool false) rfl (bf h8) rfl rfl ?_
    refine r_move (ABool false) rfl rfl ?_
    refine R_skip (g_tn rfl rfl rfl) ?_
    refine R_skip (g_tn rfl rfl rfl) ?_
    refine R_skip (g_tn rfl rfl rfl) ?_
    refine R_skip (g_tn rfl rfl rfl) ?_
    refine R_skip (g_tn rfl rfl rfl) ?_
    refine r_pickF (ABool false) rfl rfl rfl rfl ?_
    refine r_move (ABool false) rfl rfl ?_
    refine R_skip (g_tn rfl rfl rfl) ?_
    refine R_skip (g_tn rfl rfl rfl) ?_
    refine R_skip (g_tn rfl rfl rfl) ?_
    refine R_skip (g_tn rfl rfl rfl) ?_
    refine R_skip (g_tn rfl rfl rfl) ?_
    refine r_pickF (ABool false) rfl rfl rfl rfl ?_
    refine r_assign (ABool false) rfl rfl ?_
    refine R_nil0 ?_
    exact J_ret hΨ (Res_one rfl) (fun y hy => by cases hy; rfl)
  refine r_faT (c_api_Part t0.Keep) fo_37_3 rfl rfl (g_t rfl rfl h8) ?_
  refine r_lda (c_api_Part t0.Keep) ag_31 rfl rfl rfl (g_t rfl rfl h8) ?_
  refine r_faT (c_api_Part t1.Keep) fo_37_3 rfl rfl (g_t rfl rfl h8) ?_
  refine r_lda (c_api_Part t1.Keep) ag_31 rfl rfl rfl (g_t rfl rfl h8) ?_
  refine R_bind fun b9 h10 => ?_
  refine r_call _ fn_44 (k_ref07_Same _ _ _ h10) rfl (g_t rfl rfl h8) ?_
  refine r_pickT (ABool b9) rfl h8 rfl rfl ?_
  refine r_move (ABool b9) rfl rfl ?_
  refine R_if (fun h11 => ?_) (fun h11 => ?_)
  rotate_left
  · refine R_skip (g_tn rfl rfl (bf h11)) ?_
    refine R_skip (g_tn rfl rfl (bf h11)) ?_
    refine R_skip (g_tn rfl rfl (bf h11)) ?_
    refine R_skip (g_tn rfl rfl (bf h11)) ?_
    refine R_skip (g_tn rfl rfl (bf h11)) ?_
    refine r_pickF (ABool false) rfl (bf h11) rfl rfl ?_
    refine r_move (ABool false) rfl rfl ?_
    refine R_skip (g_tn rfl rfl rfl) ?_
    refine R_skip (g_tn rfl rfl rfl) ?_
    refine R_skip (g_tn rfl rfl rfl) ?_
    refine R_skip (g_tn rfl rfl rfl) ?_
    refine R_skip (g_tn rfl rfl rfl) ?_
    refine r_pickF (ABool false) rfl rfl rfl rfl ?_
    refine r_assign (ABool false) rfl rfl ?_
    refine R_nil0 ?_
    exact J_ret hΨ (Res_one rfl) (fun y hy => by cases hy; rfl)
  refine r_faT (c_api_Morphism t0.Into) fo_37_4 rfl rfl (g_t rfl rfl h11) ?_
  refine r_lda (c_api_Morphism t0.Into) ag_32 rfl rfl rfl (g_t rfl rfl h11) ?_
  refine r_faT (c_api_Morphism t1.Into) fo_37_4 rfl rfl (g_t rfl rfl h11) ?_
  refine r_lda (c_api_Morphism t1.Into) ag_32 rfl rfl rfl (g_t rfl rfl h11) ?_
  refine R_bind fun b12 h13 => ?_
  refine r_call _ fn_45 (k_ref06_Same _ _ _ h13) rfl (g_t rfl rfl h11) ?_
  refine r_pickT (ABool b12) rfl h11 rfl rfl ?_
  refine r_move (ABool b12) rfl rfl ?_
  refine R_if (fun h14 => ?_) (fun h14 => ?_)
  rotate_left
  · refine R_skip (g_tn rfl rfl (bf h14)) ?_
    refine R_skip (g_tn rfl rfl (bf h14)) ?_
    refine R_skip (g_tn rfl rfl (bf h14)) ?_
    refine R_skip (g_tn rfl rfl (bf h14)) ?_
    refine R_skip (g_tn rfl rfl (bf h14)) ?_
    refine r_pickF (ABool false) rfl (bf h14) rfl rfl ?_
    refine r_assign (ABool false) rfl rfl ?_
    refine R_nil0 ?_
    exact J_ret hΨ (Res_one rfl) (fun y hy => by cases hy; rfl)
  refine r_faT (c_api_Condition t0.Condition) fo_37_6 rfl rfl (g_t rfl rfl h14) ?_
  refine r_lda (c_api_Condition t0.Condition) ag_35 rfl rfl rfl (g_t rfl rfl h14) ?_
  refine r_faT (c_api_Condition t1.Condition) fo_37_6 rfl rfl (g_t rfl rfl h14) ?_
  refine r_lda (c_api_Condition t1.Condition) ag_35 rfl rfl rfl (g_t rfl rfl h14) ?_
  refine R_bind fun b15 h16 => ?_
  refine r_call _ fn_46 (k_ref22_Same _ _ _ h16) rfl (g_t rfl rfl h14) ?_
  refine r_pickT (ABool b15) rfl h14 rfl rfl ?_
  refine r_assign (ABool b15) rfl rfl ?_
  refine R_nil0 ?_
  exact J_ret hΨ (Res_one rfl) (fun y hy => by cases hy; rfl)
theorem k_law24_RulePlain (t0 : api_Rule) (r : Bool) (hr : law24_RulePlain t0 = some r) : FnP PP 3 [AAgg (c_api_Rule t0)] (ABool r) := by
  refine FnP.of mixed_ Tryz.func3 rfl (n := 33) rfl (fun (r : Bool) => ABool r) nk_args NK.nk rfl hr fun X hΨ => ?_
  refine J_seq ?_
  refine J_region rfl ?_
  refine r_boxV (AAgg (c_api_Rule t0)) rfl rfl ?_
  refine r_assign (ABool false) rfl rfl ?_
  refine R_nil0 ?_
  refine J_seq ?_
  refine J_seq ?_
  refine J_region rfl ?_
  refine R_bind fun b1 h2 => ?_
  refine r_call _ fn_8 (k_law24_awake  _ h2) rfl rfl ?_
  refine r_not rfl rfl ?_
  refine r_move (ABool (!b1)) rfl rfl ?_
  refine R_if (fun h3 => ?_) (fun h3 => ?_)
  · refine R_skip (g_fn rfl rfl h3) ?_
    refine R_skip (g_fn rfl rfl h3) ?_
    refine R_skip (g_fn rfl rfl h3) ?_
    refine r_pickT (ABool true) rfl h3 rfl rfl ?_
    refine R_nil0 ?_
    refine J_cond_T rfl rfl ?_
    refine J_seq ?_
    refine J_region rfl ?_
    refine R_bind fun b7 h8 => ?_
    refine r_call _ fn_8 (k_law24_awake  _ h8) rfl rfl ?_
    refine r_assign (ABool b7) rfl rfl ?_
    refine R_nil0 ?_
    exact J_ret hΨ (Res_one rfl) (fun y hy => by cases hy; rfl)
  refine r_lda (c_api_Rule t0) ag_37 rfl rfl rfl (g_f rfl rfl (bf h3)) ?_
  refine R_bind fun b4 h5 => ?_
  refine r_call _ fn_9 (k_ref24_Few _ _ h5) rfl (g_f rfl rfl (bf h3)) ?_
  refine r_not rfl (g_f rfl rfl (bf h3)) ?_
  refine r_pickF (ABool (!b4)) rfl (bf h3) rfl rfl ?_
  refine R_nil0 ?_
  refine J_cond rfl (fun h6 => ?_) (fun h6 => ?_)
  · refine J_seq ?_
    refine J_region rfl ?_
    refine R_bind fun b9 h10 => ?_
    refine r_call _ fn_8 (k_law24_awake  _ h10) rfl rfl ?_
    refine r_assign (ABool b9) rfl rfl ?_
    refine R_nil0 ?_
    exact J_ret hΨ (Res_one rfl) (fun y hy => by cases hy; rfl)
  refine J_skip ?_
  refine J_seq ?_
  refine J_region rfl ?_
  refine r_lda (c_api_Rule t0) ag_37 rfl rfl rfl rfl ?_
  refine R_bind fun b11 h12 => ?_
  refine r_call _ fn_10 (k_rule_Plain _ _ h12) rfl rfl ?_
  refine r_move (ATup [AAgg (c_api_Rule b11.1), I_ b11.2]) rfl rfl ?_
  refine r_ext (AAgg (c_api_Rule b11.1)) rfl rfl rfl ?_
  refine r_ext (I_ b11.2) rfl rfl rfl ?_
  refine r_alloc 0 _ z_37 rfl rfl ?_
  refine r_stO (AObj 0) (AAgg (c_api_Rule b11.1)) (c_api_Rule b11.1) sz_37 rfl .obj rfl rfl rfl rfl rfl rfl ?_
  refine r_assign (I_ b11.2) rfl rfl ?_
  refine R_nil0 ?_
  refine J_seq ?_
  refine J_region rfl ?_
  refine r_lda (c_api_Rule t0) ag_37 rfl rfl rfl rfl ?_
  refine R_bind fun b13 h14 => ?_
  refine r_call _ fn_11 (k_ref24_Plain _ _ h14) rfl rfl ?_
  refine r_move (ATup [AAgg (c_api_Rule b13.1), I_ b13.2]) rfl rfl ?_
  refine r_ext (AAgg (c_api_Rule b13.1)) rfl rfl rfl ?_
  refine r_ext (I_ b13.2) rfl rfl rfl ?_
  refine r_alloc 1 _ z_37 rfl rfl ?_
  refine r_stO (AObj 1) (AAgg (c_api_Rule b13.1)) (c_api_Rule b13.1) sz_37 rfl .obj rfl rfl rfl rfl rfl rfl ?_
  refine r_assign (I_ b13.2) rfl rfl ?_
  refine R_nil0 ?_
  refine J_seq ?_
  refine J_region rfl ?_
  refine r_move (I_ b11.2) rfl rfl ?_
  refine r_move (I_ b13.2) rfl rfl ?_
  refine r_eql rfl rfl rfl ?_
  refine r_move (ABool (decide (b11.2 = b13.2))) rfl rfl ?_
  refine R_if (fun h15 => ?_) (fun h15 => ?_)
  rotate_left
  · refine R_skip (g_tn rfl rfl (df h15)) ?_
    refine R_skip (g_tn rfl rfl (df h15)) ?_
    refine R_skip (g_tn rfl rfl (df h15)) ?_
    refine r_pickF (ABool false) rfl (df h15) rfl rfl ?_
    refine r_assign (ABool false) rfl rfl ?_
    refine R_nil0 ?_
    exact J_ret hΨ (Res_one rfl) (fun y hy => by cases hy; rfl)
  refine r_ldaO (AObj 0) (c_api_Rule b11.1) ag_37 rfl .obj rfl rfl rfl (g_t rfl rfl (dt h15)) ?_
  refine r_ldaO (AObj 1) (c_api_Rule b13.1) ag_37 rfl .obj rfl rfl rfl (g_t rfl rfl (dt h15)) ?_
  refine R_bind fun b16 h17 => ?_
  refine r_call _ fn_12 (k_ref24_Same _ _ _ h17) rfl (g_t rfl rfl (dt h15)) ?_
  refine r_pickT (ABool b16) rfl (dt h15) rfl rfl ?_
  refine r_assign (ABool b16) rfl rfl ?_
  refine R_nil0 ?_
  exact J_ret hΨ (Res_one rfl) (fun y hy => by cases hy; rfl)
theorem k_slices_Equal_api_Edge (t0 : (List api_Edge)) (t1 : (List api_Edge)) (r : Bool) (hr : slices_Equal_api_Edge t0 t1 = some r) : FnP PP 101 [AL 3 c_api_Edge t0, AL 3 c_api_Edge t1] (ABool r) := by
  refine FnP.of mixed_ Tryz.func101 rfl (n := 26) rfl (fun (r : Bool) => ABool r) nk_args NK.nk rfl hr fun X hΨ => ?_
  refine J_seq ?_
  refine J_region rfl ?_
  refine r_assign (ABool false) rfl rfl ?_
  refine R_nil0 ?_
  refine J_seq ?_
  refine J_seq ?_
  refine J_region rfl ?_
  refine r_move (AL 3 c_api_Edge t0) rfl rfl ?_
  refine r_len (cc := c_api_Edge) il_23 rfl rfl ?_
  refine r_move (AL 3 c_api_Edge t1) rfl rfl ?_
  refine r_len (cc := c_api_Edge) il_23 rfl rfl ?_
  refine r_neq rfl rfl rfl ?_
  refine R_nil0 ?_
  refine J_cond_p rfl (fun h1 => ?_) (fun h1 => ?_)
  · refine J_seq ?_
    refine J_region rfl ?_
    refine r_assign (ABool false) rfl rfl ?_
    refine R_nil0 ?_
    exact J_ret hΨ (Res_one rfl) (fun y hy => by cases hy; rfl)
  refine J_skip ?_
  refine J_seq ?_
  refine J_seq ?_
  refine J_region rfl ?_
  refine r_move (AL 3 c_api_Edge t0) rfl rfl ?_
  refine r_len (cc := c_api_Edge) il_23 rfl rfl ?_
  refine r_move (I_ 0) rfl rfl ?_
  refine R_nil0 ?_
  refine J_block ?_
  refine J_to [(0, AL 3 c_api_Edge t0), (1, AL 3 c_api_Edge t1), (7, I_ (t0.length : Int)), (9, I_ (t1.length : Int)), (12, I_ (t0.length : Int)), (13, I_ 0)] (.cons rfl (.cons rfl (.cons rfl (.cons rfl (.cons rfl (.cons rfl .nil)))))) ?_
  refine J_it (fun x2 => ⟨fr [(0, AL 3 c_api_Edge t0), (1, AL 3 c_api_Edge t1), (7, I_ (t0.length : Int)), (9, I_ (t1.length : Int)), (12, I_ (t0.length : Int)), (13, I_ x2)], fun _ => none, 0⟩) (fun E3 hE3 x2 => ?_) (by rfl)
  refine J_seq ?_
  refine J_region rfl ?_
  refine r_lss rfl rfl rfl ?_
  refine R_nil0 ?_
  refine J_seq ?_
  refine J_cond_p rfl (fun h8 => ?_) (fun h8 => ?_)
  rotate_left
  · refine J_exit rfl ?_
    refine J_outS ?_
    refine J_seq ?_
    refine J_region rfl ?_
    refine r_assign (ABool true) rfl rfl ?_
    refine R_nil0 ?_
    exact J_ret hΨ (Res_one rfl) (fun y hy => by cases hy; rfl)
  refine J_skip ?_
  refine J_seq ?_
  refine J_block ?_
  refine J_seq ?_
  refine J_region rfl ?_
  refine r_move (I_ x2) rfl rfl ?_
  refine r_assign (I_ x2) rfl rfl ?_
  refine R_nil0 ?_
  refine J_seq ?_
  refine J_draw ?_
  refine r_move (AL 3 c_api_Edge t0) rfl rfl ?_
  refine r_move (I_ x2) rfl rfl ?_
  refine R_if (fun h9 => ?_) (fun _ => R_none)
  refine r_ix (cc := c_api_Edge) el_23 rfl rfl h9.1 h9.2 rfl ?_
  refine r_lda (c_api_Edge (nth t0 x2)) ag_135 rfl rfl rfl rfl ?_
  refine r_move (AL 3 c_api_Edge t1) rfl rfl ?_
  refine r_move (I_ x2) rfl rfl ?_
  refine R_if (fun h10 => ?_) (fun _ => R_none)
  refine r_ix (cc := c_api_Edge) el_23 rfl rfl h10.1 h10.2 rfl ?_
  refine r_lda (c_api_Edge (nth t1 x2)) ag_135 rfl rfl rfl rfl ?_
  refine r_neT (cc := c_api_Edge) fl_135 st_135 eg_135 rfl rfl rfl rfl ?_
  refine R_nilD rfl ?_
  refine J_cond_p rfl (fun h11 => ?_) (fun h11 => ?_)
  · refine J_seq ?_
    refine J_region rfl ?_
    refine r_assign (ABool false) rfl rfl ?_
    refine R_nil0 ?_
    refine J_outS ?_
    exact J_ret hΨ (Res_one rfl) (fun y hy => by cases hy; rfl)
  refine J_skip ?_
  refine J_inBlock ?_
  refine J_range 7 (m := (t0.length : Int)) rfl fun q12 => ?_
  refine J_range 5 (m := x2) rfl fun q13 => ?_
  refine J_region rfl ?_
  refine r_add (x2 + 1) rfl rfl (wrap_i64 (by omega) (by omega)) rfl ?_
  refine r_move (I_ (x2 + 1)) rfl rfl ?_
  refine R_nil0 ?_
  refine J_go ?_
  refine J_to [(0, AL 3 c_api_Edge t0), (1, AL 3 c_api_Edge t1), (7, I_ (t0.length : Int)), (9, I_ (t1.length : Int)), (12, I_ (t0.length : Int)), (13, I_ (x2 + 1))] (.cons rfl (.cons rfl (.cons rfl (.cons rfl (.cons rfl (.cons rfl .nil)))))) ?_
  exact hE3 (x2 + 1)
theorem k_graph_Same (t0 : api_Graph) (t1 : api_Graph) (r : Bool) (hr : graph_Same t0 t1 = some r) : FnP PP 98 [AAgg (c_api_Graph t0), AAgg (c_api_Graph t1)] (ABool r) := by
  refine FnP.of mixed_ Tryz.func98 rfl (n := 17) rfl (fun (r : Bool) => ABool r) nk_args NK.nk rfl hr fun X hΨ => ?_
  refine J_seq ?_
  refine J_region rfl ?_
  refine r_boxV (AAgg (c_api_Graph t0)) rfl rfl ?_
  refine r_boxV (AAgg (c_api_Graph t1)) rfl rfl ?_
  refine r_assign (ABool false) rfl rfl ?_
  refine R_nil0 ?_
  refine J_seq ?_
  refine J_region rfl ?_
  refine r_faT ((cL 1 c_i64) t0.Nodes) fo_25_0 rfl rfl rfl ?_
  refine r_ld (AL 1 c_i64 t0.Nodes) sc_22 rfl rfl rfl ?_
  refine r_faT ((cL 1 c_i64) t1.Nodes) fo_25_0 rfl rfl rfl ?_
  refine r_ld (AL 1 c_i64 t1.Nodes) sc_22 rfl rfl rfl ?_
  refine R_bind fun b1 h2 => ?_
  refine r_call _ fn_19 (k_slices_Equal_int _ _ _ h2) rfl rfl ?_
  refine r_move (ABool b1) rfl rfl ?_
  refine R_if (fun h3 => ?_) (fun h3 => ?_)
  rotate_left
  · refine R_skip (g_tn rfl rfl (bf h3)) ?_
    refine R_skip (g_tn rfl rfl (bf h3)) ?_
    refine R_skip (g_tn rfl rfl (bf h3)) ?_
    refine R_skip (g_tn rfl rfl (bf h3)) ?_
    refine R_skip (g_tn rfl rfl (bf h3)) ?_
    refine r_pickF (ABool false) rfl (bf h3) rfl rfl ?_
    refine r_assign (ABool false) rfl rfl ?_
    refine R_nil0 ?_
    exact J_ret hΨ (Res_one rfl) (fun y hy => by cases hy; rfl)
  refine r_faT ((cL 3 c_api_Edge) t0.Edges) fo_25_1 rfl rfl (g_t rfl rfl h3) ?_
  refine r_ld (AL 3 c_api_Edge t0.Edges) sc_23 rfl rfl (g_t rfl rfl h3) ?_
  refine r_faT ((cL 3 c_api_Edge) t1.Edges) fo_25_1 rfl rfl (g_t rfl rfl h3) ?_
  refine r_ld (AL 3 c_api_Edge t1.Edges) sc_23 rfl rfl (g_t rfl rfl h3) ?_
  refine R_bind fun b4 h5 => ?_
  refine r_call _ fn_101 (k_slices_Equal_api_Edge _ _ _ h5) rfl (g_t rfl rfl h3) ?_
  refine r_pickT (ABool b4) rfl h3 rfl rfl ?_
  refine r_assign (ABool b4) rfl rfl ?_
  refine R_nil0 ?_
  exact J_ret hΨ (Res_one rfl) (fun y hy => by cases hy; rfl)
theorem k_slices_Equal_api_Slot (t0 : (List api_Slot)) (t1 : (List api_Slot)) (r : Bool) (hr : slices_Equal_api_Slot t0 t1 = some r) : FnP PP 99 [AL 4 c_api_Slot t0, AL 4 c_api_Slot t1] (ABool r) := by
  refine FnP.of mixed_ Tryz.func99 rfl (n := 26) rfl (fun (r : Bool) => ABool r) nk_args NK.nk rfl hr fun X hΨ => ?_
  refine J_seq ?_
  refine J_region rfl ?_
  refine r_assign (ABool false) rfl rfl ?_
  refine R_nil0 ?_
  refine J_seq ?_
  refine J_seq ?_
  refine J_region rfl ?_
  refine r_move (AL 4 c_api_Slot t0) rfl rfl ?_
  refine r_len (cc := c_api_Slot) il_26 rfl rfl ?_
  refine r_move (AL 4 c_api_Slot t1) rfl rfl ?_
  refine r_len (cc := c_api_Slot) il_26 rfl rfl ?_
  refine r_neq rfl rfl rfl ?_
  refine R_nil0 ?_
  refine J_cond_p rfl (fun h1 => ?_) (fun h1 => ?_)
  · refine J_seq ?_
    refine J_region rfl ?_
    refine r_assign (ABool false) rfl rfl ?_
    refine R_nil0 ?_
    exact J_ret hΨ (Res_one rfl) (fun y hy => by cases hy; rfl)
  refine J_skip ?_
  refine J_seq ?_
  refine J_seq ?_
  refine J_region rfl ?_
  refine r_move (AL 4 c_api_Slot t0) rfl rfl ?_
  refine r_len (cc := c_api_Slot) il_26 rfl rfl ?_
  refine r_move (I_ 0) rfl rfl ?_
  refine R_nil0 ?_
  refine J_block ?_
  refine J_to [(0, AL 4 c_api_Slot t0), (1, AL 4 c_api_Slot t1), (7, I_ (t0.length : Int)), (9, I_ (t1.length : Int)), (12, I_ (t0.length : Int)), (13, I_ 0)] (.cons rfl (.cons rfl (.cons rfl (.cons rfl (.cons rfl (.cons rfl .nil)))))) ?_
  refine J_it (fun x2 => ⟨fr [(0, AL 4 c_api_Slot t0), (1, AL 4 c_api_Slot t1), (7, I_ (t0.length : Int)), (9, I_ (t1.length : Int)), (12, I_ (t0.length : Int)), (13, I_ x2)], fun _ => none, 0⟩) (fun E3 hE3 x2 => ?_) (by rfl)
  refine J_seq ?_
  refine J_region rfl ?_
  refine r_lss rfl rfl rfl ?_
  refine R_nil0 ?_
  refine J_seq ?_
  refine J_cond_p rfl (fun h8 => ?_) (fun h8 => ?_)
  rotate_left
  · refine J_exit rfl ?_
    refine J_outS ?_
    refine J_seq ?_
    refine J_region rfl ?_
    refine r_assign (ABool true) rfl rfl ?_
    refine R_nil0 ?_
    exact J_ret hΨ (Res_one rfl) (fun y hy => by cases hy; rfl)
  refine J_skip ?_
  refine J_seq ?_
  refine J_block ?_
  refine J_seq ?_
  refine J_region rfl ?_
  refine r_move (I_ x2) rfl rfl ?_
  refine r_assign (I_ x2) rfl rfl ?_
  refine R_nil0 ?_
  refine J_seq ?_
  refine J_draw ?_
  refine r_move (AL 4 c_api_Slot t0) rfl rfl ?_
  refine r_move (I_ x2) rfl rfl ?_
  refine R_if (fun h9 => ?_) (fun _ => R_none)
  refine r_ix (cc := c_api_Slot) el_26 rfl rfl h9.1 h9.2 rfl ?_
  refine r_lda (c_api_Slot (nth t0 x2)) ag_156 rfl rfl rfl rfl ?_
  refine r_move (AL 4 c_api_Slot t1) rfl rfl ?_
  refine r_move (I_ x2) rfl rfl ?_
  refine R_if (fun h10 => ?_) (fun _ => R_none)
  refine r_ix (cc := c_api_Slot) el_26 rfl rfl h10.1 h10.2 rfl ?_
  refine r_lda (c_api_Slot (nth t1 x2)) ag_156 rfl rfl rfl rfl ?_
  refine r_neT (cc := c_api_Slot) fl_156 st_156 eg_156 rfl rfl rfl rfl ?_
  refine R_nilD rfl ?_
  refine J_cond_p rfl (fun h11 => ?_) (fun h11 => ?_)
  · refine J_seq ?_
    refine J_region rfl ?_
    refine r_assign (ABool false) rfl rfl ?_
    refine R_nil0 ?_
    refine J_outS ?_
    exact J_ret hΨ (Res_one rfl) (fun y hy => by cases hy; rfl)
  refine J_skip ?_
  refine J_inBlock ?_
  refine J_range 7 (m := (t0.length : Int)) rfl fun q12 => ?_
  refine J_range 5 (m := x2) rfl fun q13 => ?_
  refine J_region rfl ?_
  refine r_add (x2 + 1) rfl rfl (wrap_i64 (by omega) (by omega)) rfl ?_
  refine r_move (I_ (x2 + 1)) rfl rfl ?_
  refine R_nil0 ?_
  refine J_go ?_
  refine J_to [(0, AL 4 c_api_Slot t0), (1, AL 4 c_api_Slot t1), (7, I_ (t0.length : Int)), (9, I_ (t1.length : Int)), (12, I_ (t0.length : Int)), (13, I_ (x2 + 1))] (.cons rfl (.cons rfl (.cons rfl (.cons rfl (.cons rfl (.cons rfl .nil)))))) ?_
  exact hE3 (x2 + 1)
theorem k_slices_Equal_api_Test (t0 : (List api_Test)) (t1 : (List api_Test)) (r : Bool) (hr : slices_Equal_api_Test t0 t1 = some r) : FnP PP 100 [AL 5 c_api_Test t0, AL 5 c_api_Test t1] (ABool r) := by
  refine FnP.of mixed_ Tryz.func100 rfl (n := 26) rfl (fun (r : Bool) => ABool r) nk_args NK.nk rfl hr fun X hΨ => ?_
  refine J_seq ?_
  refine J_region rfl ?_
  refine r_assign (ABool false) rfl rfl ?_
  refine R_nil0 ?_
  refine J_seq ?_
  refine J_seq ?_
  refine J_region rfl ?_
  refine r_move (AL 5 c_api_Test t0) rfl rfl ?_
  refine r_len (cc := c_api_Test) il_27 rfl rfl ?_
  refine r_move (AL 5 c_api_Test t1) rfl rfl ?_
  refine r_len (cc := c_api_Test) il_27 rfl rfl ?_
  refine r_neq rfl rfl rfl ?_
  refine R_nil0 ?_
  refine J_cond_p rfl (fun h1 => ?_) (fun h1 => ?_)
  · refine J_seq ?_
    refine J_region rfl ?_
    refine r_assign (ABool false) rfl rfl ?_
    refine R_nil0 ?_
    exact J_ret hΨ (Res_one rfl) (fun y hy => by cases hy; rfl)
  refine J_skip ?_
  refine J_seq ?_
  refine J_seq ?_
  refine J_region rfl ?_
  refine r_move (AL 5 c_api_Test t0) rfl rfl ?_
  refine r_len (cc := c_api_Test) il_27 rfl rfl ?_
  refine r_move (I_ 0) rfl rfl ?_
  refine R_nil0 ?_
  refine J_block ?_
  refine J_to [(0, AL 5 c_api_Test t0), (1, AL 5 c_api_Test t1), (7, I_ (t0.length : Int)), (9, I_ (t1.length : Int)), (12, I_ (t0.length : Int)), (13, I_ 0)] (.cons rfl (.cons rfl (.cons rfl (.cons rfl (.cons rfl (.cons rfl .nil)))))) ?_
  refine J_it (fun x2 => ⟨fr [(0, AL 5 c_api_Test t0), (1, AL 5 c_api_Test t1), (7, I_ (t0.length : Int)), (9, I_ (t1.length : Int)), (12, I_ (t0.length : Int)), (13, I_ x2)], fun _ => none, 0⟩) (fun E3 hE3 x2 => ?_) (by rfl)
  refine J_seq ?_
  refine J_region rfl ?_
  refine r_lss rfl rfl rfl ?_
  refine R_nil0 ?_
  refine J_seq ?_
  refine J_cond_p rfl (fun h8 => ?_) (fun h8 => ?_)
  rotate_left
  · refine J_exit rfl ?_
    refine J_outS ?_
    refine J_seq ?_
    refine J_region rfl ?_
    refine r_assign (ABool true) rfl rfl ?_
    refine R_nil0 ?_
    exact J_ret hΨ (Res_one rfl) (fun y hy => by cases hy; rfl)
  refine J_skip ?_
  refine J_seq ?_
  refine J_block ?_
  refine J_seq ?_
  refine J_region rfl ?_
  refine r_move (I_ x2) rfl rfl ?_
  refine r_assign (I_ x2) rfl rfl ?_
  refine R_nil0 ?_
  refine J_seq ?_
  refine J_draw ?_
  refine r_move (AL 5 c_api_Test t0) rfl rfl ?_
  refine r_move (I_ x2) rfl rfl ?_
  refine R_if (fun h9 => ?_) (fun _ => R_none)
  refine r_ix (cc := c_api_Test) el_27 rfl rfl h9.1 h9.2 rfl ?_
  refine r_lda (c_api_Test (nth t0 x2)) ag_158 rfl rfl rfl rfl ?_
  refine r_move (AL 5 c_api_Test t1) rfl rfl ?_
  refine r_move (I_ x2) rfl rfl ?_
  refine R_if (fun h10 => ?_) (fun _ => R_none)
  refine r_ix (cc := c_api_Test) el_27 rfl rfl h10.1 h10.2 rfl ?_
  refine r_lda (c_api_Test (nth t1 x2)) ag_158 rfl rfl rfl rfl ?_
  refine r_neT (cc := c_api_Test) fl_158 st_158 eg_158 rfl rfl rfl rfl ?_
  refine R_nilD rfl ?_
  refine J_cond_p rfl (fun h11 => ?_) (fun h11 => ?_)
  · refine J_seq ?_
    refine J_region rfl ?_
    refine r_assign (ABool false) rfl rfl ?_
    refine R_nil0 ?_
    refine J_outS ?_
    exact J_ret hΨ (Res_one rfl) (fun y hy => by cases hy; rfl)
  refine J_skip ?_
  refine J_inBlock ?_
  refine J_range 7 (m := (t0.length : Int)) rfl fun q12 => ?_
  refine J_range 5 (m := x2) rfl fun q13 => ?_
  refine J_region rfl ?_
  refine r_add (x2 + 1) rfl rfl (wrap_i64 (by omega) (by omega)) rfl ?_
  refine r_move (I_ (x2 + 1)) rfl rfl ?_
  refine R_nil0 ?_
  refine J_go ?_
  refine J_to [(0, AL 5 c_api_Test t0), (1, AL 5 c_api_Test t1), (7, I_ (t0.length : Int)), (9, I_ (t1.length : Int)), (12, I_ (t0.length : Int)), (13, I_ (x2 + 1))] (.cons rfl (.cons rfl (.cons rfl (.cons rfl (.cons rfl (.cons rfl .nil)))))) ?_
  exact hE3 (x2 + 1)
theorem k_rule_samePattern (t0 : api_Pattern) (t1 : api_Pattern) (r : Bool) (hr : rule_samePattern t0 t1 = some r) : FnP PP 47 [AAgg (c_api_Pattern t0), AAgg (c_api_Pattern t1)] (ABool r) := by
  refine FnP.of mixed_ Tryz.func47 rfl (n := 31) rfl (fun (r : Bool) => ABool r) nk_args NK.nk rfl hr fun X hΨ => ?_
  refine J_seq ?_
  refine J_region rfl ?_
  refine r_boxV (AAgg (c_api_Pattern t0)) rfl rfl ?_
  refine r_boxV (AAgg (c_api_Pattern t1)) rfl rfl ?_
  refine r_assign (ABool false) rfl rfl ?_
  refine R_nil0 ?_
  refine J_seq ?_
  refine J_region rfl ?_
  refine r_faT (c_api_Graph t0.Graph) fo_29_0 rfl rfl rfl ?_
  refine r_lda (c_api_Graph t0.Graph) ag_25 rfl rfl rfl rfl ?_
  refine r_faT (c_api_Graph t1.Graph) fo_29_0 rfl rfl rfl ?_
  refine r_lda (c_api_Graph t1.Graph) ag_25 rfl rfl rfl rfl ?_
  refine R_bind fun b1 h2 => ?_
  refine r_call _ fn_98 (k_graph_Same _ _ _ h2) rfl rfl ?_
  refine r_move (ABool b1) rfl rfl ?_
  refine R_if (fun h3 => ?_) (fun h3 => ?_)
  rotate_left
  · refine R_skip (g_tn rfl rfl (bf h3)) ?_
    refine R_skip (g_tn rfl rfl (bf h3)) ?_
    refine R_skip (g_tn rfl rfl (bf h3)) ?_
    refine R_skip (g_tn rfl rfl (bf h3)) ?_
    refine R_skip (g_tn rfl rfl (bf h3)) ?_
    refine r_pickF (ABool false) rfl (bf h3) rfl rfl ?_
    refine r_move (ABool false) rfl rfl ?_
    refine R_skip (g_tn rfl rfl rfl) ?_
    refine R_skip (g_tn rfl rfl rfl) ?_
    refine R_skip (g_tn rfl rfl rfl) ?_
    refine R_skip (g_tn rfl rfl rfl) ?_
    refine R_skip (g_tn rfl rfl rfl) ?_
    refine r_pickF (ABool false) rfl rfl rfl rfl ?_
    refine r_move (ABool false) rfl rfl ?_
    refine R_skip (g_tn rfl rfl rfl) ?_
    refine R_skip (g_tn rfl rfl rfl) ?_
    refine R_skip (g_tn rfl rfl rfl) ?_
    refine R_skip (g_tn rfl rfl rfl) ?_
    refine R_skip (g_tn rfl rfl rfl) ?_
    refine r_pickF (ABool false) rfl rfl rfl rfl ?_
    refine r_assign (ABool false) rfl rfl ?_
    refine R_nil0 ?_
    exact J_ret hΨ (Res_one rfl) (fun y hy => by cases hy; rfl)
  refine r_faT (c_i64 t0.Vars) fo_29_2 rfl rfl (g_t rfl rfl h3) ?_
  refine r_ld (I_ t0.Vars) sc_3 rfl rfl (g_t rfl rfl h3) ?_
  refine r_faT (c_i64 t1.Vars) fo_29_2 rfl rfl (g_t rfl rfl h3) ?_
  refine r_ld (I_ t1.Vars) sc_3 rfl rfl (g_t rfl rfl h3) ?_
  refine r_eql rfl rfl (g_t rfl rfl h3) ?_
  refine r_pickT (ABool (decide (t0.Vars = t1.Vars))) rfl h3 rfl rfl ?_
  refine r_move (ABool (decide (t0.Vars = t1.Vars))) rfl rfl ?_
  refine R_if (fun h4 => ?_) (fun h4 => ?_)
  rotate_left
  · refine R_skip (g_tn rfl rfl (df h4)) ?_
    refine R_skip (g_tn rfl rfl (df h4)) ?_
    refine R_skip (g_tn rfl rfl (df h4)) ?_
    refine R_skip (g_tn rfl rfl (df h4)) ?_
    refine R_skip (g_tn rfl rfl (df h4)) ?_
    refine r_pickF (ABool false) rfl (df h4) rfl rfl ?_
    refine r_move (ABool false) rfl rfl ?_
    refine R_skip (g_tn rfl rfl rfl) ?_
    refine R_skip (g_tn rfl rfl rfl) ?_
    refine R_skip (g_tn rfl rfl rfl) ?_
    refine R_skip (g_tn rfl rfl rfl) ?_
    refine R_skip (g_tn rfl rfl rfl) ?_
    refine r_pickF (ABool false) rfl rfl rfl rfl ?_
    refine r_assign (ABool false) rfl rfl ?_
    refine R_nil0 ?_
    exact J_ret hΨ (Res_one rfl) (fun y hy => by cases hy; rfl)
  refine r_faT ((cL 4 c_api_Slot) t0.Slots) fo_29_1 rfl rfl (g_t rfl rfl (dt h4)) ?_
  refine r_ld (AL 4 c_api_Slot t0.Slots) sc_26 rfl rfl (g_t rfl rfl (dt h4)) ?_
  refine r_faT ((cL 4 c_api_Slot) t1.Slots) fo_29_1 rfl rfl (g_t rfl rfl (dt h4)) ?_
  refine r_ld (AL 4 c_api_Slot t1.Slots) sc_26 rfl rfl (g_t rfl rfl (dt h4)) ?_
  refine R_bind fun b5 h6 => ?_
  refine r_call _ fn_99 (k_slices_Equal_api_Slot _ _ _ h6) rfl (g_t rfl rfl (dt h4)) ?_
  refine r_pickT (ABool b5) rfl (dt h4) rfl rfl ?_
  refine r_move (ABool b5) rfl rfl ?_
  refine R_if (fun h7 => ?_) (fun h7 => ?_)
  rotate_left
  · refine R_skip (g_tn rfl rfl (bf h7)) ?_
    refine R_skip (g_tn rfl rfl (bf h7)) ?_
    refine R_skip (g_tn rfl rfl (bf h7)) ?_
    refine R_skip (g_tn rfl rfl (bf h7)) ?_
    refine R_skip (g_tn rfl rfl (bf h7)) ?_
    refine r_pickF (ABool false) rfl (bf h7) rfl rfl ?_
    refine r_assign (ABool false) rfl rfl ?_
    refine R_nil0 ?_
    exact J_ret hΨ (Res_one rfl) (fun y hy => by cases hy; rfl)
  refine r_faT ((cL 5 c_api_Test) t0.Tests) fo_29_3 rfl rfl (g_t rfl rfl h7) ?_
  refine r_ld (AL 5 c_api_Test t0.Tests) sc_27 rfl rfl (g_t rfl rfl h7) ?_
  refine r_faT ((cL 5 c_api_Test) t1.Tests) fo_29_3 rfl rfl (g_t rfl rfl h7) ?_
  refine r_ld (AL 5 c_api_Test t1.Tests) sc_27 rfl rfl (g_t rfl rfl h7) ?_
  refine R_bind fun b8 h9 => ?_
  refine r_call _ fn_100 (k_slices_Equal_api_Test _ _ _ h9) rfl (g_t rfl rfl h7) ?_
  refine r_pickT (ABool b8) rfl h7 rfl rfl ?_
  refine r_assign (ABool b8) rfl rfl ?_
  refine R_nil0 ?_
  exact J_ret hΨ (Res_one rfl) (fun y hy => by cases hy; rfl)
theorem k_morphism_Same (t0 : api_Morphism) (t1 : api_Morphism) (r : Bool) (hr : morphism_Same t0 t1 = some r) : FnP PP 48 [AAgg (c_api_Morphism t0), AAgg (c_api_Morphism t1)] (ABool r) := by
  refine FnP.of mixed_ Tryz.func48 rfl (n := 17) rfl (fun (r : Bool) => ABool r) nk_args NK.nk rfl hr fun X hΨ => ?_
  refine J_seq ?_
  refine J_region rfl ?_
  refine r_boxV (AAgg (c_api_Morphism t0)) rfl rfl ?_
  refine r_boxV (AAgg (c_api_Morphism t1)) rfl rfl ?_
  refine r_assign (ABool false) rfl rfl ?_
  refine R_nil0 ?_
  refine J_seq ?_
  refine J_region rfl ?_
  refine r_faT ((cL 1 c_i64) t0.Nodes) fo_32_0 rfl rfl rfl ?_
  refine r_ld (AL 1 c_i64 t0.Nodes) sc_22 rfl rfl rfl ?_
  refine r_faT ((cL 1 c_i64) t1.Nodes) fo_32_0 rfl rfl rfl ?_
  refine r_ld (AL 1 c_i64 t1.Nodes) sc_22 rfl rfl rfl ?_
  refine R_bind fun b1 h2 => ?_
  refine r_call _ fn_19 (k_slices_Equal_int _ _ _ h2) rfl rfl ?_
  refine r_move (ABool b1) rfl rfl ?_
  refine R_if (fun h3 => ?_) (fun h3 => ?_)
  rotate_left
  · refine R_skip (g_tn rfl rfl (bf h3)) ?_
    refine R_skip (g_tn rfl rfl (bf h3)) ?_
    refine R_skip (g_tn rfl rfl (bf h3)) ?_
    refine R_skip (g_tn rfl rfl (bf h3)) ?_
    refine R_skip (g_tn rfl rfl (bf h3)) ?_
    refine r_pickF (ABool false) rfl (bf h3) rfl rfl ?_
    refine r_assign (ABool false) rfl rfl ?_
    refine R_nil0 ?_
    exact J_ret hΨ (Res_one rfl) (fun y hy => by cases hy; rfl)
  refine r_faT ((cL 1 c_i64) t0.Edges) fo_32_1 rfl rfl (g_t rfl rfl h3) ?_
  refine r_ld (AL 1 c_i64 t0.Edges) sc_22 rfl rfl (g_t rfl rfl h3) ?_
  refine r_faT ((cL 1 c_i64) t1.Edges) fo_32_1 rfl rfl (g_t rfl rfl h3) ?_
  refine r_ld (AL 1 c_i64 t1.Edges) sc_22 rfl rfl (g_t rfl rfl h3) ?_
  refine R_bind fun b4 h5 => ?_
  refine r_call _ fn_19 (k_slices_Equal_int _ _ _ h5) rfl (g_t rfl rfl h3) ?_
  refine r_pickT (ABool b4) rfl h3 rfl rfl ?_
  refine r_assign (ABool b4) rfl rfl ?_
  refine R_nil0 ?_
  exact J_ret hΨ (Res_one rfl) (fun y hy => by cases hy; rfl)
theorem k_slices_EqualFunc_api_Condition (t0 : (List api_Condition)) (t1 : (List api_Condition)) (t2 : ((api_Condition × api_Condition) → Option Bool)) (r : Bool) (hr : slices_EqualFunc_api_Condition t0 t1 t2 = some r) : FnP PP 102 [AL 9 c_api_Condition t0, AL 9 c_api_Condition t1, AFn PP (fun x => [AAgg (c_api_Condition x.1), AAgg (c_api_Condition x.2)]) (fun y => ABool y) t2] (ABool r) := by
  refine FnP.of mixed_ Tryz.func102 rfl (n := 32) rfl (fun (r : Bool) => ABool r) nk_args NK.nk rfl hr fun X hΨ => ?_
  refine J_seq ?_
  refine J_region rfl ?_
  refine r_assign (ABool false) rfl rfl ?_
  refine R_nil0 ?_
  refine J_seq ?_
  refine J_seq ?_
  refine J_region rfl ?_
  refine r_move (AL 9 c_api_Condition t0) rfl rfl ?_
  refine r_len (cc := c_api_Condition) il_33 rfl rfl ?_
  refine r_move (AL 9 c_api_Condition t1) rfl rfl ?_
  refine r_len (cc := c_api_Condition) il_33 rfl rfl ?_
  refine r_neq rfl rfl rfl ?_
  refine R_nil0 ?_
  refine J_cond_p rfl (fun h1 => ?_) (fun h1 => ?_)
  · refine J_seq ?_
    refine J_region rfl ?_
    refine r_assign (ABool false) rfl rfl ?_
    refine R_nil0 ?_
    exact J_ret hΨ (Res_one rfl) (fun y hy => by cases hy; rfl)
  refine J_skip ?_
  refine J_seq ?_
  refine J_seq ?_
  refine J_region rfl ?_
  refine r_move (AL 9 c_api_Condition t0) rfl rfl ?_
  refine r_len (cc := c_api_Condition) il_33 rfl rfl ?_
  refine r_move (I_ 0) rfl rfl ?_
  refine R_nil0 ?_
  refine J_block ?_
  refine J_cv [] [] [] 0 [(1, AL 9 c_api_Condition t1), (2, AFn PP (fun x => [AAgg (c_api_Condition x.1), AAgg (c_api_Condition x.2)]) (fun y => ABool y) t2), (11, I_ (t0.length : Int)), (13, I_ (t1.length : Int)), (15, AL 9 c_api_Condition t0), (16, I_ (t0.length : Int)), (17, I_ 0)] [] (.same rfl (.same rfl (.same rfl (.same rfl (.same rfl (.same rfl (.same rfl .nil))))))) .nil rfl rfl ?_
  refine J_it (fun x2 => ⟨fr [(1, AL 9 c_api_Condition t1), (2, AFn PP (fun x => [AAgg (c_api_Condition x.1), AAgg (c_api_Condition x.2)]) (fun y => ABool y) t2), (11, I_ (t0.length : Int)), (13, I_ (t1.length : Int)), (15, AL 9 c_api_Condition t0), (16, I_ (t0.length : Int)), (17, I_ x2)], hp [], 0⟩) (fun E3 hE3 x2 => ?_) (by rfl)
  refine J_seq ?_
  refine J_region rfl ?_
  refine r_lss rfl rfl rfl ?_
  refine R_nil0 ?_
  refine J_seq ?_
  refine J_cond_p rfl (fun h10 => ?_) (fun h10 => ?_)
  rotate_left
  · refine J_exit rfl ?_
    refine J_outS ?_
    refine J_seq ?_
    refine J_region rfl ?_
    refine r_assign (ABool true) rfl rfl ?_
    refine R_nil0 ?_
    exact J_ret hΨ (Res_one rfl) (fun y hy => by cases hy; rfl)
  refine J_skip ?_
  refine J_seq ?_
  refine J_block ?_
  refine J_seq ?_
  refine J_region rfl ?_
  refine r_move (I_ x2) rfl rfl ?_
  refine R_if (fun h11 => ?_) (fun _ => R_none)
  refine r_ix (cc := c_api_Condition) el_33 rfl rfl h11.1 h11.2 rfl ?_
  refine r_lda (c_api_Condition (nth t0 x2)) ag_35 rfl rfl rfl rfl ?_
  refine r_alloc 0 _ z_35 rfl rfl ?_
  refine r_assign (I_ x2) rfl rfl ?_
  refine r_stO (AObj 0) (AAgg (c_api_Condition (nth t0 x2))) (c_api_Condition (nth t0 x2)) sz_35 rfl .obj rfl rfl rfl rfl rfl rfl ?_
  refine R_nil0 ?_
  refine J_seq ?_
  refine J_region rfl ?_
  refine r_move (AL 9 c_api_Condition t1) rfl rfl ?_
  refine r_move (I_ x2) rfl rfl ?_
  refine R_if (fun h12 => ?_) (fun _ => R_none)
  refine r_ix (cc := c_api_Condition) el_33 rfl rfl h12.1 h12.2 rfl ?_
  refine r_lda (c_api_Condition (nth t1 x2)) ag_35 rfl rfl rfl rfl ?_
  refine r_alloc 1 _ z_35 rfl rfl ?_
  refine r_stO (AObj 1) (AAgg (c_api_Condition (nth t1 x2))) (c_api_Condition (nth t1 x2)) sz_35 rfl .obj rfl rfl rfl rfl rfl rfl ?_
  refine R_nil0 ?_
  refine J_seq ?_
  refine J_region rfl ?_
  refine r_move (AFn PP (fun x => [AAgg (c_api_Condition x.1), AAgg (c_api_Condition x.2)]) (fun y => ABool y) t2) rfl rfl ?_
  refine r_ldaO (AObj 0) (c_api_Condition (nth t0 x2)) ag_35 rfl .obj rfl rfl rfl rfl ?_
  refine r_ldaO (AObj 1) (c_api_Condition (nth t1 x2)) ag_35 rfl .obj rfl rfl rfl rfl ?_
  refine R_bind fun b13 h14 => ?_
  refine r_callFn (ga := (fun x => [AAgg (c_api_Condition x.1), AAgg (c_api_Condition x.2)])) (rt := (fun y => ABool y)) (gg := t2) (u := ((nth t0 x2), (nth t1 x2))) (w := b13) rfl rfl h14 (NK.nk) rfl ?_
  refine r_not rfl rfl ?_
  refine R_nil0 ?_
  refine J_cond rfl (fun h15 => ?_) (fun h15 => ?_)
  · refine J_seq ?_
    refine J_region rfl ?_
    refine r_assign (ABool false) rfl rfl ?_
    refine R_nil0 ?_
    refine J_outS ?_
    exact J_ret hΨ (Res_one rfl) (fun y hy => by cases hy; rfl)
  refine J_skip ?_
  refine J_inBlock ?_
  refine J_range 11 (m := (t0.length : Int)) rfl fun q16 => ?_
  refine J_range 7 (m := x2) rfl fun q17 => ?_
  refine J_region rfl ?_
  refine r_add (x2 + 1) rfl rfl (wrap_i64 (by omega) (by omega)) rfl ?_
  refine r_move (I_ (x2 + 1)) rfl rfl ?_
  refine R_nil0 ?_
  refine J_go ?_
  refine J_cv [] [] [] 0 [(1, AL 9 c_api_Condition t1), (2, AFn PP (fun x => [AAgg (c_api_Condition x.1), AAgg (c_api_Condition x.2)]) (fun y => ABool y) t2), (11, I_ (t0.length : Int)), (13, I_ (t1.length : Int)), (15, AL 9 c_api_Condition t0), (16, I_ (t0.length : Int)), (17, I_ (x2 + 1))] [] (.same rfl (.same rfl (.same rfl (.same rfl (.same rfl (.same rfl (.same rfl .nil))))))) .nil rfl rfl ?_
  exact hE3 (x2 + 1)
theorem k_condition_Same_b (q_condition_Same : api_Condition → api_Condition → Option Bool) (hq_condition_Same : ∀ (t0 : api_Condition) (t1 : api_Condition) (r : Bool), q_condition_Same t0 t1 = some r → FnP PP 49 [AAgg (c_api_Condition t0), AAgg (c_api_Condition t1)] (ABool r)) (t0 : api_Condition) (t1 : api_Condition) (r : Bool) (hr : condition_Same_b q_condition_Same t0 t1 = some r) : FnP PP 49 [AAgg (c_api_Condition t0), AAgg (c_api_Condition t1)] (ABool r) := by
  refine FnP.of mixed_ Tryz.func49 rfl (n := 70) rfl (fun (r : Bool) => ABool r) nk_args NK.nk rfl hr fun X hΨ => ?_
  refine J_seq ?_
  refine J_region rfl ?_
  refine r_boxV (AAgg (c_api_Condition t0)) rfl rfl ?_
  refine r_boxV (AAgg (c_api_Condition t1)) rfl rfl ?_
  refine r_assign (ABool false) rfl rfl ?_
  refine R_nil0 ?_
  refine J_seq ?_
  refine J_draw ?_
  refine r_faT (c_api_Pattern t0.Pattern) fo_35_3 rfl rfl rfl ?_
  refine r_lda (c_api_Pattern t0.Pattern) ag_29 rfl rfl rfl rfl ?_
  refine r_faT (c_api_Pattern t1.Pattern) fo_35_3 rfl rfl rfl ?_
  refine r_lda (c_api_Pattern t1.Pattern) ag_29 rfl rfl rfl rfl ?_
  refine r_alloc 0 _ z_29 rfl rfl ?_
  refine r_alloc 1 _ z_29 rfl rfl ?_
  refine r_stO (AObj 0) (AAgg (c_api_Pattern t0.Pattern)) (c_api_Pattern t0.Pattern) sz_29 rfl .obj rfl rfl rfl rfl rfl rfl ?_
  refine r_stO (AObj 1) (AAgg (c_api_Pattern t1.Pattern)) (c_api_Pattern t1.Pattern) sz_29 rfl .obj rfl rfl rfl rfl rfl rfl ?_
  refine R_nilD rfl ?_
  refine J_seq ?_
  refine J_seq ?_
  refine J_region rfl ?_
  refine r_faT (c_i64 t0.Kind) fo_35_0 rfl rfl rfl ?_
  refine r_ld (I_ t0.Kind) sc_3 rfl rfl rfl ?_
  refine r_faT (c_i64 t1.Kind) fo_35_0 rfl rfl rfl ?_
  refine r_ld (I_ t1.Kind) sc_3 rfl rfl rfl ?_
  refine r_neq rfl rfl rfl ?_
  refine r_move (ABool (decide (¬ (t0.Kind = t1.Kind)))) rfl rfl ?_
  refine R_if (fun h1 => ?_) (fun h1 => ?_)
  · refine R_skip (g_fn rfl rfl (dt h1)) ?_
    refine R_skip (g_fn rfl rfl (dt h1)) ?_
    refine R_skip (g_fn rfl rfl (dt h1)) ?_
    refine R_skip (g_fn rfl rfl (dt h1)) ?_
    refine R_skip (g_fn rfl rfl (dt h1)) ?_
    refine R_skip (g_fn rfl rfl (dt h1)) ?_
    refine r_pickT (ABool true) rfl (dt h1) rfl rfl ?_
    refine r_move (ABool true) rfl rfl ?_
    refine R_skip (g_fn rfl rfl rfl) ?_
    refine R_skip (g_fn rfl rfl rfl) ?_
    refine R_skip (g_fn rfl rfl rfl) ?_
    refine R_skip (g_fn rfl rfl rfl) ?_
    refine R_skip (g_fn rfl rfl rfl) ?_
    refine r_pickT (ABool true) rfl rfl rfl rfl ?_
    refine r_move (ABool true) rfl rfl ?_
    refine R_skip (g_fn rfl rfl rfl) ?_
    refine R_skip (g_fn rfl rfl rfl) ?_
    refine R_skip (g_fn rfl rfl rfl) ?_
    refine R_skip (g_fn rfl rfl rfl) ?_
    refine R_skip (g_fn rfl rfl rfl) ?_
    refine R_skip (g_fn rfl rfl rfl) ?_
    refine R_skip (g_fn rfl rfl rfl) ?_
    refine R_skip (g_fn rfl rfl rfl) ?_
    refine r_pickT (ABool true) rfl rfl rfl rfl ?_
    refine r_move (ABool true) rfl rfl ?_
    refine R_skip (g_fn rfl rfl rfl) ?_
    refine R_skip (g_fn rfl rfl rfl) ?_
    refine R_skip (g_fn rfl rfl rfl) ?_
    refine R_skip (g_fn rfl rfl rfl) ?_
    refine R_skip (g_fn rfl rfl rfl) ?_
    refine R_skip (g_fn rfl rfl rfl) ?_
    refine R_skip (g_fn rfl rfl rfl) ?_
    refine R_skip (g_fn rfl rfl rfl) ?_
    refine r_pickT (ABool true) rfl rfl rfl rfl ?_
    refine R_nil0 ?_
    refine J_cond_T rfl rfl ?_
    refine J_seq ?_
    refine J_region rfl ?_
    refine r_assign (ABool false) rfl rfl ?_
    refine R_nil0 ?_
    exact J_ret hΨ (Res_one rfl) (fun y hy => by cases hy; rfl)
  refine r_faT (c_api_Morphism t0.Map) fo_35_2 rfl rfl (g_f rfl rfl (df h1)) ?_
  refine r_lda (c_api_Morphism t0.Map) ag_32 rfl rfl rfl (g_f rfl rfl (df h1)) ?_
  refine r_faT (c_api_Morphism t1.Map) fo_35_2 rfl rfl (g_f rfl rfl (df h1)) ?_
  refine r_lda (c_api_Morphism t1.Map) ag_32 rfl rfl rfl (g_f rfl rfl (df h1)) ?_
  refine R_bind fun b2 h3 => ?_
  refine r_call _ fn_48 (k_morphism_Same _ _ _ h3) rfl (g_f rfl rfl (df h1)) ?_
  refine r_not rfl (g_f rfl rfl (df h1)) ?_
  refine r_pickF (ABool (!b2)) rfl (df h1) rfl rfl ?_
  refine r_move (ABool (!b2)) rfl rfl ?_
  refine R_if (fun h4 => ?_) (fun h4 => ?_)
  · refine R_skip (g_fn rfl rfl h4) ?_
    refine R_skip (g_fn rfl rfl h4) ?_
    refine R_skip (g_fn rfl rfl h4) ?_
    refine R_skip (g_fn rfl rfl h4) ?_
    refine R_skip (g_fn rfl rfl h4) ?_
    refine r_pickT (ABool true) rfl h4 rfl rfl ?_
    refine r_move (ABool true) rfl rfl ?_
    refine R_skip (g_fn rfl rfl rfl) ?_
    refine R_skip (g_fn rfl rfl rfl) ?_
    refine R_skip (g_fn rfl rfl rfl) ?_
    refine R_skip (g_fn rfl rfl rfl) ?_
    refine R_skip (g_fn rfl rfl rfl) ?_
    refine R_skip (g_fn rfl rfl rfl) ?_
    refine R_skip (g_fn rfl rfl rfl) ?_
    refine R_skip (g_fn rfl rfl rfl) ?_
    refine r_pickT (ABool true) rfl rfl rfl rfl ?_
    refine r_move (ABool true) rfl rfl ?_
    refine R_skip (g_fn rfl rfl rfl) ?_
    refine R_skip (g_fn rfl rfl rfl) ?_
    refine R_skip (g_fn rfl rfl rfl) ?_
    refine R_skip (g_fn rfl rfl rfl) ?_
    refine R_skip (g_fn rfl rfl rfl) ?_
    refine R_skip (g_fn rfl rfl rfl) ?_
    refine R_skip (g_fn rfl rfl rfl) ?_
    refine R_skip (g_fn rfl rfl rfl) ?_
    refine r_pickT (ABool true) rfl rfl rfl rfl ?_
    refine R_nil0 ?_
    refine J_cond_T rfl rfl ?_
    refine J_seq ?_
    refine J_region rfl ?_
    refine r_assign (ABool false) rfl rfl ?_
    refine R_nil0 ?_
    exact J_ret hΨ (Res_one rfl) (fun y hy => by cases hy; rfl)
  refine r_faO (AObj 0) 3 fo_29_2 rfl .obj rfl rfl (g_f rfl rfl (bf h4)) ?_
  refine r_ldO (ABoxAt 0 3) (I_ t0.Pattern.Vars) sc_3 rfl .at rfl rfl (g_f rfl rfl (bf h4)) ?_
  refine r_faO (AObj 1) 3 fo_29_2 rfl .obj rfl rfl (g_f rfl rfl (bf h4)) ?_
  refine r_ldO (ABoxAt 1 3) (I_ t1.Pattern.Vars) sc_3 rfl .at rfl rfl (g_f rfl rfl (bf h4)) ?_
  refine r_neq rfl rfl (g_f rfl rfl (bf h4)) ?_
  refine r_pickF (ABool (decide (¬ (t0.Pattern.Vars = t1.Pattern.Vars)))) rfl (bf h4) rfl rfl ?_
  refine r_move (ABool (decide (¬ (t0.Pattern.Vars = t1.Pattern.Vars)))) rfl rfl ?_
  refine R_if (fun h5 => ?_) (fun h5 => ?_)
  · refine R_skip (g_fn rfl rfl (dt h5)) ?_
    refine R_skip (g_fn rfl rfl (dt h5)) ?_
    refine R_skip (g_fn rfl rfl (dt h5)) ?_
    refine R_skip (g_fn rfl rfl (dt h5)) ?_
    refine R_skip (g_fn rfl rfl (dt h5)) ?_
    refine R_skip (g_fn rfl rfl (dt h5)) ?_
    refine R_skip (g_fn rfl rfl (dt h5)) ?_
    refine R_skip (g_fn rfl rfl (dt h5)) ?_
    refine r_pickT (ABool true) rfl (dt h5) rfl rfl ?_
    refine r_move (ABool true) rfl rfl ?_
    refine R_skip (g_fn rfl rfl rfl) ?_
    refine R_skip (g_fn rfl rfl rfl) ?_
    refine R_skip (g_fn rfl rfl rfl) ?_
    refine R_skip (g_fn rfl rfl rfl) ?_
    refine R_skip (g_fn rfl rfl rfl) ?_
    refine R_skip (g_fn rfl rfl rfl) ?_
    refine R_skip (g_fn rfl rfl rfl) ?_
    refine R_skip (g_fn rfl rfl rfl) ?_
    refine r_pickT (ABool true) rfl rfl rfl rfl ?_
    refine R_nil0 ?_
    refine J_cond_T rfl rfl ?_
    refine J_seq ?_
    refine J_region rfl ?_
    refine r_assign (ABool false) rfl rfl ?_
    refine R_nil0 ?_
    exact J_ret hΨ (Res_one rfl) (fun y hy => by cases hy; rfl)
  refine r_faO (AObj 0) 0 fo_29_0 rfl .obj rfl rfl (g_f rfl rfl (df h5)) ?_
  refine r_faO (ABoxAt 0 0) 0 fo_25_0 rfl .at rfl rfl (g_f rfl rfl (df h5)) ?_
  refine r_ldO (ABoxAt 0 0) (AL 1 c_i64 t0.Pattern.Graph.Nodes) sc_22 rfl .at rfl rfl (g_f rfl rfl (df h5)) ?_
  refine r_faO (AObj 1) 0 fo_29_0 rfl .obj rfl rfl (g_f rfl rfl (df h5)) ?_
  refine r_faO (ABoxAt 1 0) 0 fo_25_0 rfl .at rfl rfl (g_f rfl rfl (df h5)) ?_
  refine r_ldO (ABoxAt 1 0) (AL 1 c_i64 t1.Pattern.Graph.Nodes) sc_22 rfl .at rfl rfl (g_f rfl rfl (df h5)) ?_
  refine R_bind fun b6 h7 => ?_
  refine r_call _ fn_19 (k_slices_Equal_int _ _ _ h7) rfl (g_f rfl rfl (df h5)) ?_
  refine r_not rfl (g_f rfl rfl (df h5)) ?_
  refine r_pickF (ABool (!b6)) rfl (df h5) rfl rfl ?_
  refine r_move (ABool (!b6)) rfl rfl ?_
  refine R_if (fun h8 => ?_) (fun h8 => ?_)
  · refine R_skip (g_fn rfl rfl h8) ?_
    refine R_skip (g_fn rfl rfl h8) ?_
    refine R_skip (g_fn rfl rfl h8) ?_
    refine R_skip (g_fn rfl rfl h8) ?_
    refine R_skip (g_fn rfl rfl h8) ?_
    refine R_skip (g_fn rfl rfl h8) ?_
    refine R_skip (g_fn rfl rfl h8) ?_
    refine R_skip (g_fn rfl rfl h8) ?_
    refine r_pickT (ABool true) rfl h8 rfl rfl ?_
    refine R_nil0 ?_
    refine J_cond_T rfl rfl ?_
    refine J_seq ?_
    refine J_region rfl ?_
    refine r_assign (ABool false) rfl rfl ?_
    refine R_nil0 ?_
    exact J_ret hΨ (Res_one rfl) (fun y hy => by cases hy; rfl)
  refine r_faO (AObj 0) 0 fo_29_0 rfl .obj rfl rfl (g_f rfl rfl (bf h8)) ?_
  refine r_faO (ABoxAt 0 0) 1 fo_25_1 rfl .at rfl rfl (g_f rfl rfl (bf h8)) ?_
  refine r_ldO (ABoxAt 0 1) (AL 3 c_api_Edge t0.Pattern.Graph.Edges) sc_23 rfl .at rfl rfl (g_f rfl rfl (bf h8)) ?_
  refine r_faO (AObj 1) 0 fo_29_0 rfl .obj rfl rfl (g_f rfl rfl (bf h8)) ?_
  refine r_faO (ABoxAt 1 0) 1 fo_25_1 rfl .at rfl rfl (g_f rfl rfl (bf h8)) ?_
  refine r_ldO (ABoxAt 1 1) (AL 3 c_api_Edge t1.Pattern.Graph.Edges) sc_23 rfl .at rfl rfl (g_f rfl rfl (bf h8)) ?_
  refine R_bind fun b9 h10 => ?_
  refine r_call _ fn_101 (k_slices_Equal_api_Edge _ _ _ h10) rfl (g_f rfl rfl (bf h8)) ?_
  refine r_not rfl (g_f rfl rfl (bf h8)) ?_
  refine r_pickF (ABool (!b9)) rfl (bf h8) rfl rfl ?_
  refine R_nil0 ?_
  refine J_cond rfl (fun h11 => ?_) (fun h11 => ?_)
  · refine J_seq ?_
    refine J_region rfl ?_
    refine r_assign (ABool false) rfl rfl ?_
    refine R_nil0 ?_
    exact J_ret hΨ (Res_one rfl) (fun y hy => by cases hy; rfl)
  refine J_skip ?_
  refine J_seq ?_
  refine J_region rfl ?_
  refine r_faO (AObj 0) 2 fo_29_1 rfl .obj rfl rfl rfl ?_
  refine r_ldO (ABoxAt 0 2) (AL 4 c_api_Slot t0.Pattern.Slots) sc_26 rfl .at rfl rfl rfl ?_
  refine r_faO (AObj 1) 2 fo_29_1 rfl .obj rfl rfl rfl ?_
  refine r_ldO (ABoxAt 1 2) (AL 4 c_api_Slot t1.Pattern.Slots) sc_26 rfl .at rfl rfl rfl ?_
  refine R_bind fun b12 h13 => ?_
  refine r_call _ fn_99 (k_slices_Equal_api_Slot _ _ _ h13) rfl rfl ?_
  refine r_move (ABool b12) rfl rfl ?_
  refine R_if (fun h14 => ?_) (fun h14 => ?_)
  rotate_left
  · refine R_skip (g_tn rfl rfl (bf h14)) ?_
    refine R_skip (g_tn rfl rfl (bf h14)) ?_
    refine R_skip (g_tn rfl rfl (bf h14)) ?_
    refine R_skip (g_tn rfl rfl (bf h14)) ?_
    refine R_skip (g_tn rfl rfl (bf h14)) ?_
    refine r_pickF (ABool false) rfl (bf h14) rfl rfl ?_
    refine r_move (ABool false) rfl rfl ?_
    refine R_skip (g_tn rfl rfl rfl) ?_
    refine R_skip (g_tn rfl rfl rfl) ?_
    refine R_skip (g_tn rfl rfl rfl) ?_
    refine R_skip (g_tn rfl rfl rfl) ?_
    refine R_skip (g_tn rfl rfl rfl) ?_
    refine r_pickF (ABool false) rfl rfl rfl rfl ?_
    refine r_assign (ABool false) rfl rfl ?_
    refine R_nil0 ?_
    exact J_ret hΨ (Res_one rfl) (fun y hy => by cases hy; rfl)
  refine r_faO (AObj 0) 4 fo_29_3 rfl .obj rfl rfl (g_t rfl rfl h14) ?_
  refine r_ldO (ABoxAt 0 4) (AL 5 c_api_Test t0.Pattern.Tests) sc_27 rfl .at rfl rfl (g_t rfl rfl h14) ?_
  refine r_faO (AObj 1) 4 fo_29_3 rfl .obj rfl rfl (g_t rfl rfl h14) ?_
  refine r_ldO (ABoxAt 1 4) (AL 5 c_api_Test t1.Pattern.Tests) sc_27 rfl .at rfl rfl (g_t rfl rfl h14) ?_
  refine R_bind fun b15 h16 => ?_
  refine r_call _ fn_100 (k_slices_Equal_api_Test _ _ _ h16) rfl (g_t rfl rfl h14) ?_
  refine r_pickT (ABool b15) rfl h14 rfl rfl ?_
  refine r_move (ABool b15) rfl rfl ?_
  refine R_if (fun h17 => ?_) (fun h17 => ?_)
  rotate_left
  · refine R_skip (g_tn rfl rfl (bf h17)) ?_
    refine R_skip (g_tn rfl rfl (bf h17)) ?_
    refine R_skip (g_tn rfl rfl (bf h17)) ?_
    refine R_skip (g_tn rfl rfl (bf h17)) ?_
    refine R_skip (g_tn rfl rfl (bf h17)) ?_
    refine r_pickF (ABool false) rfl (bf h17) rfl rfl ?_
    refine r_assign (ABool false) rfl rfl ?_
    refine R_nil0 ?_
    exact J_ret hΨ (Res_one rfl) (fun y hy => by cases hy; rfl)
  refine r_faT (k_api_Condition t0.Kids) fo_35_1 rfl rfl (g_t rfl rfl h17) ?_
  refine r_ld (AL 9 c_api_Condition t0.Kids) sc_33 rfl (kid_api_Condition _) (g_t rfl rfl h17) ?_
  refine r_faT (k_api_Condition t1.Kids) fo_35_1 rfl rfl (g_t rfl rfl h17) ?_
  refine r_ld (AL 9 c_api_Condition t1.Kids) sc_33 rfl (kid_api_Condition _) (g_t rfl rfl h17) ?_
  refine R_bind fun b18 h19 => ?_
  refine r_callB [] [AL 9 c_api_Condition t0.Kids, AL 9 c_api_Condition t1.Kids, AClo 49 []] fn_102 (k_slices_EqualFunc_api_Condition _ _ _ _ h19) .nil rfl (.cons .same (.cons .same (.cons (.cloFn fn_49 (fun x y h => hq_condition_Same x.1 x.2 y h)) .nil))) (g_t rfl rfl h17) ?_
  refine r_pickT (ABool b18) rfl h17 rfl rfl ?_
  refine r_assign (ABool b18) rfl rfl ?_
  refine R_nil0 ?_
  exact J_ret hΨ (Res_one rfl) (fun y hy => by cases hy; rfl)
theorem condition_Same_n_ok : ∀ n, (∀ (t0 : api_Condition) (t1 : api_Condition) (r : Bool), (condition_Same_n n) t0 t1 = some r → FnP PP 49 [AAgg (c_api_Condition t0), AAgg (c_api_Condition t1)] (ABool r)) := by
  intro n
  induction n with
  | zero => exact (fun _ _ _ h => by cases h)
  | succ n ih => exact (fun a0 a1 r h => k_condition_Same_b _ ih a0 a1 r h)
theorem k_condition_Same (t0 : api_Condition) (t1 : api_Condition) (r : Bool) (hr : condition_Same t0 t1 = some r) : FnP PP 49 [AAgg (c_api_Condition t0), AAgg (c_api_Condition t1)] (ABool r) := by
  obtain ⟨n, hn⟩ := Ev_some hr
  exact (condition_Same_n_ok n) t0 t1 r hn
theorem k_rule_Same (t0 : api_Rule) (t1 : api_Rule) (r : Bool) (hr : rule_Same t0 t1 = some r) : FnP PP 13 [AAgg (c_api_Rule t0), AAgg (c_api_Rule t1)] (ABool r) := by
  refine FnP.of mixed_ Tryz.func13 rfl (n := 63) rfl (fun (r : Bool) => ABool r) nk_args NK.nk rfl hr fun X hΨ => ?_
  refine J_seq ?_
  refine J_region rfl ?_
  refine r_boxV (AAgg (c_api_Rule t0)) rfl rfl ?_
  refine r_boxV (AAgg (c_api_Rule t1)) rfl rfl ?_
  refine r_assign (ABool false) rfl rfl ?_
  refine R_nil0 ?_
  refine J_seq ?_
  refine J_region rfl ?_
  refine r_faT (c_str t0.Name) fo_37_0 rfl rfl rfl ?_
  refine r_ld (AStr t0.Name) sc_9 rfl rfl rfl ?_
  refine r_faT (c_str t1.Name) fo_37_0 rfl rfl rfl ?_
  refine r_ld (AStr t1.Name) sc_9 rfl rfl rfl ?_
  refine r_eqS rfl rfl rfl ?_
  refine r_move (ABool (decide (t0.Name = t1.Name))) rfl rfl ?_
  refine R_if (fun h1 => ?_) (fun h1 => ?_)
  rotate_left
  · refine R_skip (g_tn rfl rfl (df h1)) ?_
    refine R_skip (g_tn rfl rfl (df h1)) ?_
    refine R_skip (g_tn rfl rfl (df h1)) ?_
    refine R_skip (g_tn rfl rfl (df h1)) ?_
    refine R_skip (g_tn rfl rfl (df h1)) ?_
    refine r_pickF (ABool false) rfl (df h1) rfl rfl ?_
    refine r_move (ABool false) rfl rfl ?_
    refine R_skip (g_tn rfl rfl rfl) ?_
    refine R_skip (g_tn rfl rfl rfl) ?_
    refine R_skip (g_tn rfl rfl rfl) ?_
    refine R_skip (g_tn rfl rfl rfl) ?_
    refine R_skip (g_tn rfl rfl rfl) ?_
    refine r_pickF (ABool false) rfl rfl rfl rfl ?_
    refine r_move (ABool false) rfl rfl ?_
    refine R_skip (g_tn rfl rfl rfl) ?_
    refine R_skip (g_tn rfl rfl rfl) ?_
    refine R_skip (g_tn rfl rfl rfl) ?_
    refine R_skip (g_tn rfl rfl rfl) ?_
    refine R_skip (g_tn rfl rfl rfl) ?_
    refine r_pickF (ABool false) rfl rfl rfl rfl ?_
    refine r_move (ABool false) rfl rfl ?_
    refine R_skip (g_tn rfl rfl rfl) ?_
    refine R_skip (g_tn rfl rfl rfl) ?_
    refine R_skip (g_tn rfl rfl rfl) ?_
    refine R_skip (g_tn rfl rfl rfl) ?_
    refine R_skip (g_tn rfl rfl rfl) ?_
    refine R_skip (g_tn rfl rfl rfl) ?_
    refine R_skip (g_tn rfl rfl rfl) ?_
    refine r_pickF (ABool false) rfl rfl rfl rfl ?_
    refine r_move (ABool false) rfl rfl ?_
    refine R_skip (g_tn rfl rfl rfl) ?_
    refine R_skip (g_tn rfl rfl rfl) ?_
    refine R_skip (g_tn rfl rfl rfl) ?_
    refine R_skip (g_tn rfl rfl rfl) ?_
    refine R_skip (g_tn rfl rfl rfl) ?_
    refine R_skip (g_tn rfl rfl rfl) ?_
    refine R_skip (g_tn rfl rfl rfl) ?_
    refine r_pickF (ABool false) rfl rfl rfl rfl ?_
    refine r_move (ABool false) rfl rfl ?_
    refine R_skip (g_tn rfl rfl rfl) ?_
    refine R_skip (g_tn rfl rfl rfl) ?_
    refine R_skip (g_tn rfl rfl rfl) ?_
    refine R_skip (g_tn rfl rfl rfl) ?_
    refine R_skip (g_tn rfl rfl rfl) ?_
    refine r_pickF (ABool false) rfl rfl rfl rfl ?_
    refine r_move (ABool false) rfl rfl ?_
    refine R_skip (g_tn rfl rfl rfl) ?_
    refine R_skip (g_tn rfl rfl rfl) ?_
    refine R_skip (g_tn rfl rfl rfl) ?_
    refine R_skip (g_tn rfl rfl rfl) ?_
    refine R_skip (g_tn rfl rfl rfl) ?_
    refine r_pickF (ABool false) rfl rfl rfl rfl ?_
    refine r_assign (ABool false) rfl rfl ?_
    refine R_nil0 ?_
    exact J_ret hΨ (Res_one rfl) (fun y hy => by cases hy; rfl)
  refine r_faT (c_bool t0.Injective) fo_37_5 rfl rfl (g_t rfl rfl (dt h1)) ?_
  refine r_ld (ABool t0.Injective) sc_4 rfl rfl (g_t rfl rfl (dt h1)) ?_
  refine r_faT (c_bool t1.Injective) fo_37_5 rfl rfl (g_t rfl rfl (dt h1)) ?_
  refine r_ld (ABool t1.Injective) sc_4 rfl rfl (g_t rfl rfl (dt h1)) ?_
  refine r_eqB ut_4 rfl rfl (g_t rfl rfl (dt h1)) ?_
  refine r_pickT (ABool (t0.Injective == t1.Injective)) rfl (dt h1) rfl rfl ?_
  refine r_move (ABool (t0.Injective == t1.Injective)) rfl rfl ?_
  refine R_if (fun h2 => ?_) (fun h2 => ?_)
  rotate_left
  · refine R_skip (g_tn rfl rfl (bf h2)) ?_
    refine R_skip (g_tn rfl rfl (bf h2)) ?_
    refine R_skip (g_tn rfl rfl (bf h2)) ?_
    refine R_skip (g_tn rfl rfl (bf h2)) ?_
    refine R_skip (g_tn rfl rfl (bf h2)) ?_
    refine r_pickF (ABool false) rfl (bf h2) rfl rfl ?_
    refine r_move (ABool false) rfl rfl ?_
    refine R_skip (g_tn rfl rfl rfl) ?_
    refine R_skip (g_tn rfl rfl rfl) ?_
    refine R_skip (g_tn rfl rfl rfl) ?_
    refine R_skip (g_tn rfl rfl rfl) ?_
    refine R_skip (g_tn rfl rfl rfl) ?_
    refine r_pickF (ABool false) rfl rfl rfl rfl ?_
    refine r_move (ABool false) rfl rfl ?_
    refine R_skip (g_tn rfl rfl rfl) ?_
    refine R_skip (g_tn rfl rfl rfl) ?_
    refine R_skip (g_tn rfl rfl rfl) ?_
    refine R_skip (g_tn rfl rfl rfl) ?_
    refine R_skip (g_tn rfl rfl rfl) ?_
    refine R_skip (g_tn rfl rfl rfl) ?_
    refine R_skip (g_tn rfl rfl rfl) ?_
    refine r_pickF (ABool false) rfl rfl rfl rfl ?_
    refine r_move (ABool false) rfl rfl ?_
    refine R_skip (g_tn rfl rfl rfl) ?_
    refine R_skip (g_tn rfl rfl rfl) ?_
    refine R_skip (g_tn rfl rfl rfl) ?_
    refine R_skip (g_tn rfl rfl rfl) ?_
    refine R_skip (g_tn rfl rfl rfl) ?_
    refine R_skip (g_tn rfl rfl rfl) ?_
    refine R_skip (g_tn rfl rfl rfl) ?_
    refine r_pickF (ABool false) rfl rfl rfl rfl ?_
    refine r_move (ABool false) rfl rfl ?_
    refine R_skip (g_tn rfl rfl rfl) ?_
    refine R_skip (g_tn rfl rfl rfl) ?_
    refine R_skip (g_tn rfl rfl rfl) ?_
    refine R_skip (g_tn rfl rfl rfl) ?_
    refine R_skip (g_tn rfl rfl rfl) ?_
    refine r_pickF (ABool false) rfl rfl rfl rfl ?_
    refine r_move (ABool false) rfl rfl ?_
    refine R_skip (g_tn rfl rfl rfl) ?_
    refine R_skip (g_tn rfl rfl rfl) ?_
    refine R_skip (g_tn rfl rfl rfl) ?_
    refine R_skip (g_tn rfl rfl rfl) ?_
    refine R_skip (g_tn rfl rfl rfl) ?_
    refine r_pickF (ABool false) rfl rfl rfl rfl ?_
    refine r_assign (ABool false) rfl rfl ?_
    refine R_nil0 ?_
    exact J_ret hΨ (Res_one rfl) (fun y hy => by cases hy; rfl)
  refine r_faT (c_api_Pattern t0.Left) fo_37_1 rfl rfl (g_t rfl rfl h2) ?_
  refine r_lda (c_api_Pattern t0.Left) ag_29 rfl rfl rfl (g_t rfl rfl h2) ?_
  refine r_faT (c_api_Pattern t1.Left) fo_37_1 rfl rfl (g_t rfl rfl h2) ?_
  refine r_lda (c_api_Pattern t1.Left) ag_29 rfl rfl rfl (g_t rfl rfl h2) ?_
  refine R_bind fun b3 h4 => ?_
  refine r_call _ fn_47 (k_rule_samePattern _ _ _ h4) rfl (g_t rfl rfl h2) ?_
  refine r_pickT (ABool b3) rfl h2 rfl rfl ?_
  refine r_move (ABool b3) rfl rfl ?_
  refine R_if (fun h5 => ?_) (fun h5 => ?_)
  rotate_left
  · refine R_skip (g_tn rfl rfl (bf h5)) ?_
    refine R_skip (g_tn rfl rfl (bf h5)) ?_
    refine R_skip (g_tn rfl rfl (bf h5)) ?_
    refine R_skip (g_tn rfl rfl (bf h5)) ?_
    refine R_skip (g_tn rfl rfl (bf h5)) ?_
    refine r_pickF (ABool false) rfl (bf h5) rfl rfl ?_
    refine r_move (ABool false) rfl rfl ?_
    refine R_skip (g_tn rfl rfl rfl) ?_
    refine R_skip (g_tn rfl rfl rfl) ?_
    refine R_skip (g_tn rfl rfl rfl) ?_
    refine R_skip (g_tn rfl rfl rfl) ?_
    refine R_skip (g_tn rfl rfl rfl) ?_
    refine R_skip (g_tn rfl rfl rfl) ?_
    refine R_skip (g_tn rfl rfl rfl) ?_
    refine r_pickF (ABool false) rfl rfl rfl rfl ?_
    refine r_move (ABool false) rfl rfl ?_
    refine R_skip (g_tn rfl rfl rfl) ?_
    refine R_skip (g_tn rfl rfl rfl) ?_
    refine R_skip (g_tn rfl rfl rfl) ?_
    refine R_skip (g_tn rfl rfl rfl) ?_
    refine R_skip (g_tn rfl rfl rfl) ?_
    refine R_skip (g_tn rfl rfl rfl) ?_
    refine R_skip (g_tn rfl rfl rfl) ?_
    refine r_pickF (ABool false) rfl rfl rfl rfl ?_
    refine r_move (ABool false) rfl rfl ?_
    refine R_skip (g_tn rfl rfl rfl) ?_
    refine R_skip (g_tn rfl rfl rfl) ?_
    refine R_skip (g_tn rfl rfl rfl) ?_
    refine R_skip (g_tn rfl rfl rfl) ?_
    refine R_skip (g_tn rfl rfl rfl) ?_
    refine r_pickF (ABool false) rfl rfl rfl rfl ?_
    refine r_move (ABool false) rfl rfl ?_
    refine R_skip (g_tn rfl rfl rfl) ?_
    refine R_skip (g_tn rfl rfl rfl) ?_
    refine R_skip (g_tn rfl rfl rfl) ?_
    refine R_skip (g_tn rfl rfl rfl) ?_
    refine R_skip (g_tn rfl rfl rfl) ?_
    refine r_pickF (ABool false) rfl rfl rfl rfl ?_
    refine r_assign (ABool false) rfl rfl ?_
    refine R_nil0 ?_
    exact J_ret hΨ (Res_one rfl) (fun y hy => by cases hy; rfl)
  refine r_faT (c_api_Pattern t0.Right) fo_37_2 rfl rfl (g_t rfl rfl h5) ?_
  refine r_lda (c_api_Pattern t0.Right) ag_29 rfl rfl rfl (g_t rfl rfl h5) ?_
  refine r_faT (c_api_Pattern t1.Right) fo_37_2 rfl rfl (g_t rfl rfl h5) ?_
  refine r_lda (c_api_Pattern t1.Right) ag_29 rfl rfl rfl (g_t rfl rfl h5) ?_
  refine R_bind fun b6 h7 => ?_
  refine r_call _ fn_47 (k_rule_samePattern _ _ _ h7) rfl (g_t rfl rfl h5) ?_
  refine r_pickT (ABool b6) rfl h5 rfl rfl ?_
  refine r_move (ABool b6) rfl rfl ?_
  refine R_if (fun h8 => ?_) (fun h8 => ?_)
  rotate_left
  · refine R_skip (g_tn rfl rfl (bf h8)) ?_
    refine R_skip (g_tn rfl rfl (bf h8)) ?_
    refine R_skip (g_tn rfl rfl (bf h8)) ?_
    refine R_skip (g_tn rfl rfl (bf h8)) ?_
    refine R_skip (g_tn rfl rfl (bf h8)) ?_
    refine R_skip (g_tn rfl rfl (bf h8)) ?_
    refine R_skip (g_tn rfl rfl (bf h8)) ?_
    refine r_pickF (ABool false) rfl (bf h8) rfl rfl ?_
    refine r_move (ABool false) rfl rfl ?_
    refine R_skip (g_tn rfl rfl rfl) ?_
    refine R_skip (g_tn rfl rfl rfl) ?_
    refine R_skip (g_tn rfl rfl rfl) ?_
    refine R_skip (g_tn rfl rfl rfl) ?_
    refine R_skip (g_tn rfl rfl rfl) ?_
    refine R_skip (g_tn rfl rfl rfl) ?_
    refine R_skip (g_tn rfl rfl rfl) ?_
    refine r_pickF (ABool false) rfl rfl rfl rfl ?_
    refine r_move (ABool false) rfl rfl ?_
    refine R_skip (g_tn rfl rfl rfl) ?_
    refine R_skip (g_tn rfl rfl rfl) ?_
    refine R_skip (g_tn rfl rfl rfl) ?_
    refine R_skip (g_tn rfl rfl rfl) ?_
    refine R_skip (g_tn rfl rfl rfl) ?_
    refine r_pickF (ABool false) rfl rfl rfl rfl ?_
    refine r_move (ABool false) rfl rfl ?_
    refine R_skip (g_tn rfl rfl rfl) ?_
    refine R_skip (g_tn rfl rfl rfl) ?_
    refine R_skip (g_tn rfl rfl rfl) ?_
    refine R_skip (g_tn rfl rfl rfl) ?_
    refine R_skip (g_tn rfl rfl rfl) ?_
    refine r_pickF (ABool false) rfl rfl rfl rfl ?_
    refine r_assign (ABool false) rfl rfl ?_
    refine R_nil0 ?_
    exact J_ret hΨ (Res_one rfl) (fun y hy => by cases hy; rfl)
  refine r_faT (c_api_Part t0.Keep) fo_37_3 rfl rfl (g_t rfl rfl h8) ?_
  refine r_faT ((cL 1 c_i64) t0.Keep.Nodes) fo_31_0 rfl rfl (g_t rfl rfl h8) ?_
  refine r_ld (AL 1 c_i64 t0.Keep.Nodes) sc_22 rfl rfl (g_t rfl rfl h8) ?_
  refine r_faT (c_api_Part t1.Keep) fo_37_3 rfl rfl (g_t rfl rfl h8) ?_
  refine r_faT ((cL 1 c_i64) t1.Keep.Nodes) fo_31_0 rfl rfl (g_t rfl rfl h8) ?_
  refine r_ld (AL 1 c_i64 t1.Keep.Nodes) sc_22 rfl rfl (g_t rfl rfl h8) ?_
  refine R_bind fun b9 h10 => ?_
  refine r_call _ fn_19 (k_slices_Equal_int _ _ _ h10) rfl (g_t rfl rfl h8) ?_
  refine r_pickT (ABool b9) rfl h8 rfl rfl ?_
  refine r_move (ABool b9) rfl rfl ?_
  refine R_if (fun h11 => ?_) (fun h11 => ?_)
  rotate_left
  · refine R_skip (g_tn rfl rfl (bf h11)) ?_
    refine R_skip (g_tn rfl rfl (bf h11)) ?_
    refine R_skip (g_tn rfl rfl (bf h11)) ?_
    refine R_skip (g_tn rfl rfl (bf h11)) ?_
    refine R_skip (g_tn rfl rfl (bf h11)) ?_
    refine R_skip (g_tn rfl rfl (bf h11)) ?_
    refine R_skip (g_tn rfl rfl (bf h11)) ?_
    refine r_pickF (ABool false) rfl (bf h11) rfl rfl ?_
    refine r_move (ABool false) rfl rfl ?_
    refine R_skip (g_tn rfl rfl rfl) ?_
    refine R_skip (g_tn rfl rfl rfl) ?_
    refine R_skip (g_tn rfl rfl rfl) ?_
    refine R_skip (g_tn rfl rfl rfl) ?_
    refine R_skip (g_tn rfl rfl rfl) ?_
    refine r_pickF (ABool false) rfl rfl rfl rfl ?_
    refine r_move (ABool false) rfl rfl ?_
    refine R_skip (g_tn rfl rfl rfl) ?_
    refine R_skip (g_tn rfl rfl rfl) ?_
    refine R_skip (g_tn rfl rfl rfl) ?_
    refine R_skip (g_tn rfl rfl rfl) ?_
    refine R_skip (g_tn rfl rfl rfl) ?_
    refine r_pickF (ABool false) rfl rfl rfl rfl ?_
    refine r_assign (ABool false) rfl rfl ?_
    refine R_nil0 ?_
    exact J_ret hΨ (Res_one rfl) (fun y hy => by cases hy; rfl)
  refine r_faT (c_api_Part t0.Keep) fo_37_3 rfl rfl (g_t rfl rfl h11) ?_
  refine r_faT ((cL 1 c_i64) t0.Keep.Edges) fo_31_1 rfl rfl (g_t rfl rfl h11) ?_
  refine r_ld (AL 1 c_i64 t0.Keep.Edges) sc_22 rfl rfl (g_t rfl rfl h11) ?_
  refine r_faT (c_api_Part t1.Keep) fo_37_3 rfl rfl (g_t rfl rfl h11) ?_
  refine r_faT ((cL 1 c_i64) t1.Keep.Edges) fo_31_1 rfl rfl (g_t rfl rfl h11) ?_
  refine r_ld (AL 1 c_i64 t1.Keep.Edges) sc_22 rfl rfl (g_t rfl rfl h11) ?_
  refine R_bind fun b12 h13 => ?_
  refine r_call _ fn_19 (k_slices_Equal_int _ _ _ h13) rfl (g_t rfl rfl h11) ?_
  refine r_pickT (ABool b12) rfl h11 rfl rfl ?_
  refine r_move (ABool b12) rfl rfl ?_
  refine R_if (fun h14 => ?_) (fun h14 => ?_)
  rotate_left
  · refine R_skip (g_tn rfl rfl (bf h14)) ?_
    refine R_skip (g_tn rfl rfl (bf h14)) ?_
    refine R_skip (g_tn rfl rfl (bf h14)) ?_
    refine R_skip (g_tn rfl rfl (bf h14)) ?_
    refine R_skip (g_tn rfl rfl (bf h14)) ?_
    refine r_pickF (ABool false) rfl (bf h14) rfl rfl ?_
    refine r_move (ABool false) rfl rfl ?_
    refine R_skip (g_tn rfl rfl rfl) ?_
    refine R_skip (g_tn rfl rfl rfl) ?_
    refine R_skip (g_tn rfl rfl rfl) ?_
    refine R_skip (g_tn rfl rfl rfl) ?_
    refine R_skip (g_tn rfl rfl rfl) ?_
    refine r_pickF (ABool false) rfl rfl rfl rfl ?_
    refine r_assign (ABool false) rfl rfl ?_
    refine R_nil0 ?_
    exact J_ret hΨ (Res_one rfl) (fun y hy => by cases hy; rfl)
  refine r_faT (c_api_Morphism t0.Into) fo_37_4 rfl rfl (g_t rfl rfl h14) ?_
  refine r_lda (c_api_Morphism t0.Into) ag_32 rfl rfl rfl (g_t rfl rfl h14) ?_
  refine r_faT (c_api_Morphism t1.Into) fo_37_4 rfl rfl (g_t rfl rfl h14) ?_
  refine r_lda (c_api_Morphism t1.Into) ag_32 rfl rfl rfl (g_t rfl rfl h14) ?_
  refine R_bind fun b15 h16 => ?_
  refine r_call _ fn_48 (k_morphism_Same _ _ _ h16) rfl (g_t rfl rfl h14) ?_
  refine r_pickT (ABool b15) rfl h14 rfl rfl ?_
  refine r_move (ABool b15) rfl rfl ?_
  refine R_if (fun h17 => ?_) (fun h17 => ?_)
  rotate_left
  · refine R_skip (g_tn rfl rfl (bf h17)) ?_
    refine R_skip (g_tn rfl rfl (bf h17)) ?_
    refine R_skip (g_tn rfl rfl (bf h17)) ?_
    refine R_skip (g_tn rfl rfl (bf h17)) ?_
    refine R_skip (g_tn rfl rfl (bf h17)) ?_
    refine r_pickF (ABool false) rfl (bf h17) rfl rfl ?_
    refine r_assign (ABool false) rfl rfl ?_
    refine R_nil0 ?_
    exact J_ret hΨ (Res_one rfl) (fun y hy => by cases hy; rfl)
  refine r_faT (c_api_Condition t0.Condition) fo_37_6 rfl rfl (g_t rfl rfl h17) ?_
  refine r_lda (c_api_Condition t0.Condition) ag_35 rfl rfl rfl (g_t rfl rfl h17) ?_
  refine r_faT (c_api_Condition t1.Condition) fo_37_6 rfl rfl (g_t rfl rfl h17) ?_
  refine r_lda (c_api_Condition t1.Condition) ag_35 rfl rfl rfl (g_t rfl rfl h17) ?_
  refine R_bind fun b18 h19 => ?_
  refine r_call _ fn_49 (k_condition_Same _ _ _ h19) rfl (g_t rfl rfl h17) ?_
  refine r_pickT (ABool b18) rfl h17 rfl rfl ?_
  refine r_assign (ABool b18) rfl rfl ?_
  refine R_nil0 ?_
  exact J_ret hΨ (Res_one rfl) (fun y hy => by cases hy; rfl)
theorem k_law24_RuleSame (t0 : api_Rule) (t1 : api_Rule) (r : Bool) (hr : law24_RuleSame t0 t1 = some r) : FnP PP 4 [AAgg (c_api_Rule t0), AAgg (c_api_Rule t1)] (ABool r) := by
  refine FnP.of mixed_ Tryz.func4 rfl (n := 30) rfl (fun (r : Bool) => ABool r) nk_args NK.nk rfl hr fun X hΨ => ?_
  refine J_seq ?_
  refine J_region rfl ?_
  refine r_boxV (AAgg (c_api_Rule t0)) rfl rfl ?_
  refine r_boxV (AAgg (c_api_Rule t1)) rfl rfl ?_
  refine r_assign (ABool false) rfl rfl ?_
  refine R_nil0 ?_
  refine J_seq ?_
  refine J_seq ?_
  refine J_region rfl ?_
  refine R_bind fun b1 h2 => ?_
  refine r_call _ fn_8 (k_law24_awake  _ h2) rfl rfl ?_
  refine r_not rfl rfl ?_
  refine r_move (ABool (!b1)) rfl rfl ?_
  refine R_if (fun h3 => ?_) (fun h3 => ?_)
  · refine R_skip (g_fn rfl rfl h3) ?_
    refine R_skip (g_fn rfl rfl h3) ?_
    refine R_skip (g_fn rfl rfl h3) ?_
    refine r_pickT (ABool true) rfl h3 rfl rfl ?_
    refine r_move (ABool true) rfl rfl ?_
    refine R_skip (g_fn rfl rfl rfl) ?_
    refine R_skip (g_fn rfl rfl rfl) ?_
    refine R_skip (g_fn rfl rfl rfl) ?_
    refine r_pickT (ABool true) rfl rfl rfl rfl ?_
    refine R_nil0 ?_
    refine J_cond_T rfl rfl ?_
    refine J_seq ?_
    refine J_region rfl ?_
    refine R_bind fun b10 h11 => ?_
    refine r_call _ fn_8 (k_law24_awake  _ h11) rfl rfl ?_
    refine r_assign (ABool b10) rfl rfl ?_
    refine R_nil0 ?_
    exact J_ret hΨ (Res_one rfl) (fun y hy => by cases hy; rfl)
  refine r_lda (c_api_Rule t0) ag_37 rfl rfl rfl (g_f rfl rfl (bf h3)) ?_
  refine R_bind fun b4 h5 => ?_
  refine r_call _ fn_9 (k_ref24_Few _ _ h5) rfl (g_f rfl rfl (bf h3)) ?_
  refine r_not rfl (g_f rfl rfl (bf h3)) ?_
  refine r_pickF (ABool (!b4)) rfl (bf h3) rfl rfl ?_
  refine r_move (ABool (!b4)) rfl rfl ?_
  refine R_if (fun h6 => ?_) (fun h6 => ?_)
  · refine R_skip (g_fn rfl rfl h6) ?_
    refine R_skip (g_fn rfl rfl h6) ?_
    refine R_skip (g_fn rfl rfl h6) ?_
    refine r_pickT (ABool true) rfl h6 rfl rfl ?_
    refine R_nil0 ?_
    refine J_cond_T rfl rfl ?_
    refine J_seq ?_
    refine J_region rfl ?_
    refine R_bind fun b12 h13 => ?_
    refine r_call _ fn_8 (k_law24_awake  _ h13) rfl rfl ?_
    refine r_assign (ABool b12) rfl rfl ?_
    refine R_nil0 ?_
    exact J_ret hΨ (Res_one rfl) (fun y hy => by cases hy; rfl)
  refine r_lda (c_api_Rule t1) ag_37 rfl rfl rfl (g_f rfl rfl (bf h6)) ?_
  refine R_bind fun b7 h8 => ?_
  refine r_call _ fn_9 (k_ref24_Few _ _ h8) rfl (g_f rfl rfl (bf h6)) ?_
  refine r_not rfl (g_f rfl rfl (bf h6)) ?_
  refine r_pickF (ABool (!b7)) rfl (bf h6) rfl rfl ?_
  refine R_nil0 ?_
  refine J_cond rfl (fun h9 => ?_) (fun h9 => ?_)
  · refine J_seq ?_
    refine J_region rfl ?_
    refine R_bind fun b14 h15 => ?_
    refine r_call _ fn_8 (k_law24_awake  _ h15) rfl rfl ?_
    refine r_assign (ABool b14) rfl rfl ?_
    refine R_nil0 ?_
    exact J_ret hΨ (Res_one rfl) (fun y hy => by cases hy; rfl)
  refine J_skip ?_
  refine J_seq ?_
  refine J_draw ?_
  refine r_lda (c_api_Rule t0) ag_37 rfl rfl rfl rfl ?_
  refine r_lda (c_api_Rule t1) ag_37 rfl rfl rfl rfl ?_
  refine R_bind fun b16 h17 => ?_
  refine r_call _ fn_13 (k_rule_Same _ _ _ h17) rfl rfl ?_
  refine r_lda (c_api_Rule t0) ag_37 rfl rfl rfl rfl ?_
  refine r_lda (c_api_Rule t1) ag_37 rfl rfl rfl rfl ?_
  refine R_bind fun b18 h19 => ?_
  refine r_call _ fn_12 (k_ref24_Same _ _ _ h19) rfl rfl ?_
  refine r_eqB ut_4 rfl rfl rfl ?_
  refine r_move (ABool (b16 == b18)) rfl rfl ?_
  refine R_if (fun h20 => ?_) (fun h20 => ?_)
  rotate_left
  · refine R_skip (g_tn rfl rfl (bf h20)) ?_
    refine R_skip (g_tn rfl rfl (bf h20)) ?_
    refine R_skip (g_tn rfl rfl (bf h20)) ?_
    refine r_pickF (ABool false) rfl (bf h20) rfl rfl ?_
    refine r_assign (ABool false) rfl rfl ?_
    refine R_nilD rfl ?_
    exact J_ret hΨ (Res_one rfl) (fun y hy => by cases hy; rfl)
  refine r_lda (c_api_Rule t0) ag_37 rfl rfl rfl (g_t rfl rfl h20) ?_
  refine r_lda (c_api_Rule t0) ag_37 rfl rfl rfl (g_t rfl rfl h20) ?_
  refine R_bind fun b21 h22 => ?_
  refine r_call _ fn_13 (k_rule_Same _ _ _ h22) rfl (g_t rfl rfl h20) ?_
  refine r_pickT (ABool b21) rfl h20 rfl rfl ?_
  refine r_assign (ABool b21) rfl rfl ?_
  refine R_nilD rfl ?_
  exact J_ret hΨ (Res_one rfl) (fun y hy => by cases hy; rfl)
end Go.Proofs.YtpnfoacmgfklaaaGreat.K
