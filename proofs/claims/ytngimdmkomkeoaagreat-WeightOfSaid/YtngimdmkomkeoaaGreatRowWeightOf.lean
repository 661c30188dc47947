/-
  WeightOf: for every input the law answers true, and each argument reads behind the call as it read before. No condition.
-/
import Derived.Test.YtngimdmkomkeoaaGreatRows
import Derived.Test.YtngimdmkomkeoaaGreatRead
import Derived.Test.YtngimdmkomkeoaaGreatWalk3
import Derived.Test.YtngimdmkomkeoaaGreatEval
import Derived.Test.YtngimdmkomkeoaaGreatReadE
namespace Go.Proofs.YtngimdmkomkeoaaGreat
open Go.ChangeShapes Go.WideShapes Go.ChangeAt Go.RowKit Go.Proofs.YtngimdmkomkeoaaGreat.K
set_option linter.unusedVariables false
theorem weightOf_own : ownKnob Tryz.prog.godebug = none := by kernel_rfl
theorem weightOf_laidOut : laidOutB Tryz.prog = true := by kernel_rfl
set_option maxRecDepth 100000 in
theorem weightOf_lifted (os : Os) (started : os.Started) (H : Type) (enc : TypeId × Value → H) :
    ReturnsInHanded {} Tryz.checked os 8 .any (Rows.weightOfSpec.pre6 enc Tryz.prog Tryz.f8 Rows.weightOfRow.domain false) (Rows.weightOfSpec.post enc Tryz.prog Tryz.f8 false true false false) := by
  refine returnsInHanded_of_change_sized (C := Tryz.checked) weightOf_own started (by kernel_rfl) Tryz.func8
    (ChangeSpec.witness6 (enc := enc) (C := Tryz.checked) false ⟨#[], #[.agg #[.slice none 0 0, .slice none 0 0], .slice none 0 0, .agg #[.slice none 0 0, .slice none 0 0]], []⟩ 12 (by kernel_rfl) (by kernel_rfl) (by kernel_rfl) (by kernel_rfl)) ?_
  intro W base args ds gs before hval0 hW hcnd hsz0 _
  have hval : ∀ (j : Nat) t v, Tryz.f8.params[j]? = some t → args[j]? = some v → Value.okWide Tryz.prog W .any base t v := hval0
  have hW' := hW
  obtain ⟨p, q, hA0, hV, rfl, hfz, hnd⟩ := hW
  have hA : DataW.TrodAll enc Tryz.prog W 0 (fun _ => true) true Tryz.f8.params.toList args.toList ds p := hA0
  have hsz : (DataW.weightsEach Tryz.prog (Tryz.f8.params.toList ++ Rows.weightOfSpec.plain.varTypes Tryz.prog) (ds ++ gs)).all (· ≤ reachBytes) = true := hsz0
  rw [Tryz.params8] at hA hval hsz
  obtain ⟨v0, v1, v2, d0, d1, d2, q0, q1, q2, rfl, rfl, rfl, h0, h1, h2⟩ := trodAll_three hA
  obtain ⟨rfl, rfl⟩ := trodVars_none hV
  obtain ⟨t0, ht0, hs0⟩ := arg_struct (fun n => rd_api_Types n) (agg_of_okWide (by kernel_rfl) (hval 0 25 v0 rfl rfl)) h0 (reach_arg hsz (j := 0) (t := 25) (d := d0) rfl rfl)
  obtain ⟨t1, ht1, hs1⟩ := arg_slice (e := 3) (c := c_i64) (k := 1) (by kernel_rfl) (by kernel_rfl) (by decide) (by kernel_rfl) (fun n => rds_int (k := .i64) (by kernel_rfl) n) (hval 1 26 v1 rfl rfl) h1 (reach_arg hsz (j := 1) (t := 26) (d := d1) rfl rfl)
  obtain ⟨t2, ht2, hs2⟩ := arg_struct (fun n => rd_api_Graph n) (agg_of_okWide (by kernel_rfl) (hval 2 29 v2 rfl rfl)) h2 (reach_arg hsz (j := 2) (t := 29) (d := d2) rfl rfl)
  have hf := k_law39_WeightOf t0 t1 t2 true (weightOf_law awake_eq t0 t1 t2 hs0 hs1 hs2)
  refine (hf.law (.cons ht0 (.cons ht1 (.cons ht2 .nil)))).mono fun e W' ⟨he, hB⟩ => ?_
  subst he
  exact ⟨_, rfl, law_post (tb := 4) weightOf_laidOut (by kernel_rfl) (by kernel_rfl) (by kernel_rfl) rfl ⟨rfl, rfl, rfl⟩ hW' hB⟩
theorem weightOf_holds : Rows.WeightOfSaid :=
  OpenClaim.holds_of_wide 8 Tryz.f8 rfl rfl rfl rfl rfl rfl rfl ⟨rfl, rfl, rfl, rfl, rfl⟩ rfl rfl rfl rfl rfl (by kernel_rfl) Tryz.func8 (by kernel_rfl)
    (of_decide_eq_true (by kernel_rfl)) (by unfold Func.isWrapper; first | (rw [if_pos (by decide +kernel)]; kernel_rfl) | (rw [if_neg (by decide +kernel)]; exact ⟨rfl, rfl⟩))
    (fun os started H enc _ => weightOf_lifted os started H enc)
end Go.Proofs.YtngimdmkomkeoaaGreat
