/-
  WeightCheck: for every input the law answers true, and each argument reads behind the call as it read before. No condition.
-/
import Derived.Test.YtngimdmkomkeoaaGreatRows
import Derived.Test.YtngimdmkomkeoaaGreatRead
import Derived.Test.YtngimdmkomkeoaaGreatWalk4
import Derived.Test.YtngimdmkomkeoaaGreatEval
import Derived.Test.YtngimdmkomkeoaaGreatReadWeightCheck
namespace Go.Proofs.YtngimdmkomkeoaaGreat
open Go.ChangeShapes Go.WideShapes Go.ChangeAt Go.RowKit Go.Proofs.YtngimdmkomkeoaaGreat.K
set_option linter.unusedVariables false
theorem weightCheck_own : ownKnob Tryz.prog.godebug = none := by kernel_rfl
theorem weightCheck_laidOut : laidOutB Tryz.prog = true := by kernel_rfl
set_option maxRecDepth 100000 in
theorem weightCheck_lifted (os : Os) (started : os.Started) (H : Type) (enc : TypeId × Value → H) :
    ReturnsInHanded {} Tryz.checked os 6 .any (Rows.weightCheckSpec.pre6 enc Tryz.prog Tryz.f6 Rows.weightCheckRow.domain false) (Rows.weightCheckSpec.post enc Tryz.prog Tryz.f6 false true false false) := by
  refine returnsInHanded_of_change_sized (C := Tryz.checked) weightCheck_own started (by kernel_rfl) Tryz.func6
    (ChangeSpec.witness6 (enc := enc) (C := Tryz.checked) false ⟨#[], #[.agg #[.slice none 0 0, .slice none 0 0], .slice none 0 0, .agg #[.slice none 0 0, .slice none 0 0]], []⟩ 12 (by kernel_rfl) (by kernel_rfl) (by kernel_rfl) (by kernel_rfl)) ?_
  intro W base args ds gs before hval0 hW hcnd hsz0 _
  have hval : ∀ (j : Nat) t v, Tryz.f6.params[j]? = some t → args[j]? = some v → Value.okWide Tryz.prog W .any base t v := hval0
  have hW' := hW
  obtain ⟨p, q, hA0, hV, rfl, hfz, hnd⟩ := hW
  have hA : DataW.TrodAll enc Tryz.prog W 0 (fun _ => true) true Tryz.f6.params.toList args.toList ds p := hA0
  have hsz : (DataW.weightsEach Tryz.prog (Tryz.f6.params.toList ++ Rows.weightCheckSpec.plain.varTypes Tryz.prog) (ds ++ gs)).all (· ≤ reachBytes) = true := hsz0
  rw [Tryz.params6] at hA hval hsz
  obtain ⟨v0, v1, v2, d0, d1, d2, q0, q1, q2, rfl, rfl, rfl, h0, h1, h2⟩ := trodAll_three hA
  obtain ⟨rfl, rfl⟩ := trodVars_none hV
  obtain ⟨t0, ht0, hs0⟩ := arg_struct (fun n => rd_api_Types n) (agg_of_okWide (by kernel_rfl) (hval 0 25 v0 rfl rfl)) h0 (reach_arg hsz (j := 0) (t := 25) (d := d0) rfl rfl)
  obtain ⟨t1, ht1, hs1⟩ := arg_slice (e := 41) (c := z0g) (k := 25) (by kernel_rfl) (by kernel_rfl) (by decide) (by kernel_rfl) (fun n => rd_api_Rule n) (hval 1 44 v1 rfl rfl) h1 (reach_arg hsz (j := 1) (t := 44) (d := d1) rfl rfl)
  obtain ⟨t2, ht2, hs2⟩ := arg_struct (fun n => rd_Arr2_cL1c_i64 n) (agg_of_okWide (by kernel_rfl) (hval 2 52 v2 rfl rfl)) h2 (reach_arg hsz (j := 2) (t := 52) (d := d2) rfl rfl)
  have hf := k_law39_WeightCheck t0 t1 t2 true (weightCheck_law awake_eq t0 t1 t2 hs0 hs1 hs2)
  refine (hf.law (.cons ht0 (.cons ht1 (.cons ht2 .nil)))).mono fun e W' ⟨he, hB⟩ => ?_
  subst he
  exact ⟨_, rfl, law_post (tb := 4) weightCheck_laidOut (by kernel_rfl) (by kernel_rfl) (by kernel_rfl) rfl ⟨rfl, rfl, rfl⟩ hW' hB⟩
theorem weightCheck_holds : Rows.WeightCheckSaid :=
  OpenClaim.holds_of_wide 6 Tryz.f6 rfl rfl rfl rfl rfl rfl rfl ⟨rfl, rfl, rfl, rfl, rfl⟩ rfl rfl rfl rfl rfl (by kernel_rfl) Tryz.func6 (by kernel_rfl)
    (of_decide_eq_true (by kernel_rfl)) (by unfold Func.isWrapper; first | (rw [if_pos (by decide +kernel)]; kernel_rfl) | (rw [if_neg (by decide +kernel)]; exact ⟨rfl, rfl⟩))
    (fun os started H enc _ => weightCheck_lifted os started H enc)
end Go.Proofs.YtngimdmkomkeoaaGreat
