import Derived.Test.YtngimdmkomkeoaaGreatRows
import Derived.Test.YtngimdmkomkeoaaGreatRead
import Derived.Test.YtngimdmkomkeoaaGreatWalk5
import Derived.Test.YtngimdmkomkeoaaGreatEval
import Derived.Test.YtngimdmkomkeoaaGreatReadWeightPart
namespace Go.Proofs.YtngimdmkomkeoaaGreat
open Go.ChangeShapes Go.WideShapes Go.ChangeAt Go.RowKit Go.Proofs.YtngimdmkomkeoaaGreat.K
set_option linter.unusedVariables false
theorem weightPart_own : ownKnob Tryz.prog.godebug = none := by kernel_rfl
theorem weightPart_laidOut : laidOutB Tryz.prog = true := by kernel_rfl
set_option maxRecDepth 100000 in
theorem weightPart_lifted (os : Os) (started : os.Started) (H : Type) (enc : TypeId × Value → H) :
    ReturnsInHanded {} Tryz.checked os 7 .any (Rows.weightPartSpec.pre6 enc Tryz.prog Tryz.f7 Rows.weightPartRow.domain false) (Rows.weightPartSpec.post enc Tryz.prog Tryz.f7 false true false false) := by
  refine returnsInHanded_of_change_sized (C := Tryz.checked) weightPart_own started (by kernel_rfl) Tryz.func7
    (ChangeSpec.witness6 (enc := enc) (C := Tryz.checked) false ⟨#[], #[.agg #[.slice none 0 0, .slice none 0 0, .slice none 0 0], .int .u8 0, .int .u8 0], []⟩ 12 (by kernel_rfl) (by kernel_rfl) (by kernel_rfl) (by kernel_rfl)) ?_
  intro W base args ds gs before hval0 hW hcnd hsz0 _
  have hval : ∀ (j : Nat) t v, Tryz.f7.params[j]? = some t → args[j]? = some v → Value.okWide Tryz.prog W .any base t v := hval0
  have hW' := hW
  obtain ⟨p, q, hA0, hV, rfl, hfz, hnd⟩ := hW
  have hA : DataW.TrodAll enc Tryz.prog W 0 (fun _ => true) true Tryz.f7.params.toList args.toList ds p := hA0
  have hsz : (DataW.weightsEach Tryz.prog (Tryz.f7.params.toList ++ Rows.weightPartSpec.plain.varTypes Tryz.prog) (ds ++ gs)).all (· ≤ reachBytes) = true := hsz0
  rw [Tryz.params7] at hA hval hsz
  obtain ⟨v0, v1, v2, d0, d1, d2, q0, q1, q2, rfl, rfl, rfl, h0, h1, h2⟩ := trodAll_three hA
  obtain ⟨rfl, rfl⟩ := trodVars_none hV
  obtain ⟨t0, ht0, hs0⟩ := JA (fun n => M5 n) (Lh (by kernel_rfl) (hval 0 58 v0 rfl rfl)) h0 (wR hsz (j := 0) (t := 58) (d := d0) rfl rfl)
  obtain ⟨t1, ht1⟩ := B5 (by kernel_rfl) (hval 1 5 v1 rfl rfl) h1 (wR hsz (j := 1) (t := 5) (d := d1) rfl rfl)
  obtain ⟨t2, ht2⟩ := B5 (by kernel_rfl) (hval 2 5 v2 rfl rfl) h2 (wR hsz (j := 2) (t := 5) (d := d2) rfl rfl)
  have hf := My (LS HB t0 t1 t2 ht0 ht1 ht2 hs0)
  refine (hf.law (.cons ht0 (.cons ht1 (.cons ht2 .nil)))).mono fun e W' ⟨he, hB⟩ => ?_
  subst he
  exact ⟨_, rfl, HX (tb := 4) weightPart_laidOut (by kernel_rfl) (by kernel_rfl) (by kernel_rfl) rfl ⟨rfl, rfl, rfl⟩ hW' hB⟩
theorem weightPart_holds : Rows.WeightPartSaid :=
  OpenClaim.holds_of_wide 7 Tryz.f7 rfl rfl rfl rfl rfl rfl rfl ⟨rfl, rfl, rfl, rfl, rfl⟩ rfl rfl rfl rfl rfl (by kernel_rfl) Tryz.func7 (by kernel_rfl)
    (of_decide_eq_true (by kernel_rfl)) (by unfold Func.isWrapper; first | (rw [if_pos (by decide +kernel)]; kernel_rfl) | (rw [if_neg (by decide +kernel)]; exact ⟨rfl, rfl⟩))
    (fun os started H enc _ => weightPart_lifted os started H enc)
end Go.Proofs.YtngimdmkomkeoaaGreat
