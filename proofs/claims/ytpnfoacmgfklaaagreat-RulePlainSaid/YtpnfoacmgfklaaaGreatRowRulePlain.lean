/-
  RulePlain: for every input the law answers true, and each argument reads behind the call as it read before. No condition.
-/
import Derived.Test.YtpnfoacmgfklaaaGreatRows
import Derived.Test.YtpnfoacmgfklaaaGreatRead
import Derived.Test.YtpnfoacmgfklaaaGreatWalk3
import Derived.Test.YtpnfoacmgfklaaaGreatEval
import Derived.Test.YtpnfoacmgfklaaaGreatLawP
namespace Go.Proofs.YtpnfoacmgfklaaaGreat
open Go.ChangeShapes Go.WideShapes Go.ChangeAt Go.RowKit Go.Proofs.YtpnfoacmgfklaaaGreat.K
set_option linter.unusedVariables false
theorem rulePlain_own : ownKnob Tryz.prog.godebug = none := by kernel_rfl
theorem rulePlain_laidOut : laidOutB Tryz.prog = true := by kernel_rfl
set_option maxRecDepth 100000 in
theorem rulePlain_lifted (os : Os) (started : os.Started) (H : Type) (enc : TypeId × Value → H) :
    ReturnsInHanded {} Tryz.checked os 3 .any (Rows.rulePlainSpec.pre6 enc Tryz.prog Tryz.f3 Rows.rulePlainRow.domain false) (Rows.rulePlainSpec.post enc Tryz.prog Tryz.f3 false true false false) := by
  refine returnsInHanded_of_change (C := Tryz.checked) rulePlain_own started (by kernel_rfl) Tryz.func3
    (ChangeSpec.witness6 (enc := enc) (C := Tryz.checked) false ⟨#[], #[.agg #[.string (ByteArray.mk #[]), .slice none 0 0, .slice none 0 0, .slice none 0 0, .int .i64 0, .slice none 0 0, .slice none 0 0, .slice none 0 0, .slice none 0 0, .int .i64 0, .slice none 0 0, .slice none 0 0, .slice none 0 0, .slice none 0 0, .slice none 0 0, .bool false, .int .i64 0, .slice none 0 0, .slice none 0 0, .slice none 0 0, .slice none 0 0, .slice none 0 0, .slice none 0 0, .int .i64 0, .slice none 0 0]], []⟩ 12 (by kernel_rfl) (by kernel_rfl) (by kernel_rfl) (by kernel_rfl)) ?_
  intro W base args ds gs before hval0 hW hcnd _
  have hval : ∀ (j : Nat) t v, Tryz.f3.params[j]? = some t → args[j]? = some v → Value.okWide Tryz.prog W .any base t v := hval0
  have hW' := hW
  obtain ⟨p, q, hA0, hV, rfl, hfz, hnd⟩ := hW
  have hA : DataW.TrodAll enc Tryz.prog W 0 (fun _ => true) true Tryz.f3.params.toList args.toList ds p := hA0
  rw [Tryz.params3] at hA hval
  obtain ⟨v0, d0, rfl, rfl, h0⟩ := trodAll_one hA
  obtain ⟨rfl, rfl⟩ := trodVars_none hV
  obtain ⟨t0, ht0⟩ := arg_struct (fun n => rd_api_Rule n) (agg_of_okWide (by kernel_rfl) (hval 0 37 v0 rfl rfl)) h0
  have hf := k_law24_RulePlain t0 true (rulePlain_law awake_eq t0)
  refine (hf.law (.cons ht0 .nil)).mono fun e W' ⟨he, hB⟩ => ?_
  subst he
  exact ⟨_, rfl, law_post (tb := 4) rulePlain_laidOut (by kernel_rfl) (by kernel_rfl) (by kernel_rfl) rfl ⟨rfl, rfl, rfl⟩ hW' hB⟩
theorem rulePlain_holds : Rows.RulePlainSaid :=
  OpenClaim.holds_of_wide 3 Tryz.f3 rfl rfl rfl rfl rfl rfl rfl ⟨rfl, rfl, rfl, rfl, rfl⟩ rfl rfl rfl rfl rfl (by kernel_rfl) Tryz.func3 (by kernel_rfl)
    (of_decide_eq_true (by kernel_rfl)) (by unfold Func.isWrapper; first | (rw [if_pos (by decide +kernel)]; kernel_rfl) | (rw [if_neg (by decide +kernel)]; exact ⟨rfl, rfl⟩))
    (fun os started H enc _ => rulePlain_lifted os started H enc)
end Go.Proofs.YtpnfoacmgfklaaaGreat
