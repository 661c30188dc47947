/-
  RuleTwice: for every input the law answers true, and each argument reads behind the call as it read before. No condition.
-/
import Derived.Test.YtpnfoacmgfklaaaGreatRows
import Derived.Test.YtpnfoacmgfklaaaGreatRead
import Derived.Test.YtpnfoacmgfklaaaGreatWalk4
import Derived.Test.YtpnfoacmgfklaaaGreatEval
import Derived.Test.YtpnfoacmgfklaaaGreatReadD
namespace Go.Proofs.YtpnfoacmgfklaaaGreat
open Go.ChangeShapes Go.WideShapes Go.ChangeAt Go.RowKit Go.Proofs.YtpnfoacmgfklaaaGreat.K
set_option linter.unusedVariables false
theorem ruleTwice_own : ownKnob Tryz.prog.godebug = none := by kernel_rfl
theorem ruleTwice_laidOut : laidOutB Tryz.prog = true := by kernel_rfl
set_option maxRecDepth 100000 in
theorem ruleTwice_lifted (os : Os) (started : os.Started) (H : Type) (enc : TypeId × Value → H) :
    ReturnsInHanded {} Tryz.checked os 5 .any (Rows.ruleTwiceSpec.pre6 enc Tryz.prog Tryz.f5 Rows.ruleTwiceRow.domain false) (Rows.ruleTwiceSpec.post enc Tryz.prog Tryz.f5 false true false false) := by
  refine returnsInHanded_of_change (C := Tryz.checked) ruleTwice_own started (by kernel_rfl) Tryz.func5
    (ChangeSpec.witness6 (enc := enc) (C := Tryz.checked) false ⟨#[], #[.slice none 0 0, .slice none 0 0, .agg #[.slice none 0 0, .slice none 0 0, .slice none 0 0, .slice none 0 0, .int .u64 0, .slice none 0 0, .slice none 0 0, .slice none 0 0, .bool false, .bool false, .int .u8 0, .int .u8 0, .int .u8 0, .int .u8 0, .slice none 0 0]], []⟩ 12 (by kernel_rfl) (by kernel_rfl) (by kernel_rfl) (by kernel_rfl)) ?_
  intro W base args ds gs before hval0 hW hcnd _
  have hval : ∀ (j : Nat) t v, Tryz.f5.params[j]? = some t → args[j]? = some v → Value.okWide Tryz.prog W .any base t v := hval0
  have hW' := hW
  obtain ⟨p, q, hA0, hV, rfl, hfz, hnd⟩ := hW
  have hA : DataW.TrodAll enc Tryz.prog W 0 (fun _ => true) true Tryz.f5.params.toList args.toList ds p := hA0
  rw [Tryz.params5] at hA hval
  obtain ⟨v0, v1, v2, d0, d1, d2, q0, q1, q2, rfl, rfl, rfl, h0, h1, h2⟩ := trodAll_three hA
  obtain ⟨rfl, rfl⟩ := trodVars_none hV
  obtain ⟨t0, ht0⟩ := arg_slice (c := c_Arr2_c_u8) (k := 2) (by kernel_rfl) (by kernel_rfl) (by decide) (fun n => rd_Arr2_c_u8 n) (hval 0 44 v0 rfl rfl) h0
  obtain ⟨t1, ht1⟩ := arg_slice (c := c_Arr2_c_u8) (k := 2) (by kernel_rfl) (by kernel_rfl) (by decide) (fun n => rd_Arr2_c_u8 n) (hval 1 44 v1 rfl rfl) h1
  obtain ⟨t2, ht2⟩ := arg_struct (fun n => rd_ref24_Draft n) (agg_of_okWide (by kernel_rfl) (hval 2 55 v2 rfl rfl)) h2
  have hf := k_law24_RuleTwice t0 t1 t2 true (ruleTwice_law awake_eq t0 t1 t2 ht0 ht1 ht2)
  refine (hf.law (.cons ht0 (.cons ht1 (.cons ht2 .nil)))).mono fun e W' ⟨he, hB⟩ => ?_
  subst he
  exact ⟨_, rfl, law_post (tb := 4) ruleTwice_laidOut (by kernel_rfl) (by kernel_rfl) (by kernel_rfl) rfl ⟨rfl, rfl, rfl⟩ hW' hB⟩
theorem ruleTwice_holds : Rows.RuleTwiceSaid :=
  OpenClaim.holds_of_wide 5 Tryz.f5 rfl rfl rfl rfl rfl rfl rfl ⟨rfl, rfl, rfl, rfl, rfl⟩ rfl rfl rfl rfl rfl (by kernel_rfl) Tryz.func5 (by kernel_rfl)
    (of_decide_eq_true (by kernel_rfl)) (by unfold Func.isWrapper; first | (rw [if_pos (by decide +kernel)]; kernel_rfl) | (rw [if_neg (by decide +kernel)]; exact ⟨rfl, rfl⟩))
    (fun os started H enc _ => ruleTwice_lifted os started H enc)
end Go.Proofs.YtpnfoacmgfklaaaGreat
