/- What the reach says of the lengths in a type graph and a rule; the law of WeightEffect. -/
import Derived.Test.YtngimdmkomkeoaaGreatRead
import Derived.Test.YtngimdmkomkeoaaGreatLawU
set_option linter.unusedVariables false
namespace Go.Proofs.YtngimdmkomkeoaaGreat.K
open Go.RowKit Go.Proofs
theorem lenT_of {T : api_Types} (h : Sm.sm T) : LenT T := fun i h0 h1 => by
  have h2 : Sm.sm (nth T.Nodes i) := h.1.2 _ (nth_mem h0 h1)
  have h3 : ((nth T.Nodes i).Attrs.length : Int) ≤ LIM := h2.2.2.2.1.1
  unfold LIM at h3
  omega
theorem lenM_of {m : api_Morphism} (h : Sm.sm m) : LenM m := ⟨h.1.1, h.2.1.1⟩
theorem lenC_of {c : api_Condition} (h : Sm_api_Condition c) : LnC c := by
  induction h with
  | mk _ _ _ h2 _ ih => exact .mk (lenM_of h2) fun k hk => ih k hk
theorem lenR_of {r : api_Rule} (h : Sm.sm r) : LenR r := ⟨lenM_of h.2.2.2.2.1, lenC_of h.2.2.2.2.2.2.1⟩
theorem weightEffect_law (ha : law39_awake = some true) (t0 : api_Types) (t1 : api_Rule) (h0 : Sm.sm t0) (h1 : Sm.sm t1) : law39_WeightEffect t0 t1 = some true :=
  weightEffect_law' ha (lenT_of h0) (lenR_of h1)
end Go.Proofs.YtngimdmkomkeoaaGreat.K
