/- What the reach says of the lengths in a type graph and in each rule; the law of WeightRefute. -/
import Derived.Test.YtngimdmkomkeoaaGreatRead
import Derived.Test.YtngimdmkomkeoaaGreatLawX
set_option linter.unusedVariables false
namespace Go.Proofs.YtngimdmkomkeoaaGreat.K
open Go.RowKit Go.Proofs
theorem lenT_of {T : z06} (h : Sm.sm T) : LenT T := fun i h0 h1 => by
  have h2 : Sm.sm (nth T.Nodes i) := h.1.2 _ (z2c h0 h1)
  have h3 : ((nth T.Nodes i).Attrs.length : Int) ≤ LIM := h2.2.2.2.1.1
  unfold LIM at h3
  omega
theorem lenM_of {m : z0t} (h : Sm.sm m) : LenM m := ⟨h.1.1, h.2.1.1⟩
theorem lenC_of {c : z05} (h : z6v c) : LnC c := by
  induction h with
  | mk _ _ _ h2 _ ih => exact .mk (lenM_of h2) fun k hk => ih k hk
theorem lenR_of {r : z0z} (h : Sm.sm r) : LenR r := ⟨lenM_of h.2.2.2.2.1, lenC_of h.2.2.2.2.2.2.1⟩
theorem weightRefute_law (ha : z9i = some true) (t0 : z06) (t1 : List z0z) (h0 : Sm.sm t0) (h1 : Sm.sm t1) : z7c t0 t1 = some true :=
  weightRefute_law' ha (lenT_of h0) (fun r hr => lenR_of (h1.2 r hr))
end Go.Proofs.YtngimdmkomkeoaaGreat.K
