/- What the reach says of the lengths in a type graph and in each rule; the law of WeightCheck. -/
import Derived.Test.YtngimdmkomkeoaaGreatRead
import Derived.Test.YtngimdmkomkeoaaGreatLawX
set_option linter.unusedVariables false
namespace Go.Proofs.YtngimdmkomkeoaaGreat.K
open Go.RowKit Go.Proofs
theorem lenT_of {T : z06} (h : Sm.sm T) : LenT T := fun i h0 h1 => by
  have h2 : Sm.sm (nth T.Nodes i) := h.1.2 _ (z2u h0 h1)
  have h3 : ((nth T.Nodes i).Attrs.length : Int) ≤ LIM := h2.2.2.2.1.1
  unfold LIM at h3
  omega
theorem lenM_of {m : z0t} (h : Sm.sm m) : LenM m := ⟨h.1.1, h.2.1.1⟩
theorem lenC_of {c : z05} (h : z6j c) : LnC c := by
  induction h with
  | mk _ _ _ h2 _ ih => exact .mk (lenM_of h2) fun k hk => ih k hk
theorem lenR_of {r : z10} (h : Sm.sm r) : LenR r := ⟨lenM_of h.2.2.2.2.1, lenC_of h.2.2.2.2.2.2.1⟩
theorem weightCheck_law (ha : z68 = some true) (t0 : z06) (t1 : List z10) (t2 : z4s) (h0 : Sm.sm t0) (h1 : Sm.sm t1) (h2 : Sm.sm t2) : z7r t0 t1 t2 = some true :=
  weightCheck_law' ha (lenT_of h0) (fun r hr => lenR_of (h1.2 r hr)) t2
end Go.Proofs.YtngimdmkomkeoaaGreat.K
