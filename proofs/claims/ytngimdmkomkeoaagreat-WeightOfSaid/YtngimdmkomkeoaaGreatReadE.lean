/- What the reach says of the lengths in a type graph; the law of WeightOf. -/
import Derived.Test.YtngimdmkomkeoaaGreatRead
import Derived.Test.YtngimdmkomkeoaaGreatLawO
set_option linter.unusedVariables false
namespace Go.Proofs.YtngimdmkomkeoaaGreat.K
open Go.RowKit Go.Proofs
theorem lenT_of {T : api_Types} (h : Sm.sm T) : LenT T := fun i h0 h1 => by
  have h2 : Sm.sm (nth T.Nodes i) := h.1.2 _ (nth_mem h0 h1)
  have h3 : ((nth T.Nodes i).Attrs.length : Int) ≤ LIM := h2.2.2.2.1.1
  unfold LIM at h3
  omega
theorem weightOf_law (ha : law39_awake = some true) (t0 : api_Types) (t1 : List Int) (t2 : api_Graph) (h0 : Sm.sm t0) (h1 : Sm.sm t1) (h2 : Sm.sm t2) : law39_WeightOf t0 t1 t2 = some true :=
  weightOf_law' ha (lenT_of h0) t1 t2
end Go.Proofs.YtngimdmkomkeoaaGreat.K
