/- The chapter's example: what the plain functions say of it (the kernel runs them). -/
import Derived.Test.YtngimdmkomkeoaaGreatPure
namespace Go.Proofs.YtngimdmkomkeoaaGreat.K
open Go.RowKit Go.Proofs
set_option maxRecDepth 100000
theorem awake_eq : z68 = some true := by kernel_rfl
end Go.Proofs.YtngimdmkomkeoaaGreat.K
