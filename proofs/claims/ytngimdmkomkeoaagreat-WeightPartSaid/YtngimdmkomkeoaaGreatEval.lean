import Derived.Test.YtngimdmkomkeoaaGreatPure
namespace Go.Proofs.YtngimdmkomkeoaaGreat.K
open Go.RowKit Go.Proofs
set_option maxRecDepth 100000
theorem HB : lC = some true := by kernel_rfl
end Go.Proofs.YtngimdmkomkeoaaGreat.K
