/-
  NARROWER THAN 'FOR EVERY INPUT', by the rows' own cells (each row's printed sentence says how): WeightEffect: loops · WeightFind: loops · WeightRefute: loops · WeightCheck: loops.
  DERIVED. THE GIVEN ROWS OF THIS SEAT. 6 by the template 'for every input the law returns true; each argument reads behind the call as it read before'; 0 by the template 'total and deterministic' (their statements: YtngimdmkomkeoaaGreatTotals.lean).
  GIVEN WITH THE SEED: the statements are not yours to turn. If you find one false, say at which input.
  Laid BY PROGRAM, IN A SANDBOX (cutbox-rows.mjs): the forced cells as the released guide's own fill.sh prints them over the translation f61d294f51884f75… (all of the seat's roots in one cut). By AI agents, Wed Nov 11 2026. No macro, syntax, notation, axiom, sorry.
-/
import Derived.Test.YtngimdmkomkeoaaGreatChecked
import GoSem.Claim
import GoSem.ClaimJoined
import GoSem.ClaimMapViews
import Derived.JoinedTies
import Derived.KernelRfl
namespace Go.Proofs.YtngimdmkomkeoaaGreat
/- THE CELL 'sum', in the pinned program and in every row, IS THE sha256 OF THE DUMP (.gsa) THAT YtngimdmkomkeoaaGreatProg.lean LOADS. Nothing in Lean hashes anything: it is a label: what it is worth is what the hold of that sum in a sandbox is worth. -/
noncomputable def Tryz.pinned : Pinned := { name := "ytngimdmkomkeoaagreat", sum := "f61d294f51884f7575caf03088553f85fb6a4cb57661e57632dea4ef04b7f893", checked := Tryz.checked }
namespace Rows
def none {H : Type} : Left H := { results := [], args := [] }

/-- 'scarfjointlaw39.WeightEffect': WHATEVER THE INPUT: true; the input reads as it did. -/
def weightEffectSpec : ChangeSpec := { name := "weightEffect", fn := fun _ => fun
  | [d1, d2] => { results := [.lit (.bool true)], args := [d1, d2] }
  | _ => none }
def weightEffectRow : OpenClaim := { program := "ytngimdmkomkeoaagreat", sum := "f61d294f51884f7575caf03088553f85fb6a4cb57661e57632dea4ef04b7f893", func := "scarfjoint/scarfjointlaw39.WeightEffect", spec := "weightEffect", inPlace := ["internal/bytealg.IndexByteString"], unfollowed := true, recurses := true, loops := true, apart := false }
def WeightEffectSaid : Prop := weightEffectRow.holds Tryz.pinned (OpenSpec.ofChange weightEffectSpec)

/-- ITS FALSE NEIGHBOUR: 'it returns false'. Refute it at one input. -/
def weightEffectWrong : ChangeSpec := { name := "weightEffect", fn := fun _ => fun
  | [d1, d2] => { results := [.lit (.bool false)], args := [d1, d2] }
  | _ => none }
def WeightEffectWrongFalsely : Prop := weightEffectRow.holds Tryz.pinned (OpenSpec.ofChange weightEffectWrong)

/-- 'scarfjointlaw39.WeightFind': WHATEVER THE INPUT: true; the input reads as it did. -/
def weightFindSpec : ChangeSpec := { name := "weightFind", fn := fun _ => fun
  | [d1, d2] => { results := [.lit (.bool true)], args := [d1, d2] }
  | _ => none }
def weightFindRow : OpenClaim := { program := "ytngimdmkomkeoaagreat", sum := "f61d294f51884f7575caf03088553f85fb6a4cb57661e57632dea4ef04b7f893", func := "scarfjoint/scarfjointlaw39.WeightFind", spec := "weightFind", inPlace := ["internal/bytealg.IndexByteString"], unfollowed := true, recurses := true, loops := true, apart := false }
def WeightFindSaid : Prop := weightFindRow.holds Tryz.pinned (OpenSpec.ofChange weightFindSpec)

/-- ITS FALSE NEIGHBOUR: 'it returns false'. Refute it at one input. -/
def weightFindWrong : ChangeSpec := { name := "weightFind", fn := fun _ => fun
  | [d1, d2] => { results := [.lit (.bool false)], args := [d1, d2] }
  | _ => none }
def WeightFindWrongFalsely : Prop := weightFindRow.holds Tryz.pinned (OpenSpec.ofChange weightFindWrong)

/-- 'scarfjointlaw39.WeightRefute': WHATEVER THE INPUT: true; the input reads as it did. -/
def weightRefuteSpec : ChangeSpec := { name := "weightRefute", fn := fun _ => fun
  | [d1, d2] => { results := [.lit (.bool true)], args := [d1, d2] }
  | _ => none }
def weightRefuteRow : OpenClaim := { program := "ytngimdmkomkeoaagreat", sum := "f61d294f51884f7575caf03088553f85fb6a4cb57661e57632dea4ef04b7f893", func := "scarfjoint/scarfjointlaw39.WeightRefute", spec := "weightRefute", inPlace := ["internal/bytealg.IndexByteString"], unfollowed := true, recurses := true, loops := true, apart := false }
def WeightRefuteSaid : Prop := weightRefuteRow.holds Tryz.pinned (OpenSpec.ofChange weightRefuteSpec)

/-- ITS FALSE NEIGHBOUR: 'it returns false'. Refute it at one input. -/
def weightRefuteWrong : ChangeSpec := { name := "weightRefute", fn := fun _ => fun
  | [d1, d2] => { results := [.lit (.bool false)], args := [d1, d2] }
  | _ => none }
def WeightRefuteWrongFalsely : Prop := weightRefuteRow.holds Tryz.pinned (OpenSpec.ofChange weightRefuteWrong)

/-- 'scarfjointlaw39.WeightCheck': WHATEVER THE INPUT: true; the input reads as it did. -/
def weightCheckSpec : ChangeSpec := { name := "weightCheck", fn := fun _ => fun
  | [d1, d2, d3] => { results := [.lit (.bool true)], args := [d1, d2, d3] }
  | _ => none }
def weightCheckRow : OpenClaim := { program := "ytngimdmkomkeoaagreat", sum := "f61d294f51884f7575caf03088553f85fb6a4cb57661e57632dea4ef04b7f893", func := "scarfjoint/scarfjointlaw39.WeightCheck", spec := "weightCheck", inPlace := ["internal/bytealg.IndexByteString"], unfollowed := true, recurses := true, loops := true, apart := false }
def WeightCheckSaid : Prop := weightCheckRow.holds Tryz.pinned (OpenSpec.ofChange weightCheckSpec)

/-- ITS FALSE NEIGHBOUR: 'it returns false'. Refute it at one input. -/
def weightCheckWrong : ChangeSpec := { name := "weightCheck", fn := fun _ => fun
  | [d1, d2, d3] => { results := [.lit (.bool false)], args := [d1, d2, d3] }
  | _ => none }
def WeightCheckWrongFalsely : Prop := weightCheckRow.holds Tryz.pinned (OpenSpec.ofChange weightCheckWrong)

/-- 'scarfjointlaw39.WeightPart': WHATEVER THE INPUT: true; the input reads as it did. -/
def weightPartSpec : ChangeSpec := { name := "weightPart", fn := fun _ => fun
  | [d1, d2, d3] => { results := [.lit (.bool true)], args := [d1, d2, d3] }
  | _ => none }
def weightPartRow : OpenClaim := { program := "ytngimdmkomkeoaagreat", sum := "f61d294f51884f7575caf03088553f85fb6a4cb57661e57632dea4ef04b7f893", func := "scarfjoint/scarfjointlaw39.WeightPart", spec := "weightPart", inPlace := ["internal/bytealg.IndexByteString"], unfollowed := true, recurses := true, apart := false }
def WeightPartSaid : Prop := weightPartRow.holds Tryz.pinned (OpenSpec.ofChange weightPartSpec)

/-- ITS FALSE NEIGHBOUR: 'it returns false'. Refute it at one input. -/
def weightPartWrong : ChangeSpec := { name := "weightPart", fn := fun _ => fun
  | [d1, d2, d3] => { results := [.lit (.bool false)], args := [d1, d2, d3] }
  | _ => none }
def WeightPartWrongFalsely : Prop := weightPartRow.holds Tryz.pinned (OpenSpec.ofChange weightPartWrong)

/-- 'scarfjointlaw39.WeightOf': WHATEVER THE INPUT: true; the input reads as it did. -/
def weightOfSpec : ChangeSpec := { name := "weightOf", fn := fun _ => fun
  | [d1, d2, d3] => { results := [.lit (.bool true)], args := [d1, d2, d3] }
  | _ => none }
def weightOfRow : OpenClaim := { program := "ytngimdmkomkeoaagreat", sum := "f61d294f51884f7575caf03088553f85fb6a4cb57661e57632dea4ef04b7f893", func := "scarfjoint/scarfjointlaw39.WeightOf", spec := "weightOf", inPlace := ["internal/bytealg.IndexByteString"], unfollowed := true, recurses := true, apart := false }
def WeightOfSaid : Prop := weightOfRow.holds Tryz.pinned (OpenSpec.ofChange weightOfSpec)

/-- ITS FALSE NEIGHBOUR: 'it returns false'. Refute it at one input. -/
def weightOfWrong : ChangeSpec := { name := "weightOf", fn := fun _ => fun
  | [d1, d2, d3] => { results := [.lit (.bool false)], args := [d1, d2, d3] }
  | _ => none }
def WeightOfWrongFalsely : Prop := weightOfRow.holds Tryz.pinned (OpenSpec.ofChange weightOfWrong)

/- THE SECOND FORM. 'bulk': how many values and letters a reading holds, each counted each time it is reached (what is shared counts as often as it is met; a slice's spare places count too). A statement '..UptoSaid' is the law's where the arguments, and the package variables that the reading takes, are together of bulk at most 1048576: NARROWER than '..Said'. Prove '..Said' where nothing that the law and all that it calls make is longer than what came in: it says more and counts as full. Else prove '..UptoSaid'. A law counts once. -/
mutual
def uptoBulk {H : Type} : DataW H → Nat
  | .lit (.string bytes) => bytes.length + 1
  | .lit _ => 1
  | .nil => 1
  | .ptr d => uptoBulk d + 1
  | .slice elems spare => uptoBulkAll elems + uptoBulkAll spare + 1
  | .agg parts => uptoBulkAll parts + 1
  | .iface _ d => uptoBulk d + 1
  | .map entries => uptoBulkEntries entries + 1
  | .held _ => 1
def uptoBulkAll {H : Type} : List (DataW H) → Nat
  | [] => 0
  | d :: r => uptoBulk d + uptoBulkAll r
def uptoBulkEntries {H : Type} : List (Lit × DataW H) → Nat
  | [] => 0
  | x :: r => uptoBulkEntry x + uptoBulkEntries r
def uptoBulkEntry {H : Type} : Lit × DataW H → Nat
  | (.string bytes, d) => bytes.length + uptoBulk d + 1
  | (_, d) => uptoBulk d + 1
 end
def uptoSmall : (H : Type) → List (DataW H) → Bool := fun _ ds => decide (uptoBulkAll ds ≤ 1048576)
def OpenSpec.upto (s : _root_.Go.ChangeSpec) : _root_.Go.OpenSpec := { _root_.Go.OpenSpec.ofChange s with cond := some uptoSmall }

/-- 'scarfjointlaw39.WeightEffect', WHERE WHAT IT READS IS OF BULK AT MOST 1048576: true; the input reads as it did. -/
def weightEffectUptoRow : OpenClaim := { program := "ytngimdmkomkeoaagreat", sum := "f61d294f51884f7575caf03088553f85fb6a4cb57661e57632dea4ef04b7f893", func := "scarfjoint/scarfjointlaw39.WeightEffect", spec := "weightEffect", inPlace := ["internal/bytealg.IndexByteString"], unfollowed := true, recurses := true, loops := true, apart := false, narrowed := true }
def WeightEffectUptoSaid : Prop := weightEffectUptoRow.holds Tryz.pinned (OpenSpec.upto weightEffectSpec)

/-- 'scarfjointlaw39.WeightFind', WHERE WHAT IT READS IS OF BULK AT MOST 1048576: true; the input reads as it did. -/
def weightFindUptoRow : OpenClaim := { program := "ytngimdmkomkeoaagreat", sum := "f61d294f51884f7575caf03088553f85fb6a4cb57661e57632dea4ef04b7f893", func := "scarfjoint/scarfjointlaw39.WeightFind", spec := "weightFind", inPlace := ["internal/bytealg.IndexByteString"], unfollowed := true, recurses := true, loops := true, apart := false, narrowed := true }
def WeightFindUptoSaid : Prop := weightFindUptoRow.holds Tryz.pinned (OpenSpec.upto weightFindSpec)

/-- 'scarfjointlaw39.WeightRefute', WHERE WHAT IT READS IS OF BULK AT MOST 1048576: true; the input reads as it did. -/
def weightRefuteUptoRow : OpenClaim := { program := "ytngimdmkomkeoaagreat", sum := "f61d294f51884f7575caf03088553f85fb6a4cb57661e57632dea4ef04b7f893", func := "scarfjoint/scarfjointlaw39.WeightRefute", spec := "weightRefute", inPlace := ["internal/bytealg.IndexByteString"], unfollowed := true, recurses := true, loops := true, apart := false, narrowed := true }
def WeightRefuteUptoSaid : Prop := weightRefuteUptoRow.holds Tryz.pinned (OpenSpec.upto weightRefuteSpec)

/-- 'scarfjointlaw39.WeightCheck', WHERE WHAT IT READS IS OF BULK AT MOST 1048576: true; the input reads as it did. -/
def weightCheckUptoRow : OpenClaim := { program := "ytngimdmkomkeoaagreat", sum := "f61d294f51884f7575caf03088553f85fb6a4cb57661e57632dea4ef04b7f893", func := "scarfjoint/scarfjointlaw39.WeightCheck", spec := "weightCheck", inPlace := ["internal/bytealg.IndexByteString"], unfollowed := true, recurses := true, loops := true, apart := false, narrowed := true }
def WeightCheckUptoSaid : Prop := weightCheckUptoRow.holds Tryz.pinned (OpenSpec.upto weightCheckSpec)

/-- 'scarfjointlaw39.WeightPart', WHERE WHAT IT READS IS OF BULK AT MOST 1048576: true; the input reads as it did. -/
def weightPartUptoRow : OpenClaim := { program := "ytngimdmkomkeoaagreat", sum := "f61d294f51884f7575caf03088553f85fb6a4cb57661e57632dea4ef04b7f893", func := "scarfjoint/scarfjointlaw39.WeightPart", spec := "weightPart", inPlace := ["internal/bytealg.IndexByteString"], unfollowed := true, recurses := true, apart := false, narrowed := true }
def WeightPartUptoSaid : Prop := weightPartUptoRow.holds Tryz.pinned (OpenSpec.upto weightPartSpec)

/-- 'scarfjointlaw39.WeightOf', WHERE WHAT IT READS IS OF BULK AT MOST 1048576: true; the input reads as it did. -/
def weightOfUptoRow : OpenClaim := { program := "ytngimdmkomkeoaagreat", sum := "f61d294f51884f7575caf03088553f85fb6a4cb57661e57632dea4ef04b7f893", func := "scarfjoint/scarfjointlaw39.WeightOf", spec := "weightOf", inPlace := ["internal/bytealg.IndexByteString"], unfollowed := true, recurses := true, apart := false, narrowed := true }
def WeightOfUptoSaid : Prop := weightOfUptoRow.holds Tryz.pinned (OpenSpec.upto weightOfSpec)

end Rows
end Go.Proofs.YtngimdmkomkeoaaGreat
