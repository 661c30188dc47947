/-
  NARROWER THAN 'FOR EVERY INPUT', by the rows' own cells (each row's printed sentence says how): RulePlain: loops · RuleSame: loops · RuleSpecialize: loops.
  DERIVED. THE GIVEN ROWS OF THIS SEAT. 5 by the template 'for every input the law returns true; each argument reads behind the call as it read before'; 0 by the template 'total and deterministic' (their statements: YtpnfoacmgfklaaaGreatTotals.lean).
  GIVEN WITH THE SEED: the statements are not yours to turn. If you find one false, say at which input.
  Laid BY PROGRAM, IN A SANDBOX (cutbox-rows.mjs): the forced cells as the released guide's own fill.sh prints them over the translation 20bbed5b86122623… (all of the seat's roots in one cut). By AI agents, Wed Nov 11 2026. No macro, syntax, notation, axiom, sorry.
-/
import Derived.Test.YtpnfoacmgfklaaaGreatChecked
import GoSem.Claim
import GoSem.ClaimJoined
import GoSem.ClaimMapViews
import Derived.JoinedTies
import Derived.KernelRfl
namespace Go.Proofs.YtpnfoacmgfklaaaGreat
/- THE CELL 'sum', in the pinned program and in every row, IS THE sha256 OF THE DUMP (.gsa) THAT YtpnfoacmgfklaaaGreatProg.lean LOADS. Nothing in Lean hashes anything: it is a label: what it is worth is what the hold of that sum in a sandbox is worth. -/
noncomputable def Tryz.pinned : Pinned := { name := "ytpnfoacmgfklaaagreat", sum := "20bbed5b8612262300a96be479c49d905c3eea7046d6a6d4f411136d16ca8b2d", checked := Tryz.checked }
namespace Rows
def none {H : Type} : Left H := { results := [], args := [] }

/-- 'scarfjointlaw24.RulePlain': WHATEVER THE INPUT: true; the input reads as it did. -/
def rulePlainSpec : ChangeSpec := { name := "rulePlain", fn := fun _ => fun
  | [d] => { results := [.lit (.bool true)], args := [d] }
  | _ => none }
def rulePlainRow : OpenClaim := { program := "ytpnfoacmgfklaaagreat", sum := "20bbed5b8612262300a96be479c49d905c3eea7046d6a6d4f411136d16ca8b2d", func := "scarfjoint/scarfjointlaw24.RulePlain", spec := "rulePlain", inPlace := ["internal/bytealg.IndexByteString"], unfollowed := true, recurses := true, loops := true, apart := false }
def RulePlainSaid : Prop := rulePlainRow.holds Tryz.pinned (OpenSpec.ofChange rulePlainSpec)

/-- ITS FALSE NEIGHBOUR: 'it returns false'. Refute it at one input. -/
def rulePlainWrong : ChangeSpec := { name := "rulePlain", fn := fun _ => fun
  | [d] => { results := [.lit (.bool false)], args := [d] }
  | _ => none }
def RulePlainWrongFalsely : Prop := rulePlainRow.holds Tryz.pinned (OpenSpec.ofChange rulePlainWrong)

/-- 'scarfjointlaw24.RuleSame': WHATEVER THE INPUT: true; the input reads as it did. -/
def ruleSameSpec : ChangeSpec := { name := "ruleSame", fn := fun _ => fun
  | [d1, d2] => { results := [.lit (.bool true)], args := [d1, d2] }
  | _ => none }
def ruleSameRow : OpenClaim := { program := "ytpnfoacmgfklaaagreat", sum := "20bbed5b8612262300a96be479c49d905c3eea7046d6a6d4f411136d16ca8b2d", func := "scarfjoint/scarfjointlaw24.RuleSame", spec := "ruleSame", inPlace := ["internal/bytealg.IndexByteString"], unfollowed := true, recurses := true, loops := true, apart := false }
def RuleSameSaid : Prop := ruleSameRow.holds Tryz.pinned (OpenSpec.ofChange ruleSameSpec)

/-- ITS FALSE NEIGHBOUR: 'it returns false'. Refute it at one input. -/
def ruleSameWrong : ChangeSpec := { name := "ruleSame", fn := fun _ => fun
  | [d1, d2] => { results := [.lit (.bool false)], args := [d1, d2] }
  | _ => none }
def RuleSameWrongFalsely : Prop := ruleSameRow.holds Tryz.pinned (OpenSpec.ofChange ruleSameWrong)

/-- 'scarfjointlaw24.RuleTwice': WHATEVER THE INPUT: true; the input reads as it did. -/
def ruleTwiceSpec : ChangeSpec := { name := "ruleTwice", fn := fun _ => fun
  | [d1, d2, d3] => { results := [.lit (.bool true)], args := [d1, d2, d3] }
  | _ => none }
def ruleTwiceRow : OpenClaim := { program := "ytpnfoacmgfklaaagreat", sum := "20bbed5b8612262300a96be479c49d905c3eea7046d6a6d4f411136d16ca8b2d", func := "scarfjoint/scarfjointlaw24.RuleTwice", spec := "ruleTwice", inPlace := ["internal/bytealg.IndexByteString"], unfollowed := true, recurses := true, apart := false }
def RuleTwiceSaid : Prop := ruleTwiceRow.holds Tryz.pinned (OpenSpec.ofChange ruleTwiceSpec)

/-- ITS FALSE NEIGHBOUR: 'it returns false'. Refute it at one input. -/
def ruleTwiceWrong : ChangeSpec := { name := "ruleTwice", fn := fun _ => fun
  | [d1, d2, d3] => { results := [.lit (.bool false)], args := [d1, d2, d3] }
  | _ => none }
def RuleTwiceWrongFalsely : Prop := ruleTwiceRow.holds Tryz.pinned (OpenSpec.ofChange ruleTwiceWrong)

/-- 'scarfjointlaw24.RuleSpecialize': WHATEVER THE INPUT: true; the input reads as it did. -/
def ruleSpecializeSpec : ChangeSpec := { name := "ruleSpecialize", fn := fun _ => fun
  | [d1, d2, d3] => { results := [.lit (.bool true)], args := [d1, d2, d3] }
  | _ => none }
def ruleSpecializeRow : OpenClaim := { program := "ytpnfoacmgfklaaagreat", sum := "20bbed5b8612262300a96be479c49d905c3eea7046d6a6d4f411136d16ca8b2d", func := "scarfjoint/scarfjointlaw24.RuleSpecialize", spec := "ruleSpecialize", inPlace := ["internal/bytealg.IndexByteString"], unfollowed := true, recurses := true, loops := true, apart := false }
def RuleSpecializeSaid : Prop := ruleSpecializeRow.holds Tryz.pinned (OpenSpec.ofChange ruleSpecializeSpec)

/-- ITS FALSE NEIGHBOUR: 'it returns false'. Refute it at one input. -/
def ruleSpecializeWrong : ChangeSpec := { name := "ruleSpecialize", fn := fun _ => fun
  | [d1, d2, d3] => { results := [.lit (.bool false)], args := [d1, d2, d3] }
  | _ => none }
def RuleSpecializeWrongFalsely : Prop := ruleSpecializeRow.holds Tryz.pinned (OpenSpec.ofChange ruleSpecializeWrong)

/-- 'scarfjointlaw24.RuleSpecial': WHATEVER THE INPUT: true; the input reads as it did. -/
def ruleSpecialSpec : ChangeSpec := { name := "ruleSpecial", fn := fun _ => fun
  | [d1, d2, d3] => { results := [.lit (.bool true)], args := [d1, d2, d3] }
  | _ => none }
def ruleSpecialRow : OpenClaim := { program := "ytpnfoacmgfklaaagreat", sum := "20bbed5b8612262300a96be479c49d905c3eea7046d6a6d4f411136d16ca8b2d", func := "scarfjoint/scarfjointlaw24.RuleSpecial", spec := "ruleSpecial", inPlace := ["internal/bytealg.IndexByteString"], unfollowed := true, recurses := true, apart := false }
def RuleSpecialSaid : Prop := ruleSpecialRow.holds Tryz.pinned (OpenSpec.ofChange ruleSpecialSpec)

/-- ITS FALSE NEIGHBOUR: 'it returns false'. Refute it at one input. -/
def ruleSpecialWrong : ChangeSpec := { name := "ruleSpecial", fn := fun _ => fun
  | [d1, d2, d3] => { results := [.lit (.bool false)], args := [d1, d2, d3] }
  | _ => none }
def RuleSpecialWrongFalsely : Prop := ruleSpecialRow.holds Tryz.pinned (OpenSpec.ofChange ruleSpecialWrong)

/- THE SECOND FORM. 'bulk': how many values and letters a reading holds, each counted each time it is reached (what is shared counts as often as it is met; a slice's spare places count too). A statement '..UptoSaid' is the law's where the arguments, and the package variables that the reading takes, are together of bulk at most 1048576: NARROWER than '..Said'. Prove '..Said' where nothing that the law and all that it calls make is longer than what came in: it says more and counts as full. Else prove '..UptoSaid'. A law counts once. -/
mutual
def uptoBulk {H : Type} : DataW H → Nat
  | .lit (.string bytes) => bytes.length + 1
  | .lit _ => 1
  | .nil => 1
  | .ptr d => uptoBulk d + 1
  | .slice elems spare => uptoBulkAll elems + uptoBulkAll spare + 1
  | .agg parts => uptoBulkAll parts + 1
  | .iface _ d => uptoBulk d + 1
  | .map entries => uptoBulkEntries entries + 1
  | .held _ => 1
def uptoBulkAll {H : Type} : List (DataW H) → Nat
  | [] => 0
  | d :: r => uptoBulk d + uptoBulkAll r
def uptoBulkEntries {H : Type} : List (Lit × DataW H) → Nat
  | [] => 0
  | x :: r => uptoBulkEntry x + uptoBulkEntries r
def uptoBulkEntry {H : Type} : Lit × DataW H → Nat
  | (.string bytes, d) => bytes.length + uptoBulk d + 1
  | (_, d) => uptoBulk d + 1
 end
def uptoSmall : (H : Type) → List (DataW H) → Bool := fun _ ds => decide (uptoBulkAll ds ≤ 1048576)
def OpenSpec.upto (s : _root_.Go.ChangeSpec) : _root_.Go.OpenSpec := { _root_.Go.OpenSpec.ofChange s with cond := some uptoSmall }

/-- 'scarfjointlaw24.RulePlain', WHERE WHAT IT READS IS OF BULK AT MOST 1048576: true; the input reads as it did. -/
def rulePlainUptoRow : OpenClaim := { program := "ytpnfoacmgfklaaagreat", sum := "20bbed5b8612262300a96be479c49d905c3eea7046d6a6d4f411136d16ca8b2d", func := "scarfjoint/scarfjointlaw24.RulePlain", spec := "rulePlain", inPlace := ["internal/bytealg.IndexByteString"], unfollowed := true, recurses := true, loops := true, apart := false, narrowed := true }
def RulePlainUptoSaid : Prop := rulePlainUptoRow.holds Tryz.pinned (OpenSpec.upto rulePlainSpec)

/-- 'scarfjointlaw24.RuleSame', WHERE WHAT IT READS IS OF BULK AT MOST 1048576: true; the input reads as it did. -/
def ruleSameUptoRow : OpenClaim := { program := "ytpnfoacmgfklaaagreat", sum := "20bbed5b8612262300a96be479c49d905c3eea7046d6a6d4f411136d16ca8b2d", func := "scarfjoint/scarfjointlaw24.RuleSame", spec := "ruleSame", inPlace := ["internal/bytealg.IndexByteString"], unfollowed := true, recurses := true, loops := true, apart := false, narrowed := true }
def RuleSameUptoSaid : Prop := ruleSameUptoRow.holds Tryz.pinned (OpenSpec.upto ruleSameSpec)

/-- 'scarfjointlaw24.RuleTwice', WHERE WHAT IT READS IS OF BULK AT MOST 1048576: true; the input reads as it did. -/
def ruleTwiceUptoRow : OpenClaim := { program := "ytpnfoacmgfklaaagreat", sum := "20bbed5b8612262300a96be479c49d905c3eea7046d6a6d4f411136d16ca8b2d", func := "scarfjoint/scarfjointlaw24.RuleTwice", spec := "ruleTwice", inPlace := ["internal/bytealg.IndexByteString"], unfollowed := true, recurses := true, apart := false, narrowed := true }
def RuleTwiceUptoSaid : Prop := ruleTwiceUptoRow.holds Tryz.pinned (OpenSpec.upto ruleTwiceSpec)

/-- 'scarfjointlaw24.RuleSpecialize', WHERE WHAT IT READS IS OF BULK AT MOST 1048576: true; the input reads as it did. -/
def ruleSpecializeUptoRow : OpenClaim := { program := "ytpnfoacmgfklaaagreat", sum := "20bbed5b8612262300a96be479c49d905c3eea7046d6a6d4f411136d16ca8b2d", func := "scarfjoint/scarfjointlaw24.RuleSpecialize", spec := "ruleSpecialize", inPlace := ["internal/bytealg.IndexByteString"], unfollowed := true, recurses := true, loops := true, apart := false, narrowed := true }
def RuleSpecializeUptoSaid : Prop := ruleSpecializeUptoRow.holds Tryz.pinned (OpenSpec.upto ruleSpecializeSpec)

/-- 'scarfjointlaw24.RuleSpecial', WHERE WHAT IT READS IS OF BULK AT MOST 1048576: true; the input reads as it did. -/
def ruleSpecialUptoRow : OpenClaim := { program := "ytpnfoacmgfklaaagreat", sum := "20bbed5b8612262300a96be479c49d905c3eea7046d6a6d4f411136d16ca8b2d", func := "scarfjoint/scarfjointlaw24.RuleSpecial", spec := "ruleSpecial", inPlace := ["internal/bytealg.IndexByteString"], unfollowed := true, recurses := true, apart := false, narrowed := true }
def RuleSpecialUptoSaid : Prop := ruleSpecialUptoRow.holds Tryz.pinned (OpenSpec.upto ruleSpecialSpec)

end Rows
end Go.Proofs.YtpnfoacmgfklaaaGreat
