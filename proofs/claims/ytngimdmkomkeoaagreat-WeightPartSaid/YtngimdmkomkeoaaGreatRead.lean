import Derived.Test.YtngimdmkomkeoaaGreatTypes
import Derived.Test.YtngimdmkomkeoaaGreatFacts
import Derived.Test.YtngimdmkomkeoaaGreatReadW
set_option linter.unusedVariables false
set_option maxRecDepth 100000
namespace Go.Proofs.YtngimdmkomkeoaaGreat.K
open Go.RowKit Go.Proofs
instance : Sm db := ⟨fun x => Sm.sm x.Name ∧ Sm.sm x.From ∧ Sm.sm x.To ∧ Sm.sm x.OutLow ∧ Sm.sm x.OutHigh ∧ Sm.sm x.InLow ∧ Sm.sm x.InHigh ∧ True⟩
instance : Sm aW := ⟨fun x => Sm.sm x.Name ∧ Sm.sm x.Low ∧ Sm.sm x.High ∧ Sm.sm x.Names ∧ True⟩
instance : Sm bR := ⟨fun x => Sm.sm x.Name ∧ Sm.sm x.Parent ∧ Sm.sm x.Abstract ∧ Sm.sm x.Attrs ∧ True⟩
instance : Sm aq := ⟨fun x => Sm.sm x.Nodes ∧ Sm.sm x.Edges ∧ True⟩
instance : Sm cH := ⟨fun x => Sm.sm x.Var ∧ Sm.sm x.Add ∧ True⟩
instance : Sm dP := ⟨fun x => Sm.sm x.Kind ∧ Sm.sm x.Left ∧ Sm.sm x.Right ∧ True⟩
instance : Sm bU := ⟨fun x => Sm.sm x.Node ∧ Sm.sm x.Attr ∧ Sm.sm x.Term ∧ True⟩
instance : Sm ba := ⟨fun x => Sm.sm x.Type_ ∧ Sm.sm x.From ∧ Sm.sm x.To ∧ True⟩
instance : Sm ar := ⟨fun x => Sm.sm x.Nodes ∧ Sm.sm x.Edges ∧ True⟩
instance : Sm aJ := ⟨fun x => Sm.sm x.Graph ∧ Sm.sm x.Slots ∧ Sm.sm x.Vars ∧ Sm.sm x.Tests ∧ True⟩
instance : Sm aS := ⟨fun x => Sm.sm x.Nodes ∧ Sm.sm x.Edges ∧ True⟩
inductive yy : az → Prop
  | mk {x : az} (h0 : Sm.sm x.Kind) (h1 : (x.Kids.length : Int) ≤ kY) (k1 : ∀ k ∈ x.Kids, yy k) (h2 : Sm.sm x.Map) (h3 : Sm.sm x.Pattern) : yy x
instance : Sm az := ⟨yy⟩
instance : Sm cM := ⟨fun x => Sm.sm x.Nodes ∧ Sm.sm x.Edges ∧ True⟩
instance : Sm be := ⟨fun x => Sm.sm x.Name ∧ Sm.sm x.Left ∧ Sm.sm x.Right ∧ Sm.sm x.Keep ∧ Sm.sm x.Into ∧ Sm.sm x.Injective ∧ Sm.sm x.Condition ∧ True⟩
instance : Sm tB := ⟨fun x => Sm.sm x.e0 ∧ Sm.sm x.e1 ∧ True⟩
instance : Sm iB := ⟨fun x => Sm.sm x.e0 ∧ Sm.sm x.e1 ∧ Sm.sm x.e2 ∧ Sm.sm x.e3 ∧ True⟩
theorem Ld {H : Type} {enc : TypeId × Value → H} {w : World} (n : Nat) : cD enc PP w 130 j4 n := by
  cases n with
  | zero => exact cD.zero
  | succ n =>
    have h := sA (enc := enc) (P := PP) (w := w) (n := n) (T := 130) (ne := 4) (e := 5) (tot := 4) (by kernel_rfl) (by kernel_rfl) (dQ (enc := enc) (P := PP) (w := w) (n := n) (T := 5) (off := 0) (k := 1) (by kernel_rfl) (fx (T := 5) (k := .u8) (by kernel_rfl) n) (dQ (enc := enc) (P := PP) (w := w) (n := n) (T := 5) (off := 1) (k := 1) (by kernel_rfl) (fx (T := 5) (k := .u8) (by kernel_rfl) n) (dQ (enc := enc) (P := PP) (w := w) (n := n) (T := 5) (off := 2) (k := 1) (by kernel_rfl) (fx (T := 5) (k := .u8) (by kernel_rfl) n) (dQ (enc := enc) (P := PP) (w := w) (n := n) (T := 5) (off := 3) (k := 1) (by kernel_rfl) (fx (T := 5) (k := .u8) (by kernel_rfl) n) kC))))
    exact h.as (fun p : Int × Int × Int × Int × Unit => iB.mk p.1 p.2.1 p.2.2.1 p.2.2.2.1) (fun p => rfl) (fun p h => h)
instance : Sm f5 := ⟨fun x => Sm.sm x.e0 ∧ Sm.sm x.e1 ∧ Sm.sm x.e2 ∧ True⟩
theorem ti {H : Type} {enc : TypeId × Value → H} {w : World} (n : Nat) : cD enc PP w 209 bJ n := by
  cases n with
  | zero => exact cD.zero
  | succ n =>
    have h := sA (enc := enc) (P := PP) (w := w) (n := n) (T := 209) (ne := 3) (e := 5) (tot := 3) (by kernel_rfl) (by kernel_rfl) (dQ (enc := enc) (P := PP) (w := w) (n := n) (T := 5) (off := 0) (k := 1) (by kernel_rfl) (fx (T := 5) (k := .u8) (by kernel_rfl) n) (dQ (enc := enc) (P := PP) (w := w) (n := n) (T := 5) (off := 1) (k := 1) (by kernel_rfl) (fx (T := 5) (k := .u8) (by kernel_rfl) n) (dQ (enc := enc) (P := PP) (w := w) (n := n) (T := 5) (off := 2) (k := 1) (by kernel_rfl) (fx (T := 5) (k := .u8) (by kernel_rfl) n) kC)))
    exact h.as (fun p : Int × Int × Int × Unit => f5.mk p.1 p.2.1 p.2.2.1) (fun p => rfl) (fun p h => h)
instance : Sm iX := ⟨fun x => Sm.sm x.e0 ∧ Sm.sm x.e1 ∧ Sm.sm x.e2 ∧ Sm.sm x.e3 ∧ True⟩
theorem Lc {H : Type} {enc : TypeId × Value → H} {w : World} (n : Nat) : cD enc PP w 212 eK n := by
  cases n with
  | zero => exact cD.zero
  | succ n =>
    have h := sA (enc := enc) (P := PP) (w := w) (n := n) (T := 212) (ne := 4) (e := 211) (tot := 4) (by kernel_rfl) (by kernel_rfl) (dQ (enc := enc) (P := PP) (w := w) (n := n) (T := 211) (off := 0) (k := 1) (by kernel_rfl) (fx (T := 211) (k := .i8) (by kernel_rfl) n) (dQ (enc := enc) (P := PP) (w := w) (n := n) (T := 211) (off := 1) (k := 1) (by kernel_rfl) (fx (T := 211) (k := .i8) (by kernel_rfl) n) (dQ (enc := enc) (P := PP) (w := w) (n := n) (T := 211) (off := 2) (k := 1) (by kernel_rfl) (fx (T := 211) (k := .i8) (by kernel_rfl) n) (dQ (enc := enc) (P := PP) (w := w) (n := n) (T := 211) (off := 3) (k := 1) (by kernel_rfl) (fx (T := 211) (k := .i8) (by kernel_rfl) n) kC))))
    exact h.as (fun p : Int × Int × Int × Int × Unit => iX.mk p.1 p.2.1 p.2.2.1 p.2.2.2.1) (fun p => rfl) (fun p h => h)
instance : Sm g9 := ⟨fun x => Sm.sm x.Nodes ∧ Sm.sm x.Edges ∧ True⟩
theorem LP {H : Type} {enc : TypeId × Value → H} {w : World} (n : Nat) : cD enc PP w 125 fK n := by
  cases n with
  | zero => exact cD.zero
  | succ n =>
    have h := sL (enc := enc) (P := PP) (w := w) (n := n) (T := 125) (fs := [(122, 0), (123, 1)]) (tot := 2) (by kernel_rfl) (by kernel_rfl) (dQ (enc := enc) (P := PP) (w := w) (n := n) (T := 122) (off := 0) (k := 1) (by kernel_rfl) (cD.cL (cD.weak (iC (e := 5) (c := cj) (by kernel_rfl) (by kernel_rfl) (by decide) (by kernel_rfl) (fx (T := 5) (k := .u8) (by kernel_rfl) n)))) (dQ (enc := enc) (P := PP) (w := w) (n := n) (T := 123) (off := 1) (k := 1) (by kernel_rfl) (cD.cL (cD.weak (iC (e := 209) (c := bJ) (by kernel_rfl) (by kernel_rfl) (by decide) (by kernel_rfl) (ti n)))) kC))
    exact h.as (fun p : (List Int) × (List f5) × Unit => g9.mk p.1 p.2.1) (fun p => rfl) (fun p h => h)
instance : Sm gv := ⟨fun x => Sm.sm x.Graph ∧ Sm.sm x.Slots ∧ Sm.sm x.Tests ∧ True⟩
theorem LQ {H : Type} {enc : TypeId × Value → H} {w : World} (n : Nat) : cD enc PP w 128 gf n := by
  cases n with
  | zero => exact cD.zero
  | succ n =>
    have h := sL (enc := enc) (P := PP) (w := w) (n := n) (T := 128) (fs := [(125, 0), (123, 2), (126, 3)]) (tot := 4) (by kernel_rfl) (by kernel_rfl) (dQ (enc := enc) (P := PP) (w := w) (n := n) (T := 125) (off := 0) (k := 2) (by kernel_rfl) (LP n) (dQ (enc := enc) (P := PP) (w := w) (n := n) (T := 123) (off := 2) (k := 1) (by kernel_rfl) (cD.cL (cD.weak (iC (e := 209) (c := bJ) (by kernel_rfl) (by kernel_rfl) (by decide) (by kernel_rfl) (ti n)))) (dQ (enc := enc) (P := PP) (w := w) (n := n) (T := 126) (off := 3) (k := 1) (by kernel_rfl) (cD.cL (cD.weak (iC (e := 212) (c := eK) (by kernel_rfl) (by kernel_rfl) (by decide) (by kernel_rfl) (Lc n)))) kC)))
    exact h.as (fun p : g9 × (List f5) × (List iX) × Unit => gv.mk p.1 p.2.1 p.2.2.1) (fun p => rfl) (fun p h => h)
instance : Sm f6 := ⟨fun x => Sm.sm x.Left ∧ Sm.sm x.Keep ∧ Sm.sm x.Nodes ∧ Sm.sm x.Edges ∧ Sm.sm x.Slots ∧ Sm.sm x.Plain ∧ Sm.sm x.Injective ∧ Sm.sm x.Forbid ∧ Sm.sm x.Order ∧ True⟩
theorem LR {H : Type} {enc : TypeId × Value → H} {w : World} (n : Nat) : cD enc PP w 132 dI n := by
  cases n with
  | zero => exact cD.zero
  | succ n =>
    have h := sL (enc := enc) (P := PP) (w := w) (n := n) (T := 132) (fs := [(128, 0), (129, 4), (122, 5), (123, 6), (123, 7), (4, 8), (4, 9), (130, 10), (122, 14)]) (tot := 15) (by kernel_rfl) (by kernel_rfl) (dQ (enc := enc) (P := PP) (w := w) (n := n) (T := 128) (off := 0) (k := 4) (by kernel_rfl) (LQ n) (dQ (enc := enc) (P := PP) (w := w) (n := n) (T := 129) (off := 4) (k := 1) (by kernel_rfl) (fx (T := 129) (k := .u64) (by kernel_rfl) n) (dQ (enc := enc) (P := PP) (w := w) (n := n) (T := 122) (off := 5) (k := 1) (by kernel_rfl) (cD.cL (cD.weak (iC (e := 5) (c := cj) (by kernel_rfl) (by kernel_rfl) (by decide) (by kernel_rfl) (fx (T := 5) (k := .u8) (by kernel_rfl) n)))) (dQ (enc := enc) (P := PP) (w := w) (n := n) (T := 123) (off := 6) (k := 1) (by kernel_rfl) (cD.cL (cD.weak (iC (e := 209) (c := bJ) (by kernel_rfl) (by kernel_rfl) (by decide) (by kernel_rfl) (ti n)))) (dQ (enc := enc) (P := PP) (w := w) (n := n) (T := 123) (off := 7) (k := 1) (by kernel_rfl) (cD.cL (cD.weak (iC (e := 209) (c := bJ) (by kernel_rfl) (by kernel_rfl) (by decide) (by kernel_rfl) (ti n)))) (dQ (enc := enc) (P := PP) (w := w) (n := n) (T := 4) (off := 8) (k := 1) (by kernel_rfl) (BX (T := 4) (by kernel_rfl) n) (dQ (enc := enc) (P := PP) (w := w) (n := n) (T := 4) (off := 9) (k := 1) (by kernel_rfl) (BX (T := 4) (by kernel_rfl) n) (dQ (enc := enc) (P := PP) (w := w) (n := n) (T := 130) (off := 10) (k := 4) (by kernel_rfl) (Ld n) (dQ (enc := enc) (P := PP) (w := w) (n := n) (T := 122) (off := 14) (k := 1) (by kernel_rfl) (cD.cL (cD.weak (iC (e := 5) (c := cj) (by kernel_rfl) (by kernel_rfl) (by decide) (by kernel_rfl) (fx (T := 5) (k := .u8) (by kernel_rfl) n)))) kC)))))))))
    exact h.as (fun p : gv × Int × (List Int) × (List f5) × (List f5) × Bool × Bool × iB × (List Int) × Unit => f6.mk p.1 p.2.1 p.2.2.1 p.2.2.2.1 p.2.2.2.2.1 p.2.2.2.2.2.1 p.2.2.2.2.2.2.1 p.2.2.2.2.2.2.2.1 p.2.2.2.2.2.2.2.2.1) (fun p => rfl) (fun p h => h)
instance : Sm dY := ⟨fun x => Sm.sm x.e0 ∧ Sm.sm x.e1 ∧ True⟩
theorem D0 {H : Type} {enc : TypeId × Value → H} {w : World} (n : Nat) : cD enc PP w 120 cw n := by
  cases n with
  | zero => exact cD.zero
  | succ n =>
    have h := sA (enc := enc) (P := PP) (w := w) (n := n) (T := 120) (ne := 2) (e := 5) (tot := 2) (by kernel_rfl) (by kernel_rfl) (dQ (enc := enc) (P := PP) (w := w) (n := n) (T := 5) (off := 0) (k := 1) (by kernel_rfl) (fx (T := 5) (k := .u8) (by kernel_rfl) n) (dQ (enc := enc) (P := PP) (w := w) (n := n) (T := 5) (off := 1) (k := 1) (by kernel_rfl) (fx (T := 5) (k := .u8) (by kernel_rfl) n) kC))
    exact h.as (fun p : Int × Int × Unit => dY.mk p.1 p.2.1) (fun p => rfl) (fun p h => h)
instance : Sm jP := ⟨fun x => Sm.sm x.Nodes ∧ Sm.sm x.Edges ∧ Sm.sm x.Rules ∧ True⟩
theorem M5 {H : Type} {enc : TypeId × Value → H} {w : World} (n : Nat) : cD enc PP w 58 jc n := by
  cases n with
  | zero => exact cD.zero
  | succ n =>
    have h := sL (enc := enc) (P := PP) (w := w) (n := n) (T := 58) (fs := [(55, 0), (55, 1), (56, 2)]) (tot := 3) (by kernel_rfl) (by kernel_rfl) (dQ (enc := enc) (P := PP) (w := w) (n := n) (T := 55) (off := 0) (k := 1) (by kernel_rfl) (cD.cL (cD.weak (iC (e := 120) (c := cw) (by kernel_rfl) (by kernel_rfl) (by decide) (by kernel_rfl) (D0 n)))) (dQ (enc := enc) (P := PP) (w := w) (n := n) (T := 55) (off := 1) (k := 1) (by kernel_rfl) (cD.cL (cD.weak (iC (e := 120) (c := cw) (by kernel_rfl) (by kernel_rfl) (by decide) (by kernel_rfl) (D0 n)))) (dQ (enc := enc) (P := PP) (w := w) (n := n) (T := 56) (off := 2) (k := 1) (by kernel_rfl) (cD.cL (cD.weak (iC (e := 132) (c := dI) (by kernel_rfl) (by kernel_rfl) (by decide) (by kernel_rfl) (LR n)))) kC)))
    exact h.as (fun p : (List dY) × (List dY) × (List f6) × Unit => jP.mk p.1 p.2.1 p.2.2.1) (fun p => rfl) (fun p h => h)
end Go.Proofs.YtngimdmkomkeoaaGreat.K
