/- How the arguments of the laws are read. -/
import Derived.Test.YtngimdmkomkeoaaGreatTypes
import Derived.Test.YtngimdmkomkeoaaGreatFacts
import Derived.Test.YtngimdmkomkeoaaGreatReadW
set_option linter.unusedVariables false
set_option maxRecDepth 100000
namespace Go.Proofs.YtngimdmkomkeoaaGreat.K
open Go.RowKit Go.Proofs
instance : Sm z1g := ⟨fun x => Sm.sm x.Name ∧ Sm.sm x.From ∧ Sm.sm x.To ∧ Sm.sm x.OutLow ∧ Sm.sm x.OutHigh ∧ Sm.sm x.InLow ∧ Sm.sm x.InHigh ∧ True⟩
theorem rd_api_EdgeType {H : Type} {enc : TypeId × Value → H} {w : World} (n : Nat) : Rds enc PP w 102 z0c n := by
  cases n with
  | zero => exact Rds.zero
  | succ n =>
    have h := z4e (enc := enc) (P := PP) (w := w) (n := n) (T := 102) (fs := [(9, 0), (3, 1), (3, 2), (3, 3), (3, 4), (3, 5), (3, 6)]) (tot := 7) (by kernel_rfl) (by kernel_rfl) (z1n (enc := enc) (P := PP) (w := w) (n := n) (T := 9) (off := 0) (k := 1) (by kernel_rfl) (rds_str (T := 9) (by kernel_rfl) n) (z1n (enc := enc) (P := PP) (w := w) (n := n) (T := 3) (off := 1) (k := 1) (by kernel_rfl) (z4b (T := 3) (k := .i64) (by kernel_rfl) n) (z1n (enc := enc) (P := PP) (w := w) (n := n) (T := 3) (off := 2) (k := 1) (by kernel_rfl) (z4b (T := 3) (k := .i64) (by kernel_rfl) n) (z1n (enc := enc) (P := PP) (w := w) (n := n) (T := 3) (off := 3) (k := 1) (by kernel_rfl) (z4b (T := 3) (k := .i64) (by kernel_rfl) n) (z1n (enc := enc) (P := PP) (w := w) (n := n) (T := 3) (off := 4) (k := 1) (by kernel_rfl) (z4b (T := 3) (k := .i64) (by kernel_rfl) n) (z1n (enc := enc) (P := PP) (w := w) (n := n) (T := 3) (off := 5) (k := 1) (by kernel_rfl) (z4b (T := 3) (k := .i64) (by kernel_rfl) n) (z1n (enc := enc) (P := PP) (w := w) (n := n) (T := 3) (off := 6) (k := 1) (by kernel_rfl) (z4b (T := 3) (k := .i64) (by kernel_rfl) n) z6c)))))))
    exact h.as (fun p : ByteArray × Int × Int × Int × Int × Int × Int × Unit => z1g.mk p.1 p.2.1 p.2.2.1 p.2.2.2.1 p.2.2.2.2.1 p.2.2.2.2.2.1 p.2.2.2.2.2.2.1) (fun p => rfl) (fun p h => h)
instance : Sm z0r := ⟨fun x => Sm.sm x.Name ∧ Sm.sm x.Low ∧ Sm.sm x.High ∧ Sm.sm x.Names ∧ True⟩
theorem rd_api_Attr {H : Type} {enc : TypeId × Value → H} {w : World} (n : Nat) : Rds enc PP w 100 z08 n := by
  cases n with
  | zero => exact Rds.zero
  | succ n =>
    have h := z4e (enc := enc) (P := PP) (w := w) (n := n) (T := 100) (fs := [(9, 0), (3, 1), (3, 2), (98, 3)]) (tot := 4) (by kernel_rfl) (by kernel_rfl) (z1n (enc := enc) (P := PP) (w := w) (n := n) (T := 9) (off := 0) (k := 1) (by kernel_rfl) (rds_str (T := 9) (by kernel_rfl) n) (z1n (enc := enc) (P := PP) (w := w) (n := n) (T := 3) (off := 1) (k := 1) (by kernel_rfl) (z4b (T := 3) (k := .i64) (by kernel_rfl) n) (z1n (enc := enc) (P := PP) (w := w) (n := n) (T := 3) (off := 2) (k := 1) (by kernel_rfl) (z4b (T := 3) (k := .i64) (by kernel_rfl) n) (z1n (enc := enc) (P := PP) (w := w) (n := n) (T := 98) (off := 3) (k := 1) (by kernel_rfl) (Rds.cL (Rds.weak (z4l (e := 9) (c := z23) (by kernel_rfl) (by kernel_rfl) (by decide) (by kernel_rfl) (rds_str (T := 9) (by kernel_rfl) n)))) z6c))))
    exact h.as (fun p : ByteArray × Int × Int × (List ByteArray) × Unit => z0r.mk p.1 p.2.1 p.2.2.1 p.2.2.2.1) (fun p => rfl) (fun p h => h)
instance : Sm z15 := ⟨fun x => Sm.sm x.Name ∧ Sm.sm x.Parent ∧ Sm.sm x.Abstract ∧ Sm.sm x.Attrs ∧ True⟩
theorem rd_api_NodeType {H : Type} {enc : TypeId × Value → H} {w : World} (n : Nat) : Rds enc PP w 97 z03 n := by
  cases n with
  | zero => exact Rds.zero
  | succ n =>
    have h := z4e (enc := enc) (P := PP) (w := w) (n := n) (T := 97) (fs := [(9, 0), (3, 1), (4, 2), (95, 3)]) (tot := 4) (by kernel_rfl) (by kernel_rfl) (z1n (enc := enc) (P := PP) (w := w) (n := n) (T := 9) (off := 0) (k := 1) (by kernel_rfl) (rds_str (T := 9) (by kernel_rfl) n) (z1n (enc := enc) (P := PP) (w := w) (n := n) (T := 3) (off := 1) (k := 1) (by kernel_rfl) (z4b (T := 3) (k := .i64) (by kernel_rfl) n) (z1n (enc := enc) (P := PP) (w := w) (n := n) (T := 4) (off := 2) (k := 1) (by kernel_rfl) (rds_bool (T := 4) (by kernel_rfl) n) (z1n (enc := enc) (P := PP) (w := w) (n := n) (T := 95) (off := 3) (k := 1) (by kernel_rfl) (Rds.cL (Rds.weak (z4l (e := 100) (c := z08) (by kernel_rfl) (by kernel_rfl) (by decide) (by kernel_rfl) (rd_api_Attr n)))) z6c))))
    exact h.as (fun p : ByteArray × Int × Bool × (List z0r) × Unit => z15.mk p.1 p.2.1 p.2.2.1 p.2.2.2.1) (fun p => rfl) (fun p h => h)
instance : Sm z06 := ⟨fun x => Sm.sm x.Nodes ∧ Sm.sm x.Edges ∧ True⟩
theorem rd_api_Types {H : Type} {enc : TypeId × Value → H} {w : World} (n : Nat) : Rds enc PP w 25 z02 n := by
  cases n with
  | zero => exact Rds.zero
  | succ n =>
    have h := z4e (enc := enc) (P := PP) (w := w) (n := n) (T := 25) (fs := [(22, 0), (23, 1)]) (tot := 2) (by kernel_rfl) (by kernel_rfl) (z1n (enc := enc) (P := PP) (w := w) (n := n) (T := 22) (off := 0) (k := 1) (by kernel_rfl) (Rds.cL (Rds.weak (z4l (e := 97) (c := z03) (by kernel_rfl) (by kernel_rfl) (by decide) (by kernel_rfl) (rd_api_NodeType n)))) (z1n (enc := enc) (P := PP) (w := w) (n := n) (T := 23) (off := 1) (k := 1) (by kernel_rfl) (Rds.cL (Rds.weak (z4l (e := 102) (c := z0c) (by kernel_rfl) (by kernel_rfl) (by decide) (by kernel_rfl) (rd_api_EdgeType n)))) z6c))
    exact h.as (fun p : (List z15) × (List z1g) × Unit => z06.mk p.1 p.2.1) (fun p => rfl) (fun p h => h)
instance : Sm z4i := ⟨fun x => Sm.sm x.Var ∧ Sm.sm x.Add ∧ True⟩
theorem rd_api_Term {H : Type} {enc : TypeId × Value → H} {w : World} (n : Nat) : Rds enc PP w 154 z2s n := by
  cases n with
  | zero => exact Rds.zero
  | succ n =>
    have h := z4e (enc := enc) (P := PP) (w := w) (n := n) (T := 154) (fs := [(3, 0), (3, 1)]) (tot := 2) (by kernel_rfl) (by kernel_rfl) (z1n (enc := enc) (P := PP) (w := w) (n := n) (T := 3) (off := 0) (k := 1) (by kernel_rfl) (z4b (T := 3) (k := .i64) (by kernel_rfl) n) (z1n (enc := enc) (P := PP) (w := w) (n := n) (T := 3) (off := 1) (k := 1) (by kernel_rfl) (z4b (T := 3) (k := .i64) (by kernel_rfl) n) z6c))
    exact h.as (fun p : Int × Int × Unit => z4i.mk p.1 p.2.1) (fun p => rfl) (fun p h => h)
instance : Sm z3x := ⟨fun x => Sm.sm x.Kind ∧ Sm.sm x.Left ∧ Sm.sm x.Right ∧ True⟩
theorem rd_api_Test {H : Type} {enc : TypeId × Value → H} {w : World} (n : Nat) : Rds enc PP w 200 z13 n := by
  cases n with
  | zero => exact Rds.zero
  | succ n =>
    have h := z4e (enc := enc) (P := PP) (w := w) (n := n) (T := 200) (fs := [(3, 0), (154, 1), (154, 3)]) (tot := 5) (by kernel_rfl) (by kernel_rfl) (z1n (enc := enc) (P := PP) (w := w) (n := n) (T := 3) (off := 0) (k := 1) (by kernel_rfl) (z4b (T := 3) (k := .i64) (by kernel_rfl) n) (z1n (enc := enc) (P := PP) (w := w) (n := n) (T := 154) (off := 1) (k := 2) (by kernel_rfl) (rd_api_Term n) (z1n (enc := enc) (P := PP) (w := w) (n := n) (T := 154) (off := 3) (k := 2) (by kernel_rfl) (rd_api_Term n) z6c)))
    exact h.as (fun p : Int × z4i × z4i × Unit => z3x.mk p.1 p.2.1 p.2.2.1) (fun p => rfl) (fun p h => h)
instance : Sm z38 := ⟨fun x => Sm.sm x.Node ∧ Sm.sm x.Attr ∧ Sm.sm x.Term ∧ True⟩
theorem rd_api_Slot {H : Type} {enc : TypeId × Value → H} {w : World} (n : Nat) : Rds enc PP w 156 z0l n := by
  cases n with
  | zero => exact Rds.zero
  | succ n =>
    have h := z4e (enc := enc) (P := PP) (w := w) (n := n) (T := 156) (fs := [(3, 0), (3, 1), (154, 2)]) (tot := 4) (by kernel_rfl) (by kernel_rfl) (z1n (enc := enc) (P := PP) (w := w) (n := n) (T := 3) (off := 0) (k := 1) (by kernel_rfl) (z4b (T := 3) (k := .i64) (by kernel_rfl) n) (z1n (enc := enc) (P := PP) (w := w) (n := n) (T := 3) (off := 1) (k := 1) (by kernel_rfl) (z4b (T := 3) (k := .i64) (by kernel_rfl) n) (z1n (enc := enc) (P := PP) (w := w) (n := n) (T := 154) (off := 2) (k := 2) (by kernel_rfl) (rd_api_Term n) z6c)))
    exact h.as (fun p : Int × Int × z4i × Unit => z38.mk p.1 p.2.1 p.2.2.1) (fun p => rfl) (fun p h => h)
instance : Sm z1e := ⟨fun x => Sm.sm x.Type_ ∧ Sm.sm x.From ∧ Sm.sm x.To ∧ True⟩
theorem rd_api_Edge {H : Type} {enc : TypeId × Value → H} {w : World} (n : Nat) : Rds enc PP w 77 z0b n := by
  cases n with
  | zero => exact Rds.zero
  | succ n =>
    have h := z4e (enc := enc) (P := PP) (w := w) (n := n) (T := 77) (fs := [(3, 0), (3, 1), (3, 2)]) (tot := 3) (by kernel_rfl) (by kernel_rfl) (z1n (enc := enc) (P := PP) (w := w) (n := n) (T := 3) (off := 0) (k := 1) (by kernel_rfl) (z4b (T := 3) (k := .i64) (by kernel_rfl) n) (z1n (enc := enc) (P := PP) (w := w) (n := n) (T := 3) (off := 1) (k := 1) (by kernel_rfl) (z4b (T := 3) (k := .i64) (by kernel_rfl) n) (z1n (enc := enc) (P := PP) (w := w) (n := n) (T := 3) (off := 2) (k := 1) (by kernel_rfl) (z4b (T := 3) (k := .i64) (by kernel_rfl) n) z6c)))
    exact h.as (fun p : Int × Int × Int × Unit => z1e.mk p.1 p.2.1 p.2.2.1) (fun p => rfl) (fun p h => h)
instance : Sm z0p := ⟨fun x => Sm.sm x.Nodes ∧ Sm.sm x.Edges ∧ True⟩
theorem rd_api_Graph {H : Type} {enc : TypeId × Value → H} {w : World} (n : Nat) : Rds enc PP w 29 z07 n := by
  cases n with
  | zero => exact Rds.zero
  | succ n =>
    have h := z4e (enc := enc) (P := PP) (w := w) (n := n) (T := 29) (fs := [(26, 0), (27, 1)]) (tot := 2) (by kernel_rfl) (by kernel_rfl) (z1n (enc := enc) (P := PP) (w := w) (n := n) (T := 26) (off := 0) (k := 1) (by kernel_rfl) (Rds.cL (Rds.weak (z4l (e := 3) (c := z01) (by kernel_rfl) (by kernel_rfl) (by decide) (by kernel_rfl) (z4b (T := 3) (k := .i64) (by kernel_rfl) n)))) (z1n (enc := enc) (P := PP) (w := w) (n := n) (T := 27) (off := 1) (k := 1) (by kernel_rfl) (Rds.cL (Rds.weak (z4l (e := 77) (c := z0b) (by kernel_rfl) (by kernel_rfl) (by decide) (by kernel_rfl) (rd_api_Edge n)))) z6c))
    exact h.as (fun p : (List Int) × (List z1e) × Unit => z0p.mk p.1 p.2.1) (fun p => rfl) (fun p h => h)
instance : Sm z0q := ⟨fun x => Sm.sm x.Graph ∧ Sm.sm x.Slots ∧ Sm.sm x.Vars ∧ Sm.sm x.Tests ∧ True⟩
theorem rd_api_Pattern {H : Type} {enc : TypeId × Value → H} {w : World} (n : Nat) : Rds enc PP w 33 z0a n := by
  cases n with
  | zero => exact Rds.zero
  | succ n =>
    have h := z4e (enc := enc) (P := PP) (w := w) (n := n) (T := 33) (fs := [(29, 0), (30, 2), (3, 3), (31, 4)]) (tot := 5) (by kernel_rfl) (by kernel_rfl) (z1n (enc := enc) (P := PP) (w := w) (n := n) (T := 29) (off := 0) (k := 2) (by kernel_rfl) (rd_api_Graph n) (z1n (enc := enc) (P := PP) (w := w) (n := n) (T := 30) (off := 2) (k := 1) (by kernel_rfl) (Rds.cL (Rds.weak (z4l (e := 156) (c := z0l) (by kernel_rfl) (by kernel_rfl) (by decide) (by kernel_rfl) (rd_api_Slot n)))) (z1n (enc := enc) (P := PP) (w := w) (n := n) (T := 3) (off := 3) (k := 1) (by kernel_rfl) (z4b (T := 3) (k := .i64) (by kernel_rfl) n) (z1n (enc := enc) (P := PP) (w := w) (n := n) (T := 31) (off := 4) (k := 1) (by kernel_rfl) (Rds.cL (Rds.weak (z4l (e := 200) (c := z13) (by kernel_rfl) (by kernel_rfl) (by decide) (by kernel_rfl) (rd_api_Test n)))) z6c))))
    exact h.as (fun p : z0p × (List z38) × Int × (List z3x) × Unit => z0q.mk p.1 p.2.1 p.2.2.1 p.2.2.2.1) (fun p => rfl) (fun p h => h)
instance : Sm z0t := ⟨fun x => Sm.sm x.Nodes ∧ Sm.sm x.Edges ∧ True⟩
theorem rd_api_Morphism {H : Type} {enc : TypeId × Value → H} {w : World} (n : Nat) : Rds enc PP w 36 z0m n := by
  cases n with
  | zero => exact Rds.zero
  | succ n =>
    have h := z4e (enc := enc) (P := PP) (w := w) (n := n) (T := 36) (fs := [(26, 0), (26, 1)]) (tot := 2) (by kernel_rfl) (by kernel_rfl) (z1n (enc := enc) (P := PP) (w := w) (n := n) (T := 26) (off := 0) (k := 1) (by kernel_rfl) (Rds.cL (Rds.weak (z4l (e := 3) (c := z01) (by kernel_rfl) (by kernel_rfl) (by decide) (by kernel_rfl) (z4b (T := 3) (k := .i64) (by kernel_rfl) n)))) (z1n (enc := enc) (P := PP) (w := w) (n := n) (T := 26) (off := 1) (k := 1) (by kernel_rfl) (Rds.cL (Rds.weak (z4l (e := 3) (c := z01) (by kernel_rfl) (by kernel_rfl) (by decide) (by kernel_rfl) (z4b (T := 3) (k := .i64) (by kernel_rfl) n)))) z6c))
    exact h.as (fun p : (List Int) × (List Int) × Unit => z0t.mk p.1 p.2.1) (fun p => rfl) (fun p h => h)
inductive z6j : z05 → Prop
  | mk {x : z05} (h0 : Sm.sm x.Kind) (h1 : (x.Kids.length : Int) ≤ LIM) (k1 : ∀ k ∈ x.Kids, z6j k) (h2 : Sm.sm x.Map) (h3 : Sm.sm x.Pattern) : z6j x
instance : Sm z05 := ⟨z6j⟩
theorem rd_api_Condition {H : Type} {enc : TypeId × Value → H} {w : World} (n : Nat) : Rds enc PP w 39 z04 n := by
  induction n with
  | zero => exact Rds.zero
  | succ n ih =>
    have h := z4e (enc := enc) (P := PP) (w := w) (n := n) (T := 39) (fs := [(3, 0), (37, 1), (36, 2), (33, 4)]) (tot := 9) (by kernel_rfl) (by kernel_rfl) (z1n (enc := enc) (P := PP) (w := w) (n := n) (T := 3) (off := 0) (k := 1) (by kernel_rfl) (z4b (T := 3) (k := .i64) (by kernel_rfl) n) (z1n (enc := enc) (P := PP) (w := w) (n := n) (T := 37) (off := 1) (k := 1) (by kernel_rfl) (Rds.cL (Rds.weak (z4l (e := 39) (c := z04) (by kernel_rfl) (by kernel_rfl) (by decide) (by kernel_rfl) ih))) (z1n (enc := enc) (P := PP) (w := w) (n := n) (T := 36) (off := 2) (k := 2) (by kernel_rfl) (rd_api_Morphism n) (z1n (enc := enc) (P := PP) (w := w) (n := n) (T := 33) (off := 4) (k := 5) (by kernel_rfl) (rd_api_Pattern n) z6c))))
    exact h.as (fun p : Int × (List z05) × z0t × z0q × Unit => z05.mk p.1 p.2.1 p.2.2.1 p.2.2.2.1) (fun p => by rw [c_api_Condition_def]; rfl) (fun p h => z6j.mk h.1 h.2.1.1 h.2.1.2 h.2.2.1 h.2.2.2.1)
instance : Sm z2d := ⟨fun x => Sm.sm x.Nodes ∧ Sm.sm x.Edges ∧ True⟩
theorem rd_api_Part {H : Type} {enc : TypeId × Value → H} {w : World} (n : Nat) : Rds enc PP w 35 z1i n := by
  cases n with
  | zero => exact Rds.zero
  | succ n =>
    have h := z4e (enc := enc) (P := PP) (w := w) (n := n) (T := 35) (fs := [(26, 0), (26, 1)]) (tot := 2) (by kernel_rfl) (by kernel_rfl) (z1n (enc := enc) (P := PP) (w := w) (n := n) (T := 26) (off := 0) (k := 1) (by kernel_rfl) (Rds.cL (Rds.weak (z4l (e := 3) (c := z01) (by kernel_rfl) (by kernel_rfl) (by decide) (by kernel_rfl) (z4b (T := 3) (k := .i64) (by kernel_rfl) n)))) (z1n (enc := enc) (P := PP) (w := w) (n := n) (T := 26) (off := 1) (k := 1) (by kernel_rfl) (Rds.cL (Rds.weak (z4l (e := 3) (c := z01) (by kernel_rfl) (by kernel_rfl) (by decide) (by kernel_rfl) (z4b (T := 3) (k := .i64) (by kernel_rfl) n)))) z6c))
    exact h.as (fun p : (List Int) × (List Int) × Unit => z2d.mk p.1 p.2.1) (fun p => rfl) (fun p h => h)
instance : Sm z10 := ⟨fun x => Sm.sm x.Name ∧ Sm.sm x.Left ∧ Sm.sm x.Right ∧ Sm.sm x.Keep ∧ Sm.sm x.Into ∧ Sm.sm x.Injective ∧ Sm.sm x.Condition ∧ True⟩
theorem rd_api_Rule {H : Type} {enc : TypeId × Value → H} {w : World} (n : Nat) : Rds enc PP w 41 z0g n := by
  cases n with
  | zero => exact Rds.zero
  | succ n =>
    have h := z4e (enc := enc) (P := PP) (w := w) (n := n) (T := 41) (fs := [(9, 0), (33, 1), (33, 6), (35, 11), (36, 13), (4, 15), (39, 16)]) (tot := 25) (by kernel_rfl) (by kernel_rfl) (z1n (enc := enc) (P := PP) (w := w) (n := n) (T := 9) (off := 0) (k := 1) (by kernel_rfl) (rds_str (T := 9) (by kernel_rfl) n) (z1n (enc := enc) (P := PP) (w := w) (n := n) (T := 33) (off := 1) (k := 5) (by kernel_rfl) (rd_api_Pattern n) (z1n (enc := enc) (P := PP) (w := w) (n := n) (T := 33) (off := 6) (k := 5) (by kernel_rfl) (rd_api_Pattern n) (z1n (enc := enc) (P := PP) (w := w) (n := n) (T := 35) (off := 11) (k := 2) (by kernel_rfl) (rd_api_Part n) (z1n (enc := enc) (P := PP) (w := w) (n := n) (T := 36) (off := 13) (k := 2) (by kernel_rfl) (rd_api_Morphism n) (z1n (enc := enc) (P := PP) (w := w) (n := n) (T := 4) (off := 15) (k := 1) (by kernel_rfl) (rds_bool (T := 4) (by kernel_rfl) n) (z1n (enc := enc) (P := PP) (w := w) (n := n) (T := 39) (off := 16) (k := 9) (by kernel_rfl) (rd_api_Condition n) z6c)))))))
    exact h.as (fun p : ByteArray × z0q × z0q × z2d × z0t × Bool × z05 × Unit => z10.mk p.1 p.2.1 p.2.2.1 p.2.2.2.1 p.2.2.2.2.1 p.2.2.2.2.2.1 p.2.2.2.2.2.2.1) (fun p => rfl) (fun p h => h)
instance : Sm z4s := ⟨fun x => Sm.sm x.e0 ∧ Sm.sm x.e1 ∧ True⟩
theorem rd_Arr2_cL1c_i64 {H : Type} {enc : TypeId × Value → H} {w : World} (n : Nat) : Rds enc PP w 52 z5t n := by
  cases n with
  | zero => exact Rds.zero
  | succ n =>
    have h := rds_array (enc := enc) (P := PP) (w := w) (n := n) (T := 52) (ne := 2) (e := 26) (tot := 2) (by kernel_rfl) (by kernel_rfl) (z1n (enc := enc) (P := PP) (w := w) (n := n) (T := 26) (off := 0) (k := 1) (by kernel_rfl) (Rds.cL (Rds.weak (z4l (e := 3) (c := z01) (by kernel_rfl) (by kernel_rfl) (by decide) (by kernel_rfl) (z4b (T := 3) (k := .i64) (by kernel_rfl) n)))) (z1n (enc := enc) (P := PP) (w := w) (n := n) (T := 26) (off := 1) (k := 1) (by kernel_rfl) (Rds.cL (Rds.weak (z4l (e := 3) (c := z01) (by kernel_rfl) (by kernel_rfl) (by decide) (by kernel_rfl) (z4b (T := 3) (k := .i64) (by kernel_rfl) n)))) z6c))
    exact h.as (fun p : (List Int) × (List Int) × Unit => z4s.mk p.1 p.2.1) (fun p => rfl) (fun p h => h)
end Go.Proofs.YtngimdmkomkeoaaGreat.K
