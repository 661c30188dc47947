/- How the arguments of the laws are read. -/
import Derived.Test.YtngimdmkomkeoaaGreatTypes
import Derived.Test.YtngimdmkomkeoaaGreatFacts
import Derived.Test.YtngimdmkomkeoaaGreatReadW
set_option linter.unusedVariables false
set_option maxRecDepth 100000
namespace Go.Proofs.YtngimdmkomkeoaaGreat.K
open Go.RowKit Go.Proofs
instance : Sm api_EdgeType := ⟨fun x => Sm.sm x.Name ∧ Sm.sm x.From ∧ Sm.sm x.To ∧ Sm.sm x.OutLow ∧ Sm.sm x.OutHigh ∧ Sm.sm x.InLow ∧ Sm.sm x.InHigh ∧ True⟩
theorem rd_api_EdgeType {H : Type} {enc : TypeId × Value → H} {w : World} (n : Nat) : Rds enc PP w 102 c_api_EdgeType n := by
  cases n with
  | zero => exact Rds.zero
  | succ n =>
    have h := rds_struct (enc := enc) (P := PP) (w := w) (n := n) (T := 102) (fs := [(9, 0), (3, 1), (3, 2), (3, 3), (3, 4), (3, 5), (3, 6)]) (tot := 7) (by kernel_rfl) (by kernel_rfl) (flds_cons (enc := enc) (P := PP) (w := w) (n := n) (T := 9) (off := 0) (k := 1) (by kernel_rfl) (rds_str (T := 9) (by kernel_rfl) n) (flds_cons (enc := enc) (P := PP) (w := w) (n := n) (T := 3) (off := 1) (k := 1) (by kernel_rfl) (rds_int (T := 3) (k := .i64) (by kernel_rfl) n) (flds_cons (enc := enc) (P := PP) (w := w) (n := n) (T := 3) (off := 2) (k := 1) (by kernel_rfl) (rds_int (T := 3) (k := .i64) (by kernel_rfl) n) (flds_cons (enc := enc) (P := PP) (w := w) (n := n) (T := 3) (off := 3) (k := 1) (by kernel_rfl) (rds_int (T := 3) (k := .i64) (by kernel_rfl) n) (flds_cons (enc := enc) (P := PP) (w := w) (n := n) (T := 3) (off := 4) (k := 1) (by kernel_rfl) (rds_int (T := 3) (k := .i64) (by kernel_rfl) n) (flds_cons (enc := enc) (P := PP) (w := w) (n := n) (T := 3) (off := 5) (k := 1) (by kernel_rfl) (rds_int (T := 3) (k := .i64) (by kernel_rfl) n) (flds_cons (enc := enc) (P := PP) (w := w) (n := n) (T := 3) (off := 6) (k := 1) (by kernel_rfl) (rds_int (T := 3) (k := .i64) (by kernel_rfl) n) flds_nil)))))))
    exact h.as (fun p : ByteArray × Int × Int × Int × Int × Int × Int × Unit => api_EdgeType.mk p.1 p.2.1 p.2.2.1 p.2.2.2.1 p.2.2.2.2.1 p.2.2.2.2.2.1 p.2.2.2.2.2.2.1) (fun p => rfl) (fun p h => h)
instance : Sm api_Attr := ⟨fun x => Sm.sm x.Name ∧ Sm.sm x.Low ∧ Sm.sm x.High ∧ Sm.sm x.Names ∧ True⟩
theorem rd_api_Attr {H : Type} {enc : TypeId × Value → H} {w : World} (n : Nat) : Rds enc PP w 100 c_api_Attr n := by
  cases n with
  | zero => exact Rds.zero
  | succ n =>
    have h := rds_struct (enc := enc) (P := PP) (w := w) (n := n) (T := 100) (fs := [(9, 0), (3, 1), (3, 2), (98, 3)]) (tot := 4) (by kernel_rfl) (by kernel_rfl) (flds_cons (enc := enc) (P := PP) (w := w) (n := n) (T := 9) (off := 0) (k := 1) (by kernel_rfl) (rds_str (T := 9) (by kernel_rfl) n) (flds_cons (enc := enc) (P := PP) (w := w) (n := n) (T := 3) (off := 1) (k := 1) (by kernel_rfl) (rds_int (T := 3) (k := .i64) (by kernel_rfl) n) (flds_cons (enc := enc) (P := PP) (w := w) (n := n) (T := 3) (off := 2) (k := 1) (by kernel_rfl) (rds_int (T := 3) (k := .i64) (by kernel_rfl) n) (flds_cons (enc := enc) (P := PP) (w := w) (n := n) (T := 98) (off := 3) (k := 1) (by kernel_rfl) (Rds.cL (Rds.weak (rds_slice (e := 9) (c := c_str) (by kernel_rfl) (by kernel_rfl) (by decide) (by kernel_rfl) (rds_str (T := 9) (by kernel_rfl) n)))) flds_nil))))
    exact h.as (fun p : ByteArray × Int × Int × (List ByteArray) × Unit => api_Attr.mk p.1 p.2.1 p.2.2.1 p.2.2.2.1) (fun p => rfl) (fun p h => h)
instance : Sm api_NodeType := ⟨fun x => Sm.sm x.Name ∧ Sm.sm x.Parent ∧ Sm.sm x.Abstract ∧ Sm.sm x.Attrs ∧ True⟩
theorem rd_api_NodeType {H : Type} {enc : TypeId × Value → H} {w : World} (n : Nat) : Rds enc PP w 97 c_api_NodeType n := by
  cases n with
  | zero => exact Rds.zero
  | succ n =>
    have h := rds_struct (enc := enc) (P := PP) (w := w) (n := n) (T := 97) (fs := [(9, 0), (3, 1), (4, 2), (95, 3)]) (tot := 4) (by kernel_rfl) (by kernel_rfl) (flds_cons (enc := enc) (P := PP) (w := w) (n := n) (T := 9) (off := 0) (k := 1) (by kernel_rfl) (rds_str (T := 9) (by kernel_rfl) n) (flds_cons (enc := enc) (P := PP) (w := w) (n := n) (T := 3) (off := 1) (k := 1) (by kernel_rfl) (rds_int (T := 3) (k := .i64) (by kernel_rfl) n) (flds_cons (enc := enc) (P := PP) (w := w) (n := n) (T := 4) (off := 2) (k := 1) (by kernel_rfl) (rds_bool (T := 4) (by kernel_rfl) n) (flds_cons (enc := enc) (P := PP) (w := w) (n := n) (T := 95) (off := 3) (k := 1) (by kernel_rfl) (Rds.cL (Rds.weak (rds_slice (e := 100) (c := c_api_Attr) (by kernel_rfl) (by kernel_rfl) (by decide) (by kernel_rfl) (rd_api_Attr n)))) flds_nil))))
    exact h.as (fun p : ByteArray × Int × Bool × (List api_Attr) × Unit => api_NodeType.mk p.1 p.2.1 p.2.2.1 p.2.2.2.1) (fun p => rfl) (fun p h => h)
instance : Sm api_Types := ⟨fun x => Sm.sm x.Nodes ∧ Sm.sm x.Edges ∧ True⟩
theorem rd_api_Types {H : Type} {enc : TypeId × Value → H} {w : World} (n : Nat) : Rds enc PP w 25 c_api_Types n := by
  cases n with
  | zero => exact Rds.zero
  | succ n =>
    have h := rds_struct (enc := enc) (P := PP) (w := w) (n := n) (T := 25) (fs := [(22, 0), (23, 1)]) (tot := 2) (by kernel_rfl) (by kernel_rfl) (flds_cons (enc := enc) (P := PP) (w := w) (n := n) (T := 22) (off := 0) (k := 1) (by kernel_rfl) (Rds.cL (Rds.weak (rds_slice (e := 97) (c := c_api_NodeType) (by kernel_rfl) (by kernel_rfl) (by decide) (by kernel_rfl) (rd_api_NodeType n)))) (flds_cons (enc := enc) (P := PP) (w := w) (n := n) (T := 23) (off := 1) (k := 1) (by kernel_rfl) (Rds.cL (Rds.weak (rds_slice (e := 102) (c := c_api_EdgeType) (by kernel_rfl) (by kernel_rfl) (by decide) (by kernel_rfl) (rd_api_EdgeType n)))) flds_nil))
    exact h.as (fun p : (List api_NodeType) × (List api_EdgeType) × Unit => api_Types.mk p.1 p.2.1) (fun p => rfl) (fun p h => h)
instance : Sm api_Term := ⟨fun x => Sm.sm x.Var ∧ Sm.sm x.Add ∧ True⟩
theorem rd_api_Term {H : Type} {enc : TypeId × Value → H} {w : World} (n : Nat) : Rds enc PP w 154 c_api_Term n := by
  cases n with
  | zero => exact Rds.zero
  | succ n =>
    have h := rds_struct (enc := enc) (P := PP) (w := w) (n := n) (T := 154) (fs := [(3, 0), (3, 1)]) (tot := 2) (by kernel_rfl) (by kernel_rfl) (flds_cons (enc := enc) (P := PP) (w := w) (n := n) (T := 3) (off := 0) (k := 1) (by kernel_rfl) (rds_int (T := 3) (k := .i64) (by kernel_rfl) n) (flds_cons (enc := enc) (P := PP) (w := w) (n := n) (T := 3) (off := 1) (k := 1) (by kernel_rfl) (rds_int (T := 3) (k := .i64) (by kernel_rfl) n) flds_nil))
    exact h.as (fun p : Int × Int × Unit => api_Term.mk p.1 p.2.1) (fun p => rfl) (fun p h => h)
instance : Sm api_Test := ⟨fun x => Sm.sm x.Kind ∧ Sm.sm x.Left ∧ Sm.sm x.Right ∧ True⟩
theorem rd_api_Test {H : Type} {enc : TypeId × Value → H} {w : World} (n : Nat) : Rds enc PP w 200 c_api_Test n := by
  cases n with
  | zero => exact Rds.zero
  | succ n =>
    have h := rds_struct (enc := enc) (P := PP) (w := w) (n := n) (T := 200) (fs := [(3, 0), (154, 1), (154, 3)]) (tot := 5) (by kernel_rfl) (by kernel_rfl) (flds_cons (enc := enc) (P := PP) (w := w) (n := n) (T := 3) (off := 0) (k := 1) (by kernel_rfl) (rds_int (T := 3) (k := .i64) (by kernel_rfl) n) (flds_cons (enc := enc) (P := PP) (w := w) (n := n) (T := 154) (off := 1) (k := 2) (by kernel_rfl) (rd_api_Term n) (flds_cons (enc := enc) (P := PP) (w := w) (n := n) (T := 154) (off := 3) (k := 2) (by kernel_rfl) (rd_api_Term n) flds_nil)))
    exact h.as (fun p : Int × api_Term × api_Term × Unit => api_Test.mk p.1 p.2.1 p.2.2.1) (fun p => rfl) (fun p h => h)
instance : Sm api_Slot := ⟨fun x => Sm.sm x.Node ∧ Sm.sm x.Attr ∧ Sm.sm x.Term ∧ True⟩
theorem rd_api_Slot {H : Type} {enc : TypeId × Value → H} {w : World} (n : Nat) : Rds enc PP w 156 c_api_Slot n := by
  cases n with
  | zero => exact Rds.zero
  | succ n =>
    have h := rds_struct (enc := enc) (P := PP) (w := w) (n := n) (T := 156) (fs := [(3, 0), (3, 1), (154, 2)]) (tot := 4) (by kernel_rfl) (by kernel_rfl) (flds_cons (enc := enc) (P := PP) (w := w) (n := n) (T := 3) (off := 0) (k := 1) (by kernel_rfl) (rds_int (T := 3) (k := .i64) (by kernel_rfl) n) (flds_cons (enc := enc) (P := PP) (w := w) (n := n) (T := 3) (off := 1) (k := 1) (by kernel_rfl) (rds_int (T := 3) (k := .i64) (by kernel_rfl) n) (flds_cons (enc := enc) (P := PP) (w := w) (n := n) (T := 154) (off := 2) (k := 2) (by kernel_rfl) (rd_api_Term n) flds_nil)))
    exact h.as (fun p : Int × Int × api_Term × Unit => api_Slot.mk p.1 p.2.1 p.2.2.1) (fun p => rfl) (fun p h => h)
instance : Sm api_Edge := ⟨fun x => Sm.sm x.Type_ ∧ Sm.sm x.From ∧ Sm.sm x.To ∧ True⟩
theorem rd_api_Edge {H : Type} {enc : TypeId × Value → H} {w : World} (n : Nat) : Rds enc PP w 77 c_api_Edge n := by
  cases n with
  | zero => exact Rds.zero
  | succ n =>
    have h := rds_struct (enc := enc) (P := PP) (w := w) (n := n) (T := 77) (fs := [(3, 0), (3, 1), (3, 2)]) (tot := 3) (by kernel_rfl) (by kernel_rfl) (flds_cons (enc := enc) (P := PP) (w := w) (n := n) (T := 3) (off := 0) (k := 1) (by kernel_rfl) (rds_int (T := 3) (k := .i64) (by kernel_rfl) n) (flds_cons (enc := enc) (P := PP) (w := w) (n := n) (T := 3) (off := 1) (k := 1) (by kernel_rfl) (rds_int (T := 3) (k := .i64) (by kernel_rfl) n) (flds_cons (enc := enc) (P := PP) (w := w) (n := n) (T := 3) (off := 2) (k := 1) (by kernel_rfl) (rds_int (T := 3) (k := .i64) (by kernel_rfl) n) flds_nil)))
    exact h.as (fun p : Int × Int × Int × Unit => api_Edge.mk p.1 p.2.1 p.2.2.1) (fun p => rfl) (fun p h => h)
instance : Sm api_Graph := ⟨fun x => Sm.sm x.Nodes ∧ Sm.sm x.Edges ∧ True⟩
theorem rd_api_Graph {H : Type} {enc : TypeId × Value → H} {w : World} (n : Nat) : Rds enc PP w 29 c_api_Graph n := by
  cases n with
  | zero => exact Rds.zero
  | succ n =>
    have h := rds_struct (enc := enc) (P := PP) (w := w) (n := n) (T := 29) (fs := [(26, 0), (27, 1)]) (tot := 2) (by kernel_rfl) (by kernel_rfl) (flds_cons (enc := enc) (P := PP) (w := w) (n := n) (T := 26) (off := 0) (k := 1) (by kernel_rfl) (Rds.cL (Rds.weak (rds_slice (e := 3) (c := c_i64) (by kernel_rfl) (by kernel_rfl) (by decide) (by kernel_rfl) (rds_int (T := 3) (k := .i64) (by kernel_rfl) n)))) (flds_cons (enc := enc) (P := PP) (w := w) (n := n) (T := 27) (off := 1) (k := 1) (by kernel_rfl) (Rds.cL (Rds.weak (rds_slice (e := 77) (c := c_api_Edge) (by kernel_rfl) (by kernel_rfl) (by decide) (by kernel_rfl) (rd_api_Edge n)))) flds_nil))
    exact h.as (fun p : (List Int) × (List api_Edge) × Unit => api_Graph.mk p.1 p.2.1) (fun p => rfl) (fun p h => h)
instance : Sm api_Pattern := ⟨fun x => Sm.sm x.Graph ∧ Sm.sm x.Slots ∧ Sm.sm x.Vars ∧ Sm.sm x.Tests ∧ True⟩
theorem rd_api_Pattern {H : Type} {enc : TypeId × Value → H} {w : World} (n : Nat) : Rds enc PP w 33 c_api_Pattern n := by
  cases n with
  | zero => exact Rds.zero
  | succ n =>
    have h := rds_struct (enc := enc) (P := PP) (w := w) (n := n) (T := 33) (fs := [(29, 0), (30, 2), (3, 3), (31, 4)]) (tot := 5) (by kernel_rfl) (by kernel_rfl) (flds_cons (enc := enc) (P := PP) (w := w) (n := n) (T := 29) (off := 0) (k := 2) (by kernel_rfl) (rd_api_Graph n) (flds_cons (enc := enc) (P := PP) (w := w) (n := n) (T := 30) (off := 2) (k := 1) (by kernel_rfl) (Rds.cL (Rds.weak (rds_slice (e := 156) (c := c_api_Slot) (by kernel_rfl) (by kernel_rfl) (by decide) (by kernel_rfl) (rd_api_Slot n)))) (flds_cons (enc := enc) (P := PP) (w := w) (n := n) (T := 3) (off := 3) (k := 1) (by kernel_rfl) (rds_int (T := 3) (k := .i64) (by kernel_rfl) n) (flds_cons (enc := enc) (P := PP) (w := w) (n := n) (T := 31) (off := 4) (k := 1) (by kernel_rfl) (Rds.cL (Rds.weak (rds_slice (e := 200) (c := c_api_Test) (by kernel_rfl) (by kernel_rfl) (by decide) (by kernel_rfl) (rd_api_Test n)))) flds_nil))))
    exact h.as (fun p : api_Graph × (List api_Slot) × Int × (List api_Test) × Unit => api_Pattern.mk p.1 p.2.1 p.2.2.1 p.2.2.2.1) (fun p => rfl) (fun p h => h)
instance : Sm api_Morphism := ⟨fun x => Sm.sm x.Nodes ∧ Sm.sm x.Edges ∧ True⟩
theorem rd_api_Morphism {H : Type} {enc : TypeId × Value → H} {w : World} (n : Nat) : Rds enc PP w 36 c_api_Morphism n := by
  cases n with
  | zero => exact Rds.zero
  | succ n =>
    have h := rds_struct (enc := enc) (P := PP) (w := w) (n := n) (T := 36) (fs := [(26, 0), (26, 1)]) (tot := 2) (by kernel_rfl) (by kernel_rfl) (flds_cons (enc := enc) (P := PP) (w := w) (n := n) (T := 26) (off := 0) (k := 1) (by kernel_rfl) (Rds.cL (Rds.weak (rds_slice (e := 3) (c := c_i64) (by kernel_rfl) (by kernel_rfl) (by decide) (by kernel_rfl) (rds_int (T := 3) (k := .i64) (by kernel_rfl) n)))) (flds_cons (enc := enc) (P := PP) (w := w) (n := n) (T := 26) (off := 1) (k := 1) (by kernel_rfl) (Rds.cL (Rds.weak (rds_slice (e := 3) (c := c_i64) (by kernel_rfl) (by kernel_rfl) (by decide) (by kernel_rfl) (rds_int (T := 3) (k := .i64) (by kernel_rfl) n)))) flds_nil))
    exact h.as (fun p : (List Int) × (List Int) × Unit => api_Morphism.mk p.1 p.2.1) (fun p => rfl) (fun p h => h)
inductive Sm_api_Condition : api_Condition → Prop
  | mk {x : api_Condition} (h0 : Sm.sm x.Kind) (h1 : (x.Kids.length : Int) ≤ LIM) (k1 : ∀ k ∈ x.Kids, Sm_api_Condition k) (h2 : Sm.sm x.Map) (h3 : Sm.sm x.Pattern) : Sm_api_Condition x
instance : Sm api_Condition := ⟨Sm_api_Condition⟩
theorem rd_api_Condition {H : Type} {enc : TypeId × Value → H} {w : World} (n : Nat) : Rds enc PP w 39 c_api_Condition n := by
  induction n with
  | zero => exact Rds.zero
  | succ n ih =>
    have h := rds_struct (enc := enc) (P := PP) (w := w) (n := n) (T := 39) (fs := [(3, 0), (37, 1), (36, 2), (33, 4)]) (tot := 9) (by kernel_rfl) (by kernel_rfl) (flds_cons (enc := enc) (P := PP) (w := w) (n := n) (T := 3) (off := 0) (k := 1) (by kernel_rfl) (rds_int (T := 3) (k := .i64) (by kernel_rfl) n) (flds_cons (enc := enc) (P := PP) (w := w) (n := n) (T := 37) (off := 1) (k := 1) (by kernel_rfl) (Rds.cL (Rds.weak (rds_slice (e := 39) (c := c_api_Condition) (by kernel_rfl) (by kernel_rfl) (by decide) (by kernel_rfl) ih))) (flds_cons (enc := enc) (P := PP) (w := w) (n := n) (T := 36) (off := 2) (k := 2) (by kernel_rfl) (rd_api_Morphism n) (flds_cons (enc := enc) (P := PP) (w := w) (n := n) (T := 33) (off := 4) (k := 5) (by kernel_rfl) (rd_api_Pattern n) flds_nil))))
    exact h.as (fun p : Int × (List api_Condition) × api_Morphism × api_Pattern × Unit => api_Condition.mk p.1 p.2.1 p.2.2.1 p.2.2.2.1) (fun p => by rw [c_api_Condition_def]; rfl) (fun p h => Sm_api_Condition.mk h.1 h.2.1.1 h.2.1.2 h.2.2.1 h.2.2.2.1)
instance : Sm api_Part := ⟨fun x => Sm.sm x.Nodes ∧ Sm.sm x.Edges ∧ True⟩
theorem rd_api_Part {H : Type} {enc : TypeId × Value → H} {w : World} (n : Nat) : Rds enc PP w 35 c_api_Part n := by
  cases n with
  | zero => exact Rds.zero
  | succ n =>
    have h := rds_struct (enc := enc) (P := PP) (w := w) (n := n) (T := 35) (fs := [(26, 0), (26, 1)]) (tot := 2) (by kernel_rfl) (by kernel_rfl) (flds_cons (enc := enc) (P := PP) (w := w) (n := n) (T := 26) (off := 0) (k := 1) (by kernel_rfl) (Rds.cL (Rds.weak (rds_slice (e := 3) (c := c_i64) (by kernel_rfl) (by kernel_rfl) (by decide) (by kernel_rfl) (rds_int (T := 3) (k := .i64) (by kernel_rfl) n)))) (flds_cons (enc := enc) (P := PP) (w := w) (n := n) (T := 26) (off := 1) (k := 1) (by kernel_rfl) (Rds.cL (Rds.weak (rds_slice (e := 3) (c := c_i64) (by kernel_rfl) (by kernel_rfl) (by decide) (by kernel_rfl) (rds_int (T := 3) (k := .i64) (by kernel_rfl) n)))) flds_nil))
    exact h.as (fun p : (List Int) × (List Int) × Unit => api_Part.mk p.1 p.2.1) (fun p => rfl) (fun p h => h)
instance : Sm api_Rule := ⟨fun x => Sm.sm x.Name ∧ Sm.sm x.Left ∧ Sm.sm x.Right ∧ Sm.sm x.Keep ∧ Sm.sm x.Into ∧ Sm.sm x.Injective ∧ Sm.sm x.Condition ∧ True⟩
theorem rd_api_Rule {H : Type} {enc : TypeId × Value → H} {w : World} (n : Nat) : Rds enc PP w 41 c_api_Rule n := by
  cases n with
  | zero => exact Rds.zero
  | succ n =>
    have h := rds_struct (enc := enc) (P := PP) (w := w) (n := n) (T := 41) (fs := [(9, 0), (33, 1), (33, 6), (35, 11), (36, 13), (4, 15), (39, 16)]) (tot := 25) (by kernel_rfl) (by kernel_rfl) (flds_cons (enc := enc) (P := PP) (w := w) (n := n) (T := 9) (off := 0) (k := 1) (by kernel_rfl) (rds_str (T := 9) (by kernel_rfl) n) (flds_cons (enc := enc) (P := PP) (w := w) (n := n) (T := 33) (off := 1) (k := 5) (by kernel_rfl) (rd_api_Pattern n) (flds_cons (enc := enc) (P := PP) (w := w) (n := n) (T := 33) (off := 6) (k := 5) (by kernel_rfl) (rd_api_Pattern n) (flds_cons (enc := enc) (P := PP) (w := w) (n := n) (T := 35) (off := 11) (k := 2) (by kernel_rfl) (rd_api_Part n) (flds_cons (enc := enc) (P := PP) (w := w) (n := n) (T := 36) (off := 13) (k := 2) (by kernel_rfl) (rd_api_Morphism n) (flds_cons (enc := enc) (P := PP) (w := w) (n := n) (T := 4) (off := 15) (k := 1) (by kernel_rfl) (rds_bool (T := 4) (by kernel_rfl) n) (flds_cons (enc := enc) (P := PP) (w := w) (n := n) (T := 39) (off := 16) (k := 9) (by kernel_rfl) (rd_api_Condition n) flds_nil)))))))
    exact h.as (fun p : ByteArray × api_Pattern × api_Pattern × api_Part × api_Morphism × Bool × api_Condition × Unit => api_Rule.mk p.1 p.2.1 p.2.2.1 p.2.2.2.1 p.2.2.2.2.1 p.2.2.2.2.2.1 p.2.2.2.2.2.2.1) (fun p => rfl) (fun p h => h)
end Go.Proofs.YtngimdmkomkeoaaGreat.K
