/- How the arguments of the laws are read. -/
import Derived.Test.YtngimdmkomkeoaaGreatTypes
import Derived.Test.YtngimdmkomkeoaaGreatFacts
import Derived.Test.YtngimdmkomkeoaaGreatReadW
set_option linter.unusedVariables false
set_option maxRecDepth 100000
namespace Go.Proofs.YtngimdmkomkeoaaGreat.K
open Go.RowKit Go.Proofs
instance : Sm api_EdgeType := ⟨fun x => Sm.sm x.Name ∧ Sm.sm x.From ∧ Sm.sm x.To ∧ Sm.sm x.OutLow ∧ Sm.sm x.OutHigh ∧ Sm.sm x.InLow ∧ Sm.sm x.InHigh ∧ True⟩
theorem rd_api_EdgeType {H : Type} {enc : TypeId × Value → H} {w : World} (n : Nat) : Rds enc PP w 102 c_api_EdgeType n := by
  cases n with
  | zero => exact Rds.zero
  | succ n =>
    have h := rds_struct (enc := enc) (P := PP) (w := w) (n := n) (T := 102) (fs := [(9, 0), (3, 1), (3, 2), (3, 3), (3, 4), (3, 5), (3, 6)]) (tot := 7) (by kernel_rfl) (by kernel_rfl) (flds_cons (enc := enc) (P := PP) (w := w) (n := n) (T := 9) (off := 0) (k := 1) (by kernel_rfl) (rds_str (T := 9) (by kernel_rfl) n) (flds_cons (enc := enc) (P := PP) (w := w) (n := n) (T := 3) (off := 1) (k := 1) (by kernel_rfl) (rds_int (T := 3) (k := .i64) (by kernel_rfl) n) (flds_cons (enc := enc) (P := PP) (w := w) (n := n) (T := 3) (off := 2) (k := 1) (by kernel_rfl) (rds_int (T := 3) (k := .i64) (by kernel_rfl) n) (flds_cons (enc := enc) (P := PP) (w := w) (n := n) (T := 3) (off := 3) (k := 1) (by kernel_rfl) (rds_int (T := 3) (k := .i64) (by kernel_rfl) n) (flds_cons (enc := enc) (P := PP) (w := w) (n := n) (T := 3) (off := 4) (k := 1) (by kernel_rfl) (rds_int (T := 3) (k := .i64) (by kernel_rfl) n) (flds_cons (enc := enc) (P := PP) (w := w) (n := n) (T := 3) (off := 5) (k := 1) (by kernel_rfl) (rds_int (T := 3) (k := .i64) (by kernel_rfl) n) (flds_cons (enc := enc) (P := PP) (w := w) (n := n) (T := 3) (off := 6) (k := 1) (by kernel_rfl) (rds_int (T := 3) (k := .i64) (by kernel_rfl) n) flds_nil)))))))
    exact h.as (fun p : ByteArray × Int × Int × Int × Int × Int × Int × Unit => api_EdgeType.mk p.1 p.2.1 p.2.2.1 p.2.2.2.1 p.2.2.2.2.1 p.2.2.2.2.2.1 p.2.2.2.2.2.2.1) (fun p => rfl) (fun p h => h)
instance : Sm api_Attr := ⟨fun x => Sm.sm x.Name ∧ Sm.sm x.Low ∧ Sm.sm x.High ∧ Sm.sm x.Names ∧ True⟩
theorem rd_api_Attr {H : Type} {enc : TypeId × Value → H} {w : World} (n : Nat) : Rds enc PP w 100 c_api_Attr n := by
  cases n with
  | zero => exact Rds.zero
  | succ n =>
    have h := rds_struct (enc := enc) (P := PP) (w := w) (n := n) (T := 100) (fs := [(9, 0), (3, 1), (3, 2), (98, 3)]) (tot := 4) (by kernel_rfl) (by kernel_rfl) (flds_cons (enc := enc) (P := PP) (w := w) (n := n) (T := 9) (off := 0) (k := 1) (by kernel_rfl) (rds_str (T := 9) (by kernel_rfl) n) (flds_cons (enc := enc) (P := PP) (w := w) (n := n) (T := 3) (off := 1) (k := 1) (by kernel_rfl) (rds_int (T := 3) (k := .i64) (by kernel_rfl) n) (flds_cons (enc := enc) (P := PP) (w := w) (n := n) (T := 3) (off := 2) (k := 1) (by kernel_rfl) (rds_int (T := 3) (k := .i64) (by kernel_rfl) n) (flds_cons (enc := enc) (P := PP) (w := w) (n := n) (T := 98) (off := 3) (k := 1) (by kernel_rfl) (Rds.cL (Rds.weak (rds_slice (e := 9) (c := c_str) (by kernel_rfl) (by kernel_rfl) (by decide) (by kernel_rfl) (rds_str (T := 9) (by kernel_rfl) n)))) flds_nil))))
    exact h.as (fun p : ByteArray × Int × Int × (List ByteArray) × Unit => api_Attr.mk p.1 p.2.1 p.2.2.1 p.2.2.2.1) (fun p => rfl) (fun p h => h)
instance : Sm api_NodeType := ⟨fun x => Sm.sm x.Name ∧ Sm.sm x.Parent ∧ Sm.sm x.Abstract ∧ Sm.sm x.Attrs ∧ True⟩
theorem rd_api_NodeType {H : Type} {enc : TypeId × Value → H} {w : World} (n : Nat) : Rds enc PP w 97 c_api_NodeType n := by
  cases n with
  | zero => exact Rds.zero
  | succ n =>
    have h := rds_struct (enc := enc) (P := PP) (w := w) (n := n) (T := 97) (fs := [(9, 0), (3, 1), (4, 2), (95, 3)]) (tot := 4) (by kernel_rfl) (by kernel_rfl) (flds_cons (enc := enc) (P := PP) (w := w) (n := n) (T := 9) (off := 0) (k := 1) (by kernel_rfl) (rds_str (T := 9) (by kernel_rfl) n) (flds_cons (enc := enc) (P := PP) (w := w) (n := n) (T := 3) (off := 1) (k := 1) (by kernel_rfl) (rds_int (T := 3) (k := .i64) (by kernel_rfl) n) (flds_cons (enc := enc) (P := PP) (w := w) (n := n) (T := 4) (off := 2) (k := 1) (by kernel_rfl) (rds_bool (T := 4) (by kernel_rfl) n) (flds_cons (enc := enc) (P := PP) (w := w) (n := n) (T := 95) (off := 3) (k := 1) (by kernel_rfl) (Rds.cL (Rds.weak (rds_slice (e := 100) (c := c_api_Attr) (by kernel_rfl) (by kernel_rfl) (by decide) (by kernel_rfl) (rd_api_Attr n)))) flds_nil))))
    exact h.as (fun p : ByteArray × Int × Bool × (List api_Attr) × Unit => api_NodeType.mk p.1 p.2.1 p.2.2.1 p.2.2.2.1) (fun p => rfl) (fun p h => h)
instance : Sm api_Types := ⟨fun x => Sm.sm x.Nodes ∧ Sm.sm x.Edges ∧ True⟩
theorem rd_api_Types {H : Type} {enc : TypeId × Value → H} {w : World} (n : Nat) : Rds enc PP w 25 c_api_Types n := by
  cases n with
  | zero => exact Rds.zero
  | succ n =>
    have h := rds_struct (enc := enc) (P := PP) (w := w) (n := n) (T := 25) (fs := [(22, 0), (23, 1)]) (tot := 2) (by kernel_rfl) (by kernel_rfl) (flds_cons (enc := enc) (P := PP) (w := w) (n := n) (T := 22) (off := 0) (k := 1) (by kernel_rfl) (Rds.cL (Rds.weak (rds_slice (e := 97) (c := c_api_NodeType) (by kernel_rfl) (by kernel_rfl) (by decide) (by kernel_rfl) (rd_api_NodeType n)))) (flds_cons (enc := enc) (P := PP) (w := w) (n := n) (T := 23) (off := 1) (k := 1) (by kernel_rfl) (Rds.cL (Rds.weak (rds_slice (e := 102) (c := c_api_EdgeType) (by kernel_rfl) (by kernel_rfl) (by decide) (by kernel_rfl) (rd_api_EdgeType n)))) flds_nil))
    exact h.as (fun p : (List api_NodeType) × (List api_EdgeType) × Unit => api_Types.mk p.1 p.2.1) (fun p => rfl) (fun p h => h)
instance : Sm api_Edge := ⟨fun x => Sm.sm x.Type_ ∧ Sm.sm x.From ∧ Sm.sm x.To ∧ True⟩
theorem rd_api_Edge {H : Type} {enc : TypeId × Value → H} {w : World} (n : Nat) : Rds enc PP w 77 c_api_Edge n := by
  cases n with
  | zero => exact Rds.zero
  | succ n =>
    have h := rds_struct (enc := enc) (P := PP) (w := w) (n := n) (T := 77) (fs := [(3, 0), (3, 1), (3, 2)]) (tot := 3) (by kernel_rfl) (by kernel_rfl) (flds_cons (enc := enc) (P := PP) (w := w) (n := n) (T := 3) (off := 0) (k := 1) (by kernel_rfl) (rds_int (T := 3) (k := .i64) (by kernel_rfl) n) (flds_cons (enc := enc) (P := PP) (w := w) (n := n) (T := 3) (off := 1) (k := 1) (by kernel_rfl) (rds_int (T := 3) (k := .i64) (by kernel_rfl) n) (flds_cons (enc := enc) (P := PP) (w := w) (n := n) (T := 3) (off := 2) (k := 1) (by kernel_rfl) (rds_int (T := 3) (k := .i64) (by kernel_rfl) n) flds_nil)))
    exact h.as (fun p : Int × Int × Int × Unit => api_Edge.mk p.1 p.2.1 p.2.2.1) (fun p => rfl) (fun p h => h)
instance : Sm api_Graph := ⟨fun x => Sm.sm x.Nodes ∧ Sm.sm x.Edges ∧ True⟩
theorem rd_api_Graph {H : Type} {enc : TypeId × Value → H} {w : World} (n : Nat) : Rds enc PP w 29 c_api_Graph n := by
  cases n with
  | zero => exact Rds.zero
  | succ n =>
    have h := rds_struct (enc := enc) (P := PP) (w := w) (n := n) (T := 29) (fs := [(26, 0), (27, 1)]) (tot := 2) (by kernel_rfl) (by kernel_rfl) (flds_cons (enc := enc) (P := PP) (w := w) (n := n) (T := 26) (off := 0) (k := 1) (by kernel_rfl) (Rds.cL (Rds.weak (rds_slice (e := 3) (c := c_i64) (by kernel_rfl) (by kernel_rfl) (by decide) (by kernel_rfl) (rds_int (T := 3) (k := .i64) (by kernel_rfl) n)))) (flds_cons (enc := enc) (P := PP) (w := w) (n := n) (T := 27) (off := 1) (k := 1) (by kernel_rfl) (Rds.cL (Rds.weak (rds_slice (e := 77) (c := c_api_Edge) (by kernel_rfl) (by kernel_rfl) (by decide) (by kernel_rfl) (rd_api_Edge n)))) flds_nil))
    exact h.as (fun p : (List Int) × (List api_Edge) × Unit => api_Graph.mk p.1 p.2.1) (fun p => rfl) (fun p h => h)
end Go.Proofs.YtngimdmkomkeoaaGreat.K
