/- How the arguments of the laws are read. -/
import Derived.Test.YtpnfoacmgfklaaaGreatTypes
import Derived.Test.YtpnfoacmgfklaaaGreatFacts
import Derived.Test.YtpnfoacmgfklaaaGreatReadA
set_option linter.unusedVariables false
namespace Go.Proofs.YtpnfoacmgfklaaaGreat.K
open Go.RowKit Go.Proofs
theorem rd_api_Term {H : Type} {enc : TypeId × Value → H} {w : World} (n : Nat) : Rds enc PP w 154 c_api_Term n := by
  cases n with
  | zero => exact Rds.zero
  | succ n =>
    have h := rds_struct (enc := enc) (P := PP) (w := w) (n := n) (T := 154) (fs := [(3, 0), (3, 1)]) (tot := 2) (by kernel_rfl) (by kernel_rfl) (flds_cons (enc := enc) (P := PP) (w := w) (n := n) (T := 3) (off := 0) (k := 1) (by kernel_rfl) (rds_int (T := 3) (k := .i64) (by kernel_rfl) n) (flds_cons (enc := enc) (P := PP) (w := w) (n := n) (T := 3) (off := 1) (k := 1) (by kernel_rfl) (rds_int (T := 3) (k := .i64) (by kernel_rfl) n) flds_nil))
    exact h.as (fun p : Int × Int × Unit => api_Term.mk p.1 p.2.1) (fun p => rfl)
theorem rd_api_Test {H : Type} {enc : TypeId × Value → H} {w : World} (n : Nat) : Rds enc PP w 158 c_api_Test n := by
  cases n with
  | zero => exact Rds.zero
  | succ n =>
    have h := rds_struct (enc := enc) (P := PP) (w := w) (n := n) (T := 158) (fs := [(3, 0), (154, 1), (154, 3)]) (tot := 5) (by kernel_rfl) (by kernel_rfl) (flds_cons (enc := enc) (P := PP) (w := w) (n := n) (T := 3) (off := 0) (k := 1) (by kernel_rfl) (rds_int (T := 3) (k := .i64) (by kernel_rfl) n) (flds_cons (enc := enc) (P := PP) (w := w) (n := n) (T := 154) (off := 1) (k := 2) (by kernel_rfl) (rd_api_Term n) (flds_cons (enc := enc) (P := PP) (w := w) (n := n) (T := 154) (off := 3) (k := 2) (by kernel_rfl) (rd_api_Term n) flds_nil)))
    exact h.as (fun p : Int × api_Term × api_Term × Unit => api_Test.mk p.1 p.2.1 p.2.2.1) (fun p => rfl)
theorem rd_api_Slot {H : Type} {enc : TypeId × Value → H} {w : World} (n : Nat) : Rds enc PP w 156 c_api_Slot n := by
  cases n with
  | zero => exact Rds.zero
  | succ n =>
    have h := rds_struct (enc := enc) (P := PP) (w := w) (n := n) (T := 156) (fs := [(3, 0), (3, 1), (154, 2)]) (tot := 4) (by kernel_rfl) (by kernel_rfl) (flds_cons (enc := enc) (P := PP) (w := w) (n := n) (T := 3) (off := 0) (k := 1) (by kernel_rfl) (rds_int (T := 3) (k := .i64) (by kernel_rfl) n) (flds_cons (enc := enc) (P := PP) (w := w) (n := n) (T := 3) (off := 1) (k := 1) (by kernel_rfl) (rds_int (T := 3) (k := .i64) (by kernel_rfl) n) (flds_cons (enc := enc) (P := PP) (w := w) (n := n) (T := 154) (off := 2) (k := 2) (by kernel_rfl) (rd_api_Term n) flds_nil)))
    exact h.as (fun p : Int × Int × api_Term × Unit => api_Slot.mk p.1 p.2.1 p.2.2.1) (fun p => rfl)
theorem rd_api_Edge {H : Type} {enc : TypeId × Value → H} {w : World} (n : Nat) : Rds enc PP w 135 c_api_Edge n := by
  cases n with
  | zero => exact Rds.zero
  | succ n =>
    have h := rds_struct (enc := enc) (P := PP) (w := w) (n := n) (T := 135) (fs := [(3, 0), (3, 1), (3, 2)]) (tot := 3) (by kernel_rfl) (by kernel_rfl) (flds_cons (enc := enc) (P := PP) (w := w) (n := n) (T := 3) (off := 0) (k := 1) (by kernel_rfl) (rds_int (T := 3) (k := .i64) (by kernel_rfl) n) (flds_cons (enc := enc) (P := PP) (w := w) (n := n) (T := 3) (off := 1) (k := 1) (by kernel_rfl) (rds_int (T := 3) (k := .i64) (by kernel_rfl) n) (flds_cons (enc := enc) (P := PP) (w := w) (n := n) (T := 3) (off := 2) (k := 1) (by kernel_rfl) (rds_int (T := 3) (k := .i64) (by kernel_rfl) n) flds_nil)))
    exact h.as (fun p : Int × Int × Int × Unit => api_Edge.mk p.1 p.2.1 p.2.2.1) (fun p => rfl)
theorem rd_api_Graph {H : Type} {enc : TypeId × Value → H} {w : World} (n : Nat) : Rds enc PP w 25 c_api_Graph n := by
  cases n with
  | zero => exact Rds.zero
  | succ n =>
    have h := rds_struct (enc := enc) (P := PP) (w := w) (n := n) (T := 25) (fs := [(22, 0), (23, 1)]) (tot := 2) (by kernel_rfl) (by kernel_rfl) (flds_cons (enc := enc) (P := PP) (w := w) (n := n) (T := 22) (off := 0) (k := 1) (by kernel_rfl) (Rds.cL (Rds.weak (rds_slice (e := 3) (c := c_i64) (by kernel_rfl) (by kernel_rfl) (by decide) (rds_int (T := 3) (k := .i64) (by kernel_rfl) n)))) (flds_cons (enc := enc) (P := PP) (w := w) (n := n) (T := 23) (off := 1) (k := 1) (by kernel_rfl) (Rds.cL (Rds.weak (rds_slice (e := 135) (c := c_api_Edge) (by kernel_rfl) (by kernel_rfl) (by decide) (rd_api_Edge n)))) flds_nil))
    exact h.as (fun p : (List Int) × (List api_Edge) × Unit => api_Graph.mk p.1 p.2.1) (fun p => rfl)
theorem rd_api_Pattern {H : Type} {enc : TypeId × Value → H} {w : World} (n : Nat) : Rds enc PP w 29 c_api_Pattern n := by
  cases n with
  | zero => exact Rds.zero
  | succ n =>
    have h := rds_struct (enc := enc) (P := PP) (w := w) (n := n) (T := 29) (fs := [(25, 0), (26, 2), (3, 3), (27, 4)]) (tot := 5) (by kernel_rfl) (by kernel_rfl) (flds_cons (enc := enc) (P := PP) (w := w) (n := n) (T := 25) (off := 0) (k := 2) (by kernel_rfl) (rd_api_Graph n) (flds_cons (enc := enc) (P := PP) (w := w) (n := n) (T := 26) (off := 2) (k := 1) (by kernel_rfl) (Rds.cL (Rds.weak (rds_slice (e := 156) (c := c_api_Slot) (by kernel_rfl) (by kernel_rfl) (by decide) (rd_api_Slot n)))) (flds_cons (enc := enc) (P := PP) (w := w) (n := n) (T := 3) (off := 3) (k := 1) (by kernel_rfl) (rds_int (T := 3) (k := .i64) (by kernel_rfl) n) (flds_cons (enc := enc) (P := PP) (w := w) (n := n) (T := 27) (off := 4) (k := 1) (by kernel_rfl) (Rds.cL (Rds.weak (rds_slice (e := 158) (c := c_api_Test) (by kernel_rfl) (by kernel_rfl) (by decide) (rd_api_Test n)))) flds_nil))))
    exact h.as (fun p : api_Graph × (List api_Slot) × Int × (List api_Test) × Unit => api_Pattern.mk p.1 p.2.1 p.2.2.1 p.2.2.2.1) (fun p => rfl)
theorem rd_api_Morphism {H : Type} {enc : TypeId × Value → H} {w : World} (n : Nat) : Rds enc PP w 32 c_api_Morphism n := by
  cases n with
  | zero => exact Rds.zero
  | succ n =>
    have h := rds_struct (enc := enc) (P := PP) (w := w) (n := n) (T := 32) (fs := [(22, 0), (22, 1)]) (tot := 2) (by kernel_rfl) (by kernel_rfl) (flds_cons (enc := enc) (P := PP) (w := w) (n := n) (T := 22) (off := 0) (k := 1) (by kernel_rfl) (Rds.cL (Rds.weak (rds_slice (e := 3) (c := c_i64) (by kernel_rfl) (by kernel_rfl) (by decide) (rds_int (T := 3) (k := .i64) (by kernel_rfl) n)))) (flds_cons (enc := enc) (P := PP) (w := w) (n := n) (T := 22) (off := 1) (k := 1) (by kernel_rfl) (Rds.cL (Rds.weak (rds_slice (e := 3) (c := c_i64) (by kernel_rfl) (by kernel_rfl) (by decide) (rds_int (T := 3) (k := .i64) (by kernel_rfl) n)))) flds_nil))
    exact h.as (fun p : (List Int) × (List Int) × Unit => api_Morphism.mk p.1 p.2.1) (fun p => rfl)
theorem rd_api_Condition {H : Type} {enc : TypeId × Value → H} {w : World} (n : Nat) : Rds enc PP w 35 c_api_Condition n := by
  induction n with
  | zero => exact Rds.zero
  | succ n ih =>
    have h := rds_struct (enc := enc) (P := PP) (w := w) (n := n) (T := 35) (fs := [(3, 0), (33, 1), (32, 2), (29, 4)]) (tot := 9) (by kernel_rfl) (by kernel_rfl) (flds_cons (enc := enc) (P := PP) (w := w) (n := n) (T := 3) (off := 0) (k := 1) (by kernel_rfl) (rds_int (T := 3) (k := .i64) (by kernel_rfl) n) (flds_cons (enc := enc) (P := PP) (w := w) (n := n) (T := 33) (off := 1) (k := 1) (by kernel_rfl) (Rds.cL (Rds.weak (rds_slice (e := 35) (c := c_api_Condition) (by kernel_rfl) (by kernel_rfl) (by decide) ih))) (flds_cons (enc := enc) (P := PP) (w := w) (n := n) (T := 32) (off := 2) (k := 2) (by kernel_rfl) (rd_api_Morphism n) (flds_cons (enc := enc) (P := PP) (w := w) (n := n) (T := 29) (off := 4) (k := 5) (by kernel_rfl) (rd_api_Pattern n) flds_nil))))
    exact h.as (fun p : Int × (List api_Condition) × api_Morphism × api_Pattern × Unit => api_Condition.mk p.1 p.2.1 p.2.2.1 p.2.2.2.1) (fun p => by rw [c_api_Condition_def]; rfl)
theorem rd_api_Part {H : Type} {enc : TypeId × Value → H} {w : World} (n : Nat) : Rds enc PP w 31 c_api_Part n := by
  cases n with
  | zero => exact Rds.zero
  | succ n =>
    have h := rds_struct (enc := enc) (P := PP) (w := w) (n := n) (T := 31) (fs := [(22, 0), (22, 1)]) (tot := 2) (by kernel_rfl) (by kernel_rfl) (flds_cons (enc := enc) (P := PP) (w := w) (n := n) (T := 22) (off := 0) (k := 1) (by kernel_rfl) (Rds.cL (Rds.weak (rds_slice (e := 3) (c := c_i64) (by kernel_rfl) (by kernel_rfl) (by decide) (rds_int (T := 3) (k := .i64) (by kernel_rfl) n)))) (flds_cons (enc := enc) (P := PP) (w := w) (n := n) (T := 22) (off := 1) (k := 1) (by kernel_rfl) (Rds.cL (Rds.weak (rds_slice (e := 3) (c := c_i64) (by kernel_rfl) (by kernel_rfl) (by decide) (rds_int (T := 3) (k := .i64) (by kernel_rfl) n)))) flds_nil))
    exact h.as (fun p : (List Int) × (List Int) × Unit => api_Part.mk p.1 p.2.1) (fun p => rfl)
theorem rd_api_Rule {H : Type} {enc : TypeId × Value → H} {w : World} (n : Nat) : Rds enc PP w 37 c_api_Rule n := by
  cases n with
  | zero => exact Rds.zero
  | succ n =>
    have h := rds_struct (enc := enc) (P := PP) (w := w) (n := n) (T := 37) (fs := [(9, 0), (29, 1), (29, 6), (31, 11), (32, 13), (4, 15), (35, 16)]) (tot := 25) (by kernel_rfl) (by kernel_rfl) (flds_cons (enc := enc) (P := PP) (w := w) (n := n) (T := 9) (off := 0) (k := 1) (by kernel_rfl) (rds_str (T := 9) (by kernel_rfl) n) (flds_cons (enc := enc) (P := PP) (w := w) (n := n) (T := 29) (off := 1) (k := 5) (by kernel_rfl) (rd_api_Pattern n) (flds_cons (enc := enc) (P := PP) (w := w) (n := n) (T := 29) (off := 6) (k := 5) (by kernel_rfl) (rd_api_Pattern n) (flds_cons (enc := enc) (P := PP) (w := w) (n := n) (T := 31) (off := 11) (k := 2) (by kernel_rfl) (rd_api_Part n) (flds_cons (enc := enc) (P := PP) (w := w) (n := n) (T := 32) (off := 13) (k := 2) (by kernel_rfl) (rd_api_Morphism n) (flds_cons (enc := enc) (P := PP) (w := w) (n := n) (T := 4) (off := 15) (k := 1) (by kernel_rfl) (rds_bool (T := 4) (by kernel_rfl) n) (flds_cons (enc := enc) (P := PP) (w := w) (n := n) (T := 35) (off := 16) (k := 9) (by kernel_rfl) (rd_api_Condition n) flds_nil)))))))
    exact h.as (fun p : ByteArray × api_Pattern × api_Pattern × api_Part × api_Morphism × Bool × api_Condition × Unit => api_Rule.mk p.1 p.2.1 p.2.2.1 p.2.2.2.1 p.2.2.2.2.1 p.2.2.2.2.2.1 p.2.2.2.2.2.2.1) (fun p => rfl)
end Go.Proofs.YtpnfoacmgfklaaaGreat.K
