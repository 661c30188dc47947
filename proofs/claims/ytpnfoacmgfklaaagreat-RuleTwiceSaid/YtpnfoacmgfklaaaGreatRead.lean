/- How the arguments of the laws are read. -/
import Derived.Test.YtpnfoacmgfklaaaGreatTypes
import Derived.Test.YtpnfoacmgfklaaaGreatFacts
import Derived.Test.YtpnfoacmgfklaaaGreatReadA
set_option linter.unusedVariables false
set_option maxRecDepth 100000
namespace Go.Proofs.YtpnfoacmgfklaaaGreat.K
open Go.RowKit Go.Proofs
theorem rd_Arr2_c_u8 {H : Type} {enc : TypeId × Value → H} {w : World} (n : Nat) : Rds enc PP w 103 c_Arr2_c_u8 n := by
  cases n with
  | zero => exact Rds.zero
  | succ n =>
    have h := rds_array (enc := enc) (P := PP) (w := w) (n := n) (T := 103) (ne := 2) (e := 5) (tot := 2) (by kernel_rfl) (by kernel_rfl) (flds_cons (enc := enc) (P := PP) (w := w) (n := n) (T := 5) (off := 0) (k := 1) (by kernel_rfl) (rds_int (T := 5) (k := .u8) (by kernel_rfl) n) (flds_cons (enc := enc) (P := PP) (w := w) (n := n) (T := 5) (off := 1) (k := 1) (by kernel_rfl) (rds_int (T := 5) (k := .u8) (by kernel_rfl) n) flds_nil))
    exact h.as (fun p : Int × Int × Unit => Arr2_c_u8.mk p.1 p.2.1) (fun p => rfl)
theorem rd_Arr4_c_u8 {H : Type} {enc : TypeId × Value → H} {w : World} (n : Nat) : Rds enc PP w 53 c_Arr4_c_u8 n := by
  cases n with
  | zero => exact Rds.zero
  | succ n =>
    have h := rds_array (enc := enc) (P := PP) (w := w) (n := n) (T := 53) (ne := 4) (e := 5) (tot := 4) (by kernel_rfl) (by kernel_rfl) (flds_cons (enc := enc) (P := PP) (w := w) (n := n) (T := 5) (off := 0) (k := 1) (by kernel_rfl) (rds_int (T := 5) (k := .u8) (by kernel_rfl) n) (flds_cons (enc := enc) (P := PP) (w := w) (n := n) (T := 5) (off := 1) (k := 1) (by kernel_rfl) (rds_int (T := 5) (k := .u8) (by kernel_rfl) n) (flds_cons (enc := enc) (P := PP) (w := w) (n := n) (T := 5) (off := 2) (k := 1) (by kernel_rfl) (rds_int (T := 5) (k := .u8) (by kernel_rfl) n) (flds_cons (enc := enc) (P := PP) (w := w) (n := n) (T := 5) (off := 3) (k := 1) (by kernel_rfl) (rds_int (T := 5) (k := .u8) (by kernel_rfl) n) flds_nil))))
    exact h.as (fun p : Int × Int × Int × Int × Unit => Arr4_c_u8.mk p.1 p.2.1 p.2.2.1 p.2.2.2.1) (fun p => rfl)
theorem rd_Arr3_c_u8 {H : Type} {enc : TypeId × Value → H} {w : World} (n : Nat) : Rds enc PP w 132 c_Arr3_c_u8 n := by
  cases n with
  | zero => exact Rds.zero
  | succ n =>
    have h := rds_array (enc := enc) (P := PP) (w := w) (n := n) (T := 132) (ne := 3) (e := 5) (tot := 3) (by kernel_rfl) (by kernel_rfl) (flds_cons (enc := enc) (P := PP) (w := w) (n := n) (T := 5) (off := 0) (k := 1) (by kernel_rfl) (rds_int (T := 5) (k := .u8) (by kernel_rfl) n) (flds_cons (enc := enc) (P := PP) (w := w) (n := n) (T := 5) (off := 1) (k := 1) (by kernel_rfl) (rds_int (T := 5) (k := .u8) (by kernel_rfl) n) (flds_cons (enc := enc) (P := PP) (w := w) (n := n) (T := 5) (off := 2) (k := 1) (by kernel_rfl) (rds_int (T := 5) (k := .u8) (by kernel_rfl) n) flds_nil)))
    exact h.as (fun p : Int × Int × Int × Unit => Arr3_c_u8.mk p.1 p.2.1 p.2.2.1) (fun p => rfl)
theorem rd_Arr4_c_i8 {H : Type} {enc : TypeId × Value → H} {w : World} (n : Nat) : Rds enc PP w 169 c_Arr4_c_i8 n := by
  cases n with
  | zero => exact Rds.zero
  | succ n =>
    have h := rds_array (enc := enc) (P := PP) (w := w) (n := n) (T := 169) (ne := 4) (e := 168) (tot := 4) (by kernel_rfl) (by kernel_rfl) (flds_cons (enc := enc) (P := PP) (w := w) (n := n) (T := 168) (off := 0) (k := 1) (by kernel_rfl) (rds_int (T := 168) (k := .i8) (by kernel_rfl) n) (flds_cons (enc := enc) (P := PP) (w := w) (n := n) (T := 168) (off := 1) (k := 1) (by kernel_rfl) (rds_int (T := 168) (k := .i8) (by kernel_rfl) n) (flds_cons (enc := enc) (P := PP) (w := w) (n := n) (T := 168) (off := 2) (k := 1) (by kernel_rfl) (rds_int (T := 168) (k := .i8) (by kernel_rfl) n) (flds_cons (enc := enc) (P := PP) (w := w) (n := n) (T := 168) (off := 3) (k := 1) (by kernel_rfl) (rds_int (T := 168) (k := .i8) (by kernel_rfl) n) flds_nil))))
    exact h.as (fun p : Int × Int × Int × Int × Unit => Arr4_c_i8.mk p.1 p.2.1 p.2.2.1 p.2.2.2.1) (fun p => rfl)
theorem rd_ref05_Draft {H : Type} {enc : TypeId × Value → H} {w : World} (n : Nat) : Rds enc PP w 48 c_ref05_Draft n := by
  cases n with
  | zero => exact Rds.zero
  | succ n =>
    have h := rds_struct (enc := enc) (P := PP) (w := w) (n := n) (T := 48) (fs := [(45, 0), (46, 1)]) (tot := 2) (by kernel_rfl) (by kernel_rfl) (flds_cons (enc := enc) (P := PP) (w := w) (n := n) (T := 45) (off := 0) (k := 1) (by kernel_rfl) (Rds.cL (Rds.weak (rds_slice (e := 5) (c := c_u8) (by kernel_rfl) (by kernel_rfl) (by decide) (rds_int (T := 5) (k := .u8) (by kernel_rfl) n)))) (flds_cons (enc := enc) (P := PP) (w := w) (n := n) (T := 46) (off := 1) (k := 1) (by kernel_rfl) (Rds.cL (Rds.weak (rds_slice (e := 132) (c := c_Arr3_c_u8) (by kernel_rfl) (by kernel_rfl) (by decide) (rd_Arr3_c_u8 n)))) flds_nil))
    exact h.as (fun p : (List Int) × (List Arr3_c_u8) × Unit => ref05_Draft.mk p.1 p.2.1) (fun p => rfl)
theorem rd_ref21_Draft {H : Type} {enc : TypeId × Value → H} {w : World} (n : Nat) : Rds enc PP w 51 c_ref21_Draft n := by
  cases n with
  | zero => exact Rds.zero
  | succ n =>
    have h := rds_struct (enc := enc) (P := PP) (w := w) (n := n) (T := 51) (fs := [(48, 0), (46, 2), (49, 3)]) (tot := 4) (by kernel_rfl) (by kernel_rfl) (flds_cons (enc := enc) (P := PP) (w := w) (n := n) (T := 48) (off := 0) (k := 2) (by kernel_rfl) (rd_ref05_Draft n) (flds_cons (enc := enc) (P := PP) (w := w) (n := n) (T := 46) (off := 2) (k := 1) (by kernel_rfl) (Rds.cL (Rds.weak (rds_slice (e := 132) (c := c_Arr3_c_u8) (by kernel_rfl) (by kernel_rfl) (by decide) (rd_Arr3_c_u8 n)))) (flds_cons (enc := enc) (P := PP) (w := w) (n := n) (T := 49) (off := 3) (k := 1) (by kernel_rfl) (Rds.cL (Rds.weak (rds_slice (e := 169) (c := c_Arr4_c_i8) (by kernel_rfl) (by kernel_rfl) (by decide) (rd_Arr4_c_i8 n)))) flds_nil)))
    exact h.as (fun p : ref05_Draft × (List Arr3_c_u8) × (List Arr4_c_i8) × Unit => ref21_Draft.mk p.1 p.2.1 p.2.2.1) (fun p => rfl)
theorem rd_ref24_Draft {H : Type} {enc : TypeId × Value → H} {w : World} (n : Nat) : Rds enc PP w 55 c_ref24_Draft n := by
  cases n with
  | zero => exact Rds.zero
  | succ n =>
    have h := rds_struct (enc := enc) (P := PP) (w := w) (n := n) (T := 55) (fs := [(51, 0), (52, 4), (45, 5), (46, 6), (46, 7), (4, 8), (4, 9), (53, 10), (45, 14)]) (tot := 15) (by kernel_rfl) (by kernel_rfl) (flds_cons (enc := enc) (P := PP) (w := w) (n := n) (T := 51) (off := 0) (k := 4) (by kernel_rfl) (rd_ref21_Draft n) (flds_cons (enc := enc) (P := PP) (w := w) (n := n) (T := 52) (off := 4) (k := 1) (by kernel_rfl) (rds_int (T := 52) (k := .u64) (by kernel_rfl) n) (flds_cons (enc := enc) (P := PP) (w := w) (n := n) (T := 45) (off := 5) (k := 1) (by kernel_rfl) (Rds.cL (Rds.weak (rds_slice (e := 5) (c := c_u8) (by kernel_rfl) (by kernel_rfl) (by decide) (rds_int (T := 5) (k := .u8) (by kernel_rfl) n)))) (flds_cons (enc := enc) (P := PP) (w := w) (n := n) (T := 46) (off := 6) (k := 1) (by kernel_rfl) (Rds.cL (Rds.weak (rds_slice (e := 132) (c := c_Arr3_c_u8) (by kernel_rfl) (by kernel_rfl) (by decide) (rd_Arr3_c_u8 n)))) (flds_cons (enc := enc) (P := PP) (w := w) (n := n) (T := 46) (off := 7) (k := 1) (by kernel_rfl) (Rds.cL (Rds.weak (rds_slice (e := 132) (c := c_Arr3_c_u8) (by kernel_rfl) (by kernel_rfl) (by decide) (rd_Arr3_c_u8 n)))) (flds_cons (enc := enc) (P := PP) (w := w) (n := n) (T := 4) (off := 8) (k := 1) (by kernel_rfl) (rds_bool (T := 4) (by kernel_rfl) n) (flds_cons (enc := enc) (P := PP) (w := w) (n := n) (T := 4) (off := 9) (k := 1) (by kernel_rfl) (rds_bool (T := 4) (by kernel_rfl) n) (flds_cons (enc := enc) (P := PP) (w := w) (n := n) (T := 53) (off := 10) (k := 4) (by kernel_rfl) (rd_Arr4_c_u8 n) (flds_cons (enc := enc) (P := PP) (w := w) (n := n) (T := 45) (off := 14) (k := 1) (by kernel_rfl) (Rds.cL (Rds.weak (rds_slice (e := 5) (c := c_u8) (by kernel_rfl) (by kernel_rfl) (by decide) (rds_int (T := 5) (k := .u8) (by kernel_rfl) n)))) flds_nil)))))))))
    exact h.as (fun p : ref21_Draft × Int × (List Int) × (List Arr3_c_u8) × (List Arr3_c_u8) × Bool × Bool × Arr4_c_u8 × (List Int) × Unit => ref24_Draft.mk p.1 p.2.1 p.2.2.1 p.2.2.2.1 p.2.2.2.2.1 p.2.2.2.2.2.1 p.2.2.2.2.2.2.1 p.2.2.2.2.2.2.2.1 p.2.2.2.2.2.2.2.2.1) (fun p => rfl)
end Go.Proofs.YtpnfoacmgfklaaaGreat.K
