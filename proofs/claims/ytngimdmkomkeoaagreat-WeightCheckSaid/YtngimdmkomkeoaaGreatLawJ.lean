/- Weights: products, and the program's search for the least ones. -/
import Derived.Test.YtngimdmkomkeoaaGreatLawE
import Derived.Test.YtngimdmkomkeoaaGreatLawF
set_option linter.unusedVariables false
set_option linter.unusedSimpArgs false
namespace Go.Proofs.YtngimdmkomkeoaaGreat.K
open Go.RowKit Go.Proofs
theorem product_law {a b : List Int} (hab : a.length ≤ b.length) (hl : a.length ≤ 100) (hb : ∀ i : Int, 0 ≤ i → i < (a.length : Int) → -1000000 ≤ nth a i * nth b i ∧ nth a i * nth b i ≤ 1000000) : z85 a b = some (sumN (fun i => nth a i * nth b i) a.length) := by
  unfold z85
  obtain ⟨r, r1, r2⟩ := z3b (F := weight_product_l1 a b) (fun x : Int × Int => 0 ≤ x.2 ∧ x.2 ≤ (a.length : Int) ∧ x.1 = sumN (fun i => nth a i * nth b i) x.2.toNat) (fun x => ((a.length : Int) - x.2).toNat) (fun r => r = sumN (fun i => nth a i * nth b i) a.length) (fun x hp => by
    obtain ⟨s, i⟩ := x
    obtain ⟨p1, p2, p3⟩ := hp
    simp only at p1 p2 p3
    obtain ⟨i, rfl⟩ := Int.eq_ofNat_of_zero_le p1
    simp only [Int.toNat_natCast] at p3
    unfold weight_product_l1
    simp only
    by_cases hi : (i : Int) < (a.length : Int)
    · have h1 := hb i p1 hi
      have h2 := sumN_bd (f := fun i => nth a i * nth b i) (B := 1000000) i (fun j a b => hb j a (by omega))
      rw [if_pos hi, if_pos ⟨p1, hi⟩, if_pos ⟨p1, by omega⟩, z34 (by omega) (by omega)]
      simp only [Option.bind_some]
      rw [z34 (by rw [p3]; omega) (by rw [p3]; omega)]
      refine .inl ⟨_, rfl, ⟨by simp only; omega, by simp only; omega, ?_⟩, by simp only; omega⟩
      have e : ((i : Int) + 1).toNat = i + 1 := by omega
      simp only [e, sumN, p3]
    · rw [if_neg hi]
      have : i = a.length := by omega
      subst this
      exact .inr ⟨_, rfl, p3⟩) (0, 0) ⟨by simp, by simp, by simp [sumN]⟩
  rw [r1, r2]
theorem rproduct_eq : ref39_Product = z85 := rfl
def low (E : List (List Int)) (w : List Int) : Bool := E.all fun l => decide (sumN (fun i => nth l i * nth w i) l.length ≤ -1)
theorem proves_law {E : List (List Int)} {N : Nat} (hr : ∀ l ∈ E, l.length = N ∧ Bd 1000 l) (hN : N ≤ 32) {w : List Int} (hw : w.length = N) (hb : Bd 1000 w) : z9j E w = some (low E w) := by
  unfold z9j
  rw [cont_rows, cont_any (q := fun l => !decide (sumN (fun i => nth l i * nth w i) l.length ≤ -1)) E (fun l hl => by
    obtain ⟨h1, h2⟩ := hr l hl
    unfold z9i
    rw [product_law (by omega) (by omega) (fun i i0 i1 => mul_bd (A := 1000) (B := 1000) (by omega) (by omega) (h2.nth i0 i1) (hb.nth i0 (by omega)))]
    simp only [Option.bind_some]
    congr 1
    by_cases h : sumN (fun i => nth l i * nth w i) l.length ≤ -1
    · simp only [h, decide_true, Bool.not_true, decide_eq_false_iff_not]; omega
    · simp only [h, decide_false, Bool.not_false, decide_eq_true_eq]; omega)]
  unfold low
  simp only [Option.bind_some]
  congr 1
  rw [List.all_eq_not_any_not]
theorem mem_tch {E : List (List Int)} : ∀ {n : Nat} {j : Int}, 0 ≤ j → j < (n : Int) → hit E j = true → j ∈ tch E n
  | 0, j, h0, h1, _ => by omega
  | n + 1, j, h0, h1, h => by
    simp only [tch]
    by_cases e : j = (n : Int)
    · subst e; rw [if_pos h]; simp
    · have := mem_tch (E := E) (n := n) h0 (by omega) h
      split
      · exact List.mem_append_left _ this
      · exact this
structure OutOk (E : List (List Int)) (N : Nat) (o : List Int) : Prop where
  len : o.length = N
  z : ∀ j : Int, 0 ≤ j → j < (N : Int) → hit E j = false → nth o j = 0
structure Sp (E : List (List Int)) (N : Nat) (o l : List Int) : Prop extends OutOk E N o where
  at_ : ∀ i : Int, 0 ≤ i → i < ((tch E N).length : Int) → nth o (nth (tch E N) i) = nth l i
theorem Sp.uniq {E : List (List Int)} {N : Nat} {o o' l : List Int} (h : Sp E N o l) (h' : Sp E N o' l) : o = o' := by
  refine ext_nth' (by rw [h.len, h'.len]) fun j j0 j1 => ?_
  rw [h.len] at j1
  cases hh : hit E j
  · rw [h.z j j0 j1 hh, h'.z j j0 j1 hh]
  · obtain ⟨i, i0, i1, e⟩ := z80 (mem_tch j0 j1 hh)
    rw [← e, h.at_ i i0 i1, h'.at_ i i0 i1]
def good (E : List (List Int)) (N : Nat) (l : List Int) : Bool := E.all fun e => decide (sumN (fun i => nth e (nth (tch E N) i) * nth l i) (tch E N).length ≤ -1)
theorem all_congr' {α : Type} {p q : α → Bool} {xs : List α} (h : ∀ x ∈ xs, p x = q x) : xs.all p = xs.all q := by
  induction xs with
  | nil => rfl
  | cons x xs ih => simp only [List.all_cons]; rw [h x (by simp), ih fun y hy => h y (by simp [hy])]
theorem Box.set {n : Nat} {l : List Int} (h : Box n l) {a : Nat} {v : Int} (hv : 0 ≤ v ∧ v ≤ 6) : Box n (l.set a v) := ⟨by simp [h.1], fun x hx => by
  rcases List.mem_or_eq_of_mem_set hx with h1 | h1
  · exact h.2 x h1
  · rw [h1]; exact hv⟩
end Go.Proofs.YtngimdmkomkeoaaGreat.K
