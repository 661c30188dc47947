/- Weights: the document's search for the least ones; what Find and Check say. -/
import Derived.Test.YtngimdmkomkeoaaGreatLawJ
set_option linter.unusedVariables false
set_option linter.unusedSimpArgs false
namespace Go.Proofs.YtngimdmkomkeoaaGreat.K
open Go.RowKit Go.Proofs
theorem LexLt.trans : ∀ {a b c : List Int}, LexLt a b → LexLt b c → LexLt a c
  | [], [], _, h, _ => h.elim
  | [], _ :: _, [], _, h => h.elim
  | [], _ :: _, _ :: _, _, _ => trivial
  | _ :: _, [], _, h, _ => h.elim
  | _ :: _, _ :: _, [], _, h => h.elim
  | x :: xs, y :: ys, z :: zs, h, k => by
    simp only [LexLt] at h k ⊢
    rcases h with h | ⟨e, h⟩
    · rcases k with k | ⟨e, k⟩
      · exact .inl (by omega)
      · exact .inl (by omega)
    · rcases k with k | ⟨e', k⟩
      · exact .inl (by omega)
      · exact .inr ⟨by omega, h.trans k⟩
theorem tot_snoc (l : List Int) (v : Int) : tot (l ++ [v]) = tot l + v := by
  induction l with
  | nil => simp [tot]
  | cons x xs ih => simp only [List.cons_append, tot]; rw [ih]; omega
theorem tot_sum (l : List Int) : ∀ n : Nat, n ≤ l.length → tot (l.take n) = sumN (fun i => nth l i) n
  | 0, _ => by simp [tot, sumN]
  | n + 1, h => by
    rw [List.take_succ_eq_append_getElem (by omega), tot_snoc, tot_sum l n (by omega)]
    simp only [sumN]
    rw [z54 l n (by omega)]
theorem total_law {l : List Int} (hl : l.length ≤ 100) (hb : Bd 1000 l) : ref39_total l = some (tot l) := by
  unfold ref39_total
  obtain ⟨r, r1, r2⟩ := z3b (F := ref39_total_l1 l) (fun x : Int × Int => 0 ≤ x.2 ∧ x.2 ≤ (l.length : Int) ∧ x.1 = sumN (fun i => nth l i) x.2.toNat) (fun x => ((l.length : Int) - x.2).toNat) (fun r => r = sumN (fun i => nth l i) l.length) (fun x hp => by
    obtain ⟨s, i⟩ := x
    obtain ⟨p1, p2, p3⟩ := hp
    simp only at p1 p2 p3
    obtain ⟨i, rfl⟩ := Int.eq_ofNat_of_zero_le p1
    simp only [Int.toNat_natCast] at p3
    unfold ref39_total_l1
    simp only
    by_cases hi : (i : Int) < (l.length : Int)
    · have h1 := hb.nth p1 hi
      have h2 := sumN_bd (f := fun i => nth l i) (B := 1000) i (fun j a b => hb.nth a (by omega))
      rw [if_pos hi, if_pos ⟨p1, hi⟩, z34 (by rw [p3]; omega) (by rw [p3]; omega)]
      refine .inl ⟨_, rfl, ⟨by simp only; omega, by simp only; omega, ?_⟩, by simp only; omega⟩
      have e : ((i : Int) + 1).toNat = i + 1 := by omega
      simp only [e, sumN, p3]
    · rw [if_neg hi]
      have : i = l.length := by omega
      subst this
      exact .inr ⟨_, rfl, p3⟩) (0, 0) ⟨by simp, by simp, by simp [sumN]⟩
  rw [r1, r2, ← tot_sum l l.length (Nat.le_refl _), List.take_length]
theorem lowers_law {S : List (List Int)} {w : List Int} (hw : w.length ≤ 100) (h : ∀ row ∈ S, w.length ≤ row.length ∧ ∀ i : Int, 0 ≤ i → i < (w.length : Int) → -1000000 ≤ nth w i * nth row i ∧ nth w i * nth row i ≤ 1000000) :
    ref39_lowers w S = some (S.all fun row => decide (sumN (fun i => nth w i * nth row i) w.length ≤ -1)) := by
  unfold ref39_lowers
  rw [Iter_any S (fun row => !decide (sumN (fun i => nth w i * nth row i) w.length ≤ -1)) (c := false) (fin := some true) (fun i i0 i1 => by
    obtain ⟨h1, h2⟩ := h _ (z2u i0 i1)
    unfold ref39_lowers_l1
    rw [if_pos i1, if_pos ⟨i0, i1⟩, rproduct_eq, product_law h1 hw h2]
    simp only [Option.bind_some]
    by_cases hq : sumN (fun j => nth w j * nth (nth S i) j) w.length ≤ -1
    · rw [if_neg (by omega)]; simp [hq]
    · rw [if_pos (by omega)]; simp [hq]) (by unfold ref39_lowers_l1; rw [if_neg (by omega)]; rfl)]
  rw [List.all_eq_not_any_not]
  cases S.any fun row => !decide (sumN (fun i => nth w i * nth row i) w.length ≤ -1) <;> rfl
theorem rlow_law {E : List (List Int)} {N : Nat} (hr : ∀ l ∈ E, l.length = N ∧ Bd 1000 l) (hN : N ≤ 32) {w : List Int} (hw : w.length = N) (hb : Bd 1000 w) : ref39_lowers w E = some (low E w) := by
  rw [lowers_law (by omega) (fun row hrow => by
    obtain ⟨h1, h2⟩ := hr row hrow
    exact ⟨by omega, fun i i0 i1 => mul_bd (A := 1000) (B := 1000) (by omega) (by omega) (hb.nth i0 i1) (h2.nth i0 (by omega))⟩)]
  congr 1
  unfold low
  refine all_congr' fun e he => ?_
  rw [(hr e he).1, hw]
  have : sumN (fun i => nth w i * nth e i) N = sumN (fun i => nth e i * nth w i) N := sumN_congr _ fun i _ _ => Int.mul_comm _ _
  rw [this]
structure Seen (n : Nat) (G : List Int → Bool) (b : List Int) (f : Bool) (t : List Int) : Prop where
  s : G t = true → f = true ∧ (tot b < tot t ∨ (tot b = tot t ∧ LexLe b t))
end Go.Proofs.YtngimdmkomkeoaaGreat.K
