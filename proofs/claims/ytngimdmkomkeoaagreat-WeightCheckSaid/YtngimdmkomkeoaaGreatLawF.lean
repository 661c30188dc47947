/- Lists of small numbers in lexicographic order. -/
import Derived.Test.YtngimdmkomkeoaaGreatLawH
set_option linter.unusedVariables false
set_option linter.unusedSimpArgs false
namespace Go.Proofs.YtngimdmkomkeoaaGreat.K
open Go.RowKit Go.Proofs
def Box (k : Nat) (l : List Int) : Prop := l.length = k ∧ ∀ x ∈ l, 0 ≤ x ∧ x ≤ 6
def tot : List Int → Int
  | [] => 0
  | x :: xs => x + tot xs
def LexLe : List Int → List Int → Prop
  | [], _ => True
  | _ :: _, [] => False
  | x :: xs, y :: ys => x < y ∨ (x = y ∧ LexLe xs ys)
def LexLt : List Int → List Int → Prop
  | [], [] => False
  | [], _ :: _ => True
  | _ :: _, [] => False
  | x :: xs, y :: ys => x < y ∨ (x = y ∧ LexLt xs ys)
theorem Box.cons {k : Nat} {x : Int} {l : List Int} : Box (k + 1) (x :: l) ↔ (0 ≤ x ∧ x ≤ 6) ∧ Box k l := by
  unfold Box
  constructor
  · rintro ⟨h1, h2⟩
    exact ⟨h2 x (by simp), by simpa using h1, fun y hy => h2 y (by simp [hy])⟩
  · rintro ⟨h1, h2, h3⟩
    refine ⟨by simp [h2], fun y hy => ?_⟩
    rcases List.mem_cons.1 hy with e | hy
    · subst e; exact h1
    · exact h3 y hy
theorem Box.nil {l : List Int} (h : Box 0 l) : l = [] := List.eq_nil_of_length_eq_zero h.1
theorem Box.succ {k : Nat} {l : List Int} (h : Box (k + 1) l) : ∃ x t, l = x :: t ∧ (0 ≤ x ∧ x ≤ 6) ∧ Box k t := by
  obtain ⟨x, t, rfl⟩ := List.exists_cons_of_length_eq_add_one h.1
  exact ⟨x, t, rfl, Box.cons.1 h⟩
theorem LexLe.refl : ∀ l, LexLe l l
  | [] => trivial
  | x :: xs => .inr ⟨rfl, LexLe.refl xs⟩
theorem LexLe.antisymm : ∀ {a b : List Int}, a.length = b.length → LexLe a b → LexLe b a → a = b
  | [], [], _, _, _ => rfl
  | x :: xs, y :: ys, h, h1, h2 => by
    simp only [LexLe] at h1 h2
    rcases h1 with h1 | ⟨e, h1⟩
    · rcases h2 with h2 | ⟨e, h2⟩ <;> omega
    · subst e
      rcases h2 with h2 | ⟨_, h2⟩
      · omega
      · rw [LexLe.antisymm (by simpa using h) h1 h2]
theorem LexLt.not_le : ∀ {a b : List Int}, a.length = b.length → LexLt a b → ¬ LexLe b a
  | [], [], _, h, _ => h
  | x :: xs, y :: ys, h, h1, h2 => by
    simp only [LexLe, LexLt] at h1 h2
    rcases h1 with h1 | ⟨e, h1⟩
    · rcases h2 with h2 | ⟨e, h2⟩ <;> omega
    · subst e
      rcases h2 with h2 | ⟨_, h2⟩
      · omega
      · exact h1.not_le (by simpa using h) h2
theorem LexLt.le : ∀ {a b : List Int}, LexLt a b → LexLe a b
  | [], _, _ => trivial
  | x :: xs, [], h => h
  | x :: xs, y :: ys, h => by
    simp only [LexLe, LexLt] at h ⊢
    rcases h with h | ⟨e, h⟩
    · exact .inl h
    · exact .inr ⟨e, h.le⟩
theorem LexLe.trans : ∀ {a b c : List Int}, LexLe a b → LexLe b c → LexLe a c
  | [], _, _, _, _ => trivial
  | x :: xs, [], _, h, _ => h.elim
  | x :: xs, y :: ys, [], _, h => h.elim
  | x :: xs, y :: ys, z :: zs, h, k => by
    simp only [LexLe] at h k ⊢
    rcases h with h | ⟨e, h⟩
    · rcases k with k | ⟨e, k⟩
      · exact .inl (by omega)
      · exact .inl (by omega)
    · rcases k with k | ⟨e', k⟩
      · exact .inl (by omega)
      · exact .inr ⟨by omega, h.trans k⟩
theorem LexLe.append (p : List Int) {a b : List Int} (h : LexLe a b) : LexLe (p ++ a) (p ++ b) := by
  induction p with
  | nil => exact h
  | cons x xs ih => exact .inr ⟨rfl, ih⟩
def code : List Int → Nat
  | [] => 0
  | x :: xs => x.toNat * 7 ^ xs.length + code xs
theorem code_lt {k : Nat} {l : List Int} (h : Box k l) : code l < 7 ^ k := by
  induction k generalizing l with
  | zero => rw [h.nil]; simp [code]
  | succ k ih =>
    obtain ⟨x, t, rfl, hx, ht⟩ := h.succ
    have h1 := ih ht
    simp only [code]
    rw [ht.1]
    have h2 : x.toNat ≤ 6 := by omega
    have h3 : x.toNat * 7 ^ k ≤ 6 * 7 ^ k := Nat.mul_le_mul_right _ h2
    have h4 : 7 ^ (k + 1) = 7 * 7 ^ k := by rw [Nat.pow_succ, Nat.mul_comm]
    omega
theorem LexLt.code {k : Nat} {a b : List Int} (ha : Box k a) (hb : Box k b) (h : LexLt a b) : code a < code b := by
  induction k generalizing a b with
  | zero => rw [ha.nil, hb.nil] at h; exact h.elim
  | succ k ih =>
    obtain ⟨x, t, rfl, hx, ht⟩ := ha.succ
    obtain ⟨y, u, rfl, hy, hu⟩ := hb.succ
    simp only [K.code, LexLt] at h ⊢
    rw [ht.1, hu.1]
    have h1 := code_lt ht
    rcases h with h | ⟨e, h⟩
    · have h2 : x.toNat + 1 ≤ y.toNat := by omega
      have h3 : (x.toNat + 1) * 7 ^ k ≤ y.toNat * 7 ^ k := Nat.mul_le_mul_right _ h2
      rw [Nat.add_mul] at h3
      omega
    · subst e
      have := ih ht hu h
      omega
def Best (k : Nat) (G : List Int → Prop) (b : List Int) : Prop := Box k b ∧ G b ∧ ∀ t, Box k t → G t → tot b < tot t ∨ (tot b = tot t ∧ LexLe b t)
theorem Best.uniq {k : Nat} {G : List Int → Prop} {a b : List Int} (ha : Best k G a) (hb : Best k G b) : a = b := by
  rcases ha.2.2 b hb.1 hb.2.1 with h | ⟨e, h⟩
  · rcases hb.2.2 a ha.1 ha.2.1 with h' | ⟨e', h'⟩ <;> omega
  · rcases hb.2.2 a ha.1 ha.2.1 with h' | ⟨e', h'⟩
    · omega
    · exact LexLe.antisymm (by rw [ha.1.1, hb.1.1]) h h'
end Go.Proofs.YtngimdmkomkeoaaGreat.K
