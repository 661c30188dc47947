import Derived.Test.YtngimdmkomkeoaaGreatLawH
set_option linter.unusedVariables false
set_option linter.unusedSimpArgs false
namespace Go.Proofs.YtngimdmkomkeoaaGreat.K
open Go.RowKit Go.Proofs
def cN (k : Nat) (l : List Int) : Prop := l.length = k ∧ ∀ x ∈ l, 0 ≤ x ∧ x ≤ 6
def tot : List Int → Int
  | [] => 0
  | x :: xs => x + tot xs
def dN : List Int → List Int → Prop
  | [], _ => True
  | _ :: _, [] => False
  | x :: xs, y :: ys => x < y ∨ (x = y ∧ dN xs ys)
def fW : List Int → List Int → Prop
  | [], [] => False
  | [], _ :: _ => True
  | _ :: _, [] => False
  | x :: xs, y :: ys => x < y ∨ (x = y ∧ fW xs ys)
theorem cN.cons {k : Nat} {x : Int} {l : List Int} : cN (k + 1) (x :: l) ↔ (0 ≤ x ∧ x ≤ 6) ∧ cN k l := by
  unfold cN
  constructor
  · rintro ⟨h1, h2⟩
    exact ⟨h2 x (by simp), by simpa using h1, fun y hy => h2 y (by simp [hy])⟩
  · rintro ⟨h1, h2, h3⟩
    refine ⟨by simp [h2], fun y hy => ?_⟩
    rcases List.mem_cons.1 hy with e | hy
    · subst e; exact h1
    · exact h3 y hy
theorem cN.nil {l : List Int} (h : cN 0 l) : l = [] := List.eq_nil_of_length_eq_zero h.1
theorem cN.succ {k : Nat} {l : List Int} (h : cN (k + 1) l) : ∃ x t, l = x :: t ∧ (0 ≤ x ∧ x ≤ 6) ∧ cN k t := by
  obtain ⟨x, t, rfl⟩ := List.exists_cons_of_length_eq_add_one h.1
  exact ⟨x, t, rfl, cN.cons.1 h⟩
theorem cN.tot0 {k : Nat} {l : List Int} (h : cN k l) : 0 ≤ tot l ∧ tot l ≤ 6 * k := by
  induction k generalizing l with
  | zero => rw [h.nil]; simp [tot]
  | succ k ih =>
    obtain ⟨x, t, rfl, hx, ht⟩ := h.succ
    have := ih ht
    simp only [tot]; omega
theorem dN.refl : ∀ l, dN l l
  | [] => trivial
  | x :: xs => .inr ⟨rfl, dN.refl xs⟩
theorem dN.antisymm : ∀ {a b : List Int}, a.length = b.length → dN a b → dN b a → a = b
  | [], [], _, _, _ => rfl
  | x :: xs, y :: ys, h, h1, h2 => by
    simp only [dN] at h1 h2
    rcases h1 with h1 | ⟨e, h1⟩
    · rcases h2 with h2 | ⟨e, h2⟩ <;> omega
    · subst e
      rcases h2 with h2 | ⟨_, h2⟩
      · omega
      · rw [dN.antisymm (by simpa using h) h1 h2]
theorem fW.not_le : ∀ {a b : List Int}, a.length = b.length → fW a b → ¬ dN b a
  | [], [], _, h, _ => h
  | x :: xs, y :: ys, h, h1, h2 => by
    simp only [dN, fW] at h1 h2
    rcases h1 with h1 | ⟨e, h1⟩
    · rcases h2 with h2 | ⟨e, h2⟩ <;> omega
    · subst e
      rcases h2 with h2 | ⟨_, h2⟩
      · omega
      · exact h1.not_le (by simpa using h) h2
theorem fW.le : ∀ {a b : List Int}, fW a b → dN a b
  | [], _, _ => trivial
  | x :: xs, [], h => h
  | x :: xs, y :: ys, h => by
    simp only [dN, fW] at h ⊢
    rcases h with h | ⟨e, h⟩
    · exact .inl h
    · exact .inr ⟨e, h.le⟩
theorem dN.trans : ∀ {a b c : List Int}, dN a b → dN b c → dN a c
  | [], _, _, _, _ => trivial
  | x :: xs, [], _, h, _ => h.elim
  | x :: xs, y :: ys, [], _, h => h.elim
  | x :: xs, y :: ys, z :: zs, h, k => by
    simp only [dN] at h k ⊢
    rcases h with h | ⟨e, h⟩
    · rcases k with k | ⟨e, k⟩
      · exact .inl (by omega)
      · exact .inl (by omega)
    · rcases k with k | ⟨e', k⟩
      · exact .inl (by omega)
      · exact .inr ⟨by omega, h.trans k⟩
theorem dN.append (p : List Int) {a b : List Int} (h : dN a b) : dN (p ++ a) (p ++ b) := by
  induction p with
  | nil => exact h
  | cons x xs ih => exact .inr ⟨rfl, ih⟩
def code : List Int → Nat
  | [] => 0
  | x :: xs => x.toNat * 7 ^ xs.length + code xs
theorem GH {k : Nat} {l : List Int} (h : cN k l) : code l < 7 ^ k := by
  induction k generalizing l with
  | zero => rw [h.nil]; simp [code]
  | succ k ih =>
    obtain ⟨x, t, rfl, hx, ht⟩ := h.succ
    have h1 := ih ht
    simp only [code]
    rw [ht.1]
    have h2 : x.toNat ≤ 6 := by omega
    have h3 : x.toNat * 7 ^ k ≤ 6 * 7 ^ k := Nat.mul_le_mul_right _ h2
    have h4 : 7 ^ (k + 1) = 7 * 7 ^ k := by rw [Nat.pow_succ, Nat.mul_comm]
    omega
theorem fW.code {k : Nat} {a b : List Int} (ha : cN k a) (hb : cN k b) (h : fW a b) : code a < code b := by
  induction k generalizing a b with
  | zero => rw [ha.nil, hb.nil] at h; exact h.elim
  | succ k ih =>
    obtain ⟨x, t, rfl, hx, ht⟩ := ha.succ
    obtain ⟨y, u, rfl, hy, hu⟩ := hb.succ
    simp only [K.code, fW] at h ⊢
    rw [ht.1, hu.1]
    have h1 := GH ht
    rcases h with h | ⟨e, h⟩
    · have h2 : x.toNat + 1 ≤ y.toNat := by omega
      have h3 : (x.toNat + 1) * 7 ^ k ≤ y.toNat * 7 ^ k := Nat.mul_le_mul_right _ h2
      rw [Nat.add_mul] at h3
      omega
    · subst e
      have := ih ht hu h
      omega
def lW (k : Nat) (G : List Int → Prop) (b : List Int) : Prop := cN k b ∧ G b ∧ ∀ t, cN k t → G t → tot b < tot t ∨ (tot b = tot t ∧ dN b t)
theorem lW.uniq {k : Nat} {G : List Int → Prop} {a b : List Int} (ha : lW k G a) (hb : lW k G b) : a = b := by
  rcases ha.2.2 b hb.1 hb.2.1 with h | ⟨e, h⟩
  · rcases hb.2.2 a ha.1 ha.2.1 with h' | ⟨e', h'⟩ <;> omega
  · rcases hb.2.2 a ha.1 ha.2.1 with h' | ⟨e', h'⟩
    · omega
    · exact dN.antisymm (by rw [ha.1.1, hb.1.1]) h h'
end Go.Proofs.YtngimdmkomkeoaaGreat.K
