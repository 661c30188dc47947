/- Lists of small numbers in lexicographic order. -/
import Derived.Test.YtngimdmkomkeoaaGreatLawH
set_option linter.unusedVariables false
set_option linter.unusedSimpArgs false
namespace Go.Proofs.YtngimdmkomkeoaaGreat.K
open Go.RowKit Go.Proofs
def Box (k : Nat) (l : List Int) : Prop := l.length = k ∧ ∀ x ∈ l, 0 ≤ x ∧ x ≤ 6
def tot : List Int → Int
  | [] => 0
  | x :: xs => x + tot xs
def z45 : List Int → List Int → Prop
  | [], _ => True
  | _ :: _, [] => False
  | x :: xs, y :: ys => x < y ∨ (x = y ∧ z45 xs ys)
def z4t : List Int → List Int → Prop
  | [], [] => False
  | [], _ :: _ => True
  | _ :: _, [] => False
  | x :: xs, y :: ys => x < y ∨ (x = y ∧ z4t xs ys)
theorem Box.cons {k : Nat} {x : Int} {l : List Int} : Box (k + 1) (x :: l) ↔ (0 ≤ x ∧ x ≤ 6) ∧ Box k l := by
  unfold Box
  constructor
  · rintro ⟨h1, h2⟩
    exact ⟨h2 x (by simp), by simpa using h1, fun y hy => h2 y (by simp [hy])⟩
  · rintro ⟨h1, h2, h3⟩
    refine ⟨by simp [h2], fun y hy => ?_⟩
    rcases List.mem_cons.1 hy with e | hy
    · subst e; exact h1
    · exact h3 y hy
theorem Box.nil {l : List Int} (h : Box 0 l) : l = [] := List.eq_nil_of_length_eq_zero h.1
theorem Box.succ {k : Nat} {l : List Int} (h : Box (k + 1) l) : ∃ x t, l = x :: t ∧ (0 ≤ x ∧ x ≤ 6) ∧ Box k t := by
  obtain ⟨x, t, rfl⟩ := List.exists_cons_of_length_eq_add_one h.1
  exact ⟨x, t, rfl, Box.cons.1 h⟩
theorem Box.tot0 {k : Nat} {l : List Int} (h : Box k l) : 0 ≤ tot l ∧ tot l ≤ 6 * k := by
  induction k generalizing l with
  | zero => rw [h.nil]; simp [tot]
  | succ k ih =>
    obtain ⟨x, t, rfl, hx, ht⟩ := h.succ
    have := ih ht
    simp only [tot]; omega
theorem z45.refl : ∀ l, z45 l l
  | [] => trivial
  | x :: xs => .inr ⟨rfl, z45.refl xs⟩
theorem z45.antisymm : ∀ {a b : List Int}, a.length = b.length → z45 a b → z45 b a → a = b
  | [], [], _, _, _ => rfl
  | x :: xs, y :: ys, h, h1, h2 => by
    simp only [z45] at h1 h2
    rcases h1 with h1 | ⟨e, h1⟩
    · rcases h2 with h2 | ⟨e, h2⟩ <;> omega
    · subst e
      rcases h2 with h2 | ⟨_, h2⟩
      · omega
      · rw [z45.antisymm (by simpa using h) h1 h2]
theorem z4t.not_le : ∀ {a b : List Int}, a.length = b.length → z4t a b → ¬ z45 b a
  | [], [], _, h, _ => h
  | x :: xs, y :: ys, h, h1, h2 => by
    simp only [z45, z4t] at h1 h2
    rcases h1 with h1 | ⟨e, h1⟩
    · rcases h2 with h2 | ⟨e, h2⟩ <;> omega
    · subst e
      rcases h2 with h2 | ⟨_, h2⟩
      · omega
      · exact h1.not_le (by simpa using h) h2
theorem lex_total : ∀ {a b : List Int}, a.length = b.length → z4t a b ∨ z45 b a
  | [], [], _ => .inr trivial
  | x :: xs, y :: ys, h => by
    simp only [z45, z4t]
    rcases Int.lt_trichotomy x y with h1 | h1 | h1
    · exact .inl (.inl h1)
    · subst h1
      rcases lex_total (a := xs) (b := ys) (by simpa using h) with h2 | h2
      · exact .inl (.inr ⟨rfl, h2⟩)
      · exact .inr (.inr ⟨rfl, h2⟩)
    · exact .inr (.inl h1)
theorem z4t.le : ∀ {a b : List Int}, z4t a b → z45 a b
  | [], _, _ => trivial
  | x :: xs, [], h => h
  | x :: xs, y :: ys, h => by
    simp only [z45, z4t] at h ⊢
    rcases h with h | ⟨e, h⟩
    · exact .inl h
    · exact .inr ⟨e, h.le⟩
theorem z45.trans : ∀ {a b c : List Int}, z45 a b → z45 b c → z45 a c
  | [], _, _, _, _ => trivial
  | x :: xs, [], _, h, _ => h.elim
  | x :: xs, y :: ys, [], _, h => h.elim
  | x :: xs, y :: ys, z :: zs, h, k => by
    simp only [z45] at h k ⊢
    rcases h with h | ⟨e, h⟩
    · rcases k with k | ⟨e, k⟩
      · exact .inl (by omega)
      · exact .inl (by omega)
    · rcases k with k | ⟨e', k⟩
      · exact .inl (by omega)
      · exact .inr ⟨by omega, h.trans k⟩
theorem z45.append (p : List Int) {a b : List Int} (h : z45 a b) : z45 (p ++ a) (p ++ b) := by
  induction p with
  | nil => exact h
  | cons x xs ih => exact .inr ⟨rfl, ih⟩
def code : List Int → Nat
  | [] => 0
  | x :: xs => x.toNat * 7 ^ xs.length + code xs
theorem code_lt {k : Nat} {l : List Int} (h : Box k l) : code l < 7 ^ k := by
  induction k generalizing l with
  | zero => rw [h.nil]; simp [code]
  | succ k ih =>
    obtain ⟨x, t, rfl, hx, ht⟩ := h.succ
    have h1 := ih ht
    simp only [code]
    rw [ht.1]
    have h2 : x.toNat ≤ 6 := by omega
    have h3 : x.toNat * 7 ^ k ≤ 6 * 7 ^ k := Nat.mul_le_mul_right _ h2
    have h4 : 7 ^ (k + 1) = 7 * 7 ^ k := by rw [Nat.pow_succ, Nat.mul_comm]
    omega
theorem z4t.code {k : Nat} {a b : List Int} (ha : Box k a) (hb : Box k b) (h : z4t a b) : code a < code b := by
  induction k generalizing a b with
  | zero => rw [ha.nil, hb.nil] at h; exact h.elim
  | succ k ih =>
    obtain ⟨x, t, rfl, hx, ht⟩ := ha.succ
    obtain ⟨y, u, rfl, hy, hu⟩ := hb.succ
    simp only [K.code, z4t] at h ⊢
    rw [ht.1, hu.1]
    have h1 := code_lt ht
    rcases h with h | ⟨e, h⟩
    · have h2 : x.toNat + 1 ≤ y.toNat := by omega
      have h3 : (x.toNat + 1) * 7 ^ k ≤ y.toNat * 7 ^ k := Nat.mul_le_mul_right _ h2
      rw [Nat.add_mul] at h3
      omega
    · subst e
      have := ih ht hu h
      omega
theorem lex_next {pre : List Int} {a : Int} {m : Nat} (ha : a < 6) :
    z4t (pre ++ a :: List.replicate m 6) (pre ++ (a + 1) :: List.replicate m 0) ∧ ∀ t, Box (pre.length + (m + 1)) t → z4t (pre ++ a :: List.replicate m 6) t → z45 (pre ++ (a + 1) :: List.replicate m 0) t := by
  have zero_le : ∀ m t, Box m t → z45 (List.replicate m 0) t := by
    intro m
    induction m with
    | zero => intro t _; trivial
    | succ m ih =>
      intro t ht
      obtain ⟨y, u, rfl, hy, hu⟩ := ht.succ
      rw [List.replicate_succ]
      simp only [z45]
      by_cases h : 0 < y
      · exact .inl h
      · exact .inr ⟨by omega, ih u hu⟩
  have not_six : ∀ m t, Box m t → ¬ z4t (List.replicate m 6) t := by
    intro m
    induction m with
    | zero => intro t ht h; rw [ht.nil] at h; exact h
    | succ m ih =>
      intro t ht h
      obtain ⟨y, u, rfl, hy, hu⟩ := ht.succ
      rw [List.replicate_succ] at h
      simp only [z4t] at h
      rcases h with h | ⟨_, h⟩
      · omega
      · exact ih u hu h
  induction pre with
  | nil =>
    refine ⟨.inl (by omega), fun t ht h => ?_⟩
    simp only [List.length_nil, Nat.zero_add] at ht
    obtain ⟨y, u, rfl, hy, hu⟩ := ht.succ
    simp only [List.nil_append, z4t, z45] at h ⊢
    rcases h with h | ⟨_, h⟩
    · by_cases e : a + 1 < y
      · exact .inl e
      · exact .inr ⟨by omega, zero_le m u hu⟩
    · exact absurd h (not_six m u hu)
  | cons x xs ih =>
    refine ⟨.inr ⟨rfl, ih.1⟩, fun t ht h => ?_⟩
    have e : (x :: xs).length + (m + 1) = (xs.length + (m + 1)) + 1 := by simp; omega
    rw [e] at ht
    obtain ⟨y, u, rfl, hy, hu⟩ := ht.succ
    simp only [List.cons_append, z4t, z45] at h ⊢
    rcases h with h | ⟨e, h⟩
    · exact .inl h
    · exact .inr ⟨e, ih.2 u hu h⟩
theorem lex_last : ∀ (m : Nat) (t : List Int), Box m t → z45 t (List.replicate m 6) := by
  intro m
  induction m with
  | zero => intro t ht; rw [ht.nil]; trivial
  | succ m ih =>
    intro t ht
    obtain ⟨y, u, rfl, hy, hu⟩ := ht.succ
    rw [List.replicate_succ]
    simp only [z45]
    by_cases h : y < 6
    · exact .inl h
    · exact .inr ⟨by omega, ih u hu⟩
def Best (k : Nat) (G : List Int → Prop) (b : List Int) : Prop := Box k b ∧ G b ∧ ∀ t, Box k t → G t → tot b < tot t ∨ (tot b = tot t ∧ z45 b t)
theorem Best.uniq {k : Nat} {G : List Int → Prop} {a b : List Int} (ha : Best k G a) (hb : Best k G b) : a = b := by
  rcases ha.2.2 b hb.1 hb.2.1 with h | ⟨e, h⟩
  · rcases hb.2.2 a ha.1 ha.2.1 with h' | ⟨e', h'⟩ <;> omega
  · rcases hb.2.2 a ha.1 ha.2.1 with h' | ⟨e', h'⟩
    · omega
    · exact z45.antisymm (by rw [ha.1.1, hb.1.1]) h h'
end Go.Proofs.YtngimdmkomkeoaaGreat.K
