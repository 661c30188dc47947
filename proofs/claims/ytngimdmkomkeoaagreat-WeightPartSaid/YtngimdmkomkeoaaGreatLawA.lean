import Derived.Test.YtngimdmkomkeoaaGreatCoreQ
import Derived.IntWalk
set_option linter.unusedVariables false
set_option linter.unusedSimpArgs false
namespace Go.Proofs.YtngimdmkomkeoaaGreat.K
open Go.RowKit Go.Proofs
theorem bL {x : Int} (h0 : -9223372036854775808 ≤ x) (h1 : x ≤ 9223372036854775807) : bb x = x := IntWalk.i64_in x ⟨h0, h1⟩
theorem dw {α : Type} [Inhabited α] (xs : List α) (i : Nat) (h : i < xs.length) : nth xs (i : Int) = xs[i] := by
  simp [nth, List.getD, h]
theorem cu {α : Type} [Inhabited α] {xs : List α} {i : Int} (h0 : 0 ≤ i) (h1 : i < (xs.length : Int)) : nth xs i ∈ xs := by
  obtain ⟨k, rfl⟩ := Int.eq_ofNat_of_zero_le h0
  have hk : k < xs.length := by omega
  rw [dw xs k hk]; exact List.getElem_mem hk
theorem cl {σ β : Type} {F : σ → Option (σ ⊕ β)} (P : σ → Prop) (m : σ → Nat) (Q : β → Prop)
    (h : ∀ x, P x → (∃ x', F x = some (.inl x') ∧ P x' ∧ m x' < m x) ∨ (∃ b, F x = some (.inr b) ∧ Q b)) : ∀ x, P x → ∃ b, aE F x = some b ∧ Q b := by
  have key : ∀ n x, m x = n → P x → ∃ b, aE F x = some b ∧ Q b := by
    intro n
    induction n using Nat.strongRecOn with
    | _ n ih =>
      intro x hn hp
      rcases h x hp with ⟨x', h1, h2, h3⟩ | ⟨b, h1, h2⟩
      · rw [mx h1]; exact ih (m x') (by omega) x' rfl h2
      · exact ⟨b, kI h1, h2⟩
  exact fun x => key _ x rfl
theorem eD {σ β : Type} {F G : σ → Option (σ ⊕ β)} (P : σ → Prop) (m : σ → Nat) (Q : β → Prop)
    (h : ∀ x, P x → (∃ x', F x = some (.inl x') ∧ G x = some (.inl x') ∧ P x' ∧ m x' < m x) ∨ (∃ b, F x = some (.inr b) ∧ G x = some (.inr b) ∧ Q b)) : ∀ x, P x → ∃ b, aE F x = some b ∧ aE G x = some b ∧ Q b := by
  have key : ∀ n x, m x = n → P x → ∃ b, aE F x = some b ∧ aE G x = some b ∧ Q b := by
    intro n
    induction n using Nat.strongRecOn with
    | _ n ih =>
      intro x hn hp
      rcases h x hp with ⟨x', h1, h2, h3, h4⟩ | ⟨b, h1, h2, h3⟩
      · rw [mx h1, mx h2]; exact ih (m x') (by omega) x' rfl h3
      · exact ⟨b, kI h1, kI h2, h3⟩
  exact fun x => key _ x rfl
def eg {β : Type} (step : Int → Option β) : Int → Nat → Option β → Option β
  | _, 0, fin => fin
  | i, k + 1, fin => match step i with
    | some b => some b
    | none => eg step (i + 1) k fin
theorem fJ {β : Type} {F : Int → Option (Int ⊕ β)} {n : Nat} (step : Int → Option β) (fin : Option β)
    (h1 : ∀ i : Int, 0 ≤ i → i < (n : Int) → F i = match step i with | some b => some (.inr b) | none => some (.inl (i + 1)))
    (h2 : F (n : Int) = fin.map .inr) : aE F 0 = eg step 0 n fin := by
  have key : ∀ (k : Nat) (i : Int), 0 ≤ i → i + k = n → aE F i = eg step i k fin := by
    intro k
    induction k with
    | zero =>
      intro i h0 hi
      have : i = (n : Int) := by omega
      subst this
      exact Hu h2
    | succ k ih =>
      intro i h0 hi
      have h := h1 i h0 (by omega)
      unfold eg
      cases hs : step i with
      | some b => rw [hs] at h; exact kI h
      | none => rw [hs] at h; rw [mx h]; exact ih (i + 1) (by omega) (by omega)
  exact key n 0 (by omega) (by omega)
theorem kH {β : Type} {step : Int → Option β} {p : Int → Prop} [DecidablePred p] {c : β} {fin : Option β} (n : Nat)
    (h : ∀ i : Int, 0 ≤ i → i < (n : Int) → step i = if p i then some c else none) :
    ((∃ i : Int, 0 ≤ i ∧ i < (n : Int) ∧ p i) → eg step 0 n fin = some c) ∧ ((∀ i : Int, 0 ≤ i → i < (n : Int) → ¬ p i) → eg step 0 n fin = fin) := by
  have key : ∀ (k : Nat) (i : Int), 0 ≤ i → i + k = n → ((∃ j : Int, i ≤ j ∧ j < (n : Int) ∧ p j) → eg step i k fin = some c) ∧ ((∀ j : Int, i ≤ j → j < (n : Int) → ¬ p j) → eg step i k fin = fin) := by
    intro k
    induction k with
    | zero =>
      intro i h0 hi
      exact ⟨fun ⟨j, a, b, _⟩ => by omega, fun _ => rfl⟩
    | succ k ih =>
      intro i h0 hi
      have hs := h i h0 (by omega)
      have ih' := ih (i + 1) (by omega) (by omega)
      unfold eg
      by_cases hp : p i
      · rw [if_pos hp] at hs
        rw [hs]
        exact ⟨fun _ => rfl, fun hn => absurd hp (hn i (Int.le_refl _) (by omega))⟩
      · rw [if_neg hp] at hs
        rw [hs]
        refine ⟨fun ⟨j, a, b, c⟩ => ih'.1 ⟨j, ?_, b, c⟩, fun hn => ih'.2 fun j a b => hn j (by omega) b⟩
        have : j ≠ i := fun e => hp (e ▸ c)
        omega
  exact key n 0 (by omega) (by omega)
theorem jN {β : Type} {step : Int → Option β} {fin : Option β} : ∀ (k : Nat) (i : Int),
    ((∀ j, i ≤ j → j < i + k → step j = none) ∧ eg step i k fin = fin) ∨ (∃ j b, i ≤ j ∧ j < i + k ∧ step j = some b ∧ (∀ t, i ≤ t → t < j → step t = none) ∧ eg step i k fin = some b)
  | 0, i => Or.inl ⟨fun j a b => by omega, rfl⟩
  | k + 1, i => by
    cases hs : step i with
    | some b => exact Or.inr ⟨i, b, Int.le_refl _, by omega, hs, fun t a b => by omega, by simp [eg, hs]⟩
    | none =>
      rcases jN (step := step) (fin := fin) k (i + 1) with ⟨h1, h2⟩ | ⟨j, b, h1, h2, h3, h4, h5⟩
      · refine Or.inl ⟨fun j a b => ?_, by simp [eg, hs, h2]⟩
        by_cases e : j = i
        · rw [e, hs]
        · exact h1 j (by omega) (by omega)
      · refine Or.inr ⟨j, b, by omega, by omega, h3, fun t a c => ?_, by simp [eg, hs, h5]⟩
        by_cases e : t = i
        · rw [e, hs]
        · exact h4 t (by omega) c
def Up (n : Int) (xs : List Int) : Prop := ∀ i : Int, 0 ≤ i → i < (xs.length : Int) → 0 ≤ nth xs i ∧ nth xs i < n ∧ (0 < i → nth xs (i - 1) < nth xs i)
theorem Up.lt {n : Int} {xs : List Int} (h : Up n xs) : ∀ (k : Nat) (i : Int), 0 ≤ i → i + k + 1 < (xs.length : Int) → nth xs i < nth xs (i + k + 1)
  | 0, i, h0, h1 => by
    have := (h (i + 1) (by omega) (by omega)).2.2 (by omega)
    simpa using this
  | k + 1, i, h0, h1 => by
    have a := Up.lt h k i h0 (by omega)
    have b := (h (i + k + 1 + 1) (by omega) (by omega)).2.2 (by omega)
    have e : i + ((k + 1 : Nat) : Int) + 1 = i + k + 1 + 1 := by omega
    rw [e]
    have e2 : i + k + 1 + 1 - 1 = i + k + 1 := by omega
    rw [e2] at b
    omega
theorem Up.mono {n : Int} {xs : List Int} (h : Up n xs) {i j : Int} (h0 : 0 ≤ i) (h1 : i < j) (h2 : j < (xs.length : Int)) : nth xs i < nth xs j := by
  obtain ⟨k, hk⟩ := Int.eq_ofNat_of_zero_le (show 0 ≤ j - i - 1 by omega)
  have := h.lt k i h0 (by omega)
  have e : i + k + 1 = j := by omega
  rwa [e] at this
theorem Up.inj {n : Int} {xs : List Int} (h : Up n xs) {i j : Int} (h0 : 0 ≤ i) (h1 : i < (xs.length : Int)) (h2 : 0 ≤ j) (h3 : j < (xs.length : Int)) (e : nth xs i = nth xs j) : i = j := by
  rcases Int.lt_trichotomy i j with a | a | a
  · have := h.mono h0 a h3; omega
  · exact a
  · have := h.mono h2 a h1; omega
theorem Up.ge {n : Int} {xs : List Int} (h : Up n xs) : ∀ (k : Nat), (k : Int) < (xs.length : Int) → (k : Int) ≤ nth xs (k : Int)
  | 0, h1 => (h 0 (by omega) (by omega)).1
  | k + 1, h1 => by
    have a := Up.ge h k (by omega)
    have b := h.mono (i := (k : Int)) (j := ((k + 1 : Nat) : Int)) (by omega) (by omega) h1
    omega
theorem Up.len {n : Int} {xs : List Int} (hn : 0 ≤ n) (h : Up n xs) : (xs.length : Int) ≤ n := by
  cases hx : xs.length with
  | zero => omega
  | succ k =>
    have a := h.ge k (by omega)
    have b := (h (k : Int) (by omega) (by omega)).2.1
    omega
end Go.Proofs.YtngimdmkomkeoaaGreat.K
