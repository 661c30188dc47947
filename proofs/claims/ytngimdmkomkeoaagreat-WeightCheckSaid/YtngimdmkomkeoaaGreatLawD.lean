/- Loops over a list told as questions about it; which expression tells at least what another one tells. -/
import Derived.Test.YtngimdmkomkeoaaGreatLawH
set_option linter.unusedVariables false
set_option linter.unusedSimpArgs false
namespace Go.Proofs.YtngimdmkomkeoaaGreat.K
open Go.RowKit Go.Proofs
def LeO {α : Type} (u v : Option α) : Prop := ∀ b, u = some b → v = some b
theorem LeO.refl {α : Type} (u : Option α) : LeO u u := fun _ h => h
theorem LeO.none {α : Type} (v : Option α) : LeO Option.none v := fun _ h => by cases h
theorem LeO.bind {α β : Type} {u u' : Option α} {f f' : α → Option β} (h : LeO u u') (k : ∀ a, LeO (f a) (f' a)) : LeO (u.bind f) (u'.bind f') := fun b hb => by
  obtain ⟨a, h1, h2⟩ := Option.bind_eq_some_iff.1 hb
  rw [h a h1]; exact k a b h2
theorem LeO.map {α β : Type} {u u' : Option α} {f : α → β} (h : LeO u u') : LeO (u.map f) (u'.map f) := fun b hb => by
  obtain ⟨a, h1, h2⟩ := Option.map_eq_some_iff.1 hb
  rw [h a h1, Option.map_some, h2]
theorem LeO.ite {α : Type} {p : Prop} [Decidable p] {u u' v v' : Option α} (h : LeO u u') (k : LeO v v') : LeO (if p then u else v) (if p then u' else v') := by
  by_cases hp : p
  · rw [if_pos hp, if_pos hp]; exact h
  · rw [if_neg hp, if_neg hp]; exact k
theorem LeO.iter {σ β : Type} {F F' : σ → Option (σ ⊕ β)} (h : ∀ x, LeO (F x) (F' x)) (x : σ) : LeO (z2l F x) (z2l F' x) := fun b hb => by
  obtain ⟨n, hn⟩ := Lim_some hb
  refine Iter_of (n := n) ?_
  have key : ∀ n x, iterN F n x = some b → iterN F' n x = some b := by
    intro n
    induction n with
    | zero => intro x h0; simp [iterN] at h0
    | succ n ih =>
      intro x hb
      rw [iterN] at hb ⊢
      obtain ⟨z, h1, h2⟩ := Option.bind_eq_some_iff.1 hb
      rw [h x z h1]
      cases z with
      | inl x' => exact ih x' h2
      | inr c => exact h2
  exact key n x hn
theorem LeO.steps {α β : Type} {f : Nat → α → Option β} (h : ∀ n x, LeO (f n x) (f (n + 1) x)) : ∀ (k n : Nat) (x : α), LeO (f n x) (f (n + k) x)
  | 0, n, x => LeO.refl _
  | k + 1, n, x => fun b hb => h (n + k) x b (LeO.steps h k n x b hb)
theorem Ev_at {β : Type} {u : Nat → Option β} (hm : ∀ n, LeO (u n) (u (n + 1))) {n : Nat} {b : β} (h : u n = some b) : Ev u = some b := Lim_eq hm h
theorem Iter_part {σ β : Type} {F : σ → Option (σ ⊕ β)} (P : σ → Prop) (Q : β → Prop)
    (h : ∀ x, P x → (∀ x', F x = some (.inl x') → P x') ∧ (∀ b, F x = some (.inr b) → Q b)) {x : σ} {b : β} (hp : P x) (hb : z2l F x = some b) : Q b := by
  obtain ⟨n, hn⟩ := Lim_some hb
  have key : ∀ n x b, P x → iterN F n x = some b → Q b := by
    intro n
    induction n with
    | zero => intro x b _ h0; simp [iterN] at h0
    | succ n ih =>
      intro x b hx hb
      rw [iterN] at hb
      cases hF : F x with
      | none => rw [hF] at hb; simp at hb
      | some z =>
        rw [hF] at hb
        cases z with
        | inl x' => exact ih x' b ((h x hx).1 x' hF) (by simpa using hb)
        | inr c =>
          have : c = b := by simpa using hb
          exact this ▸ (h x hx).2 c hF
  exact key n x b hp hn
theorem Iter_two {σ τ β γ : Type} {F : σ → Option (σ ⊕ β)} {G : τ → Option (τ ⊕ γ)} (R : σ → τ → Prop) (m : σ → Nat) (Q : β → γ → Prop)
    (h : ∀ x y, R x y → (∃ x' y', F x = some (.inl x') ∧ G y = some (.inl y') ∧ R x' y' ∧ m x' < m x) ∨ (∃ b c, F x = some (.inr b) ∧ G y = some (.inr c) ∧ Q b c)) : ∀ x y, R x y → ∃ b c, z2l F x = some b ∧ z2l G y = some c ∧ Q b c := by
  have key : ∀ n x y, m x = n → R x y → ∃ b c, z2l F x = some b ∧ z2l G y = some c ∧ Q b c := by
    intro n
    induction n using Nat.strongRecOn with
    | _ n ih =>
      intro x y hn hp
      rcases h x y hp with ⟨x', y', h1, h2, h3, h4⟩ | ⟨b, c, h1, h2, h3⟩
      · rw [Iter_go h1, Iter_go h2]; exact ih (m x') (by omega) x' y' rfl h3
      · exact ⟨b, c, z8g h1, z8g h2, h3⟩
  exact fun x y => key _ x y rfl
theorem any_nth {α : Type} [Inhabited α] {p : α → Bool} {xs : List α} : xs.any p = true ↔ ∃ i : Int, 0 ≤ i ∧ i < (xs.length : Int) ∧ p (nth xs i) = true := by
  rw [List.any_eq_true]
  constructor
  · rintro ⟨x, hx, h⟩
    obtain ⟨i, i0, i1, rfl⟩ := z80 hx
    exact ⟨i, i0, i1, h⟩
  · rintro ⟨i, i0, i1, h⟩; exact ⟨_, z2u i0 i1, h⟩
theorem Iter_any {α β : Type} [Inhabited α] {F : Int → Option (Int ⊕ β)} (xs : List α) (p : α → Bool) {c : β} {fin : Option β}
    (h1 : ∀ i : Int, 0 ≤ i → i < (xs.length : Int) → F i = some (if p (nth xs i) = true then .inr c else .inl (i + 1))) (h2 : F (xs.length : Int) = fin.map .inr) : z2l F 0 = if xs.any p = true then some c else fin := by
  have e : z2l F 0 = scanN (fun i => if p (nth xs i) = true then some c else none) 0 xs.length fin := by
    refine z4m _ _ (fun i a b => ?_) h2
    rw [h1 i a b]
    by_cases hq : p (nth xs i) = true <;> simp [hq]
  have s := scanN_if (step := fun i => if p (nth xs i) = true then some c else none) (p := fun i => p (nth xs i) = true) (c := c) (fin := fin) xs.length (fun i _ _ => rfl)
  rw [e]
  by_cases h : xs.any p = true
  · rw [if_pos h]; exact s.1 (any_nth.1 h)
  · rw [if_neg h]
    exact s.2 fun i a b hq => h (any_nth.2 ⟨i, a, b, hq⟩)
theorem cont_any {α : Type} [Inhabited α] {p : α → Option Bool} {q : α → Bool} (xs : List α) (h : ∀ x ∈ xs, p x = some (q x)) : ContG xs p = some (xs.any q) := by
  obtain ⟨b, h1, h2⟩ := cont_law (q := fun x => q x = true) xs (fun x hx => ⟨q x, h x hx, Iff.rfl⟩)
  rw [h1]
  congr 1
  cases b <;> cases hq : xs.any q
  · rfl
  · obtain ⟨x, hx, hh⟩ := List.any_eq_true.1 hq
    exact h2.2 ⟨x, hx, hh⟩
  · have := List.any_eq_true.2 (h2.1 rfl)
    rw [this] at hq; exact hq
  · rfl
end Go.Proofs.YtngimdmkomkeoaaGreat.K
