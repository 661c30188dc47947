import Derived.Test.YtngimdmkomkeoaaGreatLawH
set_option linter.unusedVariables false
set_option linter.unusedSimpArgs false
namespace Go.Proofs.YtngimdmkomkeoaaGreat.K
open Go.RowKit Go.Proofs
def bS {α : Type} (u v : Option α) : Prop := ∀ b, u = some b → v = some b
theorem bS.refl {α : Type} (u : Option α) : bS u u := fun _ h => h
theorem bS.none {α : Type} (v : Option α) : bS Option.none v := fun _ h => by cases h
theorem bS.bind {α β : Type} {u u' : Option α} {f f' : α → Option β} (h : bS u u') (k : ∀ a, bS (f a) (f' a)) : bS (u.bind f) (u'.bind f') := fun b hb => by
  obtain ⟨a, h1, h2⟩ := Option.bind_eq_some_iff.1 hb
  rw [h a h1]; exact k a b h2
theorem bS.map {α β : Type} {u u' : Option α} {f : α → β} (h : bS u u') : bS (u.map f) (u'.map f) := fun b hb => by
  obtain ⟨a, h1, h2⟩ := Option.map_eq_some_iff.1 hb
  rw [h a h1, Option.map_some, h2]
theorem bS.ite {α : Type} {p : Prop} [Decidable p] {u u' v v' : Option α} (h : bS u u') (k : bS v v') : bS (if p then u else v) (if p then u' else v') := by
  by_cases hp : p
  · rw [if_pos hp, if_pos hp]; exact h
  · rw [if_neg hp, if_neg hp]; exact k
theorem bS.iter {σ β : Type} {F F' : σ → Option (σ ⊕ β)} (h : ∀ x, bS (F x) (F' x)) (x : σ) : bS (aE F x) (aE F' x) := fun b hb => by
  obtain ⟨n, hn⟩ := jE hb
  refine rU (n := n) ?_
  have key : ∀ n x, ew F n x = some b → ew F' n x = some b := by
    intro n
    induction n with
    | zero => intro x h0; simp [ew] at h0
    | succ n ih =>
      intro x hb
      rw [ew] at hb ⊢
      obtain ⟨z, h1, h2⟩ := Option.bind_eq_some_iff.1 hb
      rw [h x z h1]
      cases z with
      | inl x' => exact ih x' h2
      | inr c => exact h2
  exact key n x hn
theorem bS.steps {α β : Type} {f : Nat → α → Option β} (h : ∀ n x, bS (f n x) (f (n + 1) x)) : ∀ (k n : Nat) (x : α), bS (f n x) (f (n + k) x)
  | 0, n, x => bS.refl _
  | k + 1, n, x => fun b hb => h (n + k) x b (bS.steps h k n x b hb)
theorem l6 {β : Type} {u : Nat → Option β} (hm : ∀ n, bS (u n) (u (n + 1))) {n : Nat} {b : β} (h : u n = some b) : Ev u = some b := zZ hm h
theorem C6 {σ β : Type} {F : σ → Option (σ ⊕ β)} (P : σ → Prop) (Q : β → Prop)
    (h : ∀ x, P x → (∀ x', F x = some (.inl x') → P x') ∧ (∀ b, F x = some (.inr b) → Q b)) {x : σ} {b : β} (hp : P x) (hb : aE F x = some b) : Q b := by
  obtain ⟨n, hn⟩ := jE hb
  have key : ∀ n x b, P x → ew F n x = some b → Q b := by
    intro n
    induction n with
    | zero => intro x b _ h0; simp [ew] at h0
    | succ n ih =>
      intro x b hx hb
      rw [ew] at hb
      cases hF : F x with
      | none => rw [hF] at hb; simp at hb
      | some z =>
        rw [hF] at hb
        cases z with
        | inl x' => exact ih x' b ((h x hx).1 x' hF) (by simpa using hb)
        | inr c =>
          have : c = b := by simpa using hb
          exact this ▸ (h x hx).2 c hF
  exact key n x b hp hn
theorem rV {α : Type} [Inhabited α] {p : α → Bool} {xs : List α} : xs.any p = true ↔ ∃ i : Int, 0 ≤ i ∧ i < (xs.length : Int) ∧ p (nth xs i) = true := by
  rw [List.any_eq_true]
  constructor
  · rintro ⟨x, hx, h⟩
    obtain ⟨i, i0, i1, rfl⟩ := eo hx
    exact ⟨i, i0, i1, h⟩
  · rintro ⟨i, i0, i1, h⟩; exact ⟨_, cu i0 i1, h⟩
theorem sa {α β : Type} [Inhabited α] {F : Int → Option (Int ⊕ β)} (xs : List α) (p : α → Bool) {c : β} {fin : Option β}
    (h1 : ∀ i : Int, 0 ≤ i → i < (xs.length : Int) → F i = some (if p (nth xs i) = true then .inr c else .inl (i + 1))) (h2 : F (xs.length : Int) = fin.map .inr) : aE F 0 = if xs.any p = true then some c else fin := by
  have e : aE F 0 = eg (fun i => if p (nth xs i) = true then some c else none) 0 xs.length fin := by
    refine fJ _ _ (fun i a b => ?_) h2
    rw [h1 i a b]
    by_cases hq : p (nth xs i) = true <;> simp [hq]
  have s := kH (step := fun i => if p (nth xs i) = true then some c else none) (p := fun i => p (nth xs i) = true) (c := c) (fin := fin) xs.length (fun i _ _ => rfl)
  rw [e]
  by_cases h : xs.any p = true
  · rw [if_pos h]; exact s.1 (rV.1 h)
  · rw [if_neg h]
    exact s.2 fun i a b hq => h (rV.2 ⟨i, a, b, hq⟩)
theorem lx {α : Type} [Inhabited α] {p : α → Option Bool} {q : α → Bool} (xs : List α) (h : ∀ x ∈ xs, p x = some (q x)) : gW xs p = some (xs.any q) := by
  obtain ⟨b, h1, h2⟩ := jF (q := fun x => q x = true) xs (fun x hx => ⟨q x, h x hx, Iff.rfl⟩)
  rw [h1]
  congr 1
  cases b <;> cases hq : xs.any q
  · rfl
  · obtain ⟨x, hx, hh⟩ := List.any_eq_true.1 hq
    exact h2.2 ⟨x, hx, hh⟩
  · have := List.any_eq_true.2 (h2.1 rfl)
    rw [this] at hq; exact hq
  · rfl
end Go.Proofs.YtngimdmkomkeoaaGreat.K
