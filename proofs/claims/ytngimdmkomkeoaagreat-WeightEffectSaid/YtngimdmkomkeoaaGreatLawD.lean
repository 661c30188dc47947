/- Loops over a list told as questions about it; which expression tells at least what another one tells. -/
import Derived.Test.YtngimdmkomkeoaaGreatLawH
set_option linter.unusedVariables false
set_option linter.unusedSimpArgs false
namespace Go.Proofs.YtngimdmkomkeoaaGreat.K
open Go.RowKit Go.Proofs

/-- v tells whatever u tells -/
def LeO {α : Type} (u v : Option α) : Prop := ∀ b, u = some b → v = some b
theorem LeO.refl {α : Type} (u : Option α) : LeO u u := fun _ h => h
theorem LeO.none {α : Type} (v : Option α) : LeO Option.none v := fun _ h => by cases h
theorem LeO.bind {α β : Type} {u u' : Option α} {f f' : α → Option β} (h : LeO u u') (k : ∀ a, LeO (f a) (f' a)) : LeO (u.bind f) (u'.bind f') := fun b hb => by
  obtain ⟨a, h1, h2⟩ := Option.bind_eq_some_iff.1 hb
  rw [h a h1]; exact k a b h2
theorem LeO.map {α β : Type} {u u' : Option α} {f : α → β} (h : LeO u u') : LeO (u.map f) (u'.map f) := fun b hb => by
  obtain ⟨a, h1, h2⟩ := Option.map_eq_some_iff.1 hb
  rw [h a h1, Option.map_some, h2]
theorem LeO.ite {α : Type} {p : Prop} [Decidable p] {u u' v v' : Option α} (h : LeO u u') (k : LeO v v') : LeO (if p then u else v) (if p then u' else v') := by
  by_cases hp : p
  · rw [if_pos hp, if_pos hp]; exact h
  · rw [if_neg hp, if_neg hp]; exact k
theorem LeO.iter {σ β : Type} {F F' : σ → Option (σ ⊕ β)} (h : ∀ x, LeO (F x) (F' x)) (x : σ) : LeO (Iter F x) (Iter F' x) := fun b hb => by
  obtain ⟨n, hn⟩ := Lim_some hb
  refine Iter_of (n := n) ?_
  have key : ∀ n x, iterN F n x = some b → iterN F' n x = some b := by
    intro n
    induction n with
    | zero => intro x h0; simp [iterN] at h0
    | succ n ih =>
      intro x hb
      rw [iterN] at hb ⊢
      obtain ⟨z, h1, h2⟩ := Option.bind_eq_some_iff.1 hb
      rw [h x z h1]
      cases z with
      | inl x' => exact ih x' h2
      | inr c => exact h2
  exact key n x hn
theorem LeO.steps {α β : Type} {f : Nat → α → Option β} (h : ∀ n x, LeO (f n x) (f (n + 1) x)) : ∀ (k n : Nat) (x : α), LeO (f n x) (f (n + k) x)
  | 0, n, x => LeO.refl _
  | k + 1, n, x => fun b hb => h (n + k) x b (LeO.steps h k n x b hb)
/-- what a try says, if each try tells at least what the one before tells -/
theorem Ev_at {β : Type} {u : Nat → Option β} (hm : ∀ n, LeO (u n) (u (n + 1))) {n : Nat} {b : β} (h : u n = some b) : Ev u = some b := Lim_eq hm h

/-- What a loop's end has, if there is one. -/
theorem Iter_part {σ β : Type} {F : σ → Option (σ ⊕ β)} (P : σ → Prop) (Q : β → Prop)
    (h : ∀ x, P x → (∀ x', F x = some (.inl x') → P x') ∧ (∀ b, F x = some (.inr b) → Q b)) {x : σ} {b : β} (hp : P x) (hb : Iter F x = some b) : Q b := by
  obtain ⟨n, hn⟩ := Lim_some hb
  have key : ∀ n x b, P x → iterN F n x = some b → Q b := by
    intro n
    induction n with
    | zero => intro x b _ h0; simp [iterN] at h0
    | succ n ih =>
      intro x b hx hb
      rw [iterN] at hb
      cases hF : F x with
      | none => rw [hF] at hb; simp at hb
      | some z =>
        rw [hF] at hb
        cases z with
        | inl x' => exact ih x' b ((h x hx).1 x' hF) (by simpa using hb)
        | inr c =>
          have : c = b := by simpa using hb
          exact this ▸ (h x hx).2 c hF
  exact key n x b hp hn

/-! ### questions about lists -/
theorem any_nth {α : Type} [Inhabited α] {p : α → Bool} {xs : List α} : xs.any p = true ↔ ∃ i : Int, 0 ≤ i ∧ i < (xs.length : Int) ∧ p (nth xs i) = true := by
  rw [List.any_eq_true]
  constructor
  · rintro ⟨x, hx, h⟩
    obtain ⟨i, i0, i1, rfl⟩ := mem_nth hx
    exact ⟨i, i0, i1, h⟩
  · rintro ⟨i, i0, i1, h⟩; exact ⟨_, nth_mem i0 i1, h⟩
theorem all_nth {α : Type} [Inhabited α] {p : α → Bool} {xs : List α} : xs.all p = true ↔ ∀ i : Int, 0 ≤ i → i < (xs.length : Int) → p (nth xs i) = true := by
  rw [List.all_eq_true]
  constructor
  · intro h i i0 i1; exact h _ (nth_mem i0 i1)
  · intro h x hx
    obtain ⟨i, i0, i1, rfl⟩ := mem_nth hx
    exact h i i0 i1
/-- a loop that ends at the first place with the property p -/
theorem Iter_any {α β : Type} [Inhabited α] {F : Int → Option (Int ⊕ β)} (xs : List α) (p : α → Bool) {c : β} {fin : Option β}
    (h1 : ∀ i : Int, 0 ≤ i → i < (xs.length : Int) → F i = some (if p (nth xs i) = true then .inr c else .inl (i + 1))) (h2 : F (xs.length : Int) = fin.map .inr) : Iter F 0 = if xs.any p = true then some c else fin := by
  have e : Iter F 0 = scanN (fun i => if p (nth xs i) = true then some c else none) 0 xs.length fin := by
    refine Iter_scan _ _ (fun i a b => ?_) h2
    rw [h1 i a b]
    by_cases hq : p (nth xs i) = true <;> simp [hq]
  have s := scanN_if (step := fun i => if p (nth xs i) = true then some c else none) (p := fun i => p (nth xs i) = true) (c := c) (fin := fin) xs.length (fun i _ _ => rfl)
  rw [e]
  by_cases h : xs.any p = true
  · rw [if_pos h]; exact s.1 (any_nth.1 h)
  · rw [if_neg h]
    exact s.2 fun i a b hq => h (any_nth.2 ⟨i, a, b, hq⟩)
/-- the first error of a list, or what follows -/
def firstE {α : Type} (e : α → Int) (fin : Option Int) : List α → Option Int
  | [] => fin
  | x :: xs => if e x = 0 then firstE e fin xs else some (e x)
theorem firstE_congr {α : Type} {e e' : α → Int} {fin fin' : Option Int} (hf : fin = fin') : ∀ {xs : List α}, (∀ x ∈ xs, e x = e' x) → firstE e fin xs = firstE e' fin' xs
  | [], _ => hf
  | x :: xs, h => by
    unfold firstE
    rw [h x (by simp), firstE_congr hf (fun y hy => h y (by simp [hy]))]
theorem firstE_some {α : Type} {e : α → Int} {fin : Option Int} {Q : Int → Prop} : ∀ {xs : List α}, (∃ c, fin = some c ∧ ((∀ x ∈ xs, e x = 0) → Q c)) → (∀ c, ¬ c = 0 → Q c) → ∃ c, firstE e fin xs = some c ∧ Q c
  | [], ⟨c, h1, h2⟩, _ => ⟨c, h1, h2 (by simp)⟩
  | x :: xs, ⟨c, h1, h2⟩, hq => by
    unfold firstE
    by_cases h : e x = 0
    · rw [if_pos h]
      refine firstE_some ⟨c, h1, fun h3 => h2 fun y hy => ?_⟩ hq
      rcases List.mem_cons.1 hy with r | hy
      · rw [r]; exact h
      · exact h3 y hy
    · rw [if_neg h]; exact ⟨_, rfl, hq _ h⟩
/-- a loop that ends with the first error -/
theorem Iter_err {α : Type} [Inhabited α] {F : Int → Option (Int ⊕ Int)} (xs : List α) (e : α → Int) {fin : Option Int}
    (h1 : ∀ i : Int, 0 ≤ i → i < (xs.length : Int) → F i = some (if e (nth xs i) = 0 then .inl (i + 1) else .inr (e (nth xs i)))) (h2 : F (xs.length : Int) = fin.map .inr) : Iter F 0 = firstE e fin xs := by
  have key : ∀ (k : Nat) (i : Nat), i + k = xs.length → Iter F (i : Int) = firstE e fin (xs.drop i) := by
    intro k
    induction k with
    | zero =>
      intro i hi
      have hd : xs.drop i = [] := by simp; omega
      have : (i : Int) = (xs.length : Int) := by omega
      rw [hd, this]; exact Iter_out h2
    | succ k ih =>
      intro i hi
      have hlt : i < xs.length := by omega
      rw [List.drop_eq_getElem_cons hlt]
      unfold firstE
      have h := h1 i (by omega) (by omega)
      rw [nth_nat xs i hlt] at h
      by_cases hc : e xs[i] = 0
      · rw [if_pos hc] at h ⊢
        rw [Iter_go h]
        exact ih (i + 1) (by omega)
      · rw [if_neg hc] at h ⊢
        exact Iter_stop h
  exact key xs.length 0 (by simp)
theorem cont_any {α : Type} [Inhabited α] {p : α → Option Bool} {q : α → Bool} (xs : List α) (h : ∀ x ∈ xs, p x = some (q x)) : ContG xs p = some (xs.any q) := by
  obtain ⟨b, h1, h2⟩ := cont_law (q := fun x => q x = true) xs (fun x hx => ⟨q x, h x hx, Iff.rfl⟩)
  rw [h1]
  congr 1
  cases b <;> cases hq : xs.any q
  · rfl
  · obtain ⟨x, hx, hh⟩ := List.any_eq_true.1 hq
    exact h2.2 ⟨x, hx, hh⟩
  · have := List.any_eq_true.2 (h2.1 rfl)
    rw [this] at hq; exact hq
  · rfl
theorem any_congr' {α : Type} {p q : α → Bool} {xs : List α} (h : ∀ x ∈ xs, p x = q x) : xs.any p = xs.any q := by
  induction xs with
  | nil => rfl
  | cons x xs ih => simp only [List.any_cons]; rw [h x (by simp), ih fun y hy => h y (by simp [hy])]
theorem cloneGen {xs : List Int} (h : (xs.length : Int) ≤ 1000000000000) : slices_Clone_int xs = some xs := by
  unfold slices_Clone_int; rw [if_pos (by omega)]
end Go.Proofs.YtngimdmkomkeoaaGreat.K
