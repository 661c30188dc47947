/- Laws about lists, searches through lists, and graphs. -/
import Derived.Test.YtngimdmkomkeoaaGreatLawA
import Derived.Test.YtngimdmkomkeoaaGreatPure
set_option linter.unusedVariables false
set_option linter.unusedSimpArgs false
namespace Go.Proofs.YtngimdmkomkeoaaGreat.K
open Go.RowKit Go.Proofs
theorem nth_left {α : Type} [Inhabited α] {xs ys : List α} {i : Int} (h0 : 0 ≤ i) (h1 : i < (xs.length : Int)) : nth (xs ++ ys) i = nth xs i := by
  obtain ⟨k, rfl⟩ := Int.eq_ofNat_of_zero_le h0
  have hk : k < xs.length := by omega
  rw [z54 _ k (by simp; omega), z54 _ k hk, List.getElem_append_left]
theorem nth_last {α : Type} [Inhabited α] {xs : List α} {v : α} {i : Int} (h : i = (xs.length : Int)) : nth (xs ++ [v]) i = v := by
  subst h
  rw [z54 _ xs.length (by simp)]; simp
theorem nth_right {α : Type} [Inhabited α] {xs ys : List α} {i : Int} (h0 : 0 ≤ i) (h1 : i < (ys.length : Int)) : nth (xs ++ ys) ((xs.length : Int) + i) = nth ys i := by
  obtain ⟨k, rfl⟩ := Int.eq_ofNat_of_zero_le h0
  have hk : k < ys.length := by omega
  have e : (xs.length : Int) + (k : Int) = ((xs.length + k : Nat) : Int) := by omega
  rw [e, z54 _ _ (by simp; omega), z54 _ k hk, List.getElem_append_right (by omega)]
  congr 1; omega
theorem nth_set_eq {α : Type} [Inhabited α] {xs : List α} {k : Int} {v : α} (h0 : 0 ≤ k) (h1 : k < (xs.length : Int)) : nth (xs.set k.toNat v) k = v := by
  obtain ⟨n, rfl⟩ := Int.eq_ofNat_of_zero_le h0
  have hn : n < xs.length := by omega
  rw [z54 _ n (by simpa using hn)]; simp
theorem nth_set_ne {α : Type} [Inhabited α] {xs : List α} {k i : Int} {v : α} (h0 : 0 ≤ k) (h : i ≠ k) (hi : 0 ≤ i) : nth (xs.set k.toNat v) i = nth xs i := by
  obtain ⟨n, rfl⟩ := Int.eq_ofNat_of_zero_le h0
  obtain ⟨m, rfl⟩ := Int.eq_ofNat_of_zero_le hi
  have : n ≠ m := by omega
  simp [nth, List.getD, List.getElem?_set_ne this]
theorem cut0 {α : Type} {xs : List α} {k : Int} (h : 0 ≤ k) : cut xs 0 k = xs.take k.toNat := by
  simp [cut]
theorem nth_cut0 {α : Type} [Inhabited α] {xs : List α} {k i : Int} (h0 : 0 ≤ i) (h1 : i < k) (h2 : k ≤ (xs.length : Int)) : nth (cut xs 0 k) i = nth xs i := by
  obtain ⟨n, rfl⟩ := Int.eq_ofNat_of_zero_le h0
  rw [cut0 (by omega), z54 _ n (by simp; omega), z54 _ n (by omega)]; simp
theorem len_cut0 {α : Type} {xs : List α} {k : Int} (h0 : 0 ≤ k) (h2 : k ≤ (xs.length : Int)) : ((cut xs 0 k).length : Int) = k := by
  rw [cut0 h0]; simp; omega
theorem z80 {α : Type} [Inhabited α] {xs : List α} {a : α} (h : a ∈ xs) : ∃ i : Int, 0 ≤ i ∧ i < (xs.length : Int) ∧ nth xs i = a := by
  obtain ⟨i, hi, e⟩ := List.getElem_of_mem h
  exact ⟨(i : Int), by omega, by omega, by rw [z54 _ i hi, e]⟩
theorem ext_nth' {α : Type} [Inhabited α] {xs ys : List α} (hl : xs.length = ys.length) (h : ∀ i : Int, 0 ≤ i → i < (xs.length : Int) → nth xs i = nth ys i) : xs = ys := by
  refine List.ext_getElem hl fun i h1 h2 => ?_
  have := h (i : Int) (by omega) (by omega)
  rwa [z54 xs i h1, z54 ys i h2] at this
noncomputable def IxF_l {α : Type} [Inhabited α] (t0 : List α) (t1 : α → Option Bool) (x1 : Int) : Option (Int ⊕ Int) :=
  if x1 < (t0.length : Int) then if 0 ≤ x1 ∧ x1 < (t0.length : Int) then (t1 (nth t0 x1)).bind fun b10 => if b10 = true then some (.inr x1) else some (.inl (x1 + 1)) else none else some (.inr (-1))
noncomputable def ContG {α : Type} [Inhabited α] (t0 : List α) (t1 : α → Option Bool) : Option Bool := (z2l (IxF_l t0 t1) 0).bind fun b1 => some (decide (0 ≤ b1))
theorem cont_int : z1p = ContG := rfl
theorem cont_edge : z1u = ContG := rfl
theorem cont_law {α : Type} [Inhabited α] {p : α → Option Bool} {q : α → Prop} (xs : List α) (h : ∀ x ∈ xs, ∃ b, p x = some b ∧ (b = true ↔ q x)) : ∃ b, ContG xs p = some b ∧ (b = true ↔ ∃ x ∈ xs, q x) := by
  obtain ⟨j, hj, hq⟩ := z3b (F := IxF_l xs p) (fun x : Int => 0 ≤ x ∧ x ≤ (xs.length : Int) ∧ ∀ i : Int, 0 ≤ i → i < x → ¬ q (nth xs i)) (fun x => ((xs.length : Int) - x).toNat) (fun j => 0 ≤ j ↔ ∃ x ∈ xs, q x) (fun x hp => by
    obtain ⟨p1, p2, p3⟩ := hp
    unfold IxF_l
    by_cases hx : x < (xs.length : Int)
    · obtain ⟨b, hb, hq⟩ := h _ (z2u p1 hx)
      rw [if_pos hx, if_pos ⟨p1, hx⟩, hb]
      cases b
      · refine Or.inl ⟨x + 1, rfl, ⟨by omega, by omega, fun i a c => ?_⟩, by omega⟩
        by_cases e : i = x
        · rw [e]; exact fun hh => by have := hq.2 hh; cases this
        · exact p3 i a (by omega)
      · exact Or.inr ⟨x, rfl, ⟨fun _ => ⟨_, z2u p1 hx, hq.1 rfl⟩, fun _ => p1⟩⟩
    · rw [if_neg hx]
      refine Or.inr ⟨-1, rfl, ⟨fun h => by omega, fun ⟨y, hy, hqy⟩ => ?_⟩⟩
      obtain ⟨i, a, b, rfl⟩ := z80 hy
      exact absurd hqy (p3 i a (by omega))) 0 ⟨by omega, by omega, fun i a b => by omega⟩
  exact ⟨decide (0 ≤ j), by unfold ContG; rw [hj]; rfl, by simp [hq]⟩
def zak (n : Int) (e : z1e) : Prop := 0 ≤ e.Type_ ∧ e.Type_ ≤ 99 ∧ 0 ≤ e.From ∧ e.From < n ∧ 0 ≤ e.To ∧ e.To < n
instance (n : Int) (e : z1e) : Decidable (zak n e) := by unfold zak; infer_instance
def GraphOk (g : z0p) : Prop := (g.Nodes.length : Int) ≤ 40 ∧ (g.Edges.length : Int) ≤ 80 ∧ (∀ i : Int, 0 ≤ i → i < (g.Nodes.length : Int) → 0 ≤ nth g.Nodes i ∧ nth g.Nodes i ≤ 99) ∧ (∀ i : Int, 0 ≤ i → i < (g.Edges.length : Int) → zak (g.Nodes.length : Int) (nth g.Edges i))
theorem within_eq (a b : Int) : z75 a b = some (decide (0 ≤ a ∧ a ≤ b)) := by
  unfold z75; by_cases h : 0 ≤ a <;> simp [h]
theorem kind_eq (a : Int) : ref05_kind a = some (decide (0 ≤ a ∧ a ≤ 99)) := by
  unfold ref05_kind; by_cases h : 0 ≤ a <;> simp [h]
theorem fits_eq (e : z1e) {n : Int} (h0 : 0 ≤ n) (h1 : n ≤ 1000) : graph_fits e n = some (decide (zak n e)) := by
  unfold graph_fits
  rw [z34 (x := n - 1) (by omega) (by omega)]
  simp only [within_eq, Option.bind_some]
  by_cases a : 0 ≤ e.Type_ ∧ e.Type_ ≤ 99
  · by_cases b : 0 ≤ e.From ∧ e.From ≤ n - 1
    · simp only [a, b, and_self, decide_true, if_true, Option.some.injEq, decide_eq_decide, zak, true_and]
      omega
    · have hb : ¬ zak n e := fun h => b ⟨h.2.2.1, by have := h.2.2.2.1; omega⟩
      simp [a, b, hb]
  · have hb : ¬ zak n e := fun h => a ⟨h.1, h.2.1⟩
    simp [a, hb]
theorem right_eq (e : z1e) (n : Int) : ref05_right e n = some (decide (zak n e)) := by
  unfold ref05_right
  simp only [kind_eq, Option.bind_some]
  by_cases a : 0 ≤ e.Type_ ∧ e.Type_ ≤ 99
  · by_cases b : 0 ≤ e.From
    · by_cases c : e.From < n
      · by_cases d : 0 ≤ e.To <;> simp [a, b, c, d, zak]
      · simp [a, b, c, zak]
    · simp [a, b, zak]
  · have hb : ¬ zak n e := fun h => a ⟨h.1, h.2.1⟩
    simp [a, hb]
theorem contains_int {p : Int → Option Bool} {q : Int → Prop} [DecidablePred q] (xs : List Int) (h : ∀ x ∈ xs, p x = some (decide (q x))) :
    ((∃ i : Int, 0 ≤ i ∧ i < (xs.length : Int) ∧ q (nth xs i)) → z1p xs p = some true) ∧ ((∀ i : Int, 0 ≤ i → i < (xs.length : Int) → ¬ q (nth xs i)) → z1p xs p = some false) := by
  have e : z5i xs p = scanN (fun i => if q (nth xs i) then some i else none) 0 xs.length (some (-1)) := by
    unfold z5i
    refine z4m _ _ (fun i h0 h1 => ?_) ?_
    · unfold z65
      rw [if_pos h1, if_pos ⟨h0, h1⟩, h _ (z2u h0 h1)]
      by_cases hq : q (nth xs i) <;> simp [hq]
    · unfold z65
      rw [if_neg (by omega)]; rfl
  unfold z1p
  rw [e]
  rcases z70 (step := fun i => if q (nth xs i) then some i else none) (fin := some (-1)) xs.length 0 with ⟨h1, h2⟩ | ⟨j, b, h1, h2, h3, h4, h5⟩
  · rw [h2]
    refine ⟨fun ⟨i, a, b, c⟩ => ?_, fun _ => rfl⟩
    have := h1 i a (by omega)
    simp [c] at this
  · rw [h5]
    by_cases hq : q (nth xs j)
    · simp [hq] at h3
      subst h3
      exact ⟨fun _ => by simp [h1], fun hn => absurd hq (hn j h1 (by omega))⟩
    · simp [hq] at h3
theorem contains_edge {p : z1e → Option Bool} {q : z1e → Prop} [DecidablePred q] (xs : List z1e) (h : ∀ x ∈ xs, p x = some (decide (q x))) :
    ((∃ i : Int, 0 ≤ i ∧ i < (xs.length : Int) ∧ q (nth xs i)) → z1u xs p = some true) ∧ ((∀ i : Int, 0 ≤ i → i < (xs.length : Int) → ¬ q (nth xs i)) → z1u xs p = some false) := by
  have e : z43 xs p = scanN (fun i => if q (nth xs i) then some i else none) 0 xs.length (some (-1)) := by
    unfold z43
    refine z4m _ _ (fun i h0 h1 => ?_) ?_
    · unfold z4n
      rw [if_pos h1, if_pos ⟨h0, h1⟩, h _ (z2u h0 h1)]
      by_cases hq : q (nth xs i) <;> simp [hq]
    · unfold z4n
      rw [if_neg (by omega)]; rfl
  unfold z1u
  rw [e]
  rcases z70 (step := fun i => if q (nth xs i) then some i else none) (fin := some (-1)) xs.length 0 with ⟨h1, h2⟩ | ⟨j, b, h1, h2, h3, h4, h5⟩
  · rw [h2]
    refine ⟨fun ⟨i, a, b, c⟩ => ?_, fun _ => rfl⟩
    have := h1 i a (by omega)
    simp [c] at this
  · rw [h5]
    by_cases hq : q (nth xs j)
    · simp [hq] at h3
      subst h3
      exact ⟨fun _ => by simp [h1], fun hn => absurd hq (hn j h1 (by omega))⟩
    · simp [hq] at h3
theorem graph_law (g : z0p) : ∃ c, z76 g = some c ∧ z72 g = some c ∧ (c = 0 ↔ GraphOk g) := by
  unfold z76 z72
  by_cases hn : 40 < (g.Nodes.length : Int)
  · exact ⟨3, by simp [hn], by simp [hn], (fun h => by cases h), fun ok => by have := ok.1; omega⟩
  rw [if_neg hn, if_neg hn]
  by_cases he : 80 < (g.Edges.length : Int)
  · exact ⟨3, by simp [he], by simp [he], (fun h => by cases h), fun ok => by have := ok.2.1; omega⟩
  rw [if_neg he, if_neg he]
  have c1 := contains_int (p := graph_Valid_1) (q := fun k => ¬ (0 ≤ k ∧ k ≤ 99)) g.Nodes (fun x _ => by unfold graph_Valid_1; rw [within_eq]; simp [-not_and])
  have c2 := contains_edge (p := fun x => zad x g) (q := fun e => ¬ zak (g.Nodes.length : Int) e) g.Edges (fun x _ => by unfold zad; rw [fits_eq x (by omega) (by omega)]; simp)
  have e1 : z2l (ref05_Valid_l3 g) 0 = scanN (fun i => if ¬ (0 ≤ nth g.Nodes i ∧ nth g.Nodes i ≤ 99) then some 6 else none) 0 g.Nodes.length (z2l (z5r g) 0) := by
    refine z4m _ _ (fun i h0 h1 => ?_) ?_
    · unfold ref05_Valid_l3
      rw [if_pos h1, if_pos ⟨h0, h1⟩, kind_eq]
      by_cases hq : 0 ≤ nth g.Nodes i ∧ nth g.Nodes i ≤ 99 <;> simp [hq, -not_and]
    · unfold ref05_Valid_l3
      rw [if_neg (by omega)]
  have e2 : z2l (z5r g) 0 = scanN (fun i => if ¬ zak (g.Nodes.length : Int) (nth g.Edges i) then some 6 else none) 0 g.Edges.length (some 0) := by
    refine z4m _ _ (fun i h0 h1 => ?_) ?_
    · unfold z5r
      rw [if_pos h1, if_pos ⟨h0, h1⟩, right_eq]
      by_cases hq : zak (g.Nodes.length : Int) (nth g.Edges i) <;> simp [hq]
    · unfold z5r
      rw [if_neg (by omega)]; rfl
  have s1 := scanN_if (step := fun i => if ¬ (0 ≤ nth g.Nodes i ∧ nth g.Nodes i ≤ 99) then some (6 : Int) else none) (p := fun i => ¬ (0 ≤ nth g.Nodes i ∧ nth g.Nodes i ≤ 99)) (fin := z2l (z5r g) 0) g.Nodes.length (fun i _ _ => rfl)
  have s2 := scanN_if (step := fun i => if ¬ zak (g.Nodes.length : Int) (nth g.Edges i) then some (6 : Int) else none) (p := fun i => ¬ zak (g.Nodes.length : Int) (nth g.Edges i)) (fin := some 0) g.Edges.length (fun i _ _ => rfl)
  rw [e1]
  by_cases a : ∃ i : Int, 0 ≤ i ∧ i < (g.Nodes.length : Int) ∧ ¬ (0 ≤ nth g.Nodes i ∧ nth g.Nodes i ≤ 99)
  · rw [c1.1 a, s1.1 a]
    obtain ⟨i, a1, a2, a3⟩ := a
    exact ⟨6, rfl, rfl, (fun h => by cases h), fun ok => absurd (ok.2.2.1 i a1 a2) a3⟩
  · have a' : ∀ i : Int, 0 ≤ i → i < (g.Nodes.length : Int) → ¬ ¬ (0 ≤ nth g.Nodes i ∧ nth g.Nodes i ≤ 99) := fun i x y z => a ⟨i, x, y, z⟩
    rw [c1.2 a', s1.2 a', e2]
    by_cases b : ∃ i : Int, 0 ≤ i ∧ i < (g.Edges.length : Int) ∧ ¬ zak (g.Nodes.length : Int) (nth g.Edges i)
    · rw [c2.1 b, s2.1 b]
      obtain ⟨i, b1, b2, b3⟩ := b
      exact ⟨6, rfl, rfl, (fun h => by cases h), fun ok => absurd (ok.2.2.2 i b1 b2) b3⟩
    · have b' : ∀ i : Int, 0 ≤ i → i < (g.Edges.length : Int) → ¬ ¬ zak (g.Nodes.length : Int) (nth g.Edges i) := fun i x y z => b ⟨i, x, y, z⟩
      rw [c2.2 b', s2.2 b']
      exact ⟨0, rfl, rfl, fun _ => ⟨by omega, by omega, fun i x y => Decidable.of_not_not (a' i x y), fun i x y => Decidable.of_not_not (b' i x y)⟩, fun _ => rfl⟩
theorem cloneI {xs : List Int} (h : (xs.length : Int) ≤ 1000) : z36 xs = some xs := by
  unfold z36; rw [if_pos (by omega)]
end Go.Proofs.YtngimdmkomkeoaaGreat.K
