import Derived.Test.YtngimdmkomkeoaaGreatLawA
import Derived.Test.YtngimdmkomkeoaaGreatPure
set_option linter.unusedVariables false
set_option linter.unusedSimpArgs false
namespace Go.Proofs.YtngimdmkomkeoaaGreat.K
open Go.RowKit Go.Proofs
theorem i9 {α : Type} [Inhabited α] {xs ys : List α} {i : Int} (h0 : 0 ≤ i) (h1 : i < (xs.length : Int)) : nth (xs ++ ys) i = nth xs i := by
  obtain ⟨k, rfl⟩ := Int.eq_ofNat_of_zero_le h0
  have hk : k < xs.length := by omega
  rw [dw _ k (by simp; omega), dw _ k hk, List.getElem_append_left]
theorem kG {α : Type} [Inhabited α] {xs : List α} {v : α} {i : Int} (h : i = (xs.length : Int)) : nth (xs ++ [v]) i = v := by
  subst h
  rw [dw _ xs.length (by simp)]; simp
theorem J2 {α : Type} [Inhabited α] {xs ys : List α} {i : Int} (h0 : 0 ≤ i) (h1 : i < (ys.length : Int)) : nth (xs ++ ys) ((xs.length : Int) + i) = nth ys i := by
  obtain ⟨k, rfl⟩ := Int.eq_ofNat_of_zero_le h0
  have hk : k < ys.length := by omega
  have e : (xs.length : Int) + (k : Int) = ((xs.length + k : Nat) : Int) := by omega
  rw [e, dw _ _ (by simp; omega), dw _ k hk, List.getElem_append_right (by omega)]
  congr 1; omega
theorem jK {α : Type} [Inhabited α] {xs : List α} {k : Int} {v : α} (h0 : 0 ≤ k) (h1 : k < (xs.length : Int)) : nth (xs.set k.toNat v) k = v := by
  obtain ⟨n, rfl⟩ := Int.eq_ofNat_of_zero_le h0
  have hn : n < xs.length := by omega
  rw [dw _ n (by simpa using hn)]; simp
theorem iZ {α : Type} [Inhabited α] {xs : List α} {k i : Int} {v : α} (h0 : 0 ≤ k) (h : i ≠ k) (hi : 0 ≤ i) : nth (xs.set k.toNat v) i = nth xs i := by
  obtain ⟨n, rfl⟩ := Int.eq_ofNat_of_zero_le h0
  obtain ⟨m, rfl⟩ := Int.eq_ofNat_of_zero_le hi
  have : n ≠ m := by omega
  simp [nth, List.getD, List.getElem?_set_ne this]
theorem cut0 {α : Type} {xs : List α} {k : Int} (h : 0 ≤ k) : cut xs 0 k = xs.take k.toNat := by
  simp [cut]
theorem BP {α : Type} [Inhabited α] {xs : List α} {k i : Int} (h0 : 0 ≤ i) (h1 : i < k) (h2 : k ≤ (xs.length : Int)) : nth (cut xs 0 k) i = nth xs i := by
  obtain ⟨n, rfl⟩ := Int.eq_ofNat_of_zero_le h0
  rw [cut0 (by omega), dw _ n (by simp; omega), dw _ n (by omega)]; simp
theorem wB {α : Type} {xs : List α} {k : Int} (h0 : 0 ≤ k) (h2 : k ≤ (xs.length : Int)) : ((cut xs 0 k).length : Int) = k := by
  rw [cut0 h0]; simp; omega
theorem eo {α : Type} [Inhabited α] {xs : List α} {a : α} (h : a ∈ xs) : ∃ i : Int, 0 ≤ i ∧ i < (xs.length : Int) ∧ nth xs i = a := by
  obtain ⟨i, hi, e⟩ := List.getElem_of_mem h
  exact ⟨(i : Int), by omega, by omega, by rw [dw _ i hi, e]⟩
theorem iU {α : Type} [Inhabited α] {P : Int → α → Prop} {xs : List α} {v : α} (h : ∀ i : Int, 0 ≤ i → i < (xs.length : Int) → P i (nth xs i)) (hv : P (xs.length : Int) v) :
    ∀ i : Int, 0 ≤ i → i < ((xs ++ [v]).length : Int) → P i (nth (xs ++ [v]) i) := by
  intro i h0 h1
  by_cases e : i = (xs.length : Int)
  · subst e; rw [kG rfl]; exact hv
  · simp at h1; rw [i9 h0 (by omega)]; exact h i h0 (by omega)
theorem B4 {α : Type} [Inhabited α] {P : Int → α → Prop} {xs : List α} {v : α} {k : Int} (hk : 0 ≤ k) (h : ∀ i : Int, 0 ≤ i → i < (xs.length : Int) → P i (nth xs i)) (hv : P k v) :
    ∀ i : Int, 0 ≤ i → i < ((xs.set k.toNat v).length : Int) → P i (nth (xs.set k.toNat v) i) := by
  intro i h0 h1
  simp at h1
  by_cases e : i = k
  · subst e; rw [jK h0 h1]; exact hv
  · rw [iZ hk e h0]; exact h i h0 h1
theorem wz {α : Type} [Inhabited α] {xs ys : List α} (hl : xs.length = ys.length) (h : ∀ i : Int, 0 ≤ i → i < (xs.length : Int) → nth xs i = nth ys i) : xs = ys := by
  refine List.ext_getElem hl fun i h1 h2 => ?_
  have := h (i : Int) (by omega) (by omega)
  rwa [dw xs i h1, dw ys i h2] at this
noncomputable def vo {α : Type} [Inhabited α] (t0 : List α) (t1 : α → Option Bool) (x1 : Int) : Option (Int ⊕ Int) :=
  if x1 < (t0.length : Int) then if 0 ≤ x1 ∧ x1 < (t0.length : Int) then (t1 (nth t0 x1)).bind fun b10 => if b10 = true then some (.inr x1) else some (.inl (x1 + 1)) else none else some (.inr (-1))
noncomputable def gW {α : Type} [Inhabited α] (t0 : List α) (t1 : α → Option Bool) : Option Bool := (aE (vo t0 t1) 0).bind fun b1 => some (decide (0 ≤ b1))
theorem sd : gx = gW := rfl
theorem IP : jd = gW := rfl
theorem jF {α : Type} [Inhabited α] {p : α → Option Bool} {q : α → Prop} (xs : List α) (h : ∀ x ∈ xs, ∃ b, p x = some b ∧ (b = true ↔ q x)) : ∃ b, gW xs p = some b ∧ (b = true ↔ ∃ x ∈ xs, q x) := by
  obtain ⟨j, hj, hq⟩ := cl (F := vo xs p) (fun x : Int => 0 ≤ x ∧ x ≤ (xs.length : Int) ∧ ∀ i : Int, 0 ≤ i → i < x → ¬ q (nth xs i)) (fun x => ((xs.length : Int) - x).toNat) (fun j => 0 ≤ j ↔ ∃ x ∈ xs, q x) (fun x hp => by
    obtain ⟨p1, p2, p3⟩ := hp
    unfold vo
    by_cases hx : x < (xs.length : Int)
    · obtain ⟨b, hb, hq⟩ := h _ (cu p1 hx)
      rw [if_pos hx, if_pos ⟨p1, hx⟩, hb]
      cases b
      · refine Or.inl ⟨x + 1, rfl, ⟨by omega, by omega, fun i a c => ?_⟩, by omega⟩
        by_cases e : i = x
        · rw [e]; exact fun hh => by have := hq.2 hh; cases this
        · exact p3 i a (by omega)
      · exact Or.inr ⟨x, rfl, ⟨fun _ => ⟨_, cu p1 hx, hq.1 rfl⟩, fun _ => p1⟩⟩
    · rw [if_neg hx]
      refine Or.inr ⟨-1, rfl, ⟨fun h => by omega, fun ⟨y, hy, hqy⟩ => ?_⟩⟩
      obtain ⟨i, a, b, rfl⟩ := eo hy
      exact absurd hqy (p3 i a (by omega))) 0 ⟨by omega, by omega, fun i a b => by omega⟩
  exact ⟨decide (0 ≤ j), by unfold gW; rw [hj]; rfl, by simp [hq]⟩
def fh (n : Int) (e : ba) : Prop := 0 ≤ e.Type_ ∧ e.Type_ ≤ 99 ∧ 0 ≤ e.From ∧ e.From < n ∧ 0 ≤ e.To ∧ e.To < n
instance (n : Int) (e : ba) : Decidable (fh n e) := by unfold fh; infer_instance
def gK (g : ar) : Prop := (g.Nodes.length : Int) ≤ 40 ∧ (g.Edges.length : Int) ≤ 80 ∧ (∀ i : Int, 0 ≤ i → i < (g.Nodes.length : Int) → 0 ≤ nth g.Nodes i ∧ nth g.Nodes i ≤ 99) ∧ (∀ i : Int, 0 ≤ i → i < (g.Edges.length : Int) → fh (g.Nodes.length : Int) (nth g.Edges i))
theorem Cm (a b : Int) : lH a b = some (decide (0 ≤ a ∧ a ≤ b)) := by
  unfold lH; by_cases h : 0 ≤ a <;> simp [h]
theorem Bb (a : Int) : pg a = some (decide (0 ≤ a ∧ a ≤ 99)) := by
  unfold pg; by_cases h : 0 ≤ a <;> simp [h]
theorem GK (e : ba) {n : Int} (h0 : 0 ≤ n) (h1 : n ≤ 1000) : sJ e n = some (decide (fh n e)) := by
  unfold sJ
  rw [bL (x := n - 1) (by omega) (by omega)]
  simp only [Cm, Option.bind_some]
  by_cases a : 0 ≤ e.Type_ ∧ e.Type_ ≤ 99
  · by_cases b : 0 ≤ e.From ∧ e.From ≤ n - 1
    · simp only [a, b, and_self, decide_true, if_true, Option.some.injEq, decide_eq_decide, fh, true_and]
      omega
    · have hb : ¬ fh n e := fun h => b ⟨h.2.2.1, by have := h.2.2.2.1; omega⟩
      simp [a, b, hb]
  · have hb : ¬ fh n e := fun h => a ⟨h.1, h.2.1⟩
    simp [a, hb]
theorem Iw (e : ba) (n : Int) : sX e n = some (decide (fh n e)) := by
  unfold sX
  simp only [Bb, Option.bind_some]
  by_cases a : 0 ≤ e.Type_ ∧ e.Type_ ≤ 99
  · by_cases b : 0 ≤ e.From
    · by_cases c : e.From < n
      · by_cases d : 0 ≤ e.To <;> simp [a, b, c, d, fh]
      · simp [a, b, c, fh]
    · simp [a, b, fh]
  · have hb : ¬ fh n e := fun h => a ⟨h.1, h.2.1⟩
    simp [a, hb]
theorem KF {p : Int → Option Bool} {q : Int → Prop} [DecidablePred q] (xs : List Int) (h : ∀ x ∈ xs, p x = some (decide (q x))) :
    ((∃ i : Int, 0 ≤ i ∧ i < (xs.length : Int) ∧ q (nth xs i)) → gx xs p = some true) ∧ ((∀ i : Int, 0 ≤ i → i < (xs.length : Int) → ¬ q (nth xs i)) → gx xs p = some false) := by
  have e : vc xs p = eg (fun i => if q (nth xs i) then some i else none) 0 xs.length (some (-1)) := by
    unfold vc
    refine fJ _ _ (fun i h0 h1 => ?_) ?_
    · unfold zc
      rw [if_pos h1, if_pos ⟨h0, h1⟩, h _ (cu h0 h1)]
      by_cases hq : q (nth xs i) <;> simp [hq]
    · unfold zc
      rw [if_neg (by omega)]; rfl
  unfold gx
  rw [e]
  rcases jN (step := fun i => if q (nth xs i) then some i else none) (fin := some (-1)) xs.length 0 with ⟨h1, h2⟩ | ⟨j, b, h1, h2, h3, h4, h5⟩
  · rw [h2]
    refine ⟨fun ⟨i, a, b, c⟩ => ?_, fun _ => rfl⟩
    have := h1 i a (by omega)
    simp [c] at this
  · rw [h5]
    by_cases hq : q (nth xs j)
    · simp [hq] at h3
      subst h3
      exact ⟨fun _ => by simp [h1], fun hn => absurd hq (hn j h1 (by omega))⟩
    · simp [hq] at h3
theorem Lk {p : ba → Option Bool} {q : ba → Prop} [DecidablePred q] (xs : List ba) (h : ∀ x ∈ xs, p x = some (decide (q x))) :
    ((∃ i : Int, 0 ≤ i ∧ i < (xs.length : Int) ∧ q (nth xs i)) → jd xs p = some true) ∧ ((∀ i : Int, 0 ≤ i → i < (xs.length : Int) → ¬ q (nth xs i)) → jd xs p = some false) := by
  have e : vg xs p = eg (fun i => if q (nth xs i) then some i else none) 0 xs.length (some (-1)) := by
    unfold vg
    refine fJ _ _ (fun i h0 h1 => ?_) ?_
    · unfold zg
      rw [if_pos h1, if_pos ⟨h0, h1⟩, h _ (cu h0 h1)]
      by_cases hq : q (nth xs i) <;> simp [hq]
    · unfold zg
      rw [if_neg (by omega)]; rfl
  unfold jd
  rw [e]
  rcases jN (step := fun i => if q (nth xs i) then some i else none) (fin := some (-1)) xs.length 0 with ⟨h1, h2⟩ | ⟨j, b, h1, h2, h3, h4, h5⟩
  · rw [h2]
    refine ⟨fun ⟨i, a, b, c⟩ => ?_, fun _ => rfl⟩
    have := h1 i a (by omega)
    simp [c] at this
  · rw [h5]
    by_cases hq : q (nth xs j)
    · simp [hq] at h3
      subst h3
      exact ⟨fun _ => by simp [h1], fun hn => absurd hq (hn j h1 (by omega))⟩
    · simp [hq] at h3
theorem jI (g : ar) : ∃ c, j5 g = some c ∧ jM g = some c ∧ (c = 0 ↔ gK g) := by
  unfold j5 jM
  by_cases hn : 40 < (g.Nodes.length : Int)
  · exact ⟨3, by simp [hn], by simp [hn], (fun h => by cases h), fun ok => by have := ok.1; omega⟩
  rw [if_neg hn, if_neg hn]
  by_cases he : 80 < (g.Edges.length : Int)
  · exact ⟨3, by simp [he], by simp [he], (fun h => by cases h), fun ok => by have := ok.2.1; omega⟩
  rw [if_neg he, if_neg he]
  have c1 := KF (p := tD) (q := fun k => ¬ (0 ≤ k ∧ k ≤ 99)) g.Nodes (fun x _ => by unfold tD; rw [Cm]; simp [-not_and])
  have c2 := Lk (p := fun x => pD x g) (q := fun e => ¬ fh (g.Nodes.length : Int) e) g.Edges (fun x _ => by unfold pD; rw [GK x (by omega) (by omega)]; simp)
  have e1 : aE (tO g) 0 = eg (fun i => if ¬ (0 ≤ nth g.Nodes i ∧ nth g.Nodes i ≤ 99) then some 6 else none) 0 g.Nodes.length (aE (nN g) 0) := by
    refine fJ _ _ (fun i h0 h1 => ?_) ?_
    · unfold tO
      rw [if_pos h1, if_pos ⟨h0, h1⟩, Bb]
      by_cases hq : 0 ≤ nth g.Nodes i ∧ nth g.Nodes i ≤ 99 <;> simp [hq, -not_and]
    · unfold tO
      rw [if_neg (by omega)]
  have e2 : aE (nN g) 0 = eg (fun i => if ¬ fh (g.Nodes.length : Int) (nth g.Edges i) then some 6 else none) 0 g.Edges.length (some 0) := by
    refine fJ _ _ (fun i h0 h1 => ?_) ?_
    · unfold nN
      rw [if_pos h1, if_pos ⟨h0, h1⟩, Iw]
      by_cases hq : fh (g.Nodes.length : Int) (nth g.Edges i) <;> simp [hq]
    · unfold nN
      rw [if_neg (by omega)]; rfl
  have s1 := kH (step := fun i => if ¬ (0 ≤ nth g.Nodes i ∧ nth g.Nodes i ≤ 99) then some (6 : Int) else none) (p := fun i => ¬ (0 ≤ nth g.Nodes i ∧ nth g.Nodes i ≤ 99)) (fin := aE (nN g) 0) g.Nodes.length (fun i _ _ => rfl)
  have s2 := kH (step := fun i => if ¬ fh (g.Nodes.length : Int) (nth g.Edges i) then some (6 : Int) else none) (p := fun i => ¬ fh (g.Nodes.length : Int) (nth g.Edges i)) (fin := some 0) g.Edges.length (fun i _ _ => rfl)
  rw [e1]
  by_cases a : ∃ i : Int, 0 ≤ i ∧ i < (g.Nodes.length : Int) ∧ ¬ (0 ≤ nth g.Nodes i ∧ nth g.Nodes i ≤ 99)
  · rw [c1.1 a, s1.1 a]
    obtain ⟨i, a1, a2, a3⟩ := a
    exact ⟨6, rfl, rfl, (fun h => by cases h), fun ok => absurd (ok.2.2.1 i a1 a2) a3⟩
  · have a' : ∀ i : Int, 0 ≤ i → i < (g.Nodes.length : Int) → ¬ ¬ (0 ≤ nth g.Nodes i ∧ nth g.Nodes i ≤ 99) := fun i x y z => a ⟨i, x, y, z⟩
    rw [c1.2 a', s1.2 a', e2]
    by_cases b : ∃ i : Int, 0 ≤ i ∧ i < (g.Edges.length : Int) ∧ ¬ fh (g.Nodes.length : Int) (nth g.Edges i)
    · rw [c2.1 b, s2.1 b]
      obtain ⟨i, b1, b2, b3⟩ := b
      exact ⟨6, rfl, rfl, (fun h => by cases h), fun ok => absurd (ok.2.2.2 i b1 b2) b3⟩
    · have b' : ∀ i : Int, 0 ≤ i → i < (g.Edges.length : Int) → ¬ ¬ fh (g.Nodes.length : Int) (nth g.Edges i) := fun i x y z => b ⟨i, x, y, z⟩
      rw [c2.2 b', s2.2 b']
      exact ⟨0, rfl, rfl, fun _ => ⟨by omega, by omega, fun i x y => Decidable.of_not_not (a' i x y), fun i x y => Decidable.of_not_not (b' i x y)⟩, fun _ => rfl⟩
theorem lj {xs : List Int} (h : (xs.length : Int) ≤ 1000) : jS xs = some xs := by
  unfold jS; rw [if_pos (by omega)]
end Go.Proofs.YtngimdmkomkeoaaGreat.K
