/- Laws about graphs, their parts and morphisms: what 'no error' says of them, and the other way round. -/
import Derived.Test.YtpnfoacmgfklaaaGreatLawA
import Derived.Test.YtpnfoacmgfklaaaGreatPure
set_option linter.unusedVariables false
set_option linter.unusedSimpArgs false
namespace Go.Proofs.YtpnfoacmgfklaaaGreat.K
open Go.RowKit Go.Proofs

/-! ### graphs -/
def EdgeOk (n : Int) (e : api_Edge) : Prop := 0 ≤ e.Type_ ∧ e.Type_ ≤ 99 ∧ 0 ≤ e.From ∧ e.From < n ∧ 0 ≤ e.To ∧ e.To < n
instance (n : Int) (e : api_Edge) : Decidable (EdgeOk n e) := by unfold EdgeOk; infer_instance
/-- what 'no error' says of a graph -/
def GraphOk (g : api_Graph) : Prop := (g.Nodes.length : Int) ≤ 40 ∧ (g.Edges.length : Int) ≤ 80 ∧ (∀ i : Int, 0 ≤ i → i < (g.Nodes.length : Int) → 0 ≤ nth g.Nodes i ∧ nth g.Nodes i ≤ 99) ∧ (∀ i : Int, 0 ≤ i → i < (g.Edges.length : Int) → EdgeOk (g.Nodes.length : Int) (nth g.Edges i))

theorem within_eq (a b : Int) : graph_within a b = some (decide (0 ≤ a ∧ a ≤ b)) := by
  unfold graph_within; by_cases h : 0 ≤ a <;> simp [h]
theorem kind_eq (a : Int) : ref05_kind a = some (decide (0 ≤ a ∧ a ≤ 99)) := by
  unfold ref05_kind; by_cases h : 0 ≤ a <;> simp [h]
theorem fits_eq (e : api_Edge) {n : Int} (h0 : 0 ≤ n) (h1 : n ≤ 1000) : graph_fits e n = some (decide (EdgeOk n e)) := by
  unfold graph_fits
  rw [w64_in (x := n - 1) (by omega) (by omega)]
  simp only [within_eq, Option.bind_some]
  by_cases a : 0 ≤ e.Type_ ∧ e.Type_ ≤ 99
  · by_cases b : 0 ≤ e.From ∧ e.From ≤ n - 1
    · simp only [a, b, and_self, decide_true, if_true, Option.some.injEq, decide_eq_decide, EdgeOk, true_and]
      omega
    · have hb : ¬ EdgeOk n e := fun h => b ⟨h.2.2.1, by have := h.2.2.2.1; omega⟩
      simp [a, b, hb]
  · have hb : ¬ EdgeOk n e := fun h => a ⟨h.1, h.2.1⟩
    simp [a, hb]
theorem right_eq (e : api_Edge) (n : Int) : ref05_right e n = some (decide (EdgeOk n e)) := by
  unfold ref05_right
  simp only [kind_eq, Option.bind_some]
  by_cases a : 0 ≤ e.Type_ ∧ e.Type_ ≤ 99
  · by_cases b : 0 ≤ e.From
    · by_cases c : e.From < n
      · by_cases d : 0 ≤ e.To <;> simp [a, b, c, d, EdgeOk]
      · simp [a, b, c, EdgeOk]
    · simp [a, b, EdgeOk]
  · have hb : ¬ EdgeOk n e := fun h => a ⟨h.1, h.2.1⟩
    simp [a, hb]

theorem contains_int {p : Int → Option Bool} {q : Int → Prop} [DecidablePred q] (xs : List Int) (h : ∀ x ∈ xs, p x = some (decide (q x))) :
    ((∃ i : Int, 0 ≤ i ∧ i < (xs.length : Int) ∧ q (nth xs i)) → slices_ContainsFunc_int xs p = some true) ∧ ((∀ i : Int, 0 ≤ i → i < (xs.length : Int) → ¬ q (nth xs i)) → slices_ContainsFunc_int xs p = some false) := by
  have e : slices_IndexFunc_int xs p = scanN (fun i => if q (nth xs i) then some i else none) 0 xs.length (some (-1)) := by
    unfold slices_IndexFunc_int
    refine Iter_scan _ _ (fun i h0 h1 => ?_) ?_
    · unfold slices_IndexFunc_int_l1
      rw [if_pos h1, if_pos ⟨h0, h1⟩, h _ (nth_mem h0 h1)]
      by_cases hq : q (nth xs i) <;> simp [hq]
    · unfold slices_IndexFunc_int_l1
      rw [if_neg (by omega)]; rfl
  unfold slices_ContainsFunc_int
  rw [e]
  rcases scanN_cases (step := fun i => if q (nth xs i) then some i else none) (fin := some (-1)) xs.length 0 with ⟨h1, h2⟩ | ⟨j, b, h1, h2, h3, h4, h5⟩
  · rw [h2]
    refine ⟨fun ⟨i, a, b, c⟩ => ?_, fun _ => rfl⟩
    have := h1 i a (by omega)
    simp [c] at this
  · rw [h5]
    by_cases hq : q (nth xs j)
    · simp [hq] at h3
      subst h3
      exact ⟨fun _ => by simp [h1], fun hn => absurd hq (hn j h1 (by omega))⟩
    · simp [hq] at h3
theorem contains_edge {p : api_Edge → Option Bool} {q : api_Edge → Prop} [DecidablePred q] (xs : List api_Edge) (h : ∀ x ∈ xs, p x = some (decide (q x))) :
    ((∃ i : Int, 0 ≤ i ∧ i < (xs.length : Int) ∧ q (nth xs i)) → slices_ContainsFunc_api_Edge xs p = some true) ∧ ((∀ i : Int, 0 ≤ i → i < (xs.length : Int) → ¬ q (nth xs i)) → slices_ContainsFunc_api_Edge xs p = some false) := by
  have e : slices_IndexFunc_api_Edge xs p = scanN (fun i => if q (nth xs i) then some i else none) 0 xs.length (some (-1)) := by
    unfold slices_IndexFunc_api_Edge
    refine Iter_scan _ _ (fun i h0 h1 => ?_) ?_
    · unfold slices_IndexFunc_api_Edge_l1
      rw [if_pos h1, if_pos ⟨h0, h1⟩, h _ (nth_mem h0 h1)]
      by_cases hq : q (nth xs i) <;> simp [hq]
    · unfold slices_IndexFunc_api_Edge_l1
      rw [if_neg (by omega)]; rfl
  unfold slices_ContainsFunc_api_Edge
  rw [e]
  rcases scanN_cases (step := fun i => if q (nth xs i) then some i else none) (fin := some (-1)) xs.length 0 with ⟨h1, h2⟩ | ⟨j, b, h1, h2, h3, h4, h5⟩
  · rw [h2]
    refine ⟨fun ⟨i, a, b, c⟩ => ?_, fun _ => rfl⟩
    have := h1 i a (by omega)
    simp [c] at this
  · rw [h5]
    by_cases hq : q (nth xs j)
    · simp [hq] at h3
      subst h3
      exact ⟨fun _ => by simp [h1], fun hn => absurd hq (hn j h1 (by omega))⟩
    · simp [hq] at h3

/-- Both say of any graph whether it has an error, and the same one. -/
theorem graph_law (g : api_Graph) : ∃ c, graph_Valid g = some c ∧ ref05_Valid g = some c ∧ (c = 0 ↔ GraphOk g) := by
  unfold graph_Valid ref05_Valid
  by_cases hn : 40 < (g.Nodes.length : Int)
  · exact ⟨3, by simp [hn], by simp [hn], (fun h => by cases h), fun ok => by have := ok.1; omega⟩
  rw [if_neg hn, if_neg hn]
  by_cases he : 80 < (g.Edges.length : Int)
  · exact ⟨3, by simp [he], by simp [he], (fun h => by cases h), fun ok => by have := ok.2.1; omega⟩
  rw [if_neg he, if_neg he]
  have c1 := contains_int (p := graph_Valid_1) (q := fun k => ¬ (0 ≤ k ∧ k ≤ 99)) g.Nodes (fun x _ => by unfold graph_Valid_1; rw [within_eq]; simp [-not_and])
  have c2 := contains_edge (p := fun x => graph_Valid_2 x g) (q := fun e => ¬ EdgeOk (g.Nodes.length : Int) e) g.Edges (fun x _ => by unfold graph_Valid_2; rw [fits_eq x (by omega) (by omega)]; simp)
  have e1 : Iter (ref05_Valid_l3 g) 0 = scanN (fun i => if ¬ (0 ≤ nth g.Nodes i ∧ nth g.Nodes i ≤ 99) then some 6 else none) 0 g.Nodes.length (Iter (ref05_Valid_l17 g) 0) := by
    refine Iter_scan _ _ (fun i h0 h1 => ?_) ?_
    · unfold ref05_Valid_l3
      rw [if_pos h1, if_pos ⟨h0, h1⟩, kind_eq]
      by_cases hq : 0 ≤ nth g.Nodes i ∧ nth g.Nodes i ≤ 99 <;> simp [hq, -not_and]
    · unfold ref05_Valid_l3
      rw [if_neg (by omega)]
  have e2 : Iter (ref05_Valid_l17 g) 0 = scanN (fun i => if ¬ EdgeOk (g.Nodes.length : Int) (nth g.Edges i) then some 6 else none) 0 g.Edges.length (some 0) := by
    refine Iter_scan _ _ (fun i h0 h1 => ?_) ?_
    · unfold ref05_Valid_l17
      rw [if_pos h1, if_pos ⟨h0, h1⟩, right_eq]
      by_cases hq : EdgeOk (g.Nodes.length : Int) (nth g.Edges i) <;> simp [hq]
    · unfold ref05_Valid_l17
      rw [if_neg (by omega)]; rfl
  have s1 := scanN_if (step := fun i => if ¬ (0 ≤ nth g.Nodes i ∧ nth g.Nodes i ≤ 99) then some (6 : Int) else none) (p := fun i => ¬ (0 ≤ nth g.Nodes i ∧ nth g.Nodes i ≤ 99)) (fin := Iter (ref05_Valid_l17 g) 0) g.Nodes.length (fun i _ _ => rfl)
  have s2 := scanN_if (step := fun i => if ¬ EdgeOk (g.Nodes.length : Int) (nth g.Edges i) then some (6 : Int) else none) (p := fun i => ¬ EdgeOk (g.Nodes.length : Int) (nth g.Edges i)) (fin := some 0) g.Edges.length (fun i _ _ => rfl)
  rw [e1]
  by_cases a : ∃ i : Int, 0 ≤ i ∧ i < (g.Nodes.length : Int) ∧ ¬ (0 ≤ nth g.Nodes i ∧ nth g.Nodes i ≤ 99)
  · rw [c1.1 a, s1.1 a]
    obtain ⟨i, a1, a2, a3⟩ := a
    exact ⟨6, rfl, rfl, (fun h => by cases h), fun ok => absurd (ok.2.2.1 i a1 a2) a3⟩
  · have a' : ∀ i : Int, 0 ≤ i → i < (g.Nodes.length : Int) → ¬ ¬ (0 ≤ nth g.Nodes i ∧ nth g.Nodes i ≤ 99) := fun i x y z => a ⟨i, x, y, z⟩
    rw [c1.2 a', s1.2 a', e2]
    by_cases b : ∃ i : Int, 0 ≤ i ∧ i < (g.Edges.length : Int) ∧ ¬ EdgeOk (g.Nodes.length : Int) (nth g.Edges i)
    · rw [c2.1 b, s2.1 b]
      obtain ⟨i, b1, b2, b3⟩ := b
      exact ⟨6, rfl, rfl, (fun h => by cases h), fun ok => absurd (ok.2.2.2 i b1 b2) b3⟩
    · have b' : ∀ i : Int, 0 ≤ i → i < (g.Edges.length : Int) → ¬ ¬ EdgeOk (g.Nodes.length : Int) (nth g.Edges i) := fun i x y z => b ⟨i, x, y, z⟩
      rw [c2.2 b', s2.2 b']
      exact ⟨0, rfl, rfl, fun _ => ⟨by omega, by omega, fun i x y => Decidable.of_not_not (a' i x y), fun i x y => Decidable.of_not_not (b' i x y)⟩, fun _ => rfl⟩

/-! ### parts -/
theorem ascending_eq : ref07_ascending = subgraph_list := rfl
theorem list_law (xs : List Int) (n : Int) : ∃ c, subgraph_list xs n = some c ∧ (c = 0 ↔ Up n xs) := by
  unfold subgraph_list
  rw [Iter_scan (n := xs.length) (fun i => if nth xs i < 0 then some 6 else if n ≤ nth xs i then some 6 else if 0 < i then if nth xs i ≤ nth xs (i - 1) then some 12 else none else none) (some 0) ?_ ?_]
  · rcases scanN_cases (step := fun i : Int => if nth xs i < 0 then some (6 : Int) else if n ≤ nth xs i then some 6 else if 0 < i then if nth xs i ≤ nth xs (i - 1) then some 12 else none else none) (fin := some 0) xs.length 0 with ⟨h1, h2⟩ | ⟨j, b, h1, h2, h3, h4, h5⟩
    · refine ⟨0, h2, fun _ i a b => ?_, fun _ => rfl⟩
      have := h1 i a (by omega)
      try simp only at this
      split at this
      · cases this
      split at this
      · cases this
      split at this
      · split at this
        · cases this
        · exact ⟨by omega, by omega, fun _ => by omega⟩
      · exact ⟨by omega, by omega, fun _ => by omega⟩
    · refine ⟨b, h5, fun e => ?_, fun up => ?_⟩
      rotate_left
      · obtain ⟨u1, u2, u3⟩ := up j h1 (by omega)
        try simp only at h3
        rw [if_neg (by omega), if_neg (by omega)] at h3
        by_cases hj : 0 < j
        · have := u3 hj
          rw [if_pos hj, if_neg (by omega)] at h3; cases h3
        · rw [if_neg hj] at h3; cases h3
      subst e
      try simp only at h3
      split at h3
      · cases h3
      split at h3
      · cases h3
      split at h3
      · split at h3 <;> cases h3
      · cases h3
  · intro i h0 h1
    unfold subgraph_list_l1
    rw [if_pos h1, if_pos ⟨h0, h1⟩]
    by_cases a : nth xs i < 0
    · simp [a]
    · by_cases b : n ≤ nth xs i
      · simp [a, b]
      · by_cases c : 0 < i
        · by_cases d : nth xs i ≤ nth xs (i - 1)
          · simp only [a, b, c, d, if_true, if_false]; rw [if_pos (by omega)]
          · simp only [a, b, c, d, if_true, if_false]; rw [if_pos (by omega)]; rfl
        · simp only [a, b, c, if_true, if_false]; rfl
  · unfold subgraph_list_l1
    rw [if_neg (by omega)]; rfl

theorem less_eq (a b : Int) : cmp_Less_int a b = some (decide (a < b)) := by
  unfold cmp_Less_int cmp_isNaN_int; simp
/-- the binary search in a list that goes up: the place of the number, or that it is not there -/
theorem bin_law {n : Int} {xs : List Int} (hu : Up n xs) (hl : (xs.length : Int) ≤ 1000) (t : Int) :
    ∃ b, slices_BinarySearch_int xs t = some b ∧ (b.2 = true → 0 ≤ b.1 ∧ b.1 < (xs.length : Int) ∧ nth xs b.1 = t) ∧ (b.2 = false → ∀ i : Int, 0 ≤ i → i < (xs.length : Int) → nth xs i ≠ t) := by
  unfold slices_BinarySearch_int
  refine Iter_inv (fun x : Int × Int => 0 ≤ x.1 ∧ x.1 ≤ x.2 ∧ x.2 ≤ (xs.length : Int) ∧ (∀ i : Int, 0 ≤ i → i < x.1 → nth xs i < t) ∧ (∀ i : Int, x.2 ≤ i → i < (xs.length : Int) → t ≤ nth xs i)) (fun x => (x.2 - x.1).toNat) _ (fun x hp => ?_) (0, (xs.length : Int)) ⟨by omega, by simp, by simp, fun i a b => by simp at b; omega, fun i a b => by simp at a; omega⟩
  obtain ⟨lo, hi⟩ := x
  obtain ⟨h0, h1, h2, h3, h4⟩ := hp
  simp only at h0 h1 h2 h3 h4
  unfold slices_BinarySearch_int_l1
  simp only
  by_cases hlt : lo < hi
  · rw [if_pos hlt]
    left
    have f2 : (lo + hi).fdiv (2 ^ (min (1 : Int).toNat (IntKind.bits .u64))) = (lo + hi) / 2 := by
      have : (2 : Int) ^ (min (1 : Int).toNat (IntKind.bits .u64)) = 2 := by decide
      rw [this, Int.fdiv_eq_ediv_of_nonneg _ (by omega)]
    rw [w64_in (x := lo + hi) (by omega) (by omega)]
    simp only [Option.bind_some]
    rw [IntWalk.u64_in (lo + hi) (by omega), f2, IntWalk.i64_in ((lo + hi) / 2) (by omega), if_pos (by omega), less_eq]
    simp only [Option.bind_some]
    by_cases hc : nth xs ((lo + hi) / 2) < t
    · simp only [hc, decide_true, if_true]
      rw [w64_in (x := (lo + hi) / 2 + 1) (by omega) (by omega)]
      refine ⟨_, rfl, ⟨by simp only; omega, by simp only; omega, h2, fun i a b => ?_, h4⟩, by simp only; omega⟩
      simp only at b
      by_cases e : i = (lo + hi) / 2
      · rw [e]; exact hc
      · have := hu.mono a (show i < (lo + hi) / 2 by omega) (by omega); omega
    · simp only [hc, decide_false, if_false, Bool.false_eq_true]
      refine ⟨_, rfl, ⟨h0, by simp only; omega, by simp only; omega, h3, fun i a b => ?_⟩, by simp only; omega⟩
      simp only at a
      by_cases e : i = (lo + hi) / 2
      · rw [e]; omega
      · have := hu.mono (i := (lo + hi) / 2) (j := i) (by omega) (by omega) b; omega
  · rw [if_neg hlt]
    right
    have e : lo = hi := by omega
    subst e
    by_cases hx : lo < (xs.length : Int)
    · rw [if_pos hx, if_pos ⟨h0, hx⟩]
      by_cases hq : nth xs lo = t
      · rw [if_pos hq]
        exact ⟨_, rfl, fun _ => ⟨h0, hx, hq⟩, fun h => by simp at h⟩
      · rw [if_neg hq]
        refine ⟨(lo, false), by simp [slices_isNaN_int], fun h => by simp at h, fun _ i a b hi => ?_⟩
        rcases Int.lt_trichotomy i lo with c | c | c
        · have := h3 i a c; omega
        · subst c; exact hq hi
        · have := hu.mono h0 c b
          have := h4 lo (Int.le_refl _) hx
          omega
    · rw [if_neg hx]
      refine ⟨(lo, false), rfl, fun h => by simp at h, fun _ i a b hi => ?_⟩
      have := h3 i a (by omega); omega
theorem has_law (xs : List Int) (t : Int) : ((∃ i : Int, 0 ≤ i ∧ i < (xs.length : Int) ∧ nth xs i = t) → ref07_has xs t = some true) ∧ ((∀ i : Int, 0 ≤ i → i < (xs.length : Int) → ¬ nth xs i = t) → ref07_has xs t = some false) := by
  unfold ref07_has
  rw [Iter_scan (n := xs.length) (fun i => if nth xs i = t then some true else none) (some false) ?_ ?_]
  · exact scanN_if (p := fun i => nth xs i = t) xs.length (fun i _ _ => rfl)
  · intro i h0 h1
    unfold ref07_has_l1
    rw [if_pos h1, if_pos ⟨h0, h1⟩]
    by_cases h : nth xs i = t <;> simp [h]
  · unfold ref07_has_l1
    rw [if_neg (by omega)]; rfl
theorem index_law (xs : List Int) (t : Int) : ∃ j, ref07_index xs t = some j ∧ ((∃ i : Int, 0 ≤ i ∧ i < (xs.length : Int) ∧ nth xs i = t) → 0 ≤ j ∧ j < (xs.length : Int) ∧ nth xs j = t) := by
  unfold ref07_index
  rw [Iter_scan (n := xs.length) (fun i => if nth xs i = t then some i else none) (some (-1)) ?_ ?_]
  · rcases scanN_cases (step := fun i : Int => if nth xs i = t then some i else none) (fin := some (-1)) xs.length 0 with ⟨h1, h2⟩ | ⟨j, b, h1, h2, h3, h4, h5⟩
    · refine ⟨-1, h2, fun ⟨i, a, b, c⟩ => ?_⟩
      have := h1 i a (by omega)
      simp [c] at this
    · refine ⟨b, h5, fun _ => ?_⟩
      try simp only at h3
      split at h3
      · cases h3; exact ⟨h1, by omega, by assumption⟩
      · cases h3
  · intro i h0 h1
    unfold ref07_index_l1
    rw [if_pos h1, if_pos ⟨h0, h1⟩]
    by_cases h : nth xs i = t <;> simp [h]
  · unfold ref07_index_l1
    rw [if_neg (by omega)]; rfl
theorem subhas_eq {n : Int} {xs : List Int} (hu : Up n xs) (hl : (xs.length : Int) ≤ 1000) (t : Int) :
    ∃ b, subgraph_has xs t = some b ∧ ref07_has xs t = some b ∧ (b = true → ∃ i : Int, 0 ≤ i ∧ i < (xs.length : Int) ∧ nth xs i = t) := by
  obtain ⟨b, h1, h2, h3⟩ := bin_law hu hl t
  have hl := has_law xs t
  refine ⟨b.2, by unfold subgraph_has; rw [h1]; rfl, ?_, fun h => ?_⟩
  · cases hb : b.2 with
    | true => exact hl.1 ⟨b.1, h2 hb⟩
    | false => exact hl.2 (h3 hb)
  · exact ⟨b.1, h2 h⟩

/-- what 'no error' says of a part -/
def PartOk (g : api_Graph) (p : api_Part) : Prop := Up (g.Nodes.length : Int) p.Nodes ∧ Up (g.Edges.length : Int) p.Edges ∧ ∀ i : Int, 0 ≤ i → i < (p.Edges.length : Int) →
  (∃ k : Int, 0 ≤ k ∧ k < (p.Nodes.length : Int) ∧ nth p.Nodes k = (nth g.Edges (nth p.Edges i)).From) ∧ (∃ k : Int, 0 ≤ k ∧ k < (p.Nodes.length : Int) ∧ nth p.Nodes k = (nth g.Edges (nth p.Edges i)).To)
theorem part_law {g : api_Graph} (hg : GraphOk g) (p : api_Part) : ∃ c, subgraph_part g p = some c ∧ ref07_Right g p = some c ∧ (c = 0 ↔ PartOk g p) := by
  unfold subgraph_part ref07_Right
  rw [ascending_eq]
  obtain ⟨c1, a1, a2⟩ := list_law p.Nodes (g.Nodes.length : Int)
  rw [a1]
  simp only [Option.bind_some]
  by_cases h1 : c1 = 0
  rotate_left
  · exact ⟨c1, by simp [h1], by simp [h1], fun e => absurd e h1, fun ok => a2.2 ok.1⟩
  have u1 := a2.1 h1
  obtain ⟨c2, b1, b2⟩ := list_law p.Edges (g.Edges.length : Int)
  rw [b1]
  simp only [Option.bind_some, h1, not_true, if_false]
  by_cases h2 : c2 = 0
  rotate_left
  · exact ⟨c2, by simp [h2], by simp [h2], fun e => absurd e h2, fun ok => b2.2 ok.2.1⟩
  have u2 := b2.1 h2
  simp only [h2, not_true, if_false]
  have l1 := u1.len (by omega)
  have l2 := u2.len (by omega)
  obtain ⟨g1, g2, _, _⟩ := hg
  refine (Iter_sim (F := subgraph_part_l7 g p) (G := ref07_Right_l7 g p) (fun x : Int => 0 ≤ x ∧ x ≤ (p.Edges.length : Int) ∧ ∀ i : Int, 0 ≤ i → i < x → (∃ k : Int, 0 ≤ k ∧ k < (p.Nodes.length : Int) ∧ nth p.Nodes k = (nth g.Edges (nth p.Edges i)).From) ∧ (∃ k : Int, 0 ≤ k ∧ k < (p.Nodes.length : Int) ∧ nth p.Nodes k = (nth g.Edges (nth p.Edges i)).To)) (fun x => ((p.Edges.length : Int) - x).toNat) (fun c => c = 0 ↔ PartOk g p) (fun x hp => ?_) 0 ⟨by omega, by omega, fun i a b => by omega⟩)
  obtain ⟨p1, p2, p3⟩ := hp
  unfold subgraph_part_l7 ref07_Right_l7
  by_cases hx : x < (p.Edges.length : Int)
  · have hu := u2 x p1 hx
    obtain ⟨d1, q1, q2, q3⟩ := subhas_eq u1 (by omega) (nth g.Edges (nth p.Edges x)).From
    obtain ⟨d2, r1, r2, r3⟩ := subhas_eq u1 (by omega) (nth g.Edges (nth p.Edges x)).To
    rw [if_pos hx, if_pos ⟨p1, hx⟩, if_pos ⟨hu.1, hu.2.1⟩, q1, if_pos hx, if_pos ⟨p1, hx⟩, if_pos ⟨hu.1, hu.2.1⟩, q2]
    simp only [Option.bind_some]
    rw [r1, r2]
    simp only [Option.bind_some]
    cases d1 with
    | false => exact Or.inr ⟨14, rfl, rfl, (fun h => by cases h), fun ok => by have := (has_law p.Nodes (nth g.Edges (nth p.Edges x)).From).1 (ok.2.2 x p1 hx).1; rw [q2] at this; cases this⟩
    | true =>
      cases d2 with
      | false => exact Or.inr ⟨14, rfl, rfl, (fun h => by cases h), fun ok => by have := (has_law p.Nodes (nth g.Edges (nth p.Edges x)).To).1 (ok.2.2 x p1 hx).2; rw [r2] at this; cases this⟩
      | true =>
        refine Or.inl ⟨x + 1, rfl, rfl, ⟨by omega, by omega, fun i a b => ?_⟩, by omega⟩
        by_cases e : i = x
        · rw [e]; exact ⟨q3 rfl, r3 rfl⟩
        · exact p3 i a (by omega)
  · rw [if_neg hx, if_neg hx]
    exact Or.inr ⟨0, rfl, rfl, fun _ => ⟨u1, u2, fun i a b => p3 i a (by omega)⟩, fun _ => rfl⟩

theorem cloneI {xs : List Int} (h : (xs.length : Int) ≤ 1000) : slices_Clone_int xs = some xs := by
  unfold slices_Clone_int; rw [if_pos (by omega)]
theorem cloneE {xs : List api_Edge} (h : (xs.length : Int) ≤ 1000) : slices_Clone_api_Edge xs = some xs := by
  unfold slices_Clone_api_Edge; rw [if_pos (by omega)]

/-- what the part cut out is -/
def CutOf (g : api_Graph) (p : api_Part) (k : api_Graph) : Prop := k.Nodes.length = p.Nodes.length ∧ k.Edges.length = p.Edges.length ∧ (∀ i : Int, 0 ≤ i → i < (p.Nodes.length : Int) → nth k.Nodes i = nth g.Nodes (nth p.Nodes i)) ∧
  ∀ i : Int, 0 ≤ i → i < (p.Edges.length : Int) → (nth k.Edges i).Type_ = (nth g.Edges (nth p.Edges i)).Type_ ∧ 0 ≤ (nth k.Edges i).From ∧ (nth k.Edges i).From < (p.Nodes.length : Int) ∧ nth p.Nodes (nth k.Edges i).From = (nth g.Edges (nth p.Edges i)).From ∧
    0 ≤ (nth k.Edges i).To ∧ (nth k.Edges i).To < (p.Nodes.length : Int) ∧ nth p.Nodes (nth k.Edges i).To = (nth g.Edges (nth p.Edges i)).To
/-- The part cut out: the same graph from both. -/
theorem cut_law {g : api_Graph} (hg : GraphOk g) {p : api_Part} (ok : PartOk g p) : ∃ b, subgraph_Extract g p = some b ∧ ref07_Extract g p = some b ∧ b.2.2 = 0 ∧ CutOf g p b.1 := by
  obtain ⟨c0, g1, g2, g3⟩ := graph_law g
  obtain ⟨c, p1, p2, p3⟩ := part_law hg p
  unfold subgraph_Extract ref07_Extract subgraph_Valid ref07_Valid
  rw [g1, g2]
  simp only [Option.bind_some, g3.2 hg, not_true, if_false]
  rw [p1, p2]
  simp only [Option.bind_some, p3.2 ok, not_true, if_false]
  have l1 := ok.1.len (by omega)
  have l2 := ok.2.1.len (by omega)
  have n1 := hg.1
  have n2 := hg.2.1
  have inner : ∀ x4 : List Int × Int, ∃ b, Iter (subgraph_Extract_l15 g p x4) ([], 0) = some b ∧ Iter (ref07_Extract_l15 g p x4) ([], 0) = some b ∧ (b.1.Nodes = x4.1 ∧ b.1.Edges.length = p.Edges.length ∧ b.2.2 = 0 ∧
      ∀ i : Int, 0 ≤ i → i < (p.Edges.length : Int) → (nth b.1.Edges i).Type_ = (nth g.Edges (nth p.Edges i)).Type_ ∧ 0 ≤ (nth b.1.Edges i).From ∧ (nth b.1.Edges i).From < (p.Nodes.length : Int) ∧ nth p.Nodes (nth b.1.Edges i).From = (nth g.Edges (nth p.Edges i)).From ∧
        0 ≤ (nth b.1.Edges i).To ∧ (nth b.1.Edges i).To < (p.Nodes.length : Int) ∧ nth p.Nodes (nth b.1.Edges i).To = (nth g.Edges (nth p.Edges i)).To) := by
    intro x4
    refine Iter_sim (F := subgraph_Extract_l15 g p x4) (G := ref07_Extract_l15 g p x4) (fun x : List api_Edge × Int => 0 ≤ x.2 ∧ x.2 ≤ (p.Edges.length : Int) ∧ (x.1.length : Int) = x.2 ∧ ∀ i : Int, 0 ≤ i → i < (x.1.length : Int) → (fun (i : Int) (e : api_Edge) => e.Type_ = (nth g.Edges (nth p.Edges i)).Type_ ∧ 0 ≤ e.From ∧ e.From < (p.Nodes.length : Int) ∧ nth p.Nodes e.From = (nth g.Edges (nth p.Edges i)).From ∧
        0 ≤ e.To ∧ e.To < (p.Nodes.length : Int) ∧ nth p.Nodes e.To = (nth g.Edges (nth p.Edges i)).To) i (nth x.1 i)) (fun x => ((p.Edges.length : Int) - x.2).toNat) _ (fun x hp => ?_) ([], 0) ⟨by simp, by simp, by simp, fun i a b => by simp at b; omega⟩
    obtain ⟨es, x⟩ := x
    obtain ⟨q1, q2, q3, q4⟩ := hp
    simp only at q1 q2 q3
    unfold subgraph_Extract_l15 ref07_Extract_l15
    simp only
    by_cases hx : x < (p.Edges.length : Int)
    · have hu := ok.2.1 x q1 hx
      have he := ok.2.2 x q1 hx
      obtain ⟨b1, r1, r2, r3⟩ := bin_law ok.1 (by omega) (nth g.Edges (nth p.Edges x)).From
      obtain ⟨b2, s1, s2, s3⟩ := bin_law ok.1 (by omega) (nth g.Edges (nth p.Edges x)).To
      obtain ⟨j1, t1, t2⟩ := index_law p.Nodes (nth g.Edges (nth p.Edges x)).From
      obtain ⟨j2, v1, v2⟩ := index_law p.Nodes (nth g.Edges (nth p.Edges x)).To
      obtain ⟨m1, m2, m3⟩ := t2 he.1
      obtain ⟨o1, o2, o3⟩ := v2 he.2
      have e1 : b1.1 = j1 := by
        cases hb : b1.2 with
        | false => obtain ⟨k, k1, k2, k3⟩ := he.1; exact absurd k3 (r3 hb k k1 k2)
        | true =>
          obtain ⟨k1, k2, k3⟩ := r2 hb
          exact ok.1.inj k1 k2 m1 m2 (k3.trans m3.symm)
      have e2 : b2.1 = j2 := by
        cases hb : b2.2 with
        | false => obtain ⟨k, k1, k2, k3⟩ := he.2; exact absurd k3 (s3 hb k k1 k2)
        | true =>
          obtain ⟨k1, k2, k3⟩ := s2 hb
          exact ok.1.inj k1 k2 o1 o2 (k3.trans o3.symm)
      rw [if_pos hx, if_pos ⟨q1, hx⟩, if_pos ⟨hu.1, hu.2.1⟩, r1, if_pos hx, if_pos ⟨q1, hx⟩, if_pos ⟨hu.1, hu.2.1⟩, t1]
      simp only [Option.bind_some]
      rw [s1, v1]
      simp only [Option.bind_some]
      rw [if_pos (by omega), if_pos (by omega), e1, e2]
      refine Or.inl ⟨_, rfl, rfl, ⟨by simp only; omega, by simp only; omega, by simp only [List.length_append, List.length_singleton]; omega, ?_⟩, by simp only; omega⟩
      intro i i1 i2
      simp only [List.length_append, List.length_singleton] at i2
      by_cases e : i = (es.length : Int)
      · have : nth (es ++ [(api_Edge.mk ((nth g.Edges (nth p.Edges x)).Type_) j1 j2)]) i = api_Edge.mk ((nth g.Edges (nth p.Edges x)).Type_) j1 j2 := by
          subst e; rw [nth_nat _ es.length (by simp)]; simp
        simp only [this]
        rw [e, q3]
        exact ⟨rfl, m1, m2, m3, o1, o2, o3⟩
      · have : nth (es ++ [(api_Edge.mk ((nth g.Edges (nth p.Edges x)).Type_) j1 j2)]) i = nth es i := by
          obtain ⟨k, rfl⟩ := Int.eq_ofNat_of_zero_le i1
          rw [nth_nat _ k (by simp; omega), nth_nat _ k (by omega), List.getElem_append_left]
        simp only [this]
        exact q4 i i1 (by simp only; omega)
    · rw [if_neg hx, if_neg hx, cloneI (by omega), cloneI (by omega), if_pos (by omega), if_pos (by omega)]
      exact Or.inr ⟨_, rfl, rfl, rfl, by simp only; omega, rfl, fun i a b => q4 i a (by simp only; omega)⟩
  have outer : ∃ b, Iter (subgraph_Extract_l4 g p) ([], 0) = some b ∧ Iter (ref07_Extract_l4 g p) ([], 0) = some b ∧ (b.2.2 = 0 ∧ CutOf g p b.1) := by
    refine Iter_sim (F := subgraph_Extract_l4 g p) (G := ref07_Extract_l4 g p) (fun x : List Int × Int => 0 ≤ x.2 ∧ x.2 ≤ (p.Nodes.length : Int) ∧ (x.1.length : Int) = x.2 ∧ ∀ i : Int, 0 ≤ i → i < x.2 → nth x.1 i = nth g.Nodes (nth p.Nodes i)) (fun x => ((p.Nodes.length : Int) - x.2).toNat) _ (fun x hp => ?_) ([], 0) ⟨by simp, by simp, by simp, fun i a b => by simp at b; omega⟩
    obtain ⟨ns, x⟩ := x
    obtain ⟨q1, q2, q3, q4⟩ := hp
    simp only at q1 q2 q3 q4
    unfold subgraph_Extract_l4 ref07_Extract_l4
    simp only
    by_cases hx : x < (p.Nodes.length : Int)
    · have hu := ok.1 x q1 hx
      simp only [if_pos hx, if_pos (show 0 ≤ x ∧ x < (p.Nodes.length : Int) from ⟨q1, hx⟩), if_pos (show 0 ≤ nth p.Nodes x ∧ nth p.Nodes x < (g.Nodes.length : Int) from ⟨hu.1, hu.2.1⟩), if_pos (show (ns.length + 1) * 8 ≤ 140737488355328 by omega)]
      refine Or.inl ⟨_, rfl, rfl, ⟨by simp only; omega, by simp only; omega, by simp only [List.length_append, List.length_singleton]; omega, ?_⟩, by simp only; omega⟩
      intro i i1 i2
      simp only at i2 ⊢
      by_cases e : i = (ns.length : Int)
      · subst e; rw [nth_nat _ ns.length (by simp), q3]; simp
      · obtain ⟨k, rfl⟩ := Int.eq_ofNat_of_zero_le i1
        rw [nth_nat _ k (by simp; omega), List.getElem_append_left (by omega), ← nth_nat ns k (by omega)]
        exact q4 (k : Int) i1 (by omega)
    · rw [if_neg hx, if_neg hx]
      obtain ⟨b, i1, i2, i3, i4, i5, i6⟩ := inner (ns, x)
      rw [i1, i2]
      exact Or.inr ⟨b, rfl, rfl, i5, by rw [i3]; simp only; omega, i4, fun i a c => by rw [i3]; exact q4 i a (by omega), i6⟩
  obtain ⟨b, o1, o2, o3, o4⟩ := outer
  exact ⟨b, o1, o2, o3, o4⟩

/-! ### morphisms -/
/-- what 'no error' says of a morphism -/
def MorOk (a b : api_Graph) (m : api_Morphism) : Prop := m.Nodes.length = a.Nodes.length ∧ m.Edges.length = a.Edges.length ∧
  (∀ i : Int, 0 ≤ i → i < (a.Nodes.length : Int) → 0 ≤ nth m.Nodes i ∧ nth m.Nodes i < (b.Nodes.length : Int) ∧ nth b.Nodes (nth m.Nodes i) = nth a.Nodes i) ∧
  ∀ i : Int, 0 ≤ i → i < (a.Edges.length : Int) → 0 ≤ nth m.Edges i ∧ nth m.Edges i < (b.Edges.length : Int) ∧ (nth a.Edges i).Type_ = (nth b.Edges (nth m.Edges i)).Type_ ∧
    nth m.Nodes (nth a.Edges i).From = (nth b.Edges (nth m.Edges i)).From ∧ nth m.Nodes (nth a.Edges i).To = (nth b.Edges (nth m.Edges i)).To
theorem morphism_ok {a b : api_Graph} {m : api_Morphism} (ha : GraphOk a) (hb : GraphOk b) (hm : MorOk a b m) : morphism_Valid a b m = some 0 := by
  obtain ⟨c1, a1, _, a3⟩ := graph_law a
  obtain ⟨c2, b1, _, b3⟩ := graph_law b
  obtain ⟨m1, m2, m3, m4⟩ := hm
  unfold morphism_Valid
  rw [a1, b1]
  simp only [Option.bind_some, a3.2 ha, b3.2 hb, not_true, if_false]
  rw [if_neg (by simp [m1]), if_neg (by simp [m2])]
  have inner : Iter (morphism_Valid_l27 a b m) 0 = some 0 := by
    obtain ⟨c, hc, rfl⟩ := Iter_inv (F := morphism_Valid_l27 a b m) (fun x : Int => 0 ≤ x ∧ x ≤ (a.Edges.length : Int)) (fun x => ((a.Edges.length : Int) - x).toNat) (fun c => c = 0) (fun x hp => by
      obtain ⟨q1, q2⟩ := hp
      unfold morphism_Valid_l27
      by_cases hx : x < (a.Edges.length : Int)
      · obtain ⟨k1, k2, k3, k4, k5⟩ := m4 x q1 hx
        obtain ⟨_, _, e1, e2, e3, e4⟩ := ha.2.2.2 x q1 hx
        rw [if_pos (by omega), if_pos (by omega), if_neg (by omega), if_neg (by omega), if_pos ⟨q1, hx⟩, if_pos ⟨k1, k2⟩, if_neg (not_not_intro k3), if_pos (by omega), if_neg (not_not_intro k4), if_pos (by omega), if_neg (not_not_intro k5)]
        exact Or.inl ⟨_, rfl, ⟨by omega, by omega⟩, by omega⟩
      · rw [if_neg (by omega)]; exact Or.inr ⟨_, rfl, rfl⟩) 0 ⟨by omega, by omega⟩
    exact hc
  obtain ⟨c, hc, rfl⟩ := Iter_inv (F := morphism_Valid_l9 a b m) (fun x : Int => 0 ≤ x ∧ x ≤ (a.Nodes.length : Int)) (fun x => ((a.Nodes.length : Int) - x).toNat) (fun c => c = 0) (fun x hp => by
    obtain ⟨q1, q2⟩ := hp
    unfold morphism_Valid_l9
    by_cases hx : x < (a.Nodes.length : Int)
    · obtain ⟨k1, k2, k3⟩ := m3 x q1 hx
      rw [if_pos (by omega), if_pos (by omega), if_neg (by omega), if_neg (by omega), if_pos ⟨k1, k2⟩, if_pos ⟨q1, hx⟩, if_neg (not_not_intro k3)]
      exact Or.inl ⟨_, rfl, ⟨by omega, by omega⟩, by omega⟩
    · rw [if_neg (by omega), inner]; exact Or.inr ⟨_, rfl, rfl⟩) 0 ⟨by omega, by omega⟩
  exact hc
end Go.Proofs.YtpnfoacmgfklaaaGreat.K
