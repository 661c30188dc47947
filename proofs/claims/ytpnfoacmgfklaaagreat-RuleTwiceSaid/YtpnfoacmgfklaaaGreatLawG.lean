/- Laws about lists, searches through lists, and the sorting of short lists. -/
import Derived.Test.YtpnfoacmgfklaaaGreatLawB
set_option linter.unusedVariables false
set_option linter.unusedSimpArgs false
namespace Go.Proofs.YtpnfoacmgfklaaaGreat.K
open Go.RowKit Go.Proofs

theorem nth_left {α : Type} [Inhabited α] {xs ys : List α} {i : Int} (h0 : 0 ≤ i) (h1 : i < (xs.length : Int)) : nth (xs ++ ys) i = nth xs i := by
  obtain ⟨k, rfl⟩ := Int.eq_ofNat_of_zero_le h0
  have hk : k < xs.length := by omega
  rw [nth_nat _ k (by simp; omega), nth_nat _ k hk, List.getElem_append_left]
theorem nth_last {α : Type} [Inhabited α] {xs : List α} {v : α} {i : Int} (h : i = (xs.length : Int)) : nth (xs ++ [v]) i = v := by
  subst h
  rw [nth_nat _ xs.length (by simp)]; simp
theorem nth_right {α : Type} [Inhabited α] {xs ys : List α} {i : Int} (h0 : 0 ≤ i) (h1 : i < (ys.length : Int)) : nth (xs ++ ys) ((xs.length : Int) + i) = nth ys i := by
  obtain ⟨k, rfl⟩ := Int.eq_ofNat_of_zero_le h0
  have hk : k < ys.length := by omega
  have e : (xs.length : Int) + (k : Int) = ((xs.length + k : Nat) : Int) := by omega
  rw [e, nth_nat _ _ (by simp; omega), nth_nat _ k hk, List.getElem_append_right (by omega)]
  congr 1; omega
theorem nth_set_eq {α : Type} [Inhabited α] {xs : List α} {k : Int} {v : α} (h0 : 0 ≤ k) (h1 : k < (xs.length : Int)) : nth (xs.set k.toNat v) k = v := by
  obtain ⟨n, rfl⟩ := Int.eq_ofNat_of_zero_le h0
  have hn : n < xs.length := by omega
  rw [nth_nat _ n (by simpa using hn)]; simp
theorem nth_set_ne {α : Type} [Inhabited α] {xs : List α} {k i : Int} {v : α} (h0 : 0 ≤ k) (h : i ≠ k) (hi : 0 ≤ i) : nth (xs.set k.toNat v) i = nth xs i := by
  obtain ⟨n, rfl⟩ := Int.eq_ofNat_of_zero_le h0
  obtain ⟨m, rfl⟩ := Int.eq_ofNat_of_zero_le hi
  have : n ≠ m := by omega
  simp [nth, List.getD, List.getElem?_set_ne this]
theorem cut0 {α : Type} {xs : List α} {k : Int} (h : 0 ≤ k) : cut xs 0 k = xs.take k.toNat := by
  simp [cut]
theorem nth_cut0 {α : Type} [Inhabited α] {xs : List α} {k i : Int} (h0 : 0 ≤ i) (h1 : i < k) (h2 : k ≤ (xs.length : Int)) : nth (cut xs 0 k) i = nth xs i := by
  obtain ⟨n, rfl⟩ := Int.eq_ofNat_of_zero_le h0
  rw [cut0 (by omega), nth_nat _ n (by simp; omega), nth_nat _ n (by omega)]; simp
theorem len_cut0 {α : Type} {xs : List α} {k : Int} (h0 : 0 ≤ k) (h2 : k ≤ (xs.length : Int)) : ((cut xs 0 k).length : Int) = k := by
  rw [cut0 h0]; simp; omega
theorem mem_nth {α : Type} [Inhabited α] {xs : List α} {a : α} (h : a ∈ xs) : ∃ i : Int, 0 ≤ i ∧ i < (xs.length : Int) ∧ nth xs i = a := by
  obtain ⟨i, hi, e⟩ := List.getElem_of_mem h
  exact ⟨(i : Int), by omega, by omega, by rw [nth_nat _ i hi, e]⟩
/-- something said of each place, the list made longer by one -/
theorem all_snoc {α : Type} [Inhabited α] {P : Int → α → Prop} {xs : List α} {v : α} (h : ∀ i : Int, 0 ≤ i → i < (xs.length : Int) → P i (nth xs i)) (hv : P (xs.length : Int) v) :
    ∀ i : Int, 0 ≤ i → i < ((xs ++ [v]).length : Int) → P i (nth (xs ++ [v]) i) := by
  intro i h0 h1
  by_cases e : i = (xs.length : Int)
  · subst e; rw [nth_last rfl]; exact hv
  · simp at h1; rw [nth_left h0 (by omega)]; exact h i h0 (by omega)
theorem all_set {α : Type} [Inhabited α] {P : Int → α → Prop} {xs : List α} {v : α} {k : Int} (hk : 0 ≤ k) (h : ∀ i : Int, 0 ≤ i → i < (xs.length : Int) → P i (nth xs i)) (hv : P k v) :
    ∀ i : Int, 0 ≤ i → i < ((xs.set k.toNat v).length : Int) → P i (nth (xs.set k.toNat v) i) := by
  intro i h0 h1
  simp at h1
  by_cases e : i = k
  · subst e; rw [nth_set_eq h0 h1]; exact hv
  · rw [nth_set_ne hk e h0]; exact h i h0 h1
theorem ext_nth' {α : Type} [Inhabited α] {xs ys : List α} (hl : xs.length = ys.length) (h : ∀ i : Int, 0 ≤ i → i < (xs.length : Int) → nth xs i = nth ys i) : xs = ys := by
  refine List.ext_getElem hl fun i h1 h2 => ?_
  have := h (i : Int) (by omega) (by omega)
  rwa [nth_nat xs i h1, nth_nat ys i h2] at this

/-! ### is there one with a property -/
noncomputable def IxF_l {α : Type} [Inhabited α] (t0 : List α) (t1 : α → Option Bool) (x1 : Int) : Option (Int ⊕ Int) :=
  if x1 < (t0.length : Int) then if 0 ≤ x1 ∧ x1 < (t0.length : Int) then (t1 (nth t0 x1)).bind fun b10 => if b10 = true then some (.inr x1) else some (.inl (x1 + 1)) else none else some (.inr (-1))
noncomputable def ContG {α : Type} [Inhabited α] (t0 : List α) (t1 : α → Option Bool) : Option Bool := (Iter (IxF_l t0 t1) 0).bind fun b1 => some (decide (0 ≤ b1))
theorem cont_int : slices_ContainsFunc_int = ContG := rfl
theorem cont_edge : slices_ContainsFunc_api_Edge = ContG := rfl
theorem cont_law {α : Type} [Inhabited α] {p : α → Option Bool} {q : α → Prop} (xs : List α) (h : ∀ x ∈ xs, ∃ b, p x = some b ∧ (b = true ↔ q x)) : ∃ b, ContG xs p = some b ∧ (b = true ↔ ∃ x ∈ xs, q x) := by
  obtain ⟨j, hj, hq⟩ := Iter_inv (F := IxF_l xs p) (fun x : Int => 0 ≤ x ∧ x ≤ (xs.length : Int) ∧ ∀ i : Int, 0 ≤ i → i < x → ¬ q (nth xs i)) (fun x => ((xs.length : Int) - x).toNat) (fun j => 0 ≤ j ↔ ∃ x ∈ xs, q x) (fun x hp => by
    obtain ⟨p1, p2, p3⟩ := hp
    unfold IxF_l
    by_cases hx : x < (xs.length : Int)
    · obtain ⟨b, hb, hq⟩ := h _ (nth_mem p1 hx)
      rw [if_pos hx, if_pos ⟨p1, hx⟩, hb]
      cases b
      · refine Or.inl ⟨x + 1, rfl, ⟨by omega, by omega, fun i a c => ?_⟩, by omega⟩
        by_cases e : i = x
        · rw [e]; exact fun hh => by have := hq.2 hh; cases this
        · exact p3 i a (by omega)
      · exact Or.inr ⟨x, rfl, ⟨fun _ => ⟨_, nth_mem p1 hx, hq.1 rfl⟩, fun _ => p1⟩⟩
    · rw [if_neg hx]
      refine Or.inr ⟨-1, rfl, ⟨fun h => by omega, fun ⟨y, hy, hqy⟩ => ?_⟩⟩
      obtain ⟨i, a, b, rfl⟩ := mem_nth hy
      exact absurd hqy (p3 i a (by omega))) 0 ⟨by omega, by omega, fun i a b => by omega⟩
  exact ⟨decide (0 ≤ j), by unfold ContG; rw [hj]; rfl, by simp [hq]⟩
theorem contains_law (xs : List Int) (t : Int) : ∃ b, slices_Contains_int xs t = some b ∧ (b = true ↔ t ∈ xs) ∧ ∃ j, slices_Index_int xs t = some j ∧ (t ∈ xs → 0 ≤ j ∧ j < (xs.length : Int) ∧ nth xs j = t) := by
  obtain ⟨j, hj, h1, h2⟩ := Iter_inv (F := slices_Index_int_l1 xs t) (fun x : Int => 0 ≤ x ∧ x ≤ (xs.length : Int) ∧ ∀ i : Int, 0 ≤ i → i < x → ¬ t = nth xs i) (fun x => ((xs.length : Int) - x).toNat) (fun j => (0 ≤ j ↔ t ∈ xs) ∧ (t ∈ xs → 0 ≤ j ∧ j < (xs.length : Int) ∧ nth xs j = t)) (fun x hp => by
    obtain ⟨p1, p2, p3⟩ := hp
    unfold slices_Index_int_l1
    by_cases hx : x < (xs.length : Int)
    · rw [if_pos hx, if_pos ⟨p1, hx⟩]
      by_cases e : t = nth xs x
      · rw [if_pos e]
        exact Or.inr ⟨x, rfl, ⟨fun _ => e ▸ nth_mem p1 hx, fun _ => p1⟩, fun _ => ⟨p1, hx, e.symm⟩⟩
      · rw [if_neg e]
        refine Or.inl ⟨x + 1, rfl, ⟨by omega, by omega, fun i a c => ?_⟩, by omega⟩
        by_cases e' : i = x
        · rw [e']; exact e
        · exact p3 i a (by omega)
    · rw [if_neg hx]
      have no : ¬ t ∈ xs := fun hy => by
        obtain ⟨i, a, b, e⟩ := mem_nth hy
        exact p3 i a (by omega) e.symm
      exact Or.inr ⟨-1, rfl, ⟨fun h => by omega, fun h => absurd h no⟩, fun h => absurd h no⟩) 0 ⟨by omega, by omega, fun i a b => by omega⟩
  exact ⟨decide (0 ≤ j), by unfold slices_Contains_int slices_Index_int; rw [hj]; rfl, by simp [h1], j, by unfold slices_Index_int; exact hj, h2⟩

/-! ### the numbers that are not in a list -/
/-- it depends on what is in the list alone -/
theorem others_law (l : List Int) (n : Int) (hn : n ≤ 1000) : ∃ r, rule_others l n = some r ∧ (∀ x ∈ r, 0 ≤ x ∧ x < n) ∧ ∀ l' : List Int, (∀ x, x ∈ l' ↔ x ∈ l) → rule_others l' n = some r := by
  have same : ∀ l' : List Int, (∀ x, x ∈ l' ↔ x ∈ l) → rule_others l' n = rule_others l n := fun l' h => by
    unfold rule_others
    have e : rule_others_l1 l' n = rule_others_l1 l n := by
      funext x
      unfold rule_others_l1
      obtain ⟨b, h1, h2, _⟩ := contains_law l' x.2
      obtain ⟨c, k1, k2, _⟩ := contains_law l x.2
      have : b = c := by
        have := h2.trans ((h x.2).trans k2.symm)
        cases b <;> cases c <;> simp_all
      rw [h1, k1, this]
    rw [e]
  obtain ⟨r, hr, hq⟩ := Iter_inv (F := rule_others_l1 l n) (fun x : List Int × Int => 0 ≤ x.2 ∧ (x.1.length : Int) ≤ x.2 ∧ x.2 ≤ max n 0 ∧ ∀ y ∈ x.1, 0 ≤ y ∧ y < n) (fun x => (n - x.2).toNat) (fun r => ∀ x ∈ r, 0 ≤ x ∧ x < n) (fun x hp => by
    obtain ⟨r, x⟩ := x
    obtain ⟨p1, p2, p3, p4⟩ := hp
    simp only at p1 p2 p3 p4
    unfold rule_others_l1
    simp only
    by_cases hx : x < n
    · obtain ⟨b, h1, _⟩ := contains_law l x
      rw [if_pos hx, h1]
      simp only [Option.bind_some]
      cases b
      · simp only [Bool.not_false, if_true]
        rw [if_pos (by omega)]
        exact Or.inl ⟨_, rfl, ⟨by simp only; omega, by simp only [List.length_append, List.length_singleton]; omega, by simp only; omega, fun y hy => by
          rcases List.mem_append.1 hy with h | h
          · exact p4 y h
          · simp at h; omega⟩, by simp only; omega⟩
      · exact Or.inl ⟨_, rfl, ⟨by simp only; omega, by simp only; omega, by simp only; omega, p4⟩, by simp only; omega⟩
    · rw [if_neg hx]
      exact Or.inr ⟨r, rfl, p4⟩) ([], 0) ⟨by simp, by simp, by simp; omega, by simp⟩
  exact ⟨r, hr, hq, fun l' h => (same l' h).trans hr⟩

/-! ### sorting at most twelve numbers -/
def Asc (xs : List Int) : Prop := ∀ i j : Int, 0 ≤ i → i < j → j < (xs.length : Int) → nth xs i ≤ nth xs j
theorem swap_perm {xs : List Int} {i j : Int} (hi : 0 ≤ i) (hi' : i < (xs.length : Int)) (hj : 0 ≤ j) (hj' : j < (xs.length : Int)) : List.Perm ((xs.set i.toNat (nth xs j)).set j.toNat (nth xs i)) xs := by
  obtain ⟨a, rfl⟩ := Int.eq_ofNat_of_zero_le hi
  obtain ⟨b, rfl⟩ := Int.eq_ofNat_of_zero_le hj
  rw [nth_nat _ a (by omega), nth_nat _ b (by omega)]
  exact List.set_set_perm (by omega) (by omega)
theorem nth_swap {xs : List Int} {i : Int} (hi : 0 < i) (hi' : i < (xs.length : Int)) (k : Int) (hk : 0 ≤ k) (hk' : k < (xs.length : Int)) :
    nth ((xs.set i.toNat (nth xs (i - 1))).set (i - 1).toNat (nth xs i)) k = if k = i - 1 then nth xs i else if k = i then nth xs (i - 1) else nth xs k := by
  by_cases e : k = i - 1
  · rw [if_pos e, e, nth_set_eq (by omega) (by simp; omega)]
  · rw [if_neg e, nth_set_ne (by omega) e hk]
    by_cases e' : k = i
    · rw [if_pos e', e', nth_set_eq (by omega) (by omega)]
    · rw [if_neg e', nth_set_ne (by omega) e' hk]
theorem insert_law (xs : List Int) (hl : (xs.length : Int) ≤ 1000) : ∃ ys, slices_insertionSortOrdered_int xs 0 (xs.length : Int) = some ys ∧ List.Perm ys xs ∧ Asc ys := by
  unfold slices_insertionSortOrdered_int
  rw [w64_in (x := 0 + 1) (by omega) (by omega)]
  simp only [Option.bind_some]
  refine Iter_inv (F := slices_insertionSortOrdered_int_l3 0 (xs.length : Int)) (fun x : List Int × Int => 1 ≤ x.2 ∧ x.1.Perm xs ∧ ∀ i j : Int, 0 ≤ i → i < j → j < x.2 → j < (xs.length : Int) → nth x.1 i ≤ nth x.1 j) (fun x => ((xs.length : Int) - x.2).toNat) _ (fun x hp => ?_) (xs, 0 + 1) ⟨by simp, List.Perm.refl _, fun i j a b c => by simp at c; omega⟩
  obtain ⟨zs, x⟩ := x
  obtain ⟨p1, p2, p3⟩ := hp
  simp only at p1 p2 p3
  have hlen := p2.length_eq
  unfold slices_insertionSortOrdered_int_l3
  simp only
  by_cases hx : x < (xs.length : Int)
  · rw [if_pos hx]
    left
    obtain ⟨b, hb, ys, e1, e2, e3⟩ := Iter_inv (F := slices_insertionSortOrdered_int_l41 0 (zs, x)) (fun y : List Int × Int => 0 ≤ y.2 ∧ y.2 ≤ x ∧ y.1.Perm xs ∧ (∀ i j : Int, 0 ≤ i → i < j → j ≤ x → i ≠ y.2 → j ≠ y.2 → nth y.1 i ≤ nth y.1 j) ∧ (∀ j : Int, y.2 < j → j ≤ x → nth y.1 y.2 ≤ nth y.1 j)) (fun y => y.2.toNat)
      (fun b => ∃ ys, b = .inl (ys, x + 1) ∧ ys.Perm xs ∧ ∀ i j : Int, 0 ≤ i → i < j → j < x + 1 → j < (xs.length : Int) → nth ys i ≤ nth ys j) (fun y hp => by
        obtain ⟨ys, y⟩ := y
        obtain ⟨q1, q2, q3, q4, q5⟩ := hp
        simp only at q1 q2 q3 q4 q5
        have hl2 := q3.length_eq
        have fin : ∀ (hle : y = 0 ∨ nth ys (y - 1) ≤ nth ys y), ∃ zs', (some (Sum.inr (Sum.inl (ys, x + 1))) : Option ((List Int × Int) ⊕ ((List Int × Int) ⊕ List Int))) = some (.inr (.inl (zs', x + 1))) ∧ zs'.Perm xs ∧ ∀ i j : Int, 0 ≤ i → i < j → j < x + 1 → j < (xs.length : Int) → nth zs' i ≤ nth zs' j := fun hle => by
          refine ⟨ys, rfl, q3, fun i j a b c d => ?_⟩
          by_cases ei : i = y
          · rw [ei]; exact q5 j (by omega) (by omega)
          · by_cases ej : j = y
            · rw [ej]
              rcases hle with h | h
              · omega
              · by_cases e : i = y - 1
                · rw [e]; exact h
                · have := q4 i (y - 1) a (by omega) (by omega) ei (by omega); omega
            · exact q4 i j a b (by omega) ei ej
        unfold slices_insertionSortOrdered_int_l41
        simp only
        by_cases hy : 0 < y
        · rw [if_pos hy, if_pos (by omega), if_pos (by omega), less_eq]
          simp only [Option.bind_some]
          by_cases hc : nth ys y < nth ys (y - 1)
          · simp only [hc, decide_true, if_true]
            rw [if_pos (by simp; omega)]
            refine Or.inl ⟨_, rfl, ⟨by simp only; omega, by simp only; omega, (swap_perm (by omega) (by omega) (by omega) (by omega)).trans q3, ?_, ?_⟩, by simp only; omega⟩
            · intro i j a b c d e
              simp only at d e ⊢
              rw [nth_swap hy (by omega) i a (by omega), nth_swap hy (by omega) j (by omega) (by omega), if_neg d, if_neg e]
              by_cases ei : i = y
              · rw [if_pos ei, if_neg (by omega)]
                exact q4 (y - 1) j (by omega) (by omega) c (by omega) (by omega)
              · rw [if_neg ei]
                by_cases ej : j = y
                · rw [if_pos ej]; exact q4 i (y - 1) a (by omega) (by omega) ei (by omega)
                · rw [if_neg ej]; exact q4 i j a b c ei ej
            · intro j a b
              simp only at a ⊢
              rw [nth_swap hy (by omega) (y - 1) (by omega) (by omega), nth_swap hy (by omega) j (by omega) (by omega), if_pos rfl, if_neg (by omega)]
              by_cases ej : j = y
              · rw [if_pos ej]; omega
              · rw [if_neg ej]; exact q5 j (by omega) b
          · simp only [hc, decide_false, Bool.false_eq_true, if_false]
            obtain ⟨zs', f1, f2⟩ := fin (Or.inr (by omega))
            exact Or.inr ⟨_, f1, zs', rfl, f2⟩
        · rw [if_neg hy]
          obtain ⟨zs', f1, f2⟩ := fin (Or.inl (by omega))
          exact Or.inr ⟨_, f1, zs', rfl, f2⟩) (zs, x) ⟨by simp only; omega, by simp only; omega, p2, fun i j a b c d e => p3 i j a b (by simp only at e; omega) (by omega), fun j a b => by simp only at a; omega⟩
    rw [hb, e1]
    exact ⟨_, rfl, ⟨by simp only; omega, e2, fun i j a b c d => e3 i j a b c d⟩, by simp only; omega⟩
  · rw [if_neg hx]
    exact Or.inr ⟨zs, rfl, p2, fun i j a b c => p3 i j a b (by omega) (by omega)⟩
theorem lens_tot : ∀ n : Nat, n ≤ 12 → ∃ b, bits_Len (IntKind.wrap .u64 (n : Int)) = some b := by
  intro n hn
  have : n = 0 ∨ n = 1 ∨ n = 2 ∨ n = 3 ∨ n = 4 ∨ n = 5 ∨ n = 6 ∨ n = 7 ∨ n = 8 ∨ n = 9 ∨ n = 10 ∨ n = 11 ∨ n = 12 := by omega
  rcases this with h | h | h | h | h | h | h | h | h | h | h | h | h <;> subst h
  · exact ⟨0, by kernel_rfl⟩
  · exact ⟨1, by kernel_rfl⟩
  · exact ⟨2, by kernel_rfl⟩
  · exact ⟨2, by kernel_rfl⟩
  · exact ⟨3, by kernel_rfl⟩
  · exact ⟨3, by kernel_rfl⟩
  · exact ⟨3, by kernel_rfl⟩
  · exact ⟨3, by kernel_rfl⟩
  · exact ⟨4, by kernel_rfl⟩
  · exact ⟨4, by kernel_rfl⟩
  · exact ⟨4, by kernel_rfl⟩
  · exact ⟨4, by kernel_rfl⟩
  · exact ⟨4, by kernel_rfl⟩
theorem sort_law (xs : List Int) (hl : xs.length ≤ 12) : ∃ ys, slices_Sort_int xs = some ys ∧ List.Perm ys xs ∧ Asc ys := by
  obtain ⟨ys, h1, h2, h3⟩ := insert_law xs (by omega)
  obtain ⟨b, hb⟩ := lens_tot xs.length hl
  have one : ∀ q, slices_pdqsortOrdered_int_b q xs 0 (xs.length : Int) b = some ys := fun q => by
    unfold slices_pdqsortOrdered_int_b
    refine Iter_stop ?_
    unfold slices_pdqsortOrdered_int_l1
    try simp only
    rw [w64_in (by omega) (by omega)]
    simp only [Option.bind_some]
    rw [if_pos (by omega), h1]
    rfl
  have all : ∀ n v, slices_pdqsortOrdered_int_n n xs 0 (xs.length : Int) b = some v → v = ys := fun n v h => by
    cases n with
    | zero => cases h
    | succ n => have := (one (slices_pdqsortOrdered_int_n n)).symm.trans h; cases this; rfl
  obtain ⟨v, e1, e2⟩ := Ev_any (u := fun n => slices_pdqsortOrdered_int_n n xs 0 (xs.length : Int) b) (Q := fun v => v = ys) all ⟨1, ys, one (fun _ _ _ _ => none)⟩
  refine ⟨ys, ?_, h2, h3⟩
  unfold slices_Sort_int slices_pdqsortOrdered_int
  simp only [Option.bind_some]
  rw [hb]
  simp only [Option.bind_some]
  rw [e1, e2]
  rfl

/-- each number once -/
def Inj (xs : List Int) : Prop := ∀ i j : Int, 0 ≤ i → i < (xs.length : Int) → 0 ≤ j → j < (xs.length : Int) → nth xs i = nth xs j → i = j
theorem inj_nodup {xs : List Int} : Inj xs ↔ xs.Nodup := by
  constructor
  · intro h
    refine List.pairwise_iff_getElem.2 fun i j hi hj hij e => ?_
    have := h (i : Int) (j : Int) (by omega) (by omega) (by omega) (by omega) (by rw [nth_nat _ i hi, nth_nat _ j hj]; exact e)
    omega
  · intro h i j h0 h1 h2 h3 e
    obtain ⟨a, rfl⟩ := Int.eq_ofNat_of_zero_le h0
    obtain ⟨b, rfl⟩ := Int.eq_ofNat_of_zero_le h2
    rw [nth_nat _ a (by omega), nth_nat _ b (by omega)] at e
    have hp := List.pairwise_iff_getElem.1 h
    rcases Nat.lt_trichotomy a b with c | c | c
    · exact absurd e (hp a b (by omega) (by omega) c)
    · omega
    · exact absurd e.symm (hp b a (by omega) (by omega) c)
theorem asc_up {n : Int} {xs : List Int} (ha : Asc xs) (hi : Inj xs) (hr : ∀ x ∈ xs, 0 ≤ x ∧ x < n) : Up n xs := fun i h0 h1 => by
  have := hr _ (nth_mem h0 h1)
  refine ⟨this.1, this.2, fun hp => ?_⟩
  have h2 := ha (i - 1) i (by omega) (by omega) h1
  by_cases e : nth xs (i - 1) = nth xs i
  · have := hi (i - 1) i (by omega) (by omega) h0 h1 e; omega
  · omega
theorem Up.inj' {n : Int} {xs : List Int} (h : Up n xs) : Inj xs := fun i j a b c d e => h.inj a b c d e
/-- two ascending lists of the same numbers -/
theorem up_ext {n m : Int} : ∀ {xs ys : List Int}, Up n xs → Up m ys → (∀ x, x ∈ xs ↔ x ∈ ys) → xs = ys := by
  intro xs ys h k hm
  have px : xs.Pairwise (· < ·) := List.pairwise_iff_getElem.2 fun i j hi hj hij => by
    have := h.mono (i := (i : Int)) (j := (j : Int)) (by omega) (by omega) (by omega)
    rwa [nth_nat _ i hi, nth_nat _ j hj] at this
  have py : ys.Pairwise (· < ·) := List.pairwise_iff_getElem.2 fun i j hi hj hij => by
    have := k.mono (i := (i : Int)) (j := (j : Int)) (by omega) (by omega) (by omega)
    rwa [nth_nat _ i hi, nth_nat _ j hj] at this
  clear h k
  induction xs generalizing ys with
  | nil =>
    cases ys with
    | nil => rfl
    | cons b ys => exact absurd ((hm b).2 (by simp)) (by simp)
  | cons a xs ih =>
    cases ys with
    | nil => exact absurd ((hm a).1 (by simp)) (by simp)
    | cons b ys =>
      rw [List.pairwise_cons] at px py
      have e : a = b := by
        have h1 := (hm a).1 (by simp)
        have h2 := (hm b).2 (by simp)
        rcases List.mem_cons.1 h1 with h1 | h1
        · exact h1
        · rcases List.mem_cons.1 h2 with h2 | h2
          · exact h2.symm
          · have := px.1 b h2; have := py.1 a h1; omega
      subst e
      congr 1
      refine ih (fun x => ?_) px.2 py.2
      constructor
      · intro hx
        rcases List.mem_cons.1 ((hm x).1 (List.mem_cons_of_mem _ hx)) with e | e
        · have := px.1 x hx; omega
        · exact e
      · intro hx
        rcases List.mem_cons.1 ((hm x).2 (List.mem_cons_of_mem _ hx)) with e | e
        · have := py.1 x hx; omega
        · exact e
/-- of a list with each number once, all of it stays -/
theorem images_law (xs : List Int) (hl : xs.length ≤ 12) (hi : Inj xs) : morphism_images xs = some (xs.length : Int) := by
  obtain ⟨ys, h1, h2, h3⟩ := sort_law xs hl
  have hl2 := h2.length_eq
  have hi2 : Inj ys := inj_nodup.2 (h2.nodup_iff.2 (inj_nodup.1 hi))
  have hc : slices_Compact_int ys = some ys := by
    unfold slices_Compact_int
    by_cases hs : (ys.length : Int) < 2
    · rw [if_pos hs]
    · rw [if_neg hs]
      obtain ⟨b, hb, rfl⟩ := Iter_inv (F := slices_Compact_int_l2 ys) (fun x : Int => 1 ≤ x ∧ x ≤ (ys.length : Int)) (fun x => ((ys.length : Int) - x).toNat) (fun b => b = ys) (fun x hp => by
        obtain ⟨p1, p2⟩ := hp
        unfold slices_Compact_int_l2
        by_cases hx : x < (ys.length : Int)
        · rw [if_pos hx, if_pos (by omega), w64_in (by omega) (by omega)]
          simp only [Option.bind_some]
          rw [if_pos (by omega), if_neg (fun e => by have := hi2 x (x - 1) (by omega) hx (by omega) (by omega) e; omega)]
          exact Or.inl ⟨_, rfl, ⟨by omega, by omega⟩, by omega⟩
        · rw [if_neg hx]; exact Or.inr ⟨_, rfl, rfl⟩) 1 ⟨by omega, by omega⟩
      exact hb
  unfold morphism_images
  rw [cloneI (by omega), Option.bind_some, h1, Option.bind_some, hc]
  simp [hl2]
/-- a span turned around: the images, ascending, and what they are images of -/
theorem turned_law (K I : List Int) (hl : K.length = I.length) (h12 : I.length ≤ 12) (hi : Inj I) : ∃ S B, rule_turned K I = some (S, B) ∧ S.Perm I ∧ Asc S ∧ B.length = S.length ∧
    ∀ i a : Int, 0 ≤ i → i < (S.length : Int) → 0 ≤ a → a < (I.length : Int) → nth I a = nth S i → nth B i = nth K a := by
  obtain ⟨S, h1, h2, h3⟩ := sort_law I h12
  have hl2 := h2.length_eq
  unfold rule_turned
  rw [cloneI (by omega), Option.bind_some, h1, Option.bind_some]
  obtain ⟨b, hb, B, rfl, q1, q2⟩ := Iter_inv (F := rule_turned_l5 S K I) (fun x : List Int × Int => 0 ≤ x.2 ∧ x.2 ≤ (S.length : Int) ∧ (x.1.length : Int) = x.2 ∧ ∀ i : Int, 0 ≤ i → i < (x.1.length : Int) → (fun (i : Int) (v : Int) => ∀ a : Int, 0 ≤ a → a < (I.length : Int) → nth I a = nth S i → v = nth K a) i (nth x.1 i)) (fun x => ((S.length : Int) - x.2).toNat)
    (fun b => ∃ B, b = (S, B) ∧ B.length = S.length ∧ ∀ i a : Int, 0 ≤ i → i < (S.length : Int) → 0 ≤ a → a < (I.length : Int) → nth I a = nth S i → nth B i = nth K a) (fun x hp => by
      obtain ⟨B, x⟩ := x
      obtain ⟨p1, p2, p3, p4⟩ := hp
      simp only at p1 p2 p3
      unfold rule_turned_l5
      simp only
      by_cases hx : x < (S.length : Int)
      · obtain ⟨_, _, _, j, c1, c2⟩ := contains_law I (nth S x)
        obtain ⟨d1, d2, d3⟩ := c2 (h2.mem_iff.1 (nth_mem p1 hx))
        rw [if_pos hx, if_pos ⟨p1, hx⟩, c1, Option.bind_some, if_pos (by omega), if_pos (by omega)]
        refine Or.inl ⟨_, rfl, ⟨by simp only; omega, by simp only; omega, by simp only [List.length_append, List.length_singleton]; omega, ?_⟩, by simp only; omega⟩
        refine all_snoc (P := fun (i : Int) (v : Int) => ∀ a : Int, 0 ≤ a → a < (I.length : Int) → nth I a = nth S i → v = nth K a) p4 ?_
        intro a a1 a2 a3
        rw [p3] at a3
        rw [hi j a d1 d2 a1 a2 (d3.trans a3.symm)]
      · rw [if_neg hx]
        exact Or.inr ⟨_, rfl, B, rfl, by omega, fun i a i1 i2 a1 a2 a3 => p4 i i1 (by simp only; omega) a a1 a2 a3⟩) ([], 0) ⟨by simp, by simp, by simp, fun i a b => by simp at b; omega⟩
  exact ⟨S, B, hb, h2, h3, q1, q2⟩
end Go.Proofs.YtpnfoacmgfklaaaGreat.K
