import Derived.Test.YtngimdmkomkeoaaGreatCoreS
import Derived.Sort.OwnSortedInts
import Derived.Lib.SlicesCompact
set_option linter.unusedVariables false
set_option linter.unusedSimpArgs false
namespace Go.Proofs.YtngimdmkomkeoaaGreat.K
open Go.RowKit
def l4 (x : Int) : List Int → List Int
  | [] => [x]
  | y :: ys => if x ≤ y then x :: y :: ys else y :: l4 x ys
def gD : List Int → List Int
  | [] => []
  | x :: xs => l4 x (gD xs)
theorem wN (x : Int) : ∀ l, (l4 x l).Perm (x :: l)
  | [] => List.Perm.refl _
  | y :: ys => by
    unfold l4
    split
    · exact List.Perm.refl _
    · exact ((wN x ys).cons y).trans (List.Perm.swap x y ys)
theorem mU : ∀ l, (gD l).Perm l
  | [] => List.Perm.refl _
  | x :: xs => (wN x (gD xs)).trans ((mU xs).cons x)
theorem BL (x : Int) : ∀ l, l.Pairwise (· ≤ ·) → (l4 x l).Pairwise (· ≤ ·)
  | [], _ => by simp [l4]
  | y :: ys, h => by
    unfold l4
    obtain ⟨h1, h2⟩ := List.pairwise_cons.1 h
    split
    · rename_i hx
      exact List.pairwise_cons.2 ⟨fun z hz => (List.mem_cons.1 hz).elim (fun e => e ▸ hx) (fun hz => Int.le_trans hx (h1 z hz)), h⟩
    · rename_i hx
      refine List.pairwise_cons.2 ⟨fun z hz => ?_, BL x ys h2⟩
      rcases List.mem_cons.1 ((wN x ys).mem_iff.1 hz) with e | hz
      · subst e; omega
      · exact h1 z hz
theorem wO : ∀ l, (gD l).Pairwise (· ≤ ·)
  | [] => by simp [gD]
  | x :: xs => BL x _ (wO xs)
theorem HW (l : List Int) : (l.mergeSort fun x y => decide (x ≤ y)) = gD l := by
  refine List.Perm.eq_of_pairwise (le := fun a b : Int => decide (a ≤ b) = true) (fun a b _ _ h1 h2 => ?_) (List.pairwise_mergeSort (fun a b c h1 h2 => by simp at *; omega) (fun a b => by simp; omega) l) ((wO l).imp (fun h => by simpa using h)) ((List.mergeSort_perm l _).trans (mU l).symm)
  simp at h1 h2
  omega
def rx (l : List Int) : Option (List Int) := if l.length < 4611686018427387904 then some (gD l) else none
def re (l : List Int) : Option (List Int) := some (Lib.compact l)
theorem Ba {η : bA} : ∀ {xs : List Int} {us : List Value}, bw η (xs.map ab).flatten us → us = xs.map (Value.int .i64)
  | [], us, h => by cases h; rfl
  | x :: xs, us, h => by
    simp only [List.map_cons, List.flatten_cons] at h
    change bw η (aj .i64 x :: (xs.map ab).flatten) us at h
    cases h with
    | cons h1 h2 => rw [Ba h2, h1.1]; rfl
theorem wl {η : bA} : ∀ (xs : List Int), (∀ x ∈ xs, IntKind.i64.has x) → bw η (xs.map ab).flatten (xs.map (Value.int .i64))
  | [], _ => .nil
  | x :: xs, h => .cons ⟨rfl, h x (by simp)⟩ (wl xs fun y hy => h y (by simp [hy]))
theorem AM {η : bA} : ∀ {xs : List Int} {us : List Value}, bw η (xs.map ab).flatten us → ∀ x ∈ xs, IntKind.i64.has x
  | [], us, h => by simp
  | x :: xs, us, h => by
    simp only [List.map_cons, List.flatten_cons] at h
    change bw η (aj .i64 x :: (xs.map ab).flatten) us at h
    cases h with
    | cons h1 h2 =>
      intro y hy
      rcases List.mem_cons.1 hy with e | hy
      · subst e; exact h1.2
      · exact AM h2 y hy
theorem BZ (xs : List Int) : ∀ r ∈ xs.map ab, r.length = 1 := fun r hr => by
  obtain ⟨x, _, rfl⟩ := List.mem_map.1 hr; rfl
theorem Hz {η : bA} {A : ae} {vs : Array Value} (h : bw η [A] vs.toList) : ∃ v, vs = #[v] ∧ A.p η v := by
  obtain ⟨l⟩ := vs
  simp only at h
  cases h with | cons h1 h2 => cases h2 with | nil => exact ⟨_, rfl, h1⟩
theorem AT {η : bA} {E : TypeId} {xs : List Int} {vals : Array Value} (hH : bZ (jf η 1 0 [(0, .row E 1 (xs.map ab))]) η (hp [(0, .row E 1 (xs.map ab))])) (hv : bw η [a8 0] vals.toList) :
    (∀ x ∈ xs, IntKind.i64.has x) ∧ ((vals = #[.slice none 0 0] ∧ η.ρ 0 = .slice none 0 0 ∧ xs = []) ∨ ∃ g cap cur, vals = #[.slice (some ⟨g, 0, none⟩) xs.length cap] ∧ η.ρ 0 = .slice (some ⟨g, 0, none⟩) xs.length cap ∧ η.w.heap[g]? = some (.cells cur E (0, 0)) ∧ xs.length ≤ cap ∧ cap ≤ maxLen ∧ cur.size = cap * 1 ∧ cur.toList.take xs.length = xs.map (Value.int .i64)) := by
  obtain ⟨v, rfl, hv1, hv2⟩ := Hz hv
  obtain ⟨hr, us, hown, hxs⟩ := hH.holds 0 _ rfl
  have hus := Ba hxs
  refine ⟨AM hxs, ?_⟩
  rcases hown.2 with ⟨e, h0⟩ | ⟨g, cap, cur, e, _, h1, h2, h3, h4, h5⟩
  · exact .inl ⟨by rw [hv1, e], e, by simpa using h0⟩
  · simp only [List.length_map] at e h2 h5
    exact .inr ⟨g, cap, cur, by rw [hv1, e], e, h1, h2, h3, h4, by rw [Nat.mul_one] at h5; rw [h5, hus]⟩
theorem sortK {P : Program} {f : FuncId} {E : TypeId}
    (hs : ∀ (c8 off cap : Nat) (zs : List Int) (w : World), Sort.Holds (Value.int .i64) w c8 off zs.toArray → c8 < w.heap.size → zs.length < 4611686018427387904 →
      Calls P f #[.slice (some ⟨c8, off, none⟩) zs.length cap] w fun e w' => e = .returned (.tuple #[]) ∧ ∃ n os, w' = Sort.grow (Sort.putRow (Value.int .i64) (Sort.ahead w n) c8 off (zs.mergeSort fun x y => decide (x ≤ y)).toArray) os)
    (h0 : ∀ (p : Option Addr) (cap : Nat) (w : World), Calls P f #[.slice p 0 cap] w fun e w' => e = .returned (.tuple #[]) ∧ w' = w)
    (xs ys : List Int) (h : rx xs = some ys) : dc P f 1 [(0, .row E 1 (xs.map ab))] [a8 0] [(0, .row E 1 (ys.map ab))] (bk []) := by
  unfold rx at h
  split at h
  rotate_left
  · cases h
  rename_i hlt
  cases h
  intro η vals hH hv
  obtain ⟨hhas, ⟨rfl, hρ, rfl⟩ | ⟨g, cap, cur, rfl, hρ, h1, h2, h3, h4, h5⟩⟩ := AT hH hv
  · refine (h0 none 0 η.w).mono ?_
    rintro e w' ⟨rfl, rfl⟩
    exact ⟨_, η, rfl, rfl, hH, ⟨#[], rfl, .nil⟩, fun _ _ => rfl⟩
  · have hg : g < η.w.heap.size := (Array.getElem?_eq_some_iff.1 h1).1
    refine (hs g 0 cap xs η.w (holds_of_blockI h1 h5) hg hlt).mono ?_
    rintro e w' ⟨rfl, n, os, rfl⟩
    rw [HW]
    have hl : (gD xs).length = xs.length := (mU xs).length_eq
    obtain ⟨k1, k2, k3, k4, k5⟩ := grownBy_sortedI (w := η.w) (g := g) (n := n) (os := os) (gD xs).toArray
    have hown := ownsRow_sortedI (w := η.w) (base := 0) (g := g) (cap := cap) (n := n) (e := E) (os := os) (cur := cur) (ss := xs) (ts := gD xs) hl (Nat.zero_le _) h1 h2 h3 h4
    have hb0 : c8 (η.ρ 0) = some g := by rw [hρ]; rfl
    have hX : (jf η 1 0 [(0, .row E 1 (xs.map ab))]).X g := ⟨0, .row E 1 (xs.map ab), List.mem_singleton.2 rfl, hb0⟩
    have only : ∀ {k x}, hp [(0, bB.row E 1 ((gD xs).map ab))] k = some x → k = 0 ∧ x = .row E 1 ((gD xs).map ab) := fun {k x} hk => by
      have := eI hk
      simp at this; exact this
    refine ⟨_, ⟨_, η.I, η.ρ⟩, rfl, rfl, ⟨fun k x hk => ?_, fun k x b hk hb => ?_, fun k k' x x' b h1 h2 _ _ => by rw [(only h1).1, (only h2).1], fun b hb => Nat.lt_of_lt_of_le (hH.lt b hb) k4, fun b hb => hH.new b hb, hH.old, k4, fun b hb hx => ?_, k1, k2, k3⟩, ⟨#[], rfl, .nil⟩, fun _ _ => rfl⟩
    · obtain ⟨rfl, rfl⟩ := only hk
      refine ⟨BZ _, (gD xs).map (Value.int .i64), ?_, wl _ fun x hx => hhas x ((mU xs).mem_iff.1 hx)⟩
      rw [List.length_map, hl]
      show World.ownsRow _ _ _ _ (η.ρ 0) _ _
      rw [hρ]; exact hown
    · obtain ⟨rfl, rfl⟩ := only hk
      obtain ⟨g1, g2, g3⟩ := hH.own 0 _ b rfl hb
      exact ⟨g1, Nat.lt_of_lt_of_le g2 k4, g3⟩
    · refine k5 b hb fun e => hx ?_
      cases e; exact hX
theorem compK {P : Program} {f : FuncId} {E : TypeId}
    (hs : ∀ (c8 off cap : Nat) (zs : List Int) (w : World), Sort.Holds (Value.int .i64) w c8 off zs.toArray → zs.length ≤ 9223372036854775807 → zs.length ≤ cap →
      Calls P f #[.slice (some ⟨c8, off, none⟩) zs.length cap] w fun e w' => e = .returned (.slice (some ⟨c8, off, none⟩) (Lib.compact zs).length cap) ∧ ∃ q, w' = Sort.putRow (Value.int .i64) (Sort.ahead w q) c8 off (Lib.compact zs ++ List.replicate (zs.length - (Lib.compact zs).length) 0).toArray)
    (h0 : ∀ (p : Option Addr) (cap : Nat) (w : World), Calls P f #[.slice p 0 cap] w fun e w' => e = .returned (.slice p 0 cap) ∧ w' = w)
    (xs ys : List Int) (h : re xs = some ys) : dc P f 1 [(0, .row E 1 (xs.map ab))] [a8 0] [] (AL 1 ab ys) := by
  unfold re at h
  cases h
  have csub : ∀ y ∈ Lib.compact xs, y ∈ xs := fun y hy => by
    unfold Lib.compact Lib.compactUpTo at hy
    obtain ⟨j, hj, rfl⟩ := List.mem_map.1 hy
    have hj' := List.mem_range.1 (List.mem_filter.1 hj).1
    simp [hj']
  have cle : (Lib.compact xs).length ≤ xs.length := by
    unfold Lib.compact Lib.compactUpTo
    rw [List.length_map]
    exact Nat.le_trans (List.length_filter_le _ _) (by simp)
  intro η vals hH hv
  obtain ⟨hhas, ⟨rfl, hρ, rfl⟩ | ⟨g, cap, cur, rfl, hρ, h1, h2, h3, h4, h5⟩⟩ := AT hH hv
  · refine (h0 none 0 η.w).mono ?_
    rintro e w' ⟨rfl, rfl⟩
    exact ⟨_, η, rfl, rfl, ⟨fun k x hk => (by cases hk), fun k x b hk => (by cases hk), fun k k' x x' b hk => (by cases hk), hH.lt, hH.new, hH.old, hH.size, hH.keep, hH.os, hH.tape, hH.output⟩, wC 1 η, fun _ _ => rfl⟩
  · have hg : g < η.w.heap.size := (Array.getElem?_eq_some_iff.1 h1).1
    refine (hs g 0 cap xs η.w (holds_of_blockI h1 h5) (by unfold maxLen at h3; omega) h2).mono ?_
    rintro e w' ⟨rfl, n, rfl⟩
    generalize hd : Lib.compact xs ++ List.replicate (xs.length - (Lib.compact xs).length) 0 = d
    have hdl : d.length = xs.length := by rw [← hd]; simp; omega
    have hsort := heap_sortedI (w := η.w) (g := g) (n := n) (os := #[]) d.toArray h1
    obtain ⟨k1, k2, k3, k4, k5⟩ := grownBy_sortedI (w := η.w) (g := g) (n := n) (os := #[]) d.toArray
    rw [Sort.grow_empty] at hsort k1 k2 k3 k4 k5
    have hb0 : c8 (η.ρ 0) = some g := by rw [hρ]; rfl
    have hX : (jf η 1 0 [(0, .row E 1 (xs.map ab))]).X g := ⟨0, .row E 1 (xs.map ab), List.mem_singleton.2 rfl, hb0⟩
    refine ⟨_, ⟨_, fun b => η.I b ∨ b = g, η.ρ⟩, rfl, rfl, ⟨fun k x hk => (by cases hk), fun k x b hk => (by cases hk), fun k k' x x' b hk => (by cases hk), fun b hb => ?_, fun b hb => ?_, fun b hb => .inl (hH.old b hb), k4, fun b hb hx => ?_, k1, k2, k3⟩, ?_, fun _ _ => rfl⟩
    · rcases hb with hb | rfl
      · exact Nat.lt_of_lt_of_le (hH.lt b hb) k4
      · exact Nat.lt_of_lt_of_le hg k4
    · rcases hb with hb | rfl
      · exact hH.new b hb
      · exact .inr (.inr hX)
    · refine k5 b hb fun e => hx ?_
      cases e; exact hX
    · refine ⟨some ⟨g, 0, none⟩, cap, by rw [List.length_map], by rw [List.length_map]; omega, h3, BZ _, .inr ⟨g, 0, rfl, .inr rfl, (Lib.compact xs).map (Value.int .i64), wl _ fun y hy => hhas y (csub y hy), fun j u hj => ?_⟩⟩
      have hjl : j < (Lib.compact xs).length := by have := (List.getElem?_eq_some_iff.1 hj).1; simpa using this
      have htake := take_putCellsI cur d (by omega)
      show (Sort.putRow (Value.int .i64) (Sort.ahead η.w n) g 0 d.toArray).cell? ⟨g, 0 + j, none⟩ = some u
      rw [Nat.zero_add, cell_of_row _ _ _ _ _ _ hsort]
      have h6 : (Sort.putCells (Value.int .i64) 0 d.toArray cur).toList[j]? = ((Sort.putCells (Value.int .i64) 0 d.toArray cur).toList.take d.length)[j]? := by
        rw [List.getElem?_take_of_lt (by omega)]
      rw [← Array.getElem?_toList, h6, htake, ← hd, List.map_append, List.getElem?_append_left (by simpa using hjl)]
      exact hj
end Go.Proofs.YtngimdmkomkeoaaGreat.K
