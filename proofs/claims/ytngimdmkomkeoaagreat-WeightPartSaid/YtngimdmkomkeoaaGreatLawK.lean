import Derived.Test.YtngimdmkomkeoaaGreatLawC
set_option linter.unusedVariables false
set_option linter.unusedSimpArgs false
namespace Go.Proofs.YtngimdmkomkeoaaGreat.K
open Go.RowKit Go.Proofs
theorem CS : ug = ja := rfl
theorem BM (xs : List Int) (n : Int) : ∃ c, ja xs n = some c ∧ (c = 0 → Up n xs) := by
  unfold ja
  rw [fJ (n := xs.length) (fun i => if nth xs i < 0 then some 6 else if n ≤ nth xs i then some 6 else if 0 < i then if nth xs i ≤ nth xs (i - 1) then some 12 else none else none) (some 0) ?_ ?_]
  · rcases jN (step := fun i : Int => if nth xs i < 0 then some (6 : Int) else if n ≤ nth xs i then some 6 else if 0 < i then if nth xs i ≤ nth xs (i - 1) then some 12 else none else none) (fin := some 0) xs.length 0 with ⟨h1, h2⟩ | ⟨j, b, h1, h2, h3, h4, h5⟩
    · refine ⟨0, h2, fun _ i a b => ?_⟩
      have := h1 i a (by omega)
      try simp only at this
      split at this
      · cases this
      split at this
      · cases this
      split at this
      · split at this
        · cases this
        · exact ⟨by omega, by omega, fun _ => by omega⟩
      · exact ⟨by omega, by omega, fun _ => by omega⟩
    · refine ⟨b, h5, fun e => ?_⟩
      subst e
      try simp only at h3
      split at h3
      · cases h3
      split at h3
      · cases h3
      split at h3
      · split at h3 <;> cases h3
      · cases h3
  · intro i h0 h1
    unfold lP
    rw [if_pos h1, if_pos ⟨h0, h1⟩]
    by_cases a : nth xs i < 0
    · simp [a]
    · by_cases b : n ≤ nth xs i
      · simp [a, b]
      · by_cases c : 0 < i
        · by_cases d : nth xs i ≤ nth xs (i - 1)
          · simp only [a, b, c, d, if_true, if_false]; rw [if_pos (by omega)]
          · simp only [a, b, c, d, if_true, if_false]; rw [if_pos (by omega)]; rfl
        · simp only [a, b, c, if_true, if_false]; rfl
  · unfold lP
    rw [if_neg (by omega)]; rfl
theorem GP (a b : Int) : tg a b = some (decide (a < b)) := by
  unfold tg tC; simp
theorem oN {n : Int} {xs : List Int} (hu : Up n xs) (hl : (xs.length : Int) ≤ 1000) (t : Int) :
    ∃ b, og xs t = some b ∧ (b.2 = true → 0 ≤ b.1 ∧ b.1 < (xs.length : Int) ∧ nth xs b.1 = t) ∧ (b.2 = false → ∀ i : Int, 0 ≤ i → i < (xs.length : Int) → nth xs i ≠ t) := by
  unfold og
  refine cl (fun x : Int × Int => 0 ≤ x.1 ∧ x.1 ≤ x.2 ∧ x.2 ≤ (xs.length : Int) ∧ (∀ i : Int, 0 ≤ i → i < x.1 → nth xs i < t) ∧ (∀ i : Int, x.2 ≤ i → i < (xs.length : Int) → t ≤ nth xs i)) (fun x => (x.2 - x.1).toNat) _ (fun x hp => ?_) (0, (xs.length : Int)) ⟨by omega, by simp, by simp, fun i a b => by simp at b; omega, fun i a b => by simp at a; omega⟩
  obtain ⟨lo, hi⟩ := x
  obtain ⟨h0, h1, h2, h3, h4⟩ := hp
  simp only at h0 h1 h2 h3 h4
  unfold Ei
  simp only
  by_cases hlt : lo < hi
  · rw [if_pos hlt]
    left
    have f2 : (lo + hi).fdiv (2 ^ (min (1 : Int).toNat (IntKind.bits .u64))) = (lo + hi) / 2 := by
      have : (2 : Int) ^ (min (1 : Int).toNat (IntKind.bits .u64)) = 2 := by decide
      rw [this, Int.fdiv_eq_ediv_of_nonneg _ (by omega)]
    rw [bL (x := lo + hi) (by omega) (by omega)]
    simp only [Option.bind_some]
    rw [IntWalk.u64_in (lo + hi) (by omega), f2, IntWalk.i64_in ((lo + hi) / 2) (by omega), if_pos (by omega), GP]
    simp only [Option.bind_some]
    by_cases hc : nth xs ((lo + hi) / 2) < t
    · simp only [hc, decide_true, if_true]
      rw [bL (x := (lo + hi) / 2 + 1) (by omega) (by omega)]
      refine ⟨_, rfl, ⟨by simp only; omega, by simp only; omega, h2, fun i a b => ?_, h4⟩, by simp only; omega⟩
      simp only at b
      by_cases e : i = (lo + hi) / 2
      · rw [e]; exact hc
      · have := hu.mono a (show i < (lo + hi) / 2 by omega) (by omega); omega
    · simp only [hc, decide_false, if_false, Bool.false_eq_true]
      refine ⟨_, rfl, ⟨h0, by simp only; omega, by simp only; omega, h3, fun i a b => ?_⟩, by simp only; omega⟩
      simp only at a
      by_cases e : i = (lo + hi) / 2
      · rw [e]; omega
      · have := hu.mono (i := (lo + hi) / 2) (j := i) (by omega) (by omega) b; omega
  · rw [if_neg hlt]
    right
    have e : lo = hi := by omega
    subst e
    by_cases hx : lo < (xs.length : Int)
    · rw [if_pos hx, if_pos ⟨h0, hx⟩]
      by_cases hq : nth xs lo = t
      · rw [if_pos hq]
        exact ⟨_, rfl, fun _ => ⟨h0, hx, hq⟩, fun h => by simp at h⟩
      · rw [if_neg hq]
        refine ⟨(lo, false), by simp [uF], fun h => by simp at h, fun _ i a b hi => ?_⟩
        rcases Int.lt_trichotomy i lo with c | c | c
        · have := h3 i a c; omega
        · subst c; exact hq hi
        · have := hu.mono h0 c b
          have := h4 lo (Int.le_refl _) hx
          omega
    · rw [if_neg hx]
      refine ⟨(lo, false), rfl, fun h => by simp at h, fun _ i a b hi => ?_⟩
      have := h3 i a (by omega); omega
theorem rX (xs : List Int) (t : Int) : ((∃ i : Int, 0 ≤ i ∧ i < (xs.length : Int) ∧ nth xs i = t) → kJ xs t = some true) ∧ ((∀ i : Int, 0 ≤ i → i < (xs.length : Int) → ¬ nth xs i = t) → kJ xs t = some false) := by
  unfold kJ
  rw [fJ (n := xs.length) (fun i => if nth xs i = t then some true else none) (some false) ?_ ?_]
  · exact kH (p := fun i => nth xs i = t) xs.length (fun i _ _ => rfl)
  · intro i h0 h1
    unfold xx
    rw [if_pos h1, if_pos ⟨h0, h1⟩]
    by_cases h : nth xs i = t <;> simp [h]
  · unfold xx
    rw [if_neg (by omega)]; rfl
theorem sy (xs : List Int) (t : Int) : ∃ j, pm xs t = some j ∧ ((∃ i : Int, 0 ≤ i ∧ i < (xs.length : Int) ∧ nth xs i = t) → 0 ≤ j ∧ j < (xs.length : Int) ∧ nth xs j = t) := by
  unfold pm
  rw [fJ (n := xs.length) (fun i => if nth xs i = t then some i else none) (some (-1)) ?_ ?_]
  · rcases jN (step := fun i : Int => if nth xs i = t then some i else none) (fin := some (-1)) xs.length 0 with ⟨h1, h2⟩ | ⟨j, b, h1, h2, h3, h4, h5⟩
    · refine ⟨-1, h2, fun ⟨i, a, b, c⟩ => ?_⟩
      have := h1 i a (by omega)
      simp [c] at this
    · refine ⟨b, h5, fun _ => ?_⟩
      try simp only at h3
      split at h3
      · cases h3; exact ⟨h1, by omega, by assumption⟩
      · cases h3
  · intro i h0 h1
    unfold xZ
    rw [if_pos h1, if_pos ⟨h0, h1⟩]
    by_cases h : nth xs i = t <;> simp [h]
  · unfold xZ
    rw [if_neg (by omega)]; rfl
theorem sG {n : Int} {xs : List Int} (hu : Up n xs) (hl : (xs.length : Int) ≤ 1000) (t : Int) :
    ∃ b, pC xs t = some b ∧ kJ xs t = some b ∧ (b = true → ∃ i : Int, 0 ≤ i ∧ i < (xs.length : Int) ∧ nth xs i = t) := by
  obtain ⟨b, h1, h2, h3⟩ := oN hu hl t
  have hl := rX xs t
  refine ⟨b.2, by unfold pC; rw [h1]; rfl, ?_, fun h => ?_⟩
  · cases hb : b.2 with
    | true => exact hl.1 ⟨b.1, h2 hb⟩
    | false => exact hl.2 (h3 hb)
  · exact ⟨b.1, h2 h⟩
def it (g : ar) (p : cM) : Prop := Up (g.Nodes.length : Int) p.Nodes ∧ Up (g.Edges.length : Int) p.Edges ∧ ∀ i : Int, 0 ≤ i → i < (p.Edges.length : Int) →
  (∃ k : Int, 0 ≤ k ∧ k < (p.Nodes.length : Int) ∧ nth p.Nodes k = (nth g.Edges (nth p.Edges i)).From) ∧ (∃ k : Int, 0 ≤ k ∧ k < (p.Nodes.length : Int) ∧ nth p.Nodes k = (nth g.Edges (nth p.Edges i)).To)
theorem Il {g : ar} (hg : gK g) (p : cM) : ∃ c, kQ g p = some c ∧ ni g p = some c ∧ (c = 0 → it g p) := by
  unfold kQ ni
  rw [CS]
  obtain ⟨c1, a1, a2⟩ := BM p.Nodes (g.Nodes.length : Int)
  rw [a1]
  simp only [Option.bind_some]
  by_cases h1 : c1 = 0
  rotate_left
  · exact ⟨c1, by simp [h1], by simp [h1], fun e => absurd e h1⟩
  have u1 := a2 h1
  obtain ⟨c2, b1, b2⟩ := BM p.Edges (g.Edges.length : Int)
  rw [b1]
  simp only [Option.bind_some, h1, not_true, if_false]
  by_cases h2 : c2 = 0
  rotate_left
  · exact ⟨c2, by simp [h2], by simp [h2], fun e => absurd e h2⟩
  have u2 := b2 h2
  simp only [h2, not_true, if_false]
  have l1 := u1.len (by omega)
  have l2 := u2.len (by omega)
  obtain ⟨g1, g2, _, _⟩ := hg
  refine (eD (F := lQ g p) (G := pV g p) (fun x : Int => 0 ≤ x ∧ x ≤ (p.Edges.length : Int) ∧ ∀ i : Int, 0 ≤ i → i < x → (∃ k : Int, 0 ≤ k ∧ k < (p.Nodes.length : Int) ∧ nth p.Nodes k = (nth g.Edges (nth p.Edges i)).From) ∧ (∃ k : Int, 0 ≤ k ∧ k < (p.Nodes.length : Int) ∧ nth p.Nodes k = (nth g.Edges (nth p.Edges i)).To)) (fun x => ((p.Edges.length : Int) - x).toNat) (fun c => c = 0 → it g p) (fun x hp => ?_) 0 ⟨by omega, by omega, fun i a b => by omega⟩)
  obtain ⟨p1, p2, p3⟩ := hp
  unfold lQ pV
  by_cases hx : x < (p.Edges.length : Int)
  · have hu := u2 x p1 hx
    obtain ⟨d1, q1, q2, q3⟩ := sG u1 (by omega) (nth g.Edges (nth p.Edges x)).From
    obtain ⟨d2, r1, r2, r3⟩ := sG u1 (by omega) (nth g.Edges (nth p.Edges x)).To
    rw [if_pos hx, if_pos ⟨p1, hx⟩, if_pos ⟨hu.1, hu.2.1⟩, q1, if_pos hx, if_pos ⟨p1, hx⟩, if_pos ⟨hu.1, hu.2.1⟩, q2]
    simp only [Option.bind_some]
    rw [r1, r2]
    simp only [Option.bind_some]
    cases d1 with
    | false => exact Or.inr ⟨14, rfl, rfl, by simp⟩
    | true =>
      cases d2 with
      | false => exact Or.inr ⟨14, rfl, rfl, by simp⟩
      | true =>
        refine Or.inl ⟨x + 1, rfl, rfl, ⟨by omega, by omega, fun i a b => ?_⟩, by omega⟩
        by_cases e : i = x
        · rw [e]; exact ⟨q3 rfl, r3 rfl⟩
        · exact p3 i a (by omega)
  · rw [if_neg hx, if_neg hx]
    exact Or.inr ⟨0, rfl, rfl, fun _ => ⟨u1, u2, fun i a b => p3 i a (by omega)⟩⟩
theorem Kb {g : ar} (hg : gK g) (p : cM) : ∃ b, kV g p = some b ∧ lJ g p = some b ∧ (b.2.2 = 0 → it g p ∧ b.1.Nodes.length = p.Nodes.length ∧ b.1.Edges.length = p.Edges.length) ∧ ∃ c, nj g p = some c ∧ b.2.2 = c := by
  obtain ⟨c0, g1, g2, _⟩ := jI g
  have hg0 : c0 = 0 ∨ c0 ≠ 0 := by omega
  obtain ⟨c, p1, p2, p3⟩ := Il hg p
  unfold kV lJ nH nj
  rw [g1, g2]
  simp only [Option.bind_some]
  by_cases hc0 : c0 = 0
  rotate_left
  · simp only [hc0, not_false_eq_true, if_true, Option.bind_some]
    exact ⟨_, rfl, rfl, fun e => absurd e hc0, c0, rfl, rfl⟩
  simp only [hc0, not_true, if_false]
  rw [p1, p2]
  simp only [Option.bind_some]
  by_cases hc : c = 0
  rotate_left
  · simp only [hc, not_false_eq_true, if_true]
    exact ⟨_, rfl, rfl, fun e => absurd e hc, c, rfl, rfl⟩
  have ok := p3 hc
  simp only [hc, not_true, if_false]
  have l1 := ok.1.len (by omega)
  have l2 := ok.2.1.len (by omega)
  have n1 := hg.1
  have n2 := hg.2.1
  have inner : ∀ x4 : List Int × Int, ∃ b, aE (jX g p x4) ([], 0) = some b ∧ aE (lR g p x4) ([], 0) = some b ∧ (b.1.Nodes = x4.1 ∧ b.1.Edges.length = p.Edges.length ∧ b.2.2 = 0) := by
    intro x4
    refine eD (F := jX g p x4) (G := lR g p x4) (fun x : List ba × Int => 0 ≤ x.2 ∧ x.2 ≤ (p.Edges.length : Int) ∧ (x.1.length : Int) = x.2) (fun x => ((p.Edges.length : Int) - x.2).toNat) _ (fun x hp => ?_) ([], 0) ⟨by simp, by simp, by simp⟩
    obtain ⟨es, x⟩ := x
    obtain ⟨q1, q2, q3⟩ := hp
    simp only at q1 q2 q3
    unfold jX lR
    simp only
    by_cases hx : x < (p.Edges.length : Int)
    · have hu := ok.2.1 x q1 hx
      have he := ok.2.2 x q1 hx
      obtain ⟨b1, r1, r2, r3⟩ := oN ok.1 (by omega) (nth g.Edges (nth p.Edges x)).From
      obtain ⟨b2, s1, s2, s3⟩ := oN ok.1 (by omega) (nth g.Edges (nth p.Edges x)).To
      obtain ⟨j1, t1, t2⟩ := sy p.Nodes (nth g.Edges (nth p.Edges x)).From
      obtain ⟨j2, v1, v2⟩ := sy p.Nodes (nth g.Edges (nth p.Edges x)).To
      have e1 : b1.1 = j1 := by
        cases hb : b1.2 with
        | false => obtain ⟨k, k1, k2, k3⟩ := he.1; exact absurd k3 (r3 hb k k1 k2)
        | true =>
          obtain ⟨k1, k2, k3⟩ := r2 hb
          obtain ⟨m1, m2, m3⟩ := t2 he.1
          exact ok.1.inj k1 k2 m1 m2 (k3.trans m3.symm)
      have e2 : b2.1 = j2 := by
        cases hb : b2.2 with
        | false => obtain ⟨k, k1, k2, k3⟩ := he.2; exact absurd k3 (s3 hb k k1 k2)
        | true =>
          obtain ⟨k1, k2, k3⟩ := s2 hb
          obtain ⟨m1, m2, m3⟩ := v2 he.2
          exact ok.1.inj k1 k2 m1 m2 (k3.trans m3.symm)
      rw [if_pos hx, if_pos ⟨q1, hx⟩, if_pos ⟨hu.1, hu.2.1⟩, r1, if_pos hx, if_pos ⟨q1, hx⟩, if_pos ⟨hu.1, hu.2.1⟩, t1]
      simp only [Option.bind_some]
      rw [s1, v1]
      simp only [Option.bind_some]
      rw [if_pos (by omega), if_pos (by omega), e1, e2]
      exact Or.inl ⟨_, rfl, rfl, ⟨by simp only; omega, by simp only; omega, by simp only [List.length_append, List.length_singleton]; omega⟩, by simp only; omega⟩
    · rw [if_neg hx, if_neg hx, lj (by omega), lj (by omega), if_pos (by omega), if_pos (by omega)]
      exact Or.inr ⟨_, rfl, rfl, rfl, by simp only; omega, rfl⟩
  have outer : ∃ b, aE (jU g p) ([], 0) = some b ∧ aE (lO g p) ([], 0) = some b ∧ (b.1.Nodes.length = p.Nodes.length ∧ b.1.Edges.length = p.Edges.length ∧ b.2.2 = 0) := by
    refine eD (F := jU g p) (G := lO g p) (fun x : List Int × Int => 0 ≤ x.2 ∧ x.2 ≤ (p.Nodes.length : Int) ∧ (x.1.length : Int) = x.2) (fun x => ((p.Nodes.length : Int) - x.2).toNat) _ (fun x hp => ?_) ([], 0) ⟨by simp, by simp, by simp⟩
    obtain ⟨ns, x⟩ := x
    obtain ⟨q1, q2, q3⟩ := hp
    simp only at q1 q2 q3
    unfold jU lO
    simp only
    by_cases hx : x < (p.Nodes.length : Int)
    · have hu := ok.1 x q1 hx
      simp only [if_pos hx, if_pos (show 0 ≤ x ∧ x < (p.Nodes.length : Int) from ⟨q1, hx⟩), if_pos (show 0 ≤ nth p.Nodes x ∧ nth p.Nodes x < (g.Nodes.length : Int) from ⟨hu.1, hu.2.1⟩), if_pos (show (ns.length + 1) * 8 ≤ 140737488355328 by omega)]
      exact Or.inl ⟨_, rfl, rfl, ⟨by simp only; omega, by simp only; omega, by simp only [List.length_append, List.length_singleton]; omega⟩, by simp only; omega⟩
    · rw [if_neg hx, if_neg hx]
      obtain ⟨b, i1, i2, i3, i4, i5⟩ := inner (ns, x)
      rw [i1, i2]
      exact Or.inr ⟨b, rfl, rfl, by rw [i3]; simp only; omega, i4, i5⟩
  obtain ⟨b, o1, o2, o3, o4, o5⟩ := outer
  exact ⟨b, o1, o2, fun _ => ⟨ok, o3, o4⟩, 0, by simp, o5⟩
theorem xv (a b : ar) (m : aS) : ∃ c, iE a b m = some c ∧ pk a b m = some c ∧ (c = 0 → m.Nodes.length = a.Nodes.length ∧ m.Edges.length = a.Edges.length) := by
  unfold iE pk
  obtain ⟨c1, a1, a2, a3⟩ := jI a
  rw [a1, a2]
  simp only [Option.bind_some]
  by_cases h1 : c1 = 0
  rotate_left
  · exact ⟨c1, by simp [h1], by simp [h1], fun e => absurd e h1⟩
  have ok := a3.1 h1
  simp only [h1, not_true, if_false]
  obtain ⟨c2, b1, b2, b3⟩ := jI b
  rw [b1, b2]
  simp only [Option.bind_some]
  by_cases h2 : c2 = 0
  rotate_left
  · exact ⟨c2, by simp [h2], by simp [h2], fun e => absurd e h2⟩
  simp only [h2, not_true, if_false]
  by_cases h3 : (m.Nodes.length : Int) = (a.Nodes.length : Int)
  rotate_left
  · exact ⟨20, by simp [h3], by simp [h3], fun e => by omega⟩
  simp only [h3, not_true, if_false]
  by_cases h4 : (m.Edges.length : Int) = (a.Edges.length : Int)
  rotate_left
  · exact ⟨20, by simp [h4], by simp [h4], fun e => by omega⟩
  simp only [h4, not_true, if_false]
  have inner : ∃ c, aE (o7 a b m) 0 = some c ∧ aE (ue a b m) 0 = some c ∧ True := by
    refine eD (F := o7 a b m) (G := ue a b m) (fun x : Int => 0 ≤ x ∧ x ≤ (a.Edges.length : Int)) (fun x => ((a.Edges.length : Int) - x).toNat) _ (fun x hp => ?_) 0 ⟨by omega, by omega⟩
    obtain ⟨q1, q2⟩ := hp
    unfold o7 ue
    rw [h4, h3]
    by_cases hx : x < (a.Edges.length : Int)
    · have hk := ok.2.2.2 x q1 hx
      obtain ⟨_, _, k1, k2, k3, k4⟩ := hk
      simp only [if_pos hx, if_pos (show 0 ≤ x ∧ x < (a.Edges.length : Int) from ⟨q1, hx⟩)]
      by_cases s1 : nth m.Edges x < 0
      · simp only [if_pos s1]; exact Or.inr ⟨_, rfl, rfl, trivial⟩
      simp only [if_neg s1]
      by_cases s2 : (b.Edges.length : Int) ≤ nth m.Edges x
      · simp only [if_pos s2]; exact Or.inr ⟨_, rfl, rfl, trivial⟩
      simp only [if_neg s2, if_pos (show 0 ≤ nth m.Edges x ∧ nth m.Edges x < (b.Edges.length : Int) by omega)]
      by_cases s3 : (nth a.Edges x).Type_ = (nth b.Edges (nth m.Edges x)).Type_
      rotate_left
      · simp only [if_pos s3]; exact Or.inr ⟨_, rfl, rfl, trivial⟩
      simp only [if_neg (not_not_intro s3), if_pos (show 0 ≤ (nth a.Edges x).From ∧ (nth a.Edges x).From < (a.Nodes.length : Int) from ⟨k1, k2⟩), if_pos (show 0 ≤ (nth a.Edges x).To ∧ (nth a.Edges x).To < (a.Nodes.length : Int) from ⟨k3, k4⟩)]
      by_cases s4 : nth m.Nodes ((nth a.Edges x).From) = (nth b.Edges (nth m.Edges x)).From
      rotate_left
      · simp only [if_pos s4]; exact Or.inr ⟨_, rfl, rfl, trivial⟩
      simp only [if_neg (not_not_intro s4)]
      by_cases s5 : nth m.Nodes ((nth a.Edges x).To) = (nth b.Edges (nth m.Edges x)).To
      rotate_left
      · simp only [if_pos s5]; exact Or.inr ⟨_, rfl, rfl, trivial⟩
      simp only [if_neg (not_not_intro s5)]
      exact Or.inl ⟨_, rfl, rfl, ⟨by omega, by omega⟩, by omega⟩
    · simp only [if_neg hx]
      exact Or.inr ⟨_, rfl, rfl, trivial⟩
  obtain ⟨ci, i1, i2, _⟩ := inner
  have outer : ∃ c, aE (nX a b m) 0 = some c ∧ aE (tP a b m) 0 = some c ∧ True := by
    refine eD (F := nX a b m) (G := tP a b m) (fun x : Int => 0 ≤ x ∧ x ≤ (a.Nodes.length : Int)) (fun x => ((a.Nodes.length : Int) - x).toNat) _ (fun x hp => ?_) 0 ⟨by omega, by omega⟩
    obtain ⟨q1, q2⟩ := hp
    unfold nX tP
    rw [h3, i1, i2]
    by_cases hx : x < (a.Nodes.length : Int)
    · simp only [if_pos hx, if_pos (show 0 ≤ x ∧ x < (a.Nodes.length : Int) from ⟨q1, hx⟩)]
      by_cases s1 : nth m.Nodes x < 0
      · simp only [if_pos s1]; exact Or.inr ⟨_, rfl, rfl, trivial⟩
      simp only [if_neg s1]
      by_cases s2 : (b.Nodes.length : Int) ≤ nth m.Nodes x
      · simp only [if_pos s2]; exact Or.inr ⟨_, rfl, rfl, trivial⟩
      simp only [if_neg s2, if_pos (show 0 ≤ nth m.Nodes x ∧ nth m.Nodes x < (b.Nodes.length : Int) by omega)]
      by_cases s3 : nth b.Nodes (nth m.Nodes x) = nth a.Nodes x
      rotate_left
      · simp only [if_pos s3]; exact Or.inr ⟨_, rfl, rfl, trivial⟩
      simp only [if_neg (not_not_intro s3)]
      exact Or.inl ⟨_, rfl, rfl, ⟨by omega, by omega⟩, by omega⟩
    · simp only [if_neg hx]
      exact Or.inr ⟨ci, rfl, rfl, trivial⟩
  obtain ⟨c, o1, o2, _⟩ := outer
  exact ⟨c, o1, o2, fun _ => ⟨by omega, by omega⟩⟩
end Go.Proofs.YtngimdmkomkeoaaGreat.K
