import Derived.Test.YtngimdmkomkeoaaGreatLawN
set_option linter.unusedVariables false
set_option linter.unusedSimpArgs false
namespace Go.Proofs.YtngimdmkomkeoaaGreat.K
open Go.RowKit Go.Proofs
theorem Cg (xs : List Int) (n : Int) : ∃ c, ja xs n = some c ∧ (c = 0 ↔ Up n xs) := by
  unfold ja
  rw [fJ (n := xs.length) (fun i => if nth xs i < 0 then some 6 else if n ≤ nth xs i then some 6 else if 0 < i then if nth xs i ≤ nth xs (i - 1) then some 12 else none else none) (some 0) ?_ ?_]
  · rcases jN (step := fun i : Int => if nth xs i < 0 then some (6 : Int) else if n ≤ nth xs i then some 6 else if 0 < i then if nth xs i ≤ nth xs (i - 1) then some 12 else none else none) (fin := some 0) xs.length 0 with ⟨h1, h2⟩ | ⟨j, b, h1, h2, h3, h4, h5⟩
    · refine ⟨0, h2, fun _ i a b => ?_, fun _ => rfl⟩
      have := h1 i a (by omega)
      try simp only at this
      split at this
      · cases this
      split at this
      · cases this
      split at this
      · split at this
        · cases this
        · exact ⟨by omega, by omega, fun _ => by omega⟩
      · exact ⟨by omega, by omega, fun _ => by omega⟩
    · refine ⟨b, h5, fun e => ?_, fun up => ?_⟩
      rotate_left
      · obtain ⟨u1, u2, u3⟩ := up j h1 (by omega)
        try simp only at h3
        rw [if_neg (by omega), if_neg (by omega)] at h3
        by_cases hj : 0 < j
        · have := u3 hj
          rw [if_pos hj, if_neg (by omega)] at h3; cases h3
        · rw [if_neg hj] at h3; cases h3
      subst e
      try simp only at h3
      split at h3
      · cases h3
      split at h3
      · cases h3
      split at h3
      · split at h3 <;> cases h3
      · cases h3
  · intro i h0 h1
    unfold lP
    rw [if_pos h1, if_pos ⟨h0, h1⟩]
    by_cases a : nth xs i < 0
    · simp [a]
    · by_cases b : n ≤ nth xs i
      · simp [a, b]
      · by_cases c : 0 < i
        · by_cases d : nth xs i ≤ nth xs (i - 1)
          · simp only [a, b, c, d, if_true, if_false]; rw [if_pos (by omega)]
          · simp only [a, b, c, d, if_true, if_false]; rw [if_pos (by omega)]; rfl
        · simp only [a, b, c, if_true, if_false]; rfl
  · unfold lP
    rw [if_neg (by omega)]; rfl
theorem Ja {g : ar} (hg : gK g) (p : cM) : ∃ c, kQ g p = some c ∧ ni g p = some c ∧ (c = 0 ↔ it g p) := by
  unfold kQ ni
  rw [CS]
  obtain ⟨c1, a1, a2⟩ := Cg p.Nodes (g.Nodes.length : Int)
  rw [a1]
  simp only [Option.bind_some]
  by_cases h1 : c1 = 0
  rotate_left
  · exact ⟨c1, by simp [h1], by simp [h1], fun e => absurd e h1, fun ok => a2.2 ok.1⟩
  have u1 := a2.1 h1
  obtain ⟨c2, b1, b2⟩ := Cg p.Edges (g.Edges.length : Int)
  rw [b1]
  simp only [Option.bind_some, h1, not_true, if_false]
  by_cases h2 : c2 = 0
  rotate_left
  · exact ⟨c2, by simp [h2], by simp [h2], fun e => absurd e h2, fun ok => b2.2 ok.2.1⟩
  have u2 := b2.1 h2
  simp only [h2, not_true, if_false]
  have l1 := u1.len (by omega)
  have l2 := u2.len (by omega)
  obtain ⟨g1, g2, _, _⟩ := hg
  refine (eD (F := lQ g p) (G := pV g p) (fun x : Int => 0 ≤ x ∧ x ≤ (p.Edges.length : Int) ∧ ∀ i : Int, 0 ≤ i → i < x → (∃ k : Int, 0 ≤ k ∧ k < (p.Nodes.length : Int) ∧ nth p.Nodes k = (nth g.Edges (nth p.Edges i)).From) ∧ (∃ k : Int, 0 ≤ k ∧ k < (p.Nodes.length : Int) ∧ nth p.Nodes k = (nth g.Edges (nth p.Edges i)).To)) (fun x => ((p.Edges.length : Int) - x).toNat) (fun c => c = 0 ↔ it g p) (fun x hp => ?_) 0 ⟨by omega, by omega, fun i a b => by omega⟩)
  obtain ⟨p1, p2, p3⟩ := hp
  unfold lQ pV
  by_cases hx : x < (p.Edges.length : Int)
  · have hu := u2 x p1 hx
    obtain ⟨d1, q1, q2, q3⟩ := sG u1 (by omega) (nth g.Edges (nth p.Edges x)).From
    obtain ⟨d2, r1, r2, r3⟩ := sG u1 (by omega) (nth g.Edges (nth p.Edges x)).To
    rw [if_pos hx, if_pos ⟨p1, hx⟩, if_pos ⟨hu.1, hu.2.1⟩, q1, if_pos hx, if_pos ⟨p1, hx⟩, if_pos ⟨hu.1, hu.2.1⟩, q2]
    simp only [Option.bind_some]
    rw [r1, r2]
    simp only [Option.bind_some]
    cases d1 with
    | false => exact Or.inr ⟨14, rfl, rfl, (fun h => by cases h), fun ok => by have := (rX p.Nodes (nth g.Edges (nth p.Edges x)).From).1 (ok.2.2 x p1 hx).1; rw [q2] at this; cases this⟩
    | true =>
      cases d2 with
      | false => exact Or.inr ⟨14, rfl, rfl, (fun h => by cases h), fun ok => by have := (rX p.Nodes (nth g.Edges (nth p.Edges x)).To).1 (ok.2.2 x p1 hx).2; rw [r2] at this; cases this⟩
      | true =>
        refine Or.inl ⟨x + 1, rfl, rfl, ⟨by omega, by omega, fun i a b => ?_⟩, by omega⟩
        by_cases e : i = x
        · rw [e]; exact ⟨q3 rfl, r3 rfl⟩
        · exact p3 i a (by omega)
  · rw [if_neg hx, if_neg hx]
    exact Or.inr ⟨0, rfl, rfl, fun _ => ⟨u1, u2, fun i a b => p3 i a (by omega)⟩, fun _ => rfl⟩
def vn (g : ar) (p : cM) (k : ar) : Prop := k.Nodes.length = p.Nodes.length ∧ k.Edges.length = p.Edges.length ∧ (∀ i : Int, 0 ≤ i → i < (p.Nodes.length : Int) → nth k.Nodes i = nth g.Nodes (nth p.Nodes i)) ∧
  ∀ i : Int, 0 ≤ i → i < (p.Edges.length : Int) → (nth k.Edges i).Type_ = (nth g.Edges (nth p.Edges i)).Type_ ∧ 0 ≤ (nth k.Edges i).From ∧ (nth k.Edges i).From < (p.Nodes.length : Int) ∧ nth p.Nodes (nth k.Edges i).From = (nth g.Edges (nth p.Edges i)).From ∧
    0 ≤ (nth k.Edges i).To ∧ (nth k.Edges i).To < (p.Nodes.length : Int) ∧ nth p.Nodes (nth k.Edges i).To = (nth g.Edges (nth p.Edges i)).To
theorem GJ {g : ar} (hg : gK g) {p : cM} (ok : it g p) : ∃ b, kV g p = some b ∧ lJ g p = some b ∧ b.2.2 = 0 ∧ vn g p b.1 := by
  obtain ⟨c0, g1, g2, g3⟩ := jI g
  obtain ⟨c, p1, p2, p3⟩ := Ja hg p
  unfold kV lJ nH nj
  rw [g1, g2]
  simp only [Option.bind_some, g3.2 hg, not_true, if_false]
  rw [p1, p2]
  simp only [Option.bind_some, p3.2 ok, not_true, if_false]
  have l1 := ok.1.len (by omega)
  have l2 := ok.2.1.len (by omega)
  have n1 := hg.1
  have n2 := hg.2.1
  have inner : ∀ x4 : List Int × Int, ∃ b, aE (jX g p x4) ([], 0) = some b ∧ aE (lR g p x4) ([], 0) = some b ∧ (b.1.Nodes = x4.1 ∧ b.1.Edges.length = p.Edges.length ∧ b.2.2 = 0 ∧
      ∀ i : Int, 0 ≤ i → i < (p.Edges.length : Int) → (nth b.1.Edges i).Type_ = (nth g.Edges (nth p.Edges i)).Type_ ∧ 0 ≤ (nth b.1.Edges i).From ∧ (nth b.1.Edges i).From < (p.Nodes.length : Int) ∧ nth p.Nodes (nth b.1.Edges i).From = (nth g.Edges (nth p.Edges i)).From ∧
        0 ≤ (nth b.1.Edges i).To ∧ (nth b.1.Edges i).To < (p.Nodes.length : Int) ∧ nth p.Nodes (nth b.1.Edges i).To = (nth g.Edges (nth p.Edges i)).To) := by
    intro x4
    refine eD (F := jX g p x4) (G := lR g p x4) (fun x : List ba × Int => 0 ≤ x.2 ∧ x.2 ≤ (p.Edges.length : Int) ∧ (x.1.length : Int) = x.2 ∧ ∀ i : Int, 0 ≤ i → i < (x.1.length : Int) → (fun (i : Int) (e : ba) => e.Type_ = (nth g.Edges (nth p.Edges i)).Type_ ∧ 0 ≤ e.From ∧ e.From < (p.Nodes.length : Int) ∧ nth p.Nodes e.From = (nth g.Edges (nth p.Edges i)).From ∧
        0 ≤ e.To ∧ e.To < (p.Nodes.length : Int) ∧ nth p.Nodes e.To = (nth g.Edges (nth p.Edges i)).To) i (nth x.1 i)) (fun x => ((p.Edges.length : Int) - x.2).toNat) _ (fun x hp => ?_) ([], 0) ⟨by simp, by simp, by simp, fun i a b => by simp at b; omega⟩
    obtain ⟨es, x⟩ := x
    obtain ⟨q1, q2, q3, q4⟩ := hp
    simp only at q1 q2 q3
    unfold jX lR
    simp only
    by_cases hx : x < (p.Edges.length : Int)
    · have hu := ok.2.1 x q1 hx
      have he := ok.2.2 x q1 hx
      obtain ⟨b1, r1, r2, r3⟩ := oN ok.1 (by omega) (nth g.Edges (nth p.Edges x)).From
      obtain ⟨b2, s1, s2, s3⟩ := oN ok.1 (by omega) (nth g.Edges (nth p.Edges x)).To
      obtain ⟨j1, t1, t2⟩ := sy p.Nodes (nth g.Edges (nth p.Edges x)).From
      obtain ⟨j2, v1, v2⟩ := sy p.Nodes (nth g.Edges (nth p.Edges x)).To
      obtain ⟨m1, m2, m3⟩ := t2 he.1
      obtain ⟨o1, o2, o3⟩ := v2 he.2
      have e1 : b1.1 = j1 := by
        cases hb : b1.2 with
        | false => obtain ⟨k, k1, k2, k3⟩ := he.1; exact absurd k3 (r3 hb k k1 k2)
        | true =>
          obtain ⟨k1, k2, k3⟩ := r2 hb
          exact ok.1.inj k1 k2 m1 m2 (k3.trans m3.symm)
      have e2 : b2.1 = j2 := by
        cases hb : b2.2 with
        | false => obtain ⟨k, k1, k2, k3⟩ := he.2; exact absurd k3 (s3 hb k k1 k2)
        | true =>
          obtain ⟨k1, k2, k3⟩ := s2 hb
          exact ok.1.inj k1 k2 o1 o2 (k3.trans o3.symm)
      rw [if_pos hx, if_pos ⟨q1, hx⟩, if_pos ⟨hu.1, hu.2.1⟩, r1, if_pos hx, if_pos ⟨q1, hx⟩, if_pos ⟨hu.1, hu.2.1⟩, t1]
      simp only [Option.bind_some]
      rw [s1, v1]
      simp only [Option.bind_some]
      rw [if_pos (by omega), if_pos (by omega), e1, e2]
      refine Or.inl ⟨_, rfl, rfl, ⟨by simp only; omega, by simp only; omega, by simp only [List.length_append, List.length_singleton]; omega, ?_⟩, by simp only; omega⟩
      intro i i1 i2
      simp only [List.length_append, List.length_singleton] at i2
      by_cases e : i = (es.length : Int)
      · have : nth (es ++ [(ba.mk ((nth g.Edges (nth p.Edges x)).Type_) j1 j2)]) i = ba.mk ((nth g.Edges (nth p.Edges x)).Type_) j1 j2 := by
          subst e; rw [dw _ es.length (by simp)]; simp
        simp only [this]
        rw [e, q3]
        exact ⟨rfl, m1, m2, m3, o1, o2, o3⟩
      · have : nth (es ++ [(ba.mk ((nth g.Edges (nth p.Edges x)).Type_) j1 j2)]) i = nth es i := by
          obtain ⟨k, rfl⟩ := Int.eq_ofNat_of_zero_le i1
          rw [dw _ k (by simp; omega), dw _ k (by omega), List.getElem_append_left]
        simp only [this]
        exact q4 i i1 (by simp only; omega)
    · rw [if_neg hx, if_neg hx, lj (by omega), lj (by omega), if_pos (by omega), if_pos (by omega)]
      exact Or.inr ⟨_, rfl, rfl, rfl, by simp only; omega, rfl, fun i a b => q4 i a (by simp only; omega)⟩
  have outer : ∃ b, aE (jU g p) ([], 0) = some b ∧ aE (lO g p) ([], 0) = some b ∧ (b.2.2 = 0 ∧ vn g p b.1) := by
    refine eD (F := jU g p) (G := lO g p) (fun x : List Int × Int => 0 ≤ x.2 ∧ x.2 ≤ (p.Nodes.length : Int) ∧ (x.1.length : Int) = x.2 ∧ ∀ i : Int, 0 ≤ i → i < x.2 → nth x.1 i = nth g.Nodes (nth p.Nodes i)) (fun x => ((p.Nodes.length : Int) - x.2).toNat) _ (fun x hp => ?_) ([], 0) ⟨by simp, by simp, by simp, fun i a b => by simp at b; omega⟩
    obtain ⟨ns, x⟩ := x
    obtain ⟨q1, q2, q3, q4⟩ := hp
    simp only at q1 q2 q3 q4
    unfold jU lO
    simp only
    by_cases hx : x < (p.Nodes.length : Int)
    · have hu := ok.1 x q1 hx
      simp only [if_pos hx, if_pos (show 0 ≤ x ∧ x < (p.Nodes.length : Int) from ⟨q1, hx⟩), if_pos (show 0 ≤ nth p.Nodes x ∧ nth p.Nodes x < (g.Nodes.length : Int) from ⟨hu.1, hu.2.1⟩), if_pos (show (ns.length + 1) * 8 ≤ 140737488355328 by omega)]
      refine Or.inl ⟨_, rfl, rfl, ⟨by simp only; omega, by simp only; omega, by simp only [List.length_append, List.length_singleton]; omega, ?_⟩, by simp only; omega⟩
      intro i i1 i2
      simp only at i2 ⊢
      by_cases e : i = (ns.length : Int)
      · subst e; rw [dw _ ns.length (by simp), q3]; simp
      · obtain ⟨k, rfl⟩ := Int.eq_ofNat_of_zero_le i1
        rw [dw _ k (by simp; omega), List.getElem_append_left (by omega), ← dw ns k (by omega)]
        exact q4 (k : Int) i1 (by omega)
    · rw [if_neg hx, if_neg hx]
      obtain ⟨b, i1, i2, i3, i4, i5, i6⟩ := inner (ns, x)
      rw [i1, i2]
      exact Or.inr ⟨b, rfl, rfl, i5, by rw [i3]; simp only; omega, i4, fun i a c => by rw [i3]; exact q4 i a (by omega), i6⟩
  obtain ⟨b, o1, o2, o3, o4⟩ := outer
  exact ⟨b, o1, o2, o3, o4⟩
def Inj (xs : List Int) : Prop := ∀ i j : Int, 0 ≤ i → i < (xs.length : Int) → 0 ≤ j → j < (xs.length : Int) → nth xs i = nth xs j → i = j
theorem Cf {xs : List Int} : Inj xs ↔ xs.Nodup := by
  constructor
  · intro h
    refine List.pairwise_iff_getElem.2 fun i j hi hj hij e => ?_
    have := h (i : Int) (j : Int) (by omega) (by omega) (by omega) (by omega) (by rw [dw _ i hi, dw _ j hj]; exact e)
    omega
  · intro h i j h0 h1 h2 h3 e
    obtain ⟨a, rfl⟩ := Int.eq_ofNat_of_zero_le h0
    obtain ⟨b, rfl⟩ := Int.eq_ofNat_of_zero_le h2
    rw [dw _ a (by omega), dw _ b (by omega)] at e
    have hp := List.pairwise_iff_getElem.1 h
    rcases Nat.lt_trichotomy a b with c | c | c
    · exact absurd e (hp a b (by omega) (by omega) c)
    · omega
    · exact absurd e.symm (hp b a (by omega) (by omega) c)
def iH (i : Int) : ByteArray := bT (ByteArray.mk #[65, 66, 67, 68, 69, 70]) i (i + 1)
def ij (i : Int) : ByteArray := bT (ByteArray.mk #[117, 118, 119, 120, 121, 122]) i (i + 1)
def jZ (i : Int) : ByteArray := bT (ByteArray.mk #[101, 102, 103, 104, 105]) i (i + 1)
theorem six {P : Int → Prop} (h0 : P 0) (h1 : P 1) (h2 : P 2) (h3 : P 3) (h4 : P 4) (h5 : P 5) (i : Int) (a : 0 ≤ i) (b : i < 6) : P i := by
  have : i = 0 ∨ i = 1 ∨ i = 2 ∨ i = 3 ∨ i = 4 ∨ i = 5 := by omega
  rcases this with h | h | h | h | h | h <;> subst h <;> assumption
theorem nameN (i : Int) (a : 0 ≤ i) (b : i < 6) : gc (iH i) = some true ∧ gP (iH i) = some true :=
  six (P := fun i => gc (iH i) = some true ∧ gP (iH i) = some true) ⟨by kernel_rfl, by kernel_rfl⟩ ⟨by kernel_rfl, by kernel_rfl⟩ ⟨by kernel_rfl, by kernel_rfl⟩ ⟨by kernel_rfl, by kernel_rfl⟩ ⟨by kernel_rfl, by kernel_rfl⟩ ⟨by kernel_rfl, by kernel_rfl⟩ i a b
theorem nameA (i : Int) (a : 0 ≤ i) (b : i < 6) : gc (ij i) = some true ∧ gP (ij i) = some true :=
  six (P := fun i => gc (ij i) = some true ∧ gP (ij i) = some true) ⟨by kernel_rfl, by kernel_rfl⟩ ⟨by kernel_rfl, by kernel_rfl⟩ ⟨by kernel_rfl, by kernel_rfl⟩ ⟨by kernel_rfl, by kernel_rfl⟩ ⟨by kernel_rfl, by kernel_rfl⟩ ⟨by kernel_rfl, by kernel_rfl⟩ i a b
theorem nameE (i : Int) (a : 0 ≤ i) (b : i < 5) : gc (jZ i) = some true ∧ gP (jZ i) = some true := by
  have : i = 0 ∨ i = 1 ∨ i = 2 ∨ i = 3 ∨ i = 4 := by omega
  rcases this with h | h | h | h | h <;> subst h <;> exact ⟨by kernel_rfl, by kernel_rfl⟩
theorem injN : ∀ i : Nat, i < 6 → ∀ j : Nat, j < 6 → iH (i : Int) = iH (j : Int) → i = j := by decide +kernel
theorem injA : ∀ i : Nat, i < 6 → ∀ j : Nat, j < 6 → ij (i : Int) = ij (j : Int) → i = j := by decide +kernel
theorem injE : ∀ i : Nat, i < 5 → ∀ j : Nat, j < 5 → jZ (i : Int) = jZ (j : Int) → i = j := by decide +kernel
theorem GW {i j : Int} (a : 0 ≤ i) (b : i < 6) (c : 0 ≤ j) (d : j < 6) (h : iH i = iH j) : i = j := by
  obtain ⟨n, rfl⟩ := Int.eq_ofNat_of_zero_le a
  obtain ⟨m, rfl⟩ := Int.eq_ofNat_of_zero_le c
  have := injN n (by omega) m (by omega) h; omega
theorem GU {i j : Int} (a : 0 ≤ i) (b : i < 6) (c : 0 ≤ j) (d : j < 6) (h : ij i = ij j) : i = j := by
  obtain ⟨n, rfl⟩ := Int.eq_ofNat_of_zero_le a
  obtain ⟨m, rfl⟩ := Int.eq_ofNat_of_zero_le c
  have := injA n (by omega) m (by omega) h; omega
theorem GV {i j : Int} (a : 0 ≤ i) (b : i < 5) (c : 0 ≤ j) (d : j < 5) (h : jZ i = jZ j) : i = j := by
  obtain ⟨n, rfl⟩ := Int.eq_ofNat_of_zero_le a
  obtain ⟨m, rfl⟩ := Int.eq_ofNat_of_zero_le c
  have := injE n (by omega) m (by omega) h; omega
def oC : List ByteArray := [(ByteArray.mk #[111, 102, 102]), (ByteArray.mk #[111, 110])]
def rz (a : aW) : Prop := (a.Names = [] ∧ -1000000 ≤ a.Low ∧ a.Low ≤ a.High ∧ a.High ≤ 1000000) ∨ (a.Names = oC ∧ a.Low = 0 ∧ a.High = 1)
def ml (i : Int) (n : bR) : Prop := n.Name = iH i ∧ -1 ≤ n.Parent ∧ n.Parent < i ∧ (n.Attrs = [] ∨ ∃ a, n.Attrs = [a] ∧ a.Name = ij i ∧ rz a)
def w8 (n i : Int) (e : db) : Prop := e.Name = jZ i ∧ 0 ≤ e.From ∧ e.From < n ∧ 0 ≤ e.To ∧ e.To < n ∧ e.OutLow = 0 ∧ e.OutHigh = -1 ∧ e.InLow = 0 ∧ e.InHigh = -1
structure dF (T : aq) : Prop where
  n1 : 1 ≤ (T.Nodes.length : Int)
  n6 : (T.Nodes.length : Int) ≤ 6
  e5 : (T.Edges.length : Int) ≤ 5
  node : ∀ i : Int, 0 ≤ i → i < (T.Nodes.length : Int) → ml i (nth T.Nodes i)
  edge : ∀ i : Int, 0 ≤ i → i < (T.Edges.length : Int) → w8 (T.Nodes.length : Int) i (nth T.Edges i)
def U8 (x : Int) : Prop := 0 ≤ x ∧ x ≤ 255
theorem fI {a n : Int} (ha : 0 ≤ a) (hn : 0 < n) : 0 ≤ a.tmod n ∧ a.tmod n < n := ⟨Int.tmod_nonneg _ ha, Int.tmod_lt_of_pos _ hn⟩
theorem J0 (ns : List bR) (i : Int) (v : dY) (hi : 0 ≤ i) (h6 : i < 6) (hl : (ns.length : Int) = i) (h0 : U8 v.e0) (h1 : U8 v.e1) :
    ∃ n, nL (ns, i) v = some (.inl (ns ++ [n], i + 1)) ∧ ml i n := by
  unfold nL
  try simp only
  simp only [bL (x := i + 1) (by omega) (by omega), Option.bind_some]
  have s1 : ((ByteArray.mk #[65, 66, 67, 68, 69, 70]).size : Int) = 6 := rfl
  have s2 : ((ByteArray.mk #[117, 118, 119, 120, 121, 122]).size : Int) = 6 := rfl
  rw [s1, s2, if_pos (show 0 ≤ i ∧ i ≤ i + 1 ∧ i + 1 ≤ 6 by omega), if_pos (show i + 1 ≠ 0 by omega)]
  obtain ⟨m1, m2⟩ := fI h0.1 (show 0 < i + 1 by omega)
  rw [bL (x := v.e0.tmod (i + 1) - 1) (by omega) (by omega)]
  rw [if_pos (show 0 ≤ i ∧ i ≤ i + 1 ∧ i + 1 ≤ 6 by omega)]
  have fin : ∀ n, qn (ns, i) n = some (.inl (ns ++ [n], i + 1)) := fun n => by
    unfold qn
    simp only
    rw [if_pos (by omega), bL (x := i + 1) (by omega) (by omega)]
    rfl
  by_cases c1 : v.e1.tmod 4 = 1
  · rw [if_pos c1]
    have d0 : 0 ≤ v.e1.tdiv 4 ∧ v.e1.tdiv 4 ≤ 255 := by
      obtain ⟨a, b⟩ := h1
      rw [Int.tdiv_eq_ediv_of_nonneg a]; omega
    rw [IntWalk.u8_in _ d0]
    obtain ⟨t1, t2⟩ := fI d0.1 (show (0 : Int) < 9 by omega)
    rw [bL (x := 3 + (v.e1.tdiv 4).tmod 9) (by omega) (by omega), fin]
    exact ⟨_, rfl, rfl, by simp only; omega, by simp only; omega, Or.inr ⟨_, rfl, rfl, Or.inl ⟨rfl, by simp only; omega, by simp only; omega, by simp only; omega⟩⟩⟩
  · rw [if_neg c1]
    unfold ub
    by_cases c2 : v.e1.tmod 4 = 2
    · rw [if_pos c2, fin]
      exact ⟨_, rfl, rfl, by simp only; omega, by simp only; omega, Or.inr ⟨_, rfl, rfl, Or.inr ⟨rfl, rfl, rfl⟩⟩⟩
    · rw [if_neg c2, fin]
      exact ⟨_, rfl, rfl, by simp only; omega, by simp only; omega, Or.inl rfl⟩
theorem JT (t0 t1 : List dY) (h0 : ∀ x ∈ t0, U8 x.e0 ∧ U8 x.e1) (h1 : ∀ x ∈ t1, U8 x.e0 ∧ U8 x.e1) : ∃ T, sN t0 t1 = some T ∧ dF T := by
  unfold sN
  refine cl (F := xH t0 t1) (fun x : List bR × Int => 0 ≤ x.2 ∧ x.2 ≤ 6 ∧ (x.1.length : Int) = x.2 ∧ ∀ i : Int, 0 ≤ i → i < (x.1.length : Int) → ml i (nth x.1 i)) (fun x => (6 - x.2).toNat) dF (fun x hp => ?_) ([], 0) ⟨by simp, by simp, by simp, fun i a b => by simp at b; omega⟩
  obtain ⟨ns, i⟩ := x
  obtain ⟨p1, p2, p3, p4⟩ := hp
  simp only at p1 p2 p3 p4
  have step : i < 6 → (∃ x', qm t0 (ns, i) () = some (.inl x') ∧ (0 ≤ x'.2 ∧ x'.2 ≤ 6 ∧ (x'.1.length : Int) = x'.2 ∧ ∀ i : Int, 0 ≤ i → i < (x'.1.length : Int) → ml i (nth x'.1 i)) ∧ (6 - x'.2).toNat < (6 - i).toNat) := fun h6 => by
    have key : ∀ v : dY, U8 v.e0 → U8 v.e1 → (∃ x', nL (ns, i) v = some (.inl x') ∧ (0 ≤ x'.2 ∧ x'.2 ≤ 6 ∧ (x'.1.length : Int) = x'.2 ∧ ∀ i : Int, 0 ≤ i → i < (x'.1.length : Int) → ml i (nth x'.1 i)) ∧ (6 - x'.2).toNat < (6 - i).toNat) := fun v a b => by
      obtain ⟨n, e1, e2⟩ := J0 ns i v p1 h6 p3 a b
      exact ⟨_, e1, ⟨by simp only; omega, by simp only; omega, by simp only [List.length_append, List.length_singleton]; omega, iU (P := ml) p4 (by rw [p3]; exact e2)⟩, by simp only; omega⟩
    unfold qm
    simp only
    by_cases c : i < (t0.length : Int)
    · rw [if_pos c, if_pos ⟨p1, c⟩]
      have := h0 _ (cu p1 c)
      exact key _ this.1 this.2
    · rw [if_neg c]
      exact key ⟨0, 0⟩ (show U8 0 from ⟨by omega, by omega⟩) (show U8 0 from ⟨by omega, by omega⟩)
  have done : 1 ≤ i → ∃ T, qo t1 (ns, i) () = some (.inr T) ∧ dF T := fun h1' => by
    unfold qo
    obtain ⟨T, e1, e2⟩ := cl (F := yo t1 (ns, i)) (fun x : List db × Int => 0 ≤ x.2 ∧ x.2 ≤ 5 ∧ (x.1.length : Int) = x.2 ∧ ∀ j : Int, 0 ≤ j → j < (x.1.length : Int) → w8 (ns.length : Int) j (nth x.1 j)) (fun x => (5 - x.2).toNat) dF (fun x hp => by
      obtain ⟨es, j⟩ := x
      obtain ⟨q1, q2, q3, q4⟩ := hp
      simp only at q1 q2 q3 q4
      have fin : ∃ T, uc (ns, i) (es, j) () = some (.inr T) ∧ dF T := ⟨_, rfl, by simp only; omega, by simp only; omega, by simp only; omega, p4, q4⟩
      unfold yo
      simp only
      have s1 : ((ByteArray.mk #[101, 102, 103, 104, 105]).size : Int) = 5 := rfl
      by_cases c : j < (t1.length : Int)
      · by_cases c5 : j < 5
        · obtain ⟨⟨a1, a2⟩, b1, b2⟩ := h1 _ (cu q1 c)
          obtain ⟨m1, m2⟩ := fI a1 (show 0 < (ns.length : Int) by omega)
          obtain ⟨m3, m4⟩ := fI b1 (show 0 < (ns.length : Int) by omega)
          rw [if_pos c, if_pos c5, s1, if_pos (by omega), if_pos ⟨q1, c⟩, if_pos (by omega), if_pos (by simp only [List.length_singleton]; omega)]
          exact Or.inl ⟨_, rfl, ⟨by simp only; omega, by simp only; omega, by simp only [List.length_append, List.length_singleton]; omega, iU (P := w8 (ns.length : Int)) q4 ⟨by rw [q3]; rfl, m1, m2, m3, m4, rfl, rfl, rfl, rfl⟩⟩, by simp only; omega⟩
        · rw [if_pos c, if_neg c5]; exact Or.inr fin
      · rw [if_neg c]; exact Or.inr fin) ([], 0) ⟨by simp, by simp, by simp, fun i a b => by simp at b; omega⟩
    rw [e1]
    exact ⟨T, rfl, e2⟩
  unfold xH
  simp only
  by_cases c0 : i = 0
  · rw [if_pos c0]; exact Or.inl (step (by omega))
  · rw [if_neg c0]
    by_cases c : i < (t0.length : Int)
    · by_cases c6 : i < 6
      · rw [if_pos c, if_pos c6]; exact Or.inl (step c6)
      · rw [if_pos c, if_neg c6]; exact Or.inr (done (by omega))
    · rw [if_neg c]; exact Or.inr (done (by omega))
def gC (T : aq) (i : Int) (l : List aW) : Prop := ∃ pre, l = pre ++ (nth T.Nodes i).Attrs ∧ (pre.length : Int) ≤ i ∧ ∀ a ∈ pre, ∃ j : Int, 0 ≤ j ∧ j < i ∧ a.Name = ij j ∧ rz a
theorem vE {T : aq} (hT : dF T) {i : Int} (h0 : 0 ≤ i) (h1 : i < (T.Nodes.length : Int)) : ((nth T.Nodes i).Attrs.length : Int) ≤ 1 := by
  obtain ⟨_, _, _, h | ⟨a, h, _⟩⟩ := hT.node i h0 h1 <;> rw [h] <;> simp
theorem gC.len {T : aq} (hT : dF T) {i : Int} (h0 : 0 ≤ i) (h1 : i < (T.Nodes.length : Int)) {l : List aW} (h : gC T i l) : (l.length : Int) ≤ i + 1 := by
  obtain ⟨pre, rfl, h2, _⟩ := h
  have := vE hT h0 h1
  simp; omega
theorem gC.up {T : aq} (hT : dF T) {p i : Int} (h0 : 0 ≤ p) (h1 : p < i) (h2 : i < (T.Nodes.length : Int)) {l : List aW} (h : gC T p l) : gC T i (l ++ (nth T.Nodes i).Attrs) := by
  have hl := h.len hT h0 (by omega)
  refine ⟨l, rfl, by omega, fun a ha => ?_⟩
  obtain ⟨pre, rfl, _, h3⟩ := h
  rcases List.mem_append.1 ha with ha | ha
  · obtain ⟨j, a1, a2, a3⟩ := h3 a ha; exact ⟨j, a1, by omega, a3⟩
  · obtain ⟨_, _, _, e | ⟨b, e, e1, e2⟩⟩ := hT.node p h0 (by omega)
    · rw [e] at ha; simp at ha
    · rw [e] at ha; simp at ha; subst ha; exact ⟨p, h0, h1, e1, e2⟩
theorem gC.root {T : aq} {i : Int} (h0 : 0 ≤ i) : gC T i ([] ++ (nth T.Nodes i).Attrs) := ⟨[], rfl, by simpa using h0, by simp⟩
theorem wJ {T : aq} (hT : dF T) : ∀ (n : Nat) (i : Int), i < (T.Nodes.length : Int) → (∀ l, fL n T i = some l → (0 ≤ i → gC T i l) ∧ (i < 0 → l = [])) ∧ (max i (-1) + 1 < n → ∃ l, fL n T i = some l)
  | 0, i, h1 => ⟨fun l h => (by cases h), fun h => by omega⟩
  | n + 1, i, h1 => by
    show (∀ l, kP (fL n) T i = some l → (0 ≤ i → gC T i l) ∧ (i < 0 → l = [])) ∧ (max i (-1) + 1 < ((n + 1 : Nat) : Int) → ∃ l, kP (fL n) T i = some l)
    have n6 := hT.n6
    unfold kP
    by_cases hi : i < 0
    · rw [if_pos hi]
      exact ⟨fun l h => (by cases h; exact ⟨fun h => by omega, fun _ => rfl⟩), fun _ => ⟨_, rfl⟩⟩
    · have h0 : 0 ≤ i := by omega
      have hn := hT.node i h0 h1
      have a1 := vE hT h0 h1
      rw [if_neg hi, if_pos ⟨h0, h1⟩]
      have ih := wJ hT n (nth T.Nodes i).Parent (by have := hn.2.2.1; omega)
      have key : ∀ l', fL n T (nth T.Nodes i).Parent = some l' → (l'.length : Int) ≤ 6 ∧ gC T i (l' ++ (nth T.Nodes i).Attrs) := fun l' hc => by
        have := ih.1 l' hc
        by_cases hp : 0 ≤ (nth T.Nodes i).Parent
        · have hg := this.1 hp
          have := hg.len hT hp (by have := hn.2.2.1; omega)
          have := hn.2.2.1
          exact ⟨by omega, hg.up hT hp hn.2.2.1 h1⟩
        · have e := this.2 (by omega)
          subst e
          exact ⟨by simp, gC.root h0⟩
      constructor
      · intro l h
        cases hc : fL n T (nth T.Nodes i).Parent with
        | none => rw [hc] at h; cases h
        | some l' =>
          rw [hc] at h
          obtain ⟨k1, k2⟩ := key l' hc
          simp only [Option.bind_some] at h
          rw [if_pos (by omega), if_pos (by omega)] at h
          cases h
          exact ⟨fun _ => k2, fun h => by omega⟩
      · intro hlt
        obtain ⟨l', hc⟩ := ih.2 (by have := hn.2.2.1; have := hn.2.1; omega)
        obtain ⟨k1, k2⟩ := key l' hc
        rw [hc, Option.bind_some, if_pos (by omega), if_pos (by omega)]
        exact ⟨_, rfl⟩
theorem CD {T : aq} (hT : dF T) (i : Int) (h0 : 0 ≤ i) (h1 : i < (T.Nodes.length : Int)) : ∃ l, nh T i = some l ∧ gC T i l :=
  mj (u := fun n => fL n T i) (Q := gC T i) (fun n l h => ((wJ hT n i h1).1 l h).1 h0) ⟨i.toNat + 3, (wJ hT (i.toNat + 3) i h1).2 (by omega)⟩
theorem I3 {a : aW} (h : rz a) : j7 a.Names = some 0 ∧ ic a = some 0 := by
  rcases h with ⟨h, h1, h2, h3⟩ | ⟨h, h1, h2⟩
  · constructor
    · rw [h]; kernel_rfl
    · unfold ic fk
      rw [h, if_pos (by simp), if_pos h1]
      simp only [Option.bind_some]
      rw [if_neg (by simp; omega), if_pos h2]
      simp only [Option.bind_some]
      rw [if_neg (by simp; omega)]
  · constructor
    · rw [h]; kernel_rfl
    · have e : pj oC = some 0 := by kernel_rfl
      unfold ic
      rw [h, if_neg (by simp [oC]), e]
      simp [h1, h2, oC]
theorem ma (a b c : Int) : fk a b c = some (decide (b ≤ a ∧ a ≤ c)) := by
  unfold fk; by_cases h : b ≤ a <;> simp [h]
theorem Ix {T : aq} (hT : dF T) (i : Int) (h0 : 0 ≤ i) (h1 : i < (T.Nodes.length : Int)) : mW T i = some 0 := by
  have hn := hT.node i h0 h1
  have n6 := hT.n6
  have a1 := vE hT h0 h1
  obtain ⟨l, e1, e2⟩ := CD hT i h0 h1
  have hl := e2.len hT h0 h1
  obtain ⟨pre, e3, e4, e5⟩ := e2
  have hlen : (l.length : Int) = pre.length + (nth T.Nodes i).Attrs.length := by rw [e3]; simp
  have last : aE (lL l) ((l.length : Int) - (nth T.Nodes i).Attrs.length) = some 0 := by
    obtain ⟨c, hc, rfl⟩ := cl (F := lL l) (fun x : Int => (pre.length : Int) ≤ x ∧ x ≤ (l.length : Int)) (fun x => ((l.length : Int) - x).toNat) (fun c => c = 0) (fun x hp => by
      obtain ⟨p1, p2⟩ := hp
      unfold lL
      by_cases hx : x < (l.length : Int)
      · have hx' : x = (pre.length : Int) := by omega
        rw [if_pos hx, if_pos (by omega)]
        rcases hn.2.2.2 with e | ⟨a, e, f1, f2⟩
        · rw [e] at hlen; simp at hlen; omega
        · rw [e] at e3
          have v1 : nth l x = a := by rw [e3]; exact kG hx'
          rw [v1, f1, (nameA i h0 (by omega)).2, Option.bind_some, if_neg (by simp)]
          obtain ⟨c, hc, rfl⟩ := cl (F := nD l x) (fun y : Int => 0 ≤ y ∧ y ≤ x) (fun y => (x - y).toNat) (fun c => c = .inl (x + 1)) (fun y hp => by
            obtain ⟨q1, q2⟩ := hp
            unfold nD
            by_cases hy : y < x
            · have hm : nth l y ∈ pre := by
                rw [e3, i9 q1 (by omega)]; exact cu q1 (by omega)
              obtain ⟨j, j1, j2, j3, _⟩ := e5 _ hm
              rw [if_pos hy, if_pos (by omega), v1, j3, f1, if_neg (fun e => by have := GU j1 (by omega) h0 (by omega) e; omega)]
              exact Or.inl ⟨_, rfl, ⟨by omega, by omega⟩, by omega⟩
            · rw [if_neg hy, v1, (I3 f2).2]; exact Or.inr ⟨_, rfl, rfl⟩) 0 ⟨by omega, by omega⟩
          rw [hc]
          exact Or.inl ⟨_, rfl, ⟨by omega, by omega⟩, by omega⟩
      · rw [if_neg hx]; exact Or.inr ⟨_, rfl, rfl⟩) ((l.length : Int) - (nth T.Nodes i).Attrs.length) ⟨by omega, by omega⟩
    exact hc
  unfold mW
  rw [if_pos ⟨h0, h1⟩, hn.1, (nameN i h0 (by omega)).2, Option.bind_some, if_neg (by simp)]
  obtain ⟨c, hc, rfl⟩ := cl (F := nz T i) (fun y : Int => 0 ≤ y ∧ y ≤ i) (fun y => (i - y).toNat) (fun c => c = 0) (fun y hp => by
    obtain ⟨q1, q2⟩ := hp
    unfold nz
    by_cases hy : y < i
    · rw [if_pos hy, if_pos (by omega), (hT.node y q1 (by omega)).1, hn.1, if_neg (fun e => by have := GW q1 (by omega) h0 (by omega) e; omega)]
      exact Or.inl ⟨_, rfl, ⟨by omega, by omega⟩, by omega⟩
    · have g1 := hn.2.1
      have g2 := hn.2.2.1
      rw [if_neg hy, bL (by omega) (by omega), Option.bind_some, ma, Option.bind_some, if_neg (by simp; omega), e1, Option.bind_some, if_neg (by omega), if_neg (by omega), bL (by omega) (by omega), Option.bind_some, last]
      exact Or.inr ⟨_, rfl, rfl⟩) 0 ⟨by omega, by omega⟩
  exact hc
theorem Iv {T : aq} (hT : dF T) (i : Int) (h0 : 0 ≤ i) (h1 : i < (T.Edges.length : Int)) : mV T i = some 0 := by
  obtain ⟨n1, n2, n3, n4, n5, n6, n7, n8, n9⟩ := hT.edge i h0 h1
  have e5 := hT.e5
  have t6 := hT.n6
  unfold mV
  rw [if_pos ⟨h0, h1⟩, n1, (nameE i h0 (by omega)).2, Option.bind_some, if_neg (by simp)]
  obtain ⟨c, hc, rfl⟩ := cl (F := ny T i) (fun y : Int => 0 ≤ y ∧ y ≤ i) (fun y => (i - y).toNat) (fun c => c = 0) (fun y hp => by
    obtain ⟨q1, q2⟩ := hp
    unfold ny
    by_cases hy : y < i
    · rw [if_pos hy, if_pos (by omega), (hT.edge y q1 (by omega)).1, n1, if_neg (fun e => by have := GV q1 (by omega) h0 (by omega) e; omega)]
      exact Or.inl ⟨_, rfl, ⟨by omega, by omega⟩, by omega⟩
    · have b1 : j6 0 (-1) = some true := by kernel_rfl
      rw [if_neg hy, bL (by omega) (by omega), Option.bind_some, ma, Option.bind_some, if_neg (by simp; omega), ma, Option.bind_some, if_neg (by simp; omega), n6, n7, n8, n9, b1]
      exact Or.inr ⟨_, rfl, rfl⟩) 0 ⟨by omega, by omega⟩
  exact hc
theorem Jf {T : aq} (hT : dF T) : iD T = some ((ByteArray.mk #[]), 0) := by
  have n1 := hT.n1
  have n6 := hT.n6
  have e5 := hT.e5
  unfold iD
  rw [if_neg (by omega), if_neg (by omega), if_neg (by omega)]
  have inner : aE (nM T) 0 = some ((ByteArray.mk #[]), 0) := by
    obtain ⟨c, hc, rfl⟩ := cl (F := nM T) (fun x : Int => 0 ≤ x ∧ x ≤ (T.Edges.length : Int)) (fun x => ((T.Edges.length : Int) - x).toNat) (fun c => c = ((ByteArray.mk #[]), 0)) (fun x hp => by
      obtain ⟨p1, p2⟩ := hp
      unfold nM
      by_cases hx : x < (T.Edges.length : Int)
      · rw [if_pos hx, Iv hT x p1 hx]; exact Or.inl ⟨_, rfl, ⟨by omega, by omega⟩, by omega⟩
      · rw [if_neg hx]; exact Or.inr ⟨_, rfl, rfl⟩) 0 ⟨by omega, by omega⟩
    exact hc
  obtain ⟨c, hc, rfl⟩ := cl (F := pU T) (fun x : Int => 0 ≤ x ∧ x ≤ (T.Nodes.length : Int)) (fun x => ((T.Nodes.length : Int) - x).toNat) (fun c => c = ((ByteArray.mk #[]), 0)) (fun x hp => by
    obtain ⟨p1, p2⟩ := hp
    unfold pU
    by_cases hx : x < (T.Nodes.length : Int)
    · rw [if_pos hx, Ix hT x p1 hx]; exact Or.inl ⟨_, rfl, ⟨by omega, by omega⟩, by omega⟩
    · rw [if_neg hx, inner]; exact Or.inr ⟨_, rfl, rfl⟩) 0 ⟨by omega, by omega⟩
  exact hc
theorem CG {T : aq} (hT : dF T) (a b : Int) : ∃ c, lD T a b = some c ∧ (c = 0 ↔ (0 ≤ a ∧ a < (T.Nodes.length : Int)) ∧ (0 ≤ b ∧ b < (T.Nodes.length : Int))) := by
  have n1 := hT.n1
  have n6 := hT.n6
  unfold lD
  rw [Jf hT, Option.bind_some, if_neg (by simp), bL (by omega) (by omega), Option.bind_some, ma, Option.bind_some]
  by_cases h : 0 ≤ a ∧ a ≤ (T.Nodes.length : Int) - 1
  · rw [if_neg (by simp [h]), Option.bind_some, ma, Option.bind_some]
    by_cases h' : 0 ≤ b ∧ b ≤ (T.Nodes.length : Int) - 1
    · rw [if_neg (by simp [h'])]; exact ⟨0, rfl, fun _ => by omega, fun _ => rfl⟩
    · rw [if_pos (by simp; omega)]; exact ⟨6, rfl, fun h => (by cases h), fun k => by omega⟩
  · rw [if_pos (by simp; omega)]; exact ⟨6, rfl, fun h => (by cases h), fun k => by omega⟩
theorem wX {T : aq} (hT : dF T) (a b : Int) (h1 : a < (T.Nodes.length : Int)) : ∃ c, nr T a b = some c := by
  have key : ∀ (n : Nat) (a : Int), a < (T.Nodes.length : Int) → max a (-1) + 1 < n → ∃ c, ib n T a b = some c := by
    intro n
    induction n with
    | zero => intro a _ h; omega
    | succ n ih =>
      intro a h1 h2
      show ∃ c, lK (ib n) T a b = some c
      unfold lK
      by_cases e : a = b
      · rw [if_pos e]; exact ⟨_, rfl⟩
      · rw [if_neg e]
        by_cases h : 0 ≤ a
        · obtain ⟨_, g1, g2, _⟩ := hT.node a h h1
          obtain ⟨c, hc⟩ := ih (nth T.Nodes a).Parent (by omega) (by omega)
          rw [if_pos h, if_pos ⟨h, h1⟩, hc]; exact ⟨c, rfl⟩
        · rw [if_neg h]; exact ⟨_, rfl⟩
  obtain ⟨c, hc, _⟩ := mj (u := fun n => ib n T a b) (Q := fun _ => True) (fun _ _ _ => trivial) ⟨(max a (-1) + 1).toNat + 1, key _ a h1 (by omega)⟩
  exact ⟨c, hc⟩
theorem Jd {T : aq} (hT : dF T) (e a b : Int) : ∃ c, kK T e a b = some c := by
  have e5 := hT.e5
  unfold kK
  obtain ⟨c, h1, h2⟩ := CG hT a b
  rw [h1, Option.bind_some]
  by_cases hc : c = 0
  rotate_left
  · rw [if_pos hc]; exact ⟨_, rfl⟩
  obtain ⟨ra, rb⟩ := h2.1 hc
  rw [if_neg (by simpa using hc), bL (by omega) (by omega), Option.bind_some, ma, Option.bind_some]
  by_cases h : 0 ≤ e ∧ e ≤ (T.Edges.length : Int) - 1
  · rw [if_neg (by simp [h]), if_pos (by omega)]
    obtain ⟨c1, k1⟩ := wX hT a (nth T.Edges e).From ra.2
    obtain ⟨c2, k2⟩ := wX hT b (nth T.Edges e).To rb.2
    rw [k1, k2]
    cases c1
    · exact ⟨_, rfl⟩
    · exact ⟨c2, rfl⟩
  · rw [if_pos (by simp; omega)]; exact ⟨_, rfl⟩
theorem CC {T : aq} (hT : dF T) (i : Int) (h0 : 0 ≤ i) (h1 : i < (T.Nodes.length : Int)) : ∃ b, jL T i = some b ∧ (b.1.length : Int) ≤ 6 := by
  have n6 := hT.n6
  unfold jL
  obtain ⟨c, e1, e2⟩ := CG hT i i
  obtain ⟨l, k1, k2⟩ := CD hT i h0 h1
  have hl := k2.len hT h0 h1
  rw [e1, Option.bind_some, if_neg (by simp; exact e2.2 ⟨⟨h0, h1⟩, h0, h1⟩), k1, Option.bind_some]
  obtain ⟨pre, rfl, g1, g2⟩ := k2
  have small : ∀ j : Int, 0 ≤ j → j < ((pre ++ (nth T.Nodes i).Attrs).length : Int) → (nth (pre ++ (nth T.Nodes i).Attrs) j).Names.length ≤ 2 := fun j j0 j1 => by
    have ok : rz (nth (pre ++ (nth T.Nodes i).Attrs) j) := by
      rcases List.mem_append.1 (cu j0 j1) with h | h
      · obtain ⟨_, _, _, _, h⟩ := g2 _ h; exact h
      · obtain ⟨_, _, _, e | ⟨a, e, _, f⟩⟩ := hT.node i h0 h1
        · rw [e] at h; simp at h
        · have : nth (pre ++ (nth T.Nodes i).Attrs) j = a := by rw [e] at h ⊢; simpa using h
          rw [this]; exact f
    rcases ok with ⟨h, _⟩ | ⟨h, _⟩ <;> rw [h] <;> simp [oC]
  refine cl (F := pT (pre ++ (nth T.Nodes i).Attrs)) (fun x : List aW × Int => 0 ≤ x.2 ∧ x.2 ≤ ((pre ++ (nth T.Nodes i).Attrs).length : Int) ∧ (x.1.length : Int) = x.2) (fun x => (((pre ++ (nth T.Nodes i).Attrs).length : Int) - x.2).toNat) _ (fun x hp => ?_) ([], 0) ⟨by simp, by simp only; omega, by simp⟩
  obtain ⟨r, x⟩ := x
  obtain ⟨p1, p2, p3⟩ := hp
  simp only at p1 p2 p3
  unfold pT
  simp only
  by_cases hx : x < ((pre ++ (nth T.Nodes i).Attrs).length : Int)
  · have := small x p1 hx
    rw [if_pos hx, if_pos ⟨p1, hx⟩, if_pos (by omega), if_pos (by omega)]
    exact Or.inl ⟨_, rfl, ⟨by simp only; omega, by simp only; omega, by simp only [List.length_append, List.length_singleton]; omega⟩, by simp only; omega⟩
  · rw [if_neg hx]; exact Or.inr ⟨_, rfl, by simp only; omega⟩
end Go.Proofs.YtngimdmkomkeoaaGreat.K
