import Derived.Test.YtngimdmkomkeoaaGreatLawW
set_option linter.unusedVariables false
set_option linter.unusedSimpArgs false
namespace Go.Proofs.YtngimdmkomkeoaaGreat.K
open Go.RowKit Go.Proofs
theorem CT (xs : List Int) (t : Int) : ∃ b, oc xs t = some b ∧ (b = true ↔ t ∈ xs) ∧ ∃ j, qx xs t = some j ∧ (t ∈ xs → 0 ≤ j ∧ j < (xs.length : Int) ∧ nth xs j = t) := by
  obtain ⟨j, hj, h1, h2⟩ := cl (F := yX xs t) (fun x : Int => 0 ≤ x ∧ x ≤ (xs.length : Int) ∧ ∀ i : Int, 0 ≤ i → i < x → ¬ t = nth xs i) (fun x => ((xs.length : Int) - x).toNat) (fun j => (0 ≤ j ↔ t ∈ xs) ∧ (t ∈ xs → 0 ≤ j ∧ j < (xs.length : Int) ∧ nth xs j = t)) (fun x hp => by
    obtain ⟨p1, p2, p3⟩ := hp
    unfold yX
    by_cases hx : x < (xs.length : Int)
    · rw [if_pos hx, if_pos ⟨p1, hx⟩]
      by_cases e : t = nth xs x
      · rw [if_pos e]
        exact Or.inr ⟨x, rfl, ⟨fun _ => e ▸ cu p1 hx, fun _ => p1⟩, fun _ => ⟨p1, hx, e.symm⟩⟩
      · rw [if_neg e]
        refine Or.inl ⟨x + 1, rfl, ⟨by omega, by omega, fun i a c => ?_⟩, by omega⟩
        by_cases e' : i = x
        · rw [e']; exact e
        · exact p3 i a (by omega)
    · rw [if_neg hx]
      have no : ¬ t ∈ xs := fun hy => by
        obtain ⟨i, a, b, e⟩ := eo hy
        exact p3 i a (by omega) e.symm
      exact Or.inr ⟨-1, rfl, ⟨fun h => by omega, fun h => absurd h no⟩, fun h => absurd h no⟩) 0 ⟨by omega, by omega, fun i a b => by omega⟩
  exact ⟨decide (0 ≤ j), by unfold oc qx; rw [hj]; rfl, by simp [h1], j, by unfold qx; exact hj, h2⟩
theorem Cl {xs : List Int} {i j : Int} (hi : 0 ≤ i) (hi' : i < (xs.length : Int)) (hj : 0 ≤ j) (hj' : j < (xs.length : Int)) : List.Perm ((xs.set i.toNat (nth xs j)).set j.toNat (nth xs i)) xs := by
  obtain ⟨a, rfl⟩ := Int.eq_ofNat_of_zero_le hi
  obtain ⟨b, rfl⟩ := Int.eq_ofNat_of_zero_le hj
  rw [dw _ a (by omega), dw _ b (by omega)]
  exact List.set_set_perm (by omega) (by omega)
structure TV (T : aq) : Prop extends qZ T where
  v : ∃ s, gO T = some (s, 0) ∧ iD T = some (s, 0)
theorem rR {T : aq} (hf : eM T) : (∃ s c, gO T = some (s, c) ∧ iD T = some (s, c) ∧ ¬ c = 0) ∨ TV T := by
  obtain ⟨⟨s, c⟩, h1, h2, h3⟩ := Jv hf
  by_cases h : c = 0
  · subst h; exact .inr ⟨h3 rfl, s, h1, h2⟩
  · exact .inl ⟨s, c, h1, h2, h⟩
def gy (T : aq) (a : Int) : Prop := 0 ≤ a ∧ a < (T.Nodes.length : Int)
instance (T : aq) (a : Int) : Decidable (gy T a) := by unfold gy; infer_instance
theorem vS {T : aq} (hT : TV T) (l : List Int) : ∃ c, np T l = some c ∧ (c = 0 ↔ ∀ x ∈ l, gy T x) ∧ (c = 0 ∨ c = 6) := by
  obtain ⟨s, v1, _⟩ := hT.v
  unfold np
  rw [v1, Option.bind_some, if_neg (by simp), sd]
  obtain ⟨b, h1, h2⟩ := jF (p := fun x => pO x T) (q := fun x => x < 0 ∨ (T.Nodes.length : Int) ≤ x) l (fun x _ => by
    unfold pO
    by_cases h : x < 0
    · exact ⟨true, by simp [h], by simp [h]⟩
    · exact ⟨decide ((T.Nodes.length : Int) ≤ x), by simp [h], by simp [h]⟩)
  rw [h1, Option.bind_some]
  cases b
  · refine ⟨0, rfl, ⟨fun _ x hx => ?_, fun _ => rfl⟩, .inl rfl⟩
    by_cases h : x < 0 ∨ (T.Nodes.length : Int) ≤ x
    · exact absurd (h2.2 ⟨x, hx, h⟩) (by simp)
    · exact ⟨by omega, by omega⟩
  · obtain ⟨x, hx, h⟩ := h2.1 rfl
    exact ⟨6, rfl, ⟨fun h => (by cases h), fun k => by have := k x hx; unfold gy at this; omega⟩, .inr rfl⟩
theorem Br {T : aq} (hT : TV T) (a b : Int) : ∃ c, lD T a b = some c ∧ (c = 0 ↔ gy T a ∧ gy T b) ∧ (c = 0 ∨ c = 6) := by
  have n1 := hT.n1
  have n6 := hT.n12
  obtain ⟨s, _, v2⟩ := hT.v
  unfold lD gy
  rw [v2, Option.bind_some, if_neg (by simp), bL (by omega) (by omega), Option.bind_some, gI, Option.bind_some]
  by_cases h : 0 ≤ a ∧ a ≤ (T.Nodes.length : Int) - 1
  · rw [if_neg (by simp [h]), Option.bind_some, gI, Option.bind_some]
    by_cases h' : 0 ≤ b ∧ b ≤ (T.Nodes.length : Int) - 1
    · rw [if_neg (by simp [h'])]; exact ⟨0, rfl, ⟨fun _ => by omega, fun _ => rfl⟩, .inl rfl⟩
    · rw [if_pos (by simp; omega)]; exact ⟨6, rfl, ⟨fun h => (by cases h), fun k => by omega⟩, .inr rfl⟩
  · rw [if_pos (by simp; omega)]; exact ⟨6, rfl, ⟨fun h => (by cases h), fun k => by omega⟩, .inr rfl⟩
theorem r0 {T : aq} (hT : TV T) {i : Int} (h0 : 0 ≤ i) (h1 : i < (T.Nodes.length : Int)) : -1 ≤ (nth T.Nodes i).Parent ∧ (nth T.Nodes i).Parent < i := hT.par i h0 (by omega)
inductive fo (T : aq) (b : Int) : Int → Prop
  | here : fo T b b
  | up {a : Int} (h : 0 ≤ a) (t : fo T b (nth T.Nodes a).Parent) : fo T b a
theorem s7 {T : aq} {a b : Int} : fo T b a ↔ a = b ∨ (0 ≤ a ∧ fo T b (nth T.Nodes a).Parent) := by
  constructor
  · intro h
    cases h with
    | here => exact .inl rfl
    | up h t => exact .inr ⟨h, t⟩
  · rintro (rfl | ⟨h, t⟩)
    · exact .here
    · exact .up h t
theorem KA (xs : List Int) (hl : (xs.length : Int) ≤ 1000) : ∃ ys, uP xs = some ys ∧ List.Perm ys xs := by
  unfold uP
  rw [bL (by omega) (by omega), Option.bind_some]
  refine cl (F := z8) (fun x : List Int × Int × Int => x.1.Perm xs ∧ 0 ≤ x.2.1 ∧ x.2.2 < (xs.length : Int)) (fun x => (x.2.2 - x.2.1).toNat) _ (fun x hp => ?_) (xs, 0, (xs.length : Int) - 1) ⟨List.Perm.refl _, by simp, by simp only; omega⟩
  obtain ⟨ys, i, j⟩ := x
  obtain ⟨p1, p2, p3⟩ := hp
  simp only at p1 p2 p3
  have hle := p1.length_eq
  unfold z8
  simp only
  by_cases h : i < j
  · rw [if_pos h, if_pos (by omega), if_pos (by omega), if_pos (by simp; omega)]
    exact .inl ⟨_, rfl, ⟨(Cl p2 (by omega) (by omega) (by omega)).trans p1, by simp only; omega, by simp only; omega⟩, by simp only; omega⟩
  · rw [if_neg h]; exact .inr ⟨_, rfl, p1⟩
theorem isV {T : aq} (hT : TV T) (a b : Int) (hm : -1 ≤ a) (h1 : a < (T.Nodes.length : Int)) (hb : 0 ≤ b) : ∃ c, lB T a b = some c ∧ nr T a b = some c ∧ (c = true ↔ fo T b a) := by
  have n12 := hT.n12
  have e1 : ∃ c, lB T a b = some c ∧ (c = true ↔ fo T b a) := by
    unfold lB xg
    obtain ⟨l, hl, hq⟩ := cl (F := xS T) (fun x : Int × List Int => x.1 < (T.Nodes.length : Int) ∧ -1 ≤ x.1 ∧ (x.2.length : Int) + x.1 ≤ 20 ∧ (fo T b a ↔ b ∈ x.2 ∨ fo T b x.1)) (fun x => (x.1 + 1).toNat) (fun l => fo T b a ↔ b ∈ l) (fun x hp => by
      obtain ⟨i, l⟩ := x
      obtain ⟨p1, p2, p3, p4⟩ := hp
      simp only at p1 p2 p3 p4
      unfold xS
      simp only
      by_cases h : 0 ≤ i
      · obtain ⟨g1, g2⟩ := r0 hT h p1
        rw [if_pos h, if_pos (by omega), if_pos ⟨h, p1⟩]
        refine .inl ⟨_, rfl, ⟨by simp only; omega, by simp only; omega, by simp only [List.length_append, List.length_singleton]; omega, ?_⟩, by simp only; omega⟩
        rw [p4, s7 (a := i)]
        simp only [List.mem_append, List.mem_singleton]
        constructor
        · rintro (q | q | ⟨_, q⟩)
          · exact .inl (.inl q)
          · exact .inl (.inr q.symm)
          · exact .inr q
        · rintro ((q | q) | q)
          · exact .inl q
          · exact .inr (.inl q.symm)
          · exact .inr (.inr ⟨h, q⟩)
      · rw [if_neg h]
        obtain ⟨ys, hy, hp⟩ := KA l (by omega)
        rw [hy]
        refine .inr ⟨_, rfl, ?_⟩
        rw [p4, hp.mem_iff, s7 (a := i)]
        constructor
        · rintro (q | q | ⟨q, _⟩)
          · exact q
          · omega
          · exact absurd q h
        · exact .inl) (a, []) ⟨h1, hm, by simp only [List.length_nil]; omega, by simp⟩
    obtain ⟨c, hc, hc2, _⟩ := CT l b
    rw [hl, Option.bind_some, hc]
    exact ⟨c, rfl, by rw [hc2, hq]⟩
  have key : ∀ (n : Nat) (a : Int), -1 ≤ a → a < (T.Nodes.length : Int) → (∀ c, ib n T a b = some c → (c = true ↔ fo T b a)) ∧ (a + 1 < n → ∃ c, ib n T a b = some c) := by
    intro n
    induction n with
    | zero => intro a h0 _; exact ⟨fun c h => (by cases h), fun h => by omega⟩
    | succ n ih =>
      intro a h0 h1
      show (∀ c, lK (ib n) T a b = some c → (c = true ↔ fo T b a)) ∧ (a + 1 < ((n + 1 : Nat) : Int) → ∃ c, lK (ib n) T a b = some c)
      unfold lK
      by_cases e : a = b
      · rw [if_pos e]; exact ⟨fun c h => (by cases h; subst e; simp [fo.here]), fun _ => ⟨_, rfl⟩⟩
      · rw [if_neg e]
        by_cases h : 0 ≤ a
        · obtain ⟨g1, g2⟩ := r0 hT h h1
          obtain ⟨i1, i2⟩ := ih (nth T.Nodes a).Parent g1 (by omega)
          rw [if_pos h, if_pos ⟨h, h1⟩]
          constructor
          · intro c hc
            cases hq : ib n T (nth T.Nodes a).Parent b with
            | none => rw [hq] at hc; cases hc
            | some d =>
              rw [hq] at hc
              cases hc
              rw [i1 _ hq, s7 (a := a)]
              exact ⟨fun q => .inr ⟨h, q⟩, fun q => q.elim (fun q => absurd q e) (·.2)⟩
          · intro hn
            obtain ⟨c, hc⟩ := i2 (by omega)
            rw [hc]; exact ⟨c, rfl⟩
        · rw [if_neg h]
          refine ⟨fun c hc => ?_, fun _ => ⟨_, rfl⟩⟩
          cases hc
          rw [s7 (a := a)]
          exact ⟨fun q => (by cases q), fun q => q.elim (fun q => absurd q e) (fun q => absurd q.1 h)⟩
  obtain ⟨c, hc, hc2⟩ := mj (u := fun n => ib n T a b) (Q := fun c => c = true ↔ fo T b a) (fun n c h => (key n a hm h1).1 c h) ⟨(a + 1).toNat + 1, (key _ a hm h1).2 (by omega)⟩
  obtain ⟨d, hd, hd2⟩ := e1
  have : c = d := by
    cases c <;> cases d <;> simp at hc2 hd2 ⊢
    · exact hc2 hd2
    · exact hd2 hc2
  subst this
  exact ⟨c, hd, hc, hc2⟩
theorem fitsV {T : aq} (hT : TV T) (e a b : Int) : ∃ c, kN T e a b = some c ∧ kK T e a b = some c := by
  have e20 := hT.e20
  obtain ⟨c, h1, h2, h3⟩ := vS hT [a, b]
  obtain ⟨d, k1, k2, k3⟩ := Br hT a b
  have hcd : c = 0 ↔ d = 0 := by rw [h2, k2]; simp
  unfold kN kK
  rw [h1, k1, Option.bind_some, Option.bind_some]
  by_cases hc : c = 0
  rotate_left
  · rw [if_pos hc, if_pos (fun q => hc (hcd.2 q))]; exact ⟨_, rfl, rfl⟩
  have hd := hcd.1 hc
  have hr := k2.1 hd
  subst hc
  subst hd
  simp only [not_true_eq_false, if_false]
  rw [bL (by omega) (by omega), Option.bind_some, gI, Option.bind_some]
  by_cases q1 : e < 0
  · rw [if_pos q1, decide_eq_false (by omega)]; exact ⟨_, rfl, rfl⟩
  by_cases q2 : (T.Edges.length : Int) ≤ e
  · rw [if_neg q1, if_pos q2, decide_eq_false (by omega)]; exact ⟨_, rfl, rfl⟩
  have he : 0 ≤ e ∧ e < (T.Edges.length : Int) := ⟨by omega, by omega⟩
  rw [if_neg q1, if_neg q2, decide_eq_true (by omega), if_pos he]
  simp only [Bool.not_true, Bool.false_eq_true, if_false]
  rw [if_pos he]
  obtain ⟨x1, x2, x3, x4⟩ := hT.ed e he.1 he.2
  obtain ⟨c1, m1, n1, _⟩ := isV hT a (nth T.Edges e).From (by have := hr.1.1; omega) hr.1.2 x1
  obtain ⟨c2, m2, n2, _⟩ := isV hT b (nth T.Edges e).To (by have := hr.2.1; omega) hr.2.2 x3
  rw [m1, m2, n1, n2]
  cases c1
  · exact ⟨_, rfl, rfl⟩
  · exact ⟨c2, rfl, rfl⟩
def LenT (T : aq) : Prop := ∀ i : Int, 0 ≤ i → i < (T.Nodes.length : Int) → ((nth T.Nodes i).Attrs.length : Int) ≤ 1000000000000000
end Go.Proofs.YtngimdmkomkeoaaGreat.K
