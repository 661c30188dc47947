/- A type graph without error: given types, subtypes, edges that fit. -/
import Derived.Test.YtngimdmkomkeoaaGreatLawW
set_option linter.unusedVariables false
set_option linter.unusedSimpArgs false
namespace Go.Proofs.YtngimdmkomkeoaaGreat.K
open Go.RowKit Go.Proofs
theorem contains_law (xs : List Int) (t : Int) : ∃ b, z3z xs t = some b ∧ (b = true ↔ t ∈ xs) ∧ ∃ j, z6f xs t = some j ∧ (t ∈ xs → 0 ≤ j ∧ j < (xs.length : Int) ∧ nth xs j = t) := by
  obtain ⟨j, hj, h1, h2⟩ := z3b (F := z8y xs t) (fun x : Int => 0 ≤ x ∧ x ≤ (xs.length : Int) ∧ ∀ i : Int, 0 ≤ i → i < x → ¬ t = nth xs i) (fun x => ((xs.length : Int) - x).toNat) (fun j => (0 ≤ j ↔ t ∈ xs) ∧ (t ∈ xs → 0 ≤ j ∧ j < (xs.length : Int) ∧ nth xs j = t)) (fun x hp => by
    obtain ⟨p1, p2, p3⟩ := hp
    unfold z8y
    by_cases hx : x < (xs.length : Int)
    · rw [if_pos hx, if_pos ⟨p1, hx⟩]
      by_cases e : t = nth xs x
      · rw [if_pos e]
        exact Or.inr ⟨x, rfl, ⟨fun _ => e ▸ z2u p1 hx, fun _ => p1⟩, fun _ => ⟨p1, hx, e.symm⟩⟩
      · rw [if_neg e]
        refine Or.inl ⟨x + 1, rfl, ⟨by omega, by omega, fun i a c => ?_⟩, by omega⟩
        by_cases e' : i = x
        · rw [e']; exact e
        · exact p3 i a (by omega)
    · rw [if_neg hx]
      have no : ¬ t ∈ xs := fun hy => by
        obtain ⟨i, a, b, e⟩ := z80 hy
        exact p3 i a (by omega) e.symm
      exact Or.inr ⟨-1, rfl, ⟨fun h => by omega, fun h => absurd h no⟩, fun h => absurd h no⟩) 0 ⟨by omega, by omega, fun i a b => by omega⟩
  exact ⟨decide (0 ≤ j), by unfold z3z z6f; rw [hj]; rfl, by simp [h1], j, by unfold z6f; exact hj, h2⟩
theorem swap_perm {xs : List Int} {i j : Int} (hi : 0 ≤ i) (hi' : i < (xs.length : Int)) (hj : 0 ≤ j) (hj' : j < (xs.length : Int)) : List.Perm ((xs.set i.toNat (nth xs j)).set j.toNat (nth xs i)) xs := by
  obtain ⟨a, rfl⟩ := Int.eq_ofNat_of_zero_le hi
  obtain ⟨b, rfl⟩ := Int.eq_ofNat_of_zero_le hj
  rw [z54 _ a (by omega), z54 _ b (by omega)]
  exact List.set_set_perm (by omega) (by omega)
structure TV (T : z06) : Prop extends TyOk T where
  v : ∃ s, z5c T = some (s, 0) ∧ z5e T = some (s, 0)
theorem tv_law {T : z06} (hf : FewT T) : (∃ s c, z5c T = some (s, c) ∧ z5e T = some (s, c) ∧ ¬ c = 0) ∨ TV T := by
  obtain ⟨⟨s, c⟩, h1, h2, h3⟩ := types_law hf
  by_cases h : c = 0
  · subst h; exact .inr ⟨h3 rfl, s, h1, h2⟩
  · exact .inl ⟨s, c, h1, h2, h⟩
def InT (T : z06) (a : Int) : Prop := 0 ≤ a ∧ a < (T.Nodes.length : Int)
instance (T : z06) (a : Int) : Decidable (InT T a) := by unfold InT; infer_instance
theorem givenV {T : z06} (hT : TV T) (l : List Int) : ∃ c, types_given T l = some c ∧ (c = 0 ↔ ∀ x ∈ l, InT T x) ∧ (c = 0 ∨ c = 6) := by
  obtain ⟨s, v1, _⟩ := hT.v
  unfold types_given
  rw [v1, Option.bind_some, if_neg (by simp), cont_int]
  obtain ⟨b, h1, h2⟩ := cont_law (p := fun x => z9l x T) (q := fun x => x < 0 ∨ (T.Nodes.length : Int) ≤ x) l (fun x _ => by
    unfold z9l
    by_cases h : x < 0
    · exact ⟨true, by simp [h], by simp [h]⟩
    · exact ⟨decide ((T.Nodes.length : Int) ≤ x), by simp [h], by simp [h]⟩)
  rw [h1, Option.bind_some]
  cases b
  · refine ⟨0, rfl, ⟨fun _ x hx => ?_, fun _ => rfl⟩, .inl rfl⟩
    by_cases h : x < 0 ∨ (T.Nodes.length : Int) ≤ x
    · exact absurd (h2.2 ⟨x, hx, h⟩) (by simp)
    · exact ⟨by omega, by omega⟩
  · obtain ⟨x, hx, h⟩ := h2.1 rfl
    exact ⟨6, rfl, ⟨fun h => (by cases h), fun k => by have := k x hx; unfold InT at this; omega⟩, .inr rfl⟩
theorem rgivenV {T : z06} (hT : TV T) (a b : Int) : ∃ c, ref04_given T a b = some c ∧ (c = 0 ↔ InT T a ∧ InT T b) ∧ (c = 0 ∨ c = 6) := by
  have n1 := hT.n1
  have n6 := hT.n12
  obtain ⟨s, _, v2⟩ := hT.v
  unfold ref04_given InT
  rw [v2, Option.bind_some, if_neg (by simp), z34 (by omega) (by omega), Option.bind_some, rin_eq, Option.bind_some]
  by_cases h : 0 ≤ a ∧ a ≤ (T.Nodes.length : Int) - 1
  · rw [if_neg (by simp [h]), Option.bind_some, rin_eq, Option.bind_some]
    by_cases h' : 0 ≤ b ∧ b ≤ (T.Nodes.length : Int) - 1
    · rw [if_neg (by simp [h'])]; exact ⟨0, rfl, ⟨fun _ => by omega, fun _ => rfl⟩, .inl rfl⟩
    · rw [if_pos (by simp; omega)]; exact ⟨6, rfl, ⟨fun h => (by cases h), fun k => by omega⟩, .inr rfl⟩
  · rw [if_pos (by simp; omega)]; exact ⟨6, rfl, ⟨fun h => (by cases h), fun k => by omega⟩, .inr rfl⟩
theorem parV {T : z06} (hT : TV T) {i : Int} (h0 : 0 ≤ i) (h1 : i < (T.Nodes.length : Int)) : -1 ≤ (nth T.Nodes i).Parent ∧ (nth T.Nodes i).Parent < i := hT.par i h0 (by omega)
inductive Sub (T : z06) (b : Int) : Int → Prop
  | here : Sub T b b
  | up {a : Int} (h : 0 ≤ a) (t : Sub T b (nth T.Nodes a).Parent) : Sub T b a
theorem sub_iff {T : z06} {a b : Int} : Sub T b a ↔ a = b ∨ (0 ≤ a ∧ Sub T b (nth T.Nodes a).Parent) := by
  constructor
  · intro h
    cases h with
    | here => exact .inl rfl
    | up h t => exact .inr ⟨h, t⟩
  · rintro (rfl | ⟨h, t⟩)
    · exact .here
    · exact .up h t
theorem reverse_law (xs : List Int) (hl : (xs.length : Int) ≤ 1000) : ∃ ys, z6w xs = some ys ∧ List.Perm ys xs := by
  unfold z6w
  rw [z34 (by omega) (by omega), Option.bind_some]
  refine z3b (F := z6z) (fun x : List Int × Int × Int => x.1.Perm xs ∧ 0 ≤ x.2.1 ∧ x.2.2 < (xs.length : Int)) (fun x => (x.2.2 - x.2.1).toNat) _ (fun x hp => ?_) (xs, 0, (xs.length : Int) - 1) ⟨List.Perm.refl _, by simp, by simp only; omega⟩
  obtain ⟨ys, i, j⟩ := x
  obtain ⟨p1, p2, p3⟩ := hp
  simp only at p1 p2 p3
  have hle := p1.length_eq
  unfold z6z
  simp only
  by_cases h : i < j
  · rw [if_pos h, if_pos (by omega), if_pos (by omega), if_pos (by simp; omega)]
    exact .inl ⟨_, rfl, ⟨(swap_perm p2 (by omega) (by omega) (by omega)).trans p1, by simp only; omega, by simp only; omega⟩, by simp only; omega⟩
  · rw [if_neg h]; exact .inr ⟨_, rfl, p1⟩
theorem isV {T : z06} (hT : TV T) (a b : Int) (hm : -1 ≤ a) (h1 : a < (T.Nodes.length : Int)) (hb : 0 ≤ b) : ∃ c, types_is T a b = some c ∧ ref04_Below1 T a b = some c ∧ (c = true ↔ Sub T b a) := by
  have n12 := hT.n12
  have e1 : ∃ c, types_is T a b = some c ∧ (c = true ↔ Sub T b a) := by
    unfold types_is types_line
    obtain ⟨l, hl, hq⟩ := z3b (F := types_line_l1 T) (fun x : Int × List Int => x.1 < (T.Nodes.length : Int) ∧ -1 ≤ x.1 ∧ (x.2.length : Int) + x.1 ≤ 20 ∧ (Sub T b a ↔ b ∈ x.2 ∨ Sub T b x.1)) (fun x => (x.1 + 1).toNat) (fun l => Sub T b a ↔ b ∈ l) (fun x hp => by
      obtain ⟨i, l⟩ := x
      obtain ⟨p1, p2, p3, p4⟩ := hp
      simp only at p1 p2 p3 p4
      unfold types_line_l1
      simp only
      by_cases h : 0 ≤ i
      · obtain ⟨g1, g2⟩ := parV hT h p1
        rw [if_pos h, if_pos (by omega), if_pos ⟨h, p1⟩]
        refine .inl ⟨_, rfl, ⟨by simp only; omega, by simp only; omega, by simp only [List.length_append, List.length_singleton]; omega, ?_⟩, by simp only; omega⟩
        rw [p4, sub_iff (a := i)]
        simp only [List.mem_append, List.mem_singleton]
        constructor
        · rintro (q | q | ⟨_, q⟩)
          · exact .inl (.inl q)
          · exact .inl (.inr q.symm)
          · exact .inr q
        · rintro ((q | q) | q)
          · exact .inl q
          · exact .inr (.inl q.symm)
          · exact .inr (.inr ⟨h, q⟩)
      · rw [if_neg h]
        obtain ⟨ys, hy, hp⟩ := reverse_law l (by omega)
        rw [hy]
        refine .inr ⟨_, rfl, ?_⟩
        rw [p4, hp.mem_iff, sub_iff (a := i)]
        constructor
        · rintro (q | q | ⟨q, _⟩)
          · exact q
          · omega
          · exact absurd q h
        · exact .inl) (a, []) ⟨h1, hm, by simp only [List.length_nil]; omega, by simp⟩
    obtain ⟨c, hc, hc2, _⟩ := contains_law l b
    rw [hl, Option.bind_some, hc]
    exact ⟨c, rfl, by rw [hc2, hq]⟩
  have key : ∀ (n : Nat) (a : Int), -1 ≤ a → a < (T.Nodes.length : Int) → (∀ c, z45 n T a b = some c → (c = true ↔ Sub T b a)) ∧ (a + 1 < n → ∃ c, z45 n T a b = some c) := by
    intro n
    induction n with
    | zero => intro a h0 _; exact ⟨fun c h => (by cases h), fun h => by omega⟩
    | succ n ih =>
      intro a h0 h1
      show (∀ c, z8b (z45 n) T a b = some c → (c = true ↔ Sub T b a)) ∧ (a + 1 < ((n + 1 : Nat) : Int) → ∃ c, z8b (z45 n) T a b = some c)
      unfold z8b
      by_cases e : a = b
      · rw [if_pos e]; exact ⟨fun c h => (by cases h; subst e; simp [Sub.here]), fun _ => ⟨_, rfl⟩⟩
      · rw [if_neg e]
        by_cases h : 0 ≤ a
        · obtain ⟨g1, g2⟩ := parV hT h h1
          obtain ⟨i1, i2⟩ := ih (nth T.Nodes a).Parent g1 (by omega)
          rw [if_pos h, if_pos ⟨h, h1⟩]
          constructor
          · intro c hc
            cases hq : z45 n T (nth T.Nodes a).Parent b with
            | none => rw [hq] at hc; cases hc
            | some d =>
              rw [hq] at hc
              cases hc
              rw [i1 _ hq, sub_iff (a := a)]
              exact ⟨fun q => .inr ⟨h, q⟩, fun q => q.elim (fun q => absurd q e) (·.2)⟩
          · intro hn
            obtain ⟨c, hc⟩ := i2 (by omega)
            rw [hc]; exact ⟨c, rfl⟩
        · rw [if_neg h]
          refine ⟨fun c hc => ?_, fun _ => ⟨_, rfl⟩⟩
          cases hc
          rw [sub_iff (a := a)]
          exact ⟨fun q => (by cases q), fun q => q.elim (fun q => absurd q e) (fun q => absurd q.1 h)⟩
  obtain ⟨c, hc, hc2⟩ := Ev_any (u := fun n => z45 n T a b) (Q := fun c => c = true ↔ Sub T b a) (fun n c h => (key n a hm h1).1 c h) ⟨(a + 1).toNat + 1, (key _ a hm h1).2 (by omega)⟩
  obtain ⟨d, hd, hd2⟩ := e1
  have : c = d := by
    cases c <;> cases d <;> simp at hc2 hd2 ⊢
    · exact hc2 hd2
    · exact hd2 hc2
  subst this
  exact ⟨c, hd, hc, hc2⟩
theorem fitsV {T : z06} (hT : TV T) (e a b : Int) : ∃ c, z97 T e a b = some c ∧ ref04_Fits T e a b = some c := by
  have e20 := hT.e20
  obtain ⟨c, h1, h2, h3⟩ := givenV hT [a, b]
  obtain ⟨d, k1, k2, k3⟩ := rgivenV hT a b
  have hcd : c = 0 ↔ d = 0 := by rw [h2, k2]; simp
  unfold z97 ref04_Fits
  rw [h1, k1, Option.bind_some, Option.bind_some]
  by_cases hc : c = 0
  rotate_left
  · rw [if_pos hc, if_pos (fun q => hc (hcd.2 q))]; exact ⟨_, rfl, rfl⟩
  have hd := hcd.1 hc
  have hr := k2.1 hd
  subst hc
  subst hd
  simp only [not_true_eq_false, if_false]
  rw [z34 (by omega) (by omega), Option.bind_some, rin_eq, Option.bind_some]
  by_cases q1 : e < 0
  · rw [if_pos q1, decide_eq_false (by omega)]; exact ⟨_, rfl, rfl⟩
  by_cases q2 : (T.Edges.length : Int) ≤ e
  · rw [if_neg q1, if_pos q2, decide_eq_false (by omega)]; exact ⟨_, rfl, rfl⟩
  have he : 0 ≤ e ∧ e < (T.Edges.length : Int) := ⟨by omega, by omega⟩
  rw [if_neg q1, if_neg q2, decide_eq_true (by omega), if_pos he]
  simp only [Bool.not_true, Bool.false_eq_true, if_false]
  rw [if_pos he]
  obtain ⟨x1, x2, x3, x4⟩ := hT.ed e he.1 he.2
  obtain ⟨c1, m1, n1, _⟩ := isV hT a (nth T.Edges e).From (by have := hr.1.1; omega) hr.1.2 x1
  obtain ⟨c2, m2, n2, _⟩ := isV hT b (nth T.Edges e).To (by have := hr.2.1; omega) hr.2.2 x3
  rw [m1, m2, n1, n2]
  cases c1
  · exact ⟨_, rfl, rfl⟩
  · exact ⟨c2, rfl, rfl⟩
def LenT (T : z06) : Prop := ∀ i : Int, 0 ≤ i → i < (T.Nodes.length : Int) → ((nth T.Nodes i).Attrs.length : Int) ≤ 1000000000000000
theorem few4 {T : z06} (hL : LenT T) : ∃ b, ref04_Few T = some b ∧ (b = true → FewT T) := by
  unfold ref04_Few
  by_cases q1 : 20 < (T.Nodes.length : Int)
  · rw [if_pos q1]; exact ⟨_, rfl, by simp⟩
  rw [if_neg q1]
  by_cases q2 : 30 < (T.Edges.length : Int)
  · rw [if_pos q2]; exact ⟨_, rfl, by simp⟩
  rw [if_neg q2]
  refine z3b (F := ref04_Few_l3 T) (fun x : Int × Int => 0 ≤ x.2 ∧ x.2 ≤ (T.Nodes.length : Int) ∧ 0 ≤ x.1 ∧ x.1 ≤ 30 ∧ ∀ i : Int, 0 ≤ i → i < x.2 → ((nth T.Nodes i).Name.size : Int) ≤ 40 ∧ ((nth T.Nodes i).Attrs.length : Int) ≤ 30 ∧ ∀ a ∈ (nth T.Nodes i).Attrs, AttrFew a) (fun x => ((T.Nodes.length : Int) - x.2).toNat) _ (fun x hp => ?_) (0, 0) ⟨by simp, by simp, by simp, by simp, fun i a b => by simp at b; omega⟩
  obtain ⟨n, i⟩ := x
  obtain ⟨p1, p2, p3, p4, p5⟩ := hp
  simp only at p1 p2 p3 p4 p5
  unfold ref04_Few_l3
  simp only
  by_cases hi : i < (T.Nodes.length : Int)
  · have hl := hL i p1 hi
    rw [if_pos hi, if_pos ⟨p1, hi⟩, z34 (by omega) (by omega), Option.bind_some]
    by_cases q3 : 30 < n + ((nth T.Nodes i).Attrs.length : Int)
    · rw [if_pos q3]; exact .inr ⟨_, rfl, by simp⟩
    rw [if_neg q3]
    by_cases q4 : 40 < ((nth T.Nodes i).Name.size : Int)
    · rw [if_pos q4]; exact .inr ⟨_, rfl, by simp⟩
    rw [if_neg q4]
    have hA := z3b (F := ref04_Few_l49 (n + ((nth T.Nodes i).Attrs.length : Int)) T (n, i)) (fun k : Int => 0 ≤ k ∧ k ≤ ((nth T.Nodes i).Attrs.length : Int) ∧ ∀ j : Int, 0 ≤ j → j < k → AttrFew (nth (nth T.Nodes i).Attrs j)) (fun k => (((nth T.Nodes i).Attrs.length : Int) - k).toNat) (fun b => b = .inr false ∨ (b = .inl (n + ((nth T.Nodes i).Attrs.length : Int), i + 1) ∧ ∀ a ∈ (nth T.Nodes i).Attrs, AttrFew a)) (fun k hk => by
      obtain ⟨k0, k1, k2⟩ := hk
      unfold ref04_Few_l49
      simp only
      by_cases hkl : k < ((nth T.Nodes i).Attrs.length : Int)
      · rw [if_pos hkl, if_pos ⟨k0, hkl⟩]
        by_cases q5 : 40 < ((nth (nth T.Nodes i).Attrs k).Name.size : Int)
        · rw [if_pos q5]; exact .inr ⟨_, rfl, .inl rfl⟩
        rw [if_neg q5]
        by_cases q6 : 25 < ((nth (nth T.Nodes i).Attrs k).Names.length : Int)
        · rw [if_pos q6]; exact .inr ⟨_, rfl, .inl rfl⟩
        rw [if_neg q6]
        have hN := z3b (F := ref04_Few_l69 T (n, i) k) (fun y : Int => 0 ≤ y ∧ y ≤ ((nth (nth T.Nodes i).Attrs k).Names.length : Int) ∧ ∀ j : Int, 0 ≤ j → j < y → ((nth (nth (nth T.Nodes i).Attrs k).Names j).size : Int) ≤ 40) (fun y => (((nth (nth T.Nodes i).Attrs k).Names.length : Int) - y).toNat) (fun b => b = .inr (.inr false) ∨ (b = .inl (k + 1) ∧ ∀ s ∈ (nth (nth T.Nodes i).Attrs k).Names, (s.size : Int) ≤ 40)) (fun y hy => by
          obtain ⟨y0, y1, y2⟩ := hy
          unfold ref04_Few_l69
          simp only
          by_cases hyl : y < ((nth (nth T.Nodes i).Attrs k).Names.length : Int)
          · rw [if_pos hyl, if_pos ⟨y0, hyl⟩]
            by_cases q7 : 40 < ((nth (nth (nth T.Nodes i).Attrs k).Names y).size : Int)
            · rw [if_pos q7]; exact .inr ⟨_, rfl, .inl rfl⟩
            rw [if_neg q7]
            refine .inl ⟨_, rfl, ⟨by omega, by omega, fun j a b => ?_⟩, by omega⟩
            by_cases e : j = y
            · subst e; omega
            · exact y2 j a (by omega)
          · rw [if_neg hyl]
            refine .inr ⟨_, rfl, .inr ⟨rfl, fun s hs => ?_⟩⟩
            obtain ⟨j, j0, j1, e⟩ := z80 hs
            subst e; exact y2 j j0 (by omega)) 0 ⟨by omega, by omega, fun j a b => by omega⟩
        obtain ⟨b, hb, hb2⟩ := hN
        rcases hb2 with e | ⟨e, hs⟩
        · subst e
          rw [hb]; exact .inr ⟨_, rfl, .inl rfl⟩
        · subst e
          rw [hb]
          refine .inl ⟨_, rfl, ⟨by omega, by omega, fun j a b => ?_⟩, by omega⟩
          by_cases e : j = k
          · subst e; exact ⟨by omega, by omega, hs⟩
          · exact k2 j a (by omega)
      · rw [if_neg hkl]
        refine .inr ⟨_, rfl, .inr ⟨rfl, fun a ha => ?_⟩⟩
        obtain ⟨j, j0, j1, e⟩ := z80 ha
        subst e; exact k2 j j0 (by omega)) 0 ⟨by omega, by omega, fun j a b => by omega⟩
    obtain ⟨b, hb, hb2⟩ := hA
    rcases hb2 with e | ⟨e, hs⟩
    · subst e
      rw [hb]; exact .inr ⟨_, rfl, by simp⟩
    · subst e
      rw [hb]
      refine .inl ⟨_, rfl, ⟨by simp only; omega, by simp only; omega, by simp only; omega, by simp only; omega, fun j a b => ?_⟩, by simp only; omega⟩
      by_cases e : j = i
      · subst e; exact ⟨by omega, by omega, hs⟩
      · exact p5 j a (by simp only at b; omega)
  · rw [if_neg hi]
    have hE := z3b (F := ref04_Few_l83 T) (fun y : Int => 0 ≤ y ∧ y ≤ (T.Edges.length : Int) ∧ ∀ j : Int, 0 ≤ j → j < y → ((nth T.Edges j).Name.size : Int) ≤ 40) (fun y => ((T.Edges.length : Int) - y).toNat) (fun b => b = true → ∀ j : Int, 0 ≤ j → j < (T.Edges.length : Int) → ((nth T.Edges j).Name.size : Int) ≤ 40) (fun y hy => by
      obtain ⟨y0, y1, y2⟩ := hy
      unfold ref04_Few_l83
      by_cases hyl : y < (T.Edges.length : Int)
      · rw [if_pos hyl, if_pos ⟨y0, hyl⟩]
        by_cases q7 : 40 < ((nth T.Edges y).Name.size : Int)
        · rw [if_pos q7]; exact .inr ⟨_, rfl, by simp⟩
        rw [if_neg q7]
        refine .inl ⟨_, rfl, ⟨by omega, by omega, fun j a b => ?_⟩, by omega⟩
        by_cases e : j = y
        · subst e; omega
        · exact y2 j a (by omega)
      · rw [if_neg hyl]
        exact .inr ⟨_, rfl, fun _ j a b => y2 j a (by omega)⟩) 0 ⟨by omega, by omega, fun j a b => by omega⟩
    obtain ⟨b, hb, hb2⟩ := hE
    rw [hb]
    exact .inr ⟨b, rfl, fun h => ⟨fun j a c => p5 j a (by omega), hb2 h⟩⟩
end Go.Proofs.YtngimdmkomkeoaaGreat.K
