/- Patterns: the program and the document's answer say the same of any, over any small type graph. -/
import Derived.Test.YtngimdmkomkeoaaGreatLawY
set_option linter.unusedVariables false
set_option linter.unusedSimpArgs false
namespace Go.Proofs.YtngimdmkomkeoaaGreat.K
open Go.RowKit Go.Proofs
theorem Iter_rel {σ τ β : Type} {F : σ → Option (σ ⊕ β)} {G : τ → Option (τ ⊕ β)} (R : σ → τ → Prop) (m : σ → Nat) (Q : β → Prop)
    (h : ∀ x y, R x y → (∃ x' y', F x = some (.inl x') ∧ G y = some (.inl y') ∧ R x' y' ∧ m x' < m x) ∨ (∃ b, F x = some (.inr b) ∧ G y = some (.inr b) ∧ Q b)) : ∀ x y, R x y → ∃ b, z2l F x = some b ∧ z2l G y = some b ∧ Q b := by
  have key : ∀ n x y, m x = n → R x y → ∃ b, z2l F x = some b ∧ z2l G y = some b ∧ Q b := by
    intro n
    induction n using Nat.strongRecOn with
    | _ n ih =>
      intro x y hn hp
      rcases h x y hp with ⟨x', y', h1, h2, h3, h4⟩ | ⟨b, h1, h2, h3⟩
      · rw [Iter_go h1, Iter_go h2]; exact ih (m x') (by omega) x' y' rfl h3
      · exact ⟨b, z8g h1, z8g h2, h3⟩
  exact fun x y => key _ x y rfl
theorem set_self {α : Type} [Inhabited α] (xs : List α) (i : Int) (h0 : 0 ≤ i) (h1 : i < (xs.length : Int)) : xs.set i.toNat (nth xs i) = xs := by
  obtain ⟨k, rfl⟩ := Int.eq_ofNat_of_zero_le h0
  have hk : k < xs.length := by omega
  rw [z54 xs k hk]
  simp
theorem take_snoc {α : Type} [Inhabited α] (xs : List α) (i : Int) (h0 : 0 ≤ i) (h1 : i < (xs.length : Int)) : xs.take i.toNat ++ [nth xs i] = xs.take (i + 1).toNat := by
  obtain ⟨k, rfl⟩ := Int.eq_ofNat_of_zero_le h0
  have hk : k < xs.length := by omega
  rw [z54 xs k hk]
  have e : ((k : Int) + 1).toNat = k + 1 := by omega
  rw [e]
  simp
theorem attrsV {T : z06} (hT : TV T) {i : Int} (h : InT T i) : ∃ l, AtO T i l ∧ (l.length : Int) ≤ 8 ∧ types_Attrs T i = some (l, 0) ∧ ref04_Attrs T i = some (l, 0) := by
  have hp : Par T i := hT.par.down (by have := h.2; omega)
  obtain ⟨l, a1, a2, a3⟩ := attrs_both hT.few hT.n12 h.1 h.2 hp
  obtain ⟨l', b1, b2⟩ := hT.at8 i h.1 h.2
  have := a3.det b1
  subst this
  obtain ⟨_, f2, _⟩ := a3.few hT.few h.1 h.2 hp
  refine ⟨l, a3, b2, ?_, ?_⟩
  · unfold types_Attrs
    obtain ⟨c, h1, h2, _⟩ := givenV hT [i]
    have hc := h2.2 (by simpa using h)
    subst hc
    rw [h1]
    simp only [Option.bind_some, not_true_eq_false, if_false, a1]
    obtain ⟨b, e1, e2⟩ := z3b (F := types_Attrs_l6 l) (fun x : List z0r × Int => x.1 = l ∧ 0 ≤ x.2) (fun x => ((l.length : Int) - x.2).toNat) (fun b => b = (l, 0)) (fun x hx => by
      obtain ⟨xs, k⟩ := x
      obtain ⟨hx1, k0⟩ := hx
      simp only at k0 hx1
      subst hx1
      unfold types_Attrs_l6
      simp only
      by_cases hk : k < (xs.length : Int)
      · have hF := f2 _ (z2u k0 hk)
        rw [if_pos hk, if_pos ⟨k0, hk⟩]
        unfold z66
        rw [if_pos (by have := hF.2.1; omega), Option.bind_some]
        refine .inl ⟨(xs, k + 1), ?_, ⟨rfl, by simp only; omega⟩, by simp only; omega⟩
        have : xs.set k.toNat (z0r.mk (nth xs k).Name (nth xs k).Low (nth xs k).High (nth xs k).Names) = xs := set_self xs k k0 hk
        rw [this]
      · rw [if_neg hk]; exact .inr ⟨_, rfl, rfl⟩) (l, 0) ⟨rfl, by simp⟩
    rw [e1, e2]
  · unfold ref04_Attrs
    obtain ⟨c, h1, h2, _⟩ := rgivenV hT i i
    have hc := h2.2 ⟨h, h⟩
    subst hc
    rw [h1]
    simp only [Option.bind_some, not_true_eq_false, if_false, a2]
    obtain ⟨b, e1, e2⟩ := z3b (F := ref04_Attrs_l6 l) (fun x : List z0r × Int => 0 ≤ x.2 ∧ x.2 ≤ (l.length : Int) ∧ x.1 = l.take x.2.toNat) (fun x => ((l.length : Int) - x.2).toNat) (fun b => b = (l, 0)) (fun x hx => by
      obtain ⟨xs, k⟩ := x
      obtain ⟨k0, k1, k2⟩ := hx
      simp only at k0 k1 k2
      unfold ref04_Attrs_l6
      simp only
      by_cases hk : k < (l.length : Int)
      · have hF := f2 _ (z2u k0 hk)
        rw [if_pos hk, if_pos ⟨k0, hk⟩, if_pos (by have := hF.2.1; omega), if_pos (by rw [k2]; simp only [List.length_take]; omega)]
        refine .inl ⟨_, rfl, ⟨by simp only; omega, by simp only; omega, ?_⟩, by simp only; omega⟩
        simp only
        rw [k2]
        exact take_snoc l k k0 hk
      · rw [if_neg hk]
        refine .inr ⟨_, rfl, ?_⟩
        rw [k2, List.take_of_length_le (by omega)]) ([], 0) ⟨by simp, by simp, by simp⟩
    rw [e1, e2]
def Typd (T : z06) (g : z0p) : Prop := (∀ i : Int, 0 ≤ i → i < (g.Nodes.length : Int) → InT T (nth g.Nodes i)) ∧ ∀ i : Int, 0 ≤ i → i < (g.Edges.length : Int) → 0 ≤ (nth g.Edges i).Type_ ∧ (nth g.Edges i).Type_ < (T.Edges.length : Int)
theorem typd_law (T : z06) {g : z0p} (hg : GraphOk g) : ∃ a b, z1p g.Nodes (fun x => z5v x T) = some a ∧ z1u g.Edges (fun x => z5u x T) = some b ∧ ref17_Typed T g = some (!a && !b) ∧ ((!a && !b) = true → Typd T g) := by
  obtain ⟨a, a1, a2⟩ := cont_law (p := fun x => z5v x T) (q := fun x => (T.Nodes.length : Int) ≤ x) g.Nodes (fun x _ => ⟨_, rfl, by simp⟩)
  obtain ⟨b, b1, b2⟩ := cont_law (p := fun x => z5u x T) (q := fun x => (T.Edges.length : Int) ≤ x.Type_) g.Edges (fun x _ => ⟨_, rfl, by simp⟩)
  refine ⟨a, b, by rw [cont_int]; exact a1, by rw [cont_edge]; exact b1, ?_⟩
  have e2 : z2l (z5q T g) 0 = scanN (fun i => if (T.Edges.length : Int) ≤ (nth g.Edges i).Type_ then some false else none) 0 g.Edges.length (some true) := by
    refine z4m _ _ (fun i h0 h1 => ?_) ?_
    · unfold z5q
      have := (hg.2.2.2 i h0 h1).1
      rw [if_pos h1, if_pos ⟨h0, h1⟩, if_neg (by omega)]
      by_cases hq : (T.Edges.length : Int) ≤ (nth g.Edges i).Type_ <;> simp [hq]
    · unfold z5q
      rw [if_neg (by omega)]; rfl
  have e1 : ref17_Typed T g = scanN (fun i => if (T.Nodes.length : Int) ≤ nth g.Nodes i then some false else none) 0 g.Nodes.length (z2l (z5q T g) 0) := by
    unfold ref17_Typed
    refine z4m _ _ (fun i h0 h1 => ?_) ?_
    · unfold ref17_Typed_l1
      have := (hg.2.2.1 i h0 h1).1
      rw [if_pos h1, if_pos ⟨h0, h1⟩, if_neg (by omega)]
      by_cases hq : (T.Nodes.length : Int) ≤ nth g.Nodes i <;> simp [hq]
    · unfold ref17_Typed_l1
      rw [if_neg (by omega)]
  have s1 := scanN_if (step := fun i => if (T.Nodes.length : Int) ≤ nth g.Nodes i then some false else none) (p := fun i => (T.Nodes.length : Int) ≤ nth g.Nodes i) (c := false) (fin := z2l (z5q T g) 0) g.Nodes.length (fun i _ _ => rfl)
  have s2 := scanN_if (step := fun i => if (T.Edges.length : Int) ≤ (nth g.Edges i).Type_ then some false else none) (p := fun i => (T.Edges.length : Int) ≤ (nth g.Edges i).Type_) (c := false) (fin := some true) g.Edges.length (fun i _ _ => rfl)
  rw [e1]
  cases a
  rotate_left
  · obtain ⟨x, hx, hq⟩ := a2.1 rfl
    obtain ⟨i, i0, i1, e⟩ := z80 hx
    subst e
    rw [s1.1 ⟨i, i0, i1, hq⟩]; exact ⟨by simp, by simp⟩
  have na : ∀ i : Int, 0 ≤ i → i < (g.Nodes.length : Int) → ¬ (T.Nodes.length : Int) ≤ nth g.Nodes i := fun i i0 i1 h => by
    have := a2.2 ⟨_, z2u i0 i1, h⟩; cases this
  rw [s1.2 na, e2]
  cases b
  rotate_left
  · obtain ⟨x, hx, hq⟩ := b2.1 rfl
    obtain ⟨i, i0, i1, e⟩ := z80 hx
    subst e
    rw [s2.1 ⟨i, i0, i1, hq⟩]; exact ⟨by simp, by simp⟩
  have nb : ∀ i : Int, 0 ≤ i → i < (g.Edges.length : Int) → ¬ (T.Edges.length : Int) ≤ (nth g.Edges i).Type_ := fun i i0 i1 h => by
    have := b2.2 ⟨_, z2u i0 i1, h⟩; cases this
  rw [s2.2 nb]
  exact ⟨rfl, fun _ => ⟨fun i i0 i1 => ⟨(hg.2.2.1 i i0 i1).1, by have := na i i0 i1; omega⟩, fun i i0 i1 => ⟨(hg.2.2.2 i i0 i1).1, by have := nb i i0 i1; omega⟩⟩⟩
theorem awithin_eq (a b c : Int) : z3t a b c = some (decide (b ≤ a ∧ a ≤ c)) := by
  unfold z3t; by_cases h : b ≤ a <;> simp [h]
theorem attr_law {T : z06} (hT : TV T) (p : z0q) (h40 : (p.Graph.Nodes.length : Int) ≤ 40) (hn : ∀ i : Int, 0 ≤ i → i < (p.Graph.Nodes.length : Int) → InT T (nth p.Graph.Nodes i)) (s : z38) :
    ∃ ok a a', attribute_attr T p s = some (a, ok) ∧ ref21_attr T p s.Node s.Attr = some (a', ok) := by
  unfold attribute_attr ref21_attr
  rw [z34 (by omega) (by omega), Option.bind_some, awithin_eq, Option.bind_some]
  by_cases q1 : s.Node < 0
  · rw [if_pos (by simp; omega), if_pos q1]; exact ⟨false, _, _, rfl, rfl⟩
  by_cases q2 : (p.Graph.Nodes.length : Int) ≤ s.Node
  · rw [if_pos (by simp; omega), if_neg q1, if_pos q2]; exact ⟨false, _, _, rfl, rfl⟩
  have hs : 0 ≤ s.Node ∧ s.Node < (p.Graph.Nodes.length : Int) := ⟨by omega, by omega⟩
  obtain ⟨l, a1, a2, a3, a4⟩ := attrsV hT (hn s.Node hs.1 hs.2)
  rw [if_neg (by simp; omega), if_neg q1, if_neg q2, if_pos hs]
  try rw [if_pos hs]
  rw [a3, a4]
  simp only [Option.bind_some, not_true_eq_false, if_false]
  rw [z34 (by omega) (by omega), awithin_eq]
  simp only [Option.bind_some]
  by_cases q3 : s.Attr < 0
  · rw [if_pos (by simp; omega), if_pos q3]; exact ⟨false, _, _, rfl, rfl⟩
  by_cases q4 : (l.length : Int) ≤ s.Attr
  · rw [if_pos (by simp; omega), if_neg q3, if_pos q4]; exact ⟨false, _, _, rfl, rfl⟩
  have ha : 0 ≤ s.Attr ∧ s.Attr < (l.length : Int) := ⟨by omega, by omega⟩
  rw [if_neg (by simp; omega), if_neg q3, if_neg q4, if_pos ha]
  try rw [if_pos ha]
  exact ⟨true, _, _, rfl, rfl⟩
theorem term_law (n : Int) (x : z4i) : ∃ b, z78 n x = some b ∧ ref03_within n x = some (if b = true then 0 else 6) := by
  unfold z78 ref03_within
  by_cases q1 : x.Var < -1
  · rw [if_neg (by omega), if_pos q1]; exact ⟨false, rfl, rfl⟩
  rw [if_pos (by omega), if_neg q1]
  by_cases q2 : n ≤ x.Var
  · rw [if_neg (by omega), if_pos q2]; exact ⟨false, rfl, rfl⟩
  rw [if_pos (by omega), if_neg q2]
  by_cases q3 : x.Add < -1000000
  · rw [if_neg (by omega), if_pos q3]; exact ⟨false, rfl, rfl⟩
  rw [if_pos (by omega), if_neg q3]
  by_cases q4 : 1000000 < x.Add
  · rw [if_pos q4]; exact ⟨false, by simp; omega, rfl⟩
  · rw [if_neg q4]; exact ⟨true, by simp; omega, rfl⟩
theorem one_law (n : Int) (x : z3x) : ∃ c, difference_one n x = some c ∧ ref03_One n x = some c := by
  have key : ∃ c, z5s n x () = some c ∧ ref03_One_j8 n x () = some c := by
    unfold z5s ref03_One_j8
    obtain ⟨a, a1, a2⟩ := term_law n x.Left
    obtain ⟨b, b1, b2⟩ := term_law n x.Right
    rw [a1, a2, b1, b2]
    cases a <;> cases b <;> exact ⟨_, rfl, rfl⟩
  obtain ⟨c, c1, c2⟩ := key
  unfold difference_one ref03_One
  rw [c1, c2]
  by_cases q1 : x.Kind = 1 <;> by_cases q2 : x.Kind = 2 <;> simp [q1, q2]
theorem tests_law (n : Int) (l : List z3x) : ∃ c, z8t n l = some c ∧ ref03_Valid n l = some c := by
  unfold z8t ref03_Valid
  by_cases q1 : n < 0
  · rw [if_pos q1, if_pos q1]; exact ⟨_, rfl, rfl⟩
  rw [if_neg q1, if_neg q1]
  by_cases q2 : 12 < n
  · rw [if_pos q2, if_pos q2]; exact ⟨_, rfl, rfl⟩
  rw [if_neg q2, if_neg q2]
  by_cases q3 : 40 < (l.length : Int)
  · rw [if_pos q3, if_pos q3]; exact ⟨_, rfl, rfl⟩
  rw [if_neg q3, if_neg q3]
  obtain ⟨b, b1, b2, _⟩ := z4j (F := z93 n l) (G := ref03_Valid_l4 n l) (fun x => 0 ≤ x) (fun x => ((l.length : Int) - x).toNat) (fun _ => True) (fun x hx => by
    unfold z93 ref03_Valid_l4
    by_cases hl : x < (l.length : Int)
    · obtain ⟨c, c1, c2⟩ := one_law n (nth l x)
      rw [if_pos hl, if_pos hl, if_pos ⟨hx, hl⟩, c1, c2]
      simp only [Option.bind_some]
      by_cases h : c = 0
      · exact .inl ⟨x + 1, by simp [h], by simp [h, hx, hl], by omega, by omega⟩
      · exact .inr ⟨c, by simp [h], by simp [h, hx, hl], trivial⟩
    · rw [if_neg hl, if_neg hl]; exact .inr ⟨_, rfl, rfl, trivial⟩) 0 (by omega)
  exact ⟨b, b1, b2⟩
theorem occurs_law (p : z0q) (v : Int) : ∃ b, ref21_occurs p v = some b ∧ (b = true ↔ ∃ s ∈ p.Slots, s.Term.Var = v) := by
  unfold ref21_occurs
  have e : z2l (z9w p v) 0 = scanN (fun i => if (nth p.Slots i).Term.Var = v then some true else none) 0 p.Slots.length (some false) := by
    refine z4m _ _ (fun i h0 h1 => ?_) ?_
    · unfold z9w
      rw [if_pos h1, if_pos ⟨h0, h1⟩]
      by_cases hq : (nth p.Slots i).Term.Var = v <;> simp [hq]
    · unfold z9w
      rw [if_neg (by omega)]; rfl
  have s := scanN_if (step := fun i => if (nth p.Slots i).Term.Var = v then some true else none) (p := fun i => (nth p.Slots i).Term.Var = v) (c := true) (fin := some false) p.Slots.length (fun i _ _ => rfl)
  rw [e]
  by_cases h : ∃ s ∈ p.Slots, s.Term.Var = v
  · obtain ⟨x, hx, hv⟩ := h
    obtain ⟨i, i0, i1, e⟩ := z80 hx
    subst e
    exact ⟨true, s.1 ⟨i, i0, i1, hv⟩, by simp only [true_iff]; exact ⟨_, hx, hv⟩⟩
  · exact ⟨false, s.2 (fun i i0 i1 hv => h ⟨_, z2u i0 i1, hv⟩), by simp only [Bool.false_eq_true, false_iff]; exact h⟩
theorem contB (xs : List Bool) (t : Bool) : ∃ b, z5j xs t = some b ∧ (b = true ↔ ∃ i : Int, 0 ≤ i ∧ i < (xs.length : Int) ∧ nth xs i = t) := by
  have e : z7g xs t = scanN (fun i => if nth xs i = t then some i else none) 0 xs.length (some (-1)) := by
    unfold z7g
    refine z4m _ _ (fun i h0 h1 => ?_) ?_
    · unfold z7y
      rw [if_pos h1, if_pos ⟨h0, h1⟩]
      cases t <;> cases nth xs i <;> simp
    · unfold z7y
      rw [if_neg (by omega)]; rfl
  unfold z5j
  rw [e]
  rcases z70 (step := fun i => if nth xs i = t then some i else none) (fin := some (-1)) xs.length 0 with ⟨h1, h2⟩ | ⟨j, b, h1, h2, h3, h4, h5⟩
  · rw [h2]
    refine ⟨false, rfl, by simp only [Bool.false_eq_true, false_iff]; rintro ⟨i, i0, i1, hq⟩; have := h1 i i0 (by omega); simp [hq] at this⟩
  · rw [h5]
    try simp only at h3
    split at h3
    · rename_i hq
      cases h3
      exact ⟨true, by simp [h1], by simp only [true_iff]; exact ⟨j, h1, by omega, hq⟩⟩
    · cases h3
structure PatOk (T : z06) (p : z0q) : Prop where
  g : GraphOk p.Graph
  t : Typd T p.Graph
  v0 : 0 ≤ p.Vars
  v12 : p.Vars ≤ 12
theorem attribute_law' {T : z06} (hf : FewT T) (p : z0q) : ∃ c, z5w T p = some c ∧ ref21_Valid T p = some c ∧ (c = 0 → PatOk T p) := by
  unfold z5w ref21_Valid
  rcases tv_law hf with ⟨s, c, h1, h2, h3⟩ | hT
  · rw [h1, h2]; exact ⟨c, by simp [h3], by simp [h3], fun e => absurd e h3⟩
  obtain ⟨s, v1, v2⟩ := hT.v
  obtain ⟨c, g1, g2, g3⟩ := graph_law p.Graph
  rw [v1, v2, g1, g2]
  simp only [Option.bind_some, not_true_eq_false, if_false]
  by_cases h : c = 0
  rotate_left
  · exact ⟨c, by simp [h], by simp [h], fun e => absurd e h⟩
  subst h
  have hg := g3.1 rfl
  obtain ⟨a, b, t1, t2, t3, t4⟩ := typd_law T hg
  simp only [not_true_eq_false, if_false]
  rw [t1, t2, t3]
  simp only [Option.bind_some]
  cases a
  rotate_left
  · exact ⟨13, by simp, by simp, by simp⟩
  cases b
  rotate_left
  · exact ⟨13, by simp, by simp, by simp⟩
  have ht := t4 rfl
  simp only [Bool.false_eq_true, if_false, Bool.not_false, Bool.and_self, Bool.not_true, awithin_eq, Option.bind_some]
  by_cases q1 : p.Vars < 0
  · rw [if_pos (by simp; omega), if_pos q1]; exact ⟨6, rfl, rfl, by simp⟩
  by_cases q2 : 12 < p.Vars
  · rw [if_pos (by simp; omega), if_neg q1, if_pos q2]; exact ⟨6, rfl, rfl, by simp⟩
  rw [if_neg (by simp; omega), if_neg q1, if_neg q2]
  by_cases q3 : 10 < (p.Slots.length : Int)
  · rw [if_pos q3, if_pos q3]; exact ⟨3, rfl, rfl, by simp⟩
  rw [if_neg q3, if_neg q3]
  by_cases q4 : 10 < (p.Tests.length : Int)
  · rw [if_pos q4, if_pos q4]; exact ⟨3, rfl, rfl, by simp⟩
  rw [if_neg q4, if_neg q4, if_pos (by omega)]
  refine Iter_rel (F := z95 T p) (G := ref21_Valid_l14 T p) (fun x y => x.2 = y ∧ 0 ≤ y ∧ y ≤ (p.Slots.length : Int) ∧ (x.1.length : Int) = p.Vars ∧ ∀ v : Int, 0 ≤ v → v < p.Vars → (nth x.1 v = true ↔ ∃ i : Int, 0 ≤ i ∧ i < y ∧ (nth p.Slots i).Term.Var = v)) (fun x => ((p.Slots.length : Int) - x.2).toNat) _ (fun x y hxy => ?_) (List.replicate p.Vars.toNat false, 0) 0 ⟨rfl, by omega, by omega, by simp; omega, fun v a b => ?_⟩
  rotate_left
  · obtain ⟨k, rfl⟩ := Int.eq_ofNat_of_zero_le a
    have hk : k < (List.replicate p.Vars.toNat false).length := by simp; omega
    rw [z54 _ k hk]
    simp
    intro i i0 i1; omega
  obtain ⟨us, x⟩ := x
  obtain ⟨e, y0, y1, hl, hu⟩ := hxy
  simp only at e hl hu
  subst e
  unfold z95 ref21_Valid_l14
  simp only
  by_cases hx : x < (p.Slots.length : Int)
  · obtain ⟨ok, a, a', w1, w2⟩ := attr_law hT p hg.1 ht.1 (nth p.Slots x)
    have hx2 : 0 ≤ x ∧ x < (p.Slots.length : Int) := ⟨y0, hx⟩
    rw [if_pos hx, if_pos hx, if_pos hx2]
    try rw [if_pos hx2]
    rw [w1, w2]
    simp only [Option.bind_some]
    cases ok
    · exact .inr ⟨6, by simp, by simp, by simp⟩
    simp only [Bool.not_true, Bool.false_eq_true, if_false]
    rw [z34 (by omega) (by omega)]
    unfold ref21_bounded
    simp only [awithin_eq, Option.bind_some]
    by_cases r1 : (nth p.Slots x).Term.Var < -1
    · rw [if_pos (by simp; omega), if_pos r1]; exact .inr ⟨6, rfl, rfl, by simp⟩
    by_cases r2 : p.Vars ≤ (nth p.Slots x).Term.Var
    · rw [if_pos (by simp; omega), if_neg r1, if_pos r2]; exact .inr ⟨6, rfl, rfl, by simp⟩
    rw [if_neg (by simp; omega), if_neg r1, if_neg r2]
    by_cases r3 : -1000000 ≤ (nth p.Slots x).Term.Add ∧ (nth p.Slots x).Term.Add ≤ 1000000
    rotate_left
    · refine .inr ⟨6, by rw [if_pos (by simp; omega)], ?_, by simp⟩
      by_cases r4 : -1000000 ≤ (nth p.Slots x).Term.Add
      · rw [if_pos r4]; simp; omega
      · rw [if_neg r4]; simp
    rw [if_neg (by simp; omega), if_pos r3.1]
    have e2 : decide ((nth p.Slots x).Term.Add ≤ 1000000) = true := decide_eq_true r3.2
    rw [e2]
    simp only [Option.bind_some, Bool.not_true, Bool.false_eq_true, if_false]
    unfold z6e
    simp only
    by_cases r5 : 0 ≤ (nth p.Slots x).Term.Var
    · rw [if_pos r5, if_pos ⟨r5, by omega⟩]
      refine .inl ⟨_, _, rfl, rfl, ⟨rfl, by omega, by omega, by simpa using hl, fun v v0 v1 => ?_⟩, by simp only; omega⟩
      by_cases ev : v = (nth p.Slots x).Term.Var
      · rw [ev]
        simp only
        rw [nth_set_eq r5 (by omega)]
        simp only [true_iff]
        exact ⟨x, y0, by omega, rfl⟩
      · simp only
        rw [nth_set_ne r5 ev v0, hu v v0 v1]
        constructor
        · rintro ⟨i, i0, i1, i2⟩; exact ⟨i, i0, by omega, i2⟩
        · rintro ⟨i, i0, i1, i2⟩
          by_cases ei : i = x
          · subst ei; exact absurd i2.symm ev
          · exact ⟨i, i0, by omega, i2⟩
    · rw [if_neg r5]
      refine .inl ⟨_, _, rfl, rfl, ⟨rfl, by omega, by omega, hl, fun v v0 v1 => ?_⟩, by simp only; omega⟩
      simp only
      rw [hu v v0 v1]
      constructor
      · rintro ⟨i, i0, i1, i2⟩; exact ⟨i, i0, by omega, i2⟩
      · rintro ⟨i, i0, i1, i2⟩
        by_cases ei : i = x
        · subst ei; omega
        · exact ⟨i, i0, by omega, i2⟩
  · rw [if_neg hx, if_neg hx]
    obtain ⟨c, c1, c2⟩ := tests_law p.Vars p.Tests
    rw [c1, c2]
    simp only [Option.bind_some]
    by_cases h : c = 0
    rotate_left
    · exact .inr ⟨c, by simp [h], by simp [h], fun e => absurd e h⟩
    subst h
    simp only [not_true_eq_false, if_false]
    obtain ⟨d, d1, d2⟩ := contB us false
    rw [d1]
    have e3 : z2l (z9x p) 0 = some (if d = true then 9 else 0) := by
      obtain ⟨b, b1, b2⟩ := z3b (F := z9x p) (fun v => 0 ≤ v ∧ v ≤ p.Vars ∧ ∀ k : Int, 0 ≤ k → k < v → ∃ s ∈ p.Slots, s.Term.Var = k) (fun v => (p.Vars - v).toNat) (fun b => b = if d = true then 9 else 0) (fun v hv => by
        obtain ⟨w0, w1, w2⟩ := hv
        unfold z9x
        by_cases hvl : v < p.Vars
        · obtain ⟨o, o1, o2⟩ := occurs_law p v
          rw [if_pos hvl, o1]
          simp only [Option.bind_some]
          cases o
          · refine .inr ⟨9, by simp, ?_⟩
            have hd : d = true := d2.2 ⟨v, w0, by omega, by
              cases hn : nth us v
              · rfl
              · obtain ⟨i, i0, i1, i2⟩ := (hu v w0 hvl).1 hn
                have := o2.2 ⟨_, z2u i0 (by omega), i2⟩; cases this⟩
            rw [if_pos hd]
          · refine .inl ⟨v + 1, by simp, ⟨by omega, by omega, fun k k0 k1 => ?_⟩, by omega⟩
            by_cases e : k = v
            · subst e; exact o2.1 rfl
            · exact w2 k k0 (by omega)
        · rw [if_neg hvl]
          refine .inr ⟨0, rfl, ?_⟩
          have hd : d = false := by
            cases hd : d
            · rfl
            · obtain ⟨v, v0, v1, v2⟩ := d2.1 hd
              obtain ⟨s, hs, e⟩ := w2 v v0 (by omega)
              obtain ⟨i, i0, i1, e2⟩ := z80 hs
              subst e2
              have := (hu v v0 (by omega)).2 ⟨i, i0, by omega, e⟩
              rw [v2] at this; cases this
          rw [hd]; rfl) 0 ⟨by omega, by omega, fun k a b => by omega⟩
      rw [b1, b2]
    rw [e3]
    cases d
    · exact .inr ⟨0, by simp, by simp, fun _ => ⟨hg, ht, by omega, by omega⟩⟩
    · exact .inr ⟨9, by simp, by simp, by simp⟩
end Go.Proofs.YtngimdmkomkeoaaGreat.K
