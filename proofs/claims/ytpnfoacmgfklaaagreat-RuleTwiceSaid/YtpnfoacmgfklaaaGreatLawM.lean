/- Laws about the rules that descriptions mean: graphs, parts, permutations. -/
import Derived.Test.YtpnfoacmgfklaaaGreatLawT
set_option linter.unusedVariables false
set_option linter.unusedSimpArgs false
namespace Go.Proofs.YtpnfoacmgfklaaaGreat.K
open Go.RowKit Go.Proofs

def EOk (T : api_Types) (n : Int) (e : api_Edge) : Prop := 0 ≤ e.Type_ ∧ e.Type_ < (T.Edges.length : Int) ∧ 0 ≤ e.From ∧ e.From < n ∧ 0 ≤ e.To ∧ e.To < n
def KOk (T : api_Types) (k : Int) : Prop := 0 ≤ k ∧ k < (T.Nodes.length : Int)
/-- a small graph over a type graph -/
structure Gok (T : api_Types) (g : api_Graph) (a b : Int) : Prop where
  a : (g.Nodes.length : Int) ≤ a
  b : (g.Edges.length : Int) ≤ b
  node : ∀ i : Int, 0 ≤ i → i < (g.Nodes.length : Int) → KOk T (nth g.Nodes i)
  edge : ∀ i : Int, 0 ≤ i → i < (g.Edges.length : Int) → EOk T (g.Nodes.length : Int) (nth g.Edges i)
theorem Gok.ok {T : api_Types} (hT : TOk T) {g : api_Graph} {a b : Int} (h : Gok T g a b) (ha : a ≤ 40) (hb : b ≤ 80) : GraphOk g := by
  have n6 := hT.n6
  have e5 := hT.e5
  refine ⟨by have := h.a; omega, by have := h.b; omega, fun i h0 h1 => ?_, fun i h0 h1 => ?_⟩
  · obtain ⟨x, y⟩ := h.node i h0 h1; omega
  · obtain ⟨x1, x2, x3, x4, x5, x6⟩ := h.edge i h0 h1; exact ⟨x1, by omega, x3, x4, x5, x6⟩
theorem Gok.more {T : api_Types} {g : api_Graph} {a b c d : Int} (h : Gok T g a b) (h1 : a ≤ c) (h2 : b ≤ d) : Gok T g c d := ⟨by have := h.a; omega, by have := h.b; omega, h.node, h.edge⟩

def U3 (x : Arr3_c_u8) : Prop := U8 x.e0 ∧ U8 x.e1 ∧ U8 x.e2
theorem among_law {T : api_Types} (hT : TOk T) (ns : List Int) (es : List api_Edge) (k : Int) (hl : (ns.length : Int) ≤ 100) (hn : ∀ i : Int, 0 ≤ i → i < (ns.length : Int) → KOk T (nth ns i)) :
    ∃ l, ref17_among T (api_Graph.mk ns es) k = some l ∧ (l.length : Int) ≤ ns.length ∧ ∀ i : Int, 0 ≤ i → i < (l.length : Int) → 0 ≤ nth l i ∧ nth l i < (ns.length : Int) := by
  unfold ref17_among
  refine Iter_inv (F := ref17_among_l1 T (api_Graph.mk ns es) k) (fun x : List Int × Int => 0 ≤ x.2 ∧ x.2 ≤ (ns.length : Int) ∧ (x.1.length : Int) ≤ x.2 ∧ ∀ i : Int, 0 ≤ i → i < (x.1.length : Int) → (fun (_ y : Int) => 0 ≤ y ∧ y < (ns.length : Int)) i (nth x.1 i)) (fun x => ((ns.length : Int) - x.2).toNat) _ (fun x hp => ?_) ([], 0) ⟨by simp, by simp, by simp, fun i a b => by simp at b; omega⟩
  obtain ⟨l, x⟩ := x
  obtain ⟨p1, p2, p3, p4⟩ := hp
  simp only at p1 p2 p3
  unfold ref17_among_l1 ref17_among_j16
  simp only
  by_cases hx : x < (ns.length : Int)
  · obtain ⟨c, hc⟩ := below1_tot hT (nth ns x) k (hn x p1 hx).2
    rw [if_pos hx, if_pos ⟨p1, hx⟩, hc, Option.bind_some]
    cases c
    · exact Or.inl ⟨_, rfl, ⟨by simp only; omega, by simp only; omega, by simp only; omega, p4⟩, by simp only; omega⟩
    · rw [if_pos rfl, if_pos (by omega)]
      exact Or.inl ⟨_, rfl, ⟨by simp only; omega, by simp only; omega, by simp only [List.length_append, List.length_singleton]; omega, all_snoc (P := fun (_ y : Int) => 0 ≤ y ∧ y < (ns.length : Int)) p4 ⟨p1, hx⟩⟩, by simp only; omega⟩
  · rw [if_neg hx]; exact Or.inr ⟨_, rfl, by omega, p4⟩

theorem made17_law {T : api_Types} (hT : TOk T) (d : ref05_Draft) (hn : ∀ x ∈ d.Nodes, U8 x) (he : ∀ x ∈ d.Edges, U3 x) : ∃ g, ref17_Made T d true = some g ∧ Gok T g 8 10 := by
  have n6 := hT.n6
  unfold ref17_Made
  refine Iter_inv (F := ref17_Made_l1 T d true) (fun x : List Int × Int => 0 ≤ x.2 ∧ x.2 ≤ (T.Nodes.length : Int) ∧ (x.1.length : Int) = x.2 ∧ ∀ i : Int, 0 ≤ i → i < (x.1.length : Int) → (fun (_ y : Int) => KOk T y) i (nth x.1 i)) (fun x => ((T.Nodes.length : Int) - x.2).toNat) _ (fun x hp => ?_) ([], 0) ⟨by simp, by simp, by simp, fun i a b => by simp at b; omega⟩
  obtain ⟨ks, x⟩ := x
  obtain ⟨p1, p2, p3, p4⟩ := hp
  simp only at p1 p2 p3
  unfold ref17_Made_l1 ref17_Made_j16 ref17_Made_j19
  simp only
  by_cases hx : x < (T.Nodes.length : Int)
  · rw [if_pos hx, if_pos trivial, if_pos (by omega)]
    exact Or.inl ⟨_, rfl, ⟨by simp only; omega, by simp only; omega, by simp only [List.length_append, List.length_singleton]; omega, all_snoc (P := fun (_ y : Int) => KOk T y) p4 ⟨p1, hx⟩⟩, by simp only; omega⟩
  · rw [if_neg hx]
    right
    have edges : ∀ (ns : List Int) (i : Int), (ns.length : Int) ≤ 8 → (∀ i : Int, 0 ≤ i → i < (ns.length : Int) → KOk T (nth ns i)) → ∃ g, ref17_Made_j42 T d (ns, i) () = some (.inr g) ∧ Gok T g 8 10 := fun ns i hl hk => by
      unfold ref17_Made_j42
      obtain ⟨g, e1, e2⟩ := Iter_inv (F := ref17_Made_l44 T d (ns, i)) (fun x : List api_Edge × Int => 0 ≤ x.2 ∧ x.2 ≤ 10 ∧ (x.1.length : Int) ≤ x.2 ∧ ∀ i : Int, 0 ≤ i → i < (x.1.length : Int) → (fun (_ : Int) (e : api_Edge) => EOk T (ns.length : Int) e) i (nth x.1 i)) (fun x => (10 - x.2).toNat) (fun g => Gok T g 8 10) (fun x hp => by
        obtain ⟨es, x⟩ := x
        obtain ⟨q1, q2, q3, q4⟩ := hp
        simp only at q1 q2 q3
        have fin : ∃ g, ref17_Made_j91 (ns, i) (es, x) () = some (.inr g) ∧ Gok T g 8 10 := ⟨_, rfl, by simp only; omega, by simp only; omega, hk, q4⟩
        unfold ref17_Made_l44
        simp only
        by_cases c1 : x < (d.Edges.length : Int)
        rotate_left
        · rw [if_neg c1]; exact Or.inr fin
        by_cases c2 : x < 10
        rotate_left
        · rw [if_pos c1, if_neg c2]; exact Or.inr fin
        by_cases c3 : 0 < (T.Edges.length : Int)
        rotate_left
        · rw [if_pos c1, if_pos c2, if_neg c3]; exact Or.inr fin
        obtain ⟨u0, u1, u2⟩ := he _ (nth_mem q1 c1)
        obtain ⟨m1, m2⟩ := tmod_rng u0.1 c3
        obtain ⟨l1, a1, a2, a3⟩ := among_law hT ns es (nth T.Edges (((nth d.Edges x).e0).tmod (T.Edges.length : Int))).From (by omega) hk
        obtain ⟨l2, b1, b2, b3⟩ := among_law hT ns es (nth T.Edges (((nth d.Edges x).e0).tmod (T.Edges.length : Int))).To (by omega) hk
        rw [if_pos c1, if_pos c2, if_pos c3, if_pos ⟨q1, c1⟩, if_pos (by omega), if_pos ⟨m1, m2⟩, a1, Option.bind_some, b1, Option.bind_some]
        unfold ref17_Made_j85 ref17_Made_j87
        simp only
        have skip : (∃ x', (some (Sum.inl (es, x + 1)) : Option ((List api_Edge × Int) ⊕ api_Graph)) = some (.inl x') ∧ (0 ≤ x'.2 ∧ x'.2 ≤ 10 ∧ (x'.1.length : Int) ≤ x'.2 ∧ ∀ i : Int, 0 ≤ i → i < (x'.1.length : Int) → EOk T (ns.length : Int) (nth x'.1 i)) ∧ (10 - x'.2).toNat < (10 - x).toNat) :=
          ⟨_, rfl, ⟨by simp only; omega, by simp only; omega, by simp only; omega, q4⟩, by simp only; omega⟩
        by_cases c4 : 0 < (l1.length : Int)
        rotate_left
        · rw [if_neg c4]; exact Or.inl skip
        by_cases c5 : 0 < (l2.length : Int)
        rotate_left
        · rw [if_pos c4, if_neg c5]; exact Or.inl skip
        obtain ⟨m3, m4⟩ := tmod_rng u1.1 c4
        obtain ⟨m5, m6⟩ := tmod_rng u2.1 c5
        have r1 := a3 _ m3 m4
        have r2 := b3 _ m5 m6
        rw [if_pos c4, if_pos c5, if_pos (by omega), if_pos ⟨m3, m4⟩, if_pos (by omega), if_pos ⟨m5, m6⟩, if_pos (by omega)]
        exact Or.inl ⟨_, rfl, ⟨by simp only; omega, by simp only; omega, by simp only [List.length_append, List.length_singleton]; omega, all_snoc (P := fun (_ : Int) (e : api_Edge) => EOk T (ns.length : Int) e) q4 ⟨m1, m2, r1.1, r1.2, r2.1, r2.2⟩⟩, by simp only; omega⟩) ([], 0) ⟨by simp, by simp, by simp, fun i a b => by simp at b; omega⟩
      rw [e1]; exact ⟨g, rfl, e2⟩
    obtain ⟨g, e1, e2⟩ := Iter_inv (F := ref17_Made_l23 T d (ks, x)) (fun y : List Int × Int => 0 ≤ y.2 ∧ y.2 ≤ 8 ∧ (y.1.length : Int) = y.2 ∧ ∀ i : Int, 0 ≤ i → i < (y.1.length : Int) → (fun (_ y : Int) => KOk T y) i (nth y.1 i)) (fun y => (8 - y.2).toNat) (fun g => Gok T g 8 10) (fun y hp => by
      obtain ⟨ns, y⟩ := y
      obtain ⟨q1, q2, q3, q4⟩ := hp
      simp only at q1 q2 q3
      have fin := edges ns y (by omega) q4
      unfold ref17_Made_l23
      simp only
      by_cases c1 : y < (d.Nodes.length : Int)
      rotate_left
      · rw [if_neg c1]; exact Or.inr fin
      by_cases c2 : y < 8
      rotate_left
      · rw [if_pos c1, if_neg c2]; exact Or.inr fin
      by_cases c3 : 0 < (ks.length : Int)
      rotate_left
      · rw [if_pos c1, if_pos c2, if_neg c3]; exact Or.inr fin
      have u := hn _ (nth_mem q1 c1)
      obtain ⟨m1, m2⟩ := tmod_rng u.1 c3
      rw [if_pos c1, if_pos c2, if_pos c3, if_pos ⟨q1, c1⟩, if_pos (by omega), if_pos ⟨m1, m2⟩, if_pos (by omega)]
      exact Or.inl ⟨_, rfl, ⟨by simp only; omega, by simp only; omega, by simp only [List.length_append, List.length_singleton]; omega, all_snoc (P := fun (_ y : Int) => KOk T y) q4 (p4 _ m1 m2)⟩, by simp only; omega⟩) ([], 0) ⟨by simp, by simp, by simp, fun i a b => by simp at b; omega⟩
    rw [e1]; exact ⟨g, rfl, e2⟩

theorem made03_tot (v : Int) (h0 : 0 ≤ v) (h1 : v ≤ 3) (x : Arr4_c_i8) : ∃ t, ref03_Made v x = some t := by
  unfold ref03_Made ref03_remainder
  rw [if_pos (by omega), w64_in (x := v + 1) (by omega) (by omega)]
  simp only [Option.bind_some]
  rw [if_pos (show v + 1 ≠ 0 by omega)]
  simp only [Option.bind_some]
  rw [if_pos (show v + 1 ≠ 0 by omega)]
  exact ⟨_, rfl⟩
theorem made21_law {T : api_Types} (hT : TOk T) (d : ref21_Draft) (hn : ∀ x ∈ d.Graph.Nodes, U8 x) (he : ∀ x ∈ d.Graph.Edges, U3 x) (hs : ∀ x ∈ d.Slots, U3 x) : ∃ p, ref21_Made T d = some p ∧ Gok T p.Graph 8 10 ∧ 0 ≤ p.Vars ∧ p.Vars ≤ 3 := by
  unfold ref21_Made
  obtain ⟨g, g1, g2⟩ := made17_law hT d.Graph hn he
  have ga := g2.a
  rw [g1, Option.bind_some]
  refine Iter_inv (F := ref21_Made_l3 g T d) (fun x : List Arr2_c_i64 × Int => 0 ≤ x.2 ∧ x.2 ≤ (g.Nodes.length : Int) ∧ (x.1.length : Int) ≤ 6 * x.2) (fun x => ((g.Nodes.length : Int) - x.2).toNat) _ (fun x hp => ?_) ([], 0) ⟨by simp, by simp, by simp⟩
  obtain ⟨al, x⟩ := x
  obtain ⟨p1, p2, p3⟩ := hp
  simp only at p1 p2 p3
  unfold ref21_Made_l3
  simp only
  by_cases hx : x < (g.Nodes.length : Int)
  · obtain ⟨k1, k2⟩ := g2.node x p1 hx
    obtain ⟨b, b1, b2⟩ := rAttrs_tot hT _ k1 k2
    rw [if_pos hx, if_pos ⟨p1, hx⟩, b1, Option.bind_some]
    obtain ⟨c, hc, ys, e, hl⟩ := Iter_inv (F := ref21_Made_l20 b (al, x)) (fun y : List Arr2_c_i64 × Int => 0 ≤ y.2 ∧ y.2 ≤ (b.1.length : Int) ∧ (y.1.length : Int) ≤ 6 * x + y.2) (fun y => ((b.1.length : Int) - y.2).toNat) (fun c => ∃ ys, c = .inl (ys, x + 1) ∧ (ys.length : Int) ≤ 6 * (x + 1)) (fun y hp => by
      obtain ⟨ys, y⟩ := y
      obtain ⟨q1, q2, q3⟩ := hp
      simp only at q1 q2 q3
      unfold ref21_Made_l20
      simp only
      by_cases hy : y < (b.1.length : Int)
      · rw [if_pos hy, if_pos (by omega)]
        exact Or.inl ⟨_, rfl, ⟨by simp only; omega, by simp only; omega, by simp only [List.length_append, List.length_singleton]; omega⟩, by simp only; omega⟩
      · rw [if_neg hy]; exact Or.inr ⟨_, rfl, _, rfl, by omega⟩) (al, 0) ⟨by simp, by simp only; omega, by simp only; omega⟩
    rw [hc, e]
    exact Or.inl ⟨_, rfl, ⟨by simp only; omega, by simp only; omega, by simp only; omega⟩, by simp only; omega⟩
  · rw [if_neg hx]
    right
    have tests : ∀ (ss : List api_Slot) (v i : Int), 0 ≤ v → v ≤ 3 → ∃ p, ref21_Made_j80 g d (ss, v, i) () = some (.inr p) ∧ Gok T p.Graph 8 10 ∧ 0 ≤ p.Vars ∧ p.Vars ≤ 3 := fun ss v i v0 v3 => by
      unfold ref21_Made_j80
      obtain ⟨p, e1, e2⟩ := Iter_inv (F := ref21_Made_l82 g d (ss, v, i)) (fun x : List api_Test × Int => 0 ≤ x.2 ∧ x.2 ≤ 3 ∧ (x.1.length : Int) = x.2) (fun x => (3 - x.2).toNat) (fun p : api_Pattern => Gok T p.Graph 8 10 ∧ 0 ≤ p.Vars ∧ p.Vars ≤ 3) (fun x hp => by
        obtain ⟨ts, x⟩ := x
        obtain ⟨q1, q2, q3⟩ := hp
        simp only at q1 q2 q3
        have fin : ∃ p, ref21_Made_j99 g (ss, v, i) (ts, x) () = some (.inr p) ∧ Gok T p.Graph 8 10 ∧ 0 ≤ p.Vars ∧ p.Vars ≤ 3 := ⟨_, rfl, g2, v0, v3⟩
        unfold ref21_Made_l82
        simp only
        by_cases c1 : x < (d.Tests.length : Int)
        rotate_left
        · rw [if_neg c1]; exact Or.inr fin
        by_cases c2 : x < 3
        rotate_left
        · rw [if_pos c1, if_neg c2]; exact Or.inr fin
        obtain ⟨t, ht⟩ := made03_tot v v0 v3 (nth d.Tests x)
        rw [if_pos c1, if_pos c2, if_pos ⟨q1, c1⟩, ht, Option.bind_some, if_pos (by omega)]
        exact Or.inl ⟨_, rfl, ⟨by simp only; omega, by simp only; omega, by simp only [List.length_append, List.length_singleton]; omega⟩, by simp only; omega⟩) ([], 0) ⟨by simp, by simp, by simp⟩
      rw [e1]; exact ⟨p, rfl, e2⟩
    obtain ⟨p, e1, e2⟩ := Iter_inv (F := ref21_Made_l30 g d (al, x)) (fun y : List api_Slot × Int × Int => 0 ≤ y.2.1 ∧ y.2.1 ≤ 3 ∧ 0 ≤ y.2.2 ∧ y.2.2 ≤ 4 ∧ (y.1.length : Int) = y.2.2) (fun y => (4 - y.2.2).toNat) (fun p : api_Pattern => Gok T p.Graph 8 10 ∧ 0 ≤ p.Vars ∧ p.Vars ≤ 3) (fun y hp => by
      obtain ⟨ss, v, y⟩ := y
      obtain ⟨q1, q2, q3, q4, q5⟩ := hp
      simp only at q1 q2 q3 q4 q5
      have fin := tests ss v y q1 q2
      unfold ref21_Made_l30
      simp only
      by_cases c1 : y < (d.Slots.length : Int)
      rotate_left
      · rw [if_neg c1]; exact Or.inr fin
      by_cases c2 : y < 4
      rotate_left
      · rw [if_pos c1, if_neg c2]; exact Or.inr fin
      by_cases c3 : 0 < (al.length : Int)
      rotate_left
      · rw [if_pos c1, if_pos c2, if_neg c3]; exact Or.inr fin
      have u := hs _ (nth_mem q3 c1)
      obtain ⟨m1, m2⟩ := tmod_rng u.1.1 c3
      have next : ∀ w : Int × api_Slot, 0 ≤ w.1 → w.1 ≤ 4 → ∃ x', ref21_Made_j71 (ss, v, y) w = some (.inl x') ∧ (0 ≤ x'.2.1 ∧ x'.2.1 ≤ 3 ∧ 0 ≤ x'.2.2 ∧ x'.2.2 ≤ 4 ∧ (x'.1.length : Int) = x'.2.2) ∧ (4 - x'.2.2).toNat < (4 - y).toNat := fun w w0 w4 => by
        unfold ref21_Made_j71 ref21_Made_j74
        simp only
        by_cases h : 3 < w.1
        · rw [if_pos h, if_pos (by omega)]
          exact ⟨_, rfl, ⟨by simp only; omega, by simp only; omega, by simp only; omega, by simp only; omega, by simp only [List.length_append, List.length_singleton]; omega⟩, by simp only; omega⟩
        · rw [if_neg h, if_pos (by omega)]
          exact ⟨_, rfl, ⟨by simp only; omega, by simp only; omega, by simp only; omega, by simp only; omega, by simp only [List.length_append, List.length_singleton]; omega⟩, by simp only; omega⟩
      rw [if_pos c1, if_pos c2, if_pos c3, if_pos ⟨q3, c1⟩, if_pos (by omega), if_pos ⟨m1, m2⟩, Option.bind_some, Option.bind_some]
      by_cases h : v ≤ w64 ((((nth d.Slots y).e1).tmod 5) - 1)
      · rw [if_pos h, w64_in (x := v + 1) (by omega) (by omega), Option.bind_some]
        exact Or.inl (next _ (by simp only; omega) (by simp only; omega))
      · rw [if_neg h]
        exact Or.inl (next _ (by simp only; omega) (by simp only; omega))) ([], 0, 0) ⟨by simp, by simp, by simp, by simp, by simp⟩
    rw [e1]; exact ⟨p, rfl, e2⟩

/-! ### parts -/
/-- the places of the marks -/
theorem marked_law (bs : List Bool) (hl : (bs.length : Int) ≤ 100) : ∃ l, ref07_marked bs = some l ∧ Up (bs.length : Int) l ∧ ∀ i : Int, 0 ≤ i → i < (bs.length : Int) → (i ∈ l ↔ nth bs i = true) := by
  unfold ref07_marked
  refine Iter_inv (F := ref07_marked_l1 bs) (fun x : List Int × Int => 0 ≤ x.2 ∧ x.2 ≤ (bs.length : Int) ∧ (x.1.length : Int) ≤ x.2 ∧ Up x.2 x.1 ∧ ∀ i : Int, 0 ≤ i → i < x.2 → (i ∈ x.1 ↔ nth bs i = true)) (fun x => ((bs.length : Int) - x.2).toNat) _ (fun x hp => ?_) ([], 0) ⟨by simp, by simp, by simp, fun i a b => by simp at b; omega, fun i a b => by simp at b; omega⟩
  obtain ⟨l, x⟩ := x
  obtain ⟨p1, p2, p3, p4, p5⟩ := hp
  simp only at p1 p2 p3 p4 p5
  unfold ref07_marked_l1 ref07_marked_j12
  simp only
  by_cases hx : x < (bs.length : Int)
  · rw [if_pos hx, if_pos ⟨p1, hx⟩]
    by_cases hb : nth bs x = true
    · rw [if_pos hb, if_pos (by omega)]
      refine Or.inl ⟨_, rfl, ⟨by simp only; omega, by simp only; omega, by simp only [List.length_append, List.length_singleton]; omega, ?_, ?_⟩, by simp only; omega⟩
      · intro i i0 i1
        simp only [List.length_append, List.length_singleton] at i1
        by_cases e : i = (l.length : Int)
        · subst e
          simp only
          rw [nth_last rfl]
          refine ⟨p1, by omega, fun h => ?_⟩
          rw [nth_left (by omega) (by omega)]
          exact (p4 ((l.length : Int) - 1) (by omega) (by omega)).2.1
        · obtain ⟨u1, u2, u3⟩ := p4 i i0 (by omega)
          simp only
          rw [nth_left i0 (by omega)]
          exact ⟨u1, by omega, fun h => by rw [nth_left (by omega) (by omega)]; exact u3 h⟩
      · intro i i0 i1
        simp only at i1 ⊢
        by_cases e : i = x
        · subst e; simp [hb]
        · rw [List.mem_append, ← p5 i i0 (by omega)]; simp [e]
    · rw [if_neg hb]
      refine Or.inl ⟨_, rfl, ⟨by simp only; omega, by simp only; omega, by simp only; omega, fun i i0 i1 => ?_, fun i i0 i1 => ?_⟩, by simp only; omega⟩
      · obtain ⟨u1, u2, u3⟩ := p4 i i0 i1; exact ⟨u1, by simp only; omega, u3⟩
      · simp only at i1 ⊢
        by_cases e : i = x
        · subst e
          refine ⟨fun h => ?_, fun h => absurd h hb⟩
          obtain ⟨j, j0, j1, j2⟩ := mem_nth h
          have := (p4 j j0 j1).2.1; omega
        · exact p5 i i0 (by omega)
  · rw [if_neg hx]
    have e : x = (bs.length : Int) := by omega
    subst e
    exact Or.inr ⟨_, rfl, p4, p5⟩
theorem least_law (g : api_Graph) (hg : GraphOk g) (ns es : List Bool) (hn : (ns.length : Int) = g.Nodes.length) (he : (es.length : Int) = g.Edges.length) : ∃ p, ref07_Least g ns es = some p ∧ PartOk g p := by
  obtain ⟨g1, g2, _, g4⟩ := hg
  unfold ref07_Least
  rw [if_pos (by omega)]
  refine Iter_inv (F := ref07_Least_l2 g es) (fun x : List Bool × Int => 0 ≤ x.2 ∧ x.2 ≤ (es.length : Int) ∧ (x.1.length : Int) = g.Nodes.length ∧ ∀ j : Int, 0 ≤ j → j < x.2 → nth es j = true → nth x.1 (nth g.Edges j).From = true ∧ nth x.1 (nth g.Edges j).To = true) (fun x => ((es.length : Int) - x.2).toNat) _ (fun x hp => ?_) (ns, 0) ⟨by simp, by simp, hn, fun i a b => by simp at b; omega⟩
  obtain ⟨l, x⟩ := x
  obtain ⟨p1, p2, p3, p4⟩ := hp
  simp only at p1 p2 p3 p4
  unfold ref07_Least_l2 ref07_Least_j18
  simp only
  by_cases hx : x < (es.length : Int)
  · rw [if_pos hx, if_pos ⟨p1, hx⟩]
    by_cases hb : nth es x = true
    · obtain ⟨_, _, f1, f2, f3, f4⟩ := g4 x p1 (by omega)
      rw [if_pos hb, if_pos (by omega), if_pos (by omega), if_pos (by simp; omega)]
      have keep : ∀ i : Int, 0 ≤ i → i < (l.length : Int) → nth l i = true ∨ i = (nth g.Edges x).From ∨ i = (nth g.Edges x).To → nth ((l.set ((nth g.Edges x).From).toNat true).set ((nth g.Edges x).To).toNat true) i = true := fun i i0 i1 h => by
        by_cases e : i = (nth g.Edges x).To
        · rw [e, nth_set_eq f3 (by simp; omega)]
        · rw [nth_set_ne f3 e i0]
          by_cases e' : i = (nth g.Edges x).From
          · rw [e', nth_set_eq f1 (by omega)]
          · rw [nth_set_ne f1 e' i0]
            rcases h with h | h | h
            · exact h
            · exact absurd h e'
            · exact absurd h e
      refine Or.inl ⟨_, rfl, ⟨by simp only; omega, by simp only; omega, by simp; omega, fun j j0 j1 hj => ?_⟩, by simp only; omega⟩
      simp only at j1 ⊢
      by_cases e : j = x
      · subst e
        exact ⟨keep _ f1 (by omega) (.inr (.inl rfl)), keep _ f3 (by omega) (.inr (.inr rfl))⟩
      · obtain ⟨_, _, h1, h2, h3, h4⟩ := g4 j j0 (by omega)
        obtain ⟨k1, k2⟩ := p4 j j0 (by omega) hj
        exact ⟨keep _ h1 (by omega) (.inl k1), keep _ h3 (by omega) (.inl k2)⟩
    · rw [if_neg hb]
      refine Or.inl ⟨_, rfl, ⟨by simp only; omega, by simp only; omega, p3, fun j j0 j1 hj => ?_⟩, by simp only; omega⟩
      simp only at j1
      by_cases e : j = x
      · subst e; exact absurd hj hb
      · exact p4 j j0 (by omega) hj
  · rw [if_neg hx]
    obtain ⟨a, a1, a2, a3⟩ := marked_law l (by omega)
    obtain ⟨b, b1, b2, b3⟩ := marked_law es (by omega)
    rw [a1, Option.bind_some, b1]
    refine Or.inr ⟨_, rfl, by rw [p3] at a2; exact a2, by rw [he] at b2; exact b2, fun i i0 i1 => ?_⟩
    simp only at i1 ⊢
    obtain ⟨u1, u2, _⟩ := b2 i i0 i1
    obtain ⟨_, _, h1, h2, h3, h4⟩ := g4 (nth b i) u1 (by omega)
    obtain ⟨k1, k2⟩ := p4 (nth b i) u1 (by omega) ((b3 _ u1 u2).1 (nth_mem i0 i1))
    exact ⟨mem_nth ((a3 _ h1 (by omega)).2 k1), mem_nth ((a3 _ h3 (by omega)).2 k2)⟩
theorem made07_law (g : api_Graph) (hg : GraphOk g) (s : Int) : ∃ p, ref07_Made g s = some p ∧ PartOk g p := by
  have g1 := hg.1
  have g2 := hg.2.1
  unfold ref07_Made
  rw [if_pos (by omega), if_pos (by omega)]
  refine Iter_inv (F := ref07_Made_l3 g s) (fun x : List Bool × Int => 0 ≤ x.2 ∧ x.2 ≤ (g.Nodes.length : Int) ∧ (x.1.length : Int) = g.Nodes.length) (fun x => ((g.Nodes.length : Int) - x.2).toNat) _ (fun x hp => ?_) (List.replicate (g.Nodes.length : Int).toNat false, 0) ⟨by simp, by simp, by simp⟩
  obtain ⟨l, x⟩ := x
  obtain ⟨p1, p2, p3⟩ := hp
  simp only at p1 p2 p3
  unfold ref07_Made_l3
  simp only
  by_cases hx : x < (l.length : Int)
  · rw [if_pos hx, if_pos (tmod_rng p1 (by omega)).1, Option.bind_some, if_pos ⟨p1, hx⟩]
    exact Or.inl ⟨_, rfl, ⟨by simp only; omega, by simp only; omega, by simp; omega⟩, by simp only; omega⟩
  · rw [if_neg hx]
    obtain ⟨p, e1, e2⟩ := Iter_inv (F := ref07_Made_l17 g s (l, x)) (fun y : List Bool × Int => 0 ≤ y.2 ∧ y.2 ≤ (g.Edges.length : Int) ∧ (y.1.length : Int) = g.Edges.length) (fun y => ((g.Edges.length : Int) - y.2).toNat) (PartOk g) (fun y hp => by
      obtain ⟨m, y⟩ := y
      obtain ⟨q1, q2, q3⟩ := hp
      simp only at q1 q2 q3
      unfold ref07_Made_l17
      simp only
      by_cases hy : y < (m.length : Int)
      · rw [if_pos hy, w64_in (by omega) (by omega), Option.bind_some, if_pos (tmod_rng (by omega) (by omega)).1, Option.bind_some, if_pos ⟨q1, hy⟩]
        exact Or.inl ⟨_, rfl, ⟨by simp only; omega, by simp only; omega, by simp; omega⟩, by simp only; omega⟩
      · obtain ⟨p, e1, e2⟩ := least_law g hg l m p3 q3
        rw [if_neg hy, e1]; exact Or.inr ⟨p, rfl, e2⟩) (List.replicate (g.Edges.length : Int).toNat false, 0) ⟨by simp, by simp, by simp⟩
    rw [e1]; exact Or.inr ⟨p, rfl, e2⟩
theorem cut_gok {T : api_Types} {g k : api_Graph} {p : api_Part} {a b : Int} (hg : Gok T g a b) (hp : PartOk g p) (hc : CutOf g p k) : Gok T k a b := by
  have l1 := hp.1.len (by omega)
  have l2 := hp.2.1.len (by omega)
  obtain ⟨c1, c2, c3, c4⟩ := hc
  refine ⟨by have := hg.a; omega, by have := hg.b; omega, fun i i0 i1 => ?_, fun i i0 i1 => ?_⟩
  · rw [c3 i i0 (by omega)]
    obtain ⟨u1, u2, _⟩ := hp.1 i i0 (by omega)
    exact hg.node _ u1 u2
  · obtain ⟨d1, d2, d3, _, d5, d6, _⟩ := c4 i i0 (by omega)
    obtain ⟨u1, u2, _⟩ := hp.2.1 i i0 (by omega)
    have := hg.edge _ u1 u2
    exact ⟨by rw [d1]; exact this.1, by rw [d1]; exact this.2.1, d2, by omega, d5, by omega⟩

/-! ### the right side -/
theorem concrete_law {T : api_Types} (hT : TOk T) : ∃ l, ref24_concrete T = some l ∧ ∀ i : Int, 0 ≤ i → i < (l.length : Int) → KOk T (nth l i) := by
  have n6 := hT.n6
  unfold ref24_concrete
  refine Iter_inv (F := ref24_concrete_l1 T) (fun x : List Int × Int => 0 ≤ x.2 ∧ x.2 ≤ (T.Nodes.length : Int) ∧ (x.1.length : Int) ≤ x.2 ∧ ∀ i : Int, 0 ≤ i → i < (x.1.length : Int) → (fun (_ y : Int) => KOk T y) i (nth x.1 i)) (fun x => ((T.Nodes.length : Int) - x.2).toNat) _ (fun x hp => ?_) ([], 0) ⟨by simp, by simp, by simp, fun i a b => by simp at b; omega⟩
  obtain ⟨l, x⟩ := x
  obtain ⟨p1, p2, p3, p4⟩ := hp
  simp only at p1 p2 p3
  unfold ref24_concrete_l1 ref24_concrete_j12
  simp only
  by_cases hx : x < (T.Nodes.length : Int)
  · rw [if_pos hx, if_pos ⟨p1, hx⟩]
    by_cases h : (!(nth T.Nodes x).Abstract) = true
    · rw [if_pos h, if_pos (by omega)]
      exact Or.inl ⟨_, rfl, ⟨by simp only; omega, by simp only; omega, by simp only [List.length_append, List.length_singleton]; omega, all_snoc (P := fun (_ y : Int) => KOk T y) p4 ⟨p1, hx⟩⟩, by simp only; omega⟩
    · rw [if_neg h]
      exact Or.inl ⟨_, rfl, ⟨by simp only; omega, by simp only; omega, by simp only; omega, p4⟩, by simp only; omega⟩
  · rw [if_neg hx]; exact Or.inr ⟨_, rfl, p4⟩
/-- a graph begins with another one -/
def Begins (g k : api_Graph) : Prop := k.Nodes.length ≤ g.Nodes.length ∧ k.Edges.length ≤ g.Edges.length ∧ (∀ i : Int, 0 ≤ i → i < (k.Nodes.length : Int) → nth g.Nodes i = nth k.Nodes i) ∧ ∀ i : Int, 0 ≤ i → i < (k.Edges.length : Int) → nth g.Edges i = nth k.Edges i
theorem copied5 {g : api_Graph} {T : api_Types} {a b : Int} (h : Gok T g a b) (ha : a ≤ 100) (hb : b ≤ 100) : ref05_Copied g = some g := by
  have := h.a
  have := h.b
  unfold ref05_Copied
  rw [if_pos (by omega), if_pos (by omega)]
theorem grown_law {T : api_Types} (hT : TOk T) (k : api_Graph) (hk : Gok T k 8 10) (d : ref24_Draft) (hn : ∀ x ∈ d.Nodes, U8 x) (he : ∀ x ∈ d.Edges, U3 x) : ∃ g, ref24_grown T k d = some g ∧ Gok T g 10 12 ∧ Begins g k := by
  have ka := hk.a
  have kb := hk.b
  unfold ref24_grown
  obtain ⟨l, l1, l2⟩ := concrete_law hT
  rw [copied5 hk (by omega) (by omega), Option.bind_some, l1, Option.bind_some]
  refine Iter_inv (F := ref24_grown_l5 k l T d) (fun x : List Int × Int => 0 ≤ x.2 ∧ x.2 ≤ 2 ∧ (x.1.length : Int) = k.Nodes.length + x.2 ∧ (∀ i : Int, 0 ≤ i → i < (x.1.length : Int) → (fun (_ y : Int) => KOk T y) i (nth x.1 i)) ∧ ∀ i : Int, 0 ≤ i → i < (k.Nodes.length : Int) → nth x.1 i = nth k.Nodes i) (fun x => (2 - x.2).toNat) _ (fun x hp => ?_) (k.Nodes, 0) ⟨by simp, by simp, by simp, hk.node, fun i a b => rfl⟩
  obtain ⟨ns, x⟩ := x
  obtain ⟨p1, p2, p3, p4, p5⟩ := hp
  simp only at p1 p2 p3 p5
  have fin : ∃ g, ref24_grown_j25 k T d (ns, x) () = some (.inr g) ∧ Gok T g 10 12 ∧ Begins g k := by
    unfold ref24_grown_j25
    obtain ⟨g, e1, e2⟩ := Iter_inv (F := ref24_grown_l27 T d (ns, x)) (fun y : List api_Edge × Int => 0 ≤ y.2 ∧ y.2 ≤ 2 ∧ (k.Edges.length : Int) ≤ y.1.length ∧ (y.1.length : Int) ≤ k.Edges.length + y.2 ∧ (∀ i : Int, 0 ≤ i → i < (y.1.length : Int) → (fun (_ : Int) (e : api_Edge) => EOk T (ns.length : Int) e) i (nth y.1 i)) ∧ ∀ i : Int, 0 ≤ i → i < (k.Edges.length : Int) → nth y.1 i = nth k.Edges i) (fun y => (2 - y.2).toNat) (fun g => Gok T g 10 12 ∧ Begins g k) (fun y hp => by
      obtain ⟨es, y⟩ := y
      obtain ⟨q1, q2, q3, q4, q5, q6⟩ := hp
      simp only at q1 q2 q3 q4 q6
      have fin : ∃ g, ref24_grown_j63 (ns, x) (es, y) () = some (.inr g) ∧ Gok T g 10 12 ∧ Begins g k := ⟨_, rfl, ⟨by simp only; omega, by simp only; omega, p4, q5⟩, by simp only; omega, by simp only; omega, p5, q6⟩
      unfold ref24_grown_l27 ref24_grown_j59
      simp only
      by_cases c1 : y < (d.Edges.length : Int)
      rotate_left
      · rw [if_neg c1]; exact Or.inr fin
      by_cases c2 : y < 2
      rotate_left
      · rw [if_pos c1, if_neg c2]; exact Or.inr fin
      by_cases c3 : 0 < (ns.length : Int)
      rotate_left
      · rw [if_pos c1, if_pos c2, if_neg c3]; exact Or.inr fin
      by_cases c4 : 0 < (T.Edges.length : Int)
      rotate_left
      · rw [if_pos c1, if_pos c2, if_pos c3, if_neg c4]; exact Or.inr fin
      obtain ⟨u0, u1, u2⟩ := he _ (nth_mem q1 c1)
      obtain ⟨m1, m2⟩ := tmod_rng u0.1 c4
      obtain ⟨m3, m4⟩ := tmod_rng u1.1 c3
      obtain ⟨m5, m6⟩ := tmod_rng u2.1 c3
      obtain ⟨f, hf⟩ := rfits_tot hT (((nth d.Edges y).e0).tmod (T.Edges.length : Int)) (nth ns (((nth d.Edges y).e1).tmod (ns.length : Int))) (nth ns (((nth d.Edges y).e2).tmod (ns.length : Int)))
      rw [if_pos c1, if_pos c2, if_pos c3, if_pos c4, if_pos ⟨q1, c1⟩, if_pos (by omega), if_pos (by omega), if_pos ⟨m3, m4⟩, if_pos ⟨m5, m6⟩, hf, Option.bind_some]
      cases f
      · exact Or.inl ⟨_, rfl, ⟨by simp only; omega, by simp only; omega, q3, by simp only; omega, q5, q6⟩, by simp only; omega⟩
      · rw [if_pos rfl, if_pos (by omega)]
        exact Or.inl ⟨_, rfl, ⟨by simp only; omega, by simp only; omega, by simp only [List.length_append, List.length_singleton]; omega, by simp only [List.length_append, List.length_singleton]; omega, all_snoc (P := fun (_ : Int) (e : api_Edge) => EOk T (ns.length : Int) e) q5 ⟨m1, m2, m3, m4, m5, m6⟩, fun i i0 i1 => by simp only; rw [nth_left i0 (by omega)]; exact q6 i i0 i1⟩, by simp only; omega⟩) (k.Edges, 0) ⟨by simp, by simp, by simp, by simp, fun i i0 i1 => (show EOk T (ns.length : Int) (nth k.Edges i) from by
        obtain ⟨a1, a2, a3, a4, a5, a6⟩ := hk.edge i i0 i1; exact ⟨a1, a2, a3, by omega, a5, by omega⟩), fun i a b => rfl⟩
    rw [e1]; exact ⟨g, rfl, e2⟩
  unfold ref24_grown_l5
  simp only
  by_cases c1 : x < (d.Nodes.length : Int)
  rotate_left
  · rw [if_neg c1]; exact Or.inr fin
  by_cases c2 : x < 2
  rotate_left
  · rw [if_pos c1, if_neg c2]; exact Or.inr fin
  by_cases c3 : 0 < (l.length : Int)
  rotate_left
  · rw [if_pos c1, if_pos c2, if_neg c3]; exact Or.inr fin
  have u := hn _ (nth_mem p1 c1)
  obtain ⟨m1, m2⟩ := tmod_rng u.1 c3
  rw [if_pos c1, if_pos c2, if_pos c3, if_pos ⟨p1, c1⟩, if_pos (by omega), if_pos ⟨m1, m2⟩, if_pos (by omega)]
  exact Or.inl ⟨_, rfl, ⟨by simp only; omega, by simp only; omega, by simp only [List.length_append, List.length_singleton]; omega, all_snoc (P := fun (_ y : Int) => KOk T y) p4 (l2 _ m1 m2), fun i i0 i1 => by simp only; rw [nth_left i0 (by omega)]; exact p5 i i0 i1⟩, by simp only; omega⟩
/-- a permutation of the numbers below n -/
def Perm (n : Int) (l : List Int) : Prop := (l.length : Int) = n ∧ Inj l ∧ ∀ i : Int, 0 ≤ i → i < n → 0 ≤ nth l i ∧ nth l i < n
theorem shuffle_law (n : Int) (h0 : 0 ≤ n) (h1 : n ≤ 100) (cs : List Int) (hc : ∀ x ∈ cs, U8 x) : ∃ l, ref05_Shuffle n cs = some l ∧ Perm n l := by
  have num : ∃ l, ref05_Numbers 0 n = some l ∧ (l.length : Int) = n ∧ ∀ i : Int, 0 ≤ i → i < (l.length : Int) → nth l i = i := by
    unfold ref05_Numbers
    refine Iter_inv (F := ref05_Numbers_l1 0 n) (fun x : List Int × Int => 0 ≤ x.2 ∧ x.2 ≤ n ∧ (x.1.length : Int) = x.2 ∧ ∀ i : Int, 0 ≤ i → i < (x.1.length : Int) → (fun (i y : Int) => y = i) i (nth x.1 i)) (fun x => (n - x.2).toNat) _ (fun x hp => ?_) ([], 0) ⟨by simp, by simp; omega, by simp, fun i a b => by simp at b; omega⟩
    obtain ⟨l, x⟩ := x
    obtain ⟨p1, p2, p3, p4⟩ := hp
    simp only at p1 p2 p3
    unfold ref05_Numbers_l1
    simp only
    by_cases hx : x < n
    · rw [if_pos hx, w64_in (by omega) (by omega), Option.bind_some, if_pos (by omega)]
      exact Or.inl ⟨_, rfl, ⟨by simp only; omega, by simp only; omega, by simp only [List.length_append, List.length_singleton]; omega, all_snoc (P := fun (i y : Int) => y = i) p4 (by omega)⟩, by simp only; omega⟩
    · rw [if_neg hx]; exact Or.inr ⟨_, rfl, by omega, p4⟩
  obtain ⟨l0, n1, n2, n3⟩ := num
  have i0 : Inj l0 := fun i j a b c d e => by rw [n3 i a b, n3 j c d] at e; exact e
  unfold ref05_Shuffle
  rw [n1, Option.bind_some]
  have fin : ∀ l : List Int, l.Perm l0 → Perm n l := fun l hl => by
    have := hl.length_eq
    refine ⟨by omega, inj_nodup.2 (hl.nodup_iff.2 (inj_nodup.1 i0)), fun i a b => ?_⟩
    obtain ⟨j, j0, j1, j2⟩ := mem_nth (hl.mem_iff.1 (nth_mem a (show i < (l.length : Int) by omega)))
    rw [n3 j j0 j1] at j2
    omega
  refine Iter_inv (F := ref05_Shuffle_l3 n cs) (fun x : List Int × Int => 0 ≤ x.2 ∧ x.1.Perm l0) (fun x => (n - x.2).toNat) _ (fun x hp => ?_) (l0, 0) ⟨by simp, List.Perm.refl _⟩
  obtain ⟨l, x⟩ := x
  obtain ⟨p1, p2⟩ := hp
  simp only at p1 p2
  have hl := p2.length_eq
  unfold ref05_Shuffle_l3 ref05_Shuffle_j31
  simp only
  by_cases c1 : x < n
  rotate_left
  · rw [if_neg c1]; exact Or.inr ⟨_, rfl, fin l p2⟩
  by_cases c2 : x < (cs.length : Int)
  rotate_left
  · rw [if_pos c1, if_neg c2]; exact Or.inr ⟨_, rfl, fin l p2⟩
  obtain ⟨m1, m2⟩ := tmod_rng (hc _ (nth_mem p1 c2)).1 (show 0 < n - x by omega)
  rw [if_pos c1, if_pos c2, if_pos ⟨p1, c2⟩, w64_in (x := n - x) (by omega) (by omega), Option.bind_some, if_pos (by omega), w64_in (by omega) (by omega), Option.bind_some, if_pos (by omega), if_pos (by omega), if_pos (by simp; omega)]
  exact Or.inl ⟨_, rfl, ⟨by simp only; omega, (swap_perm (by omega) (by omega) (by omega) (by omega)).trans p2⟩, by simp only; omega⟩
theorem permutation_ok {n : Int} {l : List Int} (h : Perm n l) : ref05_permutation l = some 0 := by
  obtain ⟨h1, h2, h3⟩ := h
  unfold ref05_permutation
  have inner : Iter (ref05_permutation_l13 l) 0 = some 0 := by
    obtain ⟨c, hc, rfl⟩ := Iter_inv (F := ref05_permutation_l13 l) (fun x : Int => 0 ≤ x ∧ x ≤ (l.length : Int)) (fun x => ((l.length : Int) - x).toNat) (fun c => c = 0) (fun x hp => by
      obtain ⟨p1, p2⟩ := hp
      unfold ref05_permutation_l13
      by_cases hx : x < (l.length : Int)
      · obtain ⟨c, hc, rfl⟩ := Iter_inv (F := ref05_permutation_l27 l x) (fun y : Int => 0 ≤ y ∧ y ≤ x) (fun y => (x - y).toNat) (fun c => c = .inl (x + 1)) (fun y hp => by
          obtain ⟨q1, q2⟩ := hp
          unfold ref05_permutation_l27
          by_cases hy : y < x
          · rw [if_pos hy, if_pos ⟨p1, hx⟩, if_pos (by omega), if_neg (fun e => by have := h2 x y p1 hx q1 (by omega) e; omega)]
            exact Or.inl ⟨_, rfl, ⟨by omega, by omega⟩, by omega⟩
          · rw [if_neg hy]; exact Or.inr ⟨_, rfl, rfl⟩) 0 ⟨by omega, by omega⟩
        rw [if_pos hx, hc]
        exact Or.inl ⟨_, rfl, ⟨by omega, by omega⟩, by omega⟩
      · rw [if_neg hx]; exact Or.inr ⟨_, rfl, rfl⟩) 0 ⟨by omega, by omega⟩
    exact hc
  obtain ⟨c, hc, rfl⟩ := Iter_inv (F := ref05_permutation_l1 l) (fun x : Int => 0 ≤ x ∧ x ≤ (l.length : Int)) (fun x => ((l.length : Int) - x).toNat) (fun c => c = 0) (fun x hp => by
    obtain ⟨p1, p2⟩ := hp
    unfold ref05_permutation_l1
    by_cases hx : x < (l.length : Int)
    · obtain ⟨a, b⟩ := h3 x p1 (by omega)
      rw [if_pos hx, if_pos ⟨p1, hx⟩, if_neg (by omega), if_neg (by omega)]
      exact Or.inl ⟨_, rfl, ⟨by omega, by omega⟩, by omega⟩
    · rw [if_neg hx, inner]; exact Or.inr ⟨_, rfl, rfl⟩) 0 ⟨by omega, by omega⟩
  exact hc
theorem reorder_law {T : api_Types} (hT : TOk T) {g : api_Graph} {a b : Int} (hg : Gok T g a b) (ha : a ≤ 40) (hb : b ≤ 80) {P Q : List Int} (hP : Perm (g.Nodes.length : Int) P) (hQ : Perm (g.Edges.length : Int) Q) :
    ∃ R, ref05_Reorder g (api_Morphism.mk P Q) = some (R, 0) ∧ Gok T R a b ∧ R.Nodes.length = g.Nodes.length ∧ R.Edges.length = g.Edges.length ∧ (∀ i : Int, 0 ≤ i → i < (g.Nodes.length : Int) → nth R.Nodes (nth P i) = nth g.Nodes i) ∧
      ∀ i : Int, 0 ≤ i → i < (g.Edges.length : Int) → nth R.Edges (nth Q i) = api_Edge.mk (nth g.Edges i).Type_ (nth P (nth g.Edges i).From) (nth P (nth g.Edges i).To) := by
  obtain ⟨c, _, c1, c2⟩ := graph_law g
  obtain ⟨P1, P2, P3⟩ := hP
  obtain ⟨Q1, Q2, Q3⟩ := hQ
  unfold ref05_Reorder
  rw [c1, Option.bind_some, if_neg (by simp; exact c2.2 (hg.ok hT ha hb)), if_neg (by simp; omega), if_neg (by simp; omega), permutation_ok ⟨P1, P2, P3⟩, Option.bind_some, if_neg (by simp), permutation_ok ⟨Q1, Q2, Q3⟩, Option.bind_some, if_neg (by simp), copied5 hg (by omega) (by omega), Option.bind_some]
  obtain ⟨r, e1, e2, e3⟩ := Iter_inv (F := ref05_Reorder_l14 g g (api_Morphism.mk P Q)) (fun x : List Int × Int => 0 ≤ x.2 ∧ x.2 ≤ (g.Nodes.length : Int) ∧ x.1.length = g.Nodes.length ∧ (∀ i : Int, 0 ≤ i → i < (x.1.length : Int) → (fun (_ y : Int) => KOk T y) i (nth x.1 i)) ∧ ∀ i : Int, 0 ≤ i → i < x.2 → nth x.1 (nth P i) = nth g.Nodes i) (fun x => ((g.Nodes.length : Int) - x.2).toNat)
    (fun r : api_Graph × Int => r.2 = 0 ∧ (Gok T r.1 a b ∧ r.1.Nodes.length = g.Nodes.length ∧ r.1.Edges.length = g.Edges.length ∧ (∀ i : Int, 0 ≤ i → i < (g.Nodes.length : Int) → nth r.1.Nodes (nth P i) = nth g.Nodes i) ∧
      ∀ i : Int, 0 ≤ i → i < (g.Edges.length : Int) → nth r.1.Edges (nth Q i) = api_Edge.mk (nth g.Edges i).Type_ (nth P (nth g.Edges i).From) (nth P (nth g.Edges i).To))) (fun x hp => by
    obtain ⟨ns, x⟩ := x
    obtain ⟨p1, p2, p3, p4, p5⟩ := hp
    simp only at p1 p2 p3 p5
    unfold ref05_Reorder_l14
    simp only
    by_cases hx : x < (g.Nodes.length : Int)
    · obtain ⟨m1, m2⟩ := P3 x p1 hx
      rw [if_pos hx, if_pos (by omega), if_pos ⟨p1, hx⟩, if_pos (by omega)]
      refine Or.inl ⟨_, rfl, ⟨by simp only; omega, by simp only; omega, by simpa using p3, all_set (P := fun (_ y : Int) => KOk T y) m1 p4 (hg.node x p1 hx), fun i i0 i1 => ?_⟩, by simp only; omega⟩
      simp only at i1 ⊢
      by_cases e : i = x
      · subst e; rw [nth_set_eq m1 (by omega)]
      · have ne : nth P i ≠ nth P x := fun h => e (P2 i x i0 (by omega) p1 (by omega) h)
        rw [nth_set_ne m1 ne (P3 i i0 (by omega)).1]
        exact p5 i i0 (by omega)
    · rw [if_neg hx]
      obtain ⟨r, e1, e2⟩ := Iter_inv (F := ref05_Reorder_l26 g (api_Morphism.mk P Q) (ns, x)) (fun y : List api_Edge × Int => 0 ≤ y.2 ∧ y.2 ≤ (g.Edges.length : Int) ∧ y.1.length = g.Edges.length ∧ (∀ i : Int, 0 ≤ i → i < (y.1.length : Int) → (fun (_ : Int) (e : api_Edge) => EOk T (g.Nodes.length : Int) e) i (nth y.1 i)) ∧
          ∀ i : Int, 0 ≤ i → i < y.2 → nth y.1 (nth Q i) = api_Edge.mk (nth g.Edges i).Type_ (nth P (nth g.Edges i).From) (nth P (nth g.Edges i).To)) (fun y => ((g.Edges.length : Int) - y.2).toNat)
        (fun r : api_Graph × Int => r.2 = 0 ∧ (Gok T r.1 a b ∧ r.1.Nodes.length = g.Nodes.length ∧ r.1.Edges.length = g.Edges.length ∧ (∀ i : Int, 0 ≤ i → i < (g.Nodes.length : Int) → nth r.1.Nodes (nth P i) = nth g.Nodes i) ∧
          ∀ i : Int, 0 ≤ i → i < (g.Edges.length : Int) → nth r.1.Edges (nth Q i) = api_Edge.mk (nth g.Edges i).Type_ (nth P (nth g.Edges i).From) (nth P (nth g.Edges i).To))) (fun y hp => by
        obtain ⟨es, y⟩ := y
        obtain ⟨q1, q2, q3, q4, q5⟩ := hp
        simp only at q1 q2 q3 q5
        unfold ref05_Reorder_l26
        simp only
        by_cases hy : y < (g.Edges.length : Int)
        · obtain ⟨m1, m2⟩ := Q3 y q1 hy
          obtain ⟨d1, d2, d3, d4, d5, d6⟩ := hg.edge y q1 hy
          have f1 := P3 _ d3 d4
          have f2 := P3 _ d5 d6
          rw [if_pos hy, if_pos ⟨q1, hy⟩, if_pos (by omega), if_pos (by omega), if_pos (by omega), if_pos (by omega)]
          refine Or.inl ⟨_, rfl, ⟨by simp only; omega, by simp only; omega, by simpa using q3, all_set (P := fun (_ : Int) (e : api_Edge) => EOk T (g.Nodes.length : Int) e) m1 q4 ⟨d1, d2, f1.1, f1.2, f2.1, f2.2⟩, fun i i0 i1 => ?_⟩, by simp only; omega⟩
          simp only at i1 ⊢
          by_cases e : i = y
          · subst e; rw [nth_set_eq m1 (by omega)]
          · have ne : nth Q i ≠ nth Q y := fun h => e (Q2 i y i0 (by omega) q1 (by omega) h)
            rw [nth_set_ne m1 ne (Q3 i i0 (by omega)).1]
            exact q5 i i0 (by omega)
        · rw [if_neg hy]
          refine Or.inr ⟨_, rfl, rfl, ⟨by have := hg.a; simp only; omega, by have := hg.b; simp only; omega, p4, ?_⟩, p3, q3, fun i i0 i1 => p5 i i0 (by omega), fun i i0 i1 => q5 i i0 (by omega)⟩
          intro i i0 i1
          simp only
          rw [p3]
          exact q4 i i0 i1) (g.Edges, 0) ⟨by simp, by simp, rfl, hg.edge, fun i i0 i1 => by simp at i1; omega⟩
      rw [e1]; exact Or.inr ⟨r, rfl, e2⟩) (g.Nodes, 0) ⟨by simp, by simp, rfl, hg.node, fun i i0 i1 => by simp at i1; omega⟩
  obtain ⟨R, z⟩ := r
  simp only at e2
  subst e2
  exact ⟨R, e1, e3⟩

/-! ### what always answers -/
theorem slots_tot {T : api_Types} (hT : TOk T) {g : api_Graph} {a b : Int} (hg : Gok T g a b) (v : Int) (v0 : 0 ≤ v) (v3 : v ≤ 3) (cs : List Arr3_c_u8) (hc : ∀ x ∈ cs, U3 x) : ∃ l, ref24_slots T g v cs = some l := by
  unfold ref24_slots
  obtain ⟨l, hl, _⟩ := Iter_inv (F := ref24_slots_l1 T g v cs) (fun x : List api_Slot × Int => 0 ≤ x.2 ∧ x.2 ≤ 3 ∧ (x.1.length : Int) ≤ x.2) (fun x => (3 - x.2).toNat) (fun _ => True) (fun x hp => by
    obtain ⟨l, x⟩ := x
    obtain ⟨p1, p2, p3⟩ := hp
    simp only at p1 p2 p3
    unfold ref24_slots_l1 ref24_slots_j69 ref24_slots_j65
    simp only
    by_cases c1 : x < (cs.length : Int)
    rotate_left
    · rw [if_neg c1]; exact Or.inr ⟨_, rfl, trivial⟩
    by_cases c2 : x < 3
    rotate_left
    · rw [if_pos c1, if_neg c2]; exact Or.inr ⟨_, rfl, trivial⟩
    by_cases c3 : 0 < (g.Nodes.length : Int)
    rotate_left
    · rw [if_pos c1, if_pos c2, if_neg c3]; exact Or.inr ⟨_, rfl, trivial⟩
    obtain ⟨u0, u1, u2⟩ := hc _ (nth_mem p1 c1)
    obtain ⟨m1, m2⟩ := tmod_rng u0.1 c3
    obtain ⟨k1, k2⟩ := hg.node _ m1 m2
    obtain ⟨w, w1, w2⟩ := rAttrs_tot hT _ k1 k2
    rw [if_pos c1, if_pos c2, if_pos c3, if_pos ⟨p1, c1⟩, if_pos (by omega), if_pos ⟨m1, m2⟩, w1, Option.bind_some]
    by_cases c4 : (w.1.length : Int) = 0
    · rw [if_pos c4]; exact Or.inl ⟨_, rfl, ⟨by simp only; omega, by simp only; omega, by simp only; omega⟩, by simp only; omega⟩
    rw [if_neg c4, if_pos c4, Option.bind_some, w64_in (x := v + 1) (by omega) (by omega), Option.bind_some, if_pos (by omega), Option.bind_some]
    generalize w64 ((IntKind.wrap .u8 (((nth cs x).e1).tdiv 16)).tmod (v + 1) - 1) = q
    obtain ⟨c, hc', r, e, hr⟩ := Iter_inv (F := ref24_slots_l44 w q g cs (l, x)) (fun y : Bool × Int => 0 ≤ y.2 ∧ y.2 ≤ (l.length : Int)) (fun y => ((l.length : Int) - y.2).toNat) (fun c => ∃ r : List api_Slot, c = .inl (r, x + 1) ∧ (r.length : Int) ≤ x + 1) (fun y hp => by
      obtain ⟨t, y⟩ := y
      obtain ⟨q1, q2⟩ := hp
      simp only at q1 q2
      unfold ref24_slots_l44 ref24_slots_j55 ref24_slots_j61 ref24_slots_j65
      simp only
      by_cases hy : y < (l.length : Int)
      · rw [if_pos hy]
        cases t
        · rw [if_neg (by simp), if_pos ⟨q1, hy⟩]
          split <;> exact Or.inl ⟨_, rfl, ⟨by simp only; omega, by simp only; omega⟩, by simp only; omega⟩
        · rw [if_pos rfl]; exact Or.inl ⟨_, rfl, ⟨by simp only; omega, by simp only; omega⟩, by simp only; omega⟩
      · rw [if_neg hy]
        cases t
        · rw [if_pos (by simp), if_pos (by omega)]
          exact Or.inr ⟨_, rfl, _, rfl, by simp only [List.length_append, List.length_singleton]; omega⟩
        · rw [if_neg (by simp)]; exact Or.inr ⟨_, rfl, _, rfl, by omega⟩) (false, 0) ⟨by simp, by simp⟩
    rw [hc', e]
    exact Or.inl ⟨_, rfl, ⟨by simp only; omega, by simp only; omega, hr⟩, by simp only; omega⟩) ([], 0) ⟨by simp, by simp, by simp⟩
  exact ⟨l, hl⟩
theorem finest_tot (n : Int) (h0 : 0 ≤ n) (h1 : n ≤ 100) : ∃ l, ref02_Finest n = some l := by
  unfold ref02_Finest
  obtain ⟨l, hl, _⟩ := Iter_inv (F := ref02_Finest_l1 n) (fun x : List Int × Int => 0 ≤ x.2 ∧ x.2 ≤ n ∧ (x.1.length : Int) = x.2) (fun x => (n - x.2).toNat) (fun _ => True) (fun x hp => by
    obtain ⟨l, x⟩ := x
    obtain ⟨p1, p2, p3⟩ := hp
    simp only at p1 p2 p3
    unfold ref02_Finest_l1
    simp only
    by_cases hx : x < n
    · rw [if_pos hx, if_pos (by omega)]; exact Or.inl ⟨_, rfl, ⟨by simp only; omega, by simp only; omega, by simp only [List.length_append, List.length_singleton]; omega⟩, by simp only; omega⟩
    · rw [if_neg hx]; exact Or.inr ⟨_, rfl, trivial⟩) ([], 0) ⟨by simp, h0, by simp⟩
  exact ⟨l, hl⟩
theorem forbid_tot {T : api_Types} (hT : TOk T) {p : api_Pattern} (hg : Gok T p.Graph 8 10) (x : Arr4_c_u8) : ∃ c, ref24_forbid T p x = some c := by
  have n1 := hT.n1
  have ha := hg.a
  have hb := hg.b
  have fin : ∀ v, ∃ c, ref24_forbid_j12 p v = some c := fun v => by
    unfold ref24_forbid_j12 ref06_Of
    obtain ⟨l1, h1⟩ := finest_tot (p.Graph.Nodes.length : Int) (by omega) (by omega)
    obtain ⟨l2, h2⟩ := finest_tot (p.Graph.Edges.length : Int) (by omega) (by omega)
    rw [h1, h2]; exact ⟨_, rfl⟩
  unfold ref24_forbid
  rw [copied5 hg (by omega) (by omega), Option.bind_some]
  by_cases c1 : (x.e0).tmod 4 = 1
  · rw [if_pos c1, if_pos (by omega), if_pos (by omega)]; exact fin _
  rw [if_neg c1]
  by_cases c2 : (x.e0).tmod 4 = 2
  rotate_left
  · rw [if_neg c2]; exact ⟨_, rfl⟩
  rw [if_pos c2]
  by_cases c3 : (p.Graph.Nodes.length : Int) = 0
  · rw [if_pos c3]; exact ⟨_, rfl⟩
  rw [if_neg c3]
  by_cases c4 : (T.Edges.length : Int) = 0
  · rw [if_pos c4]; exact ⟨_, rfl⟩
  rw [if_neg c4, if_pos (by omega), if_pos (by omega), if_pos (by omega)]; exact fin _
end Go.Proofs.YtpnfoacmgfklaaaGreat.K
