import Derived.Test.YtngimdmkomkeoaaGreatLawMa
set_option linter.unusedVariables false
set_option linter.unusedSimpArgs false
namespace Go.Proofs.YtngimdmkomkeoaaGreat.K
open Go.RowKit Go.Proofs
def je (T : aq) (n : Int) (e : ba) : Prop := 0 ≤ e.Type_ ∧ e.Type_ < (T.Edges.length : Int) ∧ 0 ≤ e.From ∧ e.From < n ∧ 0 ≤ e.To ∧ e.To < n
def gi (T : aq) (k : Int) : Prop := 0 ≤ k ∧ k < (T.Nodes.length : Int)
structure e8 (T : aq) (g : ar) (a b : Int) : Prop where
  a : (g.Nodes.length : Int) ≤ a
  b : (g.Edges.length : Int) ≤ b
  node : ∀ i : Int, 0 ≤ i → i < (g.Nodes.length : Int) → gi T (nth g.Nodes i)
  edge : ∀ i : Int, 0 ≤ i → i < (g.Edges.length : Int) → je T (g.Nodes.length : Int) (nth g.Edges i)
theorem e8.ok {T : aq} (hT : dF T) {g : ar} {a b : Int} (h : e8 T g a b) (ha : a ≤ 40) (hb : b ≤ 80) : gK g := by
  have n6 := hT.n6
  have e5 := hT.e5
  refine ⟨by have := h.a; omega, by have := h.b; omega, fun i h0 h1 => ?_, fun i h0 h1 => ?_⟩
  · obtain ⟨x, y⟩ := h.node i h0 h1; omega
  · obtain ⟨x1, x2, x3, x4, x5, x6⟩ := h.edge i h0 h1; exact ⟨x1, by omega, x3, x4, x5, x6⟩
def U3 (x : f5) : Prop := U8 x.e0 ∧ U8 x.e1 ∧ U8 x.e2
theorem C9 {T : aq} (hT : dF T) (ns : List Int) (es : List ba) (k : Int) (hl : (ns.length : Int) ≤ 100) (hn : ∀ i : Int, 0 ≤ i → i < (ns.length : Int) → gi T (nth ns i)) :
    ∃ l, po T (ar.mk ns es) k = some l ∧ (l.length : Int) ≤ ns.length ∧ ∀ i : Int, 0 ≤ i → i < (l.length : Int) → 0 ≤ nth l i ∧ nth l i < (ns.length : Int) := by
  unfold po
  refine cl (F := y8 T (ar.mk ns es) k) (fun x : List Int × Int => 0 ≤ x.2 ∧ x.2 ≤ (ns.length : Int) ∧ (x.1.length : Int) ≤ x.2 ∧ ∀ i : Int, 0 ≤ i → i < (x.1.length : Int) → (fun (_ y : Int) => 0 ≤ y ∧ y < (ns.length : Int)) i (nth x.1 i)) (fun x => ((ns.length : Int) - x.2).toNat) _ (fun x hp => ?_) ([], 0) ⟨by simp, by simp, by simp, fun i a b => by simp at b; omega⟩
  obtain ⟨l, x⟩ := x
  obtain ⟨p1, p2, p3, p4⟩ := hp
  simp only at p1 p2 p3
  unfold y8 uh
  simp only
  by_cases hx : x < (ns.length : Int)
  · obtain ⟨c, hc⟩ := wX hT (nth ns x) k (hn x p1 hx).2
    rw [if_pos hx, if_pos ⟨p1, hx⟩, hc, Option.bind_some]
    cases c
    · exact Or.inl ⟨_, rfl, ⟨by simp only; omega, by simp only; omega, by simp only; omega, p4⟩, by simp only; omega⟩
    · rw [if_pos rfl, if_pos (by omega)]
      exact Or.inl ⟨_, rfl, ⟨by simp only; omega, by simp only; omega, by simp only [List.length_append, List.length_singleton]; omega, iU (P := fun (_ y : Int) => 0 ≤ y ∧ y < (ns.length : Int)) p4 ⟨p1, hx⟩⟩, by simp only; omega⟩
  · rw [if_neg hx]; exact Or.inr ⟨_, rfl, by omega, p4⟩
theorem JQ {T : aq} (hT : dF T) (d : g9) (hn : ∀ x ∈ d.Nodes, U8 x) (he : ∀ x ∈ d.Edges, U3 x) : ∃ g, sP T d true = some g ∧ e8 T g 8 10 := by
  have n6 := hT.n6
  unfold sP
  refine cl (F := xJ T d true) (fun x : List Int × Int => 0 ≤ x.2 ∧ x.2 ≤ (T.Nodes.length : Int) ∧ (x.1.length : Int) = x.2 ∧ ∀ i : Int, 0 ≤ i → i < (x.1.length : Int) → (fun (_ y : Int) => gi T y) i (nth x.1 i)) (fun x => ((T.Nodes.length : Int) - x.2).toNat) _ (fun x hp => ?_) ([], 0) ⟨by simp, by simp, by simp, fun i a b => by simp at b; omega⟩
  obtain ⟨ks, x⟩ := x
  obtain ⟨p1, p2, p3, p4⟩ := hp
  simp only at p1 p2 p3
  unfold xJ tQ tR
  simp only
  by_cases hx : x < (T.Nodes.length : Int)
  · rw [if_pos hx, if_pos trivial, if_pos (by omega)]
    exact Or.inl ⟨_, rfl, ⟨by simp only; omega, by simp only; omega, by simp only [List.length_append, List.length_singleton]; omega, iU (P := fun (_ y : Int) => gi T y) p4 ⟨p1, hx⟩⟩, by simp only; omega⟩
  · rw [if_neg hx]
    right
    have edges : ∀ (ns : List Int) (i : Int), (ns.length : Int) ≤ 8 → (∀ i : Int, 0 ≤ i → i < (ns.length : Int) → gi T (nth ns i)) → ∃ g, nF T d (ns, i) () = some (.inr g) ∧ e8 T g 8 10 := fun ns i hl hk => by
      unfold nF
      obtain ⟨g, e1, e2⟩ := cl (F := y6 T d (ns, i)) (fun x : List ba × Int => 0 ≤ x.2 ∧ x.2 ≤ 10 ∧ (x.1.length : Int) ≤ x.2 ∧ ∀ i : Int, 0 ≤ i → i < (x.1.length : Int) → (fun (_ : Int) (e : ba) => je T (ns.length : Int) e) i (nth x.1 i)) (fun x => (10 - x.2).toNat) (fun g => e8 T g 8 10) (fun x hp => by
        obtain ⟨es, x⟩ := x
        obtain ⟨q1, q2, q3, q4⟩ := hp
        simp only at q1 q2 q3
        have fin : ∃ g, pW (ns, i) (es, x) () = some (.inr g) ∧ e8 T g 8 10 := ⟨_, rfl, by simp only; omega, by simp only; omega, hk, q4⟩
        unfold y6
        simp only
        by_cases c1 : x < (d.Edges.length : Int)
        rotate_left
        · rw [if_neg c1]; exact Or.inr fin
        by_cases c2 : x < 10
        rotate_left
        · rw [if_pos c1, if_neg c2]; exact Or.inr fin
        by_cases c3 : 0 < (T.Edges.length : Int)
        rotate_left
        · rw [if_pos c1, if_pos c2, if_neg c3]; exact Or.inr fin
        obtain ⟨u0, u1, u2⟩ := he _ (cu q1 c1)
        obtain ⟨m1, m2⟩ := fI u0.1 c3
        obtain ⟨l1, a1, a2, a3⟩ := C9 hT ns es (nth T.Edges (((nth d.Edges x).e0).tmod (T.Edges.length : Int))).From (by omega) hk
        obtain ⟨l2, b1, b2, b3⟩ := C9 hT ns es (nth T.Edges (((nth d.Edges x).e0).tmod (T.Edges.length : Int))).To (by omega) hk
        rw [if_pos c1, if_pos c2, if_pos c3, if_pos ⟨q1, c1⟩, if_pos (by omega), if_pos ⟨m1, m2⟩, a1, Option.bind_some, b1, Option.bind_some]
        unfold tS tT
        simp only
        have skip : (∃ x', (some (Sum.inl (es, x + 1)) : Option ((List ba × Int) ⊕ ar)) = some (.inl x') ∧ (0 ≤ x'.2 ∧ x'.2 ≤ 10 ∧ (x'.1.length : Int) ≤ x'.2 ∧ ∀ i : Int, 0 ≤ i → i < (x'.1.length : Int) → je T (ns.length : Int) (nth x'.1 i)) ∧ (10 - x'.2).toNat < (10 - x).toNat) :=
          ⟨_, rfl, ⟨by simp only; omega, by simp only; omega, by simp only; omega, q4⟩, by simp only; omega⟩
        by_cases c4 : 0 < (l1.length : Int)
        rotate_left
        · rw [if_neg c4]; exact Or.inl skip
        by_cases c5 : 0 < (l2.length : Int)
        rotate_left
        · rw [if_pos c4, if_neg c5]; exact Or.inl skip
        obtain ⟨m3, m4⟩ := fI u1.1 c4
        obtain ⟨m5, m6⟩ := fI u2.1 c5
        have r1 := a3 _ m3 m4
        have r2 := b3 _ m5 m6
        rw [if_pos c4, if_pos c5, if_pos (by omega), if_pos ⟨m3, m4⟩, if_pos (by omega), if_pos ⟨m5, m6⟩, if_pos (by omega)]
        exact Or.inl ⟨_, rfl, ⟨by simp only; omega, by simp only; omega, by simp only [List.length_append, List.length_singleton]; omega, iU (P := fun (_ : Int) (e : ba) => je T (ns.length : Int) e) q4 ⟨m1, m2, r1.1, r1.2, r2.1, r2.2⟩⟩, by simp only; omega⟩) ([], 0) ⟨by simp, by simp, by simp, fun i a b => by simp at b; omega⟩
      rw [e1]; exact ⟨g, rfl, e2⟩
    obtain ⟨g, e1, e2⟩ := cl (F := y5 T d (ks, x)) (fun y : List Int × Int => 0 ≤ y.2 ∧ y.2 ≤ 8 ∧ (y.1.length : Int) = y.2 ∧ ∀ i : Int, 0 ≤ i → i < (y.1.length : Int) → (fun (_ y : Int) => gi T y) i (nth y.1 i)) (fun y => (8 - y.2).toNat) (fun g => e8 T g 8 10) (fun y hp => by
      obtain ⟨ns, y⟩ := y
      obtain ⟨q1, q2, q3, q4⟩ := hp
      simp only at q1 q2 q3
      have fin := edges ns y (by omega) q4
      unfold y5
      simp only
      by_cases c1 : y < (d.Nodes.length : Int)
      rotate_left
      · rw [if_neg c1]; exact Or.inr fin
      by_cases c2 : y < 8
      rotate_left
      · rw [if_pos c1, if_neg c2]; exact Or.inr fin
      by_cases c3 : 0 < (ks.length : Int)
      rotate_left
      · rw [if_pos c1, if_pos c2, if_neg c3]; exact Or.inr fin
      have u := hn _ (cu q1 c1)
      obtain ⟨m1, m2⟩ := fI u.1 c3
      rw [if_pos c1, if_pos c2, if_pos c3, if_pos ⟨q1, c1⟩, if_pos (by omega), if_pos ⟨m1, m2⟩, if_pos (by omega)]
      exact Or.inl ⟨_, rfl, ⟨by simp only; omega, by simp only; omega, by simp only [List.length_append, List.length_singleton]; omega, iU (P := fun (_ y : Int) => gi T y) q4 (p4 _ m1 m2)⟩, by simp only; omega⟩) ([], 0) ⟨by simp, by simp, by simp, fun i a b => by simp at b; omega⟩
    rw [e1]; exact ⟨g, rfl, e2⟩
theorem JO (v : Int) (h0 : 0 ≤ v) (h1 : v ≤ 3) (x : iX) : ∃ t, sM v x = some t := by
  unfold sM ql
  rw [if_pos (by omega), bL (x := v + 1) (by omega) (by omega)]
  simp only [Option.bind_some]
  rw [if_pos (show v + 1 ≠ 0 by omega)]
  simp only [Option.bind_some]
  rw [if_pos (show v + 1 ≠ 0 by omega)]
  exact ⟨_, rfl⟩
theorem JR {T : aq} (hT : dF T) (d : gv) (hn : ∀ x ∈ d.Graph.Nodes, U8 x) (he : ∀ x ∈ d.Graph.Edges, U3 x) (hs : ∀ x ∈ d.Slots, U3 x) : ∃ p, sQ T d = some p ∧ e8 T p.Graph 8 10 ∧ 0 ≤ p.Vars ∧ p.Vars ≤ 3 := by
  unfold sQ
  obtain ⟨g, g1, g2⟩ := JQ hT d.Graph hn he
  have ga := g2.a
  rw [g1, Option.bind_some]
  refine cl (F := xK g T d) (fun x : List fl × Int => 0 ≤ x.2 ∧ x.2 ≤ (g.Nodes.length : Int) ∧ (x.1.length : Int) ≤ 6 * x.2) (fun x => ((g.Nodes.length : Int) - x.2).toNat) _ (fun x hp => ?_) ([], 0) ⟨by simp, by simp, by simp⟩
  obtain ⟨al, x⟩ := x
  obtain ⟨p1, p2, p3⟩ := hp
  simp only at p1 p2 p3
  unfold xK
  simp only
  by_cases hx : x < (g.Nodes.length : Int)
  · obtain ⟨k1, k2⟩ := g2.node x p1 hx
    obtain ⟨b, b1, b2⟩ := CC hT _ k1 k2
    rw [if_pos hx, if_pos ⟨p1, hx⟩, b1, Option.bind_some]
    obtain ⟨c, hc, ys, e, hl⟩ := cl (F := y9 b (al, x)) (fun y : List fl × Int => 0 ≤ y.2 ∧ y.2 ≤ (b.1.length : Int) ∧ (y.1.length : Int) ≤ 6 * x + y.2) (fun y => ((b.1.length : Int) - y.2).toNat) (fun c => ∃ ys, c = .inl (ys, x + 1) ∧ (ys.length : Int) ≤ 6 * (x + 1)) (fun y hp => by
      obtain ⟨ys, y⟩ := y
      obtain ⟨q1, q2, q3⟩ := hp
      simp only at q1 q2 q3
      unfold y9
      simp only
      by_cases hy : y < (b.1.length : Int)
      · rw [if_pos hy, if_pos (by omega)]
        exact Or.inl ⟨_, rfl, ⟨by simp only; omega, by simp only; omega, by simp only [List.length_append, List.length_singleton]; omega⟩, by simp only; omega⟩
      · rw [if_neg hy]; exact Or.inr ⟨_, rfl, _, rfl, by omega⟩) (al, 0) ⟨by simp, by simp only; omega, by simp only; omega⟩
    rw [hc, e]
    exact Or.inl ⟨_, rfl, ⟨by simp only; omega, by simp only; omega, by simp only; omega⟩, by simp only; omega⟩
  · rw [if_neg hx]
    right
    have tests : ∀ (ss : List bU) (v i : Int), 0 ≤ v → v ≤ 3 → ∃ p, nG g d (ss, v, i) () = some (.inr p) ∧ e8 T p.Graph 8 10 ∧ 0 ≤ p.Vars ∧ p.Vars ≤ 3 := fun ss v i v0 v3 => by
      unfold nG
      obtain ⟨p, e1, e2⟩ := cl (F := yb g d (ss, v, i)) (fun x : List dP × Int => 0 ≤ x.2 ∧ x.2 ≤ 3 ∧ (x.1.length : Int) = x.2) (fun x => (3 - x.2).toNat) (fun p : aJ => e8 T p.Graph 8 10 ∧ 0 ≤ p.Vars ∧ p.Vars ≤ 3) (fun x hp => by
        obtain ⟨ts, x⟩ := x
        obtain ⟨q1, q2, q3⟩ := hp
        simp only at q1 q2 q3
        have fin : ∃ p, tV g (ss, v, i) (ts, x) () = some (.inr p) ∧ e8 T p.Graph 8 10 ∧ 0 ≤ p.Vars ∧ p.Vars ≤ 3 := ⟨_, rfl, g2, v0, v3⟩
        unfold yb
        simp only
        by_cases c1 : x < (d.Tests.length : Int)
        rotate_left
        · rw [if_neg c1]; exact Or.inr fin
        by_cases c2 : x < 3
        rotate_left
        · rw [if_pos c1, if_neg c2]; exact Or.inr fin
        obtain ⟨t, ht⟩ := JO v v0 v3 (nth d.Tests x)
        rw [if_pos c1, if_pos c2, if_pos ⟨q1, c1⟩, ht, Option.bind_some, if_pos (by omega)]
        exact Or.inl ⟨_, rfl, ⟨by simp only; omega, by simp only; omega, by simp only [List.length_append, List.length_singleton]; omega⟩, by simp only; omega⟩) ([], 0) ⟨by simp, by simp, by simp⟩
      rw [e1]; exact ⟨p, rfl, e2⟩
    obtain ⟨p, e1, e2⟩ := cl (F := ya g d (al, x)) (fun y : List bU × Int × Int => 0 ≤ y.2.1 ∧ y.2.1 ≤ 3 ∧ 0 ≤ y.2.2 ∧ y.2.2 ≤ 4 ∧ (y.1.length : Int) = y.2.2) (fun y => (4 - y.2.2).toNat) (fun p : aJ => e8 T p.Graph 8 10 ∧ 0 ≤ p.Vars ∧ p.Vars ≤ 3) (fun y hp => by
      obtain ⟨ss, v, y⟩ := y
      obtain ⟨q1, q2, q3, q4, q5⟩ := hp
      simp only at q1 q2 q3 q4 q5
      have fin := tests ss v y q1 q2
      unfold ya
      simp only
      by_cases c1 : y < (d.Slots.length : Int)
      rotate_left
      · rw [if_neg c1]; exact Or.inr fin
      by_cases c2 : y < 4
      rotate_left
      · rw [if_pos c1, if_neg c2]; exact Or.inr fin
      by_cases c3 : 0 < (al.length : Int)
      rotate_left
      · rw [if_pos c1, if_pos c2, if_neg c3]; exact Or.inr fin
      have u := hs _ (cu q3 c1)
      obtain ⟨m1, m2⟩ := fI u.1.1 c3
      have next : ∀ w : Int × bU, 0 ≤ w.1 → w.1 ≤ 4 → ∃ x', pX (ss, v, y) w = some (.inl x') ∧ (0 ≤ x'.2.1 ∧ x'.2.1 ≤ 3 ∧ 0 ≤ x'.2.2 ∧ x'.2.2 ≤ 4 ∧ (x'.1.length : Int) = x'.2.2) ∧ (4 - x'.2.2).toNat < (4 - y).toNat := fun w w0 w4 => by
        unfold pX tU
        simp only
        by_cases h : 3 < w.1
        · rw [if_pos h, if_pos (by omega)]
          exact ⟨_, rfl, ⟨by simp only; omega, by simp only; omega, by simp only; omega, by simp only; omega, by simp only [List.length_append, List.length_singleton]; omega⟩, by simp only; omega⟩
        · rw [if_neg h, if_pos (by omega)]
          exact ⟨_, rfl, ⟨by simp only; omega, by simp only; omega, by simp only; omega, by simp only; omega, by simp only [List.length_append, List.length_singleton]; omega⟩, by simp only; omega⟩
      rw [if_pos c1, if_pos c2, if_pos c3, if_pos ⟨q3, c1⟩, if_pos (by omega), if_pos ⟨m1, m2⟩, Option.bind_some, Option.bind_some]
      by_cases h : v ≤ bb ((((nth d.Slots y).e1).tmod 5) - 1)
      · rw [if_pos h, bL (x := v + 1) (by omega) (by omega), Option.bind_some]
        exact Or.inl (next _ (by simp only; omega) (by simp only; omega))
      · rw [if_neg h]
        exact Or.inl (next _ (by simp only; omega) (by simp only; omega))) ([], 0, 0) ⟨by simp, by simp, by simp, by simp, by simp⟩
    rw [e1]; exact ⟨p, rfl, e2⟩
theorem Cy (bs : List Bool) (hl : (bs.length : Int) ≤ 100) : ∃ l, pv bs = some l ∧ Up (bs.length : Int) l ∧ ∀ i : Int, 0 ≤ i → i < (bs.length : Int) → (i ∈ l ↔ nth bs i = true) := by
  unfold pv
  refine cl (F := yq bs) (fun x : List Int × Int => 0 ≤ x.2 ∧ x.2 ≤ (bs.length : Int) ∧ (x.1.length : Int) ≤ x.2 ∧ Up x.2 x.1 ∧ ∀ i : Int, 0 ≤ i → i < x.2 → (i ∈ x.1 ↔ nth bs i = true)) (fun x => ((bs.length : Int) - x.2).toNat) _ (fun x hp => ?_) ([], 0) ⟨by simp, by simp, by simp, fun i a b => by simp at b; omega, fun i a b => by simp at b; omega⟩
  obtain ⟨l, x⟩ := x
  obtain ⟨p1, p2, p3, p4, p5⟩ := hp
  simp only at p1 p2 p3 p4 p5
  unfold yq ux
  simp only
  by_cases hx : x < (bs.length : Int)
  · rw [if_pos hx, if_pos ⟨p1, hx⟩]
    by_cases hb : nth bs x = true
    · rw [if_pos hb, if_pos (by omega)]
      refine Or.inl ⟨_, rfl, ⟨by simp only; omega, by simp only; omega, by simp only [List.length_append, List.length_singleton]; omega, ?_, ?_⟩, by simp only; omega⟩
      · intro i i0 i1
        simp only [List.length_append, List.length_singleton] at i1
        by_cases e : i = (l.length : Int)
        · subst e
          simp only
          rw [kG rfl]
          refine ⟨p1, by omega, fun h => ?_⟩
          rw [i9 (by omega) (by omega)]
          exact (p4 ((l.length : Int) - 1) (by omega) (by omega)).2.1
        · obtain ⟨u1, u2, u3⟩ := p4 i i0 (by omega)
          simp only
          rw [i9 i0 (by omega)]
          exact ⟨u1, by omega, fun h => by rw [i9 (by omega) (by omega)]; exact u3 h⟩
      · intro i i0 i1
        simp only at i1 ⊢
        by_cases e : i = x
        · subst e; simp [hb]
        · rw [List.mem_append, ← p5 i i0 (by omega)]; simp [e]
    · rw [if_neg hb]
      refine Or.inl ⟨_, rfl, ⟨by simp only; omega, by simp only; omega, by simp only; omega, fun i i0 i1 => ?_, fun i i0 i1 => ?_⟩, by simp only; omega⟩
      · obtain ⟨u1, u2, u3⟩ := p4 i i0 i1; exact ⟨u1, by simp only; omega, u3⟩
      · simp only at i1 ⊢
        by_cases e : i = x
        · subst e
          refine ⟨fun h => ?_, fun h => absurd h hb⟩
          obtain ⟨j, j0, j1, j2⟩ := eo h
          have := (p4 j j0 j1).2.1; omega
        · exact p5 i i0 (by omega)
  · rw [if_neg hx]
    have e : x = (bs.length : Int) := by omega
    subst e
    exact Or.inr ⟨_, rfl, p4, p5⟩
theorem JM (g : ar) (hg : gK g) (ns es : List Bool) (hn : (ns.length : Int) = g.Nodes.length) (he : (es.length : Int) = g.Edges.length) : ∃ p, sY g ns es = some p ∧ it g p := by
  obtain ⟨g1, g2, _, g4⟩ := hg
  unfold sY
  rw [if_pos (by omega)]
  refine cl (F := xX g es) (fun x : List Bool × Int => 0 ≤ x.2 ∧ x.2 ≤ (es.length : Int) ∧ (x.1.length : Int) = g.Nodes.length ∧ ∀ j : Int, 0 ≤ j → j < x.2 → nth es j = true → nth x.1 (nth g.Edges j).From = true ∧ nth x.1 (nth g.Edges j).To = true) (fun x => ((es.length : Int) - x.2).toNat) _ (fun x hp => ?_) (ns, 0) ⟨by simp, by simp, hn, fun i a b => by simp at b; omega⟩
  obtain ⟨l, x⟩ := x
  obtain ⟨p1, p2, p3, p4⟩ := hp
  simp only at p1 p2 p3 p4
  unfold xX uf
  simp only
  by_cases hx : x < (es.length : Int)
  · rw [if_pos hx, if_pos ⟨p1, hx⟩]
    by_cases hb : nth es x = true
    · obtain ⟨_, _, f1, f2, f3, f4⟩ := g4 x p1 (by omega)
      rw [if_pos hb, if_pos (by omega), if_pos (by omega), if_pos (by simp; omega)]
      have keep : ∀ i : Int, 0 ≤ i → i < (l.length : Int) → nth l i = true ∨ i = (nth g.Edges x).From ∨ i = (nth g.Edges x).To → nth ((l.set ((nth g.Edges x).From).toNat true).set ((nth g.Edges x).To).toNat true) i = true := fun i i0 i1 h => by
        by_cases e : i = (nth g.Edges x).To
        · rw [e, jK f3 (by simp; omega)]
        · rw [iZ f3 e i0]
          by_cases e' : i = (nth g.Edges x).From
          · rw [e', jK f1 (by omega)]
          · rw [iZ f1 e' i0]
            rcases h with h | h | h
            · exact h
            · exact absurd h e'
            · exact absurd h e
      refine Or.inl ⟨_, rfl, ⟨by simp only; omega, by simp only; omega, by simp; omega, fun j j0 j1 hj => ?_⟩, by simp only; omega⟩
      simp only at j1 ⊢
      by_cases e : j = x
      · subst e
        exact ⟨keep _ f1 (by omega) (.inr (.inl rfl)), keep _ f3 (by omega) (.inr (.inr rfl))⟩
      · obtain ⟨_, _, h1, h2, h3, h4⟩ := g4 j j0 (by omega)
        obtain ⟨k1, k2⟩ := p4 j j0 (by omega) hj
        exact ⟨keep _ h1 (by omega) (.inl k1), keep _ h3 (by omega) (.inl k2)⟩
    · rw [if_neg hb]
      refine Or.inl ⟨_, rfl, ⟨by simp only; omega, by simp only; omega, p3, fun j j0 j1 hj => ?_⟩, by simp only; omega⟩
      simp only at j1
      by_cases e : j = x
      · subst e; exact absurd hj hb
      · exact p4 j j0 (by omega) hj
  · rw [if_neg hx]
    obtain ⟨a, a1, a2, a3⟩ := Cy l (by omega)
    obtain ⟨b, b1, b2, b3⟩ := Cy es (by omega)
    rw [a1, Option.bind_some, b1]
    refine Or.inr ⟨_, rfl, by rw [p3] at a2; exact a2, by rw [he] at b2; exact b2, fun i i0 i1 => ?_⟩
    simp only at i1 ⊢
    obtain ⟨u1, u2, _⟩ := b2 i i0 i1
    obtain ⟨_, _, h1, h2, h3, h4⟩ := g4 (nth b i) u1 (by omega)
    obtain ⟨k1, k2⟩ := p4 (nth b i) u1 (by omega) ((b3 _ u1 u2).1 (cu i0 i1))
    exact ⟨eo ((a3 _ h1 (by omega)).2 k1), eo ((a3 _ h3 (by omega)).2 k2)⟩
theorem JP (g : ar) (hg : gK g) (s : Int) : ∃ p, sO g s = some p ∧ it g p := by
  have g1 := hg.1
  have g2 := hg.2.1
  unfold sO
  rw [if_pos (by omega), if_pos (by omega)]
  refine cl (F := xI g s) (fun x : List Bool × Int => 0 ≤ x.2 ∧ x.2 ≤ (g.Nodes.length : Int) ∧ (x.1.length : Int) = g.Nodes.length) (fun x => ((g.Nodes.length : Int) - x.2).toNat) _ (fun x hp => ?_) (List.replicate (g.Nodes.length : Int).toNat false, 0) ⟨by simp, by simp, by simp⟩
  obtain ⟨l, x⟩ := x
  obtain ⟨p1, p2, p3⟩ := hp
  simp only at p1 p2 p3
  unfold xI
  simp only
  by_cases hx : x < (l.length : Int)
  · rw [if_pos hx, if_pos (fI p1 (by omega)).1, Option.bind_some, if_pos ⟨p1, hx⟩]
    exact Or.inl ⟨_, rfl, ⟨by simp only; omega, by simp only; omega, by simp; omega⟩, by simp only; omega⟩
  · rw [if_neg hx]
    obtain ⟨p, e1, e2⟩ := cl (F := xY g s (l, x)) (fun y : List Bool × Int => 0 ≤ y.2 ∧ y.2 ≤ (g.Edges.length : Int) ∧ (y.1.length : Int) = g.Edges.length) (fun y => ((g.Edges.length : Int) - y.2).toNat) (it g) (fun y hp => by
      obtain ⟨m, y⟩ := y
      obtain ⟨q1, q2, q3⟩ := hp
      simp only at q1 q2 q3
      unfold xY
      simp only
      by_cases hy : y < (m.length : Int)
      · rw [if_pos hy, bL (by omega) (by omega), Option.bind_some, if_pos (fI (by omega) (by omega)).1, Option.bind_some, if_pos ⟨q1, hy⟩]
        exact Or.inl ⟨_, rfl, ⟨by simp only; omega, by simp only; omega, by simp; omega⟩, by simp only; omega⟩
      · obtain ⟨p, e1, e2⟩ := JM g hg l m p3 q3
        rw [if_neg hy, e1]; exact Or.inr ⟨p, rfl, e2⟩) (List.replicate (g.Edges.length : Int).toNat false, 0) ⟨by simp, by simp, by simp⟩
    rw [e1]; exact Or.inr ⟨p, rfl, e2⟩
theorem GI {T : aq} {g k : ar} {p : cM} {a b : Int} (hg : e8 T g a b) (hp : it g p) (hc : vn g p k) : e8 T k a b := by
  have l1 := hp.1.len (by omega)
  have l2 := hp.2.1.len (by omega)
  obtain ⟨c1, c2, c3, c4⟩ := hc
  refine ⟨by have := hg.a; omega, by have := hg.b; omega, fun i i0 i1 => ?_, fun i i0 i1 => ?_⟩
  · rw [c3 i i0 (by omega)]
    obtain ⟨u1, u2, _⟩ := hp.1 i i0 (by omega)
    exact hg.node _ u1 u2
  · obtain ⟨d1, d2, d3, _, d5, d6, _⟩ := c4 i i0 (by omega)
    obtain ⟨u1, u2, _⟩ := hp.2.1 i i0 (by omega)
    have := hg.edge _ u1 u2
    exact ⟨by rw [d1]; exact this.1, by rw [d1]; exact this.2.1, d2, by omega, d5, by omega⟩
theorem KE {T : aq} (hT : dF T) : ∃ l, tY T = some l ∧ ∀ i : Int, 0 ≤ i → i < (l.length : Int) → gi T (nth l i) := by
  have n6 := hT.n6
  unfold tY
  refine cl (F := yL T) (fun x : List Int × Int => 0 ≤ x.2 ∧ x.2 ≤ (T.Nodes.length : Int) ∧ (x.1.length : Int) ≤ x.2 ∧ ∀ i : Int, 0 ≤ i → i < (x.1.length : Int) → (fun (_ y : Int) => gi T y) i (nth x.1 i)) (fun x => ((T.Nodes.length : Int) - x.2).toNat) _ (fun x hp => ?_) ([], 0) ⟨by simp, by simp, by simp, fun i a b => by simp at b; omega⟩
  obtain ⟨l, x⟩ := x
  obtain ⟨p1, p2, p3, p4⟩ := hp
  simp only at p1 p2 p3
  unfold yL uO
  simp only
  by_cases hx : x < (T.Nodes.length : Int)
  · rw [if_pos hx, if_pos ⟨p1, hx⟩]
    by_cases h : (!(nth T.Nodes x).Abstract) = true
    · rw [if_pos h, if_pos (by omega)]
      exact Or.inl ⟨_, rfl, ⟨by simp only; omega, by simp only; omega, by simp only [List.length_append, List.length_singleton]; omega, iU (P := fun (_ y : Int) => gi T y) p4 ⟨p1, hx⟩⟩, by simp only; omega⟩
    · rw [if_neg h]
      exact Or.inl ⟨_, rfl, ⟨by simp only; omega, by simp only; omega, by simp only; omega, p4⟩, by simp only; omega⟩
  · rw [if_neg hx]; exact Or.inr ⟨_, rfl, p4⟩
def rA (g k : ar) : Prop := k.Nodes.length ≤ g.Nodes.length ∧ k.Edges.length ≤ g.Edges.length ∧ (∀ i : Int, 0 ≤ i → i < (k.Nodes.length : Int) → nth g.Nodes i = nth k.Nodes i) ∧ ∀ i : Int, 0 ≤ i → i < (k.Edges.length : Int) → nth g.Edges i = nth k.Edges i
theorem oO {g : ar} {T : aq} {a b : Int} (h : e8 T g a b) (ha : a ≤ 100) (hb : b ≤ 100) : kO g = some g := by
  have := h.a
  have := h.b
  unfold kO
  rw [if_pos (by omega), if_pos (by omega)]
theorem IX {T : aq} (hT : dF T) (k : ar) (hk : e8 T k 8 10) (d : f6) (hn : ∀ x ∈ d.Nodes, U8 x) (he : ∀ x ∈ d.Edges, U3 x) : ∃ g, ta T k d = some g ∧ e8 T g 10 12 ∧ rA g k := by
  have ka := hk.a
  have kb := hk.b
  unfold ta
  obtain ⟨l, l1, l2⟩ := KE hT
  rw [oO hk (by omega) (by omega), Option.bind_some, l1, Option.bind_some]
  refine cl (F := yd k l T d) (fun x : List Int × Int => 0 ≤ x.2 ∧ x.2 ≤ 2 ∧ (x.1.length : Int) = k.Nodes.length + x.2 ∧ (∀ i : Int, 0 ≤ i → i < (x.1.length : Int) → (fun (_ y : Int) => gi T y) i (nth x.1 i)) ∧ ∀ i : Int, 0 ≤ i → i < (k.Nodes.length : Int) → nth x.1 i = nth k.Nodes i) (fun x => (2 - x.2).toNat) _ (fun x hp => ?_) (k.Nodes, 0) ⟨by simp, by simp, by simp, hk.node, fun i a b => rfl⟩
  obtain ⟨ns, x⟩ := x
  obtain ⟨p1, p2, p3, p4, p5⟩ := hp
  simp only at p1 p2 p3 p5
  have fin : ∃ g, nP k T d (ns, x) () = some (.inr g) ∧ e8 T g 10 12 ∧ rA g k := by
    unfold nP
    obtain ⟨g, e1, e2⟩ := cl (F := yv T d (ns, x)) (fun y : List ba × Int => 0 ≤ y.2 ∧ y.2 ≤ 2 ∧ (k.Edges.length : Int) ≤ y.1.length ∧ (y.1.length : Int) ≤ k.Edges.length + y.2 ∧ (∀ i : Int, 0 ≤ i → i < (y.1.length : Int) → (fun (_ : Int) (e : ba) => je T (ns.length : Int) e) i (nth y.1 i)) ∧ ∀ i : Int, 0 ≤ i → i < (k.Edges.length : Int) → nth y.1 i = nth k.Edges i) (fun y => (2 - y.2).toNat) (fun g => e8 T g 10 12 ∧ rA g k) (fun y hp => by
      obtain ⟨es, y⟩ := y
      obtain ⟨q1, q2, q3, q4, q5, q6⟩ := hp
      simp only at q1 q2 q3 q4 q6
      have fin : ∃ g, nQ (ns, x) (es, y) () = some (.inr g) ∧ e8 T g 10 12 ∧ rA g k := ⟨_, rfl, ⟨by simp only; omega, by simp only; omega, p4, q5⟩, by simp only; omega, by simp only; omega, p5, q6⟩
      unfold yv uk
      simp only
      by_cases c1 : y < (d.Edges.length : Int)
      rotate_left
      · rw [if_neg c1]; exact Or.inr fin
      by_cases c2 : y < 2
      rotate_left
      · rw [if_pos c1, if_neg c2]; exact Or.inr fin
      by_cases c3 : 0 < (ns.length : Int)
      rotate_left
      · rw [if_pos c1, if_pos c2, if_neg c3]; exact Or.inr fin
      by_cases c4 : 0 < (T.Edges.length : Int)
      rotate_left
      · rw [if_pos c1, if_pos c2, if_pos c3, if_neg c4]; exact Or.inr fin
      obtain ⟨u0, u1, u2⟩ := he _ (cu q1 c1)
      obtain ⟨m1, m2⟩ := fI u0.1 c4
      obtain ⟨m3, m4⟩ := fI u1.1 c3
      obtain ⟨m5, m6⟩ := fI u2.1 c3
      obtain ⟨f, hf⟩ := Jd hT (((nth d.Edges y).e0).tmod (T.Edges.length : Int)) (nth ns (((nth d.Edges y).e1).tmod (ns.length : Int))) (nth ns (((nth d.Edges y).e2).tmod (ns.length : Int)))
      rw [if_pos c1, if_pos c2, if_pos c3, if_pos c4, if_pos ⟨q1, c1⟩, if_pos (by omega), if_pos (by omega), if_pos ⟨m3, m4⟩, if_pos ⟨m5, m6⟩, hf, Option.bind_some]
      cases f
      · exact Or.inl ⟨_, rfl, ⟨by simp only; omega, by simp only; omega, q3, by simp only; omega, q5, q6⟩, by simp only; omega⟩
      · rw [if_pos rfl, if_pos (by omega)]
        exact Or.inl ⟨_, rfl, ⟨by simp only; omega, by simp only; omega, by simp only [List.length_append, List.length_singleton]; omega, by simp only [List.length_append, List.length_singleton]; omega, iU (P := fun (_ : Int) (e : ba) => je T (ns.length : Int) e) q5 ⟨m1, m2, m3, m4, m5, m6⟩, fun i i0 i1 => by simp only; rw [i9 i0 (by omega)]; exact q6 i i0 i1⟩, by simp only; omega⟩) (k.Edges, 0) ⟨by simp, by simp, by simp, by simp, fun i i0 i1 => (show je T (ns.length : Int) (nth k.Edges i) from by
        obtain ⟨a1, a2, a3, a4, a5, a6⟩ := hk.edge i i0 i1; exact ⟨a1, a2, a3, by omega, a5, by omega⟩), fun i a b => rfl⟩
    rw [e1]; exact ⟨g, rfl, e2⟩
  unfold yd
  simp only
  by_cases c1 : x < (d.Nodes.length : Int)
  rotate_left
  · rw [if_neg c1]; exact Or.inr fin
  by_cases c2 : x < 2
  rotate_left
  · rw [if_pos c1, if_neg c2]; exact Or.inr fin
  by_cases c3 : 0 < (l.length : Int)
  rotate_left
  · rw [if_pos c1, if_pos c2, if_neg c3]; exact Or.inr fin
  have u := hn _ (cu p1 c1)
  obtain ⟨m1, m2⟩ := fI u.1 c3
  rw [if_pos c1, if_pos c2, if_pos c3, if_pos ⟨p1, c1⟩, if_pos (by omega), if_pos ⟨m1, m2⟩, if_pos (by omega)]
  exact Or.inl ⟨_, rfl, ⟨by simp only; omega, by simp only; omega, by simp only [List.length_append, List.length_singleton]; omega, iU (P := fun (_ y : Int) => gi T y) p4 (l2 _ m1 m2), fun i i0 i1 => by simp only; rw [i9 i0 (by omega)]; exact p5 i i0 i1⟩, by simp only; omega⟩
def Perm (n : Int) (l : List Int) : Prop := (l.length : Int) = n ∧ Inj l ∧ ∀ i : Int, 0 ≤ i → i < n → 0 ≤ nth l i ∧ nth l i < n
theorem CR (n : Int) (h0 : 0 ≤ n) (h1 : n ≤ 100) (cs : List Int) (hc : ∀ x ∈ cs, U8 x) : ∃ l, pJ n cs = some l ∧ Perm n l := by
  have num : ∃ l, tI 0 n = some l ∧ (l.length : Int) = n ∧ ∀ i : Int, 0 ≤ i → i < (l.length : Int) → nth l i = i := by
    unfold tI
    refine cl (F := yC 0 n) (fun x : List Int × Int => 0 ≤ x.2 ∧ x.2 ≤ n ∧ (x.1.length : Int) = x.2 ∧ ∀ i : Int, 0 ≤ i → i < (x.1.length : Int) → (fun (i y : Int) => y = i) i (nth x.1 i)) (fun x => (n - x.2).toNat) _ (fun x hp => ?_) ([], 0) ⟨by simp, by simp; omega, by simp, fun i a b => by simp at b; omega⟩
    obtain ⟨l, x⟩ := x
    obtain ⟨p1, p2, p3, p4⟩ := hp
    simp only at p1 p2 p3
    unfold yC
    simp only
    by_cases hx : x < n
    · rw [if_pos hx, bL (by omega) (by omega), Option.bind_some, if_pos (by omega)]
      exact Or.inl ⟨_, rfl, ⟨by simp only; omega, by simp only; omega, by simp only [List.length_append, List.length_singleton]; omega, iU (P := fun (i y : Int) => y = i) p4 (by omega)⟩, by simp only; omega⟩
    · rw [if_neg hx]; exact Or.inr ⟨_, rfl, by omega, p4⟩
  obtain ⟨l0, n1, n2, n3⟩ := num
  have i0 : Inj l0 := fun i j a b c d e => by rw [n3 i a b, n3 j c d] at e; exact e
  unfold pJ
  rw [n1, Option.bind_some]
  have fin : ∀ l : List Int, l.Perm l0 → Perm n l := fun l hl => by
    have := hl.length_eq
    refine ⟨by omega, Cf.2 (hl.nodup_iff.2 (Cf.1 i0)), fun i a b => ?_⟩
    obtain ⟨j, j0, j1, j2⟩ := eo (hl.mem_iff.1 (cu a (show i < (l.length : Int) by omega)))
    rw [n3 j j0 j1] at j2
    omega
  refine cl (F := yD n cs) (fun x : List Int × Int => 0 ≤ x.2 ∧ x.1.Perm l0) (fun x => (n - x.2).toNat) _ (fun x hp => ?_) (l0, 0) ⟨by simp, List.Perm.refl _⟩
  obtain ⟨l, x⟩ := x
  obtain ⟨p1, p2⟩ := hp
  simp only at p1 p2
  have hl := p2.length_eq
  unfold yD uJ
  simp only
  by_cases c1 : x < n
  rotate_left
  · rw [if_neg c1]; exact Or.inr ⟨_, rfl, fin l p2⟩
  by_cases c2 : x < (cs.length : Int)
  rotate_left
  · rw [if_pos c1, if_neg c2]; exact Or.inr ⟨_, rfl, fin l p2⟩
  obtain ⟨m1, m2⟩ := fI (hc _ (cu p1 c2)).1 (show 0 < n - x by omega)
  rw [if_pos c1, if_pos c2, if_pos ⟨p1, c2⟩, bL (x := n - x) (by omega) (by omega), Option.bind_some, if_pos (by omega), bL (by omega) (by omega), Option.bind_some, if_pos (by omega), if_pos (by omega), if_pos (by simp; omega)]
  exact Or.inl ⟨_, rfl, ⟨by simp only; omega, (Cl (by omega) (by omega) (by omega) (by omega)).trans p2⟩, by simp only; omega⟩
theorem Dz {n : Int} {l : List Int} (h : Perm n l) : qA l = some 0 := by
  obtain ⟨h1, h2, h3⟩ := h
  unfold qA
  have inner : aE (vd l) 0 = some 0 := by
    obtain ⟨c, hc, rfl⟩ := cl (F := vd l) (fun x : Int => 0 ≤ x ∧ x ≤ (l.length : Int)) (fun x => ((l.length : Int) - x).toNat) (fun c => c = 0) (fun x hp => by
      obtain ⟨p1, p2⟩ := hp
      unfold vd
      by_cases hx : x < (l.length : Int)
      · obtain ⟨c, hc, rfl⟩ := cl (F := z7 l x) (fun y : Int => 0 ≤ y ∧ y ≤ x) (fun y => (x - y).toNat) (fun c => c = .inl (x + 1)) (fun y hp => by
          obtain ⟨q1, q2⟩ := hp
          unfold z7
          by_cases hy : y < x
          · rw [if_pos hy, if_pos ⟨p1, hx⟩, if_pos (by omega), if_neg (fun e => by have := h2 x y p1 hx q1 (by omega) e; omega)]
            exact Or.inl ⟨_, rfl, ⟨by omega, by omega⟩, by omega⟩
          · rw [if_neg hy]; exact Or.inr ⟨_, rfl, rfl⟩) 0 ⟨by omega, by omega⟩
        rw [if_pos hx, hc]
        exact Or.inl ⟨_, rfl, ⟨by omega, by omega⟩, by omega⟩
      · rw [if_neg hx]; exact Or.inr ⟨_, rfl, rfl⟩) 0 ⟨by omega, by omega⟩
    exact hc
  obtain ⟨c, hc, rfl⟩ := cl (F := z1 l) (fun x : Int => 0 ≤ x ∧ x ≤ (l.length : Int)) (fun x => ((l.length : Int) - x).toNat) (fun c => c = 0) (fun x hp => by
    obtain ⟨p1, p2⟩ := hp
    unfold z1
    by_cases hx : x < (l.length : Int)
    · obtain ⟨a, b⟩ := h3 x p1 (by omega)
      rw [if_pos hx, if_pos ⟨p1, hx⟩, if_neg (by omega), if_neg (by omega)]
      exact Or.inl ⟨_, rfl, ⟨by omega, by omega⟩, by omega⟩
    · rw [if_neg hx, inner]; exact Or.inr ⟨_, rfl, rfl⟩) 0 ⟨by omega, by omega⟩
  exact hc
theorem Kz {T : aq} (hT : dF T) {g : ar} {a b : Int} (hg : e8 T g a b) (ha : a ≤ 40) (hb : b ≤ 80) {P Q : List Int} (hP : Perm (g.Nodes.length : Int) P) (hQ : Perm (g.Edges.length : Int) Q) :
    ∃ R, tJ g (aS.mk P Q) = some (R, 0) ∧ e8 T R a b ∧ R.Nodes.length = g.Nodes.length ∧ R.Edges.length = g.Edges.length ∧ (∀ i : Int, 0 ≤ i → i < (g.Nodes.length : Int) → nth R.Nodes (nth P i) = nth g.Nodes i) ∧
      ∀ i : Int, 0 ≤ i → i < (g.Edges.length : Int) → nth R.Edges (nth Q i) = ba.mk (nth g.Edges i).Type_ (nth P (nth g.Edges i).From) (nth P (nth g.Edges i).To) := by
  obtain ⟨c, _, c1, c2⟩ := jI g
  obtain ⟨P1, P2, P3⟩ := hP
  obtain ⟨Q1, Q2, Q3⟩ := hQ
  unfold tJ
  rw [c1, Option.bind_some, if_neg (by simp; exact c2.2 (hg.ok hT ha hb)), if_neg (by simp; omega), if_neg (by simp; omega), Dz ⟨P1, P2, P3⟩, Option.bind_some, if_neg (by simp), Dz ⟨Q1, Q2, Q3⟩, Option.bind_some, if_neg (by simp), oO hg (by omega) (by omega), Option.bind_some]
  obtain ⟨r, e1, e2, e3⟩ := cl (F := yI g g (aS.mk P Q)) (fun x : List Int × Int => 0 ≤ x.2 ∧ x.2 ≤ (g.Nodes.length : Int) ∧ x.1.length = g.Nodes.length ∧ (∀ i : Int, 0 ≤ i → i < (x.1.length : Int) → (fun (_ y : Int) => gi T y) i (nth x.1 i)) ∧ ∀ i : Int, 0 ≤ i → i < x.2 → nth x.1 (nth P i) = nth g.Nodes i) (fun x => ((g.Nodes.length : Int) - x.2).toNat)
    (fun r : ar × Int => r.2 = 0 ∧ (e8 T r.1 a b ∧ r.1.Nodes.length = g.Nodes.length ∧ r.1.Edges.length = g.Edges.length ∧ (∀ i : Int, 0 ≤ i → i < (g.Nodes.length : Int) → nth r.1.Nodes (nth P i) = nth g.Nodes i) ∧
      ∀ i : Int, 0 ≤ i → i < (g.Edges.length : Int) → nth r.1.Edges (nth Q i) = ba.mk (nth g.Edges i).Type_ (nth P (nth g.Edges i).From) (nth P (nth g.Edges i).To))) (fun x hp => by
    obtain ⟨ns, x⟩ := x
    obtain ⟨p1, p2, p3, p4, p5⟩ := hp
    simp only at p1 p2 p3 p5
    unfold yI
    simp only
    by_cases hx : x < (g.Nodes.length : Int)
    · obtain ⟨m1, m2⟩ := P3 x p1 hx
      rw [if_pos hx, if_pos (by omega), if_pos ⟨p1, hx⟩, if_pos (by omega)]
      refine Or.inl ⟨_, rfl, ⟨by simp only; omega, by simp only; omega, by simpa using p3, B4 (P := fun (_ y : Int) => gi T y) m1 p4 (hg.node x p1 hx), fun i i0 i1 => ?_⟩, by simp only; omega⟩
      simp only at i1 ⊢
      by_cases e : i = x
      · subst e; rw [jK m1 (by omega)]
      · have ne : nth P i ≠ nth P x := fun h => e (P2 i x i0 (by omega) p1 (by omega) h)
        rw [iZ m1 ne (P3 i i0 (by omega)).1]
        exact p5 i i0 (by omega)
    · rw [if_neg hx]
      obtain ⟨r, e1, e2⟩ := cl (F := yJ g (aS.mk P Q) (ns, x)) (fun y : List ba × Int => 0 ≤ y.2 ∧ y.2 ≤ (g.Edges.length : Int) ∧ y.1.length = g.Edges.length ∧ (∀ i : Int, 0 ≤ i → i < (y.1.length : Int) → (fun (_ : Int) (e : ba) => je T (g.Nodes.length : Int) e) i (nth y.1 i)) ∧
          ∀ i : Int, 0 ≤ i → i < y.2 → nth y.1 (nth Q i) = ba.mk (nth g.Edges i).Type_ (nth P (nth g.Edges i).From) (nth P (nth g.Edges i).To)) (fun y => ((g.Edges.length : Int) - y.2).toNat)
        (fun r : ar × Int => r.2 = 0 ∧ (e8 T r.1 a b ∧ r.1.Nodes.length = g.Nodes.length ∧ r.1.Edges.length = g.Edges.length ∧ (∀ i : Int, 0 ≤ i → i < (g.Nodes.length : Int) → nth r.1.Nodes (nth P i) = nth g.Nodes i) ∧
          ∀ i : Int, 0 ≤ i → i < (g.Edges.length : Int) → nth r.1.Edges (nth Q i) = ba.mk (nth g.Edges i).Type_ (nth P (nth g.Edges i).From) (nth P (nth g.Edges i).To))) (fun y hp => by
        obtain ⟨es, y⟩ := y
        obtain ⟨q1, q2, q3, q4, q5⟩ := hp
        simp only at q1 q2 q3 q5
        unfold yJ
        simp only
        by_cases hy : y < (g.Edges.length : Int)
        · obtain ⟨m1, m2⟩ := Q3 y q1 hy
          obtain ⟨d1, d2, d3, d4, d5, d6⟩ := hg.edge y q1 hy
          have f1 := P3 _ d3 d4
          have f2 := P3 _ d5 d6
          rw [if_pos hy, if_pos ⟨q1, hy⟩, if_pos (by omega), if_pos (by omega), if_pos (by omega), if_pos (by omega)]
          refine Or.inl ⟨_, rfl, ⟨by simp only; omega, by simp only; omega, by simpa using q3, B4 (P := fun (_ : Int) (e : ba) => je T (g.Nodes.length : Int) e) m1 q4 ⟨d1, d2, f1.1, f1.2, f2.1, f2.2⟩, fun i i0 i1 => ?_⟩, by simp only; omega⟩
          simp only at i1 ⊢
          by_cases e : i = y
          · subst e; rw [jK m1 (by omega)]
          · have ne : nth Q i ≠ nth Q y := fun h => e (Q2 i y i0 (by omega) q1 (by omega) h)
            rw [iZ m1 ne (Q3 i i0 (by omega)).1]
            exact q5 i i0 (by omega)
        · rw [if_neg hy]
          refine Or.inr ⟨_, rfl, rfl, ⟨by have := hg.a; simp only; omega, by have := hg.b; simp only; omega, p4, ?_⟩, p3, q3, fun i i0 i1 => p5 i i0 (by omega), fun i i0 i1 => q5 i i0 (by omega)⟩
          intro i i0 i1
          simp only
          rw [p3]
          exact q4 i i0 i1) (g.Edges, 0) ⟨by simp, by simp, rfl, hg.edge, fun i i0 i1 => by simp at i1; omega⟩
      rw [e1]; exact Or.inr ⟨r, rfl, e2⟩) (g.Nodes, 0) ⟨by simp, by simp, rfl, hg.node, fun i i0 i1 => by simp at i1; omega⟩
  obtain ⟨R, z⟩ := r
  simp only at e2
  subst e2
  exact ⟨R, e1, e3⟩
theorem Ji {T : aq} (hT : dF T) {g : ar} {a b : Int} (hg : e8 T g a b) (v : Int) (v0 : 0 ≤ v) (v3 : v ≤ 3) (cs : List f5) (hc : ∀ x ∈ cs, U3 x) : ∃ l, td T g v cs = some l := by
  unfold td
  obtain ⟨l, hl, _⟩ := cl (F := yg T g v cs) (fun x : List bU × Int => 0 ≤ x.2 ∧ x.2 ≤ 3 ∧ (x.1.length : Int) ≤ x.2) (fun x => (3 - x.2).toNat) (fun _ => True) (fun x hp => by
    obtain ⟨l, x⟩ := x
    obtain ⟨p1, p2, p3⟩ := hp
    simp only at p1 p2 p3
    unfold yg qs qr
    simp only
    by_cases c1 : x < (cs.length : Int)
    rotate_left
    · rw [if_neg c1]; exact Or.inr ⟨_, rfl, trivial⟩
    by_cases c2 : x < 3
    rotate_left
    · rw [if_pos c1, if_neg c2]; exact Or.inr ⟨_, rfl, trivial⟩
    by_cases c3 : 0 < (g.Nodes.length : Int)
    rotate_left
    · rw [if_pos c1, if_pos c2, if_neg c3]; exact Or.inr ⟨_, rfl, trivial⟩
    obtain ⟨u0, u1, u2⟩ := hc _ (cu p1 c1)
    obtain ⟨m1, m2⟩ := fI u0.1 c3
    obtain ⟨k1, k2⟩ := hg.node _ m1 m2
    obtain ⟨w, w1, w2⟩ := CC hT _ k1 k2
    rw [if_pos c1, if_pos c2, if_pos c3, if_pos ⟨p1, c1⟩, if_pos (by omega), if_pos ⟨m1, m2⟩, w1, Option.bind_some]
    by_cases c4 : (w.1.length : Int) = 0
    · rw [if_pos c4]; exact Or.inl ⟨_, rfl, ⟨by simp only; omega, by simp only; omega, by simp only; omega⟩, by simp only; omega⟩
    rw [if_neg c4, if_pos c4, Option.bind_some, bL (x := v + 1) (by omega) (by omega), Option.bind_some, if_pos (by omega), Option.bind_some]
    generalize bb ((IntKind.wrap .u8 (((nth cs x).e1).tdiv 16)).tmod (v + 1) - 1) = q
    obtain ⟨c, hc', r, e, hr⟩ := cl (F := yx w q g cs (l, x)) (fun y : Bool × Int => 0 ≤ y.2 ∧ y.2 ≤ (l.length : Int)) (fun y => ((l.length : Int) - y.2).toNat) (fun c => ∃ r : List bU, c = .inl (r, x + 1) ∧ (r.length : Int) ≤ x + 1) (fun y hp => by
      obtain ⟨t, y⟩ := y
      obtain ⟨q1, q2⟩ := hp
      simp only at q1 q2
      unfold yx qp um qr
      simp only
      by_cases hy : y < (l.length : Int)
      · rw [if_pos hy]
        cases t
        · rw [if_neg (by simp), if_pos ⟨q1, hy⟩]
          split <;> exact Or.inl ⟨_, rfl, ⟨by simp only; omega, by simp only; omega⟩, by simp only; omega⟩
        · rw [if_pos rfl]; exact Or.inl ⟨_, rfl, ⟨by simp only; omega, by simp only; omega⟩, by simp only; omega⟩
      · rw [if_neg hy]
        cases t
        · rw [if_pos (by simp), if_pos (by omega)]
          exact Or.inr ⟨_, rfl, _, rfl, by simp only [List.length_append, List.length_singleton]; omega⟩
        · rw [if_neg (by simp)]; exact Or.inr ⟨_, rfl, _, rfl, by omega⟩) (false, 0) ⟨by simp, by simp⟩
    rw [hc', e]
    exact Or.inl ⟨_, rfl, ⟨by simp only; omega, by simp only; omega, hr⟩, by simp only; omega⟩) ([], 0) ⟨by simp, by simp, by simp⟩
  exact ⟨l, hl⟩
theorem Cu (n : Int) (h0 : 0 ≤ n) (h1 : n ≤ 100) : ∃ l, pu n = some l ∧ (l.length : Int) = n := by
  unfold pu
  obtain ⟨l, hl, hl2⟩ := cl (F := yn n) (fun x : List Int × Int => 0 ≤ x.2 ∧ x.2 ≤ n ∧ (x.1.length : Int) = x.2) (fun x => (n - x.2).toNat) (fun l => (l.length : Int) = n) (fun x hp => by
    obtain ⟨l, x⟩ := x
    obtain ⟨p1, p2, p3⟩ := hp
    simp only at p1 p2 p3
    unfold yn
    simp only
    by_cases hx : x < n
    · rw [if_pos hx, if_pos (by omega)]; exact Or.inl ⟨_, rfl, ⟨by simp only; omega, by simp only; omega, by simp only [List.length_append, List.length_singleton]; omega⟩, by simp only; omega⟩
    · rw [if_neg hx]; exact Or.inr ⟨_, rfl, by omega⟩) ([], 0) ⟨by simp, h0, by simp⟩
  exact ⟨l, hl, hl2⟩
theorem BN : jY (az.mk 1 [] (aS.mk [] []) (aJ.mk (ar.mk [] []) [] 0 [])) := .mk ⟨show ((([] : List Int).length : Nat) : Int) ≤ _ by simp, show ((([] : List Int).length : Nat) : Int) ≤ _ by simp⟩ fun k hk => absurd hk (List.not_mem_nil)
theorem JH {T : aq} (hT : dF T) {p : aJ} (hg : e8 T p.Graph 8 10) (x : iB) : ∃ c, tp T p x = some c ∧ jY c := by
  have n1 := hT.n1
  have ha := hg.a
  have hb := hg.b
  have tr := BN
  have fin : ∀ v, ∃ c, qv p v = some c ∧ jY c := fun v => by
    unfold qv wK
    obtain ⟨l1, h1, k1⟩ := Cu (p.Graph.Nodes.length : Int) (by omega) (by omega)
    obtain ⟨l2, h2, k2⟩ := Cu (p.Graph.Edges.length : Int) (by omega) (by omega)
    rw [h1, h2]
    refine ⟨_, rfl, .mk ⟨show ((([] : List Int).length : Nat) : Int) ≤ _ by simp, show ((([] : List Int).length : Nat) : Int) ≤ _ by simp⟩ fun k hk => ?_⟩
    rw [List.mem_singleton.1 hk]
    refine .mk ⟨show (l1.length : Int) ≤ _ by omega, show (l2.length : Int) ≤ _ by omega⟩ fun k hk => ?_
    rw [List.mem_singleton.1 hk]
    exact tr
  unfold tp
  rw [oO hg (by omega) (by omega), Option.bind_some]
  by_cases c1 : (x.e0).tmod 4 = 1
  · rw [if_pos c1, if_pos (by omega), if_pos (by omega)]; exact fin _
  rw [if_neg c1]
  by_cases c2 : (x.e0).tmod 4 = 2
  rotate_left
  · rw [if_neg c2]; exact ⟨_, rfl, tr⟩
  rw [if_pos c2]
  by_cases c3 : (p.Graph.Nodes.length : Int) = 0
  · rw [if_pos c3]; exact ⟨_, rfl, tr⟩
  rw [if_neg c3]
  by_cases c4 : (T.Edges.length : Int) = 0
  · rw [if_pos c4]; exact ⟨_, rfl, tr⟩
  rw [if_neg c4, if_pos (by omega), if_pos (by omega), if_pos (by omega)]; exact fin _
structure DOk (d : f6) : Prop where
  gn : ∀ x ∈ d.Left.Graph.Nodes, U8 x
  ge : ∀ x ∈ d.Left.Graph.Edges, U3 x
  gs : ∀ x ∈ d.Left.Slots, U3 x
  nodes : ∀ x ∈ d.Nodes, U8 x
  edges : ∀ x ∈ d.Edges, U3 x
  slots : ∀ x ∈ d.Slots, U3 x
  order : ∀ x ∈ d.Order, U8 x
theorem Kq {T : aq} (hT : dF T) (d : f6) (hd : DOk d) : ∃ r, sR T d = some r ∧ om r := by
  obtain ⟨p, p1, p2, p3, p4⟩ := JR hT d.Left hd.gn hd.ge hd.gs
  have okL := p2.ok hT (by omega) (by omega)
  obtain ⟨K, k1, k2⟩ := JP p.Graph okL d.Keep
  obtain ⟨k, _, c1, c2, c3⟩ := GJ okL k2
  have gk := GI p2 k2 c3
  obtain ⟨G, g1, g2, g3, g4, g5, g6⟩ := IX hT k.1 gk d hd.nodes hd.edges
  have ga := g2.a; have gb := g2.b
  obtain ⟨P, s1, s2⟩ := CR (G.Nodes.length : Int) (by omega) (by omega) d.Order hd.order
  obtain ⟨Q, q1, q2⟩ := CR (G.Edges.length : Int) (by omega) (by omega) d.Order hd.order
  obtain ⟨R, r1, r2, r3, r4, r5, r6⟩ := Kz hT g2 (by omega) (by omega) s2 q2
  obtain ⟨sl, l1⟩ := Ji hT r2 p.Vars p3 p4 d.Slots hd.slots
  obtain ⟨fc, f1, f2⟩ := JH hT p2 d.Forbid
  obtain ⟨P1, P2, P3⟩ := s2
  obtain ⟨Q1, Q2, Q3⟩ := q2
  obtain ⟨d1, d2, d3, d4⟩ := c3
  have lK1 := k2.1.len (by omega)
  have lK2 := k2.2.1.len (by omega)
  have gL := p2.a; have gL2 := p2.b
  have lN : ((cut P 0 (k.1.Nodes.length : Int)).length : Int) = k.1.Nodes.length := wB (by omega) (by omega)
  have lE : ((cut Q 0 (k.1.Edges.length : Int)).length : Int) = k.1.Edges.length := wB (by omega) (by omega)
  have gN : 0 ≤ (0 : Int) ∧ (0 : Int) ≤ (k.1.Nodes.length : Int) ∧ (k.1.Nodes.length : Int) ≤ (P.length : Int) := by omega
  have gE : 0 ≤ (0 : Int) ∧ (0 : Int) ≤ (k.1.Edges.length : Int) ∧ (k.1.Edges.length : Int) ≤ (Q.length : Int) := by omega
  unfold sR
  rw [p1, Option.bind_some, k1, Option.bind_some, c1, Option.bind_some, g1, Option.bind_some, s1, Option.bind_some, q1, Option.bind_some, r1, Option.bind_some]
  simp only
  rw [if_pos gN, if_pos gE, l1, Option.bind_some, f1, Option.bind_some]
  by_cases hp : d.Plain = true
  · have hpl : tc (be.mk (ByteArray.mk #[114]) p (aJ.mk R sl p.Vars []) K (aS.mk (cut P 0 (k.1.Nodes.length : Int)) (cut Q 0 (k.1.Edges.length : Int))) d.Injective fc) = some (be.mk (ByteArray.mk #[114]) (aJ.mk p.Graph [] 0 []) (aJ.mk R [] 0 []) K (aS.mk (cut P 0 (k.1.Nodes.length : Int)) (cut Q 0 (k.1.Edges.length : Int))) d.Injective (az.mk 1 [] (aS.mk [] []) (aJ.mk (ar.mk [] []) [] 0 []))) := by
      unfold tc
      simp only
      rw [oO p2 (by omega) (by omega), Option.bind_some, oO r2 (by omega) (by omega), Option.bind_some, if_pos (by omega), if_pos (by omega), if_pos (by omega), if_pos (by omega)]
    rw [if_pos hp, hpl]
    exact ⟨_, rfl, ⟨⟨by show ((cut P 0 (k.1.Nodes.length : Int)).length : Int) ≤ _; omega, by show ((cut Q 0 (k.1.Edges.length : Int)).length : Int) ≤ _; omega⟩, BN⟩⟩
  · rw [if_neg hp]
    exact ⟨_, rfl, ⟨⟨by show ((cut P 0 (k.1.Nodes.length : Int)).length : Int) ≤ _; omega, by show ((cut Q 0 (k.1.Edges.length : Int)).length : Int) ≤ _; omega⟩, f2⟩⟩
theorem JS {T : aq} (hT : dF T) (ds : List f6) (hd : ∀ d ∈ ds, DOk d) : ∃ rs, sS T ds = some rs ∧ (rs.length : Int) ≤ 6 ∧ (rs.length : Int) ≤ (ds.length : Int) ∧ ∀ r ∈ rs, om r := by
  unfold sS
  refine cl (F := xQ T ds) (fun x : List be × Int => 0 ≤ x.2 ∧ x.2 ≤ 6 ∧ x.2 ≤ (ds.length : Int) ∧ (x.1.length : Int) = x.2 ∧ ∀ r ∈ x.1, om r) (fun x => (6 - x.2).toNat) _ (fun x hp => ?_) ([], 0) ⟨by simp, by simp, by simp, by simp, by simp⟩
  obtain ⟨l, i⟩ := x
  obtain ⟨p1, p2, p3, p4, p5⟩ := hp
  simp only at p1 p2 p3 p4 p5
  unfold xQ u4
  simp only
  by_cases hi : i < (ds.length : Int)
  rotate_left
  · rw [if_neg hi]; exact .inr ⟨_, rfl, by omega, by omega, p5⟩
  by_cases h6 : i < 6
  rotate_left
  · rw [if_pos hi, if_neg h6]; exact .inr ⟨_, rfl, by omega, by omega, p5⟩
  obtain ⟨r, r1, r2⟩ := Kq hT (nth ds i) (hd _ (cu p1 hi))
  rw [if_pos hi, if_pos h6, if_pos ⟨p1, hi⟩, r1, Option.bind_some, if_pos (by omega)]
  refine .inl ⟨_, rfl, ⟨by simp only; omega, by simp only; omega, by simp only; omega, by simp; omega, fun q hq => ?_⟩, by simp only; omega⟩
  rcases List.mem_append.1 hq with hq | hq
  · exact p5 q hq
  · rw [List.mem_singleton.1 hq]; exact r2
theorem dF.few {T : aq} (hT : dF T) : LenT T := fun i h0 h1 => by
  have := (hT.node i h0 h1).2.2.2
  rcases this with h | ⟨a, h, _⟩
  · rw [h]; simp
  · rw [h]; simp
end Go.Proofs.YtngimdmkomkeoaaGreat.K
