import Derived.Test.YtngimdmkomkeoaaGreatLawQ
set_option linter.unusedVariables false
set_option linter.unusedSimpArgs false
namespace Go.Proofs.YtngimdmkomkeoaaGreat.K
open Go.RowKit Go.Proofs
theorem J7 {T : aq} (hT : TV T) {b a : Int} (hs : fo T b a) : a < (T.Nodes.length : Int) → a ≠ b → ∃ i : Int, 0 ≤ i ∧ i < (T.Nodes.length : Int) ∧ (nth T.Nodes i).Parent = b := by
  induction hs with
  | here => intro _ h; exact absurd rfl h
  | up h0 _ ih =>
    intro h1 h2
    rename_i a _
    have hp := r0 hT h0 h1
    by_cases e : (nth T.Nodes a).Parent = b
    · exact ⟨a, h0, h1, e⟩
    · exact ih (by omega) e
theorem IL {T : aq} (hT : TV T) {b : Int} (hb : gy T b) : ∃ l, te T b = some (l, 0) ∧ (1 < (l.length : Int) ↔ ∃ i : Int, 0 ≤ i ∧ i < (T.Nodes.length : Int) ∧ (nth T.Nodes i).Parent = b) ∧ (∀ j, j ∈ l ↔ gy T j ∧ fo T b j) ∧ l.Nodup := by
  unfold te
  obtain ⟨c, c1, c2, _⟩ := vS hT [b]
  have hc : c = 0 := c2.2 fun x hx => by rw [List.mem_singleton.1 hx]; exact hb
  subst hc
  rw [c1]
  simp only [Option.bind_some, not_true_eq_false, if_false]
  have h12 := hT.n12
  obtain ⟨r, r1, r2, r3, r4⟩ := cl (F := yl T b) (fun x : List Int × Int => 0 ≤ x.2 ∧ x.2 ≤ (T.Nodes.length : Int) ∧ (x.1.length : Int) ≤ x.2 ∧ x.1.Nodup ∧ ∀ j, j ∈ x.1 ↔ (0 ≤ j ∧ j < x.2) ∧ fo T b j) (fun x => ((T.Nodes.length : Int) - x.2).toNat) (fun r => r.2 = 0 ∧ r.1.Nodup ∧ ∀ j, j ∈ r.1 ↔ gy T j ∧ fo T b j) (fun x hp => by
    obtain ⟨l, i⟩ := x
    obtain ⟨p1, p2, p3, p4, p5⟩ := hp
    simp only at p1 p2 p3 p4 p5
    unfold yl uq
    simp only
    by_cases hi : i < (T.Nodes.length : Int)
    · obtain ⟨d, d1, _, d3⟩ := isV hT i b (by omega) hi hb.1
      rw [if_pos hi, d1, Option.bind_some]
      cases d
      · refine .inl ⟨_, rfl, ⟨by simp only; omega, by simp only; omega, by simp only; omega, p4, fun j => ?_⟩, by simp only; omega⟩
        simp only
        rw [p5]
        constructor
        · rintro ⟨h1, h2⟩; exact ⟨⟨h1.1, by omega⟩, h2⟩
        · rintro ⟨h1, h2⟩
          by_cases e : j = i
          · subst e; exact absurd (d3.2 h2) (by simp)
          · exact ⟨⟨h1.1, by omega⟩, h2⟩
      · rw [if_pos rfl, if_pos (by omega)]
        refine .inl ⟨_, rfl, ⟨by simp only; omega, by simp only; omega, by simp; omega, ?_, fun j => ?_⟩, by simp only; omega⟩
        · simp only
          rw [List.nodup_append]
          refine ⟨p4, by simp, fun a ha c hc e => ?_⟩
          rw [List.mem_singleton.1 hc] at e
          subst e
          have := (p5 _).1 ha; omega
        · simp only [List.mem_append, List.mem_singleton]
          rw [p5]
          constructor
          · rintro (⟨h1, h2⟩ | h)
            · exact ⟨⟨h1.1, by omega⟩, h2⟩
            · subst h; exact ⟨⟨p1, by omega⟩, d3.1 rfl⟩
          · rintro ⟨h1, h2⟩
            by_cases e : j = i
            · exact .inr e
            · exact .inl ⟨⟨h1.1, by omega⟩, h2⟩
    · rw [if_neg hi]
      have : i = (T.Nodes.length : Int) := by omega
      subst this
      exact .inr ⟨_, rfl, rfl, p4, p5⟩) ([], 0) ⟨by simp, by simp, by simp, by simp, fun j => by simp; omega⟩
  obtain ⟨l, z⟩ := r
  simp only at r2 r3 r4
  subst r2
  refine ⟨l, r1, ?_, r4, r3⟩
  have hbl : b ∈ l := (r4 b).2 ⟨hb, .here⟩
  constructor
  · intro h
    have : ∃ j ∈ l, j ≠ b := by
      match l, r3, h with
      | x :: y :: r, h1, _ =>
        by_cases e : x = b
        · refine ⟨y, by simp, fun e2 => ?_⟩
          have := (List.nodup_cons.1 h1).1
          exact this (by rw [e, ← e2]; simp)
        · exact ⟨x, by simp, e⟩
      | [x], _, h => simp at h
      | [], _, h => simp at h
    obtain ⟨j, hj, hne⟩ := this
    obtain ⟨h1, h2⟩ := (r4 j).1 hj
    exact J7 hT h2 h1.2 hne
  · rintro ⟨i, i0, i1, e⟩
    have hp := r0 hT i0 i1
    have hi : i ∈ l := (r4 i).2 ⟨⟨i0, i1⟩, .up i0 (by rw [e]; exact .here)⟩
    have hne : i ≠ b := by omega
    match l, hbl, hi with
    | [x], h1, h2 =>
      have := List.mem_singleton.1 h1
      have := List.mem_singleton.1 h2
      omega
    | x :: y :: r, _, _ => simp; omega
theorem HY (T : aq) (b : Int) : ∃ d, xd T b = some d ∧ (d = false ↔ ∃ i : Int, 0 ≤ i ∧ i < (T.Nodes.length : Int) ∧ (nth T.Nodes i).Parent = b) := by
  unfold xd
  rw [sa T.Nodes (fun n => decide (n.Parent = b)) (c := false) (fin := some true) (fun i i0 i1 => by
    unfold xR
    rw [if_pos i1, if_pos ⟨i0, i1⟩]
    by_cases h : (nth T.Nodes i).Parent = b <;> simp [h]) (by unfold xR; rw [if_neg (by omega)]; rfl)]
  cases h : T.Nodes.any (fun n => decide (n.Parent = b))
  · refine ⟨true, rfl, by simp only [Bool.true_eq_false, false_iff]; rintro ⟨i, i0, i1, e⟩; have : T.Nodes.any (fun n => decide (n.Parent = b)) = true := rV.2 ⟨i, i0, i1, by simpa using e⟩; rw [h] at this; cases this⟩
  · obtain ⟨i, i0, i1, e⟩ := rV.1 h
    exact ⟨false, rfl, by simp only [true_iff]; exact ⟨i, i0, i1, by simpa using e⟩⟩
def Bd (m : Int) (l : List Int) : Prop := ∀ x ∈ l, -m ≤ x ∧ x ≤ m
theorem Bd.set {m : Int} {l : List Int} (h : Bd m l) {k : Nat} {v : Int} (hv : -(m + 1) ≤ v ∧ v ≤ m + 1) : Bd (m + 1) (l.set k v) := fun x hx => by
  rcases List.mem_or_eq_of_mem_set hx with h1 | h1
  · have := h x h1; omega
  · rw [h1]; exact hv
theorem Bd.nth {m : Int} {l : List Int} (h : Bd m l) {i : Int} (i0 : 0 ≤ i) (i1 : i < (l.length : Int)) : -m ≤ nth l i ∧ nth l i ≤ m := h _ (cu i0 i1)
theorem Bd.mono {m n : Int} {l : List Int} (h : Bd m l) (hm : m ≤ n) : Bd n l := fun x hx => by have := h x hx; omega
def r8 (T : aq) (b : List Int × Int) : Prop := b.2 = 0 → (b.1.length : Int) = (T.Nodes.length : Int) + (T.Edges.length : Int) ∧ Bd 1000 b.1
theorem JE {T : aq} (hf : eM T) {r : be} (hr : iI r) : ∃ b, jQ T r = some b ∧ D2 T r = some b ∧ r8 T b := by
  unfold jQ D2 py px
  obtain ⟨c, c1, c2, c3⟩ := Iy hf hr
  rcases rR hf with ⟨s, e, h1, h2, h3⟩ | hT
  · have hc : c = e := by
      unfold kL at c1
      rw [h1] at c1
      simp only [Option.bind_some, if_pos h3] at c1
      exact (Option.some.inj c1).symm
    subst hc
    rw [c1, h2]
    simp only [Option.bind_some, if_pos h3]
    exact ⟨([], c), rfl, rfl, fun e => absurd e h3⟩
  obtain ⟨s, v1, v2⟩ := hT.v
  rw [c1, v2, c2]
  simp only [Option.bind_some, not_true_eq_false, if_false]
  by_cases h : c = 0
  rotate_left
  · simp only [if_pos h, Option.bind_some]; exact ⟨([], c), rfl, rfl, fun e => absurd e h⟩
  subst h
  have hR := c3 rfl
  have hlg := hR.left.g; have hrg := hR.right.g
  obtain ⟨dn, de, d1, d2, d3, d4, d5, d6⟩ := K9 r (by have := hlg.1; omega) (by have := hlg.2.1; omega)
  obtain ⟨cn, ce, k1, k2, k3, k4, k5, k6⟩ := CK r (by have := hrg.1; omega) (by have := hrg.2.1; omega)
  have hD : xN T r = some (dn, de, 0) := by unfold xN; rw [c2, Option.bind_some, if_neg (by simp), d2]; rfl
  have hC : xM T r = some (cn, ce, 0) := by unfold xM; rw [c2, Option.bind_some, if_neg (by simp), k2]; rfl
  simp only [not_true_eq_false, if_false]
  rw [d1, k1, hD]
  simp only [Option.bind_some, not_true_eq_false, if_false]
  have n12 := hT.n12; have e20 := hT.e20
  rw [bL (x := (T.Nodes.length : Int) + (T.Edges.length : Int)) (by omega) (by omega)]
  have hg : 0 ≤ (T.Nodes.length : Int) + (T.Edges.length : Int) ∧ ((T.Nodes.length : Int) + (T.Edges.length : Int)) * 8 ≤ 140737488355328 := ⟨by omega, by omega⟩
  simp only [if_pos hg]
  have hl40 := hlg.1; have hl80 := hlg.2.1; have hr40 := hrg.1; have hr80 := hrg.2.1
  -- created edges
  have s4 : ∀ (l : List Int), (l.length : Int) = (T.Nodes.length : Int) + (T.Edges.length : Int) → Bd 160 l → ∃ b, aE (o0 (cn, ce, 0) T r) (l, 0) = some b ∧ aE (uB (cn, ce, 0) T r) (l, 0) = some b ∧ r8 T b := by
    intro l hl hB
    refine eD (F := o0 (cn, ce, 0) T r) (G := uB (cn, ce, 0) T r) (fun x => 0 ≤ x.2 ∧ x.2 ≤ (ce.length : Int) ∧ (x.1.length : Int) = (T.Nodes.length : Int) + (T.Edges.length : Int) ∧ Bd (160 + x.2) x.1) (fun x => ((ce.length : Int) - x.2).toNat) _ (fun x hp => ?_) (l, 0) ⟨by simp, by simp, hl, by simpa using hB⟩
    obtain ⟨w, i⟩ := x
    obtain ⟨p1, p2, p3, p4⟩ := hp
    simp only at p1 p2 p3 p4
    unfold o0 uB
    simp only
    by_cases hi : i < (ce.length : Int)
    · obtain ⟨x0, x1⟩ := k4 _ (cu p1 hi)
      obtain ⟨y0, y1⟩ := hR.right.t.2 _ x0 x1
      rw [bL (x := (T.Nodes.length : Int) + (nth r.Right.Graph.Edges (nth ce i)).Type_) (by omega) (by omega)]
      have hb := p4.nth (i := (T.Nodes.length : Int) + (nth r.Right.Graph.Edges (nth ce i)).Type_) (by omega) (by omega)
      simp only [Option.bind_some, if_pos hi, if_pos (show 0 ≤ i ∧ i < (ce.length : Int) from ⟨p1, hi⟩), if_pos (show 0 ≤ nth ce i ∧ nth ce i < (r.Right.Graph.Edges.length : Int) from ⟨x0, x1⟩), if_pos (show 0 ≤ (T.Nodes.length : Int) + (nth r.Right.Graph.Edges (nth ce i)).Type_ ∧ (T.Nodes.length : Int) + (nth r.Right.Graph.Edges (nth ce i)).Type_ < (w.length : Int) from ⟨by omega, by omega⟩)]
      rw [bL (by omega) (by omega)]
      exact .inl ⟨_, rfl, rfl, ⟨by simp only; omega, by simp only; omega, by simpa using p3, by
        have := p4.set (k := ((T.Nodes.length : Int) + (nth r.Right.Graph.Edges (nth ce i)).Type_).toNat) (v := nth w ((T.Nodes.length : Int) + (nth r.Right.Graph.Edges (nth ce i)).Type_) + 1) (by omega)
        rw [Int.add_assoc] at this; exact this⟩, by simp only; omega⟩
    · simp only [if_neg hi]
      exact .inr ⟨_, rfl, rfl, fun _ => ⟨p3, p4.mono (by omega)⟩⟩
  -- created nodes
  have s3 : ∀ (l : List Int), (l.length : Int) = (T.Nodes.length : Int) + (T.Edges.length : Int) → Bd 120 l → ∃ b, aE (nZ (cn, ce, 0) T r) (l, 0) = some b ∧ aE (uA (cn, ce, 0) T r) (l, 0) = some b ∧ r8 T b := by
    intro l hl hB
    refine eD (F := nZ (cn, ce, 0) T r) (G := uA (cn, ce, 0) T r) (fun x => 0 ≤ x.2 ∧ x.2 ≤ (cn.length : Int) ∧ (x.1.length : Int) = (T.Nodes.length : Int) + (T.Edges.length : Int) ∧ Bd (120 + x.2) x.1) (fun x => ((cn.length : Int) - x.2).toNat) _ (fun x hp => ?_) (l, 0) ⟨by simp, by simp, hl, by simpa using hB⟩
    obtain ⟨w, i⟩ := x
    obtain ⟨p1, p2, p3, p4⟩ := hp
    simp only at p1 p2 p3 p4
    unfold nZ uA
    simp only
    by_cases hi : i < (cn.length : Int)
    · obtain ⟨x0, x1⟩ := k3 _ (cu p1 hi)
      obtain ⟨y0, y1⟩ := hR.right.t.1 _ x0 x1
      have hb := p4.nth (i := nth r.Right.Graph.Nodes (nth cn i)) (by omega) (by omega)
      simp only [Option.bind_some, if_pos hi, if_pos (show 0 ≤ i ∧ i < (cn.length : Int) from ⟨p1, hi⟩), if_pos (show 0 ≤ nth cn i ∧ nth cn i < (r.Right.Graph.Nodes.length : Int) from ⟨x0, x1⟩), if_pos (show 0 ≤ nth r.Right.Graph.Nodes (nth cn i) ∧ nth r.Right.Graph.Nodes (nth cn i) < (w.length : Int) from ⟨by omega, by omega⟩)]
      rw [bL (by omega) (by omega)]
      exact .inl ⟨_, rfl, rfl, ⟨by simp only; omega, by simp only; omega, by simpa using p3, by
        have := p4.set (k := (nth r.Right.Graph.Nodes (nth cn i)).toNat) (v := nth w (nth r.Right.Graph.Nodes (nth cn i)) + 1) (by omega)
        rw [Int.add_assoc] at this; exact this⟩, by simp only; omega⟩
    · simp only [if_neg hi]
      obtain ⟨b, b1, b2, b3⟩ := s4 w p3 (p4.mono (by omega))
      rw [b1, b2]
      exact .inr ⟨b, rfl, rfl, b3⟩
  -- deleted edges
  have s2 : ∀ (l : List Int), (l.length : Int) = (T.Nodes.length : Int) + (T.Edges.length : Int) → Bd 40 l → ∃ b, aE (nY (dn, de, 0) (cn, ce, 0) T r) (l, 0) = some b ∧ aE (uz (dn, de, 0) T r) (l, 0) = some b ∧ r8 T b := by
    intro l hl hB
    refine eD (F := nY (dn, de, 0) (cn, ce, 0) T r) (G := uz (dn, de, 0) T r) (fun x => 0 ≤ x.2 ∧ x.2 ≤ (de.length : Int) ∧ (x.1.length : Int) = (T.Nodes.length : Int) + (T.Edges.length : Int) ∧ Bd (40 + x.2) x.1) (fun x => ((de.length : Int) - x.2).toNat) _ (fun x hp => ?_) (l, 0) ⟨by simp, by simp, hl, by simpa using hB⟩
    obtain ⟨w, i⟩ := x
    obtain ⟨p1, p2, p3, p4⟩ := hp
    simp only at p1 p2 p3 p4
    unfold nY uz
    simp only
    by_cases hi : i < (de.length : Int)
    · obtain ⟨x0, x1⟩ := d4 _ (cu p1 hi)
      obtain ⟨y0, y1⟩ := hR.left.t.2 _ x0 x1
      rw [bL (x := (T.Nodes.length : Int) + (nth r.Left.Graph.Edges (nth de i)).Type_) (by omega) (by omega)]
      have hb := p4.nth (i := (T.Nodes.length : Int) + (nth r.Left.Graph.Edges (nth de i)).Type_) (by omega) (by omega)
      simp only [Option.bind_some, if_pos hi, if_pos (show 0 ≤ i ∧ i < (de.length : Int) from ⟨p1, hi⟩), if_pos (show 0 ≤ nth de i ∧ nth de i < (r.Left.Graph.Edges.length : Int) from ⟨x0, x1⟩), if_pos (show 0 ≤ (T.Nodes.length : Int) + (nth r.Left.Graph.Edges (nth de i)).Type_ ∧ (T.Nodes.length : Int) + (nth r.Left.Graph.Edges (nth de i)).Type_ < (w.length : Int) from ⟨by omega, by omega⟩)]
      rw [bL (by omega) (by omega)]
      exact .inl ⟨_, rfl, rfl, ⟨by simp only; omega, by simp only; omega, by simpa using p3, by
        have := p4.set (k := ((T.Nodes.length : Int) + (nth r.Left.Graph.Edges (nth de i)).Type_).toNat) (v := nth w ((T.Nodes.length : Int) + (nth r.Left.Graph.Edges (nth de i)).Type_) - 1) (by omega)
        rw [Int.add_assoc] at this; exact this⟩, by simp only; omega⟩
    · simp only [if_neg hi]
      obtain ⟨b, b1, b2, b3⟩ := s3 w p3 (p4.mono (by omega))
      rw [b1, hC, Option.bind_some, b2]
      exact .inr ⟨b, rfl, rfl, b3⟩
  -- deleted nodes
  refine eD (F := qD (dn, de, 0) (cn, ce, 0) T r) (G := yE (dn, de, 0) T r) (fun x => 0 ≤ x.2 ∧ x.2 ≤ (dn.length : Int) ∧ (x.1.length : Int) = (T.Nodes.length : Int) + (T.Edges.length : Int) ∧ Bd x.2 x.1) (fun x => ((dn.length : Int) - x.2).toNat) _ (fun x hp => ?_) _ ⟨by simp, by simp, by simp; omega, fun x hx => by simp at hx; simp [hx.2]⟩
  obtain ⟨w, i⟩ := x
  obtain ⟨p1, p2, p3, p4⟩ := hp
  simp only at p1 p2 p3 p4
  unfold qD yE
  simp only
  by_cases hi : i < (dn.length : Int)
  · obtain ⟨x0, x1⟩ := d3 _ (cu p1 hi)
    have hy := hR.left.t.1 _ x0 x1
    have y0 := hy.1; have y1 := hy.2
    obtain ⟨bl, bl1, bl2, _⟩ := IL hT hy
    obtain ⟨lf, lf1, lf2⟩ := HY T (nth r.Left.Graph.Nodes (nth dn i))
    have hb := p4.nth (i := nth r.Left.Graph.Nodes (nth dn i)) (by omega) (by omega)
    simp only [if_pos hi, if_pos (show 0 ≤ i ∧ i < (dn.length : Int) from ⟨p1, hi⟩), if_pos (show 0 ≤ nth dn i ∧ nth dn i < (r.Left.Graph.Nodes.length : Int) from ⟨x0, x1⟩)]
    rw [bl1, lf1]
    simp only [Option.bind_some]
    by_cases hb1 : 1 < (bl.length : Int)
    · have : lf = false := lf2.2 (bl2.1 hb1)
      subst this
      simp only [if_pos hb1]
      exact .inr ⟨_, rfl, rfl, fun e => by cases e⟩
    · have : lf = true := by cases lf; exact absurd (bl2.2 (lf2.1 rfl)) hb1; rfl
      subst this
      simp only [if_neg hb1, Bool.not_true, Bool.false_eq_true, if_false, if_pos (show 0 ≤ nth r.Left.Graph.Nodes (nth dn i) ∧ nth r.Left.Graph.Nodes (nth dn i) < (w.length : Int) from ⟨by omega, by omega⟩)]
      rw [bL (by omega) (by omega)]
      exact .inl ⟨_, rfl, rfl, ⟨by simp only; omega, by simp only; omega, by simpa using p3, p4.set (k := (nth r.Left.Graph.Nodes (nth dn i)).toNat) (v := nth w (nth r.Left.Graph.Nodes (nth dn i)) - 1) (by omega)⟩, by simp only; omega⟩
  · simp only [if_neg hi]
    obtain ⟨b, b1, b2, b3⟩ := s2 w p3 (p4.mono (by omega))
    rw [b1, b2]
    exact .inr ⟨b, rfl, rfl, b3⟩
theorem few39 {l : List be} (hl : ∀ r ∈ l, om r) : ∃ b, sF l = some b ∧ (b = true → (l.length : Int) ≤ 8 ∧ ∀ r ∈ l, iI r) := by
  unfold sF
  by_cases h : 8 < (l.length : Int)
  · rw [if_pos h]; exact ⟨false, rfl, by simp⟩
  rw [if_neg h]
  refine cl (F := xz l) (fun x : Int => 0 ≤ x ∧ ∀ i : Int, 0 ≤ i → i < x → i < (l.length : Int) → iI (nth l i)) (fun x => ((l.length : Int) - x).toNat) _ (fun x hp => ?_) 0 ⟨by omega, fun i a b => by omega⟩
  obtain ⟨p1, p2⟩ := hp
  unfold xz
  by_cases hx : x < (l.length : Int)
  · obtain ⟨b, b1, b2⟩ := few24 (hl _ (cu p1 hx))
    rw [if_pos hx, if_pos ⟨p1, hx⟩, b1]
    cases b
    · exact .inr ⟨false, rfl, by simp⟩
    · refine .inl ⟨x + 1, rfl, ⟨by omega, fun i a c d => ?_⟩, by omega⟩
      by_cases e : i = x
      · subst e; exact b2 rfl
      · exact p2 i a (by omega) d
  · rw [if_neg hx]
    refine .inr ⟨true, rfl, fun _ => ⟨by omega, fun r hr => ?_⟩⟩
    obtain ⟨i, i0, i1, rfl⟩ := eo hr
    exact p2 i i0 (by omega) i1
end Go.Proofs.YtngimdmkomkeoaaGreat.K
