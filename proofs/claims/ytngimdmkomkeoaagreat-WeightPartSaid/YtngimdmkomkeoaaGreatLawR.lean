import Derived.Test.YtngimdmkomkeoaaGreatLawK
import Derived.Test.YtngimdmkomkeoaaGreatLawD
import Derived.Test.YtngimdmkomkeoaaGreatLawC
set_option linter.unusedVariables false
set_option linter.unusedSimpArgs false
namespace Go.Proofs.YtngimdmkomkeoaaGreat.K
open Go.RowKit Go.Proofs
theorem wP {xs : List Int} : xs.Nodup ↔ ∀ i k : Int, 0 ≤ k → k < i → i < (xs.length : Int) → nth xs i ≠ nth xs k := by
  unfold List.Nodup
  rw [List.pairwise_iff_getElem]
  constructor
  · intro h i k k0 ki il e
    obtain ⟨a, rfl⟩ := Int.eq_ofNat_of_zero_le k0
    obtain ⟨b, rfl⟩ := Int.eq_ofNat_of_zero_le (show 0 ≤ i by omega)
    rw [dw _ a (by omega), dw _ b (by omega)] at e
    exact h a b (by omega) (by omega) (by omega) e.symm
  · intro h i j hi hj hij e
    refine h (j : Int) (i : Int) (by omega) (by omega) (by omega) ?_
    rw [dw _ i hi, dw _ j hj, e]
theorem th (xs : List Int) : ∃ b, nE xs = some b ∧ (b = true ↔ xs.Nodup) := by
  unfold nE
  refine (cl (F := yK xs) (fun x : Int => 0 ≤ x ∧ x ≤ (xs.length : Int) ∧ ∀ i k : Int, 0 ≤ k → k < i → i < x → nth xs i ≠ nth xs k) (fun x => ((xs.length : Int) - x).toNat) (fun b => b = true ↔ xs.Nodup) (fun x hp => ?_) 0 ⟨by omega, by omega, fun i k a b c => by omega⟩)
  obtain ⟨x0, x1, x2⟩ := hp
  unfold yK
  by_cases hx : x < (xs.length : Int)
  · rw [if_pos hx]
    obtain ⟨b, b1, b2⟩ := cl (F := yS xs x) (fun y : Int => 0 ≤ y ∧ y ≤ x ∧ ∀ k : Int, 0 ≤ k → k < y → nth xs x ≠ nth xs k) (fun y => (x - y).toNat) (fun b => (b = .inr false ∧ ¬ xs.Nodup) ∨ (b = .inl (x + 1) ∧ ∀ k : Int, 0 ≤ k → k < x → nth xs x ≠ nth xs k)) (fun y hy => by
      obtain ⟨y0, y1, y2⟩ := hy
      unfold yS
      by_cases hyx : y < x
      · rw [if_pos hyx, if_pos ⟨x0, hx⟩, if_pos ⟨y0, by omega⟩]
        by_cases e : nth xs x = nth xs y
        · rw [if_pos e]; exact .inr ⟨_, rfl, .inl ⟨rfl, fun h => wP.1 h x y y0 hyx hx e⟩⟩
        · rw [if_neg e]
          refine .inl ⟨y + 1, rfl, ⟨by omega, by omega, fun k a c => ?_⟩, by omega⟩
          by_cases ek : k = y
          · rw [ek]; exact e
          · exact y2 k a (by omega)
      · rw [if_neg hyx]
        exact .inr ⟨_, rfl, .inr ⟨rfl, fun k a c => y2 k a (by omega)⟩⟩) 0 ⟨by omega, x0, fun k a c => by omega⟩
    rw [b1]
    rcases b2 with ⟨rfl, h⟩ | ⟨rfl, h⟩
    · exact .inr ⟨false, rfl, by simp [h]⟩
    · refine .inl ⟨x + 1, rfl, ⟨by omega, by omega, fun i k k0 ki il => ?_⟩, by omega⟩
      by_cases e : i = x
      · subst e; exact h k k0 ki
      · exact x2 i k k0 ki (by omega)
  · rw [if_neg hx]
    exact .inr ⟨true, rfl, by simp only [true_iff]; exact wP.2 fun i k a b c => x2 i k a b (by omega)⟩
theorem K7 {ys : List Int} (hs : ys.Pairwise (· ≤ ·)) : (Lib.compact ys).length = ys.length ↔ ys.Nodup := by
  unfold Lib.compact Lib.compactUpTo
  rw [List.length_map]
  have e1 : ((List.range ys.length).filter (Lib.keeps ys.toArray)).length = ys.length ↔ ∀ j, j < ys.length → Lib.keeps ys.toArray j = true := by
    have := List.length_filter_eq_length_iff (l := List.range ys.length) (p := Lib.keeps ys.toArray)
    rw [List.length_range] at this
    rw [this]
    simp [List.mem_range]
  rw [e1]
  have gt : ∀ j (hj : j < ys.length), ys.toArray[j]! = ys[j] := fun j hj => by simp [hj]
  have hle := List.pairwise_iff_getElem.1 hs
  constructor
  · intro h
    unfold List.Nodup
    rw [List.pairwise_iff_getElem]
    intro i j hi hj hij e
    have hk := h j hj
    unfold Lib.keeps at hk
    simp only [decide_eq_true_eq] at hk
    rcases hk with hk | hk
    · omega
    · rw [gt j hj, gt (j - 1) (by omega)] at hk
      have h2 : ys[j - 1] ≤ ys[j] := hle (j - 1) j (by omega) hj (by omega)
      by_cases e3 : i = j - 1
      · subst e3; exact hk e.symm
      · have h3 : ys[i] ≤ ys[j - 1] := hle i (j - 1) hi (by omega) (by omega)
        omega
  · intro h j hj
    unfold Lib.keeps
    simp only [decide_eq_true_eq]
    by_cases h0 : j = 0
    · exact .inl h0
    · right
      rw [gt j hj, gt (j - 1) (by omega)]
      have := List.pairwise_iff_getElem.1 h (j - 1) j (by omega) hj (by omega)
      exact fun e => this e.symm
theorem sK {xs : List Int} (hl : (xs.length : Int) ≤ 1000) : ∃ c, qk xs = some c ∧ (c = (xs.length : Int) ↔ xs.Nodup) := by
  unfold qk slices_Sort_int slices_Compact_int rx re
  rw [lj hl]
  simp only [Option.bind_some]
  rw [if_pos (by omega)]
  simp only [Option.bind_some]
  refine ⟨_, rfl, ?_⟩
  have h1 := K7 (wO xs)
  have h2 := (mU xs).length_eq
  rw [h2, (mU xs).nodup_iff] at h1
  rw [← h1]
  omega
theorem Ll (a b : ar) (m : aS) : ∃ c, o6 a b m = some c ∧ yp a b m = some c ∧ (c = true → m.Nodes.Nodup ∧ m.Edges.Nodup) := by
  unfold o6 yp
  obtain ⟨c, c1, c2, c3⟩ := xv a b m
  rw [c1, c2]
  simp only [Option.bind_some]
  by_cases h : c = 0
  rotate_left
  · rw [if_neg h, if_neg h]; exact ⟨false, rfl, rfl, by simp⟩
  subst h
  obtain ⟨l1, l2⟩ := c3 rfl
  have hv : iE a b m = some 0 := c1
  have hab : (a.Nodes.length : Int) ≤ 40 ∧ (a.Edges.length : Int) ≤ 80 := by
    unfold iE at hv
    obtain ⟨g, g1, _, g3⟩ := jI a
    rw [g1] at hv
    simp only [Option.bind_some] at hv
    by_cases hg : g = 0
    · have := g3.1 hg; exact ⟨this.1, this.2.1⟩
    · rw [if_pos hg] at hv; exact absurd (Option.some.inj hv) hg
  obtain ⟨d, d1, d2⟩ := sK (xs := m.Nodes) (by omega)
  obtain ⟨e, e1, e2⟩ := sK (xs := m.Edges) (by omega)
  obtain ⟨p, p1, p2⟩ := th m.Nodes
  obtain ⟨q, q1, q2⟩ := th m.Edges
  rw [d1, e1, p1, q1]
  simp only [Option.bind_some, if_true]
  by_cases hn : m.Nodes.Nodup
  · have : p = true := p2.2 hn
    subst this
    rw [if_pos (d2.2 hn)]
    simp only [if_true]
    by_cases he : m.Edges.Nodup
    · have : q = true := q2.2 he
      subst this
      exact ⟨true, by rw [e2.2 he]; simp, rfl, fun _ => ⟨hn, he⟩⟩
    · have : q = false := by cases q; rfl; exact absurd (q2.1 rfl) he
      subst this
      exact ⟨false, by have : ¬ e = (m.Edges.length : Int) := fun h => he (e2.1 h); simp [this], rfl, by simp⟩
  · have : p = false := by cases p; rfl; exact absurd (p2.1 rfl) hn
    subst this
    rw [if_neg (fun h => hn (d2.1 h))]
    exact ⟨false, rfl, rfl, by simp⟩
theorem has24 : wU = kJ := rfl
theorem GM (xs : List Int) (t : Int) : wU xs t = some (decide (t ∈ xs)) := by
  rw [has24]
  obtain ⟨h1, h2⟩ := rX xs t
  by_cases h : t ∈ xs
  · obtain ⟨i, i0, i1, e⟩ := eo h
    rw [h1 ⟨i, i0, i1, e⟩]; simp [h]
  · rw [h2 fun i i0 i1 e => h (e ▸ cu i0 i1)]; simp [h]
theorem HD (xs : List Int) (t : Int) : oc xs t = some (decide (t ∈ xs)) := by
  obtain ⟨b, b1, b2, _⟩ := CT xs t
  rw [b1]
  cases b
  · have : ¬ t ∈ xs := fun h => by have := b2.2 h; cases this
    simp [this]
  · have := b2.1 rfl; simp [this]
theorem sq (l : List Int) (n : Int) (h0 : 0 ≤ n) (hn : n ≤ 1000) : ∃ r, lF l n = some r ∧ mX n l = some r ∧ (r.length : Int) ≤ n ∧ ∀ x ∈ r, 0 ≤ x ∧ x < n := by
  unfold lF mX
  refine eD (F := yi l n) (G := xP n l) (fun x : List Int × Int => 0 ≤ x.2 ∧ x.2 ≤ n ∧ (x.1.length : Int) ≤ x.2 ∧ ∀ y ∈ x.1, 0 ≤ y ∧ y < n) (fun x => (n - x.2).toNat) (fun r => (r.length : Int) ≤ n ∧ ∀ x ∈ r, 0 ≤ x ∧ x < n) (fun x hp => ?_) ([], 0) ⟨by simp, by simpa using h0, by simp, by simp⟩
  obtain ⟨r, i⟩ := x
  obtain ⟨p1, p2, p3, p4⟩ := hp
  simp only at p1 p2 p3 p4
  unfold yi xP
  simp only
  by_cases hi : i < n
  · rw [if_pos hi, if_pos hi, HD, GM]
    simp only [Option.bind_some]
    unfold un ye
    simp only
    by_cases hm : i ∈ l
    · refine .inl ⟨(r, i + 1), by simp [hm], by simp [hm], ⟨by simp only; omega, by simp only; omega, by simp only; omega, p4⟩, by simp only; omega⟩
    · refine .inl ⟨(r ++ [i], i + 1), ?_, ?_, ⟨by simp only; omega, by simp only; omega, by simp; omega, fun y hy => ?_⟩, by simp only; omega⟩
      · rw [if_pos (by simp [hm]), if_pos (by omega)]
      · rw [if_pos (by simp [hm]), if_pos (by omega)]
      · rcases List.mem_append.1 hy with hy | hy
        · exact p4 y hy
        · rw [List.mem_singleton.1 hy]; exact ⟨p1, hi⟩
  · rw [if_neg hi, if_neg hi]
    exact .inr ⟨r, rfl, rfl, by omega, p4⟩
theorem Kr {T : aq} (hT : TV T) {g : ar} (hg : gK g) (ht : oo T g) {ns es : List Int} (hn : ∀ x ∈ ns, 0 ≤ x ∧ x < (g.Nodes.length : Int)) (he : ∀ x ∈ es, 0 ≤ x ∧ x < (g.Edges.length : Int)) :
    ∃ b, tt T g ns es = some b ∧ xy T g ns es = some b := by
  have fit : ∀ e a b, ∃ c, kN T e a b = some c ∧ kK T e a b = some c := fitsV hT
  unfold tt xy
  have a1 := lx (p := fun x => pZ x T g) (q := fun x => (nth T.Nodes (nth g.Nodes x)).Abstract) ns (fun x hx => by
    obtain ⟨x0, x1⟩ := hn x hx
    have := ht.1 x x0 x1
    unfold pZ
    rw [if_pos ⟨x0, x1⟩, if_pos ⟨this.1, this.2⟩])
  have a2 := lx (p := fun x => qa x g T) (q := fun x => !((kN T (nth g.Edges x).Type_ (nth g.Nodes (nth g.Edges x).From) (nth g.Nodes (nth g.Edges x).To)).getD false)) es (fun x hx => by
    obtain ⟨x0, x1⟩ := he x hx
    obtain ⟨k1, k2, k3, k4, k5, k6⟩ := hg.2.2.2 x x0 x1
    obtain ⟨c, c1, c2⟩ := fit (nth g.Edges x).Type_ (nth g.Nodes (nth g.Edges x).From) (nth g.Nodes (nth g.Edges x).To)
    unfold qa
    rw [if_pos ⟨x0, x1⟩, if_pos ⟨k3, k4⟩, if_pos ⟨k5, k6⟩, c1]; rfl)
  rw [sd, a1, Option.bind_some, a2]
  have b2 := sa (F := qw T g es) es (fun x => !((kN T (nth g.Edges x).Type_ (nth g.Nodes (nth g.Edges x).From) (nth g.Nodes (nth g.Edges x).To)).getD false)) (c := false) (fin := some true) (fun i i0 i1 => by
    obtain ⟨x0, x1⟩ := he _ (cu i0 i1)
    obtain ⟨k1, k2, k3, k4, k5, k6⟩ := hg.2.2.2 _ x0 x1
    obtain ⟨c, c1, c2⟩ := fit (nth g.Edges (nth es i)).Type_ (nth g.Nodes (nth g.Edges (nth es i)).From) (nth g.Nodes (nth g.Edges (nth es i)).To)
    unfold qw
    rw [if_pos i1, if_pos ⟨i0, i1⟩, if_pos ⟨x0, x1⟩, if_pos ⟨k3, k4⟩, if_pos ⟨k5, k6⟩, c1, c2]
    cases c <;> rfl) (by unfold qw; rw [if_neg (by omega)]; rfl)
  have b1 := sa (F := ul T g ns es) ns (fun x => (nth T.Nodes (nth g.Nodes x)).Abstract) (c := false) (fin := aE (qw T g es) 0) (fun i i0 i1 => by
    obtain ⟨x0, x1⟩ := hn _ (cu i0 i1)
    have := ht.1 _ x0 x1
    unfold ul
    rw [if_pos i1, if_pos ⟨i0, i1⟩, if_pos ⟨x0, x1⟩, if_pos ⟨this.1, this.2⟩]
    cases (nth T.Nodes (nth g.Nodes (nth ns i))).Abstract <;> rfl) (by unfold ul; rw [if_neg (by omega)])
  rw [b1, b2]
  cases ns.any (fun x => (nth T.Nodes (nth g.Nodes x)).Abstract)
  · simp only [Bool.not_false, if_true, Option.bind_some, Bool.false_eq_true, if_false]
    cases es.any (fun x => !((kN T (nth g.Edges x).Type_ (nth g.Nodes (nth g.Edges x).From) (nth g.Nodes (nth g.Edges x).To)).getD false)) <;> exact ⟨_, rfl, rfl⟩
  · exact ⟨false, rfl, rfl⟩
theorem Ce : vh = gW := rfl
theorem IC {T : aq} (hT : TV T) (r : be) (hg : gK r.Right.Graph) (ht : oo T r.Right.Graph) {i : Int} (i0 : 0 ≤ i) (i1 : i < (r.Right.Slots.length : Int)) : ∃ c, mQ T r i = some c ∧ xc T r.Right i = some c := by
  unfold mQ xc
  have hi : 0 ≤ i ∧ i < (r.Right.Slots.length : Int) := ⟨i0, i1⟩
  rw [if_pos hi]
  try rw [if_pos hi]
  generalize hs : nth r.Right.Slots i = s
  by_cases q1 : s.Node < 0
  · simp only [if_pos q1]; exact ⟨_, rfl, rfl⟩
  by_cases q2 : (r.Right.Graph.Nodes.length : Int) ≤ s.Node
  · simp only [if_neg q1, if_pos q2]; exact ⟨_, rfl, rfl⟩
  have hq : 0 ≤ s.Node ∧ s.Node < (r.Right.Graph.Nodes.length : Int) := ⟨by omega, by omega⟩
  obtain ⟨l, _, _, a3, a4⟩ := A9 hT (ht.1 s.Node hq.1 hq.2)
  simp only [if_neg q1, if_neg q2, if_pos hq]
  rw [a3, a4]
  simp only [Option.bind_some]
  by_cases q3 : s.Attr < 0
  · simp only [if_pos q3]; exact ⟨_, rfl, rfl⟩
  by_cases q4 : (l.length : Int) ≤ s.Attr
  · simp only [if_neg q3, if_pos q4]; exact ⟨_, rfl, rfl⟩
  by_cases q5 : s.Term.Var < -1
  · simp only [if_neg q3, if_neg q4, if_pos q5]; exact ⟨_, rfl, rfl⟩
  by_cases q6 : r.Right.Vars ≤ s.Term.Var
  · simp only [if_neg q3, if_neg q4, if_neg q5, if_pos q6]; exact ⟨_, rfl, rfl⟩
  by_cases q7 : s.Term.Add < -1000000
  · simp only [if_neg q3, if_neg q4, if_neg q5, if_neg q6, if_pos q7]; exact ⟨_, rfl, rfl⟩
  by_cases q8 : 1000000 < s.Term.Add
  · simp only [if_neg q3, if_neg q4, if_neg q5, if_neg q6, if_neg q7, if_pos q8]; exact ⟨_, rfl, rfl⟩
  simp only [if_neg q3, if_neg q4, if_neg q5, if_neg q6, if_neg q7, if_neg q8]
  rw [if_pos ⟨Int.le_refl 0, i0, by omega⟩]
  obtain ⟨k, rfl⟩ := Int.eq_ofNat_of_zero_le i0
  rw [Ce]
  have c1 := lx (p := fun x => pr x s) (q := fun x => decide (x.Node = s.Node) && decide (x.Attr = s.Attr)) (cut r.Right.Slots 0 (k : Int)) (fun x _ => by
    unfold pr
    by_cases h : x.Node = s.Node <;> simp [h])
  rw [c1]
  obtain ⟨u1, u2⟩ := pb (F := tZ r.Right (k : Int)) (c := 5) (fin := some 0) (q := fun x => x.Node = s.Node ∧ x.Attr = s.Attr) r.Right.Slots k (by omega) (fun j j0 j1 => by
    unfold tZ
    rw [if_pos j1, if_pos ⟨j0, by omega⟩, hs]
    unfold yf
    by_cases h1 : (nth r.Right.Slots j).Node = s.Node
    · by_cases h2 : (nth r.Right.Slots j).Attr = s.Attr <;> simp [h1, h2]
    · simp [h1]) (by unfold tZ; rw [if_neg (by omega)]; rfl)
  cases hc : (cut r.Right.Slots 0 (k : Int)).any (fun x => decide (x.Node = s.Node) && decide (x.Attr = s.Attr))
  · rw [u2]
    · exact ⟨0, rfl, rfl⟩
    · intro x hx h
      have h2 : ∃ x, x ∈ cut r.Right.Slots 0 (k : Int) ∧ (decide (x.Node = s.Node) && decide (x.Attr = s.Attr)) = true := ⟨x, hx, by simp [h.1, h.2]⟩
      rw [← List.any_eq_true, hc] at h2; cases h2
  · obtain ⟨x, hx, h⟩ := List.any_eq_true.1 hc
    rw [u1 ⟨x, hx, by simpa using h⟩]
    exact ⟨5, rfl, rfl⟩
structure wa (T : aq) (r : be) : Prop where
  g : gK r.Right.Graph
  t : oo T r.Right.Graph
theorem Je {T : aq} (hT : TV T) (r : be) : ∃ c, mY T r = some c ∧ xp T r = some c ∧ (c = 0 → wa T r) := by
  unfold mY xp
  obtain ⟨c, g1, g2, g3⟩ := jI r.Right.Graph
  rw [g1, g2]
  simp only [Option.bind_some]
  by_cases h : c = 0
  rotate_left
  · exact ⟨c, by simp [h], by simp [h], fun e => absurd e h⟩
  subst h
  have hg := g3.1 rfl
  obtain ⟨a, b, t1, t2, t3, t4⟩ := C3 T hg
  have e1 : sT T r.Right.Graph = some (!a && !b) := by
    unfold sT
    rw [show gx r.Right.Graph.Nodes (fun x => tu x T) = some a from t1, show jd r.Right.Graph.Edges (fun x => tw x T) = some b from t2]
    cases a <;> cases b <;> rfl
  rw [e1, t3]
  simp only [not_true_eq_false, if_false, Option.bind_some]
  cases hab : (!a && !b)
  · exact ⟨13, by simp, by simp, by simp⟩
  have ht := t4 hab
  simp only [Bool.not_true, Bool.false_eq_true, if_false]
  by_cases q1 : r.Right.Vars = r.Left.Vars
  rotate_left
  · simp only [if_pos q1]; exact ⟨1, rfl, rfl, by simp⟩
  simp only [if_neg (not_not_intro q1)]
  by_cases q2 : 0 < (r.Right.Tests.length : Int)
  · simp only [if_pos q2]; exact ⟨1, rfl, rfl, by simp⟩
  simp only [if_neg q2]
  by_cases q3 : 10 < (r.Right.Slots.length : Int)
  · simp only [if_pos q3]; exact ⟨3, rfl, rfl, by simp⟩
  simp only [if_neg q3]
  refine eD (F := qb T r) (G := yw T r) (fun x : Int => 0 ≤ x) (fun x => ((r.Right.Slots.length : Int) - x).toNat) (fun c => c = 0 → wa T r) (fun x x0 => ?_) 0 (by omega)
  unfold qb yw
  by_cases hx : x < (r.Right.Slots.length : Int)
  · obtain ⟨c, c1, c2⟩ := IC hT r hg ht x0 hx
    rw [if_pos hx, if_pos hx, c1, c2]
    simp only [Option.bind_some]
    by_cases h : c = 0
    · exact .inl ⟨x + 1, by simp [h], by simp [h], by omega, by omega⟩
    · exact .inr ⟨c, by simp [h], by simp [h], fun e => absurd e h⟩
  · rw [if_neg hx, if_neg hx]
    exact .inr ⟨0, rfl, rfl, fun _ => ⟨hg, ht⟩⟩
end Go.Proofs.YtngimdmkomkeoaaGreat.K
