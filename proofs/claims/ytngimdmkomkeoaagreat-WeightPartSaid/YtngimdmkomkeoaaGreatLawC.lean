import Derived.Test.YtngimdmkomkeoaaGreatLawY
set_option linter.unusedVariables false
set_option linter.unusedSimpArgs false
namespace Go.Proofs.YtngimdmkomkeoaaGreat.K
open Go.RowKit Go.Proofs
theorem Hv {σ τ β : Type} {F : σ → Option (σ ⊕ β)} {G : τ → Option (τ ⊕ β)} (R : σ → τ → Prop) (m : σ → Nat) (Q : β → Prop)
    (h : ∀ x y, R x y → (∃ x' y', F x = some (.inl x') ∧ G y = some (.inl y') ∧ R x' y' ∧ m x' < m x) ∨ (∃ b, F x = some (.inr b) ∧ G y = some (.inr b) ∧ Q b)) : ∀ x y, R x y → ∃ b, aE F x = some b ∧ aE G y = some b ∧ Q b := by
  have key : ∀ n x y, m x = n → R x y → ∃ b, aE F x = some b ∧ aE G y = some b ∧ Q b := by
    intro n
    induction n using Nat.strongRecOn with
    | _ n ih =>
      intro x y hn hp
      rcases h x y hp with ⟨x', y', h1, h2, h3, h4⟩ | ⟨b, h1, h2, h3⟩
      · rw [mx h1, mx h2]; exact ih (m x') (by omega) x' y' rfl h3
      · exact ⟨b, kI h1, kI h2, h3⟩
  exact fun x y => key _ x y rfl
theorem IA {α : Type} [Inhabited α] (xs : List α) (i : Int) (h0 : 0 ≤ i) (h1 : i < (xs.length : Int)) : xs.set i.toNat (nth xs i) = xs := by
  obtain ⟨k, rfl⟩ := Int.eq_ofNat_of_zero_le h0
  have hk : k < xs.length := by omega
  rw [dw xs k hk]
  simp
theorem Jj {α : Type} [Inhabited α] (xs : List α) (i : Int) (h0 : 0 ≤ i) (h1 : i < (xs.length : Int)) : xs.take i.toNat ++ [nth xs i] = xs.take (i + 1).toNat := by
  obtain ⟨k, rfl⟩ := Int.eq_ofNat_of_zero_le h0
  have hk : k < xs.length := by omega
  rw [dw xs k hk]
  have e : ((k : Int) + 1).toNat = k + 1 := by omega
  rw [e]
  simp
theorem A9 {T : aq} (hT : TV T) {i : Int} (h : gy T i) : ∃ l, eL T i l ∧ (l.length : Int) ≤ 8 ∧ pt T i = some (l, 0) ∧ jL T i = some (l, 0) := by
  have hp : gz T i := hT.par.down (by have := h.2; omega)
  obtain ⟨l, a1, a2, a3⟩ := Cn hT.few hT.n12 h.1 h.2 hp
  obtain ⟨l', b1, b2⟩ := hT.at8 i h.1 h.2
  have := a3.det b1
  subst this
  obtain ⟨_, f2, _⟩ := a3.few hT.few h.1 h.2 hp
  refine ⟨l, a3, b2, ?_, ?_⟩
  · unfold pt
    obtain ⟨c, h1, h2, _⟩ := vS hT [i]
    have hc := h2.2 (by simpa using h)
    subst hc
    rw [h1]
    simp only [Option.bind_some, not_true_eq_false, if_false, a1]
    obtain ⟨b, e1, e2⟩ := cl (F := yk l) (fun x : List aW × Int => x.1 = l ∧ 0 ≤ x.2) (fun x => ((l.length : Int) - x.2).toNat) (fun b => b = (l, 0)) (fun x hx => by
      obtain ⟨xs, k⟩ := x
      obtain ⟨hx1, k0⟩ := hx
      simp only at k0 hx1
      subst hx1
      unfold yk
      simp only
      by_cases hk : k < (xs.length : Int)
      · have hF := f2 _ (cu k0 hk)
        rw [if_pos hk, if_pos ⟨k0, hk⟩]
        unfold uU
        rw [if_pos (by have := hF.2.1; omega), Option.bind_some]
        refine .inl ⟨(xs, k + 1), ?_, ⟨rfl, by simp only; omega⟩, by simp only; omega⟩
        have : xs.set k.toNat (aW.mk (nth xs k).Name (nth xs k).Low (nth xs k).High (nth xs k).Names) = xs := IA xs k k0 hk
        rw [this]
      · rw [if_neg hk]; exact .inr ⟨_, rfl, rfl⟩) (l, 0) ⟨rfl, by simp⟩
    rw [e1, e2]
  · unfold jL
    obtain ⟨c, h1, h2, _⟩ := Br hT i i
    have hc := h2.2 ⟨h, h⟩
    subst hc
    rw [h1]
    simp only [Option.bind_some, not_true_eq_false, if_false, a2]
    obtain ⟨b, e1, e2⟩ := cl (F := pT l) (fun x : List aW × Int => 0 ≤ x.2 ∧ x.2 ≤ (l.length : Int) ∧ x.1 = l.take x.2.toNat) (fun x => ((l.length : Int) - x.2).toNat) (fun b => b = (l, 0)) (fun x hx => by
      obtain ⟨xs, k⟩ := x
      obtain ⟨k0, k1, k2⟩ := hx
      simp only at k0 k1 k2
      unfold pT
      simp only
      by_cases hk : k < (l.length : Int)
      · have hF := f2 _ (cu k0 hk)
        rw [if_pos hk, if_pos ⟨k0, hk⟩, if_pos (by have := hF.2.1; omega), if_pos (by rw [k2]; simp only [List.length_take]; omega)]
        refine .inl ⟨_, rfl, ⟨by simp only; omega, by simp only; omega, ?_⟩, by simp only; omega⟩
        simp only
        rw [k2]
        exact Jj l k k0 hk
      · rw [if_neg hk]
        refine .inr ⟨_, rfl, ?_⟩
        rw [k2, List.take_of_length_le (by omega)]) ([], 0) ⟨by simp, by simp, by simp⟩
    rw [e1, e2]
def oo (T : aq) (g : ar) : Prop := (∀ i : Int, 0 ≤ i → i < (g.Nodes.length : Int) → gy T (nth g.Nodes i)) ∧ ∀ i : Int, 0 ≤ i → i < (g.Edges.length : Int) → 0 ≤ (nth g.Edges i).Type_ ∧ (nth g.Edges i).Type_ < (T.Edges.length : Int)
theorem C3 (T : aq) {g : ar} (hg : gK g) : ∃ a b, gx g.Nodes (fun x => qy x T) = some a ∧ jd g.Edges (fun x => qz x T) = some b ∧ pn T g = some (!a && !b) ∧ ((!a && !b) = true → oo T g) := by
  obtain ⟨a, a1, a2⟩ := jF (p := fun x => qy x T) (q := fun x => (T.Nodes.length : Int) ≤ x) g.Nodes (fun x _ => ⟨_, rfl, by simp⟩)
  obtain ⟨b, b1, b2⟩ := jF (p := fun x => qz x T) (q := fun x => (T.Edges.length : Int) ≤ x.Type_) g.Edges (fun x _ => ⟨_, rfl, by simp⟩)
  refine ⟨a, b, by rw [sd]; exact a1, by rw [IP]; exact b1, ?_⟩
  have e2 : aE (nO T g) 0 = eg (fun i => if (T.Edges.length : Int) ≤ (nth g.Edges i).Type_ then some false else none) 0 g.Edges.length (some true) := by
    refine fJ _ _ (fun i h0 h1 => ?_) ?_
    · unfold nO
      have := (hg.2.2.2 i h0 h1).1
      rw [if_pos h1, if_pos ⟨h0, h1⟩, if_neg (by omega)]
      by_cases hq : (T.Edges.length : Int) ≤ (nth g.Edges i).Type_ <;> simp [hq]
    · unfold nO
      rw [if_neg (by omega)]; rfl
  have e1 : pn T g = eg (fun i => if (T.Nodes.length : Int) ≤ nth g.Nodes i then some false else none) 0 g.Nodes.length (aE (nO T g) 0) := by
    unfold pn
    refine fJ _ _ (fun i h0 h1 => ?_) ?_
    · unfold y7
      have := (hg.2.2.1 i h0 h1).1
      rw [if_pos h1, if_pos ⟨h0, h1⟩, if_neg (by omega)]
      by_cases hq : (T.Nodes.length : Int) ≤ nth g.Nodes i <;> simp [hq]
    · unfold y7
      rw [if_neg (by omega)]
  have s1 := kH (step := fun i => if (T.Nodes.length : Int) ≤ nth g.Nodes i then some false else none) (p := fun i => (T.Nodes.length : Int) ≤ nth g.Nodes i) (c := false) (fin := aE (nO T g) 0) g.Nodes.length (fun i _ _ => rfl)
  have s2 := kH (step := fun i => if (T.Edges.length : Int) ≤ (nth g.Edges i).Type_ then some false else none) (p := fun i => (T.Edges.length : Int) ≤ (nth g.Edges i).Type_) (c := false) (fin := some true) g.Edges.length (fun i _ _ => rfl)
  rw [e1]
  cases a
  rotate_left
  · obtain ⟨x, hx, hq⟩ := a2.1 rfl
    obtain ⟨i, i0, i1, e⟩ := eo hx
    subst e
    rw [s1.1 ⟨i, i0, i1, hq⟩]; exact ⟨by simp, by simp⟩
  have na : ∀ i : Int, 0 ≤ i → i < (g.Nodes.length : Int) → ¬ (T.Nodes.length : Int) ≤ nth g.Nodes i := fun i i0 i1 h => by
    have := a2.2 ⟨_, cu i0 i1, h⟩; cases this
  rw [s1.2 na, e2]
  cases b
  rotate_left
  · obtain ⟨x, hx, hq⟩ := b2.1 rfl
    obtain ⟨i, i0, i1, e⟩ := eo hx
    subst e
    rw [s2.1 ⟨i, i0, i1, hq⟩]; exact ⟨by simp, by simp⟩
  have nb : ∀ i : Int, 0 ≤ i → i < (g.Edges.length : Int) → ¬ (T.Edges.length : Int) ≤ (nth g.Edges i).Type_ := fun i i0 i1 h => by
    have := b2.2 ⟨_, cu i0 i1, h⟩; cases this
  rw [s2.2 nb]
  exact ⟨rfl, fun _ => ⟨fun i i0 i1 => ⟨(hg.2.2.1 i i0 i1).1, by have := na i i0 i1; omega⟩, fun i i0 i1 => ⟨(hg.2.2.2 i i0 i1).1, by have := nb i i0 i1; omega⟩⟩⟩
theorem sH (a b c : Int) : kU a b c = some (decide (b ≤ a ∧ a ≤ c)) := by
  unfold kU; by_cases h : b ≤ a <;> simp [h]
theorem HA {T : aq} (hT : TV T) (p : aJ) (h40 : (p.Graph.Nodes.length : Int) ≤ 40) (hn : ∀ i : Int, 0 ≤ i → i < (p.Graph.Nodes.length : Int) → gy T (nth p.Graph.Nodes i)) (s : bU) :
    ∃ ok a a', tL T p s = some (a, ok) ∧ xa T p s.Node s.Attr = some (a', ok) := by
  unfold tL xa
  rw [bL (by omega) (by omega), Option.bind_some, sH, Option.bind_some]
  by_cases q1 : s.Node < 0
  · rw [if_pos (by simp; omega), if_pos q1]; exact ⟨false, _, _, rfl, rfl⟩
  by_cases q2 : (p.Graph.Nodes.length : Int) ≤ s.Node
  · rw [if_pos (by simp; omega), if_neg q1, if_pos q2]; exact ⟨false, _, _, rfl, rfl⟩
  have hs : 0 ≤ s.Node ∧ s.Node < (p.Graph.Nodes.length : Int) := ⟨by omega, by omega⟩
  obtain ⟨l, a1, a2, a3, a4⟩ := A9 hT (hn s.Node hs.1 hs.2)
  rw [if_neg (by simp; omega), if_neg q1, if_neg q2, if_pos hs]
  try rw [if_pos hs]
  rw [a3, a4]
  simp only [Option.bind_some, not_true_eq_false, if_false]
  rw [bL (by omega) (by omega), sH]
  simp only [Option.bind_some]
  by_cases q3 : s.Attr < 0
  · rw [if_pos (by simp; omega), if_pos q3]; exact ⟨false, _, _, rfl, rfl⟩
  by_cases q4 : (l.length : Int) ≤ s.Attr
  · rw [if_pos (by simp; omega), if_neg q3, if_pos q4]; exact ⟨false, _, _, rfl, rfl⟩
  have ha : 0 ≤ s.Attr ∧ s.Attr < (l.length : Int) := ⟨by omega, by omega⟩
  rw [if_neg (by simp; omega), if_neg q3, if_neg q4, if_pos ha]
  try rw [if_pos ha]
  exact ⟨true, _, _, rfl, rfl⟩
theorem C2 (n : Int) (x : cH) : ∃ b, qj n x = some b ∧ tm n x = some (if b = true then 0 else 6) := by
  unfold qj tm
  by_cases q1 : x.Var < -1
  · rw [if_neg (by omega), if_pos q1]; exact ⟨false, rfl, rfl⟩
  rw [if_pos (by omega), if_neg q1]
  by_cases q2 : n ≤ x.Var
  · rw [if_neg (by omega), if_pos q2]; exact ⟨false, rfl, rfl⟩
  rw [if_pos (by omega), if_neg q2]
  by_cases q3 : x.Add < -1000000
  · rw [if_neg (by omega), if_pos q3]; exact ⟨false, rfl, rfl⟩
  rw [if_pos (by omega), if_neg q3]
  by_cases q4 : 1000000 < x.Add
  · rw [if_pos q4]; exact ⟨false, by simp; omega, rfl⟩
  · rw [if_neg q4]; exact ⟨true, by simp; omega, rfl⟩
theorem Hf (n : Int) (x : dP) : ∃ c, nB n x = some c ∧ wS n x = some c := by
  have key : ∃ c, nV n x () = some c ∧ tl n x () = some c := by
    unfold nV tl
    obtain ⟨a, a1, a2⟩ := C2 n x.Left
    obtain ⟨b, b1, b2⟩ := C2 n x.Right
    rw [a1, a2, b1, b2]
    cases a <;> cases b <;> exact ⟨_, rfl, rfl⟩
  obtain ⟨c, c1, c2⟩ := key
  unfold nB wS
  rw [c1, c2]
  by_cases q1 : x.Kind = 1 <;> by_cases q2 : x.Kind = 2 <;> simp [q1, q2]
theorem Jm (n : Int) (l : List dP) : ∃ c, nR n l = some c ∧ xm n l = some c := by
  unfold nR xm
  by_cases q1 : n < 0
  · rw [if_pos q1, if_pos q1]; exact ⟨_, rfl, rfl⟩
  rw [if_neg q1, if_neg q1]
  by_cases q2 : 12 < n
  · rw [if_pos q2, if_pos q2]; exact ⟨_, rfl, rfl⟩
  rw [if_neg q2, if_neg q2]
  by_cases q3 : 40 < (l.length : Int)
  · rw [if_pos q3, if_pos q3]; exact ⟨_, rfl, rfl⟩
  rw [if_neg q3, if_neg q3]
  obtain ⟨b, b1, b2, _⟩ := eD (F := qL n l) (G := xV n l) (fun x => 0 ≤ x) (fun x => ((l.length : Int) - x).toNat) (fun _ => True) (fun x hx => by
    unfold qL xV
    by_cases hl : x < (l.length : Int)
    · obtain ⟨c, c1, c2⟩ := Hf n (nth l x)
      rw [if_pos hl, if_pos hl, if_pos ⟨hx, hl⟩, c1, c2]
      simp only [Option.bind_some]
      by_cases h : c = 0
      · exact .inl ⟨x + 1, by simp [h], by simp [h, hx, hl], by omega, by omega⟩
      · exact .inr ⟨c, by simp [h], by simp [h, hx, hl], trivial⟩
    · rw [if_neg hl, if_neg hl]; exact .inr ⟨_, rfl, rfl, trivial⟩) 0 (by omega)
  exact ⟨b, b1, b2⟩
theorem CA (p : aJ) (v : Int) : ∃ b, tn p v = some b ∧ (b = true ↔ ∃ s ∈ p.Slots, s.Term.Var = v) := by
  unfold tn
  have e : aE (uj p v) 0 = eg (fun i => if (nth p.Slots i).Term.Var = v then some true else none) 0 p.Slots.length (some false) := by
    refine fJ _ _ (fun i h0 h1 => ?_) ?_
    · unfold uj
      rw [if_pos h1, if_pos ⟨h0, h1⟩]
      by_cases hq : (nth p.Slots i).Term.Var = v <;> simp [hq]
    · unfold uj
      rw [if_neg (by omega)]; rfl
  have s := kH (step := fun i => if (nth p.Slots i).Term.Var = v then some true else none) (p := fun i => (nth p.Slots i).Term.Var = v) (c := true) (fin := some false) p.Slots.length (fun i _ _ => rfl)
  rw [e]
  by_cases h : ∃ s ∈ p.Slots, s.Term.Var = v
  · obtain ⟨x, hx, hv⟩ := h
    obtain ⟨i, i0, i1, e⟩ := eo hx
    subst e
    exact ⟨true, s.1 ⟨i, i0, i1, hv⟩, by simp only [true_iff]; exact ⟨_, hx, hv⟩⟩
  · exact ⟨false, s.2 (fun i i0 i1 hv => h ⟨_, cu i0 i1, hv⟩), by simp only [Bool.false_eq_true, false_iff]; exact h⟩
theorem contB (xs : List Bool) (t : Bool) : ∃ b, vb xs t = some b ∧ (b = true ↔ ∃ i : Int, 0 ≤ i ∧ i < (xs.length : Int) ∧ nth xs i = t) := by
  have e : uL xs t = eg (fun i => if nth xs i = t then some i else none) 0 xs.length (some (-1)) := by
    unfold uL
    refine fJ _ _ (fun i h0 h1 => ?_) ?_
    · unfold z2
      rw [if_pos h1, if_pos ⟨h0, h1⟩]
      cases t <;> cases nth xs i <;> simp
    · unfold z2
      rw [if_neg (by omega)]; rfl
  unfold vb
  rw [e]
  rcases jN (step := fun i => if nth xs i = t then some i else none) (fin := some (-1)) xs.length 0 with ⟨h1, h2⟩ | ⟨j, b, h1, h2, h3, h4, h5⟩
  · rw [h2]
    refine ⟨false, rfl, by simp only [Bool.false_eq_true, false_iff]; rintro ⟨i, i0, i1, hq⟩; have := h1 i i0 (by omega); simp [hq] at this⟩
  · rw [h5]
    try simp only at h3
    split at h3
    · rename_i hq
      cases h3
      exact ⟨true, by simp [h1], by simp only [true_iff]; exact ⟨j, h1, by omega, hq⟩⟩
    · cases h3
structure zm (T : aq) (p : aJ) : Prop where
  g : gK p.Graph
  t : oo T p.Graph
  v0 : 0 ≤ p.Vars
  v12 : p.Vars ≤ 12
theorem xT {T : aq} (hf : eM T) (p : aJ) : ∃ c, kS T p = some c ∧ pp T p = some c ∧ (c = 0 → zm T p) := by
  unfold kS pp
  rcases rR hf with ⟨s, c, h1, h2, h3⟩ | hT
  · rw [h1, h2]; exact ⟨c, by simp [h3], by simp [h3], fun e => absurd e h3⟩
  obtain ⟨s, v1, v2⟩ := hT.v
  obtain ⟨c, g1, g2, g3⟩ := jI p.Graph
  rw [v1, v2, g1, g2]
  simp only [Option.bind_some, not_true_eq_false, if_false]
  by_cases h : c = 0
  rotate_left
  · exact ⟨c, by simp [h], by simp [h], fun e => absurd e h⟩
  subst h
  have hg := g3.1 rfl
  obtain ⟨a, b, t1, t2, t3, t4⟩ := C3 T hg
  simp only [not_true_eq_false, if_false]
  rw [t1, t2, t3]
  simp only [Option.bind_some]
  cases a
  rotate_left
  · exact ⟨13, by simp, by simp, by simp⟩
  cases b
  rotate_left
  · exact ⟨13, by simp, by simp, by simp⟩
  have ht := t4 rfl
  simp only [Bool.false_eq_true, if_false, Bool.not_false, Bool.and_self, Bool.not_true, sH, Option.bind_some]
  by_cases q1 : p.Vars < 0
  · rw [if_pos (by simp; omega), if_pos q1]; exact ⟨6, rfl, rfl, by simp⟩
  by_cases q2 : 12 < p.Vars
  · rw [if_pos (by simp; omega), if_neg q1, if_pos q2]; exact ⟨6, rfl, rfl, by simp⟩
  rw [if_neg (by simp; omega), if_neg q1, if_neg q2]
  by_cases q3 : 10 < (p.Slots.length : Int)
  · rw [if_pos q3, if_pos q3]; exact ⟨3, rfl, rfl, by simp⟩
  rw [if_neg q3, if_neg q3]
  by_cases q4 : 10 < (p.Tests.length : Int)
  · rw [if_pos q4, if_pos q4]; exact ⟨3, rfl, rfl, by simp⟩
  rw [if_neg q4, if_neg q4, if_pos (by omega)]
  refine Hv (F := qK T p) (G := yr T p) (fun x y => x.2 = y ∧ 0 ≤ y ∧ y ≤ (p.Slots.length : Int) ∧ (x.1.length : Int) = p.Vars ∧ ∀ v : Int, 0 ≤ v → v < p.Vars → (nth x.1 v = true ↔ ∃ i : Int, 0 ≤ i ∧ i < y ∧ (nth p.Slots i).Term.Var = v)) (fun x => ((p.Slots.length : Int) - x.2).toNat) _ (fun x y hxy => ?_) (List.replicate p.Vars.toNat false, 0) 0 ⟨rfl, by omega, by omega, by simp; omega, fun v a b => ?_⟩
  rotate_left
  · obtain ⟨k, rfl⟩ := Int.eq_ofNat_of_zero_le a
    have hk : k < (List.replicate p.Vars.toNat false).length := by simp; omega
    rw [dw _ k hk]
    simp
    intro i i0 i1; omega
  obtain ⟨us, x⟩ := x
  obtain ⟨e, y0, y1, hl, hu⟩ := hxy
  simp only at e hl hu
  subst e
  unfold qK yr
  simp only
  by_cases hx : x < (p.Slots.length : Int)
  · obtain ⟨ok, a, a', w1, w2⟩ := HA hT p hg.1 ht.1 (nth p.Slots x)
    have hx2 : 0 ≤ x ∧ x < (p.Slots.length : Int) := ⟨y0, hx⟩
    rw [if_pos hx, if_pos hx, if_pos hx2]
    try rw [if_pos hx2]
    rw [w1, w2]
    simp only [Option.bind_some]
    cases ok
    · exact .inr ⟨6, by simp, by simp, by simp⟩
    simp only [Bool.not_true, Bool.false_eq_true, if_false]
    rw [bL (by omega) (by omega)]
    unfold Dl
    simp only [sH, Option.bind_some]
    by_cases r1 : (nth p.Slots x).Term.Var < -1
    · rw [if_pos (by simp; omega), if_pos r1]; exact .inr ⟨6, rfl, rfl, by simp⟩
    by_cases r2 : p.Vars ≤ (nth p.Slots x).Term.Var
    · rw [if_pos (by simp; omega), if_neg r1, if_pos r2]; exact .inr ⟨6, rfl, rfl, by simp⟩
    rw [if_neg (by simp; omega), if_neg r1, if_neg r2]
    by_cases r3 : -1000000 ≤ (nth p.Slots x).Term.Add ∧ (nth p.Slots x).Term.Add ≤ 1000000
    rotate_left
    · refine .inr ⟨6, by rw [if_pos (by simp; omega)], ?_, by simp⟩
      by_cases r4 : -1000000 ≤ (nth p.Slots x).Term.Add
      · rw [if_pos r4]; simp; omega
      · rw [if_neg r4]; simp
    rw [if_neg (by simp; omega), if_pos r3.1]
    have e2 : decide ((nth p.Slots x).Term.Add ≤ 1000000) = true := decide_eq_true r3.2
    rw [e2]
    simp only [Option.bind_some, Bool.not_true, Bool.false_eq_true, if_false]
    unfold qJ
    simp only
    by_cases r5 : 0 ≤ (nth p.Slots x).Term.Var
    · rw [if_pos r5, if_pos ⟨r5, by omega⟩]
      refine .inl ⟨_, _, rfl, rfl, ⟨rfl, by omega, by omega, by simpa using hl, fun v v0 v1 => ?_⟩, by simp only; omega⟩
      by_cases ev : v = (nth p.Slots x).Term.Var
      · rw [ev]
        simp only
        rw [jK r5 (by omega)]
        simp only [true_iff]
        exact ⟨x, y0, by omega, rfl⟩
      · simp only
        rw [iZ r5 ev v0, hu v v0 v1]
        constructor
        · rintro ⟨i, i0, i1, i2⟩; exact ⟨i, i0, by omega, i2⟩
        · rintro ⟨i, i0, i1, i2⟩
          by_cases ei : i = x
          · subst ei; exact absurd i2.symm ev
          · exact ⟨i, i0, by omega, i2⟩
    · rw [if_neg r5]
      refine .inl ⟨_, _, rfl, rfl, ⟨rfl, by omega, by omega, hl, fun v v0 v1 => ?_⟩, by simp only; omega⟩
      simp only
      rw [hu v v0 v1]
      constructor
      · rintro ⟨i, i0, i1, i2⟩; exact ⟨i, i0, by omega, i2⟩
      · rintro ⟨i, i0, i1, i2⟩
        by_cases ei : i = x
        · subst ei; omega
        · exact ⟨i, i0, by omega, i2⟩
  · rw [if_neg hx, if_neg hx]
    obtain ⟨c, c1, c2⟩ := Jm p.Vars p.Tests
    rw [c1, c2]
    simp only [Option.bind_some]
    by_cases h : c = 0
    rotate_left
    · exact .inr ⟨c, by simp [h], by simp [h], fun e => absurd e h⟩
    subst h
    simp only [not_true_eq_false, if_false]
    obtain ⟨d, d1, d2⟩ := contB us false
    rw [d1]
    have e3 : aE (ui p) 0 = some (if d = true then 9 else 0) := by
      obtain ⟨b, b1, b2⟩ := cl (F := ui p) (fun v => 0 ≤ v ∧ v ≤ p.Vars ∧ ∀ k : Int, 0 ≤ k → k < v → ∃ s ∈ p.Slots, s.Term.Var = k) (fun v => (p.Vars - v).toNat) (fun b => b = if d = true then 9 else 0) (fun v hv => by
        obtain ⟨w0, w1, w2⟩ := hv
        unfold ui
        by_cases hvl : v < p.Vars
        · obtain ⟨o, o1, o2⟩ := CA p v
          rw [if_pos hvl, o1]
          simp only [Option.bind_some]
          cases o
          · refine .inr ⟨9, by simp, ?_⟩
            have hd : d = true := d2.2 ⟨v, w0, by omega, by
              cases hn : nth us v
              · rfl
              · obtain ⟨i, i0, i1, i2⟩ := (hu v w0 hvl).1 hn
                have := o2.2 ⟨_, cu i0 (by omega), i2⟩; cases this⟩
            rw [if_pos hd]
          · refine .inl ⟨v + 1, by simp, ⟨by omega, by omega, fun k k0 k1 => ?_⟩, by omega⟩
            by_cases e : k = v
            · subst e; exact o2.1 rfl
            · exact w2 k k0 (by omega)
        · rw [if_neg hvl]
          refine .inr ⟨0, rfl, ?_⟩
          have hd : d = false := by
            cases hd : d
            · rfl
            · obtain ⟨v, v0, v1, v2⟩ := d2.1 hd
              obtain ⟨s, hs, e⟩ := w2 v v0 (by omega)
              obtain ⟨i, i0, i1, e2⟩ := eo hs
              subst e2
              have := (hu v v0 (by omega)).2 ⟨i, i0, by omega, e⟩
              rw [v2] at this; cases this
          rw [hd]; rfl) 0 ⟨by omega, by omega, fun k a b => by omega⟩
      rw [b1, b2]
    rw [e3]
    cases d
    · exact .inr ⟨0, by simp, by simp, fun _ => ⟨hg, ht, by omega, by omega⟩⟩
    · exact .inr ⟨9, by simp, by simp, by simp⟩
end Go.Proofs.YtngimdmkomkeoaaGreat.K
