import Derived.Test.YtngimdmkomkeoaaGreatLawR
set_option linter.unusedVariables false
set_option linter.unusedSimpArgs false
namespace Go.Proofs.YtngimdmkomkeoaaGreat.K
open Go.RowKit Go.Proofs
structure CBd (c : az) : Prop where
  m : (c.Map.Nodes.length : Int) + (c.Map.Edges.length : Int) ≤ 140
  n : (c.Pattern.Graph.Nodes.length : Int) ≤ 45
  e : (c.Pattern.Graph.Edges.length : Int) ≤ 90
  s : (c.Pattern.Slots.length : Int) ≤ 15
  t : (c.Pattern.Tests.length : Int) ≤ 15
inductive gB : az → Prop
  | mk {c : az} (b : CBd c) (h : ∀ k ∈ c.Kids, gB k) : gB c
def vj (m : aS) : Prop := (m.Nodes.length : Int) ≤ 140737488355328 ∧ (m.Edges.length : Int) ≤ 140737488355328
inductive jY : az → Prop
  | mk {c : az} (b : vj c.Map) (h : ∀ k ∈ c.Kids, jY k) : jY c
theorem sw (c k : az) (h : k ∈ c.Kids) : SizeOf.sizeOf k < SizeOf.sizeOf c := by
  cases c with
  | mk x0 x1 x2 x3 =>
    have := List.sizeOf_lt_of_mem (show k ∈ x1 from h)
    simp only [az.mk.sizeOf_spec]
    omega
theorem sb (c : az) : 1 ≤ SizeOf.sizeOf c := by
  cases c with
  | mk x0 x1 x2 x3 => simp only [az.mk.sizeOf_spec]; omega
theorem few5 (g : ar) : ∃ b, sC g = some b ∧ (b = true → (g.Nodes.length : Int) ≤ 45 ∧ (g.Edges.length : Int) ≤ 90) := by
  unfold sC
  by_cases h : (g.Nodes.length : Int) ≤ 45
  · rw [if_pos h]; exact ⟨_, rfl, fun e => ⟨h, by simpa using e⟩⟩
  · rw [if_neg h]; exact ⟨_, rfl, by simp⟩
theorem rg (p : aJ) : ∃ b, mP p = some b ∧ (b = true → ((p.Graph.Nodes.length : Int) ≤ 45 ∧ (p.Graph.Edges.length : Int) ≤ 90) ∧ (p.Slots.length : Int) ≤ 15 ∧ (p.Tests.length : Int) ≤ 15) := by
  unfold mP
  obtain ⟨b, b1, b2⟩ := few5 p.Graph
  rw [b1]
  simp only [Option.bind_some]
  cases b
  · exact ⟨false, rfl, by simp⟩
  · simp only [if_true]
    by_cases h : (p.Slots.length : Int) ≤ 15
    · rw [if_pos h]; exact ⟨_, rfl, fun e => ⟨b2 rfl, h, by simpa using e⟩⟩
    · rw [if_neg h]; exact ⟨_, rfl, by simp⟩
theorem few6 {m : aS} (h : vj m) (k : Int) : ∃ b, mO m k = some b ∧ (b = true → (m.Nodes.length : Int) + (m.Edges.length : Int) ≤ k) := by
  unfold mO
  obtain ⟨h1, h2⟩ := h
  rw [bL (by omega) (by omega)]
  exact ⟨_, rfl, fun e => by simpa using e⟩
theorem HG (m : aS) (k : Int) : ∃ b, mO m k = some b := ⟨_, rfl⟩
theorem few7 (p : cM) (k : Int) : ∃ b, wT p k = some b := ⟨_, rfl⟩
theorem I1 : ∀ (n : Nat) (c : az), SizeOf.sizeOf c ≤ n → ∀ k, ∃ b, j8 n c k = some b := by
  intro n
  induction n with
  | zero => intro c hc; have := sb c; omega
  | succ n ih =>
    intro c hc k
    show ∃ b, nt (j8 n) c k = some b
    unfold nt
    obtain ⟨b1, h1, _⟩ := rg c.Pattern
    obtain ⟨b2, h2⟩ := HG c.Map 140
    rw [h1]
    simp only [Option.bind_some]
    cases b1
    · exact ⟨_, rfl⟩
    simp only [Bool.not_true, Bool.false_eq_true, if_false]
    rw [h2]
    simp only [Option.bind_some]
    cases b2
    · exact ⟨_, rfl⟩
    simp only [Bool.not_true, Bool.false_eq_true, if_false]
    obtain ⟨b, hb, _⟩ := cl (F := pK (j8 n) c) (fun x : Int × Int => 0 ≤ x.2 ∧ x.2 ≤ (c.Kids.length : Int)) (fun x => ((c.Kids.length : Int) - x.2).toNat) (fun _ => True) (fun x hp => by
      obtain ⟨l, x⟩ := x
      obtain ⟨q1, q2⟩ := hp
      simp only at q1 q2
      unfold pK
      simp only
      by_cases hx : x < (c.Kids.length : Int)
      · rw [if_pos hx]
        by_cases hl : 0 ≤ l
        · obtain ⟨b, hb⟩ := ih (nth c.Kids x) (by have := sw c _ (cu q1 hx); omega) l
          rw [if_pos hl, if_pos ⟨q1, hx⟩, hb]
          exact Or.inl ⟨_, rfl, ⟨by simp only; omega, by simp only; omega⟩, by simp only; omega⟩
        · rw [if_neg hl]; exact Or.inr ⟨_, rfl, trivial⟩
      · rw [if_neg hx]; exact Or.inr ⟨_, rfl, trivial⟩) (bb (k - 1), 0) ⟨by simp, by simp⟩
    exact ⟨b, hb⟩
theorem HZ : ∀ (n : Nat) (c : az) (m v : Int), jY c → j8 n c m = some v → 0 ≤ v → gB c := by
  intro n
  induction n with
  | zero => intro c m v _ h; cases h
  | succ n ih =>
    intro c m v hL h hv
    change nt (j8 n) c m = some v at h
    obtain ⟨hb, hk⟩ := hL
    unfold nt at h
    obtain ⟨b1, h1, f1⟩ := rg c.Pattern
    obtain ⟨b2, h2, f2⟩ := few6 hb 140
    rw [h1] at h
    simp only [Option.bind_some] at h
    cases b1
    · simp only [Bool.not_false, if_true] at h; cases h; omega
    simp only [Bool.not_true, Bool.false_eq_true, if_false] at h
    rw [h2] at h
    simp only [Option.bind_some] at h
    cases b2
    · simp only [Bool.not_false, if_true] at h; cases h; omega
    simp only [Bool.not_true, Bool.false_eq_true, if_false] at h
    obtain ⟨⟨g1, g2⟩, g3, g4⟩ := f1 rfl
    refine .mk ⟨f2 rfl, g1, g2, g3, g4⟩ fun k hkm => ?_
    have key : 0 ≤ v → ∀ i : Int, 0 ≤ i → i < (c.Kids.length : Int) → gB (nth c.Kids i) := by
      refine C6 (F := pK (j8 n) c) (fun x : Int × Int => 0 ≤ x.2 ∧ (0 ≤ x.1 → ∀ i : Int, 0 ≤ i → i < x.2 → i < (c.Kids.length : Int) → gB (nth c.Kids i))) (fun v => 0 ≤ v → ∀ i : Int, 0 ≤ i → i < (c.Kids.length : Int) → gB (nth c.Kids i)) (fun x hp => ?_) (x := (bb (m - 1), 0)) ⟨by simp, fun _ i a b => by simp at b; omega⟩ h
      obtain ⟨l, x⟩ := x
      obtain ⟨q1, q2⟩ := hp
      simp only at q1 q2
      unfold pK tW
      simp only
      by_cases hx : x < (c.Kids.length : Int)
      · rw [if_pos hx]
        by_cases hl : 0 ≤ l
        · rw [if_pos hl, if_pos ⟨q1, hx⟩]
          refine ⟨fun x' e => ?_, fun b e => ?_⟩
          · obtain ⟨w, w1, w2⟩ := Option.bind_eq_some_iff.1 e
            cases w2
            refine ⟨by simp only; omega, fun hw i a b1 b2 => ?_⟩
            simp only at hw b1
            by_cases ei : i = x
            · subst ei; exact ih _ _ _ (hk _ (cu q1 hx)) w1 hw
            · exact q2 hl i a (by omega) b2
          · obtain ⟨w, w1, w2⟩ := Option.bind_eq_some_iff.1 e
            cases w2
        · rw [if_neg hl]
          refine ⟨fun x' e => (by cases e), fun b e => ?_⟩
          cases e
          intro h0; omega
      · rw [if_neg hx]
        refine ⟨fun x' e => (by cases e), fun b e => ?_⟩
        cases e
        intro h0 i a b
        exact q2 h0 i a (by omega) b
    obtain ⟨i, i0, i1, rfl⟩ := eo hkm
    exact key hv i i0 i1
theorem few22 {c : az} (hL : jY c) : ∃ b, sD c = some b ∧ (b = true → gB c) := by
  obtain ⟨b, hb⟩ := I1 _ c (Nat.le_refl _) 40
  obtain ⟨v, hv, hq⟩ := mj (u := fun n => j8 n c 40) (Q := fun v => 0 ≤ v → gB c) (fun n v h h0 => HZ n c 40 v hL h h0) ⟨_, b, hb⟩
  unfold sD xb
  rw [hv]
  exact ⟨_, rfl, fun e => hq (by simpa using e)⟩
structure om (r : be) : Prop where
  i : vj r.Into
  c : jY r.Condition
structure iI (r : be) : Prop where
  n : (r.Name.size : Int) ≤ 60
  c : gB r.Condition
theorem few24 {r : be} (hL : om r) : ∃ b, sE r = some b ∧ (b = true → iI r) := by
  unfold sE
  obtain ⟨b1, h1, _⟩ := rg r.Left
  obtain ⟨b2, h2, _⟩ := rg r.Right
  obtain ⟨b3, h3⟩ := few7 r.Keep 140
  obtain ⟨b4, h4, _⟩ := few6 hL.i 140
  obtain ⟨b5, h5, h6⟩ := few22 hL.c
  rw [h1, h2, h3, h4, h5]
  by_cases hs : (r.Name.size : Int) ≤ 60
  · rw [if_pos hs]
    cases b1 <;> cases b2 <;> cases b3 <;> cases b4 <;> cases b5 <;> first | exact ⟨false, rfl, by simp⟩ | exact ⟨true, rfl, fun _ => ⟨hs, h6 rfl⟩⟩
  · rw [if_neg hs]; exact ⟨_, rfl, by simp⟩
theorem HC {c : az} (b : CBd c) : ∃ v, nA c = some v ∧ pw c = some v := by
  unfold nA pw
  obtain ⟨h1, h2, h3, h4, h5⟩ := b
  generalize hA : (c.Map.Nodes.length : Int) = A at *
  generalize hB : (c.Map.Edges.length : Int) = B at *
  generalize hC : (c.Pattern.Graph.Nodes.length : Int) = C at *
  generalize hD : (c.Pattern.Graph.Edges.length : Int) = D at *
  generalize hE : (c.Pattern.Slots.length : Int) = E at *
  generalize hF : (c.Pattern.Tests.length : Int) = F at *
  have p1 : 0 ≤ A := by omega
  have p2 : 0 ≤ B := by omega
  have p3 : 0 ≤ C := by omega
  have p4 : 0 ≤ D := by omega
  have p5 : 0 ≤ E := by omega
  have p6 : 0 ≤ F := by omega
  have w1 : bb (A + B) = A + B := bL (by omega) (by omega)
  have w2 : bb (A + B + C) = A + B + C := bL (by omega) (by omega)
  have w3 : bb (A + B + C + D) = A + B + C + D := bL (by omega) (by omega)
  have w4 : bb (A + B + C + D + E) = A + B + C + D + E := bL (by omega) (by omega)
  have w5 : bb (A + B + C + D + E + F) = A + B + C + D + E + F := bL (by omega) (by omega)
  have w6 : bb (E + F) = E + F := bL (by omega) (by omega)
  simp only [w1, w2, w3, w4, w5, w6, Option.bind_some]
  by_cases q1 : A + B + C + D = 0
  · by_cases q2 : E + F = 0
    · rw [if_pos (by omega), if_pos q1, if_pos q2]; exact ⟨_, rfl, rfl⟩
    · rw [if_neg (by omega), if_pos q1, if_neg q2]; exact ⟨_, rfl, rfl⟩
  · rw [if_neg (by omega), if_neg q1]; exact ⟨_, rfl, rfl⟩
theorem IN : vi = gW := rfl
theorem Hn : ∀ n, (∀ c, bS ((dZ n).1 c) ((dZ (n + 1)).1 c)) ∧ (∀ c, bS ((dZ n).2 c) ((dZ (n + 1)).2 c)) := by
  intro n
  induction n with
  | zero => exact ⟨fun c => bS.none _, fun c => bS.none _⟩
  | succ n ih =>
    refine ⟨fun c => ?_, fun c => ?_⟩
    · show bS (lT (dZ n).1 (dZ n).2 c) (lT (dZ (n + 1)).1 (dZ (n + 1)).2 c)
      unfold lT qS qU qT qV qR oh qQ oi vi zi En
      repeat' first | with_reducible exact bS.refl _ | exact ih.2 _ | refine bS.ite ?_ ?_ | refine bS.bind ?_ (fun _ => ?_) | refine bS.iter (fun _ => ?_) _
    · show bS (lU (dZ n).1 (dZ n).2 c) (lU (dZ (n + 1)).1 (dZ (n + 1)).2 c)
      unfold lU
      exact bS.bind (ih.1 _) (fun _ => bS.refl _)
theorem GG : ∀ n c, bS (gw n c) (gw (n + 1) c) := by
  intro n
  induction n with
  | zero => exact fun c => bS.none _
  | succ n ih =>
    intro c
    show bS (nS (gw n) c) (nS (gw (n + 1)) c)
    unfold nS qB
    repeat' first | with_reducible exact bS.refl _ | exact ih _ | refine bS.ite ?_ ?_ | refine bS.bind ?_ (fun _ => ?_) | refine bS.iter (fun _ => ?_) _
theorem GD : ∀ (n : Nat) (c : az), SizeOf.sizeOf c ≤ n → gB c → ∃ b, (dZ (2 * n)).1 c = some b ∧ gw n c = some b := by
  intro n
  induction n with
  | zero => intro c hc; have := sb c; omega
  | succ n ih =>
    intro c hc hf
    obtain ⟨hb, hk⟩ := hf
    have kid : ∀ k ∈ c.Kids, ∃ b, (dZ (2 * n)).1 k = some b ∧ gw n k = some b := fun k hkm => ih k (by have := sw c k hkm; omega) (hk k hkm)
    show ∃ b, lT (dZ (2 * n + 1)).1 (dZ (2 * n + 1)).2 c = some b ∧ nS (gw n) c = some b
    have a1 : gW c.Kids (dZ (2 * n + 1)).2 = some (c.Kids.any fun k => !((gw n k).getD false)) := lx c.Kids (fun k hkm => by
      obtain ⟨b, b1, b2⟩ := kid k hkm
      show lU (dZ (2 * n)).1 (dZ (2 * n)).2 k = _
      unfold lU
      rw [b1, b2]; rfl)
    have a2 := sa (F := qB (gw n) c) c.Kids (fun k => !((gw n k).getD false)) (c := false) (fin := some true) (fun i i0 i1 => by
      obtain ⟨b, b1, b2⟩ := kid _ (cu i0 i1)
      unfold qB
      rw [if_pos i1, if_pos ⟨i0, i1⟩, b2]
      cases b <;> rfl) (by unfold qB; rw [if_neg (by omega)]; rfl)
    obtain ⟨v, v1, v2⟩ := HC hb
    unfold nS
    rw [a2]
    have key : ∀ ok : Bool, ∃ b, oi (dZ (2 * n + 1)).2 c ok = some b ∧ (if (!ok) = true then some false else if (c.Kids.any fun k => !((gw n k).getD false)) = true then some false else some true) = some b := by
      intro ok
      unfold oi
      rw [IN, a1]
      cases ok
      · exact ⟨false, rfl, rfl⟩
      · cases (c.Kids.any fun k => !((gw n k).getD false)) <;> exact ⟨_, rfl, rfl⟩
    unfold lT CP qQ qR oh qS qT qU qV oh yu
    rw [v1, v2]
    by_cases k1 : c.Kind = 1
    · simp only [if_pos k1]
      by_cases l1 : (c.Kids.length : Int) = 0
      · simp only [if_pos l1, Option.bind_some]; exact key v
      · simp only [if_neg l1, Option.bind_some]; exact key false
    by_cases k2 : c.Kind = 2
    · simp only [if_neg k1, if_pos k2]
      by_cases l1 : (c.Kids.length : Int) = 1
      · simp only [if_pos l1, Option.bind_some]; exact key v
      · simp only [if_neg l1, Option.bind_some]; exact key false
    by_cases k34 : c.Kind = 3 ∨ c.Kind = 4
    · by_cases k3 : c.Kind = 3
      · simp only [if_neg k1, if_neg k2, k3, decide_true, if_true]
        by_cases l1 : 1 ≤ (c.Kids.length : Int)
        · have l2 : 0 < (c.Kids.length : Int) := by omega
          simp only [if_pos l1, if_pos l2, Option.bind_some]; exact key v
        · have l2 : ¬ 0 < (c.Kids.length : Int) := by omega
          simp only [if_neg l1, if_neg l2, Option.bind_some]; exact key false
      · have k4 : c.Kind = 4 := k34.resolve_left k3
        simp only [if_neg k1, if_neg k2, if_neg k3, k4, decide_true, if_true]
        by_cases l1 : 1 ≤ (c.Kids.length : Int)
        · have l2 : 0 < (c.Kids.length : Int) := by omega
          simp only [if_pos l1, if_pos l2, Option.bind_some]; exact key v
        · have l2 : ¬ 0 < (c.Kids.length : Int) := by omega
          simp only [if_neg l1, if_neg l2, Option.bind_some]; exact key false
    have k3 : ¬ c.Kind = 3 := fun h => k34 (.inl h)
    have k4 : ¬ c.Kind = 4 := fun h => k34 (.inr h)
    simp only [if_neg k1, if_neg k2, if_neg k3, k4, decide_false, Bool.false_eq_true, if_false]
    by_cases k5 : c.Kind = 5
    · simp only [if_pos k5, Option.bind_some]; exact key _
    · simp only [if_neg k5, Option.bind_some]; exact key false
theorem Hm {c : az} (hf : gB c) : ∃ b, yZ c = some b ∧ DA c = some b := by
  obtain ⟨b, b1, b2⟩ := GD _ c (Nat.le_refl _) hf
  exact ⟨b, l6 (fun n => (Hn n).1 c) b1, l6 (fun n => GG n c) b2⟩
theorem L7 : ∀ n, oa n = ig n := by
  intro n
  induction n with
  | zero => rfl
  | succ n ih =>
    show (fun t0 => yV (oa n) t0) = (fun t0 => lM (ig n) t0)
    rw [ih]; rfl
theorem L6 : ∀ n c, bS (ig n c) (ig (n + 1) c) := by
  intro n
  induction n with
  | zero => exact fun c => bS.none _
  | succ n ih =>
    intro c
    show bS (lM (ig n) c) (lM (ig (n + 1)) c)
    unfold lM uy
    repeat' first | with_reducible exact bS.refl _ | exact ih _ | refine bS.ite ?_ ?_ | refine bS.bind ?_ (fun _ => ?_) | refine bS.iter (fun _ => ?_) _
theorem Ku : ∀ (n : Nat) (c : az), SizeOf.sizeOf c ≤ n → ∃ b, ig n c = some b := by
  intro n
  induction n with
  | zero => intro c hc; have := sb c; omega
  | succ n ih =>
    intro c hc
    show ∃ b, lM (ig n) c = some b
    unfold lM
    obtain ⟨b, hb, _⟩ := cl (F := uy (ig n) c) (fun x : Int × Int × Int => 0 ≤ x.2.2) (fun x => ((c.Kids.length : Int) - x.2.2).toNat) (fun _ => True) (fun x hp => by
      obtain ⟨s, d, x⟩ := x
      simp only at hp
      unfold uy
      simp only
      by_cases hx : x < (c.Kids.length : Int)
      · obtain ⟨b, hb⟩ := ih (nth c.Kids x) (by have := sw c _ (cu hp hx); omega)
        rw [if_pos hx, if_pos ⟨hp, hx⟩, hb]
        exact Or.inl ⟨_, rfl, by simp only; omega, by simp only; omega⟩
      · rw [if_neg hx]
        by_cases hk : c.Kind = 5
        · rw [if_pos hk]; exact Or.inr ⟨_, rfl, trivial⟩
        · rw [if_neg hk]; exact Or.inr ⟨_, rfl, trivial⟩) (1, 0, 0) (by simp)
    exact ⟨b, hb⟩
theorem K1 {c : az} (hf : gB c) : ∃ e, nK c = some e ∧ xn c = some e := by
  unfold nK xn
  obtain ⟨b, b1, b2⟩ := Hm hf
  obtain ⟨m, hm⟩ := Ku _ c (Nat.le_refl _)
  have m2 : xL c = some m := l6 (fun n => L6 n c) hm
  have m1 : uH c = some m := by
    have e : uH = xL := by
      funext c
      show Ev (fun n => oa n c) = Ev (fun n => ig n c)
      congr 1
      funext n; rw [L7 n]
    rw [e]; exact m2
  rw [b1, b2, m1, m2]
  simp only [Option.bind_some]
  cases b
  · exact ⟨1, rfl, rfl⟩
  simp only [Bool.not_true, Bool.false_eq_true, if_false]
  by_cases h1 : 12 < m.1
  · simp only [if_pos h1]; exact ⟨_, rfl, rfl⟩
  by_cases h2 : 3 < m.2
  · simp only [if_neg h1, if_pos h2]; exact ⟨_, rfl, rfl⟩
  · simp only [if_neg h1, if_neg h2]; exact ⟨_, rfl, rfl⟩
theorem Ii : D1 = tn := rfl
theorem IY {T : aq} (hf : eM T) (q : aJ) (v : Int) (hv : ¬ q.Vars < v) : ∃ e, nU T q v = some e ∧ sZ T v q = some e := by
  unfold nU sZ
  obtain ⟨c, c1, c2, _⟩ := xT hf q
  rw [if_neg hv, c1, c2]
  simp only [Option.bind_some]
  by_cases h : c = 9
  rotate_left
  · simp only [if_pos h]; exact ⟨_, rfl, rfl⟩
  subst h
  simp only [not_true_eq_false, if_false]
  obtain ⟨b, b1, b2, _⟩ := eD (F := qO 9 q) (G := yc 9 q) (fun _ => True) (fun x => (q.Vars - x).toNat) (fun _ => True) (fun x _ => by
    unfold qO yc
    by_cases hx : x < q.Vars
    · obtain ⟨o, o1, o2⟩ := CA q x
      obtain ⟨d, d1, d2⟩ := jF (p := fun s => uS s x) (q := fun s => s.Term.Var = x) q.Slots (fun s _ => ⟨_, rfl, by simp⟩)
      have e : d = o := by
        cases d <;> cases o
        · rfl
        · exact d2.2 (o2.1 rfl)
        · exact (o2.2 (d2.1 rfl)).symm
        · rfl
      rw [if_pos hx, if_pos hx, Ii, o1, Ce, d1, e]
      cases o
      · exact .inr ⟨9, rfl, rfl, trivial⟩
      · exact .inl ⟨x + 1, rfl, rfl, trivial, by omega⟩
    · rw [if_neg hx, if_neg hx]; exact .inr ⟨0, rfl, rfl, trivial⟩) v trivial
  exact ⟨b, b1, b2⟩
theorem Kc (T : aq) : ∀ n p c, bS (gQ n T p c) (gQ (n + 1) T p c) := by
  intro n
  induction n with
  | zero => exact fun p c => bS.none _
  | succ n ih =>
    intro p c
    show bS (jT (gQ n) T p c) (jT (gQ (n + 1)) T p c)
    unfold jT lS oe
    repeat' first | with_reducible exact bS.refl _ | exact ih _ _ | refine bS.ite ?_ ?_ | refine bS.bind ?_ (fun _ => ?_) | refine bS.iter (fun _ => ?_) _
theorem J8 (T : aq) : ∀ n p c, bS (j9 n T p c) (j9 (n + 1) T p c) := by
  intro n
  induction n with
  | zero => exact fun p c => bS.none _
  | succ n ih =>
    intro p c
    show bS (nu (j9 n) T p c) (nu (j9 (n + 1)) T p c)
    unfold nu pY tX
    repeat' first | with_reducible exact bS.refl _ | exact ih _ _ | refine bS.ite ?_ ?_ | refine bS.bind ?_ (fun _ => ?_) | refine bS.iter (fun _ => ?_) _
theorem JJ {T : aq} (hf : eM T) : ∀ (n : Nat) (c : az) (p : aJ), SizeOf.sizeOf c ≤ n → ∃ e, gQ n T p c = some e ∧ j9 n T p c = some e := by
  intro n
  induction n with
  | zero => intro c p hc; have := sb c; omega
  | succ n ih =>
    intro c p hc
    show ∃ e, jT (gQ n) T p c = some e ∧ nu (j9 n) T p c = some e
    have kids : ∀ q, ∃ e, lS (gQ n) T c q = some e ∧ pY (j9 n) T c q = some e := by
      intro q
      unfold lS pY
      obtain ⟨b, b1, b2, _⟩ := eD (F := oe (gQ n) T c q) (G := tX (j9 n) T c q) (fun x : Int => 0 ≤ x) (fun x => ((c.Kids.length : Int) - x).toNat) (fun _ => True) (fun x x0 => by
        unfold oe tX
        by_cases hx : x < (c.Kids.length : Int)
        · obtain ⟨e, e1, e2⟩ := ih (nth c.Kids x) q (by have := sw c _ (cu x0 hx); omega)
          simp only [if_pos hx, if_pos (show 0 ≤ x ∧ x < (c.Kids.length : Int) from ⟨x0, hx⟩)]
          rw [e1, e2]
          simp only [Option.bind_some]
          by_cases h : e = 0
          · exact .inl ⟨x + 1, by simp [h], by simp [h], by omega, by omega⟩
          · exact .inr ⟨e, by simp [h], by simp [h], trivial⟩
        · simp only [if_neg hx]; exact .inr ⟨0, rfl, rfl, trivial⟩) 0 (by omega)
      exact ⟨b, b1, b2⟩
    unfold jT nu
    by_cases k5 : c.Kind = 5
    rotate_left
    · simp only [if_neg k5]; exact kids p
    simp only [if_pos k5]
    by_cases hv : c.Pattern.Vars < p.Vars
    · unfold sZ
      simp only [if_pos hv, Option.bind_some]
      exact ⟨20, rfl, rfl⟩
    obtain ⟨e, e1, e2⟩ := IY hf c.Pattern p.Vars hv
    obtain ⟨d, d1, d2, _⟩ := xv p.Graph c.Pattern.Graph c.Map
    obtain ⟨j, j1, j2, _⟩ := Ll p.Graph c.Pattern.Graph c.Map
    simp only [if_neg hv]
    rw [e1, e2, d1, d2, j1, j2]
    simp only [Option.bind_some]
    by_cases h1 : e = 0
    rotate_left
    · simp only [if_pos h1]; exact ⟨_, rfl, rfl⟩
    by_cases h2 : d = 0
    rotate_left
    · simp only [h1, not_true_eq_false, if_false, if_pos h2]; exact ⟨_, rfl, rfl⟩
    simp only [h1, h2, not_true_eq_false, if_false]
    cases j
    · exact ⟨1, rfl, rfl⟩
    · simp only [Bool.not_true, Bool.false_eq_true, if_false]; exact kids _
theorem Lj {T : aq} (hf : eM T) (p : aJ) {c : az} (hc : gB c) : ∃ e, nJ T p c = some e ∧ xo T p c = some e := by
  unfold nJ xo
  obtain ⟨a, a1, a2, _⟩ := xT hf p
  obtain ⟨s, s1, s2⟩ := K1 hc
  obtain ⟨e, e1, e2⟩ := JJ hf _ c p (Nat.le_refl _)
  have e3 : qu T p c = some e := l6 (fun n => Kc T n p c) e1
  have e4 : CE T p c = some e := l6 (fun n => J8 T n p c) e2
  rw [a1, a2, s1, s2, e3, e4]
  simp only [Option.bind_some]
  by_cases h1 : a = 0
  rotate_left
  · simp only [if_pos h1]; exact ⟨_, rfl, rfl⟩
  by_cases h2 : s = 0
  rotate_left
  · simp only [h1, not_true_eq_false, if_false, if_pos h2]; exact ⟨_, rfl, rfl⟩
  simp only [h1, h2, not_true_eq_false, if_false]
  exact ⟨_, rfl, rfl⟩
structure Et (T : aq) (r : be) : Prop where
  ty : TV T
  left : zm T r.Left
  right : wa T r
  keep : it r.Left.Graph r.Keep
theorem CK (r : be) (h1 : (r.Right.Graph.Nodes.length : Int) ≤ 1000) (h2 : (r.Right.Graph.Edges.length : Int) ≤ 1000) : ∃ a b, pz r = some (a, b) ∧ tK r = some (a, b) ∧ (∀ x ∈ a, 0 ≤ x ∧ x < (r.Right.Graph.Nodes.length : Int)) ∧ (∀ x ∈ b, 0 ≤ x ∧ x < (r.Right.Graph.Edges.length : Int)) ∧ (a.length : Int) ≤ (r.Right.Graph.Nodes.length : Int) ∧ (b.length : Int) ≤ (r.Right.Graph.Edges.length : Int) := by
  unfold pz tK
  obtain ⟨a, a1, a2, a3, a4⟩ := sq r.Into.Nodes (r.Right.Graph.Nodes.length : Int) (by omega) h1
  obtain ⟨b, b1, b2, b3, b4⟩ := sq r.Into.Edges (r.Right.Graph.Edges.length : Int) (by omega) h2
  rw [a1, a2, b1, b2]
  exact ⟨a, b, rfl, rfl, a4, b4, a3, b3⟩
theorem K9 (r : be) (h1 : (r.Left.Graph.Nodes.length : Int) ≤ 1000) (h2 : (r.Left.Graph.Edges.length : Int) ≤ 1000) : ∃ a b, tq r = some (a, b) ∧ xO r = some (a, b) ∧ (∀ x ∈ a, 0 ≤ x ∧ x < (r.Left.Graph.Nodes.length : Int)) ∧ (∀ x ∈ b, 0 ≤ x ∧ x < (r.Left.Graph.Edges.length : Int)) ∧ (a.length : Int) ≤ (r.Left.Graph.Nodes.length : Int) ∧ (b.length : Int) ≤ (r.Left.Graph.Edges.length : Int) := by
  unfold tq xO
  obtain ⟨a, a1, a2, a3, a4⟩ := sq r.Keep.Nodes (r.Left.Graph.Nodes.length : Int) (by omega) h1
  obtain ⟨b, b1, b2, b3, b4⟩ := sq r.Keep.Edges (r.Left.Graph.Edges.length : Int) (by omega) h2
  rw [a1, a2, b1, b2]
  exact ⟨a, b, rfl, rfl, a4, b4, a3, b3⟩
theorem Iy {T : aq} (hf : eM T) {r : be} (hr : iI r) : ∃ c, kL T r = some c ∧ pq T r = some c ∧ (c = 0 → Et T r) := by
  unfold kL pq
  rcases rR hf with ⟨s, c, h1, h2, h3⟩ | hT
  · rw [h1, h2]; exact ⟨c, by simp [h3], by simp [h3], fun e => absurd e h3⟩
  obtain ⟨s, v1, v2⟩ := hT.v
  obtain ⟨nm, n1, n2⟩ := pf r.Name (by have := hr.n; omega)
  rw [v1, v2, n1, n2]
  simp only [Option.bind_some, not_true_eq_false, if_false]
  cases nm
  · exact ⟨2, rfl, rfl, by simp⟩
  simp only [Bool.not_true, Bool.false_eq_true, if_false]
  obtain ⟨a, a1, a2, a3⟩ := xT hf r.Left
  rw [a1, a2]
  simp only [Option.bind_some]
  by_cases h1 : a = 0
  rotate_left
  · simp only [if_pos h1]; exact ⟨a, rfl, rfl, fun e => absurd e h1⟩
  simp only [if_neg (not_not_intro h1)]
  have hL := a3 h1
  obtain ⟨b, b1, b2, b3⟩ := Je hT r
  rw [b1, b2]
  simp only [Option.bind_some]
  by_cases h2 : b = 0
  rotate_left
  · simp only [if_pos h2]; exact ⟨b, rfl, rfl, fun e => absurd e h2⟩
  simp only [if_neg (not_not_intro h2)]
  have hR := b3 h2
  -- the span
  unfold pe CF
  obtain ⟨x, x1, x2, x3, k, k1, k2⟩ := Kb hL.g r.Keep
  rw [x1, k1]
  simp only [Option.bind_some]
  by_cases h3 : x.2.2 = 0
  rotate_left
  · simp only [if_pos h3, if_pos (k2 ▸ h3), Option.bind_some]
    rw [← k2]; exact ⟨x.2.2, rfl, rfl, fun e => absurd e h3⟩
  have h3k : k = 0 := by rw [← k2]; exact h3
  simp only [if_neg (not_not_intro h3), if_neg (not_not_intro h3k)]
  rw [x2]
  simp only [Option.bind_some]
  obtain ⟨hK, _⟩ := x3 h3
  obtain ⟨d, d1, d2, d3⟩ := xv x.1 r.Right.Graph r.Into
  rw [d1, d2]
  simp only [Option.bind_some]
  by_cases h4 : d = 0
  rotate_left
  · simp only [if_pos h4, Option.bind_some]; exact ⟨d, rfl, rfl, fun e => absurd e h4⟩
  simp only [if_neg (not_not_intro h4)]
  unfold o6
  rw [d1]
  obtain ⟨l1, l2⟩ := d3 h4
  have hxl : (x.1.Nodes.length : Int) ≤ 40 ∧ (x.1.Edges.length : Int) ≤ 80 := by
    have hv := d1
    unfold iE at hv
    obtain ⟨g, g1, _, g3⟩ := jI x.1
    rw [g1] at hv
    simp only [Option.bind_some] at hv
    by_cases hg : g = 0
    · have := g3.1 hg; exact ⟨this.1, this.2.1⟩
    · rw [if_pos hg] at hv; exact absurd ((Option.some.inj hv).trans h4) hg
  obtain ⟨i, i1, i2⟩ := sK (xs := r.Into.Nodes) (by omega)
  obtain ⟨j, j1, j2⟩ := sK (xs := r.Into.Edges) (by omega)
  obtain ⟨p, p1, p2⟩ := th r.Into.Nodes
  obtain ⟨q, q1, q2⟩ := th r.Into.Edges
  simp only [Option.bind_some, if_pos h4]
  rw [i1, j1, p1, q1]
  simp only [Option.bind_some]
  by_cases hn : r.Into.Nodes.Nodup
  rotate_left
  · have : p = false := by cases p; rfl; exact absurd (p2.1 rfl) hn
    subst this
    rw [if_neg (fun h => hn (i2.1 h))]
    exact ⟨11, rfl, rfl, by simp⟩
  have : p = true := p2.2 hn
  subst this
  rw [if_pos (i2.2 hn)]
  by_cases he : r.Into.Edges.Nodup
  rotate_left
  · have : q = false := by cases q; rfl; exact absurd (q2.1 rfl) he
    subst this
    have : ¬ j = (r.Into.Edges.length : Int) := fun h => he (j2.1 h)
    exact ⟨11, by simp [this], by simp, by simp⟩
  have : q = true := q2.2 he
  subst this
  simp only [j2.2 he, decide_true, Bool.not_true, Bool.false_eq_true, if_false, Option.bind_some, not_true_eq_false]
  obtain ⟨ca, cb, c1, c2, c3, c4, _, _⟩ := CK r (by have := hR.g.1; omega) (by have := hR.g.2.1; omega)
  obtain ⟨mk, m1, m2⟩ := Kr hT hR.g hR.t c3 c4
  rw [c1, c2]
  simp only [Option.bind_some]
  rw [m1, m2]
  simp only [Option.bind_some]
  cases mk
  · exact ⟨13, rfl, rfl, by simp⟩
  simp only [Bool.not_true, Bool.false_eq_true, if_false]
  obtain ⟨e, e1, e2⟩ := Lj hf r.Left hr.c
  rw [e1, e2]
  exact ⟨e, rfl, rfl, fun _ => ⟨hT, hL, hR, hK⟩⟩
end Go.Proofs.YtngimdmkomkeoaaGreat.K
