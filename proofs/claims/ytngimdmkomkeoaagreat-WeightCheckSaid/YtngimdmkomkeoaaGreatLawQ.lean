/- Conditions, and rules with them: the program and the document's answer say the same of any small one. -/
import Derived.Test.YtngimdmkomkeoaaGreatLawR
set_option linter.unusedVariables false
set_option linter.unusedSimpArgs false
namespace Go.Proofs.YtngimdmkomkeoaaGreat.K
open Go.RowKit Go.Proofs
structure CBd (c : z05) : Prop where
  m : (c.Map.Nodes.length : Int) + (c.Map.Edges.length : Int) ≤ 140
  n : (c.Pattern.Graph.Nodes.length : Int) ≤ 45
  e : (c.Pattern.Graph.Edges.length : Int) ≤ 90
  s : (c.Pattern.Slots.length : Int) ≤ 15
  t : (c.Pattern.Tests.length : Int) ≤ 15
inductive FewC : z05 → Prop
  | mk {c : z05} (b : CBd c) (h : ∀ k ∈ c.Kids, FewC k) : FewC c
def LenM (m : z0t) : Prop := (m.Nodes.length : Int) ≤ 140737488355328 ∧ (m.Edges.length : Int) ≤ 140737488355328
inductive LnC : z05 → Prop
  | mk {c : z05} (b : LenM c.Map) (h : ∀ k ∈ c.Kids, LnC k) : LnC c
theorem cond_size (c k : z05) (h : k ∈ c.Kids) : SizeOf.sizeOf k < SizeOf.sizeOf c := by
  cases c with
  | mk x0 x1 x2 x3 =>
    have := List.sizeOf_lt_of_mem (show k ∈ x1 from h)
    simp only [z05.mk.sizeOf_spec]
    omega
theorem cond_pos (c : z05) : 1 ≤ SizeOf.sizeOf c := by
  cases c with
  | mk x0 x1 x2 x3 => simp only [z05.mk.sizeOf_spec]; omega
theorem few5 (g : z0p) : ∃ b, ref05_Few g = some b ∧ (b = true → (g.Nodes.length : Int) ≤ 45 ∧ (g.Edges.length : Int) ≤ 90) := by
  unfold ref05_Few
  by_cases h : (g.Nodes.length : Int) ≤ 45
  · rw [if_pos h]; exact ⟨_, rfl, fun e => ⟨h, by simpa using e⟩⟩
  · rw [if_neg h]; exact ⟨_, rfl, by simp⟩
theorem few21 (p : z0q) : ∃ b, ref21_Few p = some b ∧ (b = true → ((p.Graph.Nodes.length : Int) ≤ 45 ∧ (p.Graph.Edges.length : Int) ≤ 90) ∧ (p.Slots.length : Int) ≤ 15 ∧ (p.Tests.length : Int) ≤ 15) := by
  unfold ref21_Few
  obtain ⟨b, b1, b2⟩ := few5 p.Graph
  rw [b1]
  simp only [Option.bind_some]
  cases b
  · exact ⟨false, rfl, by simp⟩
  · simp only [if_true]
    by_cases h : (p.Slots.length : Int) ≤ 15
    · rw [if_pos h]; exact ⟨_, rfl, fun e => ⟨b2 rfl, h, by simpa using e⟩⟩
    · rw [if_neg h]; exact ⟨_, rfl, by simp⟩
theorem few6 {m : z0t} (h : LenM m) (k : Int) : ∃ b, ref06_Few m k = some b ∧ (b = true → (m.Nodes.length : Int) + (m.Edges.length : Int) ≤ k) := by
  unfold ref06_Few
  obtain ⟨h1, h2⟩ := h
  rw [z34 (by omega) (by omega)]
  exact ⟨_, rfl, fun e => by simpa using e⟩
theorem few6_tot (m : z0t) (k : Int) : ∃ b, ref06_Few m k = some b := ⟨_, rfl⟩
theorem few7 (p : z2d) (k : Int) : ∃ b, ref07_Few p k = some b := ⟨_, rfl⟩
theorem left_tot : ∀ (n : Nat) (c : z05), SizeOf.sizeOf c ≤ n → ∀ k, ∃ b, z4v n c k = some b := by
  intro n
  induction n with
  | zero => intro c hc; have := cond_pos c; omega
  | succ n ih =>
    intro c hc k
    show ∃ b, z9a (z4v n) c k = some b
    unfold z9a
    obtain ⟨b1, h1, _⟩ := few21 c.Pattern
    obtain ⟨b2, h2⟩ := few6_tot c.Map 140
    rw [h1]
    simp only [Option.bind_some]
    cases b1
    · exact ⟨_, rfl⟩
    simp only [Bool.not_true, Bool.false_eq_true, if_false]
    rw [h2]
    simp only [Option.bind_some]
    cases b2
    · exact ⟨_, rfl⟩
    simp only [Bool.not_true, Bool.false_eq_true, if_false]
    obtain ⟨b, hb, _⟩ := z3b (F := z9v (z4v n) c) (fun x : Int × Int => 0 ≤ x.2 ∧ x.2 ≤ (c.Kids.length : Int)) (fun x => ((c.Kids.length : Int) - x.2).toNat) (fun _ => True) (fun x hp => by
      obtain ⟨l, x⟩ := x
      obtain ⟨q1, q2⟩ := hp
      simp only at q1 q2
      unfold z9v
      simp only
      by_cases hx : x < (c.Kids.length : Int)
      · rw [if_pos hx]
        by_cases hl : 0 ≤ l
        · obtain ⟨b, hb⟩ := ih (nth c.Kids x) (by have := cond_size c _ (z2u q1 hx); omega) l
          rw [if_pos hl, if_pos ⟨q1, hx⟩, hb]
          exact Or.inl ⟨_, rfl, ⟨by simp only; omega, by simp only; omega⟩, by simp only; omega⟩
        · rw [if_neg hl]; exact Or.inr ⟨_, rfl, trivial⟩
      · rw [if_neg hx]; exact Or.inr ⟨_, rfl, trivial⟩) (w64 (k - 1), 0) ⟨by simp, by simp⟩
    exact ⟨b, hb⟩
theorem left_few : ∀ (n : Nat) (c : z05) (m v : Int), LnC c → z4v n c m = some v → 0 ≤ v → FewC c := by
  intro n
  induction n with
  | zero => intro c m v _ h; cases h
  | succ n ih =>
    intro c m v hL h hv
    change z9a (z4v n) c m = some v at h
    obtain ⟨hb, hk⟩ := hL
    unfold z9a at h
    obtain ⟨b1, h1, f1⟩ := few21 c.Pattern
    obtain ⟨b2, h2, f2⟩ := few6 hb 140
    rw [h1] at h
    simp only [Option.bind_some] at h
    cases b1
    · simp only [Bool.not_false, if_true] at h; cases h; omega
    simp only [Bool.not_true, Bool.false_eq_true, if_false] at h
    rw [h2] at h
    simp only [Option.bind_some] at h
    cases b2
    · simp only [Bool.not_false, if_true] at h; cases h; omega
    simp only [Bool.not_true, Bool.false_eq_true, if_false] at h
    obtain ⟨⟨g1, g2⟩, g3, g4⟩ := f1 rfl
    refine .mk ⟨f2 rfl, g1, g2, g3, g4⟩ fun k hkm => ?_
    have key : 0 ≤ v → ∀ i : Int, 0 ≤ i → i < (c.Kids.length : Int) → FewC (nth c.Kids i) := by
      refine Iter_part (F := z9v (z4v n) c) (fun x : Int × Int => 0 ≤ x.2 ∧ (0 ≤ x.1 → ∀ i : Int, 0 ≤ i → i < x.2 → i < (c.Kids.length : Int) → FewC (nth c.Kids i))) (fun v => 0 ≤ v → ∀ i : Int, 0 ≤ i → i < (c.Kids.length : Int) → FewC (nth c.Kids i)) (fun x hp => ?_) (x := (w64 (m - 1), 0)) ⟨by simp, fun _ i a b => by simp at b; omega⟩ h
      obtain ⟨l, x⟩ := x
      obtain ⟨q1, q2⟩ := hp
      simp only at q1 q2
      unfold z9v ref22_left_j25
      simp only
      by_cases hx : x < (c.Kids.length : Int)
      · rw [if_pos hx]
        by_cases hl : 0 ≤ l
        · rw [if_pos hl, if_pos ⟨q1, hx⟩]
          refine ⟨fun x' e => ?_, fun b e => ?_⟩
          · obtain ⟨w, w1, w2⟩ := Option.bind_eq_some_iff.1 e
            cases w2
            refine ⟨by simp only; omega, fun hw i a b1 b2 => ?_⟩
            simp only at hw b1
            by_cases ei : i = x
            · subst ei; exact ih _ _ _ (hk _ (z2u q1 hx)) w1 hw
            · exact q2 hl i a (by omega) b2
          · obtain ⟨w, w1, w2⟩ := Option.bind_eq_some_iff.1 e
            cases w2
        · rw [if_neg hl]
          refine ⟨fun x' e => (by cases e), fun b e => ?_⟩
          cases e
          intro h0; omega
      · rw [if_neg hx]
        refine ⟨fun x' e => (by cases e), fun b e => ?_⟩
        cases e
        intro h0 i a b
        exact q2 h0 i a (by omega) b
    obtain ⟨i, i0, i1, rfl⟩ := z80 hkm
    exact key hv i i0 i1
theorem few22 {c : z05} (hL : LnC c) : ∃ b, ref22_Few c = some b ∧ (b = true → FewC c) := by
  obtain ⟨b, hb⟩ := left_tot _ c (Nat.le_refl _) 40
  obtain ⟨v, hv, hq⟩ := Ev_any (u := fun n => z4v n c 40) (Q := fun v => 0 ≤ v → FewC c) (fun n v h h0 => left_few n c 40 v hL h h0) ⟨_, b, hb⟩
  unfold ref22_Few ref22_left
  rw [hv]
  exact ⟨_, rfl, fun e => hq (by simpa using e)⟩
structure LenR (r : z10) : Prop where
  i : LenM r.Into
  c : LnC r.Condition
structure FewR (r : z10) : Prop where
  n : (r.Name.size : Int) ≤ 60
  c : FewC r.Condition
theorem few24 {r : z10} (hL : LenR r) : ∃ b, ref24_Few r = some b ∧ (b = true → FewR r) := by
  unfold ref24_Few
  obtain ⟨b1, h1, _⟩ := few21 r.Left
  obtain ⟨b2, h2, _⟩ := few21 r.Right
  obtain ⟨b3, h3⟩ := few7 r.Keep 140
  obtain ⟨b4, h4, _⟩ := few6 hL.i 140
  obtain ⟨b5, h5, h6⟩ := few22 hL.c
  rw [h1, h2, h3, h4, h5]
  by_cases hs : (r.Name.size : Int) ≤ 60
  · rw [if_pos hs]
    cases b1 <;> cases b2 <;> cases b3 <;> cases b4 <;> cases b5 <;> first | exact ⟨false, rfl, by simp⟩ | exact ⟨true, rfl, fun _ => ⟨hs, h6 rfl⟩⟩
  · rw [if_neg hs]; exact ⟨_, rfl, by simp⟩
theorem bare_law {c : z05} (b : CBd c) : ∃ v, z6m c = some v ∧ z99 c = some v := by
  unfold z6m z99
  obtain ⟨h1, h2, h3, h4, h5⟩ := b
  generalize hA : (c.Map.Nodes.length : Int) = A at *
  generalize hB : (c.Map.Edges.length : Int) = B at *
  generalize hC : (c.Pattern.Graph.Nodes.length : Int) = C at *
  generalize hD : (c.Pattern.Graph.Edges.length : Int) = D at *
  generalize hE : (c.Pattern.Slots.length : Int) = E at *
  generalize hF : (c.Pattern.Tests.length : Int) = F at *
  have p1 : 0 ≤ A := by omega
  have p2 : 0 ≤ B := by omega
  have p3 : 0 ≤ C := by omega
  have p4 : 0 ≤ D := by omega
  have p5 : 0 ≤ E := by omega
  have p6 : 0 ≤ F := by omega
  have w1 : w64 (A + B) = A + B := z34 (by omega) (by omega)
  have w2 : w64 (A + B + C) = A + B + C := z34 (by omega) (by omega)
  have w3 : w64 (A + B + C + D) = A + B + C + D := z34 (by omega) (by omega)
  have w4 : w64 (A + B + C + D + E) = A + B + C + D + E := z34 (by omega) (by omega)
  have w5 : w64 (A + B + C + D + E + F) = A + B + C + D + E + F := z34 (by omega) (by omega)
  have w6 : w64 (E + F) = E + F := z34 (by omega) (by omega)
  simp only [w1, w2, w3, w4, w5, w6, Option.bind_some]
  by_cases q1 : A + B + C + D = 0
  · by_cases q2 : E + F = 0
    · rw [if_pos (by omega), if_pos q1, if_pos q2]; exact ⟨_, rfl, rfl⟩
    · rw [if_neg (by omega), if_pos q1, if_neg q2]; exact ⟨_, rfl, rfl⟩
  · rw [if_neg (by omega), if_neg q1]; exact ⟨_, rfl, rfl⟩
theorem cont_cond : z31 = ContG := rfl
theorem wf_mono : ∀ n, (∀ c, LeO ((z12 n).1 c) ((z12 (n + 1)).1 c)) ∧ (∀ c, LeO ((z12 n).2 c) ((z12 (n + 1)).2 c)) := by
  intro n
  induction n with
  | zero => exact ⟨fun c => LeO.none _, fun c => LeO.none _⟩
  | succ n ih =>
    refine ⟨fun c => ?_, fun c => ?_⟩
    · show LeO (z30 (z12 n).1 (z12 n).2 c) (z30 (z12 (n + 1)).1 (z12 (n + 1)).2 c)
      unfold z30 z3k z3i z3j z3h z3l z33 z3p z32 z31 z48 z57
      repeat' first | with_reducible exact LeO.refl _ | exact ih.2 _ | refine LeO.ite ?_ ?_ | refine LeO.bind ?_ (fun _ => ?_) | refine LeO.iter (fun _ => ?_) _
    · show LeO (z2v (z12 n).1 (z12 n).2 c) (z2v (z12 (n + 1)).1 (z12 (n + 1)).2 c)
      unfold z2v
      exact LeO.bind (ih.1 _) (fun _ => LeO.refl _)
theorem ar_mono : ∀ n c, LeO (z2e n c) (z2e (n + 1) c) := by
  intro n
  induction n with
  | zero => exact fun c => LeO.none _
  | succ n ih =>
    intro c
    show LeO (z4k (z2e n) c) (z4k (z2e (n + 1)) c)
    unfold z4k z5p
    repeat' first | with_reducible exact LeO.refl _ | exact ih _ | refine LeO.ite ?_ ?_ | refine LeO.bind ?_ (fun _ => ?_) | refine LeO.iter (fun _ => ?_) _
theorem wf_law : ∀ (n : Nat) (c : z05), SizeOf.sizeOf c ≤ n → FewC c → ∃ b, (z12 (2 * n)).1 c = some b ∧ z2e n c = some b := by
  intro n
  induction n with
  | zero => intro c hc; have := cond_pos c; omega
  | succ n ih =>
    intro c hc hf
    obtain ⟨hb, hk⟩ := hf
    have kid : ∀ k ∈ c.Kids, ∃ b, (z12 (2 * n)).1 k = some b ∧ z2e n k = some b := fun k hkm => ih k (by have := cond_size c k hkm; omega) (hk k hkm)
    show ∃ b, z30 (z12 (2 * n + 1)).1 (z12 (2 * n + 1)).2 c = some b ∧ z4k (z2e n) c = some b
    have a1 : ContG c.Kids (z12 (2 * n + 1)).2 = some (c.Kids.any fun k => !((z2e n k).getD false)) := cont_any c.Kids (fun k hkm => by
      obtain ⟨b, b1, b2⟩ := kid k hkm
      show z2v (z12 (2 * n)).1 (z12 (2 * n)).2 k = _
      unfold z2v
      rw [b1, b2]; rfl)
    have a2 := Iter_any (F := z5p (z2e n) c) c.Kids (fun k => !((z2e n k).getD false)) (c := false) (fin := some true) (fun i i0 i1 => by
      obtain ⟨b, b1, b2⟩ := kid _ (z2u i0 i1)
      unfold z5p
      rw [if_pos i1, if_pos ⟨i0, i1⟩, b2]
      cases b <;> rfl) (by unfold z5p; rw [if_neg (by omega)]; rfl)
    obtain ⟨v, v1, v2⟩ := bare_law hb
    unfold z4k
    rw [a2]
    have key : ∀ ok : Bool, ∃ b, z32 (z12 (2 * n + 1)).2 c ok = some b ∧ (if (!ok) = true then some false else if (c.Kids.any fun k => !((z2e n k).getD false)) = true then some false else some true) = some b := by
      intro ok
      unfold z32
      rw [cont_cond, a1]
      cases ok
      · exact ⟨false, rfl, rfl⟩
      · cases (c.Kids.any fun k => !((z2e n k).getD false)) <;> exact ⟨_, rfl, rfl⟩
    unfold z30 ref22_right z3p z3l z33 z3k z3j z3i z3h z33 z9u
    rw [v1, v2]
    by_cases k1 : c.Kind = 1
    · simp only [if_pos k1]
      by_cases l1 : (c.Kids.length : Int) = 0
      · simp only [if_pos l1, Option.bind_some]; exact key v
      · simp only [if_neg l1, Option.bind_some]; exact key false
    by_cases k2 : c.Kind = 2
    · simp only [if_neg k1, if_pos k2]
      by_cases l1 : (c.Kids.length : Int) = 1
      · simp only [if_pos l1, Option.bind_some]; exact key v
      · simp only [if_neg l1, Option.bind_some]; exact key false
    by_cases k34 : c.Kind = 3 ∨ c.Kind = 4
    · by_cases k3 : c.Kind = 3
      · simp only [if_neg k1, if_neg k2, k3, decide_true, if_true]
        by_cases l1 : 1 ≤ (c.Kids.length : Int)
        · have l2 : 0 < (c.Kids.length : Int) := by omega
          simp only [if_pos l1, if_pos l2, Option.bind_some]; exact key v
        · have l2 : ¬ 0 < (c.Kids.length : Int) := by omega
          simp only [if_neg l1, if_neg l2, Option.bind_some]; exact key false
      · have k4 : c.Kind = 4 := k34.resolve_left k3
        simp only [if_neg k1, if_neg k2, if_neg k3, k4, decide_true, if_true]
        by_cases l1 : 1 ≤ (c.Kids.length : Int)
        · have l2 : 0 < (c.Kids.length : Int) := by omega
          simp only [if_pos l1, if_pos l2, Option.bind_some]; exact key v
        · have l2 : ¬ 0 < (c.Kids.length : Int) := by omega
          simp only [if_neg l1, if_neg l2, Option.bind_some]; exact key false
    have k3 : ¬ c.Kind = 3 := fun h => k34 (.inl h)
    have k4 : ¬ c.Kind = 4 := fun h => k34 (.inr h)
    simp only [if_neg k1, if_neg k2, if_neg k3, k4, decide_false, Bool.false_eq_true, if_false]
    by_cases k5 : c.Kind = 5
    · simp only [if_pos k5, Option.bind_some]; exact key _
    · simp only [if_neg k5, Option.bind_some]; exact key false
theorem wf_both {c : z05} (hf : FewC c) : ∃ b, z82 c = some b ∧ ref22_allRight c = some b := by
  obtain ⟨b, b1, b2⟩ := wf_law _ c (Nat.le_refl _) hf
  exact ⟨b, Ev_at (fun n => (wf_mono n).1 c) b1, Ev_at (fun n => ar_mono n c) b2⟩
theorem measure_same : ∀ n, z40 n = z2t n := by
  intro n
  induction n with
  | zero => rfl
  | succ n ih =>
    show (fun t0 => z94 (z40 n) t0) = (fun t0 => z4a (z2t n) t0)
    rw [ih]; rfl
theorem measure_mono : ∀ n c, LeO (z2t n c) (z2t (n + 1) c) := by
  intro n
  induction n with
  | zero => exact fun c => LeO.none _
  | succ n ih =>
    intro c
    show LeO (z4a (z2t n) c) (z4a (z2t (n + 1)) c)
    unfold z4a z8p
    repeat' first | with_reducible exact LeO.refl _ | exact ih _ | refine LeO.ite ?_ ?_ | refine LeO.bind ?_ (fun _ => ?_) | refine LeO.iter (fun _ => ?_) _
theorem measure_tot : ∀ (n : Nat) (c : z05), SizeOf.sizeOf c ≤ n → ∃ b, z2t n c = some b := by
  intro n
  induction n with
  | zero => intro c hc; have := cond_pos c; omega
  | succ n ih =>
    intro c hc
    show ∃ b, z4a (z2t n) c = some b
    unfold z4a
    obtain ⟨b, hb, _⟩ := z3b (F := z8p (z2t n) c) (fun x : Int × Int × Int => 0 ≤ x.2.2) (fun x => ((c.Kids.length : Int) - x.2.2).toNat) (fun _ => True) (fun x hp => by
      obtain ⟨s, d, x⟩ := x
      simp only at hp
      unfold z8p
      simp only
      by_cases hx : x < (c.Kids.length : Int)
      · obtain ⟨b, hb⟩ := ih (nth c.Kids x) (by have := cond_size c _ (z2u hp hx); omega)
        rw [if_pos hx, if_pos ⟨hp, hx⟩, hb]
        exact Or.inl ⟨_, rfl, by simp only; omega, by simp only; omega⟩
      · rw [if_neg hx]
        by_cases hk : c.Kind = 5
        · rw [if_pos hk]; exact Or.inr ⟨_, rfl, trivial⟩
        · rw [if_neg hk]; exact Or.inr ⟨_, rfl, trivial⟩) (1, 0, 0) (by simp)
    exact ⟨b, hb⟩
theorem shape_both {c : z05} (hf : FewC c) : ∃ e, zah c = some e ∧ ref22_Shape c = some e := by
  unfold zah ref22_Shape
  obtain ⟨b, b1, b2⟩ := wf_both hf
  obtain ⟨m, hm⟩ := measure_tot _ c (Nat.le_refl _)
  have m2 : ref22_Measure c = some m := Ev_at (fun n => measure_mono n c) hm
  have m1 : z7v c = some m := by
    have e : z7v = ref22_Measure := by
      funext c
      show Ev (fun n => z40 n c) = Ev (fun n => z2t n c)
      congr 1
      funext n; rw [measure_same n]
    rw [e]; exact m2
  rw [b1, b2, m1, m2]
  simp only [Option.bind_some]
  cases b
  · exact ⟨1, rfl, rfl⟩
  simp only [Bool.not_true, Bool.false_eq_true, if_false]
  by_cases h1 : 12 < m.1
  · simp only [if_pos h1]; exact ⟨_, rfl, rfl⟩
  by_cases h2 : 3 < m.2
  · simp only [if_neg h1, if_pos h2]; exact ⟨_, rfl, rfl⟩
  · simp only [if_neg h1, if_neg h2]; exact ⟨_, rfl, rfl⟩
theorem occurs22 : ref22_occurs = ref21_occurs := rfl
theorem inner_law {T : z06} (hf : FewT T) (q : z0q) (v : Int) (hv : ¬ q.Vars < v) : ∃ e, z7u T q v = some e ∧ ref22_inner T v q = some e := by
  unfold z7u ref22_inner
  obtain ⟨c, c1, c2, _⟩ := attribute_law' hf q
  rw [if_neg hv, c1, c2]
  simp only [Option.bind_some]
  by_cases h : c = 9
  rotate_left
  · simp only [if_pos h]; exact ⟨_, rfl, rfl⟩
  subst h
  simp only [not_true_eq_false, if_false]
  obtain ⟨b, b1, b2, _⟩ := z4j (F := z83 9 q) (G := ref22_inner_l5 9 q) (fun _ => True) (fun x => (q.Vars - x).toNat) (fun _ => True) (fun x _ => by
    unfold z83 ref22_inner_l5
    by_cases hx : x < q.Vars
    · obtain ⟨o, o1, o2⟩ := occurs_law q x
      obtain ⟨d, d1, d2⟩ := cont_law (p := fun s => z6d s x) (q := fun s => s.Term.Var = x) q.Slots (fun s _ => ⟨_, rfl, by simp⟩)
      have e : d = o := by
        cases d <;> cases o
        · rfl
        · exact d2.2 (o2.1 rfl)
        · exact (o2.2 (d2.1 rfl)).symm
        · rfl
      rw [if_pos hx, if_pos hx, occurs22, o1, cont_slot, d1, e]
      cases o
      · exact .inr ⟨9, rfl, rfl, trivial⟩
      · exact .inl ⟨x + 1, rfl, rfl, trivial, by omega⟩
    · rw [if_neg hx, if_neg hx]; exact .inr ⟨0, rfl, rfl, trivial⟩) v trivial
  exact ⟨b, b1, b2⟩
theorem inside_mono (T : z06) : ∀ n p c, LeO (z2n n T p c) (z2n (n + 1) T p c) := by
  intro n
  induction n with
  | zero => exact fun p c => LeO.none _
  | succ n ih =>
    intro p c
    show LeO (z3q (z2n n) T p c) (z3q (z2n (n + 1)) T p c)
    unfold z3q z3r z5m
    repeat' first | with_reducible exact LeO.refl _ | exact ih _ _ | refine LeO.ite ?_ ?_ | refine LeO.bind ?_ (fun _ => ?_) | refine LeO.iter (fun _ => ?_) _
theorem over_mono (T : z06) : ∀ n p c, LeO (z49 n T p c) (z49 (n + 1) T p c) := by
  intro n
  induction n with
  | zero => exact fun p c => LeO.none _
  | succ n ih =>
    intro p c
    show LeO (z71 (z49 n) T p c) (z71 (z49 (n + 1)) T p c)
    unfold z71 z6k ref22_over_l26
    repeat' first | with_reducible exact LeO.refl _ | exact ih _ _ | refine LeO.ite ?_ ?_ | refine LeO.bind ?_ (fun _ => ?_) | refine LeO.iter (fun _ => ?_) _
theorem inside_law {T : z06} (hf : FewT T) : ∀ (n : Nat) (c : z05) (p : z0q), SizeOf.sizeOf c ≤ n → ∃ e, z2n n T p c = some e ∧ z49 n T p c = some e := by
  intro n
  induction n with
  | zero => intro c p hc; have := cond_pos c; omega
  | succ n ih =>
    intro c p hc
    show ∃ e, z3q (z2n n) T p c = some e ∧ z71 (z49 n) T p c = some e
    have kids : ∀ q, ∃ e, z3r (z2n n) T c q = some e ∧ z6k (z49 n) T c q = some e := by
      intro q
      unfold z3r z6k
      obtain ⟨b, b1, b2, _⟩ := z4j (F := z5m (z2n n) T c q) (G := ref22_over_l26 (z49 n) T c q) (fun x : Int => 0 ≤ x) (fun x => ((c.Kids.length : Int) - x).toNat) (fun _ => True) (fun x x0 => by
        unfold z5m ref22_over_l26
        by_cases hx : x < (c.Kids.length : Int)
        · obtain ⟨e, e1, e2⟩ := ih (nth c.Kids x) q (by have := cond_size c _ (z2u x0 hx); omega)
          simp only [if_pos hx, if_pos (show 0 ≤ x ∧ x < (c.Kids.length : Int) from ⟨x0, hx⟩)]
          rw [e1, e2]
          simp only [Option.bind_some]
          by_cases h : e = 0
          · exact .inl ⟨x + 1, by simp [h], by simp [h], by omega, by omega⟩
          · exact .inr ⟨e, by simp [h], by simp [h], trivial⟩
        · simp only [if_neg hx]; exact .inr ⟨0, rfl, rfl, trivial⟩) 0 (by omega)
      exact ⟨b, b1, b2⟩
    unfold z3q z71
    by_cases k5 : c.Kind = 5
    rotate_left
    · simp only [if_neg k5]; exact kids p
    simp only [if_pos k5]
    by_cases hv : c.Pattern.Vars < p.Vars
    · unfold ref22_inner
      simp only [if_pos hv, Option.bind_some]
      exact ⟨20, rfl, rfl⟩
    obtain ⟨e, e1, e2⟩ := inner_law hf c.Pattern p.Vars hv
    obtain ⟨d, d1, d2, _⟩ := morphism_law p.Graph c.Pattern.Graph c.Map
    obtain ⟨j, j1, j2, _⟩ := injective_law p.Graph c.Pattern.Graph c.Map
    simp only [if_neg hv]
    rw [e1, e2, d1, d2, j1, j2]
    simp only [Option.bind_some]
    by_cases h1 : e = 0
    rotate_left
    · simp only [if_pos h1]; exact ⟨_, rfl, rfl⟩
    by_cases h2 : d = 0
    rotate_left
    · simp only [h1, not_true_eq_false, if_false, if_pos h2]; exact ⟨_, rfl, rfl⟩
    simp only [h1, h2, not_true_eq_false, if_false]
    cases j
    · exact ⟨1, rfl, rfl⟩
    · simp only [Bool.not_true, Bool.false_eq_true, if_false]; exact kids _
theorem condition_law {T : z06} (hf : FewT T) (p : z0q) {c : z05} (hc : FewC c) : ∃ e, zai T p c = some e ∧ ref22_Valid T p c = some e := by
  unfold zai ref22_Valid
  obtain ⟨a, a1, a2, _⟩ := attribute_law' hf p
  obtain ⟨s, s1, s2⟩ := shape_both hc
  obtain ⟨e, e1, e2⟩ := inside_law hf _ c p (Nat.le_refl _)
  have e3 : condition_inside T p c = some e := Ev_at (fun n => inside_mono T n p c) e1
  have e4 : ref22_over T p c = some e := Ev_at (fun n => over_mono T n p c) e2
  rw [a1, a2, s1, s2, e3, e4]
  simp only [Option.bind_some]
  by_cases h1 : a = 0
  rotate_left
  · simp only [if_pos h1]; exact ⟨_, rfl, rfl⟩
  by_cases h2 : s = 0
  rotate_left
  · simp only [h1, not_true_eq_false, if_false, if_pos h2]; exact ⟨_, rfl, rfl⟩
  simp only [h1, h2, not_true_eq_false, if_false]
  exact ⟨_, rfl, rfl⟩
structure RuleOk (T : z06) (r : z10) : Prop where
  ty : TV T
  left : PatOk T r.Left
  right : RightOk T r
  keep : PartOk r.Left.Graph r.Keep
theorem created_law (r : z10) (h1 : (r.Right.Graph.Nodes.length : Int) ≤ 1000) (h2 : (r.Right.Graph.Edges.length : Int) ≤ 1000) : ∃ a b, rule_created r = some (a, b) ∧ z9t r = some (a, b) ∧ (∀ x ∈ a, 0 ≤ x ∧ x < (r.Right.Graph.Nodes.length : Int)) ∧ (∀ x ∈ b, 0 ≤ x ∧ x < (r.Right.Graph.Edges.length : Int)) ∧ (a.length : Int) ≤ (r.Right.Graph.Nodes.length : Int) ∧ (b.length : Int) ≤ (r.Right.Graph.Edges.length : Int) := by
  unfold rule_created z9t
  obtain ⟨a, a1, a2, a3, a4⟩ := rest_law r.Into.Nodes (r.Right.Graph.Nodes.length : Int) (by omega) h1
  obtain ⟨b, b1, b2, b3, b4⟩ := rest_law r.Into.Edges (r.Right.Graph.Edges.length : Int) (by omega) h2
  rw [a1, a2, b1, b2]
  exact ⟨a, b, rfl, rfl, a4, b4, a3, b3⟩
theorem deleted_law (r : z10) (h1 : (r.Left.Graph.Nodes.length : Int) ≤ 1000) (h2 : (r.Left.Graph.Edges.length : Int) ≤ 1000) : ∃ a b, rule_deleted r = some (a, b) ∧ ref24_deleted r = some (a, b) ∧ (∀ x ∈ a, 0 ≤ x ∧ x < (r.Left.Graph.Nodes.length : Int)) ∧ (∀ x ∈ b, 0 ≤ x ∧ x < (r.Left.Graph.Edges.length : Int)) ∧ (a.length : Int) ≤ (r.Left.Graph.Nodes.length : Int) ∧ (b.length : Int) ≤ (r.Left.Graph.Edges.length : Int) := by
  unfold rule_deleted ref24_deleted
  obtain ⟨a, a1, a2, a3, a4⟩ := rest_law r.Keep.Nodes (r.Left.Graph.Nodes.length : Int) (by omega) h1
  obtain ⟨b, b1, b2, b3, b4⟩ := rest_law r.Keep.Edges (r.Left.Graph.Edges.length : Int) (by omega) h2
  rw [a1, a2, b1, b2]
  exact ⟨a, b, rfl, rfl, a4, b4, a3, b3⟩
theorem rule_law {T : z06} (hf : FewT T) {r : z10} (hr : FewR r) : ∃ c, rule_Valid T r = some c ∧ ref24_Valid T r = some c ∧ (c = 0 → RuleOk T r) := by
  unfold rule_Valid ref24_Valid
  rcases tv_law hf with ⟨s, c, h1, h2, h3⟩ | hT
  · rw [h1, h2]; exact ⟨c, by simp [h3], by simp [h3], fun e => absurd e h3⟩
  obtain ⟨s, v1, v2⟩ := hT.v
  obtain ⟨nm, n1, n2⟩ := isName_law r.Name (by have := hr.n; omega)
  rw [v1, v2, n1, n2]
  simp only [Option.bind_some, not_true_eq_false, if_false]
  cases nm
  · exact ⟨2, rfl, rfl, by simp⟩
  simp only [Bool.not_true, Bool.false_eq_true, if_false]
  obtain ⟨a, a1, a2, a3⟩ := attribute_law' hf r.Left
  rw [a1, a2]
  simp only [Option.bind_some]
  by_cases h1 : a = 0
  rotate_left
  · simp only [if_pos h1]; exact ⟨a, rfl, rfl, fun e => absurd e h1⟩
  simp only [if_neg (not_not_intro h1)]
  have hL := a3 h1
  obtain ⟨b, b1, b2, b3⟩ := right_law hT r
  rw [b1, b2]
  simp only [Option.bind_some]
  by_cases h2 : b = 0
  rotate_left
  · simp only [if_pos h2]; exact ⟨b, rfl, rfl, fun e => absurd e h2⟩
  simp only [if_neg (not_not_intro h2)]
  have hR := b3 h2
  -- the span
  unfold rule_kept ref24_span
  obtain ⟨x, x1, x2, x3, k, k1, k2⟩ := extract_law hL.g r.Keep
  rw [x1, k1]
  simp only [Option.bind_some]
  by_cases h3 : x.2.2 = 0
  rotate_left
  · simp only [if_pos h3, if_pos (k2 ▸ h3), Option.bind_some]
    rw [← k2]; exact ⟨x.2.2, rfl, rfl, fun e => absurd e h3⟩
  have h3k : k = 0 := by rw [← k2]; exact h3
  simp only [if_neg (not_not_intro h3), if_neg (not_not_intro h3k)]
  rw [x2]
  simp only [Option.bind_some]
  obtain ⟨hK, _⟩ := x3 h3
  obtain ⟨d, d1, d2, d3⟩ := morphism_law x.1 r.Right.Graph r.Into
  rw [d1, d2]
  simp only [Option.bind_some]
  by_cases h4 : d = 0
  rotate_left
  · simp only [if_pos h4, Option.bind_some]; exact ⟨d, rfl, rfl, fun e => absurd e h4⟩
  simp only [if_neg (not_not_intro h4)]
  unfold z4f
  rw [d1]
  obtain ⟨l1, l2⟩ := d3 h4
  have hxl : (x.1.Nodes.length : Int) ≤ 40 ∧ (x.1.Edges.length : Int) ≤ 80 := by
    have hv := d1
    unfold z47 at hv
    obtain ⟨g, g1, _, g3⟩ := graph_law x.1
    rw [g1] at hv
    simp only [Option.bind_some] at hv
    by_cases hg : g = 0
    · have := g3.1 hg; exact ⟨this.1, this.2.1⟩
    · rw [if_pos hg] at hv; exact absurd ((Option.some.inj hv).trans h4) hg
  obtain ⟨i, i1, i2⟩ := images_law (xs := r.Into.Nodes) (by omega)
  obtain ⟨j, j1, j2⟩ := images_law (xs := r.Into.Edges) (by omega)
  obtain ⟨p, p1, p2⟩ := distinct_law r.Into.Nodes
  obtain ⟨q, q1, q2⟩ := distinct_law r.Into.Edges
  simp only [Option.bind_some, if_pos h4]
  rw [i1, j1, p1, q1]
  simp only [Option.bind_some]
  by_cases hn : r.Into.Nodes.Nodup
  rotate_left
  · have : p = false := by cases p; rfl; exact absurd (p2.1 rfl) hn
    subst this
    rw [if_neg (fun h => hn (i2.1 h))]
    exact ⟨11, rfl, rfl, by simp⟩
  have : p = true := p2.2 hn
  subst this
  rw [if_pos (i2.2 hn)]
  by_cases he : r.Into.Edges.Nodup
  rotate_left
  · have : q = false := by cases q; rfl; exact absurd (q2.1 rfl) he
    subst this
    have : ¬ j = (r.Into.Edges.length : Int) := fun h => he (j2.1 h)
    exact ⟨11, by simp [this], by simp, by simp⟩
  have : q = true := q2.2 he
  subst this
  simp only [j2.2 he, decide_true, Bool.not_true, Bool.false_eq_true, if_false, Option.bind_some, not_true_eq_false]
  obtain ⟨ca, cb, c1, c2, c3, c4, _, _⟩ := created_law r (by have := hR.g.1; omega) (by have := hR.g.2.1; omega)
  obtain ⟨mk, m1, m2⟩ := makable_law hT hR.g hR.t c3 c4
  rw [c1, c2]
  simp only [Option.bind_some]
  rw [m1, m2]
  simp only [Option.bind_some]
  cases mk
  · exact ⟨13, rfl, rfl, by simp⟩
  simp only [Bool.not_true, Bool.false_eq_true, if_false]
  obtain ⟨e, e1, e2⟩ := condition_law hf r.Left hr.c
  rw [e1, e2]
  exact ⟨e, rfl, rfl, fun _ => ⟨hT, hL, hR, hK⟩⟩
end Go.Proofs.YtngimdmkomkeoaaGreat.K
