/- Refutations: the program and the document's answer say the same; weights and a refutation exclude each other. -/
import Derived.Test.YtngimdmkomkeoaaGreatLawN
set_option linter.unusedVariables false
set_option linter.unusedSimpArgs false
namespace Go.Proofs.YtngimdmkomkeoaaGreat.K
open Go.RowKit Go.Proofs
def GR (E : List (List Int)) (N : Nat) (l : List Int) : Prop := ¬ tot l = 0 ∧ ∀ j : Int, 0 ≤ j → j < (N : Int) → 0 ≤ sumN (fun k => nth l k * nth (nth E k) j) E.length
noncomputable def gr (E : List (List Int)) (N : Nat) (l : List Int) : Bool := @decide (GR E N l) (Classical.propDecidable _)
theorem gr_iff {E : List (List Int)} {N : Nat} {l : List Int} : gr E N l = true ↔ GR E N l := by
  unfold gr
  exact @decide_eq_true_iff _ (Classical.propDecidable _)
theorem gr_eq {E : List (List Int)} {N : Nat} {l : List Int} {b : Bool} (h : b = true ↔ GR E N l) : b = gr E N l := by
  have h2 := gr_iff (E := E) (N := N) (l := l)
  cases b <;> cases hg : gr E N l
  · rfl
  · rw [hg] at h2; have := h.2 (h2.1 rfl); cases this
  · rw [hg] at h2; have := h2.2 (h.1 rfl); cases this
  · rfl
theorem tot_zero : ∀ {l : List Int}, (∀ x ∈ l, 0 ≤ x) → 0 ≤ tot l ∧ (tot l = 0 ↔ ∀ x ∈ l, x = 0)
  | [], _ => by simp [tot]
  | x :: xs, h => by
    have h1 := tot_zero (l := xs) fun y hy => h y (by simp [hy])
    have h2 := h x (by simp)
    simp only [tot]
    refine ⟨by omega, fun e y hy => ?_, fun e => ?_⟩
    · rcases List.mem_cons.1 hy with r | hy
      · omega
      · exact h1.2.1 (by omega) y hy
    · have h3 := e x (by simp)
      have h4 := h1.2.2 fun y hy => e y (by simp [hy])
      omega
theorem max_law {l : List Int} (hl : l.length ≤ 100) (hb : ∀ x ∈ l, 0 ≤ x) : ∃ m, slices_Max_int ([0] ++ l) = some m ∧ (m = 0 ↔ tot l = 0) := by
  unfold slices_Max_int
  rw [if_neg (by simp; omega), if_pos ⟨by omega, by simp⟩]
  have n0 : nth ([0] ++ l) 0 = 0 := rfl
  rw [n0]
  refine (z3b (F := slices_Max_int_l3 ([0] ++ l)) (fun x : Int × Int => 1 ≤ x.2 ∧ x.2 ≤ (l.length : Int) + 1 ∧ 0 ≤ x.1 ∧ (x.1 = 0 ↔ ∀ k : Int, 0 ≤ k → k < x.2 - 1 → nth l k = 0)) (fun x => ((l.length : Int) + 1 - x.2).toNat) (fun m => m = 0 ↔ tot l = 0) (fun x hp => ?_) (0, 1) ⟨by simp, by simp; omega, by simp, by simp; intro k a b; omega⟩)
  obtain ⟨m, i⟩ := x
  obtain ⟨p1, p2, p3, p4⟩ := hp
  simp only at p1 p2 p3 p4
  unfold slices_Max_int_l3
  simp only
  have hlen : (([0] ++ l).length : Int) = (l.length : Int) + 1 := by simp
  by_cases hi : i < (l.length : Int) + 1
  · have hn : nth ([0] ++ l) i = nth l (i - 1) := by
      have := nth_right (xs := [0]) (ys := l) (i := i - 1) (by omega) (by omega)
      rw [← this]; congr 1; simp; omega
    have hv := hb _ (z2u (xs := l) (i := i - 1) (by omega) (by omega))
    rw [if_pos (by omega), if_pos ⟨by omega, by omega⟩, hn]
    refine .inl ⟨_, rfl, ⟨by simp only; omega, by simp only; omega, by simp only; split <;> omega, ?_⟩, by simp only; omega⟩
    simp only
    constructor
    · intro e k k0 k1
      by_cases ek : k = i - 1
      · subst ek; split at e <;> omega
      · exact p4.1 (by split at e <;> omega) k k0 (by omega)
    · intro h
      have h1 := h (i - 1) (by omega) (by omega)
      have h2 := p4.2 fun k k0 k1 => h k k0 (by omega)
      split <;> omega
  · rw [if_neg (by omega)]
    refine .inr ⟨_, rfl, ?_⟩
    rw [p4, (tot_zero hb).2]
    constructor
    · intro h x hx
      obtain ⟨k, k0, k1, rfl⟩ := z80 hx
      exact h k k0 (by omega)
    · intro h k k0 k1
      exact h _ (z2u k0 (by omega))
theorem column_law {E : List (List Int)} {N : Nat} (hr : ∀ l ∈ E, l.length = N ∧ Bd 1000 l) (h6 : E.length ≤ 6) {l : List Int} (hl : l.length = E.length) (hb : ∀ x ∈ l, 0 ≤ x ∧ x ≤ 1000) {j : Int} (j0 : 0 ≤ j) (j1 : j < (N : Int)) :
    z2l (z6s E l j) (0, 0) = some (if sumN (fun k => nth l k * nth (nth E k) j) E.length < 0 then .inr false else .inl (j + 1)) ∧ z2l (z7k l E j) (0, 0) = some (if sumN (fun k => nth l k * nth (nth E k) j) E.length < 0 then .inr false else .inl (j + 1)) := by
  have hbd : ∀ k : Int, 0 ≤ k → k < (E.length : Int) → -1000000 ≤ nth l k * nth (nth E k) j ∧ nth l k * nth (nth E k) j ≤ 1000000 := fun k k0 k1 => by
    have h1 := hb _ (z2u (xs := l) k0 (by omega))
    obtain ⟨h2, h3⟩ := hr _ (z2u k0 k1)
    exact mul_bd (A := 1000) (B := 1000) (by omega) (by omega) (by omega) (h3.nth j0 (by omega))
  obtain ⟨r, r1, r2, r3⟩ := z4j (F := z6s E l j) (G := z7k l E j) (fun x : Int × Int => 0 ≤ x.2 ∧ x.2 ≤ (E.length : Int) ∧ x.1 = sumN (fun k => nth l k * nth (nth E k) j) x.2.toNat) (fun x => ((E.length : Int) - x.2).toNat) (fun r => r = if sumN (fun k => nth l k * nth (nth E k) j) E.length < 0 then .inr false else .inl (j + 1)) (fun x hp => by
    obtain ⟨s, i⟩ := x
    obtain ⟨p1, p2, p3⟩ := hp
    simp only at p1 p2 p3
    obtain ⟨i, rfl⟩ := Int.eq_ofNat_of_zero_le p1
    simp only [Int.toNat_natCast] at p3
    unfold z6s z7k
    simp only
    by_cases hi : (i : Int) < (E.length : Int)
    · have h1 := hbd i p1 hi
      have h2 := sumN_bd (f := fun k => nth l k * nth (nth E k) j) (B := 1000000) i (fun k a b => hbd k a (by omega))
      have h3 := (hr _ (z2u p1 hi)).1
      simp only [if_pos hi, if_pos (show (i : Int) < (l.length : Int) by omega), if_pos (show 0 ≤ (i : Int) ∧ (i : Int) < (l.length : Int) from ⟨p1, by omega⟩), if_pos (show 0 ≤ (i : Int) ∧ (i : Int) < (E.length : Int) from ⟨p1, hi⟩), if_pos (show 0 ≤ j ∧ j < ((nth E (i : Int)).length : Int) from ⟨j0, by omega⟩)]
      rw [z34 (by omega) (by omega)]
      simp only [Option.bind_some]
      rw [z34 (by rw [p3]; omega) (by rw [p3]; omega)]
      refine .inl ⟨_, rfl, rfl, ⟨by simp only; omega, by simp only; omega, ?_⟩, by simp only; omega⟩
      have e : ((i : Int) + 1).toNat = i + 1 := by omega
      simp only [e, sumN, p3]
    · have hi2 : ¬ (i : Int) < (l.length : Int) := by omega
      simp only [if_neg hi, if_neg hi2]
      have : i = E.length := by omega
      subst this
      rw [← p3]
      by_cases hs : s < 0
      · simp only [if_pos hs]; exact .inr ⟨_, rfl, rfl, rfl⟩
      · simp only [if_neg hs]; exact .inr ⟨_, rfl, rfl, rfl⟩) (0, 0) ⟨by simp, by simp, by simp [sumN]⟩
  rw [r1, r2, r3]
  exact ⟨rfl, rfl⟩
theorem refutes_law {E : List (List Int)} {N : Nat} (hr : ∀ l ∈ E, l.length = N ∧ Bd 1000 l) (h6 : E.length ≤ 6) (h0 : 0 < E.length) {l : List Int} (hl : l.length = E.length) (hb : ∀ x ∈ l, 0 ≤ x ∧ x ≤ 1000) :
    z84 E l = some (gr E N l) ∧ ref39_refutes l E = some (gr E N l) := by
  have hN : ((nth E 0).length : Int) = (N : Int) := by rw [(hr _ (z2u (by omega) (by omega))).1]
  obtain ⟨m, m1, m2⟩ := max_law (l := l) (by omega) (fun x hx => (hb x hx).1)
  have t1 := total_law (l := l) (by omega) (fun x hx => by have := hb x hx; omega)
  have inner : ∃ b, z2l (z7b E l) 0 = some b ∧ z2l (z8l l E) 0 = some b ∧ (b = true ↔ ∀ j : Int, 0 ≤ j → j < (N : Int) → 0 ≤ sumN (fun k => nth l k * nth (nth E k) j) E.length) := by
    refine z4j (F := z7b E l) (G := z8l l E) (fun x : Int => 0 ≤ x ∧ x ≤ (N : Int) ∧ ∀ j : Int, 0 ≤ j → j < x → 0 ≤ sumN (fun k => nth l k * nth (nth E k) j) E.length) (fun x => ((N : Int) - x).toNat) _ (fun x hp => ?_) 0 ⟨by omega, by omega, fun j a b => by omega⟩
    obtain ⟨p1, p2, p3⟩ := hp
    unfold z7b z8l
    rw [if_pos (show 0 ≤ (0 : Int) ∧ (0 : Int) < (E.length : Int) from ⟨by omega, by omega⟩), hN]
    by_cases hx : x < (N : Int)
    · obtain ⟨c1, c2⟩ := column_law hr h6 hl hb p1 hx
      simp only [if_pos hx]
      rw [c1, c2]
      by_cases hs : sumN (fun k => nth l k * nth (nth E k) x) E.length < 0
      · simp only [if_pos hs]
        refine .inr ⟨false, rfl, rfl, by simp only [Bool.false_eq_true, false_iff]; intro h; have := h x p1 hx; omega⟩
      · simp only [if_neg hs]
        refine .inl ⟨x + 1, rfl, rfl, ⟨by omega, by omega, fun j j0 j1 => ?_⟩, by omega⟩
        by_cases e : j = x
        · subst e; omega
        · exact p3 j j0 (by omega)
    · simp only [if_neg hx]
      exact .inr ⟨true, rfl, rfl, by simp only [true_iff]; exact fun j a b => p3 j a (by omega)⟩
  obtain ⟨b, b1, b2, b3⟩ := inner
  unfold z84 ref39_refutes
  rw [if_pos (by simp; omega), m1, t1]
  simp only [Option.bind_some]
  by_cases hz : tot l = 0
  · have : gr E N l = false := (gr_eq (b := false) (by simp only [Bool.false_eq_true, false_iff]; exact fun h => h.1 hz)).symm
    rw [if_pos (m2.2 hz), if_pos hz, this]; exact ⟨rfl, rfl⟩
  · have : b = gr E N l := gr_eq (by rw [b3]; exact ⟨fun h => ⟨hz, h⟩, fun h => h.2⟩)
    rw [if_neg (fun h => hz (m2.1 h)), if_neg hz, if_pos ⟨by omega, by omega⟩, b1, b2, this]; exact ⟨rfl, rfl⟩
theorem natural_both (w : List Int) (n : Int) : ∃ b, z86 w n = some b ∧ z9r w n = some b ∧ (b = true → (w.length : Int) = n ∧ ∀ x ∈ w, 0 ≤ x ∧ x ≤ 1000) := by
  unfold z86 z9r
  by_cases h : (w.length : Int) = n
  rotate_left
  · rw [if_neg h, if_pos h]; exact ⟨false, rfl, rfl, by simp⟩
  subst h
  rw [if_pos rfl, if_neg (by simp), cont_int, cont_any (q := fun x => !decide (0 ≤ x ∧ x ≤ 1000)) w (fun x _ => by
    unfold weight_natural_1
    by_cases h0 : x < 0
    · rw [if_pos h0]; simp; omega
    · rw [if_neg h0]; congr 1; by_cases h1 : 1000 < x <;> simp [h1] <;> omega)]
  rw [Iter_any w (fun x => !decide (0 ≤ x ∧ x ≤ 1000)) (c := false) (fin := some true) (fun i i0 i1 => by
    unfold ref39_natural_l2
    rw [if_pos i1, if_pos ⟨i0, i1⟩]
    by_cases h0 : nth w i < 0
    · have : ¬ (0 ≤ nth w i ∧ nth w i ≤ 1000) := by omega
      rw [if_pos h0]; simp [this]
    · rw [if_neg h0]
      by_cases h1 : 1000 < nth w i
      · have : ¬ (0 ≤ nth w i ∧ nth w i ≤ 1000) := by omega
        rw [if_pos h1]; simp [this]
      · have : 0 ≤ nth w i ∧ nth w i ≤ 1000 := by omega
        rw [if_neg h1]; simp [this]) (by unfold ref39_natural_l2; rw [if_neg (by omega)]; rfl)]
  cases hq : w.any (fun x => !decide (0 ≤ x ∧ x ≤ 1000))
  · refine ⟨true, rfl, rfl, fun _ => ⟨rfl, fun x hx => ?_⟩⟩
    have := List.any_eq_false.1 hq x hx
    simpa using this
  · exact ⟨false, rfl, rfl, by simp⟩
theorem check_both {T : z06} (hf : FewT T) {rules : List z10} (hr : ∀ r ∈ rules, FewR r) (w : List Int) : ∃ b, weight_Check T rules w = some b ∧ ref39_Check T rules w = some b := by
  unfold weight_Check ref39_Check
  rcases effects_law hf hr with ⟨c, h1, h2, h3⟩ | ⟨E, N, hE, h2, h3⟩
  · rw [h2, h3]
    simp only [Option.bind_some, if_neg h1]
    exact ⟨false, rfl, rfl⟩
  have hN := hE.n; have h32 := hE.n32
  rw [h2, h3]
  simp only [Option.bind_some, if_true]
  rw [z34 (by omega) (by omega), ← hN]
  obtain ⟨b, b1, b2, b3⟩ := natural_both w (N : Int)
  rw [b1, b2]
  cases b
  · exact ⟨false, rfl, rfl⟩
  obtain ⟨g1, g2⟩ := b3 rfl
  simp only [Option.bind_some, if_true]
  have hb : Bd 1000 w := fun x hx => by have := g2 x hx; omega
  rw [proves_law hE.row (by omega) (by omega) hb, rlow_law hE.row (by omega) (by omega) hb]
  exact ⟨_, rfl, rfl⟩
theorem checkR_both {T : z06} (hf : FewT T) {rules : List z10} (hr : ∀ r ∈ rules, FewR r) (l : List Int) : ∃ b, z6v T rules l = some b ∧ z7m T rules l = some b := by
  unfold z6v z7m
  rcases effects_law hf hr with ⟨c, h1, h2, h3⟩ | ⟨E, N, hE, h2, h3⟩
  · rw [h2, h3]
    simp only [Option.bind_some, if_neg h1]
    exact ⟨false, rfl, rfl⟩
  have hlen := hE.len
  rw [h2, h3]
  simp only [Option.bind_some, if_true]
  obtain ⟨b, b1, b2, b3⟩ := natural_both l (rules.length : Int)
  rw [b1, b2]
  cases b
  · exact ⟨false, rfl, rfl⟩
  obtain ⟨g1, g2⟩ := b3 rfl
  simp only [Option.bind_some, if_true]
  by_cases h0 : 0 < (l.length : Int)
  · rw [if_pos h0, if_pos (show 0 < (rules.length : Int) by omega)]
    obtain ⟨u1, u2⟩ := refutes_law hE.row hE.six (by omega) (l := l) (by omega) g2
    rw [u1, u2]
    exact ⟨_, rfl, rfl⟩
  · rw [if_neg h0, if_neg (show ¬ 0 < (rules.length : Int) by omega)]
    exact ⟨false, rfl, rfl⟩
theorem weightCheck_law' (ha : z68 = some true) {T : z06} (hT : LenT T) {rules : List z10} (hr : ∀ r ∈ rules, LenR r) (l : z4s) : z7r T rules l = some true := by
  unfold z7r
  rw [ha]
  obtain ⟨b, b1, b2⟩ := small_law hT hr
  simp only [Option.bind_some, Bool.not_true, Bool.false_eq_true, if_false]
  rw [b1]
  cases b
  · rfl
  obtain ⟨hf, _, hr2⟩ := b2 rfl
  simp only [Option.bind_some, Bool.not_true, Bool.false_eq_true, if_false]
  by_cases q1 : 60 < (l.e0.length : Int)
  · rw [if_pos q1]
  rw [if_neg q1]
  by_cases q2 : 60 < (l.e1.length : Int)
  · rw [if_pos q2]
  rw [if_neg q2]
  obtain ⟨c, c1, c2⟩ := check_both hf hr2 l.e0
  obtain ⟨d, d1, d2⟩ := checkR_both hf hr2 l.e1
  rw [cloneI (by omega)]
  simp only [Option.bind_some]
  rw [c1, c2]
  simp only [Option.bind_some, beq_self_eq_true, if_true]
  rw [cloneI (by omega)]
  simp only [Option.bind_some]
  rw [d1, d2]
  simp
end Go.Proofs.YtngimdmkomkeoaaGreat.K
