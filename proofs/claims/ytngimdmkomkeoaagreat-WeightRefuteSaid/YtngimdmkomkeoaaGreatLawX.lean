/- Refutations: the program and the document's answer say the same; weights and a refutation exclude each other. -/
import Derived.Test.YtngimdmkomkeoaaGreatLawN
set_option linter.unusedVariables false
set_option linter.unusedSimpArgs false
namespace Go.Proofs.YtngimdmkomkeoaaGreat.K
open Go.RowKit Go.Proofs
def GR (E : List (List Int)) (N : Nat) (l : List Int) : Prop := ¬ tot l = 0 ∧ ∀ j : Int, 0 ≤ j → j < (N : Int) → 0 ≤ z67 (fun k => nth l k * nth (nth E k) j) E.length
noncomputable def gr (E : List (List Int)) (N : Nat) (l : List Int) : Bool := @decide (GR E N l) (Classical.propDecidable _)
theorem gr_iff {E : List (List Int)} {N : Nat} {l : List Int} : gr E N l = true ↔ GR E N l := by
  unfold gr
  exact @decide_eq_true_iff _ (Classical.propDecidable _)
theorem gr_eq {E : List (List Int)} {N : Nat} {l : List Int} {b : Bool} (h : b = true ↔ GR E N l) : b = gr E N l := by
  have h2 := gr_iff (E := E) (N := N) (l := l)
  cases b <;> cases hg : gr E N l
  · rfl
  · rw [hg] at h2; have := h.2 (h2.1 rfl); cases this
  · rw [hg] at h2; have := h2.2 (h.1 rfl); cases this
  · rfl
theorem tot_zero : ∀ {l : List Int}, (∀ x ∈ l, 0 ≤ x) → 0 ≤ tot l ∧ (tot l = 0 ↔ ∀ x ∈ l, x = 0)
  | [], _ => by simp [tot]
  | x :: xs, h => by
    have h1 := tot_zero (l := xs) fun y hy => h y (by simp [hy])
    have h2 := h x (by simp)
    simp only [tot]
    refine ⟨by omega, fun e y hy => ?_, fun e => ?_⟩
    · rcases List.mem_cons.1 hy with r | hy
      · omega
      · exact h1.2.1 (by omega) y hy
    · have h3 := e x (by simp)
      have h4 := h1.2.2 fun y hy => e y (by simp [hy])
      omega
theorem max_law {l : List Int} (hl : l.length ≤ 100) (hb : ∀ x ∈ l, 0 ≤ x) : ∃ m, slices_Max_int ([0] ++ l) = some m ∧ (m = 0 ↔ tot l = 0) := by
  unfold slices_Max_int
  rw [if_neg (by simp; omega), if_pos ⟨by omega, by simp⟩]
  have n0 : nth ([0] ++ l) 0 = 0 := rfl
  rw [n0]
  refine (z2m (F := slices_Max_int_l3 ([0] ++ l)) (fun x : Int × Int => 1 ≤ x.2 ∧ x.2 ≤ (l.length : Int) + 1 ∧ 0 ≤ x.1 ∧ (x.1 = 0 ↔ ∀ k : Int, 0 ≤ k → k < x.2 - 1 → nth l k = 0)) (fun x => ((l.length : Int) + 1 - x.2).toNat) (fun m => m = 0 ↔ tot l = 0) (fun x hp => ?_) (0, 1) ⟨by simp, by simp; omega, by simp, by simp; intro k a b; omega⟩)
  obtain ⟨m, i⟩ := x
  obtain ⟨p1, p2, p3, p4⟩ := hp
  simp only at p1 p2 p3 p4
  unfold slices_Max_int_l3
  simp only
  have hlen : (([0] ++ l).length : Int) = (l.length : Int) + 1 := by simp
  by_cases hi : i < (l.length : Int) + 1
  · have hn : nth ([0] ++ l) i = nth l (i - 1) := by
      have := nth_right (xs := [0]) (ys := l) (i := i - 1) (by omega) (by omega)
      rw [← this]; congr 1; simp; omega
    have hv := hb _ (z2c (xs := l) (i := i - 1) (by omega) (by omega))
    rw [if_pos (by omega), if_pos ⟨by omega, by omega⟩, hn]
    refine .inl ⟨_, rfl, ⟨by simp only; omega, by simp only; omega, by simp only; split <;> omega, ?_⟩, by simp only; omega⟩
    simp only
    constructor
    · intro e k k0 k1
      by_cases ek : k = i - 1
      · subst ek; split at e <;> omega
      · exact p4.1 (by split at e <;> omega) k k0 (by omega)
    · intro h
      have h1 := h (i - 1) (by omega) (by omega)
      have h2 := p4.2 fun k k0 k1 => h k k0 (by omega)
      split <;> omega
  · rw [if_neg (by omega)]
    refine .inr ⟨_, rfl, ?_⟩
    rw [p4, (tot_zero hb).2]
    constructor
    · intro h x hx
      obtain ⟨k, k0, k1, rfl⟩ := z71 hx
      exact h k k0 (by omega)
    · intro h k k0 k1
      exact h _ (z2c k0 (by omega))
theorem column_law {E : List (List Int)} {N : Nat} (hr : ∀ l ∈ E, l.length = N ∧ Bd 1000 l) (h6 : E.length ≤ 6) {l : List Int} (hl : l.length = E.length) (hb : ∀ x ∈ l, 0 ≤ x ∧ x ≤ 1000) {j : Int} (j0 : 0 ≤ j) (j1 : j < (N : Int)) :
    z2n (z75 E l j) (0, 0) = some (if z67 (fun k => nth l k * nth (nth E k) j) E.length < 0 then .inr false else .inl (j + 1)) ∧ z2n (z86 l E j) (0, 0) = some (if z67 (fun k => nth l k * nth (nth E k) j) E.length < 0 then .inr false else .inl (j + 1)) := by
  have hbd : ∀ k : Int, 0 ≤ k → k < (E.length : Int) → -1000000 ≤ nth l k * nth (nth E k) j ∧ nth l k * nth (nth E k) j ≤ 1000000 := fun k k0 k1 => by
    have h1 := hb _ (z2c (xs := l) k0 (by omega))
    obtain ⟨h2, h3⟩ := hr _ (z2c k0 k1)
    exact mul_bd (A := 1000) (B := 1000) (by omega) (by omega) (by omega) (h3.nth j0 (by omega))
  obtain ⟨r, r1, r2, r3⟩ := z4r (F := z75 E l j) (G := z86 l E j) (fun x : Int × Int => 0 ≤ x.2 ∧ x.2 ≤ (E.length : Int) ∧ x.1 = z67 (fun k => nth l k * nth (nth E k) j) x.2.toNat) (fun x => ((E.length : Int) - x.2).toNat) (fun r => r = if z67 (fun k => nth l k * nth (nth E k) j) E.length < 0 then .inr false else .inl (j + 1)) (fun x hp => by
    obtain ⟨s, i⟩ := x
    obtain ⟨p1, p2, p3⟩ := hp
    simp only at p1 p2 p3
    obtain ⟨i, rfl⟩ := Int.eq_ofNat_of_zero_le p1
    simp only [Int.toNat_natCast] at p3
    unfold z75 z86
    simp only
    by_cases hi : (i : Int) < (E.length : Int)
    · have h1 := hbd i p1 hi
      have h2 := sumN_bd (f := fun k => nth l k * nth (nth E k) j) (B := 1000000) i (fun k a b => hbd k a (by omega))
      have h3 := (hr _ (z2c p1 hi)).1
      simp only [if_pos hi, if_pos (show (i : Int) < (l.length : Int) by omega), if_pos (show 0 ≤ (i : Int) ∧ (i : Int) < (l.length : Int) from ⟨p1, by omega⟩), if_pos (show 0 ≤ (i : Int) ∧ (i : Int) < (E.length : Int) from ⟨p1, hi⟩), if_pos (show 0 ≤ j ∧ j < ((nth E (i : Int)).length : Int) from ⟨j0, by omega⟩)]
      rw [z2h (by omega) (by omega)]
      simp only [Option.bind_some]
      rw [z2h (by rw [p3]; omega) (by rw [p3]; omega)]
      refine .inl ⟨_, rfl, rfl, ⟨by simp only; omega, by simp only; omega, ?_⟩, by simp only; omega⟩
      have e : ((i : Int) + 1).toNat = i + 1 := by omega
      simp only [e, z67, p3]
    · have hi2 : ¬ (i : Int) < (l.length : Int) := by omega
      simp only [if_neg hi, if_neg hi2]
      have : i = E.length := by omega
      subst this
      rw [← p3]
      by_cases hs : s < 0
      · simp only [if_pos hs]; exact .inr ⟨_, rfl, rfl, rfl⟩
      · simp only [if_neg hs]; exact .inr ⟨_, rfl, rfl, rfl⟩) (0, 0) ⟨by simp, by simp, by simp [z67]⟩
  rw [r1, r2, r3]
  exact ⟨rfl, rfl⟩
theorem refutes_law {E : List (List Int)} {N : Nat} (hr : ∀ l ∈ E, l.length = N ∧ Bd 1000 l) (h6 : E.length ≤ 6) (h0 : 0 < E.length) {l : List Int} (hl : l.length = E.length) (hb : ∀ x ∈ l, 0 ≤ x ∧ x ≤ 1000) :
    z8k E l = some (gr E N l) ∧ zac l E = some (gr E N l) := by
  have hN : ((nth E 0).length : Int) = (N : Int) := by rw [(hr _ (z2c (by omega) (by omega))).1]
  obtain ⟨m, m1, m2⟩ := max_law (l := l) (by omega) (fun x hx => (hb x hx).1)
  have t1 := total_law (l := l) (by omega) (fun x hx => by have := hb x hx; omega)
  have inner : ∃ b, z2n (z7w E l) 0 = some b ∧ z2n (z90 l E) 0 = some b ∧ (b = true ↔ ∀ j : Int, 0 ≤ j → j < (N : Int) → 0 ≤ z67 (fun k => nth l k * nth (nth E k) j) E.length) := by
    refine z4r (F := z7w E l) (G := z90 l E) (fun x : Int => 0 ≤ x ∧ x ≤ (N : Int) ∧ ∀ j : Int, 0 ≤ j → j < x → 0 ≤ z67 (fun k => nth l k * nth (nth E k) j) E.length) (fun x => ((N : Int) - x).toNat) _ (fun x hp => ?_) 0 ⟨by omega, by omega, fun j a b => by omega⟩
    obtain ⟨p1, p2, p3⟩ := hp
    unfold z7w z90
    rw [if_pos (show 0 ≤ (0 : Int) ∧ (0 : Int) < (E.length : Int) from ⟨by omega, by omega⟩), hN]
    by_cases hx : x < (N : Int)
    · obtain ⟨c1, c2⟩ := column_law hr h6 hl hb p1 hx
      simp only [if_pos hx]
      rw [c1, c2]
      by_cases hs : z67 (fun k => nth l k * nth (nth E k) x) E.length < 0
      · simp only [if_pos hs]
        refine .inr ⟨false, rfl, rfl, by simp only [Bool.false_eq_true, false_iff]; intro h; have := h x p1 hx; omega⟩
      · simp only [if_neg hs]
        refine .inl ⟨x + 1, rfl, rfl, ⟨by omega, by omega, fun j j0 j1 => ?_⟩, by omega⟩
        by_cases e : j = x
        · subst e; omega
        · exact p3 j j0 (by omega)
    · simp only [if_neg hx]
      exact .inr ⟨true, rfl, rfl, by simp only [true_iff]; exact fun j a b => p3 j a (by omega)⟩
  obtain ⟨b, b1, b2, b3⟩ := inner
  unfold z8k zac
  rw [if_pos (by simp; omega), m1, t1]
  simp only [Option.bind_some]
  by_cases hz : tot l = 0
  · have : gr E N l = false := (gr_eq (b := false) (by simp only [Bool.false_eq_true, false_iff]; exact fun h => h.1 hz)).symm
    rw [if_pos (m2.2 hz), if_pos hz, this]; exact ⟨rfl, rfl⟩
  · have : b = gr E N l := gr_eq (by rw [b3]; exact ⟨fun h => ⟨hz, h⟩, fun h => h.2⟩)
    rw [if_neg (fun h => hz (m2.1 h)), if_neg hz, if_pos ⟨by omega, by omega⟩, b1, b2, this]; exact ⟨rfl, rfl⟩
theorem rightR {E : List (List Int)} {N : Nat} (hr : ∀ l ∈ E, l.length = N ∧ Bd 1000 l) (h6 : E.length ≤ 6) {l : List Int} (hl : Box E.length l) : z78 l E = some (gr E N l, l) := by
  unfold z78
  have := hl.1
  by_cases h0 : 0 < (l.length : Int)
  · rw [if_pos h0, (refutes_law hr h6 (by omega) hl.1 (fun x hx => by have := hl.2 x hx; omega)).1]; rfl
  · have e : l = [] := List.eq_nil_of_length_eq_zero (by omega)
    subst e
    have : gr E N [] = false := (gr_eq (b := false) (by simp only [Bool.false_eq_true, false_iff]; exact fun h => h.1 rfl)).symm
    rw [if_neg h0, this]
theorem fillR_mono : ∀ d a r n E l m, LeO (z2k d a r n E l m) (z2k (d + 1) a r n E l m) := by
  intro d
  induction d with
  | zero => intros; exact LeO.none _
  | succ d ih =>
    intro a r n E l m
    show LeO (z32 (z2k d) a r n E l m) (z32 (z2k (d + 1)) a r n E l m)
    unfold z32 z5d
    repeat' first | with_reducible exact LeO.refl _ | exact ih _ _ _ _ _ _ | refine LeO.ite ?_ ?_ | refine LeO.bind ?_ (fun _ => ?_) | refine LeO.iter (fun _ => ?_) _
theorem fillR_law {E : List (List Int)} {N : Nat} (hr : ∀ l ∈ E, l.length = N ∧ Bd 1000 l) (h6 : E.length ≤ 6) : ∀ (k : Nat) (a : Nat) (rest : Int) (l : List Int) (d : Nat), a + k = E.length → 0 ≤ rest → rest ≤ 100 → Box E.length l → k < d →
    ∃ b l', z2k d (a : Int) rest (E.length : Int) E l (E.length : Int) = some (b, l') ∧ Box E.length l' ∧ l'.take a = l.take a ∧
      (b = true → tot (l'.drop a) = rest ∧ gr E N l' = true ∧ ∀ t, Box k t → tot t = rest → gr E N (l.take a ++ t) = true → z45 (l'.drop a) t) ∧
      (b = false → ∀ t, Box k t → tot t = rest → ¬ gr E N (l.take a ++ t) = true) := by
  intro k
  induction k with
  | zero =>
    intro a rest l d ha h0 h1 hl hd
    obtain ⟨d, rfl⟩ : ∃ e, d = e + 1 := ⟨d - 1, by omega⟩
    have han : a = l.length := by rw [hl.1]; omega
    show ∃ b l', z32 (z2k d) (a : Int) rest _ E l _ = some (b, l') ∧ _
    unfold z32
    rw [if_pos (by omega)]
    by_cases hz : rest = 0
    · have w1 := rightR hr h6 hl
      rw [if_pos hz, w1]
      refine ⟨gr E N l, l, rfl, hl, rfl, fun hg => ⟨by rw [han, List.drop_length, hz]; rfl, hg, fun t _ _ _ => by rw [han, List.drop_length]; trivial⟩, fun hg t ht _ => ?_⟩
      rw [ht.nil, han, List.take_length, List.append_nil, hg]; simp
    · rw [if_neg hz]
      refine ⟨false, l, rfl, hl, rfl, fun h => (by cases h), fun _ t ht e => ?_⟩
      rw [ht.nil] at e
      exact absurd e.symm hz
  | succ k ih =>
    intro a rest l d ha h0 h1 hl hd
    obtain ⟨d, rfl⟩ : ∃ e, d = e + 1 := ⟨d - 1, by omega⟩
    show ∃ b l', z32 (z2k d) (a : Int) rest _ E l _ = some (b, l') ∧ _
    unfold z32
    rw [if_neg (by omega), z2h (x := (E.length : Int) - (a : Int)) (by omega) (by omega)]
    simp only [Option.bind_some]
    rw [z2h (x := (E.length : Int) - (a : Int) - 1) (by omega) (by omega)]
    rw [z2h (x := 6 * ((E.length : Int) - (a : Int) - 1)) (by omega) (by omega)]
    rw [z2h (x := rest - 6 * ((E.length : Int) - (a : Int) - 1)) (by omega) (by omega)]
    have hk : (E.length : Int) - (a : Int) - 1 = k := by omega
    rw [hk]
    have hal : a < l.length := by rw [hl.1]; omega
    have hpl : (l.take a).length = a := by rw [List.length_take]; omega
    obtain ⟨r, r1, r2⟩ := z2m (F := z5d (z2k d) (a : Int) rest E (E.length : Int)) (fun x : List Int × Int => Box E.length x.1 ∧ x.1.take a = l.take a ∧ 0 ≤ x.2 ∧ x.2 ≤ 200 ∧ ∀ v : Int, 0 ≤ v → v < x.2 → v ≤ 6 → ∀ t, Box k t → v + tot t = rest → ¬ gr E N (l.take a ++ v :: t) = true) (fun x => (200 - x.2).toNat)
      (fun r => ∃ b l', r = (b, l') ∧ Box E.length l' ∧ l'.take a = l.take a ∧
        (b = true → tot (l'.drop a) = rest ∧ gr E N l' = true ∧ ∀ t, Box (k + 1) t → tot t = rest → gr E N (l.take a ++ t) = true → z45 (l'.drop a) t) ∧
        (b = false → ∀ t, Box (k + 1) t → tot t = rest → ¬ gr E N (l.take a ++ t) = true)) (fun x hp => by
      obtain ⟨l2, v⟩ := x
      obtain ⟨q2, q3, q4, q5, q6⟩ := hp
      simp only at q2 q3 q4 q5 q6
      unfold z5d
      simp only
      have hl2 := q2.1
      by_cases hv : v ≤ (if 6 < rest then 6 else rest)
      · have hv6 : v ≤ 6 ∧ v ≤ rest := by split at hv <;> omega
        rw [if_pos hv, if_pos ⟨by omega, by omega⟩, z2h (x := (a : Int) + 1) (by omega) (by omega)]
        simp only [Option.bind_some]
        rw [z2h (x := rest - v) (by omega) (by omega)]
        simp only [Option.bind_some, Int.toNat_natCast]
        have e1 : (a : Int) + 1 = ((a + 1 : Nat) : Int) := by omega
        rw [e1]
        obtain ⟨b, l', w1, w2, w4, w5, w6⟩ := ih (a + 1) (rest - v) (l2.set a v) d (by omega) (by omega) (by omega) (q2.set ⟨q4, hv6.1⟩) (by omega)
        rw [take_set_succ (by omega), q3] at w4 w5 w6
        obtain ⟨t1, t2⟩ := take_parts hpl (by rw [w2.1]; omega) w4
        rw [w1]
        simp only [Option.bind_some]
        cases b
        · simp only [Bool.false_eq_true, if_false]
          rw [z2h (x := v + 1) (by omega) (by omega)]
          refine .inl ⟨_, rfl, ⟨w2, t1, by simp only; omega, by simp only; omega, fun u u0 u1 u6 t ht e => ?_⟩, by simp only; omega⟩
          simp only at u1
          by_cases eu : u = v
          · subst eu
            have := w6 rfl t ht (by omega)
            simpa using this
          · exact q6 u u0 (by omega) u6 t ht e
        · simp only [if_true]
          obtain ⟨g1, g2, g4⟩ := w5 rfl
          refine .inr ⟨_, rfl, true, l', rfl, w2, t1, fun _ => ⟨by rw [t2]; simp only [tot]; omega, g2, fun t ht e hg => ?_⟩, fun h => by cases h⟩
          obtain ⟨u, t, rfl, hu, ht2⟩ := ht.succ
          simp only [tot] at e
          rw [t2]
          simp only [z45]
          rcases Int.lt_trichotomy v u with h | h | h
          · exact .inl h
          · subst h
            exact .inr ⟨rfl, g4 t ht2 (by omega) (by simpa using hg)⟩
          · exact absurd hg (q6 u hu.1 h hu.2 t ht2 (by omega))
      · rw [if_neg hv]
        refine .inr ⟨_, rfl, false, l2, rfl, q2, q3, fun h => (by cases h), fun _ t ht e => ?_⟩
        obtain ⟨u, t, rfl, hu, ht⟩ := ht.succ
        simp only [tot] at e
        have h3 := ht.tot0
        refine q6 u hu.1 ?_ hu.2 t ht e
        split at hv <;> omega) (l, if 0 < rest - 6 * (k : Int) then rest - 6 * (k : Int) else 0) ⟨hl, rfl, by simp only; split <;> omega, by simp only; split <;> omega, fun v v0 v1 v6 t ht e => by
        simp only at v1
        have h3 := ht.tot0
        split at v1 <;> omega⟩
    obtain ⟨b, l', rfl, h2⟩ := r2
    exact ⟨b, l', r1, h2⟩
theorem leastR_law {E : List (List Int)} {N : Nat} (hr : ∀ l ∈ E, l.length = N ∧ Bd 1000 l) (h6 : E.length ≤ 6) :
    ∃ r, za1 (E.length : Int) E = some r ∧ ((r.2 = true ∧ Best E.length (fun l => gr E N l = true) r.1) ∨ (r.2 = false ∧ ∀ t, Box E.length t → ¬ gr E N t = true)) := by
  unfold za1
  rw [if_pos ⟨by omega, by omega⟩, z2h (x := 6 * (E.length : Int)) (by omega) (by omega)]
  simp only [Option.bind_some]
  rw [z2h (by omega) (by omega)]
  simp only [Option.bind_some, Int.toNat_natCast]
  refine z2m (F := za0 (6 * (E.length : Int) + 1) (E.length : Int) E) (fun x : List Int × Int => Box E.length x.1 ∧ 0 ≤ x.2 ∧ x.2 ≤ 6 * (E.length : Int) + 1 ∧ ∀ t, Box E.length t → tot t < x.2 → ¬ gr E N t = true) (fun x => (6 * (E.length : Int) + 1 - x.2).toNat) _ (fun x hp => ?_) (List.replicate E.length 0, 0) ⟨⟨by simp, fun x hx => by simp at hx; omega⟩, by simp, by simp only; omega, fun t ht h => by have := ht.tot0; simp only at h; omega⟩
  obtain ⟨l, s⟩ := x
  obtain ⟨p2, p3, p4, p5⟩ := hp
  simp only at p2 p3 p4 p5
  unfold za0
  simp only
  by_cases hs : s < 6 * (E.length : Int) + 1
  · obtain ⟨b, l', w1, w2, w4, w5, w6⟩ := fillR_law hr h6 E.length 0 s l (E.length + 1) (by omega) p3 (by omega) p2 (by omega)
    have w7 : weight_least_1_s4 0 s (E.length : Int) E l (E.length : Int) = some (b, l') := Ev_at (fun n => fillR_mono n _ _ _ _ _ _) w1
    rw [if_pos hs, w7]
    simp only [Option.bind_some, List.drop_zero, List.take_zero, List.nil_append] at w5 w6 ⊢
    cases b
    · refine .inl ⟨_, rfl, ⟨w2, by simp only; omega, by simp only; omega, fun t ht h => ?_⟩, by simp only; omega⟩
      simp only at h
      by_cases e : tot t = s
      · exact w6 rfl t ht e
      · exact p5 t ht (by omega)
    · obtain ⟨g1, g2, g4⟩ := w5 rfl
      refine .inr ⟨_, rfl, .inl ⟨rfl, ⟨w2, g2, fun t ht hg => ?_⟩⟩⟩
      by_cases e : tot t = s
      · exact .inr ⟨by rw [g1, e], g4 t ht e hg⟩
      · left
        simp only
        rw [g1]
        by_cases h : tot t < s
        · exact absurd hg (p5 t ht h)
        · omega
  · rw [if_neg hs]
    refine .inr ⟨_, rfl, .inr ⟨rfl, fun t ht => p5 t ht ?_⟩⟩
    have := ht.tot0
    omega
theorem refbestR_law {E : List (List Int)} {N : Nat} (hr : ∀ l ∈ E, l.length = N ∧ Bd 1000 l) (h6 : E.length ≤ 6) (h0 : 0 < E.length) :
    ∃ r, z2n (z5z (E, 0)) (List.replicate E.length 0, [], false, true) = some r ∧
      ((r.2 = 0 ∧ Best E.length (fun l => gr E N l = true) r.1) ∨ (r = ([], 10) ∧ ∀ t, Box E.length t → ¬ gr E N t = true)) := by
  have hE : ∃ n, E.length = n := ⟨_, rfl⟩
  obtain ⟨n, hn⟩ := hE
  rw [hn]
  refine z2m (F := z5z (E, 0))
    (fun x : List Int × List Int × Bool × Bool => (x.2.2.1 = true → Box n x.2.1 ∧ gr E N x.2.1 = true) ∧ (x.2.2.2 = true → Box n x.1 ∧ (x.2.2.1 = true → z4t x.2.1 x.1) ∧ ∀ t, Box n t → z4t t x.1 → Seen n (gr E N) x.2.1 x.2.2.1 t) ∧ (x.2.2.2 = false → ∀ t, Box n t → Seen n (gr E N) x.2.1 x.2.2.1 t))
    (fun x => if x.2.2.2 = true then 7 ^ n - code x.1 + 1 else 0) _ (fun x hp => ?_) _ ⟨fun h => (by cases h), fun _ => ⟨⟨by simp, fun x hx => by simp at hx; omega⟩, fun h => (by cases h), fun t ht hlt => ?_⟩, fun h => by cases h⟩
  rotate_left
  · exfalso
    have : ∀ (m : Nat) (t : List Int), Box m t → ¬ z4t t (List.replicate m 0) := by
      intro m
      induction m with
      | zero => intro t ht h; rw [ht.nil] at h; exact h
      | succ m ih =>
        intro t ht h
        obtain ⟨y, u, rfl, hy, hu⟩ := ht.succ
        rw [List.replicate_succ] at h
        simp only [z4t] at h
        rcases h with h | ⟨_, h⟩
        · omega
        · exact ih u hu h
    exact this n t ht hlt
  obtain ⟨w, b, f, m⟩ := x
  obtain ⟨p1, p2, p3⟩ := hp
  simp only at p1 p2 p3
  unfold z5z
  simp only
  cases m
  · -- the end
    have p4 := p3 rfl
    rw [if_neg (by simp)]
    cases f
    · rw [if_pos (by simp)]
      exact .inr ⟨_, rfl, .inr ⟨rfl, fun t ht hg => by have := ((p4 t ht).s hg).1; cases this⟩⟩
    · rw [if_neg (by simp)]
      obtain ⟨q1, q2⟩ := p1 rfl
      exact .inr ⟨(b, 0), rfl, .inl ⟨rfl, ⟨q1, q2, fun t ht hg => ((p4 t ht).s hg).2⟩⟩⟩
  · obtain ⟨hw, hbw, hs⟩ := p2 rfl
    have hlow := (refutes_law hr h6 h0 (hw.1.trans hn.symm) (fun x hx => by have := hw.2 x hx; omega)).2
    have hcl := code_lt hw
    obtain ⟨nb, w', n1, n2, n3⟩ := next_law hw (by omega)
    -- what happens behind the choice
    have go : ∀ (b' : List Int) (f' : Bool), (f' = true → Box n b' ∧ gr E N b' = true ∧ z45 b' w) → (∀ t, Box n t → z45 t w → Seen n (gr E N) b' f' t) →
        ∃ x', z6s (w, b, f, true) (b', f') = some (.inl x') ∧ ((x'.2.2.1 = true → Box n x'.2.1 ∧ gr E N x'.2.1 = true) ∧ (x'.2.2.2 = true → Box n x'.1 ∧ (x'.2.2.1 = true → z4t x'.2.1 x'.1) ∧ ∀ t, Box n t → z4t t x'.1 → Seen n (gr E N) x'.2.1 x'.2.2.1 t) ∧ (x'.2.2.2 = false → ∀ t, Box n t → Seen n (gr E N) x'.2.1 x'.2.2.1 t)) ∧ (if x'.2.2.2 = true then 7 ^ n - code x'.1 + 1 else 0) < 7 ^ n - code w + 1 := by
      intro b' f' h1 h2
      unfold z6s
      simp only
      rw [n1]
      refine ⟨(w', b', f', nb), rfl, ⟨fun h => ⟨(h1 h).1, (h1 h).2.1⟩, fun h => ?_, fun h t ht => ?_⟩, ?_⟩
      · simp only at h ⊢
        obtain ⟨m1, m2, m3⟩ := n2 h
        refine ⟨m1, fun hf => ?_, fun t ht hlt => h2 t ht ?_⟩
        · obtain ⟨k1, _, k3⟩ := h1 hf
          rcases k3.lt_or (k1.1.trans hw.1.symm) with e | k3
          · rw [e]; exact m2
          · exact k3.trans m2
        · rcases lex_total (a := w) (b := t) (hw.1.trans ht.1.symm) with h3 | h3
          · exact absurd (m3 t ht h3) (hlt.not_le (ht.1.trans m1.1.symm))
          · exact h3
      · exact h2 t ht (n3 h t ht)
      · simp only
        cases nb
        · simp
        · obtain ⟨m1, m2, _⟩ := n2 rfl
          have hc := m2.code hw m1
          have := code_lt m1
          simp only [if_true]
          omega
    have base := fun (t : List Int) (ht : Box n t) (hle : z45 t w) => seen_step (b := b) (f := f) (G := gr E N) hw (fun h => ⟨(p1 h).1, (p1 h).2, hbw h⟩) ht (hs t ht) hle
    have keep : ¬ ((f = false ∨ tot w < tot b) ∧ gr E N w = true) → ∃ x', z5c (w, b, f, true) () = some (.inl x') ∧ ((x'.2.2.1 = true → Box n x'.2.1 ∧ gr E N x'.2.1 = true) ∧ (x'.2.2.2 = true → Box n x'.1 ∧ (x'.2.2.1 = true → z4t x'.2.1 x'.1) ∧ ∀ t, Box n t → z4t t x'.1 → Seen n (gr E N) x'.2.1 x'.2.2.1 t) ∧ (x'.2.2.2 = false → ∀ t, Box n t → Seen n (gr E N) x'.2.1 x'.2.2.1 t)) ∧ (if x'.2.2.2 = true then 7 ^ n - code x'.1 + 1 else 0) < 7 ^ n - code w + 1 := fun hc => by
      unfold z5c
      exact go b f (fun h => ⟨(p1 h).1, (p1 h).2, (hbw h).le⟩) fun t ht hle => (base t ht hle).1 hc
    have take : (f = false ∨ tot w < tot b) ∧ gr E N w = true → ∃ x', z6t (w, b, f, true) () = some (.inl x') ∧ ((x'.2.2.1 = true → Box n x'.2.1 ∧ gr E N x'.2.1 = true) ∧ (x'.2.2.2 = true → Box n x'.1 ∧ (x'.2.2.1 = true → z4t x'.2.1 x'.1) ∧ ∀ t, Box n t → z4t t x'.1 → Seen n (gr E N) x'.2.1 x'.2.2.1 t) ∧ (x'.2.2.2 = false → ∀ t, Box n t → Seen n (gr E N) x'.2.1 x'.2.2.1 t)) ∧ (if x'.2.2.2 = true then 7 ^ n - code x'.1 + 1 else 0) < 7 ^ n - code w + 1 := fun hc => by
      unfold z6t
      have := hw.1
      rw [if_pos (by simp only; omega)]
      exact go w true (fun _ => ⟨hw, hc.2, z45.refl _⟩) fun t ht hle => (base t ht hle).2 hc
    left
    simp only [if_true]
    cases f
    · simp only [Bool.not_false, if_true]
      rw [hlow]
      simp only [Option.bind_some]
      cases hg : gr E N w
      · simp only [Bool.false_eq_true, if_false]; exact keep fun h => by rw [h.2] at hg; cases hg
      · simp only [if_true]; exact take ⟨.inl rfl, hg⟩
    · have hbb := (p1 rfl).1
      simp only [Bool.not_true, Bool.false_eq_true, if_false]
      rw [total_law (by have := hw.1; omega) hw.bd, total_law (by have := hbb.1; omega) hbb.bd]
      simp only [Option.bind_some]
      by_cases ht : tot w < tot b
      · rw [if_pos ht, hlow]
        simp only [Option.bind_some]
        cases hg : gr E N w
        · simp only [Bool.false_eq_true, if_false]; exact keep fun h => by rw [h.2] at hg; cases hg
        · simp only [if_true]; exact take ⟨.inr ht, hg⟩
      · rw [if_neg ht]
        exact keep fun h => h.1.elim (fun h => by cases h) ht
theorem rep_none {E : List (List Int)} {N : Nat} (h0 : E.length = 0) : ∀ t, Box E.length t → ¬ gr E N t = true := fun t ht h => by
  rw [h0] at ht
  rw [ht.nil] at h
  exact (gr_iff.1 h).1 rfl
theorem refute_law {T : z06} (hf : FewT T) {rules : List z0z} (hr : ∀ r ∈ rules, FewR r) : ∃ r, za4 T rules = some r ∧ ref39_Refute T rules = some r ∧
    (r.2 = 0 → ∃ E N, EffsOk T rules E N ∧ z3b T rules = some (E, tch E N, 0) ∧ Box E.length r.1 ∧ gr E N r.1 = true) := by
  unfold za4 ref39_Refute
  rcases effects_law hf hr with ⟨c, h1, h2, h3⟩ | ⟨E, N, hE, h2, h3⟩
  · rw [h2, h3]
    simp only [Option.bind_some, if_pos h1]
    exact ⟨([], c), rfl, rfl, fun e => absurd e h1⟩
  rw [h2, h3]
  simp only [Option.bind_some, not_true_eq_false, if_false]
  have h6 := hE.six; have hlen := hE.len
  rw [← hlen, if_pos ⟨by omega, by omega⟩]
  simp only [Int.toNat_natCast]
  obtain ⟨r, r1, r2⟩ := leastR_law hE.row h6
  rw [r1]
  have hs : ∃ s, z2n (z5z (E, 0)) (List.replicate E.length 0, [], false, decide (0 < (E.length : Int))) = some s ∧ ((s.2 = 0 ∧ Best E.length (fun l => gr E N l = true) s.1) ∨ (s = ([], 10) ∧ ∀ t, Box E.length t → ¬ gr E N t = true)) := by
    by_cases h0 : 0 < E.length
    · rw [show decide (0 < (E.length : Int)) = true from decide_eq_true (by omega)]
      exact refbestR_law hE.row h6 h0
    · rw [show decide (0 < (E.length : Int)) = false from decide_eq_false (by omega)]
      refine ⟨([], 10), z7u ?_, .inr ⟨rfl, rep_none (by omega)⟩⟩
      unfold z5z
      simp
  obtain ⟨s, s1, s2⟩ := hs
  rw [s1]
  simp only [Option.bind_some]
  rcases r2 with ⟨a1, a2⟩ | ⟨a1, a2⟩
  · rw [a1]
    have := a2.1.1
    simp only [Bool.not_true, Bool.false_eq_true, if_false]
    rw [cloneI (by omega)]
    refine ⟨(r.1, 0), rfl, ?_, fun _ => ⟨E, N, hE, rfl, a2.1, a2.2.1⟩⟩
    rcases s2 with ⟨b1, b2⟩ | ⟨_, b2⟩
    · rw [a2.uniq b2, ← b1]
    · exact absurd a2.2.1 (b2 _ a2.1)
  · rw [a1]
    refine ⟨([], 10), rfl, ?_, fun h => by cases h⟩
    rcases s2 with ⟨b1, b2⟩ | ⟨b1, _⟩
    · exact absurd b2.2.1 (a2 _ b2.1)
    · rw [b1]
theorem exclude {E : List (List Int)} {N : Nat} {l t : List Int} (hl : l.length = E.length) (hl0 : ∀ x ∈ l, 0 ≤ x) (h : gr E N l = true) (ht : Box (tch E N).length t) : ¬ good E N t = true := fun hg => by
  obtain ⟨h1, h2⟩ := gr_iff.1 h
  obtain ⟨t1, t2⟩ := tot_zero hl0
  have pos : 0 ≤ z67 (fun i => nth t i * z67 (fun k => nth l k * nth (nth E k) (nth (tch E N) i)) E.length) (tch E N).length := by
    have := sumN_le (f := fun _ => 0) (g := fun i => nth t i * z67 (fun k => nth l k * nth (nth E k) (nth (tch E N) i)) E.length) (tch E N).length fun i i0 i1 => by
      obtain ⟨j0, j1, _⟩ := tch_mem (z2c i0 i1)
      exact Int.mul_nonneg (ht.2 _ (z2c i0 (by have := ht.1; omega))).1 (h2 _ j0 j1)
    rw [sumN_zero] at this
    exact this
  have e1 : z67 (fun i => nth t i * z67 (fun k => nth l k * nth (nth E k) (nth (tch E N) i)) E.length) (tch E N).length = z67 (fun k => nth l k * z67 (fun i => nth (nth E k) (nth (tch E N) i) * nth t i) (tch E N).length) E.length := by
    have a1 : z67 (fun i => nth t i * z67 (fun k => nth l k * nth (nth E k) (nth (tch E N) i)) E.length) (tch E N).length = z67 (fun i => z67 (fun k => nth t i * (nth l k * nth (nth E k) (nth (tch E N) i))) E.length) (tch E N).length :=
      sumN_congr _ fun i _ _ => (sumN_mul _).symm
    rw [a1, sumN_swap]
    refine sumN_congr _ fun k _ _ => ?_
    rw [← sumN_mul]
    exact sumN_congr _ fun i _ _ => by rw [Int.mul_left_comm, Int.mul_comm (nth t i)]
  have neg : z67 (fun k => nth l k * z67 (fun i => nth (nth E k) (nth (tch E N) i) * nth t i) (tch E N).length) E.length ≤ z67 (fun k => (-1) * nth l k) E.length := sumN_le _ fun k k0 k1 => by
    have g := List.all_eq_true.1 hg _ (z2c k0 k1)
    have g2 : z67 (fun i => nth (nth E k) (nth (tch E N) i) * nth t i) (tch E N).length ≤ -1 := by simpa using g
    have g3 := hl0 _ (z2c (xs := l) k0 (by omega))
    have := Int.mul_le_mul_of_nonneg_left g2 g3
    omega
  rw [sumN_mul, ← hl, ← tot_sum l l.length (Nat.le_refl _), List.take_length, hl] at neg
  omega
theorem checkR_law {T : z06} {rules : List z0z} {E : List (List Int)} {N : Nat} (hE : EffsOk T rules E N) (he : z3b T rules = some (E, tch E N, 0)) {l : List Int} (hl : l.length = E.length) (h0 : 0 < E.length) (hb : ∀ x ∈ l, 0 ≤ x ∧ x ≤ 1000) : z79 T rules l = some (gr E N l) := by
  have hlen := hE.len
  unfold z79
  rw [he]
  simp only [Option.bind_some, if_true]
  rw [natural_yes (by omega) hb]
  simp only [Option.bind_some, if_true]
  rw [if_pos (by omega), (refutes_law hE.row hE.six h0 hl hb).1]
  rfl
theorem gr_pos {E : List (List Int)} {N : Nat} {l : List Int} (h : gr E N l = true) (hl : l.length = E.length) : 0 < E.length := by
  by_cases h0 : 0 < E.length
  · exact h0
  · have : l = [] := List.eq_nil_of_length_eq_zero (by omega)
    subst this
    exact absurd rfl (gr_iff.1 h).1
theorem weightRefute_law' (ha : z9i = some true) {T : z06} (hT : LenT T) {rules : List z0z} (hr : ∀ r ∈ rules, LenR r) : z7c T rules = some true := by
  unfold z7c
  rw [ha]
  obtain ⟨b, b1, b2⟩ := small_law hT hr
  simp only [Option.bind_some, Bool.not_true, Bool.false_eq_true, if_false]
  rw [b1]
  cases b
  · rfl
  obtain ⟨hf, _, hr2⟩ := b2 rfl
  obtain ⟨r, r1, r2, r3⟩ := refute_law hf hr2
  simp only [Option.bind_some, Bool.not_true, Bool.false_eq_true, if_false]
  rw [r1, r2]
  simp only [Option.bind_some]
  rw [equalI]
  simp only [Option.bind_some, Bool.not_true, Bool.false_eq_true, if_false, not_true_eq_false]
  by_cases h0 : r.2 = 0
  · rw [if_neg (not_not_intro h0)]
    obtain ⟨E, N, hE, he, hl, hg⟩ := r3 h0
    obtain ⟨f, f1, _, _, f4⟩ := find_law hf hr2
    rw [f1, checkR_law hE he hl.1 (gr_pos hg hl.1) (fun x hx => by have := hl.2 x hx; omega), hg]
    have := f4 E N hE he fun t ht => exclude hl.1 (fun x hx => (hl.2 x hx).1) hg ht
    simp [this]
  · rw [if_pos h0]
    unfold z44
    rw [equalI]; simp
end Go.Proofs.YtngimdmkomkeoaaGreat.K
