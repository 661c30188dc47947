import Derived.Test.YtngimdmkomkeoaaGreatLawN
set_option linter.unusedVariables false
set_option linter.unusedSimpArgs false
namespace Go.Proofs.YtngimdmkomkeoaaGreat.K
open Go.RowKit Go.Proofs
def GR (E : List (List Int)) (N : Nat) (l : List Int) : Prop := ¬ tot l = 0 ∧ ∀ j : Int, 0 ≤ j → j < (N : Int) → 0 ≤ cR (fun k => nth l k * nth (nth E k) j) E.length
noncomputable def gr (E : List (List Int)) (N : Nat) (l : List Int) : Bool := @decide (GR E N l) (Classical.propDecidable _)
theorem rL {E : List (List Int)} {N : Nat} {l : List Int} : gr E N l = true ↔ GR E N l := by
  unfold gr
  exact @decide_eq_true_iff _ (Classical.propDecidable _)
theorem vu {E : List (List Int)} {N : Nat} {l : List Int} {b : Bool} (h : b = true ↔ GR E N l) : b = gr E N l := by
  have h2 := rL (E := E) (N := N) (l := l)
  cases b <;> cases hg : gr E N l
  · rfl
  · rw [hg] at h2; have := h.2 (h2.1 rfl); cases this
  · rw [hg] at h2; have := h2.2 (h.1 rfl); cases this
  · rfl
theorem st : ∀ {l : List Int}, (∀ x ∈ l, 0 ≤ x) → 0 ≤ tot l ∧ (tot l = 0 ↔ ∀ x ∈ l, x = 0)
  | [], _ => by simp [tot]
  | x :: xs, h => by
    have h1 := st (l := xs) fun y hy => h y (by simp [hy])
    have h2 := h x (by simp)
    simp only [tot]
    refine ⟨by omega, fun e y hy => ?_, fun e => ?_⟩
    · rcases List.mem_cons.1 hy with r | hy
      · omega
      · exact h1.2.1 (by omega) y hy
    · have h3 := e x (by simp)
      have h4 := h1.2.2 fun y hy => e y (by simp [hy])
      omega
theorem GS {l : List Int} (hl : l.length ≤ 100) (hb : ∀ x ∈ l, 0 ≤ x) : ∃ m, u5 ([0] ++ l) = some m ∧ (m = 0 ↔ tot l = 0) := by
  unfold u5
  rw [if_neg (by simp; omega), if_pos ⟨by omega, by simp⟩]
  have n0 : nth ([0] ++ l) 0 = 0 := rfl
  rw [n0]
  refine (cl (F := yM ([0] ++ l)) (fun x : Int × Int => 1 ≤ x.2 ∧ x.2 ≤ (l.length : Int) + 1 ∧ 0 ≤ x.1 ∧ (x.1 = 0 ↔ ∀ k : Int, 0 ≤ k → k < x.2 - 1 → nth l k = 0)) (fun x => ((l.length : Int) + 1 - x.2).toNat) (fun m => m = 0 ↔ tot l = 0) (fun x hp => ?_) (0, 1) ⟨by simp, by simp; omega, by simp, by simp; intro k a b; omega⟩)
  obtain ⟨m, i⟩ := x
  obtain ⟨p1, p2, p3, p4⟩ := hp
  simp only at p1 p2 p3 p4
  unfold yM
  simp only
  have hlen : (([0] ++ l).length : Int) = (l.length : Int) + 1 := by simp
  by_cases hi : i < (l.length : Int) + 1
  · have hn : nth ([0] ++ l) i = nth l (i - 1) := by
      have := J2 (xs := [0]) (ys := l) (i := i - 1) (by omega) (by omega)
      rw [← this]; congr 1; simp; omega
    have hv := hb _ (cu (xs := l) (i := i - 1) (by omega) (by omega))
    rw [if_pos (by omega), if_pos ⟨by omega, by omega⟩, hn]
    refine .inl ⟨_, rfl, ⟨by simp only; omega, by simp only; omega, by simp only; split <;> omega, ?_⟩, by simp only; omega⟩
    simp only
    constructor
    · intro e k k0 k1
      by_cases ek : k = i - 1
      · subst ek; split at e <;> omega
      · exact p4.1 (by split at e <;> omega) k k0 (by omega)
    · intro h
      have h1 := h (i - 1) (by omega) (by omega)
      have h2 := p4.2 fun k k0 k1 => h k k0 (by omega)
      split <;> omega
  · rw [if_neg (by omega)]
    refine .inr ⟨_, rfl, ?_⟩
    rw [p4, (st hb).2]
    constructor
    · intro h x hx
      obtain ⟨k, k0, k1, rfl⟩ := eo hx
      exact h k k0 (by omega)
    · intro h k k0 k1
      exact h _ (cu k0 (by omega))
theorem JD {E : List (List Int)} {N : Nat} (hr : ∀ l ∈ E, l.length = N ∧ Bd 1000 l) (h6 : E.length ≤ 6) {l : List Int} (hl : l.length = E.length) (hb : ∀ x ∈ l, 0 ≤ x ∧ x ≤ 1000) {j : Int} (j0 : 0 ≤ j) (j1 : j < (N : Int)) :
    aE (uR E l j) (0, 0) = some (if cR (fun k => nth l k * nth (nth E k) j) E.length < 0 then .inr false else .inl (j + 1)) ∧ aE (uK l E j) (0, 0) = some (if cR (fun k => nth l k * nth (nth E k) j) E.length < 0 then .inr false else .inl (j + 1)) := by
  have hbd : ∀ k : Int, 0 ≤ k → k < (E.length : Int) → -1000000 ≤ nth l k * nth (nth E k) j ∧ nth l k * nth (nth E k) j ≤ 1000000 := fun k k0 k1 => by
    have h1 := hb _ (cu (xs := l) k0 (by omega))
    obtain ⟨h2, h3⟩ := hr _ (cu k0 k1)
    exact AP (A := 1000) (B := 1000) (by omega) (by omega) (by omega) (h3.nth j0 (by omega))
  obtain ⟨r, r1, r2, r3⟩ := eD (F := uR E l j) (G := uK l E j) (fun x : Int × Int => 0 ≤ x.2 ∧ x.2 ≤ (E.length : Int) ∧ x.1 = cR (fun k => nth l k * nth (nth E k) j) x.2.toNat) (fun x => ((E.length : Int) - x.2).toNat) (fun r => r = if cR (fun k => nth l k * nth (nth E k) j) E.length < 0 then .inr false else .inl (j + 1)) (fun x hp => by
    obtain ⟨s, i⟩ := x
    obtain ⟨p1, p2, p3⟩ := hp
    simp only at p1 p2 p3
    obtain ⟨i, rfl⟩ := Int.eq_ofNat_of_zero_le p1
    simp only [Int.toNat_natCast] at p3
    unfold uR uK
    simp only
    by_cases hi : (i : Int) < (E.length : Int)
    · have h1 := hbd i p1 hi
      have h2 := s8 (f := fun k => nth l k * nth (nth E k) j) (B := 1000000) i (fun k a b => hbd k a (by omega))
      have h3 := (hr _ (cu p1 hi)).1
      simp only [if_pos hi, if_pos (show (i : Int) < (l.length : Int) by omega), if_pos (show 0 ≤ (i : Int) ∧ (i : Int) < (l.length : Int) from ⟨p1, by omega⟩), if_pos (show 0 ≤ (i : Int) ∧ (i : Int) < (E.length : Int) from ⟨p1, hi⟩), if_pos (show 0 ≤ j ∧ j < ((nth E (i : Int)).length : Int) from ⟨j0, by omega⟩)]
      rw [bL (by omega) (by omega)]
      simp only [Option.bind_some]
      rw [bL (by rw [p3]; omega) (by rw [p3]; omega)]
      refine .inl ⟨_, rfl, rfl, ⟨by simp only; omega, by simp only; omega, ?_⟩, by simp only; omega⟩
      have e : ((i : Int) + 1).toNat = i + 1 := by omega
      simp only [e, cR, p3]
    · have hi2 : ¬ (i : Int) < (l.length : Int) := by omega
      simp only [if_neg hi, if_neg hi2]
      have : i = E.length := by omega
      subst this
      rw [← p3]
      by_cases hs : s < 0
      · simp only [if_pos hs]; exact .inr ⟨_, rfl, rfl, rfl⟩
      · simp only [if_neg hs]; exact .inr ⟨_, rfl, rfl, rfl⟩) (0, 0) ⟨by simp, by simp, by simp [cR]⟩
  rw [r1, r2, r3]
  exact ⟨rfl, rfl⟩
theorem CQ {E : List (List Int)} {N : Nat} (hr : ∀ l ∈ E, l.length = N ∧ Bd 1000 l) (h6 : E.length ≤ 6) (h0 : 0 < E.length) {l : List Int} (hl : l.length = E.length) (hb : ∀ x ∈ l, 0 ≤ x ∧ x ≤ 1000) :
    qi E l = some (gr E N l) ∧ Dm l E = some (gr E N l) := by
  have hN : ((nth E 0).length : Int) = (N : Int) := by rw [(hr _ (cu (by omega) (by omega))).1]
  obtain ⟨m, m1, m2⟩ := GS (l := l) (by omega) (fun x hx => (hb x hx).1)
  have t1 := Ju (l := l) (by omega) (fun x hx => by have := hb x hx; omega)
  have inner : ∃ b, aE (uN E l) 0 = some b ∧ aE (uC l E) 0 = some b ∧ (b = true ↔ ∀ j : Int, 0 ≤ j → j < (N : Int) → 0 ≤ cR (fun k => nth l k * nth (nth E k) j) E.length) := by
    refine eD (F := uN E l) (G := uC l E) (fun x : Int => 0 ≤ x ∧ x ≤ (N : Int) ∧ ∀ j : Int, 0 ≤ j → j < x → 0 ≤ cR (fun k => nth l k * nth (nth E k) j) E.length) (fun x => ((N : Int) - x).toNat) _ (fun x hp => ?_) 0 ⟨by omega, by omega, fun j a b => by omega⟩
    obtain ⟨p1, p2, p3⟩ := hp
    unfold uN uC
    rw [if_pos (show 0 ≤ (0 : Int) ∧ (0 : Int) < (E.length : Int) from ⟨by omega, by omega⟩), hN]
    by_cases hx : x < (N : Int)
    · obtain ⟨c1, c2⟩ := JD hr h6 hl hb p1 hx
      simp only [if_pos hx]
      rw [c1, c2]
      by_cases hs : cR (fun k => nth l k * nth (nth E k) x) E.length < 0
      · simp only [if_pos hs]
        refine .inr ⟨false, rfl, rfl, by simp only [Bool.false_eq_true, false_iff]; intro h; have := h x p1 hx; omega⟩
      · simp only [if_neg hs]
        refine .inl ⟨x + 1, rfl, rfl, ⟨by omega, by omega, fun j j0 j1 => ?_⟩, by omega⟩
        by_cases e : j = x
        · subst e; omega
        · exact p3 j j0 (by omega)
    · simp only [if_neg hx]
      exact .inr ⟨true, rfl, rfl, by simp only [true_iff]; exact fun j a b => p3 j a (by omega)⟩
  obtain ⟨b, b1, b2, b3⟩ := inner
  unfold qi Dm
  rw [if_pos (by simp; omega), m1, t1]
  simp only [Option.bind_some]
  by_cases hz : tot l = 0
  · have : gr E N l = false := (vu (b := false) (by simp only [Bool.false_eq_true, false_iff]; exact fun h => h.1 hz)).symm
    rw [if_pos (m2.2 hz), if_pos hz, this]; exact ⟨rfl, rfl⟩
  · have : b = gr E N l := vu (by rw [b3]; exact ⟨fun h => ⟨hz, h⟩, fun h => h.2⟩)
    rw [if_neg (fun h => hz (m2.1 h)), if_neg hz, if_pos ⟨by omega, by omega⟩, b1, b2, this]; exact ⟨rfl, rfl⟩
theorem Gx {E : List (List Int)} {N : Nat} (hr : ∀ l ∈ E, l.length = N ∧ Bd 1000 l) (h6 : E.length ≤ 6) {l : List Int} (hl : cN E.length l) : uQ l E = some (gr E N l, l) := by
  unfold uQ
  have := hl.1
  by_cases h0 : 0 < (l.length : Int)
  · rw [if_pos h0, (CQ hr h6 (by omega) hl.1 (fun x hx => by have := hl.2 x hx; omega)).1]; rfl
  · have e : l = [] := List.eq_nil_of_length_eq_zero (by omega)
    subst e
    have : gr E N [] = false := (vu (b := false) (by simp only [Bool.false_eq_true, false_iff]; exact fun h => h.1 rfl)).symm
    rw [if_neg h0, this]
theorem JF : ∀ d a r n E l m, bS (iG d a r n E l m) (iG (d + 1) a r n E l m) := by
  intro d
  induction d with
  | zero => intros; exact bS.none _
  | succ d ih =>
    intro a r n E l m
    show bS (jW (iG d) a r n E l m) (jW (iG (d + 1)) a r n E l m)
    unfold jW vf
    repeat' first | with_reducible exact bS.refl _ | exact ih _ _ _ _ _ _ | refine bS.ite ?_ ?_ | refine bS.bind ?_ (fun _ => ?_) | refine bS.iter (fun _ => ?_) _
theorem IU {E : List (List Int)} {N : Nat} (hr : ∀ l ∈ E, l.length = N ∧ Bd 1000 l) (h6 : E.length ≤ 6) : ∀ (k : Nat) (a : Nat) (rest : Int) (l : List Int) (d : Nat), a + k = E.length → 0 ≤ rest → rest ≤ 100 → cN E.length l → k < d →
    ∃ b l', iG d (a : Int) rest (E.length : Int) E l (E.length : Int) = some (b, l') ∧ cN E.length l' ∧ l'.take a = l.take a ∧
      (b = true → tot (l'.drop a) = rest ∧ gr E N l' = true ∧ ∀ t, cN k t → tot t = rest → gr E N (l.take a ++ t) = true → dN (l'.drop a) t) ∧
      (b = false → ∀ t, cN k t → tot t = rest → ¬ gr E N (l.take a ++ t) = true) := by
  intro k
  induction k with
  | zero =>
    intro a rest l d ha h0 h1 hl hd
    obtain ⟨d, rfl⟩ : ∃ e, d = e + 1 := ⟨d - 1, by omega⟩
    have han : a = l.length := by rw [hl.1]; omega
    show ∃ b l', jW (iG d) (a : Int) rest _ E l _ = some (b, l') ∧ _
    unfold jW
    rw [if_pos (by omega)]
    by_cases hz : rest = 0
    · have w1 := Gx hr h6 hl
      rw [if_pos hz, w1]
      refine ⟨gr E N l, l, rfl, hl, rfl, fun hg => ⟨by rw [han, List.drop_length, hz]; rfl, hg, fun t _ _ _ => by rw [han, List.drop_length]; trivial⟩, fun hg t ht _ => ?_⟩
      rw [ht.nil, han, List.take_length, List.append_nil, hg]; simp
    · rw [if_neg hz]
      refine ⟨false, l, rfl, hl, rfl, fun h => (by cases h), fun _ t ht e => ?_⟩
      rw [ht.nil] at e
      exact absurd e.symm hz
  | succ k ih =>
    intro a rest l d ha h0 h1 hl hd
    obtain ⟨d, rfl⟩ : ∃ e, d = e + 1 := ⟨d - 1, by omega⟩
    show ∃ b l', jW (iG d) (a : Int) rest _ E l _ = some (b, l') ∧ _
    unfold jW
    rw [if_neg (by omega), bL (x := (E.length : Int) - (a : Int)) (by omega) (by omega)]
    simp only [Option.bind_some]
    rw [bL (x := (E.length : Int) - (a : Int) - 1) (by omega) (by omega)]
    rw [bL (x := 6 * ((E.length : Int) - (a : Int) - 1)) (by omega) (by omega)]
    rw [bL (x := rest - 6 * ((E.length : Int) - (a : Int) - 1)) (by omega) (by omega)]
    have hk : (E.length : Int) - (a : Int) - 1 = k := by omega
    rw [hk]
    have hal : a < l.length := by rw [hl.1]; omega
    have hpl : (l.take a).length = a := by rw [List.length_take]; omega
    obtain ⟨r, r1, r2⟩ := cl (F := vf (iG d) (a : Int) rest E (E.length : Int)) (fun x : List Int × Int => cN E.length x.1 ∧ x.1.take a = l.take a ∧ 0 ≤ x.2 ∧ x.2 ≤ 200 ∧ ∀ v : Int, 0 ≤ v → v < x.2 → v ≤ 6 → ∀ t, cN k t → v + tot t = rest → ¬ gr E N (l.take a ++ v :: t) = true) (fun x => (200 - x.2).toNat)
      (fun r => ∃ b l', r = (b, l') ∧ cN E.length l' ∧ l'.take a = l.take a ∧
        (b = true → tot (l'.drop a) = rest ∧ gr E N l' = true ∧ ∀ t, cN (k + 1) t → tot t = rest → gr E N (l.take a ++ t) = true → dN (l'.drop a) t) ∧
        (b = false → ∀ t, cN (k + 1) t → tot t = rest → ¬ gr E N (l.take a ++ t) = true)) (fun x hp => by
      obtain ⟨l2, v⟩ := x
      obtain ⟨q2, q3, q4, q5, q6⟩ := hp
      simp only at q2 q3 q4 q5 q6
      unfold vf
      simp only
      have hl2 := q2.1
      by_cases hv : v ≤ (if 6 < rest then 6 else rest)
      · have hv6 : v ≤ 6 ∧ v ≤ rest := by split at hv <;> omega
        rw [if_pos hv, if_pos ⟨by omega, by omega⟩, bL (x := (a : Int) + 1) (by omega) (by omega)]
        simp only [Option.bind_some]
        rw [bL (x := rest - v) (by omega) (by omega)]
        simp only [Option.bind_some, Int.toNat_natCast]
        have e1 : (a : Int) + 1 = ((a + 1 : Nat) : Int) := by omega
        rw [e1]
        obtain ⟨b, l', w1, w2, w4, w5, w6⟩ := ih (a + 1) (rest - v) (l2.set a v) d (by omega) (by omega) (by omega) (q2.set ⟨q4, hv6.1⟩) (by omega)
        rw [Dn (by omega), q3] at w4 w5 w6
        obtain ⟨t1, t2⟩ := CI hpl (by rw [w2.1]; omega) w4
        rw [w1]
        simp only [Option.bind_some]
        cases b
        · simp only [Bool.false_eq_true, if_false]
          rw [bL (x := v + 1) (by omega) (by omega)]
          refine .inl ⟨_, rfl, ⟨w2, t1, by simp only; omega, by simp only; omega, fun u u0 u1 u6 t ht e => ?_⟩, by simp only; omega⟩
          simp only at u1
          by_cases eu : u = v
          · subst eu
            have := w6 rfl t ht (by omega)
            simpa using this
          · exact q6 u u0 (by omega) u6 t ht e
        · simp only [if_true]
          obtain ⟨g1, g2, g4⟩ := w5 rfl
          refine .inr ⟨_, rfl, true, l', rfl, w2, t1, fun _ => ⟨by rw [t2]; simp only [tot]; omega, g2, fun t ht e hg => ?_⟩, fun h => by cases h⟩
          obtain ⟨u, t, rfl, hu, ht2⟩ := ht.succ
          simp only [tot] at e
          rw [t2]
          simp only [dN]
          rcases Int.lt_trichotomy v u with h | h | h
          · exact .inl h
          · subst h
            exact .inr ⟨rfl, g4 t ht2 (by omega) (by simpa using hg)⟩
          · exact absurd hg (q6 u hu.1 h hu.2 t ht2 (by omega))
      · rw [if_neg hv]
        refine .inr ⟨_, rfl, false, l2, rfl, q2, q3, fun h => (by cases h), fun _ t ht e => ?_⟩
        obtain ⟨u, t, rfl, hu, ht⟩ := ht.succ
        simp only [tot] at e
        have h3 := ht.tot0
        refine q6 u hu.1 ?_ hu.2 t ht e
        split at hv <;> omega) (l, if 0 < rest - 6 * (k : Int) then rest - 6 * (k : Int) else 0) ⟨hl, rfl, by simp only; split <;> omega, by simp only; split <;> omega, fun v v0 v1 v6 t ht e => by
        simp only at v1
        have h3 := ht.tot0
        split at v1 <;> omega⟩
    obtain ⟨b, l', rfl, h2⟩ := r2
    exact ⟨b, l', r1, h2⟩
theorem JL {E : List (List Int)} {N : Nat} (hr : ∀ l ∈ E, l.length = N ∧ Bd 1000 l) (h6 : E.length ≤ 6) :
    ∃ r, ut (E.length : Int) E = some r ∧ ((r.2 = true ∧ lW E.length (fun l => gr E N l = true) r.1) ∨ (r.2 = false ∧ ∀ t, cN E.length t → ¬ gr E N t = true)) := by
  unfold ut
  rw [if_pos ⟨by omega, by omega⟩, bL (x := 6 * (E.length : Int)) (by omega) (by omega)]
  simp only [Option.bind_some]
  rw [bL (by omega) (by omega)]
  simp only [Option.bind_some, Int.toNat_natCast]
  refine cl (F := yU (6 * (E.length : Int) + 1) (E.length : Int) E) (fun x : List Int × Int => cN E.length x.1 ∧ 0 ≤ x.2 ∧ x.2 ≤ 6 * (E.length : Int) + 1 ∧ ∀ t, cN E.length t → tot t < x.2 → ¬ gr E N t = true) (fun x => (6 * (E.length : Int) + 1 - x.2).toNat) _ (fun x hp => ?_) (List.replicate E.length 0, 0) ⟨⟨by simp, fun x hx => by simp at hx; omega⟩, by simp, by simp only; omega, fun t ht h => by have := ht.tot0; simp only at h; omega⟩
  obtain ⟨l, s⟩ := x
  obtain ⟨p2, p3, p4, p5⟩ := hp
  simp only at p2 p3 p4 p5
  unfold yU
  simp only
  by_cases hs : s < 6 * (E.length : Int) + 1
  · obtain ⟨b, l', w1, w2, w4, w5, w6⟩ := IU hr h6 E.length 0 s l (E.length + 1) (by omega) p3 (by omega) p2 (by omega)
    have w7 : yP 0 s (E.length : Int) E l (E.length : Int) = some (b, l') := l6 (fun n => JF n _ _ _ _ _ _) w1
    rw [if_pos hs, w7]
    simp only [Option.bind_some, List.drop_zero, List.take_zero, List.nil_append] at w5 w6 ⊢
    cases b
    · refine .inl ⟨_, rfl, ⟨w2, by simp only; omega, by simp only; omega, fun t ht h => ?_⟩, by simp only; omega⟩
      simp only at h
      by_cases e : tot t = s
      · exact w6 rfl t ht e
      · exact p5 t ht (by omega)
    · obtain ⟨g1, g2, g4⟩ := w5 rfl
      refine .inr ⟨_, rfl, .inl ⟨rfl, ⟨w2, g2, fun t ht hg => ?_⟩⟩⟩
      by_cases e : tot t = s
      · exact .inr ⟨by rw [g1, e], g4 t ht e hg⟩
      · left
        simp only
        rw [g1]
        by_cases h : tot t < s
        · exact absurd hg (p5 t ht h)
        · omega
  · rw [if_neg hs]
    refine .inr ⟨_, rfl, .inr ⟨rfl, fun t ht => p5 t ht ?_⟩⟩
    have := ht.tot0
    omega
theorem JC {T : aq} {rules : List be} {E : List (List Int)} {N : Nat} (hE : fF T rules E N) (he : fS T rules = some (E, bv E N, 0)) {l : List Int} (hl : l.length = E.length) (h0 : 0 < E.length) (hb : ∀ x ∈ l, 0 ≤ x ∧ x ≤ 1000) : qH T rules l = some (gr E N l) := by
  have hlen := hE.len
  unfold qH
  rw [he]
  simp only [Option.bind_some, if_true]
  rw [CO (by omega) hb]
  simp only [Option.bind_some, if_true]
  rw [if_pos (by omega), (CQ hE.row hE.six h0 hl hb).1]
  rfl
theorem G4 {E : List (List Int)} {N : Nat} {l : List Int} (h : gr E N l = true) (hl : l.length = E.length) : 0 < E.length := by
  by_cases h0 : 0 < E.length
  · exact h0
  · have : l = [] := List.eq_nil_of_length_eq_zero (by omega)
    subst this
    exact absurd rfl (rL.1 h).1
end Go.Proofs.YtngimdmkomkeoaaGreat.K
