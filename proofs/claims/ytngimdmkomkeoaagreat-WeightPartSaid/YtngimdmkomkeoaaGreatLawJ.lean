import Derived.Test.YtngimdmkomkeoaaGreatLawE
import Derived.Test.YtngimdmkomkeoaaGreatLawF
set_option linter.unusedVariables false
set_option linter.unusedSimpArgs false
namespace Go.Proofs.YtngimdmkomkeoaaGreat.K
open Go.RowKit Go.Proofs
theorem Kw {a b : List Int} (hab : a.length ≤ b.length) (hl : a.length ≤ 100) (hb : ∀ i : Int, 0 ≤ i → i < (a.length : Int) → -1000000 ≤ nth a i * nth b i ∧ nth a i * nth b i ≤ 1000000) : ua a b = some (cR (fun i => nth a i * nth b i) a.length) := by
  unfold ua
  obtain ⟨r, r1, r2⟩ := cl (F := yQ a b) (fun x : Int × Int => 0 ≤ x.2 ∧ x.2 ≤ (a.length : Int) ∧ x.1 = cR (fun i => nth a i * nth b i) x.2.toNat) (fun x => ((a.length : Int) - x.2).toNat) (fun r => r = cR (fun i => nth a i * nth b i) a.length) (fun x hp => by
    obtain ⟨s, i⟩ := x
    obtain ⟨p1, p2, p3⟩ := hp
    simp only at p1 p2 p3
    obtain ⟨i, rfl⟩ := Int.eq_ofNat_of_zero_le p1
    simp only [Int.toNat_natCast] at p3
    unfold yQ
    simp only
    by_cases hi : (i : Int) < (a.length : Int)
    · have h1 := hb i p1 hi
      have h2 := s8 (f := fun i => nth a i * nth b i) (B := 1000000) i (fun j a b => hb j a (by omega))
      rw [if_pos hi, if_pos ⟨p1, hi⟩, if_pos ⟨p1, by omega⟩, bL (by omega) (by omega)]
      simp only [Option.bind_some]
      rw [bL (by rw [p3]; omega) (by rw [p3]; omega)]
      refine .inl ⟨_, rfl, ⟨by simp only; omega, by simp only; omega, ?_⟩, by simp only; omega⟩
      have e : ((i : Int) + 1).toNat = i + 1 := by omega
      simp only [e, cR, p3]
    · rw [if_neg hi]
      have : i = a.length := by omega
      subst this
      exact .inr ⟨_, rfl, p3⟩) (0, 0) ⟨by simp, by simp, by simp [cR]⟩
  rw [r1, r2]
def gR (E : List (List Int)) (w : List Int) : Bool := E.all fun l => decide (cR (fun i => nth l i * nth w i) l.length ≤ -1)
theorem CB {E : List (List Int)} {N : Nat} (hr : ∀ l ∈ E, l.length = N ∧ Bd 1000 l) (hN : N ≤ 32) {w : List Int} (hw : w.length = N) (hb : Bd 1000 w) : pQ E w = some (gR E w) := by
  unfold pQ
  rw [Cd, lx (q := fun l => !decide (cR (fun i => nth l i * nth w i) l.length ≤ -1)) E (fun l hl => by
    obtain ⟨h1, h2⟩ := hr l hl
    unfold uu
    rw [Kw (by omega) (by omega) (fun i i0 i1 => AP (A := 1000) (B := 1000) (by omega) (by omega) (h2.nth i0 i1) (hb.nth i0 (by omega)))]
    simp only [Option.bind_some]
    congr 1
    by_cases h : cR (fun i => nth l i * nth w i) l.length ≤ -1
    · simp only [h, decide_true, Bool.not_true, decide_eq_false_iff_not]; omega
    · simp only [h, decide_false, Bool.not_false, decide_eq_true_eq]; omega)]
  unfold gR
  simp only [Option.bind_some]
  congr 1
  rw [List.all_eq_not_any_not]
theorem wj {E : List (List Int)} : ∀ {n : Nat} {j : Int}, 0 ≤ j → j < (n : Int) → fT E j = true → j ∈ bv E n
  | 0, j, h0, h1, _ => by omega
  | n + 1, j, h0, h1, h => by
    simp only [bv]
    by_cases e : j = (n : Int)
    · subst e; rw [if_pos h]; simp
    · have := wj (E := E) (n := n) h0 (by omega) h
      split
      · exact List.mem_append_left _ this
      · exact this
structure OutOk (E : List (List Int)) (N : Nat) (o : List Int) : Prop where
  len : o.length = N
  z : ∀ j : Int, 0 ≤ j → j < (N : Int) → fT E j = false → nth o j = 0
structure Sp (E : List (List Int)) (N : Nat) (o l : List Int) : Prop extends OutOk E N o where
  at_ : ∀ i : Int, 0 ≤ i → i < ((bv E N).length : Int) → nth o (nth (bv E N) i) = nth l i
theorem Sp.uniq {E : List (List Int)} {N : Nat} {o o' l : List Int} (h : Sp E N o l) (h' : Sp E N o' l) : o = o' := by
  refine wz (by rw [h.len, h'.len]) fun j j0 j1 => ?_
  rw [h.len] at j1
  cases hh : fT E j
  · rw [h.z j j0 j1 hh, h'.z j j0 j1 hh]
  · obtain ⟨i, i0, i1, e⟩ := eo (wj j0 j1 hh)
    rw [← e, h.at_ i i0 i1, h'.at_ i i0 i1]
theorem Sp.bd {E : List (List Int)} {N : Nat} {o l : List Int} (h : Sp E N o l) (hl : l.length = (bv E N).length) {B : Int} (hb : ∀ x ∈ l, 0 ≤ x ∧ x ≤ B) (hB : 0 ≤ B) : ∀ x ∈ o, 0 ≤ x ∧ x ≤ B := fun x hx => by
  obtain ⟨j, j0, j1, rfl⟩ := eo hx
  rw [h.len] at j1
  cases hh : fT E j
  · rw [h.z j j0 j1 hh]; omega
  · obtain ⟨i, i0, i1, e⟩ := eo (wj j0 j1 hh)
    rw [← e, h.at_ i i0 i1]
    exact hb _ (cu i0 (by omega))
def fp (E : List (List Int)) (N : Nat) (l : List Int) : Bool := E.all fun e => decide (cR (fun i => nth e (nth (bv E N) i) * nth l i) (bv E N).length ≤ -1)
theorem HU {E : List (List Int)} {e : List Int} (he : e ∈ E) {j : Int} (h : fT E j = false) : nth e j = 0 := by
  unfold fT at h
  by_cases hz : nth e j = 0
  · exact hz
  · have : (E.any fun l => decide (¬ nth l j = 0)) = true := List.any_eq_true.2 ⟨e, he, by simpa using hz⟩
    rw [this] at h; cases h
theorem Jz {α : Type} {p q : α → Bool} {xs : List α} (h : ∀ x ∈ xs, p x = q x) : xs.all p = xs.all q := by
  induction xs with
  | nil => rfl
  | cons x xs ih => simp only [List.all_cons]; rw [h x (by simp), ih fun y hy => h y (by simp [hy])]
theorem BO {E : List (List Int)} {N : Nat} (hr : ∀ l ∈ E, l.length = N ∧ Bd 1000 l) {o l : List Int} (h : Sp E N o l) : gR E o = fp E N l := by
  unfold gR fp
  refine Jz fun e he => ?_
  have e1 : cR (fun i => nth e i * nth o i) e.length = cR (fun i => nth e (nth (bv E N) i) * nth l i) (bv E N).length := by
    rw [(hr e he).1, Bu N (fun j j0 j1 hh => by rw [HU he hh]; simp)]
    exact kM _ fun i a b => by rw [h.at_ i a b]
  rw [e1]
theorem IB {E : List (List Int)} {N : Nat} (hr : ∀ l ∈ E, l.length = N ∧ Bd 1000 l) (hN : N ≤ 32) {o l : List Int} (ho : OutOk E N o) (hl : l.length = (bv E N).length) (hb : ∀ x ∈ l, 0 ≤ x ∧ x ≤ 6) :
    ∃ o', uG l (bv E N) o E = some (fp E N l, l, o') ∧ Sp E N o' l := by
  unfold uG
  obtain ⟨r, r1, r2⟩ := cl (F := yY l (bv E N) E) (fun x : List Int × Int => 0 ≤ x.2 ∧ x.2 ≤ ((bv E N).length : Int) ∧ OutOk E N x.1 ∧ ∀ i : Int, 0 ≤ i → i < x.2 → nth x.1 (nth (bv E N) i) = nth l i) (fun x => (((bv E N).length : Int) - x.2).toNat) (fun r => ∃ o', r = (fp E N l, l, o') ∧ Sp E N o' l) (fun x hp => by
    obtain ⟨w, i⟩ := x
    obtain ⟨p1, p2, p3, p4⟩ := hp
    simp only at p1 p2 p3 p4
    unfold yY
    simp only
    by_cases hi : i < ((bv E N).length : Int)
    · obtain ⟨t0, t1, t2⟩ := oV (cu p1 hi)
      have hwl := p3.len
      rw [if_pos hi, if_pos ⟨p1, hi⟩, if_pos ⟨p1, by omega⟩, if_pos ⟨t0, by omega⟩]
      refine .inl ⟨_, rfl, ⟨by simp only; omega, by simp only; omega, ⟨by simp [hwl], fun j j0 j1 hh => ?_⟩, fun k k0 k1 => ?_⟩, by simp only; omega⟩
      · simp only
        have hne : j ≠ nth (bv E N) i := fun e => by rw [e, t2] at hh; cases hh
        rw [iZ t0 hne j0]
        exact p3.z j j0 j1 hh
      · simp only at k1 ⊢
        by_cases e : k = i
        · subst e; rw [jK t0 (by omega)]
        · have hk : k < ((bv E N).length : Int) := by omega
          obtain ⟨s0, s1, _⟩ := oV (cu k0 hk)
          have hne : nth (bv E N) k ≠ nth (bv E N) i := by
            have := wP.1 (wW E N)
            rcases Int.lt_trichotomy k i with h | h | h
            · exact (this i k k0 h hi).symm
            · exact absurd h e
            · exact this k i p1 h hk
          rw [iZ t0 hne s0]
          exact p4 k k0 (by omega)
    · rw [if_neg hi]
      have hs : Sp E N w l := ⟨p3, fun k k0 k1 => p4 k k0 (by omega)⟩
      have hbw := hs.bd hl hb (by omega)
      rw [CB hr hN p3.len (fun x hx => by have := hbw x hx; omega), BO hr hs]
      exact .inr ⟨_, rfl, w, rfl, hs⟩) (o, 0) ⟨by simp, by simp, ho, fun i a b => by simp at b; omega⟩
  obtain ⟨o', rfl, h⟩ := r2
  exact ⟨o', r1, h⟩
theorem Dn {l : List Int} {a : Nat} (h : a < l.length) (v : Int) : (l.set a v).take (a + 1) = l.take a ++ [v] := by
  rw [List.take_succ_eq_append_getElem (by simpa using h), List.take_set_of_le (Nat.le_refl _)]
  simp
theorem CI {l : List Int} {p : List Int} {a : Nat} {v : Int} (hp : p.length = a) (hl : a < l.length) (h : l.take (a + 1) = p ++ [v]) : l.take a = p ∧ l.drop a = v :: l.drop (a + 1) := by
  have h1 : l.take a = p := by
    have := congrArg (List.take a) h
    rw [List.take_take, Nat.min_eq_left (Nat.le_succ a)] at this
    rw [this, ← hp]; simp
  refine ⟨h1, ?_⟩
  rw [List.take_succ_eq_append_getElem hl, h1] at h
  have h2 := List.append_cancel_left h
  rw [List.drop_eq_getElem_cons hl]
  congr 1
  simpa using h2
theorem cN.set {n : Nat} {l : List Int} (h : cN n l) {a : Nat} {v : Int} (hv : 0 ≤ v ∧ v ≤ 6) : cN n (l.set a v) := ⟨by simp [h.1], fun x hx => by
  rcases List.mem_or_eq_of_mem_set hx with h1 | h1
  · exact h.2 x h1
  · rw [h1]; exact hv⟩
theorem IV : ∀ d a r n at_ o E l m, bS (iF d a r n at_ o E l m) (iF (d + 1) a r n at_ o E l m) := by
  intro d
  induction d with
  | zero => intros; exact bS.none _
  | succ d ih =>
    intro a r n at_ o E l m
    show bS (jV (iF d) a r n at_ o E l m) (jV (iF (d + 1)) a r n at_ o E l m)
    unfold jV ve
    repeat' first | with_reducible exact bS.refl _ | exact ih _ _ _ _ _ _ _ _ | refine bS.ite ?_ ?_ | refine bS.bind ?_ (fun _ => ?_) | refine bS.iter (fun _ => ?_) _
theorem HH {E : List (List Int)} {N : Nat} (hr : ∀ l ∈ E, l.length = N ∧ Bd 1000 l) (hN : N ≤ 32) (h6 : (bv E N).length ≤ 6) : ∀ (k : Nat) (a : Nat) (rest : Int) (o l : List Int) (d : Nat), a + k = (bv E N).length → 0 ≤ rest → rest ≤ 100 → OutOk E N o → cN (bv E N).length l → k < d →
    ∃ b o' l', iF d (a : Int) rest ((bv E N).length : Int) (bv E N) o E l ((bv E N).length : Int) = some (b, o', l') ∧ cN (bv E N).length l' ∧ OutOk E N o' ∧ l'.take a = l.take a ∧
      (b = true → tot (l'.drop a) = rest ∧ fp E N l' = true ∧ Sp E N o' l' ∧ ∀ t, cN k t → tot t = rest → fp E N (l.take a ++ t) = true → dN (l'.drop a) t) ∧
      (b = false → ∀ t, cN k t → tot t = rest → ¬ fp E N (l.take a ++ t) = true) := by
  intro k
  induction k with
  | zero =>
    intro a rest o l d ha h0 h1 ho hl hd
    obtain ⟨d, rfl⟩ : ∃ e, d = e + 1 := ⟨d - 1, by omega⟩
    have han : a = l.length := by rw [hl.1]; omega
    show ∃ b o' l', jV (iF d) (a : Int) rest _ (bv E N) o E l _ = some (b, o', l') ∧ _
    unfold jV
    rw [if_pos (by omega)]
    by_cases hz : rest = 0
    · obtain ⟨o', w1, w2⟩ := IB hr hN ho hl.1 hl.2
      rw [if_pos hz, w1]
      refine ⟨fp E N l, o', l, rfl, hl, w2.toOutOk, rfl, fun hg => ⟨by rw [han, List.drop_length, hz]; rfl, hg, w2, fun t _ _ _ => by rw [han, List.drop_length]; trivial⟩, fun hg t ht _ => ?_⟩
      rw [ht.nil, han, List.take_length, List.append_nil, hg]; simp
    · rw [if_neg hz]
      refine ⟨false, o, l, rfl, hl, ho, rfl, fun h => (by cases h), fun _ t ht e => ?_⟩
      rw [ht.nil] at e
      exact absurd e.symm hz
  | succ k ih =>
    intro a rest o l d ha h0 h1 ho hl hd
    obtain ⟨d, rfl⟩ : ∃ e, d = e + 1 := ⟨d - 1, by omega⟩
    show ∃ b o' l', jV (iF d) (a : Int) rest _ (bv E N) o E l _ = some (b, o', l') ∧ _
    unfold jV
    rw [if_neg (by omega), bL (x := ((bv E N).length : Int) - (a : Int)) (by omega) (by omega)]
    simp only [Option.bind_some]
    rw [bL (x := ((bv E N).length : Int) - (a : Int) - 1) (by omega) (by omega)]
    rw [bL (x := 6 * (((bv E N).length : Int) - (a : Int) - 1)) (by omega) (by omega)]
    rw [bL (x := rest - 6 * (((bv E N).length : Int) - (a : Int) - 1)) (by omega) (by omega)]
    have hk : ((bv E N).length : Int) - (a : Int) - 1 = k := by omega
    rw [hk]
    have hal : a < l.length := by rw [hl.1]; omega
    have hpl : (l.take a).length = a := by rw [List.length_take]; omega
    obtain ⟨r, r1, r2⟩ := cl (F := ve (iF d) (a : Int) rest (bv E N) E ((bv E N).length : Int)) (fun x : List Int × List Int × Int => OutOk E N x.1 ∧ cN (bv E N).length x.2.1 ∧ x.2.1.take a = l.take a ∧ 0 ≤ x.2.2 ∧ x.2.2 ≤ 200 ∧ ∀ v : Int, 0 ≤ v → v < x.2.2 → v ≤ 6 → ∀ t, cN k t → v + tot t = rest → ¬ fp E N (l.take a ++ v :: t) = true) (fun x => (200 - x.2.2).toNat)
      (fun r => ∃ b o' l', r = (b, o', l') ∧ cN (bv E N).length l' ∧ OutOk E N o' ∧ l'.take a = l.take a ∧
        (b = true → tot (l'.drop a) = rest ∧ fp E N l' = true ∧ Sp E N o' l' ∧ ∀ t, cN (k + 1) t → tot t = rest → fp E N (l.take a ++ t) = true → dN (l'.drop a) t) ∧
        (b = false → ∀ t, cN (k + 1) t → tot t = rest → ¬ fp E N (l.take a ++ t) = true)) (fun x hp => by
      obtain ⟨o2, l2, v⟩ := x
      obtain ⟨q1, q2, q3, q4, q5, q6⟩ := hp
      simp only at q1 q2 q3 q4 q5 q6
      unfold ve
      simp only
      have hl2 := q2.1
      by_cases hv : v ≤ (if 6 < rest then 6 else rest)
      · have hv6 : v ≤ 6 ∧ v ≤ rest := by split at hv <;> omega
        rw [if_pos hv, if_pos ⟨by omega, by omega⟩, bL (x := (a : Int) + 1) (by omega) (by omega)]
        simp only [Option.bind_some]
        rw [bL (x := rest - v) (by omega) (by omega)]
        simp only [Option.bind_some, Int.toNat_natCast]
        have e1 : (a : Int) + 1 = ((a + 1 : Nat) : Int) := by omega
        rw [e1]
        obtain ⟨b, o', l', w1, w2, w3, w4, w5, w6⟩ := ih (a + 1) (rest - v) o2 (l2.set a v) d (by omega) (by omega) (by omega) q1 (q2.set ⟨q4, hv6.1⟩) (by omega)
        rw [Dn (by omega), q3] at w4 w5 w6
        obtain ⟨t1, t2⟩ := CI hpl (by rw [w2.1]; omega) w4
        rw [w1]
        simp only [Option.bind_some]
        cases b
        · simp only [Bool.false_eq_true, if_false]
          rw [bL (x := v + 1) (by omega) (by omega)]
          refine .inl ⟨_, rfl, ⟨w3, w2, t1, by simp only; omega, by simp only; omega, fun u u0 u1 u6 t ht e => ?_⟩, by simp only; omega⟩
          simp only at u1
          by_cases eu : u = v
          · subst eu
            have := w6 rfl t ht (by omega)
            simpa using this
          · exact q6 u u0 (by omega) u6 t ht e
        · simp only [if_true]
          obtain ⟨g1, g2, g3, g4⟩ := w5 rfl
          refine .inr ⟨_, rfl, true, o', l', rfl, w2, w3, t1, fun _ => ⟨by rw [t2]; simp only [tot]; omega, g2, g3, fun t ht e hg => ?_⟩, fun h => by cases h⟩
          obtain ⟨u, t, rfl, hu, ht2⟩ := ht.succ
          simp only [tot] at e
          rw [t2]
          simp only [dN]
          rcases Int.lt_trichotomy v u with h | h | h
          · exact .inl h
          · subst h
            exact .inr ⟨rfl, g4 t ht2 (by omega) (by simpa using hg)⟩
          · exact absurd hg (q6 u hu.1 h hu.2 t ht2 (by omega))
      · rw [if_neg hv]
        refine .inr ⟨_, rfl, false, o2, l2, rfl, q2, q1, q3, fun h => (by cases h), fun _ t ht e => ?_⟩
        obtain ⟨u, t, rfl, hu, ht⟩ := ht.succ
        simp only [tot] at e
        have h3 := ht.tot0
        refine q6 u hu.1 ?_ hu.2 t ht e
        split at hv <;> omega) (o, l, if 0 < rest - 6 * (k : Int) then rest - 6 * (k : Int) else 0) ⟨ho, hl, rfl, by simp only; split <;> omega, by simp only; split <;> omega, fun v v0 v1 v6 t ht e => by
        simp only at v1
        have h3 := ht.tot0
        split at v1 <;> omega⟩
    obtain ⟨b, o', l', rfl, h2⟩ := r2
    exact ⟨b, o', l', r1, h2⟩
theorem IZ {E : List (List Int)} {N : Nat} (hr : ∀ l ∈ E, l.length = N ∧ Bd 1000 l) (hN : N ≤ 32) (h6 : (bv E N).length ≤ 6) {z : List Int} (hz : OutOk E N z) :
    ∃ r, ur ((bv E N).length : Int) (bv E N) z E = some r ∧ ((r.2.1 = true ∧ lW (bv E N).length (fun l => fp E N l = true) r.1 ∧ Sp E N r.2.2 r.1) ∨ (r.2.1 = false ∧ ∀ t, cN (bv E N).length t → ¬ fp E N t = true)) := by
  unfold ur
  rw [if_pos ⟨by omega, by omega⟩, bL (x := 6 * ((bv E N).length : Int)) (by omega) (by omega)]
  simp only [Option.bind_some]
  rw [bL (by omega) (by omega)]
  simp only [Option.bind_some, Int.toNat_natCast]
  refine cl (F := yT (6 * ((bv E N).length : Int) + 1) ((bv E N).length : Int) (bv E N) E) (fun x : List Int × List Int × Int => OutOk E N x.1 ∧ cN (bv E N).length x.2.1 ∧ 0 ≤ x.2.2 ∧ x.2.2 ≤ 6 * ((bv E N).length : Int) + 1 ∧ ∀ t, cN (bv E N).length t → tot t < x.2.2 → ¬ fp E N t = true) (fun x => (6 * ((bv E N).length : Int) + 1 - x.2.2).toNat) _ (fun x hp => ?_) (z, List.replicate (bv E N).length 0, 0) ⟨hz, ⟨by simp, fun x hx => by simp at hx; omega⟩, by simp, by simp only; omega, fun t ht h => by have := ht.tot0; simp only at h; omega⟩
  obtain ⟨o, l, s⟩ := x
  obtain ⟨p1, p2, p3, p4, p5⟩ := hp
  simp only at p1 p2 p3 p4 p5
  unfold yT
  simp only
  by_cases hs : s < 6 * ((bv E N).length : Int) + 1
  · obtain ⟨b, o', l', w1, w2, w3, w4, w5, w6⟩ := HH hr hN h6 (bv E N).length 0 s o l ((bv E N).length + 1) (by omega) p3 (by omega) p1 p2 (by omega)
    have w7 : yO 0 s ((bv E N).length : Int) (bv E N) o E l ((bv E N).length : Int) = some (b, o', l') := l6 (fun n => IV n _ _ _ _ _ _ _ _) w1
    rw [if_pos hs, w7]
    simp only [Option.bind_some, List.drop_zero, List.take_zero, List.nil_append] at w5 w6 ⊢
    cases b
    · refine .inl ⟨_, rfl, ⟨w3, w2, by simp only; omega, by simp only; omega, fun t ht h => ?_⟩, by simp only; omega⟩
      simp only at h
      by_cases e : tot t = s
      · exact w6 rfl t ht e
      · exact p5 t ht (by omega)
    · obtain ⟨g1, g2, g3, g4⟩ := w5 rfl
      refine .inr ⟨_, rfl, .inl ⟨rfl, ⟨w2, g2, fun t ht hg => ?_⟩, g3⟩⟩
      by_cases e : tot t = s
      · exact .inr ⟨by rw [g1, e], g4 t ht e hg⟩
      · left
        simp only
        rw [g1]
        by_cases h : tot t < s
        · exact absurd hg (p5 t ht h)
        · omega
  · rw [if_neg hs]
    refine .inr ⟨_, rfl, .inr ⟨rfl, fun t ht => p5 t ht ?_⟩⟩
    have := ht.tot0
    omega
end Go.Proofs.YtngimdmkomkeoaaGreat.K
