import Derived.Test.YtngimdmkomkeoaaGreatLawX
import Derived.Test.YtngimdmkomkeoaaGreatLawMb
import Derived.Test.YtngimdmkomkeoaaGreatLawNt
set_option linter.unusedVariables false
set_option linter.unusedSimpArgs false
namespace Go.Proofs.YtngimdmkomkeoaaGreat.K
open Go.RowKit Go.Proofs
def eY (t : Int) (n : Nat) : Bool := decide (fG .u8 ((t).fdiv (2 ^ (min n (IntKind.bits .u8)))) 1 = 1)
def pick {α : Type} [Inhabited α] (s : Nat → Bool) (xs : List α) : Nat → List α
  | 0 => []
  | n + 1 => if s n = true then pick s xs n ++ [nth xs (n : Int)] else pick s xs n
section
variable {α β : Type} [Inhabited α] [Inhabited β]
theorem lA (s : Nat → Bool) (xs : List α) (ys : List β) : ∀ n, (pick s xs n).length = (pick s ys n).length
  | 0 => rfl
  | n + 1 => by
    have := lA s xs ys n
    simp only [pick]; split
    · simp [this]
    · exact this
theorem oS (s : Nat → Bool) (xs : List α) : ∀ n, (pick s xs n).length ≤ n
  | 0 => Nat.le_refl _
  | n + 1 => by
    have := oS s xs n
    simp only [pick]; split
    · simp; omega
    · omega
theorem Ci (s : Nat → Bool) (xs : List α) {n : Nat} : ∀ {m : Nat}, n ≤ m → (pick s xs n).length ≤ (pick s xs m).length
  | 0, h => by obtain rfl : n = 0 := by omega
               exact Nat.le_refl _
  | m + 1, h => by
    by_cases e : n = m + 1
    · subst e; exact Nat.le_refl _
    · have := Ci s xs (n := n) (m := m) (by omega)
      simp only [pick]; split
      · simp; omega
      · omega
theorem oR (s : Nat → Bool) (xs : List α) (ys : List β) : ∀ (n : Nat) (i : Int), 0 ≤ i → i < ((pick s xs n).length : Int) → ∃ k : Nat, k < n ∧ nth (pick s xs n) i = nth xs (k : Int) ∧ nth (pick s ys n) i = nth ys (k : Int)
  | 0, i, h0, h1 => by simp [pick] at h1; omega
  | n + 1, i, h0, h1 => by
    have hl := lA s xs ys n
    simp only [pick] at h1 ⊢
    by_cases hs : s n = true
    · simp only [if_pos hs] at h1 ⊢
      by_cases e : i = ((pick s xs n).length : Int)
      · exact ⟨n, by omega, kG e, kG (by omega)⟩
      · have h2 : i < ((pick s xs n).length : Int) := by simp at h1; omega
        obtain ⟨k, k1, k2, k3⟩ := oR s xs ys n i h0 h2
        exact ⟨k, by omega, by rw [i9 h0 h2, k2], by rw [i9 h0 (by omega), k3]⟩
    · simp only [if_neg hs] at h1 ⊢
      obtain ⟨k, k1, k2, k3⟩ := oR s xs ys n i h0 h1
      exact ⟨k, by omega, k2, k3⟩
theorem sk {s : Nat → Bool} {xs : List α} {n : Nat} (hn : n ≤ xs.length) {x : α} (h : x ∈ pick s xs n) : x ∈ xs := by
  obtain ⟨i, i0, i1, e⟩ := eo h
  obtain ⟨k, k1, k2, _⟩ := oR s xs xs n i i0 i1
  rw [← e, k2]; exact cu (by omega) (by omega)
end
theorem se {T : aq} (hf : eM T) {rules : List be} (hr : ∀ r ∈ rules, iI r) : (∃ c, ¬ c = 0 ∧ fS T rules = some ([], [], c) ∧ ∀ E N, ¬ fF T rules E N) ∨
    ∃ E N, fF T rules E N ∧ fS T rules = some (E, bv E N, 0) := by
  unfold fS
  rcases rR hf with ⟨s, e, h1, _, h3⟩ | hT
  · rw [h1]
    simp only [Option.bind_some, if_pos h3]
    exact .inl ⟨e, h3, rfl, fun E N h => by obtain ⟨s', h'⟩ := h.tv; rw [h1] at h'; simp at h'; exact h3 h'.2⟩
  obtain ⟨s, v1, _⟩ := hT.v
  rw [v1]
  simp only [Option.bind_some, not_true_eq_false, if_false]
  by_cases h6 : 6 < (rules.length : Int)
  · simp only [if_pos h6]; exact .inl ⟨3, by decide, rfl, fun E N h => by have := h.len; have := h.six; omega⟩
  simp only [if_neg h6]
  have n12 := hT.n12; have e20 := hT.e20
  obtain ⟨N, hN⟩ : ∃ N : Nat, (N : Int) = (T.Nodes.length : Int) + (T.Edges.length : Int) := ⟨T.Nodes.length + T.Edges.length, by simp⟩
  obtain ⟨b, b1, h⟩ := cl (F := qE T rules) (fun x => 0 ≤ x.2 ∧ x.2 ≤ (rules.length : Int) ∧ (x.1.length : Int) = x.2 ∧ (∀ l ∈ x.1, l.length = N ∧ Bd 1000 l) ∧ ∀ i : Int, 0 ≤ i → i < x.2 → jQ T (nth rules i) = some (nth x.1 i, 0)) (fun x => ((rules.length : Int) - x.2).toNat)
    (fun b => (∃ e, ¬ e = 0 ∧ b = ([], [], e) ∧ ∀ E N, ¬ fF T rules E N) ∨ ∃ E, fF T rules E N ∧ b = (E, bv E N, 0)) (fun x hx => by
    obtain ⟨p1, p2, p3, p4, p5⟩ := hx
    obtain ⟨E, i⟩ := x
    simp only at p1 p2 p3 p4 p5
    unfold qE
    simp only
    by_cases hi : i < (rules.length : Int)
    · obtain ⟨w, w1, _, w3⟩ := JE hf (hr _ (cu p1 hi))
      simp only [if_pos hi, if_pos (show 0 ≤ i ∧ i < (rules.length : Int) from ⟨p1, hi⟩)]
      rw [w1]
      simp only [Option.bind_some]
      by_cases hw : w.2 = 0
      rotate_left
      · simp only [if_pos hw]; exact .inr ⟨_, rfl, .inl ⟨w.2, hw, rfl, fun E' N' h => hw (by have := h.each i p1 hi; rw [w1] at this; simp at this; rw [this])⟩⟩
      simp only [if_neg (not_not_intro hw)]
      rw [if_pos (by omega)]
      obtain ⟨g1, g2⟩ := w3 hw
      refine .inl ⟨_, rfl, ⟨by simp only; omega, by simp only; omega, by simp; omega, fun l hl => ?_, fun j j0 j1 => ?_⟩, by simp only; omega⟩
      · rcases List.mem_append.1 hl with hl | hl
        · exact p4 l hl
        · rw [List.mem_singleton.1 hl]; exact ⟨by omega, g2⟩
      · simp only at j1
        by_cases e : j = i
        · subst e
          simp only
          rw [kG p3.symm, w1]
          have : w = (w.1, w.2) := rfl
          rw [hw] at this
          rw [← this]
        · simp only
          rw [i9 j0 (by omega)]
          exact p5 j j0 (by omega)
    · have hi2 : i = (rules.length : Int) := by omega
      subst hi2
      simp only [if_neg hi]
      rw [bL (by omega) (by omega), ← hN]
      simp only [Option.bind_some]
      have hrow : ∀ l ∈ E, l.length = N := fun l hl => (p4 l hl).1
      rw [Lb hrow (by omega)]
      by_cases h6 : 6 < ((bv E N).length : Int)
      · simp only [if_pos h6]; exact .inr ⟨_, rfl, .inl ⟨3, by decide, rfl, fun E' N' h => by
            have e1 : N' = N := by have := h.n; omega
            have e2 : E' = E := wz (by have := h.len; omega) fun j j0 j1 => by
              have := h.len
              have a := h.each j j0 (by omega)
              rw [p5 j j0 (by omega)] at a
              simpa using a.symm
            have := h.few
            rw [e1, e2] at this
            omega⟩⟩
      · simp only [if_neg h6]
        exact .inr ⟨_, rfl, .inr ⟨E, ⟨hN, by omega, by omega, by omega, p4, by omega, fun j a b => p5 j a b, ⟨s, v1⟩⟩, rfl⟩⟩) ([], 0) ⟨by simp, by simp, by simp, by simp, fun i a b => by simp at b; omega⟩
  rw [b1]
  rcases h with ⟨e, h1, rfl, h2⟩ | ⟨E, h1, rfl⟩
  · exact .inl ⟨e, h1, rfl, h2⟩
  · exact .inr ⟨E, N, h1, rfl⟩
theorem find1 {T : aq} (hf : eM T) {rules : List be} (hr : ∀ r ∈ rules, iI r) : ∃ r, jO T rules = some r ∧
    (r.2 = 0 → ∃ E N l, fF T rules E N ∧ fS T rules = some (E, bv E N, 0) ∧ cN (bv E N).length l ∧ fp E N l = true ∧ Sp E N r.1 l) := by
  rcases se hf hr with ⟨c, h1, h2, _⟩ | ⟨E, N, hE, h2⟩
  · refine ⟨([], c), ?_, fun e => absurd e h1⟩
    unfold jO; rw [h2]; simp [h1]
  · obtain ⟨r, r1, r2⟩ := Jb hE h2
    refine ⟨r, r1, fun h0 => ?_⟩
    rcases r2 with ⟨a1, l, a2, a3⟩ | ⟨a1, _⟩
    · exact ⟨E, N, l, hE, h2, a2.1, a2.2.1, a3⟩
    · rw [a1] at h0; cases h0
theorem Hl {T : aq} (hf : eM T) {rules : List be} (hr : ∀ r ∈ rules, iI r) : ∃ r, pP T rules = some r ∧
    (r.2 = 0 → ∃ E N, fF T rules E N ∧ fS T rules = some (E, bv E N, 0) ∧ cN E.length r.1 ∧ gr E N r.1 = true) := by
  unfold pP
  rcases se hf hr with ⟨c, h1, h2, _⟩ | ⟨E, N, hE, h2⟩
  · rw [h2]
    simp only [Option.bind_some, if_pos h1]
    exact ⟨([], c), rfl, fun e => absurd e h1⟩
  rw [h2]
  simp only [Option.bind_some, not_true_eq_false, if_false]
  have h6 := hE.six; have hlen := hE.len
  rw [← hlen]
  obtain ⟨r, r1, r2⟩ := JL hE.row h6
  rw [r1]
  simp only [Option.bind_some]
  rcases r2 with ⟨a1, a2⟩ | ⟨a1, a2⟩
  · rw [a1]
    have := a2.1.1
    simp only [Bool.not_true, Bool.false_eq_true, if_false]
    rw [lj (by omega)]
    exact ⟨(r.1, 0), rfl, fun _ => ⟨E, N, hE, rfl, a2.1, a2.2.1⟩⟩
  · rw [a1]
    exact ⟨([], 10), rfl, fun h => by cases h⟩
theorem GN {E E' : List (List Int)} (h : ∀ l ∈ E', l ∈ E) {k : Int} (hk : fT E' k = true) : fT E k = true := by
  unfold fT at *
  obtain ⟨l, hl, h2⟩ := List.any_eq_true.1 hk
  exact List.any_eq_true.2 ⟨l, h l hl, h2⟩
theorem C1 {E E' : List (List Int)} (h : ∀ l ∈ E', l ∈ E) : ∀ n, (bv E' n).length ≤ (bv E n).length
  | 0 => Nat.le_refl _
  | n + 1 => by
    have := C1 h n
    simp only [bv]
    by_cases h1 : fT E' (n : Int) = true
    · rw [if_pos h1, if_pos (GN h h1)]; simp; omega
    · rw [if_neg h1]; split
      · simp; omega
      · omega
section
variable {T : aq} {rules : List be} {E : List (List Int)} {N : Nat}
theorem fF.part (hE : fF T rules E N) (s : Nat → Bool) : fF T (pick s rules rules.length) (pick s E rules.length) N := by
  have hl := hE.len
  have h1 := oS s E rules.length
  have h6 := hE.six
  have hm : ∀ l ∈ pick s E rules.length, l ∈ E := fun l h => sk (by omega) h
  refine ⟨hE.n, hE.n32, lA .., by omega, fun l h => hE.row l (hm l h), Nat.le_trans (C1 hm N) hE.few, fun i i0 i1 => ?_, hE.tv⟩
  obtain ⟨k, k1, k2, k3⟩ := oR s rules E rules.length i i0 i1
  rw [k2, k3]
  exact hE.each k (by omega) (by omega)
theorem J9 (hf : eM T) (hr : ∀ r ∈ rules, iI r) (hE : fF T rules E N) (s : Nat → Bool) :
    fS T (pick s rules rules.length) = some (pick s E rules.length, bv (pick s E rules.length) N, 0) := by
  rcases se hf (rules := pick s rules rules.length) (fun r h => hr r (sk (Nat.le_refl _) h)) with ⟨c, _, _, h⟩ | ⟨E', N', h1, h2⟩
  · exact absurd (hE.part s) (h _ _)
  · obtain ⟨rfl, rfl⟩ := h1.uniq (hE.part s)
    exact h2
theorem I2 {w : List Int} (hn : rules.length ≤ E.length) (s : Nat → Bool) (h : gR E w = true) : gR (pick s E rules.length) w = true := by
  unfold gR at *
  exact List.all_eq_true.2 fun l hl => List.all_eq_true.1 h l (sk hn hl)
theorem GQ {w v : List Int} {f : Int} (f1 : 1 ≤ f) (hr : ∀ l ∈ E, l.length = N) (hv : ∀ j : Int, 0 ≤ j → j < (N : Int) → nth v j = nth w j * f) (h : gR E w = true) : gR E v = true := by
  unfold gR at *
  refine List.all_eq_true.2 fun l hl => ?_
  have h1 := List.all_eq_true.1 h l hl
  have hn := hr l hl
  simp only [decide_eq_true_eq] at h1 ⊢
  rw [kM (g := fun i => f * (nth l i * nth w i)) l.length (fun i i0 i1 => by
    rw [hv i i0 (by omega), Int.mul_comm f, Int.mul_assoc]), C0]
  have := Int.mul_le_mul_of_nonneg_left h1 (show 0 ≤ f by omega)
  omega
theorem Jp {w : List Int} {t : Int} (ht : 0 ≤ t) (hb : ∀ x ∈ w, 0 ≤ x ∧ x ≤ 6) (hl : w.length ≤ 32) {b1 : aq × List be × Bool} {b33 : List Int × Int} {x11 : List be × List Int × Int} {Q : Bool → Prop}
    (hend : ∀ v : List Int, v.length = w.length → (∀ j : Int, 0 ≤ j → j < (w.length : Int) → nth v j = nth w j * (1 + t.tmod 8)) → ∃ c, ((lI b1.1 x11.1 b33.1).bind fun b54 => if b54 = true then (lI b1.1 b1.2.1 v).bind fun b57 => some b57 else some false) = some c ∧ Q c) :
    ∃ c, aE (uZ b1 b33 w t x11) (w, 0) = some c ∧ Q c := by
  have f0 : 0 ≤ t.tmod 8 := Int.tmod_nonneg _ ht
  have f8 : t.tmod 8 < 8 := Int.tmod_lt_of_pos _ (by decide)
  refine cl (F := uZ b1 b33 w t x11) (fun x : List Int × Int => 0 ≤ x.2 ∧ x.2 ≤ (w.length : Int) ∧ x.1.length = w.length ∧ ∀ j : Int, 0 ≤ j → j < (w.length : Int) → nth x.1 j = if j < x.2 then nth w j * (1 + t.tmod 8) else nth w j) (fun x => ((w.length : Int) - x.2).toNat) Q (fun x hp => ?_) (w, 0) ⟨by simp, by simp, rfl, fun j j0 j1 => by rw [if_neg (by simp only; omega)]⟩
  obtain ⟨v, i⟩ := x
  obtain ⟨p1, p2, p3, p4⟩ := hp
  simp only at p1 p2 p3 p4
  unfold uZ
  simp only
  by_cases hi : i < (w.length : Int)
  · have e := p4 i p1 hi
    rw [if_neg (by omega)] at e
    have hw := hb _ (cu p1 hi)
    rw [if_pos hi, if_pos ⟨p1, by omega⟩, bL (by omega) (by omega)]
    simp only [Option.bind_some]
    have m1 : 0 ≤ nth w i * (1 + t.tmod 8) := Int.mul_nonneg hw.1 (by omega)
    have m2 : nth w i * (1 + t.tmod 8) ≤ 6 * 8 := Int.mul_le_mul hw.2 (by omega) (by omega) (by omega)
    rw [e, bL (by omega) (by omega)]
    refine .inl ⟨_, rfl, ⟨by simp only; omega, by simp only; omega, by simp [p3], fun j j0 j1 => ?_⟩, by simp only; omega⟩
    simp only
    by_cases ej : j = i
    · subst ej
      rw [jK p1 (by omega), if_pos (by omega)]
    · rw [iZ p1 ej j0, p4 j j0 j1]
      by_cases hj : j < i
      · rw [if_pos hj, if_pos (by omega)]
      · rw [if_neg hj, if_neg (by omega)]
  · rw [if_neg hi]
    obtain ⟨c, c1, c2⟩ := hend v p3 fun j j0 j1 => by rw [p4 j j0 j1, if_pos (by omega)]
    rw [c1]
    exact .inr ⟨c, rfl, c2⟩
structure iQ (s : Nat → Bool) (q out : List Int) (L i : Nat) : Prop where
  len : out.length = L
  sum : ∀ G : List Int, cR (fun j => nth out j * nth G j) i = cR (fun m => nth q m * nth (pick s G i) m) (pick s G i).length
  zero : ∀ j : Int, (i : Int) ≤ j → j < (L : Int) → nth out j = 0
  bd : ∀ j : Int, 0 ≤ j → j < (L : Int) → 0 ≤ nth out j ∧ nth out j ≤ 6
  has : ∀ m : Int, 0 ≤ m → m < ((pick s q i).length : Int) → ∃ j : Int, 0 ≤ j ∧ j < (i : Int) ∧ nth out j = nth q m
theorem iQ.skip {s : Nat → Bool} {q out : List Int} {len i : Nat} (h : iQ s q out len i) (hi : i < len) (hs : ¬ s i = true) : iQ s q out len (i + 1) := by
  refine ⟨h.len, fun G => ?_, fun j j0 j1 => h.zero j (by omega) j1, h.bd, fun m m0 m1 => ?_⟩
  · simp only [cR, pick, if_neg hs]
    rw [h.sum G, h.zero (i : Int) (Int.le_refl _) (by omega)]; simp
  · simp only [pick, if_neg hs] at m1
    obtain ⟨j, a, b, c⟩ := h.has m m0 m1
    exact ⟨j, a, by omega, c⟩
theorem iQ.put {s : Nat → Bool} {q out : List Int} {len i : Nat} (h : iQ s q out len i) (hi : i < len) (hs : s i = true) (hq : 0 ≤ nth q ((pick s q i).length : Int) ∧ nth q ((pick s q i).length : Int) ≤ 6) : iQ s q (out.set i (nth q ((pick s q i).length : Int))) len (i + 1) := by
  have hl := h.len
  have e1 : nth (out.set i (nth q ((pick s q i).length : Int))) (i : Int) = nth q ((pick s q i).length : Int) := by
    have := jK (xs := out) (k := (i : Int)) (v := nth q ((pick s q i).length : Int)) (by omega) (by omega)
    simpa using this
  have e2 : ∀ j : Int, 0 ≤ j → j ≠ (i : Int) → nth (out.set i (nth q ((pick s q i).length : Int))) j = nth out j := fun j j0 hj => by
    have := iZ (xs := out) (k := (i : Int)) (i := j) (v := nth q ((pick s q i).length : Int)) (by omega) hj j0
    simpa using this
  refine ⟨by simp [hl], fun G => ?_, fun j j0 j1 => ?_, fun j j0 j1 => ?_, fun m m0 m1 => ?_⟩
  · have hg := lA s G q i
    simp only [cR, pick, if_pos hs, List.length_append, List.length_singleton]
    rw [e1, kG (xs := pick s G i) (i := ((pick s G i).length : Int)) rfl]
    rw [kM (g := fun j => nth out j * nth G j) i (fun j j0 j1 => by rw [e2 j j0 (by omega)]), h.sum G,
      kM (g := fun m => nth q m * nth (pick s G i) m) (f := fun m => nth q m * nth (pick s G i ++ [nth G (i : Int)]) m) (pick s G i).length (fun m m0 m1 => by rw [i9 m0 m1]), hg]
  · rw [e2 j (by omega) (by omega)]; exact h.zero j (by omega) j1
  · by_cases ej : j = (i : Int)
    · subst ej; rw [e1]; exact hq
    · rw [e2 j j0 ej]; exact h.bd j j0 j1
  · simp only [pick, if_pos hs, List.length_append, List.length_singleton] at m1
    by_cases em : m = ((pick s q i).length : Int)
    · subst em; exact ⟨(i : Int), by omega, by omega, e1⟩
    · obtain ⟨j, a, b, c⟩ := h.has m m0 (by omega)
      exact ⟨j, a, by omega, by rw [e2 j a (by omega), c]⟩
theorem iQ.refutes {s : Nat → Bool} {q out : List Int} (hE : fF T rules E N) (h : iQ s q out rules.length rules.length) (hq : q.length = (pick s E rules.length).length) (hq0 : ∀ x ∈ q, 0 ≤ x) (hg : gr (pick s E rules.length) N q = true) : gr E N out = true := by
  obtain ⟨g1, g2⟩ := rL.1 hg
  have hl := hE.len
  have ho := h.len
  have hpl := lA s q E rules.length
  refine rL.2 ⟨fun e => g1 ?_, fun j j0 j1 => ?_⟩
  · have ho0 : ∀ x ∈ out, 0 ≤ x := fun x hx => by
      obtain ⟨k, k0, k1, e⟩ := eo hx
      rw [← e]; exact (h.bd k k0 (by omega)).1
    have hz := (st ho0).2.1 e
    refine (st hq0).2.2 fun x hx => ?_
    obtain ⟨m, m0, m1, e⟩ := eo hx
    obtain ⟨k, k0, k1, e2⟩ := h.has m m0 (by omega)
    rw [← e, ← e2]
    exact hz _ (cu k0 (by omega))
  · have hG : ∀ k : Int, 0 ≤ k → k < (E.length : Int) → nth (E.map fun e => nth e j) k = nth (nth E k) j := fun k k0 k1 => by
      obtain ⟨k, rfl⟩ := Int.eq_ofNat_of_zero_le k0
      have h1 : k < E.length := by omega
      rw [dw _ k (by simpa using h1), dw _ k h1]
      simp
    have hs := h.sum (E.map fun e => nth e j)
    rw [hl]
    rw [kM (g := fun k => nth out k * nth (E.map fun e => nth e j) k) rules.length (fun k k0 k1 => by rw [hG k k0 (by omega)]), hs]
    have hpe := lA s (E.map fun e => nth e j) E rules.length
    rw [hpe, kM (g := fun k => nth q k * nth (nth (pick s E rules.length) k) j) (pick s E rules.length).length (fun m m0 m1 => by
      obtain ⟨k, k1, k2, k3⟩ := oR s E (E.map fun e => nth e j) rules.length m m0 m1
      rw [k2, k3, hG k (by omega) (by omega)])]
    exact g2 j j0 j1
theorem KD {q : List Int} {t1 : Int} {b : Bool} (h4 : rules.length ≤ 6) (hq : q.length = (pick (eY t1) rules rules.length).length) (hb : ∀ x ∈ q, 0 ≤ x ∧ x ≤ 6) {Q : Bool → Prop} {e : Int}
    (hend : ∀ out, iQ (eY t1) q out rules.length rules.length → ∃ c, qH T rules out = some c ∧ Q c) : ∃ c, aE (v7 (T, rules, b) (q, e) t1) (List.replicate rules.length 0, 0, 0) = some c ∧ Q c := by
  refine cl (F := v7 (T, rules, b) (q, e) t1) (fun x : List Int × Int × Int => ∃ i : Nat, x.2.2 = (i : Int) ∧ i ≤ rules.length ∧ x.2.1 = ((pick (eY t1) q i).length : Int) ∧ iQ (eY t1) q x.1 rules.length i) (fun x => ((rules.length : Int) - x.2.2).toNat) Q (fun x hp => ?_) (List.replicate rules.length 0, 0, 0) ⟨0, rfl, Nat.zero_le _, rfl, ?_⟩
  rotate_left
  · have hz : ∀ j : Int, 0 ≤ j → j < (rules.length : Int) → nth (List.replicate rules.length (0 : Int)) j = 0 := fun j j0 j1 => by
      obtain ⟨j, rfl⟩ := Int.eq_ofNat_of_zero_le j0
      rw [dw _ j (by simp; omega)]; simp
    exact ⟨by simp, fun G => rfl, fun j j0 j1 => hz j (by simpa using j0) j1, fun j j0 j1 => by rw [hz j j0 j1]; omega, fun m m0 m1 => by simp [pick] at m1; omega⟩
  obtain ⟨out, k, i'⟩ := x
  obtain ⟨i, p1, p2, p3, p4⟩ := hp
  simp only at p1 p3 p4
  subst p1 p3
  unfold v7 uX
  simp only
  have hol := p4.len
  by_cases hi : (i : Int) < (rules.length : Int)
  · have hsel : (fG .u8 ((t1).fdiv (2 ^ (min ((i : Int).toNat) (IntKind.bits .u8)))) 1 = 1) ↔ eY t1 i = true := by
      unfold eY; simp
    rw [if_pos hi, if_pos (by omega)]
    simp only [Option.bind_some]
    by_cases hs : eY t1 i = true
    · have hlt : (pick (eY t1) q i).length < q.length := by
        have a := Ci (eY t1) q (n := i + 1) (m := rules.length) (by omega)
        have b := lA (eY t1) q rules rules.length
        simp only [pick, if_pos hs, List.length_append, List.length_singleton] at a
        omega
      rw [if_pos (hsel.2 hs), if_pos ⟨by omega, by omega⟩, if_pos ⟨by omega, by omega⟩]
      have h100 := oS (eY t1) q i
      rw [bL (by omega) (by omega)]
      refine .inl ⟨_, rfl, ⟨i + 1, by simp only; omega, by omega, ?_, ?_⟩, by simp only; omega⟩
      · simp only [pick, if_pos hs, List.length_append, List.length_singleton]; omega
      · simp only [Int.toNat_natCast]
        exact p4.put (by omega) hs (hb _ (cu (by omega) (by omega)))
    · rw [if_neg (fun h => hs (hsel.1 h))]
      refine .inl ⟨_, rfl, ⟨i + 1, by simp only; omega, by omega, ?_, ?_⟩, by simp only; omega⟩
      · simp only [pick, if_neg hs]
      · exact p4.skip (by omega) hs
  · obtain rfl : i = rules.length := by omega
    rw [if_neg hi]
    obtain ⟨c, c1, c2⟩ := hend out p4
    rw [c1]
    exact .inr ⟨c, rfl, c2⟩
end
theorem dF.fewT {T : aq} (hT : dF T) : eM T := by
  have h6 := hT.n6; have h5 := hT.e5
  refine ⟨fun i i0 i1 => ?_, fun i i0 i1 => ?_⟩
  · obtain ⟨n1, n2, n3, n4⟩ := hT.node i i0 i1
    rw [n1]
    refine ⟨six (P := fun i => ((iH i).size : Int) ≤ 40) (by decide) (by decide) (by decide) (by decide) (by decide) (by decide) i i0 (by omega), ?_, fun a ha => ?_⟩
    · rcases n4 with h | ⟨a, h, _⟩ <;> rw [h] <;> simp
    · rcases n4 with h | ⟨a', h, h2, h3⟩
      · rw [h] at ha; simp at ha
      · rw [h] at ha
        obtain rfl : a = a' := by simpa using ha
        refine ⟨by rw [h2]; exact six (P := fun i => ((ij i).size : Int) ≤ 40) (by decide) (by decide) (by decide) (by decide) (by decide) (by decide) i i0 (by omega), ?_⟩
        rcases h3 with ⟨h, _⟩ | ⟨h, _⟩
        · rw [h]; exact ⟨by simp, by simp⟩
        · rw [h]; exact ⟨by decide, by decide⟩
  · obtain ⟨n1, _⟩ := hT.edge i i0 i1
    rw [n1]
    exact six (P := fun i => i < 5 → ((jZ i).size : Int) ≤ 40) (by decide) (by decide) (by decide) (by decide) (by decide) (by decide) i i0 (by omega) (by omega)
theorem JY {T : aq} (hf : eM T) {rules : List be} (hr : ∀ r ∈ rules, iI r) (h6 : rules.length ≤ 6) (t1 t2 : Int) (h2 : 0 ≤ t2) {b : Bool} : aE (uY (T, rules, b) t1 t2) ([], [], 0) = some true := by
  obtain ⟨c, c1, c2⟩ := cl (F := uY (T, rules, b) t1 t2) (fun x : List be × List Int × Int => ∃ i : Nat, x.2.2 = (i : Int) ∧ i ≤ rules.length ∧ x.1 = pick (eY t1) rules i ∧ x.2.1 = List.replicate i 0) (fun x => ((rules.length : Int) - x.2.2).toNat) (fun c => c = true) (fun x hp => by
    obtain ⟨l, z, i'⟩ := x
    obtain ⟨i, p1, p2, p3, p4⟩ := hp
    simp only at p1 p3 p4
    subst p1 p3 p4
    unfold uY uW
    simp only
    have hsel : (fG .u8 ((t1).fdiv (2 ^ (min ((i : Int).toNat) (IntKind.bits .u8)))) 1 = 1) ↔ eY t1 i = true := by
      unfold eY; simp
    have hpl := oS (eY t1) rules i
    by_cases hi : (i : Int) < (rules.length : Int)
    · rw [if_pos hi, if_pos ⟨by omega, hi⟩, if_pos (by omega)]
      simp only [Option.bind_some]
      by_cases hs : eY t1 i = true
      · rw [if_pos (hsel.2 hs), if_pos (by omega), if_pos (by simp; omega)]
        exact .inl ⟨_, rfl, ⟨i + 1, by simp only; omega, by omega, by simp only [pick, if_pos hs], by simp only [List.replicate_succ']⟩, by simp only; omega⟩
      · rw [if_neg (fun h => hs (hsel.1 h)), if_pos (by simp; omega)]
        exact .inl ⟨_, rfl, ⟨i + 1, by simp only; omega, by omega, by simp only [pick, if_neg hs], by simp only [List.replicate_succ']⟩, by simp only; omega⟩
    · obtain rfl : i = rules.length := by omega
      rw [if_neg hi]
      refine .inr ⟨true, ?_, rfl⟩
      obtain ⟨r, r1, r2⟩ := find1 hf hr
      rw [r1]
      simp only [Option.bind_some]
      by_cases h0 : r.2 = 0
      · rw [if_pos h0]
        obtain ⟨E, N, l, hE, he, hl, hg, hs⟩ := r2 h0
        have hb := hs.bd hl.1 hl.2 (by omega)
        have hn := hE.n32
        have hsl := hs.len
        rw [lj (by omega)]
        simp only [Option.bind_some]
        have hlow : gR E r.1 = true := by rw [BO hE.row hs, hg]
        obtain ⟨c, c1, c2⟩ := Jp (t := t2) (b1 := (T, rules, b)) (b33 := r) (x11 := (pick (eY t1) rules rules.length, List.replicate rules.length 0, (rules.length : Int))) (Q := fun c => c = true) h2 hb (by omega) (fun v v1 v2 => by
          have f0 : 0 ≤ t2.tmod 8 := Int.tmod_nonneg _ h2
          have f8 : t2.tmod 8 < 8 := Int.tmod_lt_of_pos _ (by decide)
          simp only
          rw [Co (hE.part _) (J9 hf hr hE _) hsl (fun x hx => by have := hb x hx; omega), I2 (by have := hE.len; omega) _ hlow]
          simp only [Option.bind_some, if_true]
          rw [Co hE he (by omega) (fun x hx => by
            obtain ⟨j, j0, j1, e⟩ := eo hx
            have hj := hb _ (cu (xs := r.1) (i := j) j0 (by omega))
            rw [← e, v2 j j0 (by omega)]
            exact ⟨Int.mul_nonneg hj.1 (by omega), Int.le_trans (Int.mul_le_mul hj.2 (show 1 + t2.tmod 8 ≤ 8 by omega) (by omega) (by omega)) (by decide)⟩), GQ (N := N) (show 1 ≤ 1 + t2.tmod 8 by omega) (fun l hl => (hE.row l hl).1) (fun j j0 j1 => v2 j j0 (by omega)) hlow]
          exact ⟨true, rfl, rfl⟩)
        rw [c1, c2]; rfl
      · rw [if_neg h0]
        obtain ⟨q, q1, q2⟩ := Hl hf (rules := pick (eY t1) rules rules.length) (fun r h => hr r (sk (Nat.le_refl _) h))
        rw [q1]
        simp only [Option.bind_some]
        by_cases h10 : r.2 = 10
        rotate_left
        · rw [if_pos h10]; simp [h0]
        rw [if_neg (not_not_intro h10)]
        by_cases hq : q.2 = 0
        rotate_left
        · rw [if_pos hq]; simp [h0]
        rw [if_neg (not_not_intro hq)]
        obtain ⟨E', N', g1, g2, g3, g4⟩ := q2 hq
        rcases se hf hr with ⟨c, k1, k2, _⟩ | ⟨E, N, hE, he⟩
        · exfalso
          have : jO T rules = some ([], c) := by
            unfold jO
            rw [k2]
            simp only [Option.bind_some]
            rw [if_pos k1]
          rw [r1] at this
          have e : r = ([], c) := by simpa using this
          rw [e] at h10
          exact (Mu _ k2 : ¬ c = 10) h10
        obtain ⟨rfl, rfl⟩ := g1.uniq (hE.part _)
        have hlen : q.1.length = (pick (eY t1) rules rules.length).length := g3.1.trans g1.len
        rw [if_neg (by simp [hlen])]
        obtain ⟨c, c1, c2⟩ := KD (T := T) (b := b) (e := q.2) (Q := fun c => c = true) h6 hlen g3.2 (fun out ho => by
          have hE2 := hE.len
          have h1 := G4 g4 g3.1
          have h2 := oS (eY t1) E rules.length
          rw [JC hE he (by have := ho.len; omega) (by omega) (fun x hx => by
            obtain ⟨j, j0, j1, e⟩ := eo hx
            have := ho.bd j j0 (by have := ho.len; omega)
            rw [← e]; omega), ho.refutes hE g3.1 (fun x hx => (g3.2 x hx).1) g4]
          exact ⟨true, rfl, rfl⟩)
        rw [show q = (q.1, q.2) from rfl, c1, c2]; rfl) ([], [], 0) ⟨0, rfl, Nat.zero_le _, rfl, rfl⟩
  rw [c1, c2]
theorem M8 (ha : lC = some true) (d : jP) (t1 t2 : Int) (h0 : ∀ x ∈ d.Nodes, U8 x.e0 ∧ U8 x.e1) (h1 : ∀ x ∈ d.Edges, U8 x.e0 ∧ U8 x.e1) (h2 : ∀ r ∈ d.Rules, DOk r) (ht : 0 ≤ t2) : uw d t1 t2 = some true := by
  unfold uw wZ pG
  rw [ha]
  by_cases q1 : 8 < (d.Nodes.length : Int)
  · rw [if_pos q1]; rfl
  rw [if_neg q1]
  by_cases q2 : 8 < (d.Edges.length : Int)
  · rw [if_pos q2]; rfl
  rw [if_neg q2]
  by_cases q3 : 4 < (d.Rules.length : Int)
  · rw [if_pos q3]; rfl
  rw [if_neg q3]
  obtain ⟨T, e1, hT⟩ := JT d.Nodes d.Edges h0 h1
  obtain ⟨rs, e2, e3, e4, e5⟩ := JS hT d.Rules h2
  obtain ⟨b, b1, b2⟩ := few39 e5
  rw [e1]
  simp only [Option.bind_some]
  rw [e2]
  simp only [Option.bind_some]
  rw [b1]
  simp only [Option.bind_some, Bool.not_true, Bool.false_eq_true, if_false]
  cases b
  · rfl
  simp only [Bool.not_true, Bool.false_eq_true, if_false]
  exact JY hT.fewT (b2 rfl).2 (by omega) t1 t2 ht
end Go.Proofs.YtngimdmkomkeoaaGreat.K
