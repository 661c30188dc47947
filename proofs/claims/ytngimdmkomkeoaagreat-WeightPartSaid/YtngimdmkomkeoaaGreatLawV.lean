import Derived.Test.YtngimdmkomkeoaaGreatLawH
set_option linter.unusedVariables false
set_option linter.unusedSimpArgs false
namespace Go.Proofs.YtngimdmkomkeoaaGreat.K
open Go.RowKit Go.Proofs
def im (c : Int) : Bool := decide ((97 ≤ c ∧ c ≤ 122) ∨ (65 ≤ c ∧ c ≤ 90))
def gl (c : Int) : Bool := decide (48 ≤ c ∧ c ≤ 57)
def kj (c : Int) : Bool := im c || gl c || decide (c = 95)
theorem mM (c : Int) : nv c = some (im c) := by
  unfold nv im
  by_cases a : 97 ≤ c <;> by_cases b : c ≤ 122 <;> by_cases d : 65 ≤ c <;> simp [a, b, d] <;> omega
theorem ly (c : Int) : lG c = some (gl c) := by
  unfold lG gl
  by_cases a : 48 ≤ c <;> simp [a]
theorem xf : tj = nv := rfl
theorem sz : ng = lG := rfl
theorem Ik (c : Int) : sV c = some (kj c) := by
  unfold sV kj
  rw [mM, ly]
  cases im c <;> cases gl c <;> simp
def oG (s : ByteArray) (p : Int → Bool) (i : Int) : Option Int := if p (cq s i) = true then none else some i
def ke (s : ByteArray) (p : Int → Bool) : Option Int := eg (oG s p) 0 s.size (some (s.size : Int))
theorem sr (s : ByteArray) (p : Int → Bool) : ∃ n, ke s p = some n ∧ 0 ≤ n ∧ n ≤ (s.size : Int) := by
  unfold ke
  rcases jN (step := oG s p) (fin := some (s.size : Int)) s.size 0 with ⟨h1, h2⟩ | ⟨j, b, h1, h2, h3, h4, h5⟩
  · exact ⟨_, h2, by omega, by omega⟩
  · refine ⟨b, h5, ?_⟩
    unfold oG at h3
    split at h3
    · cases h3
    · cases h3; omega
theorem vV (s : ByteArray) {p : Int → Option Bool} {pB : Int → Bool} (hp : ∀ c, p c = some (pB c)) : mR s p = ke s pB := by
  unfold mR ke
  refine fJ _ _ (fun i h0 h1 => ?_) ?_
  · unfold xB oG pL
    rw [if_pos h1, if_pos ⟨h0, h1⟩, hp]
    cases pB (cq s i) <;> simp
  · unfold xB pL
    rw [if_neg (by omega)]; rfl
theorem Bt (s : ByteArray) (h : (s.size : Int) ≤ 1000) (b : Bool) : sB s 0 b = ke s (if b = true then gl else kj) := by
  unfold sB ke
  refine fJ _ _ (fun i h0 h1 => ?_) ?_
  · unfold xw oG pI nx
    rw [bL (x := 0 + i) (by omega) (by omega), bL (x := i + 1) (by omega) (by omega)]
    simp only [Option.bind_some, Int.zero_add]
    rw [if_pos h1, if_pos ⟨h0, h1⟩, xf, sz, mM, ly]
    simp only [Option.bind_some, if_pos (And.intro h0 h1)]
    have hp : (if b = true then gl else kj) (cq s i) = (gl (cq s i) || (!b && (im (cq s i) || decide (cq s i = 95)))) := by
      cases b <;> simp [kj, Bool.or_comm, Bool.or_assoc, Bool.or_left_comm]
    rw [hp]
    cases gl (cq s i) <;> cases im (cq s i) <;> by_cases e : cq s i = 95 <;> cases b <;> simp [e]
  · unfold xw nx
    rw [bL (x := 0 + (s.size : Int)) (by omega) (by omega)]
    simp
theorem JI (xs : List ByteArray) (t : ByteArray) : ∃ j, uV xs t = some j ∧ (0 ≤ j ↔ t ∈ xs) := by
  unfold uV
  rw [fJ (n := xs.length) (fun i => if t = nth xs i then some i else none) (some (-1)) (fun i h0 h1 => ?_) (by unfold zb; rw [if_neg (by omega)]; rfl)]
  · rcases jN (step := fun i => if t = nth xs i then some i else none) (fin := some (-1)) xs.length 0 with ⟨h1, h2⟩ | ⟨j, b, h1, h2, h3, h4, h5⟩
    · refine ⟨_, h2, by omega, fun h => ?_⟩
      obtain ⟨i, i0, i1, e⟩ := eo h
      have := h1 i i0 (by omega)
      simp [e] at this
    · try simp only at h3
      split at h3
      · rename_i e; cases h3; exact ⟨_, h5, fun _ => (by rw [e]; exact cu h1 (by omega)), fun _ => h1⟩
      · cases h3
  · unfold zb
    rw [if_pos h1, if_pos ⟨h0, h1⟩]
    by_cases e : t = nth xs i <;> simp [e]
theorem zr (xs : List ByteArray) (t : ByteArray) : ∃ b, qP xs t = some b ∧ (b = true ↔ t ∈ xs) := by
  obtain ⟨j, h1, h2⟩ := JI xs t
  unfold qP
  rw [h1]; exact ⟨_, rfl, by simp [h2]⟩
theorem Jh (s : ByteArray) {l h : Int} (h0 : 0 ≤ l) (h1 : l ≤ h) (h2 : h ≤ (s.size : Int)) : ((bT s l h).size : Int) = h - l := by
  unfold bT; rw [ByteArray.size_extract]; omega
theorem Ij (s : ByteArray) : ∃ b, sU s = some b := by
  unfold sU
  split
  · obtain ⟨b, hb, _⟩ := zr [(ByteArray.mk #[45, 62]), (ByteArray.mk #[60, 61]), (ByteArray.mk #[62, 61]), (ByteArray.mk #[61, 61]), (ByteArray.mk #[33, 61])] (bT s 0 2)
    rw [if_pos ⟨by omega, by omega, by omega⟩, hb]; exact ⟨_, rfl⟩
  · exact ⟨_, rfl⟩
theorem JZ (s : ByteArray) (h0 : 0 < (s.size : Int)) (h1 : (s.size : Int) ≤ 1000) : ∃ b, tx s = some b := by
  unfold tx
  rw [if_pos ⟨by omega, by omega, by omega⟩, vV (pB := fun c => decide (32 ≤ c ∧ c ≤ 126 ∧ ¬ c = 34)) _ (fun c => by unfold yj; by_cases a : 32 ≤ c <;> by_cases b : c ≤ 126 <;> simp [a, b])]
  obtain ⟨n, e, n0, n1⟩ := sr (bT s 1 (s.size : Int)) (fun c => decide (32 ≤ c ∧ c ≤ 126 ∧ ¬ c = 34))
  rw [Jh s (by omega) (by omega) (by omega)] at n1
  rw [e, Option.bind_some, bL (x := 1 + n) (by omega) (by omega), Option.bind_some]
  split
  · exact ⟨_, rfl⟩
  · rw [Option.bind_some, if_pos ⟨by omega, by omega⟩]
    split
    · exact ⟨_, rfl⟩
    split
    · exact ⟨_, rfl⟩
    · exact ⟨_, rfl⟩
theorem KC (s : ByteArray) (h0 : 0 < (s.size : Int)) (h1 : (s.size : Int) ≤ 1000) : ∃ b, tk s 0 = some b ∧ (b = 0 ∨ (2 ≤ b ∧ b ≤ (s.size : Int))) := by
  unfold tk
  refine cl (fun x => 1 ≤ x ∧ x ≤ (s.size : Int)) (fun x => ((s.size : Int) - x).toNat) _ (fun x ⟨x0, x1⟩ => ?_) 1 ⟨by omega, by omega⟩
  unfold DM
  rw [bL (x := 0 + x) (by omega) (by omega), bL (x := x + 1) (by omega) (by omega)]
  simp only [Option.bind_some, Int.zero_add]
  split
  · rename_i hx
    rw [if_pos ⟨by omega, hx⟩]
    split
    · exact .inr ⟨_, rfl, .inr ⟨by omega, by omega⟩⟩
    split
    · exact .inr ⟨_, rfl, .inl rfl⟩
    split
    · exact .inr ⟨_, rfl, .inl rfl⟩
    · exact .inl ⟨_, rfl, ⟨by omega, by omega⟩, by omega⟩
  · exact .inr ⟨_, rfl, .inl rfl⟩
theorem I4 (s : ByteArray) (h0 : 0 < (s.size : Int)) (h1 : (s.size : Int) ≤ 1000) (hl : im (cq s 0) = false) : ∃ b, mZ s = some b ∧ ¬ b.1 = 1 := by
  unfold mZ
  rw [if_pos ⟨by omega, h0⟩, mM, hl]
  simp only [Option.bind_some, Bool.false_eq_true, if_false]
  rw [ly]
  cases gl (cq s 0)
  · simp only [Option.bind_some, Bool.false_eq_true, if_false]
    split
    · obtain ⟨b, hb⟩ := JZ s h0 h1
      rw [hb]; exact ⟨_, rfl, by simp⟩
    · obtain ⟨b, hb⟩ := Ij s
      rw [hb, Option.bind_some]
      split
      · exact ⟨_, rfl, by simp⟩
      · unfold yN za
        simp only [Option.bind_some]
        split
        · exact ⟨_, rfl, by simp⟩
        · exact ⟨_, rfl, by simp⟩
  · simp only [Option.bind_some, if_true]
    rw [vV s ly]
    obtain ⟨n, e, _, _⟩ := sr s gl
    rw [e, Option.bind_some]
    split
    · exact ⟨_, rfl, by simp⟩
    · exact ⟨_, rfl, by simp⟩
theorem Jg (l : List ByteArray) (s : ByteArray) (hl : ∀ x ∈ l, (x.size : Int) ≤ 1000) (h1 : (s.size : Int) ≤ 1000) : ∃ b, aE (xG l s 0) 0 = some b ∧ ¬ b.1.Kind = 1 := by
  refine cl (fun x => 0 ≤ x ∧ x ≤ (l.length : Int)) (fun x => ((l.length : Int) - x).toNat) _ (fun x ⟨x0, x1⟩ => ?_) 0 ⟨by omega, by omega⟩
  unfold xG tH
  split
  · rename_i hx
    rw [if_pos ⟨x0, hx⟩]
    have := hl _ (cu x0 hx)
    rw [bL (x := 0 + ((nth l x).size : Int)) (by omega) (by omega)]
    simp only [Option.bind_some, Int.zero_add]
    split
    · rw [if_pos ⟨by omega, by omega, by assumption⟩]
      split
      · exact .inr ⟨_, rfl, by simp⟩
      · exact .inl ⟨_, rfl, ⟨by omega, by omega⟩, by omega⟩
    · exact .inl ⟨_, rfl, ⟨by omega, by omega⟩, by omega⟩
  · exact .inr ⟨_, rfl, by simp⟩
theorem I6 {c : Int} (h : im c = true) : gl c = false := by
  simp [im] at h; simp [gl]; omega
theorem Hg (s : ByteArray) (h0 : 0 < (s.size : Int)) (h1 : (s.size : Int) ≤ 1000) (hl : im (cq s 0) = false) : ∃ b, mN s 0 = some b ∧ ¬ b.1.Kind = 1 := by
  unfold mN
  rw [if_pos ⟨by omega, h0⟩, xf, sz, mM, hl]
  simp only [Option.bind_some, Bool.false_eq_true, if_false]
  rw [ly]
  cases hd : gl (cq s 0)
  · simp only [Option.bind_some, Bool.false_eq_true, if_false]
    split
    · obtain ⟨b, hb, hq⟩ := KC s h0 h1
      rw [hb, Option.bind_some]
      split
      · exact ⟨_, rfl, by simp⟩
      · have : 2 ≤ b ∧ b ≤ (s.size : Int) := by omega
        rw [bL (x := b - 2) (by omega) (by omega)]
        split
        · exact ⟨_, rfl, by simp⟩
        · rw [bL (x := (0 : Int) + 1) (by omega) (by omega), bL (x := 0 + b) (by omega) (by omega), bL (x := 0 + b - 1) (by omega) (by omega), if_pos ⟨by omega, by omega, by omega⟩]
          exact ⟨_, rfl, by simp⟩
    · unfold xl
      rw [Option.bind_some]
      exact Jg _ s (by intro x hx; revert x; decide +kernel) h1
  · simp only [Option.bind_some, if_true]
    unfold pH
    rw [sz, ly, hd, Option.bind_some, Bt s h1]
    simp only [if_true]
    obtain ⟨n, e, n0, n1⟩ := sr s gl
    rw [e, Option.bind_some, Option.bind_some]
    simp only [if_true]
    unfold nw
    split
    · exact ⟨_, rfl, by simp⟩
    · rw [bL (x := 0 + n) (by omega) (by omega), Option.bind_some, if_pos ⟨by omega, by omega, by omega⟩]
      exact ⟨_, rfl, by simp⟩
theorem IT (s : ByteArray) : s = ByteArray.mk #[] ↔ (s.size : Int) = 0 := by
  constructor
  · intro h; subst h; rfl
  · intro h
    have : s.size = 0 := by omega
    obtain ⟨⟨l⟩⟩ := s
    have h2 : l.length = 0 := this
    have := List.eq_nil_of_length_eq_zero h2
    subst this; rfl
theorem pf (s : ByteArray) (h : (s.size : Int) ≤ 1000) : ∃ b, gc s = some b ∧ gP s = some b := by
  unfold gc gP xr xk x8 u7
  simp only [show ¬ ((1 : Int) = 3) by omega, if_false, Option.bind_some]
  by_cases he : s = ByteArray.mk #[]
  · rw [if_pos he, if_pos he]; exact ⟨false, rfl, rfl⟩
  rw [if_neg he, if_neg he]
  have h0 : 0 < (s.size : Int) := by
    rcases Nat.eq_zero_or_pos s.size with e | e
    · exact absurd ((IT s).2 (by omega)) he
    · omega
  cases hl : im (cq s 0)
  · obtain ⟨b, hb, hk⟩ := I4 s h0 h hl
    obtain ⟨c, hc, hk'⟩ := Hg s h0 h hl
    rw [hb, hc]
    refine ⟨false, ?_, ?_⟩
    · simp only [Option.bind_some]
      split
      · simp [hk]
      · rfl
    · simp only [Option.bind_some]
      split
      · split
        · simp [hk']
        · rfl
      · rfl
  · have e1 : mZ s = (ke s kj).bind fun b5 => if 20 < b5 then some (0, 0, 3) else some (1, b5, 0) := by
      unfold mZ
      rw [if_pos ⟨by omega, h0⟩, mM, hl]
      simp only [Option.bind_some, if_true]
      rw [vV s Ik]
    have e2 : mN s 0 = (ke s kj).bind fun b => nw b s 0 (1, 20) := by
      unfold mN
      rw [if_pos ⟨by omega, h0⟩, xf, mM, hl]
      simp only [Option.bind_some, if_true]
      unfold pH
      rw [sz, ly, I6 hl, Option.bind_some, Bt s h]
      simp
    obtain ⟨n, e, n0, n1⟩ := sr s kj
    rw [e1, e2, e]
    simp only [Option.bind_some]
    unfold nw
    by_cases hn : 20 < n
    · refine ⟨false, ?_, ?_⟩ <;> simp [hn]
    · simp only [hn, if_false]
      rw [bL (x := 0 + n) (by omega) (by omega)]
      have h3 : (0 : Int) ≤ 0 ∧ (0 : Int) ≤ 0 + n ∧ 0 + n ≤ (s.size : Int) := ⟨by omega, by omega, by omega⟩
      simp only [Option.bind_some, if_pos h3]
      refine ⟨decide (n = (s.size : Int)), by simp, ?_⟩
      by_cases hs : n = (s.size : Int) <;> simp [hs]
end Go.Proofs.YtngimdmkomkeoaaGreat.K
