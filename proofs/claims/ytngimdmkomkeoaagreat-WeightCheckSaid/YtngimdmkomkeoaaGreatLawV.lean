/- Names and type graphs: the program and the document's answer say the same of any. -/
import Derived.Test.YtngimdmkomkeoaaGreatLawH
set_option linter.unusedVariables false
set_option linter.unusedSimpArgs false
namespace Go.Proofs.YtngimdmkomkeoaaGreat.K
open Go.RowKit Go.Proofs
def letB (c : Int) : Bool := decide ((97 ≤ c ∧ c ≤ 122) ∨ (65 ≤ c ∧ c ≤ 90))
def digB (c : Int) : Bool := decide (48 ≤ c ∧ c ≤ 57)
def partB (c : Int) : Bool := letB c || digB c || decide (c = 95)
theorem letter_eq (c : Int) : z98 c = some (letB c) := by
  unfold z98 letB
  by_cases a : 97 ≤ c <;> by_cases b : c ≤ 122 <;> by_cases d : 65 ≤ c <;> simp [a, b, d] <;> omega
theorem digit_eq (c : Int) : z8x c = some (digB c) := by
  unfold z8x digB
  by_cases a : 48 ≤ c <;> simp [a]
theorem rletter_eq : ref01_letter = z98 := rfl
theorem rdigit_eq : ref01_digit = z8x := rfl
theorem part_eq' (c : Int) : token_part c = some (partB c) := by
  unfold token_part partB
  rw [letter_eq, digit_eq]
  cases letB c <;> cases digB c <;> simp
def stepR (s : ByteArray) (p : Int → Bool) (i : Int) : Option Int := if p (z2c s i) = true then none else some i
def runN (s : ByteArray) (p : Int → Bool) : Option Int := scanN (stepR s p) 0 s.size (some (s.size : Int))
theorem runN_tot (s : ByteArray) (p : Int → Bool) : ∃ n, runN s p = some n ∧ 0 ≤ n ∧ n ≤ (s.size : Int) := by
  unfold runN
  rcases z70 (step := stepR s p) (fin := some (s.size : Int)) s.size 0 with ⟨h1, h2⟩ | ⟨j, b, h1, h2, h3, h4, h5⟩
  · exact ⟨_, h2, by omega, by omega⟩
  · refine ⟨b, h5, ?_⟩
    unfold stepR at h3
    split at h3
    · cases h3
    · cases h3; omega
theorem run_eq (s : ByteArray) {p : Int → Option Bool} {pB : Int → Bool} (hp : ∀ c, p c = some (pB c)) : token_run s p = runN s pB := by
  unfold token_run runN
  refine z4m _ _ (fun i h0 h1 => ?_) ?_
  · unfold token_run_l1 stepR z9p
    rw [if_pos h1, if_pos ⟨h0, h1⟩, hp]
    cases pB (z2c s i) <;> simp
  · unfold token_run_l1 z9p
    rw [if_neg (by omega)]; rfl
theorem rrun_eq (s : ByteArray) (h : (s.size : Int) ≤ 1000) (b : Bool) : ref01_run s 0 b = runN s (if b = true then digB else partB) := by
  unfold ref01_run runN
  refine z4m _ _ (fun i h0 h1 => ?_) ?_
  · unfold ref01_run_l1 stepR za4 z7o
    rw [z34 (x := 0 + i) (by omega) (by omega), z34 (x := i + 1) (by omega) (by omega)]
    simp only [Option.bind_some, Int.zero_add]
    rw [if_pos h1, if_pos ⟨h0, h1⟩, rletter_eq, rdigit_eq, letter_eq, digit_eq]
    simp only [Option.bind_some, if_pos (And.intro h0 h1)]
    have hp : (if b = true then digB else partB) (z2c s i) = (digB (z2c s i) || (!b && (letB (z2c s i) || decide (z2c s i = 95)))) := by
      cases b <;> simp [partB, Bool.or_comm, Bool.or_assoc, Bool.or_left_comm]
    rw [hp]
    cases digB (z2c s i) <;> cases letB (z2c s i) <;> by_cases e : z2c s i = 95 <;> cases b <;> simp [e]
  · unfold ref01_run_l1 z7o
    rw [z34 (x := 0 + (s.size : Int)) (by omega) (by omega)]
    simp
theorem indexS_tot (xs : List ByteArray) (t : ByteArray) : ∃ j, z64 xs t = some j ∧ (0 ≤ j ↔ t ∈ xs) := by
  unfold z64
  rw [z4m (n := xs.length) (fun i => if t = nth xs i then some i else none) (some (-1)) (fun i h0 h1 => ?_) (by unfold z6n; rw [if_neg (by omega)]; rfl)]
  · rcases z70 (step := fun i => if t = nth xs i then some i else none) (fin := some (-1)) xs.length 0 with ⟨h1, h2⟩ | ⟨j, b, h1, h2, h3, h4, h5⟩
    · refine ⟨_, h2, by omega, fun h => ?_⟩
      obtain ⟨i, i0, i1, e⟩ := z80 h
      have := h1 i i0 (by omega)
      simp [e] at this
    · try simp only at h3
      split at h3
      · rename_i e; cases h3; exact ⟨_, h5, fun _ => (by rw [e]; exact z2u h1 (by omega)), fun _ => h1⟩
      · cases h3
  · unfold z6n
    rw [if_pos h1, if_pos ⟨h0, h1⟩]
    by_cases e : t = nth xs i <;> simp [e]
theorem contS (xs : List ByteArray) (t : ByteArray) : ∃ b, z3y xs t = some b ∧ (b = true ↔ t ∈ xs) := by
  obtain ⟨j, h1, h2⟩ := indexS_tot xs t
  unfold z3y
  rw [h1]; exact ⟨_, rfl, by simp [h2]⟩
theorem size_cutS (s : ByteArray) {l h : Int} (h0 : 0 ≤ l) (h1 : l ≤ h) (h2 : h ≤ (s.size : Int)) : ((cutS s l h).size : Int) = h - l := by
  unfold cutS; rw [ByteArray.size_extract]; omega
theorem pair_tot (s : ByteArray) : ∃ b, token_pair s = some b := by
  unfold token_pair
  split
  · obtain ⟨b, hb, _⟩ := contS [(ByteArray.mk #[45, 62]), (ByteArray.mk #[60, 61]), (ByteArray.mk #[62, 61]), (ByteArray.mk #[61, 61]), (ByteArray.mk #[33, 61])] (cutS s 0 2)
    rw [if_pos ⟨by omega, by omega, by omega⟩, hb]; exact ⟨_, rfl⟩
  · exact ⟨_, rfl⟩
theorem quoted_tot (s : ByteArray) (h0 : 0 < (s.size : Int)) (h1 : (s.size : Int) ≤ 1000) : ∃ b, token_quoted s = some b := by
  unfold token_quoted
  rw [if_pos ⟨by omega, by omega, by omega⟩, run_eq (pB := fun c => decide (32 ≤ c ∧ c ≤ 126 ∧ ¬ c = 34)) _ (fun c => by unfold token_quoted_1; by_cases a : 32 ≤ c <;> by_cases b : c ≤ 126 <;> simp [a, b])]
  obtain ⟨n, e, n0, n1⟩ := runN_tot (cutS s 1 (s.size : Int)) (fun c => decide (32 ≤ c ∧ c ≤ 126 ∧ ¬ c = 34))
  rw [size_cutS s (by omega) (by omega) (by omega)] at n1
  rw [e, Option.bind_some, z34 (x := 1 + n) (by omega) (by omega), Option.bind_some]
  split
  · exact ⟨_, rfl⟩
  · rw [Option.bind_some, if_pos ⟨by omega, by omega⟩]
    split
    · exact ⟨_, rfl⟩
    split
    · exact ⟨_, rfl⟩
    · exact ⟨_, rfl⟩
theorem rquoted_tot (s : ByteArray) (h0 : 0 < (s.size : Int)) (h1 : (s.size : Int) ≤ 1000) : ∃ b, ref01_quoted s 0 = some b ∧ (b = 0 ∨ (2 ≤ b ∧ b ≤ (s.size : Int))) := by
  unfold ref01_quoted
  refine z3b (fun x => 1 ≤ x ∧ x ≤ (s.size : Int)) (fun x => ((s.size : Int) - x).toNat) _ (fun x ⟨x0, x1⟩ => ?_) 1 ⟨by omega, by omega⟩
  unfold ref01_quoted_l1
  rw [z34 (x := 0 + x) (by omega) (by omega), z34 (x := x + 1) (by omega) (by omega)]
  simp only [Option.bind_some, Int.zero_add]
  split
  · rename_i hx
    rw [if_pos ⟨by omega, hx⟩]
    split
    · exact .inr ⟨_, rfl, .inr ⟨by omega, by omega⟩⟩
    split
    · exact .inr ⟨_, rfl, .inl rfl⟩
    split
    · exact .inr ⟨_, rfl, .inl rfl⟩
    · exact .inl ⟨_, rfl, ⟨by omega, by omega⟩, by omega⟩
  · exact .inr ⟨_, rfl, .inl rfl⟩
theorem next_tot (s : ByteArray) (h0 : 0 < (s.size : Int)) (h1 : (s.size : Int) ≤ 1000) (hl : letB (z2c s 0) = false) : ∃ b, token_next s = some b ∧ ¬ b.1 = 1 := by
  unfold token_next
  rw [if_pos ⟨by omega, h0⟩, letter_eq, hl]
  simp only [Option.bind_some, Bool.false_eq_true, if_false]
  rw [digit_eq]
  cases digB (z2c s 0)
  · simp only [Option.bind_some, Bool.false_eq_true, if_false]
    split
    · obtain ⟨b, hb⟩ := quoted_tot s h0 h1
      rw [hb]; exact ⟨_, rfl, by simp⟩
    · obtain ⟨b, hb⟩ := pair_tot s
      rw [hb, Option.bind_some]
      split
      · exact ⟨_, rfl, by simp⟩
      · unfold strings_IndexByte z6y
        simp only [Option.bind_some]
        split
        · exact ⟨_, rfl, by simp⟩
        · exact ⟨_, rfl, by simp⟩
  · simp only [Option.bind_some, if_true]
    rw [run_eq s digit_eq]
    obtain ⟨n, e, _, _⟩ := runN_tot s digB
    rw [e, Option.bind_some]
    split
    · exact ⟨_, rfl, by simp⟩
    · exact ⟨_, rfl, by simp⟩
theorem signs_tot (l : List ByteArray) (s : ByteArray) (hl : ∀ x ∈ l, (x.size : Int) ≤ 1000) (h1 : (s.size : Int) ≤ 1000) : ∃ b, z2l (ref01_one_l60 l s 0) 0 = some b ∧ ¬ b.1.Kind = 1 := by
  refine z3b (fun x => 0 ≤ x ∧ x ≤ (l.length : Int)) (fun x => ((l.length : Int) - x).toNat) _ (fun x ⟨x0, x1⟩ => ?_) 0 ⟨by omega, by omega⟩
  unfold ref01_one_l60 ref01_one_j82
  split
  · rename_i hx
    rw [if_pos ⟨x0, hx⟩]
    have := hl _ (z2u x0 hx)
    rw [z34 (x := 0 + ((nth l x).size : Int)) (by omega) (by omega)]
    simp only [Option.bind_some, Int.zero_add]
    split
    · rw [if_pos ⟨by omega, by omega, by assumption⟩]
      split
      · exact .inr ⟨_, rfl, by simp⟩
      · exact .inl ⟨_, rfl, ⟨by omega, by omega⟩, by omega⟩
    · exact .inl ⟨_, rfl, ⟨by omega, by omega⟩, by omega⟩
  · exact .inr ⟨_, rfl, by simp⟩
theorem not_both {c : Int} (h : letB c = true) : digB c = false := by
  simp [letB] at h; simp [digB]; omega
theorem one_tot (s : ByteArray) (h0 : 0 < (s.size : Int)) (h1 : (s.size : Int) ≤ 1000) (hl : letB (z2c s 0) = false) : ∃ b, ref01_one s 0 = some b ∧ ¬ b.1.Kind = 1 := by
  unfold ref01_one
  rw [if_pos ⟨by omega, h0⟩, rletter_eq, rdigit_eq, letter_eq, hl]
  simp only [Option.bind_some, Bool.false_eq_true, if_false]
  rw [digit_eq]
  cases hd : digB (z2c s 0)
  · simp only [Option.bind_some, Bool.false_eq_true, if_false]
    split
    · obtain ⟨b, hb, hq⟩ := rquoted_tot s h0 h1
      rw [hb, Option.bind_some]
      split
      · exact ⟨_, rfl, by simp⟩
      · have : 2 ≤ b ∧ b ≤ (s.size : Int) := by omega
        rw [z34 (x := b - 2) (by omega) (by omega)]
        split
        · exact ⟨_, rfl, by simp⟩
        · rw [z34 (x := (0 : Int) + 1) (by omega) (by omega), z34 (x := 0 + b) (by omega) (by omega), z34 (x := 0 + b - 1) (by omega) (by omega), if_pos ⟨by omega, by omega, by omega⟩]
          exact ⟨_, rfl, by simp⟩
    · unfold ref01_signs
      rw [Option.bind_some]
      exact signs_tot _ s (by intro x hx; revert x; decide +kernel) h1
  · simp only [Option.bind_some, if_true]
    unfold za5
    rw [rdigit_eq, digit_eq, hd, Option.bind_some, rrun_eq s h1]
    simp only [if_true]
    obtain ⟨n, e, n0, n1⟩ := runN_tot s digB
    rw [e, Option.bind_some, Option.bind_some]
    simp only [if_true]
    unfold z7p
    split
    · exact ⟨_, rfl, by simp⟩
    · rw [z34 (x := 0 + n) (by omega) (by omega), Option.bind_some, if_pos ⟨by omega, by omega, by omega⟩]
      exact ⟨_, rfl, by simp⟩
theorem empty_iff (s : ByteArray) : s = ByteArray.mk #[] ↔ (s.size : Int) = 0 := by
  constructor
  · intro h; subst h; rfl
  · intro h
    have : s.size = 0 := by omega
    obtain ⟨⟨l⟩⟩ := s
    have h2 : l.length = 0 := this
    have := List.eq_nil_of_length_eq_zero h2
    subst this; rfl
theorem isName_law (s : ByteArray) (h : (s.size : Int) ≤ 1000) : ∃ b, z4u s = some b ∧ z5x s = some b := by
  unfold z4u z5x token_whole ref01_Right ref01_text token_whole_j9
  simp only [show ¬ ((1 : Int) = 3) by omega, if_false, Option.bind_some]
  by_cases he : s = ByteArray.mk #[]
  · rw [if_pos he, if_pos he]; exact ⟨false, rfl, rfl⟩
  rw [if_neg he, if_neg he]
  have h0 : 0 < (s.size : Int) := by
    rcases Nat.eq_zero_or_pos s.size with e | e
    · exact absurd ((empty_iff s).2 (by omega)) he
    · omega
  cases hl : letB (z2c s 0)
  · obtain ⟨b, hb, hk⟩ := next_tot s h0 h hl
    obtain ⟨c, hc, hk'⟩ := one_tot s h0 h hl
    rw [hb, hc]
    refine ⟨false, ?_, ?_⟩
    · simp only [Option.bind_some]
      split
      · simp [hk]
      · rfl
    · simp only [Option.bind_some]
      split
      · split
        · simp [hk']
        · rfl
      · rfl
  · have e1 : token_next s = (runN s partB).bind fun b5 => if 20 < b5 then some (0, 0, 3) else some (1, b5, 0) := by
      unfold token_next
      rw [if_pos ⟨by omega, h0⟩, letter_eq, hl]
      simp only [Option.bind_some, if_true]
      rw [run_eq s part_eq']
    have e2 : ref01_one s 0 = (runN s partB).bind fun b => z7p b s 0 (1, 20) := by
      unfold ref01_one
      rw [if_pos ⟨by omega, h0⟩, rletter_eq, letter_eq, hl]
      simp only [Option.bind_some, if_true]
      unfold za5
      rw [rdigit_eq, digit_eq, not_both hl, Option.bind_some, rrun_eq s h]
      simp
    obtain ⟨n, e, n0, n1⟩ := runN_tot s partB
    rw [e1, e2, e]
    simp only [Option.bind_some]
    unfold z7p
    by_cases hn : 20 < n
    · refine ⟨false, ?_, ?_⟩ <;> simp [hn]
    · simp only [hn, if_false]
      rw [z34 (x := 0 + n) (by omega) (by omega)]
      have h3 : (0 : Int) ≤ 0 ∧ (0 : Int) ≤ 0 + n ∧ 0 + n ≤ (s.size : Int) := ⟨by omega, by omega, by omega⟩
      simp only [Option.bind_some, if_pos h3]
      refine ⟨decide (n = (s.size : Int)), by simp, ?_⟩
      by_cases hs : n = (s.size : Int) <;> simp [hs]
end Go.Proofs.YtngimdmkomkeoaaGreat.K
