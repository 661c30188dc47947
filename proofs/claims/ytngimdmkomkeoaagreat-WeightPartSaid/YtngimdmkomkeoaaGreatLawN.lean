import Derived.Test.YtngimdmkomkeoaaGreatLawJ
set_option linter.unusedVariables false
set_option linter.unusedSimpArgs false
namespace Go.Proofs.YtngimdmkomkeoaaGreat.K
open Go.RowKit Go.Proofs
theorem fW.trans : ∀ {a b c : List Int}, fW a b → fW b c → fW a c
  | [], [], _, h, _ => h.elim
  | [], _ :: _, [], _, h => h.elim
  | [], _ :: _, _ :: _, _, _ => trivial
  | _ :: _, [], _, h, _ => h.elim
  | _ :: _, _ :: _, [], _, h => h.elim
  | x :: xs, y :: ys, z :: zs, h, k => by
    simp only [fW] at h k ⊢
    rcases h with h | ⟨e, h⟩
    · rcases k with k | ⟨e, k⟩
      · exact .inl (by omega)
      · exact .inl (by omega)
    · rcases k with k | ⟨e', k⟩
      · exact .inl (by omega)
      · exact .inr ⟨by omega, h.trans k⟩
theorem ID (l : List Int) (v : Int) : tot (l ++ [v]) = tot l + v := by
  induction l with
  | nil => simp [tot]
  | cons x xs ih => simp only [List.cons_append, tot]; rw [ih]; omega
theorem Bw (l : List Int) : ∀ n : Nat, n ≤ l.length → tot (l.take n) = cR (fun i => nth l i) n
  | 0, _ => by simp [tot, cR]
  | n + 1, h => by
    rw [List.take_succ_eq_append_getElem (by omega), ID, Bw l n (by omega)]
    simp only [cR]
    rw [dw l n (by omega)]
theorem Ju {l : List Int} (hl : l.length ≤ 100) (hb : Bd 1000 l) : xq l = some (tot l) := by
  unfold xq
  obtain ⟨r, r1, r2⟩ := cl (F := yh l) (fun x : Int × Int => 0 ≤ x.2 ∧ x.2 ≤ (l.length : Int) ∧ x.1 = cR (fun i => nth l i) x.2.toNat) (fun x => ((l.length : Int) - x.2).toNat) (fun r => r = cR (fun i => nth l i) l.length) (fun x hp => by
    obtain ⟨s, i⟩ := x
    obtain ⟨p1, p2, p3⟩ := hp
    simp only at p1 p2 p3
    obtain ⟨i, rfl⟩ := Int.eq_ofNat_of_zero_le p1
    simp only [Int.toNat_natCast] at p3
    unfold yh
    simp only
    by_cases hi : (i : Int) < (l.length : Int)
    · have h1 := hb.nth p1 hi
      have h2 := s8 (f := fun i => nth l i) (B := 1000) i (fun j a b => hb.nth a (by omega))
      rw [if_pos hi, if_pos ⟨p1, hi⟩, bL (by rw [p3]; omega) (by rw [p3]; omega)]
      refine .inl ⟨_, rfl, ⟨by simp only; omega, by simp only; omega, ?_⟩, by simp only; omega⟩
      have e : ((i : Int) + 1).toNat = i + 1 := by omega
      simp only [e, cR, p3]
    · rw [if_neg hi]
      have : i = l.length := by omega
      subst this
      exact .inr ⟨_, rfl, p3⟩) (0, 0) ⟨by simp, by simp, by simp [cR]⟩
  rw [r1, r2, ← Bw l l.length (Nat.le_refl _), List.take_length]
theorem cN.bd {n : Nat} {l : List Int} (h : cN n l) : Bd 1000 l := fun x hx => by have := h.2 x hx; omega
structure Seen (n : Nat) (G : List Int → Bool) (b : List Int) (f : Bool) (t : List Int) : Prop where
  s : G t = true → f = true ∧ (tot b < tot t ∨ (tot b = tot t ∧ dN b t))
theorem IF (E : List (List Int)) (N : Nat) : OutOk E N (List.replicate N 0) := ⟨by simp, fun j j0 j1 _ => by
  obtain ⟨k, rfl⟩ := Int.eq_ofNat_of_zero_le j0
  rw [dw _ k (by simp; omega)]; simp⟩
theorem Jb {T : aq} {rules : List be} {E : List (List Int)} {N : Nat} (hE : fF T rules E N) (he : fS T rules = some (E, bv E N, 0)) :
    ∃ r, jO T rules = some r ∧ ((r.2 = 0 ∧ ∃ l, lW (bv E N).length (fun l => fp E N l = true) l ∧ Sp E N r.1 l) ∨ (r = ([], 10) ∧ ∀ t, cN (bv E N).length t → ¬ fp E N t = true)) := by
  have hN := hE.n; have h32 := hE.n32
  unfold jO
  rw [he]
  simp only [Option.bind_some, not_true_eq_false, if_false]
  rw [bL (by omega) (by omega), ← hN, if_pos ⟨by omega, by omega⟩]
  simp only [Int.toNat_natCast]
  obtain ⟨r, r1, r2⟩ := IZ hE.row (by omega) hE.few (IF E N)
  rw [r1]
  simp only [Option.bind_some]
  rcases r2 with ⟨h1, h2, h3⟩ | ⟨h1, h2⟩
  · rw [h1]
    exact ⟨(r.2.2, 0), rfl, .inl ⟨rfl, r.1, h2, h3⟩⟩
  · rw [h1]
    exact ⟨([], 10), rfl, .inr ⟨rfl, h2⟩⟩
theorem CO {w : List Int} {n : Int} (h : (w.length : Int) = n) : (∀ x ∈ w, 0 ≤ x ∧ x ≤ 1000) → qh w n = some true := fun hb => by
  unfold qh
  rw [if_pos h, sd, lx (q := fun x => !decide (0 ≤ x ∧ x ≤ 1000)) w (fun x _ => by
    unfold yF
    by_cases h0 : x < 0
    · rw [if_pos h0]; simp; omega
    · rw [if_neg h0]; congr 1; by_cases h1 : 1000 < x <;> simp [h1] <;> omega)]
  have : w.any (fun x => !decide (0 ≤ x ∧ x ≤ 1000)) = false := by
    rw [List.any_eq_false]
    intro x hx
    simp [hb x hx]
  rw [this]; rfl
theorem Co {T : aq} {rules : List be} {E : List (List Int)} {N : Nat} (hE : fF T rules E N) (he : fS T rules = some (E, bv E N, 0)) {o : List Int} (ho : o.length = N) (hb : ∀ x ∈ o, 0 ≤ x ∧ x ≤ 1000) : lI T rules o = some (gR E o) := by
  have hN := hE.n; have h32 := hE.n32
  unfold lI
  rw [he]
  simp only [Option.bind_some, if_true]
  rw [bL (by omega) (by omega), CO (by omega) hb]
  simp only [Option.bind_some, if_true]
  rw [CB hE.row (by omega) ho (fun x hx => by have := hb x hx; omega)]
  rfl
end Go.Proofs.YtngimdmkomkeoaaGreat.K
