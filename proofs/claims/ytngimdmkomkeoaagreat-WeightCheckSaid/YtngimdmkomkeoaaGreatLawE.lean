/- Sums over lists; the effects of rules, and the types that they touch: the program and the document's answer say the same. -/
import Derived.Test.YtngimdmkomkeoaaGreatLawU
set_option linter.unusedVariables false
set_option linter.unusedSimpArgs false
namespace Go.Proofs.YtngimdmkomkeoaaGreat.K
open Go.RowKit Go.Proofs
def sumN (f : Int → Int) : Nat → Int
  | 0 => 0
  | n + 1 => sumN f n + f (n : Int)
theorem sumN_bd {f : Int → Int} {B : Int} : ∀ (n : Nat), (∀ i : Int, 0 ≤ i → i < (n : Int) → -B ≤ f i ∧ f i ≤ B) → -(B * n) ≤ sumN f n ∧ sumN f n ≤ B * n
  | 0, _ => by simp [sumN]
  | n + 1, h => by
    have h1 := sumN_bd n (fun i a b => h i a (by omega))
    have h2 := h (n : Int) (by omega) (by omega)
    have e : B * ((n + 1 : Nat) : Int) = B * (n : Int) + B := by rw [Int.natCast_add, Int.mul_add]; simp
    rw [e]
    simp only [sumN]
    omega
theorem sumN_congr {f g : Int → Int} : ∀ (n : Nat), (∀ i : Int, 0 ≤ i → i < (n : Int) → f i = g i) → sumN f n = sumN g n
  | 0, _ => rfl
  | n + 1, h => by
    simp only [sumN]
    rw [sumN_congr n (fun i a b => h i a (by omega)), h (n : Int) (by omega) (by omega)]
theorem mul_bd {a b A B : Int} (hA : 0 ≤ A) (hB : 0 ≤ B) (ha : -A ≤ a ∧ a ≤ A) (hb : -B ≤ b ∧ b ≤ B) : -(A * B) ≤ a * b ∧ a * b ≤ A * B := by
  have h1 : a.natAbs ≤ A.natAbs := by omega
  have h2 : b.natAbs ≤ B.natAbs := by omega
  have h3 : (a * b).natAbs ≤ (A * B).natAbs := by rw [Int.natAbs_mul, Int.natAbs_mul]; exact Nat.mul_le_mul h1 h2
  have h4 : 0 ≤ A * B := Int.mul_nonneg hA hB
  omega
theorem cont_rows : z3d = ContG := rfl
def hit (E : List (List Int)) (k : Int) : Bool := E.any fun l => decide (¬ nth l k = 0)
def tch (E : List (List Int)) : Nat → List Int
  | 0 => []
  | n + 1 => if hit E (n : Int) = true then tch E n ++ [(n : Int)] else tch E n
theorem tch_len (E : List (List Int)) : ∀ n, (tch E n).length ≤ n
  | 0 => by simp [tch]
  | n + 1 => by
    have := tch_len E n
    simp only [tch]
    split
    · simp; omega
    · omega
structure EffsOk (T : z06) (rules : List z10) (E : List (List Int)) (N : Nat) : Prop where
  n : (N : Int) = (T.Nodes.length : Int) + (T.Edges.length : Int)
  n32 : (N : Int) ≤ 32
  len : E.length = rules.length
  six : E.length ≤ 6
  row : ∀ l ∈ E, l.length = N ∧ Bd 1000 l
  few : (tch E N).length ≤ 6
  each : ∀ i : Int, 0 ≤ i → i < (rules.length : Int) → z60 T (nth rules i) = some (nth E i, 0)
theorem hit_eq {E : List (List Int)} {N : Nat} (hr : ∀ l ∈ E, l.length = N) {k : Int} (k0 : 0 ≤ k) (k1 : k < (N : Int)) : z3d E (fun x => z56 x k) = some (hit E k) := by
  rw [cont_rows]
  exact cont_any E fun l hl => by
    unfold z56
    have := hr l hl
    rw [if_pos ⟨k0, by omega⟩]
theorem rhit_law {E : List (List Int)} {N : Nat} (hr : ∀ l ∈ E, l.length = N) (at_ : List Int) {k : Int} (k0 : 0 ≤ k) (k1 : k < (N : Int)) (hl : at_.length ≤ 100) :
    z2l (z7h E (at_, k)) (false, 0) = some (.inl (if hit E k = true then at_ ++ [k] else at_, k + 1)) := by
  obtain ⟨b, b1, b2⟩ := z3b (F := z7h E (at_, k)) (fun x : Bool × Int => 0 ≤ x.2 ∧ x.2 ≤ (E.length : Int) ∧ (x.1 = true ↔ ∃ i : Int, 0 ≤ i ∧ i < x.2 ∧ ¬ nth (nth E i) k = 0)) (fun x => ((E.length : Int) - x.2).toNat) (fun b => b = .inl (if hit E k = true then at_ ++ [k] else at_, k + 1)) (fun x hp => by
    obtain ⟨is, i⟩ := x
    obtain ⟨p1, p2, p3⟩ := hp
    simp only at p1 p2 p3
    unfold z7h z7j z7i
    simp only
    by_cases hi : i < (E.length : Int)
    · rw [if_pos hi]
      have hlk := hr _ (z2u p1 hi)
      cases is
      · rw [if_neg (by simp), if_pos ⟨p1, hi⟩, if_pos ⟨k0, by omega⟩]
        refine .inl ⟨_, rfl, ⟨by simp only; omega, by simp only; omega, ?_⟩, by simp only; omega⟩
        simp only [decide_eq_true_eq]
        constructor
        · intro h; exact ⟨i, p1, by omega, h⟩
        · rintro ⟨j, j0, j1, h⟩
          by_cases e : j = i
          · subst e; exact h
          · have := p3.2 ⟨j, j0, by omega, h⟩; cases this
      · rw [if_pos rfl]
        refine .inl ⟨_, rfl, ⟨by simp only; omega, by simp only; omega, ?_⟩, by simp only; omega⟩
        simp only [true_iff]
        obtain ⟨j, j0, j1, h⟩ := p3.1 rfl
        exact ⟨j, j0, by omega, h⟩
    · rw [if_neg hi]
      have he : is = hit E k := by
        have hI : is = true ↔ hit E k = true := by
          rw [p3]
          unfold hit
          rw [any_nth]
          constructor
          · rintro ⟨j, j0, j1, h⟩; exact ⟨j, j0, by omega, by simpa using h⟩
          · rintro ⟨j, j0, j1, h⟩; exact ⟨j, j0, by omega, by simpa using h⟩
        cases is <;> cases hh : hit E k
        · rfl
        · rw [hh] at hI; exact absurd (hI.2 rfl) (by simp)
        · rw [hh] at hI; exact absurd (hI.1 rfl) (by simp)
        · rfl
      rw [← he]
      cases is
      · exact .inr ⟨_, rfl, rfl⟩
      · rw [if_pos rfl, if_pos (by omega)]
        exact .inr ⟨_, rfl, rfl⟩) (false, 0) ⟨by simp, by simp, by simp; intro i a b; omega⟩
  rw [b1, b2]
theorem touched_law {E : List (List Int)} {N : Nat} (hr : ∀ l ∈ E, l.length = N) (hN : N ≤ 32) : ref39_touched (N : Int) E = some (tch E N) := by
  unfold ref39_touched
  obtain ⟨b, b1, b2⟩ := z3b (F := ref39_touched_l1 (N : Int) E) (fun x : List Int × Int => 0 ≤ x.2 ∧ x.2 ≤ (N : Int) ∧ x.1 = tch E x.2.toNat) (fun x => ((N : Int) - x.2).toNat) (fun b => b = tch E N) (fun x hp => by
    obtain ⟨l, k⟩ := x
    obtain ⟨p1, p2, p3⟩ := hp
    simp only at p1 p2 p3
    obtain ⟨k, rfl⟩ := Int.eq_ofNat_of_zero_le p1
    have hl := tch_len E k
    simp only [Int.toNat_natCast] at p3
    unfold ref39_touched_l1
    simp only
    by_cases hk : (k : Int) < (N : Int)
    · rw [if_pos hk, rhit_law hr l p1 hk (by rw [p3]; omega)]
      refine .inl ⟨_, rfl, ⟨by simp only; omega, by simp only; omega, ?_⟩, by simp only; omega⟩
      have e : ((k : Int) + 1).toNat = k + 1 := by omega
      simp only [e, tch, p3]
    · rw [if_neg hk]
      have : k = N := by omega
      subst this
      exact .inr ⟨_, rfl, p3⟩) ([], 0) ⟨by simp, by simp, by simp [tch]⟩
  rw [b1, b2]
theorem ptouched_law {E : List (List Int)} {N : Nat} (hr : ∀ l ∈ E, l.length = N) (hN : N ≤ 32) (z : Int) : z2l (z6t (N : Int) (E, z)) ([], 0) = some (if 6 < ((tch E N).length : Int) then ([], [], 3) else (E, tch E N, 0)) := by
  obtain ⟨b, b1, b2⟩ := z3b (F := z6t (N : Int) (E, z)) (fun x : List Int × Int => 0 ≤ x.2 ∧ x.2 ≤ (N : Int) ∧ x.1 = tch E x.2.toNat) (fun x => ((N : Int) - x.2).toNat) (fun b => b = if 6 < ((tch E N).length : Int) then ([], [], 3) else (E, tch E N, 0)) (fun x hp => by
    obtain ⟨l, k⟩ := x
    obtain ⟨p1, p2, p3⟩ := hp
    simp only at p1 p2 p3
    obtain ⟨k, rfl⟩ := Int.eq_ofNat_of_zero_le p1
    have hl := tch_len E k
    simp only [Int.toNat_natCast] at p3
    unfold z6t z6u
    simp only
    by_cases hk : (k : Int) < (N : Int)
    · rw [if_pos hk, hit_eq hr p1 hk]
      have e : ((k : Int) + 1).toNat = k + 1 := by omega
      simp only [Option.bind_some]
      cases hh : hit E (k : Int)
      · refine .inl ⟨_, rfl, ⟨by simp only; omega, by simp only; omega, ?_⟩, by simp only; omega⟩
        simp only [e, tch, hh, p3]; rfl
      · rw [if_pos rfl, if_pos (by rw [p3]; omega)]
        refine .inl ⟨_, rfl, ⟨by simp only; omega, by simp only; omega, ?_⟩, by simp only; omega⟩
        simp only [e, tch, hh, p3]; rfl
    · rw [if_neg hk]
      have : k = N := by omega
      subst this
      subst p3
      by_cases h6 : 6 < ((tch E k).length : Int)
      · rw [if_pos h6, if_pos h6]; exact .inr ⟨_, rfl, rfl⟩
      · rw [if_neg h6, if_neg h6]; exact .inr ⟨_, rfl, rfl⟩) ([], 0) ⟨by simp, by simp, by simp [tch]⟩
  rw [b1, b2]
theorem effects_law {T : z06} (hf : FewT T) {rules : List z10} (hr : ∀ r ∈ rules, FewR r) : (∃ c, ¬ c = 0 ∧ z4t T rules = some ([], [], c) ∧ z7l T rules = some ([], c)) ∨
    ∃ E N, EffsOk T rules E N ∧ z4t T rules = some (E, tch E N, 0) ∧ z7l T rules = some (E, 0) := by
  unfold z4t z7l
  rcases tv_law hf with ⟨s, e, h1, h2, h3⟩ | hT
  · rw [h1, h2]
    simp only [Option.bind_some, if_pos h3]
    exact .inl ⟨e, h3, rfl, rfl⟩
  obtain ⟨s, v1, v2⟩ := hT.v
  rw [v1, v2]
  simp only [Option.bind_some, not_true_eq_false, if_false]
  by_cases h6 : 6 < (rules.length : Int)
  · simp only [if_pos h6]; exact .inl ⟨3, by decide, rfl, rfl⟩
  simp only [if_neg h6]
  have n12 := hT.n12; have e20 := hT.e20
  obtain ⟨N, hN⟩ : ∃ N : Nat, (N : Int) = (T.Nodes.length : Int) + (T.Edges.length : Int) := ⟨T.Nodes.length + T.Edges.length, by simp⟩
  obtain ⟨b, c, b1, c1, h⟩ := Iter_two (F := weight_effects_l5 T rules) (G := ref39_Effects_l5 T rules) (fun x y => x = y ∧ 0 ≤ x.2 ∧ x.2 ≤ (rules.length : Int) ∧ (x.1.length : Int) = x.2 ∧ (∀ l ∈ x.1, l.length = N ∧ Bd 1000 l) ∧ ∀ i : Int, 0 ≤ i → i < x.2 → z60 T (nth rules i) = some (nth x.1 i, 0)) (fun x => ((rules.length : Int) - x.2).toNat)
    (fun b c => (∃ e, ¬ e = 0 ∧ b = ([], [], e) ∧ c = ([], e)) ∨ ∃ E, EffsOk T rules E N ∧ b = (E, tch E N, 0) ∧ c = (E, 0)) (fun x y hxy => by
    obtain ⟨e, p1, p2, p3, p4, p5⟩ := hxy
    subst e
    obtain ⟨E, i⟩ := x
    simp only at p1 p2 p3 p4 p5
    unfold weight_effects_l5 ref39_Effects_l5
    simp only
    by_cases hi : i < (rules.length : Int)
    · obtain ⟨w, w1, w2, w3⟩ := effect_law hf (hr _ (z2u p1 hi))
      simp only [if_pos hi, if_pos (show 0 ≤ i ∧ i < (rules.length : Int) from ⟨p1, hi⟩)]
      rw [w1, w2]
      simp only [Option.bind_some]
      by_cases hw : w.2 = 0
      rotate_left
      · simp only [if_pos hw]; exact .inr ⟨_, _, rfl, rfl, .inl ⟨w.2, hw, rfl, rfl⟩⟩
      simp only [if_neg (not_not_intro hw)]
      rw [if_pos (by omega), if_pos (by omega)]
      obtain ⟨g1, g2⟩ := w3 hw
      refine .inl ⟨_, _, rfl, rfl, ⟨rfl, by simp only; omega, by simp only; omega, by simp; omega, fun l hl => ?_, fun j j0 j1 => ?_⟩, by simp only; omega⟩
      · rcases List.mem_append.1 hl with hl | hl
        · exact p4 l hl
        · rw [List.mem_singleton.1 hl]; exact ⟨by omega, g2⟩
      · simp only at j1
        by_cases e : j = i
        · subst e
          simp only
          rw [nth_last p3.symm, w1]
          have : w = (w.1, w.2) := rfl
          rw [hw] at this
          rw [← this]
        · simp only
          rw [nth_left j0 (by omega)]
          exact p5 j j0 (by omega)
    · have hi2 : i = (rules.length : Int) := by omega
      subst hi2
      simp only [if_neg hi]
      rw [z34 (by omega) (by omega), ← hN]
      simp only [Option.bind_some]
      have hrow : ∀ l ∈ E, l.length = N := fun l hl => (p4 l hl).1
      rw [ptouched_law hrow (by omega), touched_law hrow (by omega)]
      simp only [Option.bind_some]
      by_cases h6 : 6 < ((tch E N).length : Int)
      · simp only [if_pos h6]; exact .inr ⟨_, _, rfl, rfl, .inl ⟨3, by decide, rfl, rfl⟩⟩
      · simp only [if_neg h6]
        exact .inr ⟨_, _, rfl, rfl, .inr ⟨E, ⟨hN, by omega, by omega, by omega, p4, by omega, fun j a b => p5 j a b⟩, rfl, rfl⟩⟩) ([], 0) ([], 0) ⟨rfl, by simp, by simp, by simp, by simp, fun i a b => by simp at b; omega⟩
  rw [b1, c1]
  rcases h with ⟨e, h1, rfl, rfl⟩ | ⟨E, h1, rfl, rfl⟩
  · exact .inl ⟨e, h1, rfl, rfl⟩
  · exact .inr ⟨E, N, h1, rfl, rfl⟩
end Go.Proofs.YtngimdmkomkeoaaGreat.K
