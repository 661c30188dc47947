import Derived.Test.YtngimdmkomkeoaaGreatLawU
set_option linter.unusedVariables false
set_option linter.unusedSimpArgs false
namespace Go.Proofs.YtngimdmkomkeoaaGreat.K
open Go.RowKit Go.Proofs
def cR (f : Int → Int) : Nat → Int
  | 0 => 0
  | n + 1 => cR f n + f (n : Int)
theorem s8 {f : Int → Int} {B : Int} : ∀ (n : Nat), (∀ i : Int, 0 ≤ i → i < (n : Int) → -B ≤ f i ∧ f i ≤ B) → -(B * n) ≤ cR f n ∧ cR f n ≤ B * n
  | 0, _ => by simp [cR]
  | n + 1, h => by
    have h1 := s8 n (fun i a b => h i a (by omega))
    have h2 := h (n : Int) (by omega) (by omega)
    have e : B * ((n + 1 : Nat) : Int) = B * (n : Int) + B := by rw [Int.natCast_add, Int.mul_add]; simp
    rw [e]
    simp only [cR]
    omega
theorem kM {f g : Int → Int} : ∀ (n : Nat), (∀ i : Int, 0 ≤ i → i < (n : Int) → f i = g i) → cR f n = cR g n
  | 0, _ => rfl
  | n + 1, h => by
    simp only [cR]
    rw [kM n (fun i a b => h i a (by omega)), h (n : Int) (by omega) (by omega)]
theorem C0 {f : Int → Int} {c : Int} : ∀ (n : Nat), cR (fun i => c * f i) n = c * cR f n
  | 0 => by simp [cR]
  | n + 1 => by simp only [cR]; rw [C0 n, Int.mul_add]
theorem AP {a b A B : Int} (hA : 0 ≤ A) (hB : 0 ≤ B) (ha : -A ≤ a ∧ a ≤ A) (hb : -B ≤ b ∧ b ≤ B) : -(A * B) ≤ a * b ∧ a * b ≤ A * B := by
  have h1 : a.natAbs ≤ A.natAbs := by omega
  have h2 : b.natAbs ≤ B.natAbs := by omega
  have h3 : (a * b).natAbs ≤ (A * B).natAbs := by rw [Int.natAbs_mul, Int.natAbs_mul]; exact Nat.mul_le_mul h1 h2
  have h4 : 0 ≤ A * B := Int.mul_nonneg hA hB
  omega
theorem Cd : qW = gW := rfl
def fT (E : List (List Int)) (k : Int) : Bool := E.any fun l => decide (¬ nth l k = 0)
def bv (E : List (List Int)) : Nat → List Int
  | 0 => []
  | n + 1 => if fT E (n : Int) = true then bv E n ++ [(n : Int)] else bv E n
theorem Bv (E : List (List Int)) : ∀ n, (bv E n).length ≤ n
  | 0 => by simp [bv]
  | n + 1 => by
    have := Bv E n
    simp only [bv]
    split
    · simp; omega
    · omega
theorem oV {E : List (List Int)} : ∀ {n : Nat} {j : Int}, j ∈ bv E n → 0 ≤ j ∧ j < (n : Int) ∧ fT E j = true
  | 0, j, h => by simp [bv] at h
  | n + 1, j, h => by
    simp only [bv] at h
    split at h
    · rename_i hh
      rcases List.mem_append.1 h with h | h
      · obtain ⟨a, b, c⟩ := oV h; exact ⟨a, by omega, c⟩
      · rw [List.mem_singleton.1 h]; exact ⟨by omega, by omega, hh⟩
    · obtain ⟨a, b, c⟩ := oV h; exact ⟨a, by omega, c⟩
theorem wW (E : List (List Int)) : ∀ n, (bv E n).Nodup
  | 0 => by simp [bv]
  | n + 1 => by
    simp only [bv]
    split
    · rw [List.nodup_append]
      refine ⟨wW E n, by simp, fun a ha c hc e => ?_⟩
      have := oV ha
      rw [List.mem_singleton.1 hc] at e
      omega
    · exact wW E n
theorem Bu {E : List (List Int)} {g : Int → Int} : ∀ (n : Nat), (∀ j : Int, 0 ≤ j → j < (n : Int) → fT E j = false → g j = 0) → cR g n = cR (fun i => g (nth (bv E n) i)) (bv E n).length
  | 0, _ => by simp [cR, bv]
  | n + 1, h => by
    have ih := Bu n (fun j a b => h j a (by omega))
    simp only [cR, bv]
    split
    · rw [List.length_append, List.length_singleton]
      simp only [cR]
      rw [kG rfl, ih]
      congr 1
      exact kM _ fun i a b => by rw [i9 a b]
    · rename_i hh
      rw [ih, h (n : Int) (by omega) (by omega) (by simpa using hh)]
      omega
structure fF (T : aq) (rules : List be) (E : List (List Int)) (N : Nat) : Prop where
  n : (N : Int) = (T.Nodes.length : Int) + (T.Edges.length : Int)
  n32 : (N : Int) ≤ 32
  len : E.length = rules.length
  six : E.length ≤ 6
  row : ∀ l ∈ E, l.length = N ∧ Bd 1000 l
  few : (bv E N).length ≤ 6
  each : ∀ i : Int, 0 ≤ i → i < (rules.length : Int) → jQ T (nth rules i) = some (nth E i, 0)
  tv : ∃ s, gO T = some (s, 0)
theorem fF.uniq {T : aq} {rules : List be} {E E' : List (List Int)} {N N' : Nat} (h : fF T rules E N) (h' : fF T rules E' N') : E = E' ∧ N = N' := by
  refine ⟨wz (h.len.trans h'.len.symm) fun i i0 i1 => ?_, by have := h.n; have := h'.n; omega⟩
  have := h.len
  have a := h.each i i0 (by omega)
  rw [h'.each i i0 (by omega)] at a
  simpa using a.symm
theorem G5 {E : List (List Int)} {N : Nat} (hr : ∀ l ∈ E, l.length = N) {k : Int} (k0 : 0 ≤ k) (k1 : k < (N : Int)) : qW E (fun x => nT x k) = some (fT E k) := by
  rw [Cd]
  exact lx E fun l hl => by
    unfold nT
    have := hr l hl
    rw [if_pos ⟨k0, by omega⟩]
theorem Lb {E : List (List Int)} {N : Nat} (hr : ∀ l ∈ E, l.length = N) (hN : N ≤ 32) (z : Int) : aE (o9 (N : Int) (E, z)) ([], 0) = some (if 6 < ((bv E N).length : Int) then ([], [], 3) else (E, bv E N, 0)) := by
  obtain ⟨b, b1, b2⟩ := cl (F := o9 (N : Int) (E, z)) (fun x : List Int × Int => 0 ≤ x.2 ∧ x.2 ≤ (N : Int) ∧ x.1 = bv E x.2.toNat) (fun x => ((N : Int) - x.2).toNat) (fun b => b = if 6 < ((bv E N).length : Int) then ([], [], 3) else (E, bv E N, 0)) (fun x hp => by
    obtain ⟨l, k⟩ := x
    obtain ⟨p1, p2, p3⟩ := hp
    simp only at p1 p2 p3
    obtain ⟨k, rfl⟩ := Int.eq_ofNat_of_zero_le p1
    have hl := Bv E k
    simp only [Int.toNat_natCast] at p3
    unfold o9 qI
    simp only
    by_cases hk : (k : Int) < (N : Int)
    · rw [if_pos hk, G5 hr p1 hk]
      have e : ((k : Int) + 1).toNat = k + 1 := by omega
      simp only [Option.bind_some]
      cases hh : fT E (k : Int)
      · refine .inl ⟨_, rfl, ⟨by simp only; omega, by simp only; omega, ?_⟩, by simp only; omega⟩
        simp only [e, bv, hh, p3]; rfl
      · rw [if_pos rfl, if_pos (by rw [p3]; omega)]
        refine .inl ⟨_, rfl, ⟨by simp only; omega, by simp only; omega, ?_⟩, by simp only; omega⟩
        simp only [e, bv, hh, p3]; rfl
    · rw [if_neg hk]
      have : k = N := by omega
      subst this
      subst p3
      by_cases h6 : 6 < ((bv E k).length : Int)
      · rw [if_pos h6, if_pos h6]; exact .inr ⟨_, rfl, rfl⟩
      · rw [if_neg h6, if_neg h6]; exact .inr ⟨_, rfl, rfl⟩) ([], 0) ⟨by simp, by simp, by simp [bv]⟩
  rw [b1, b2]
end Go.Proofs.YtngimdmkomkeoaaGreat.K
