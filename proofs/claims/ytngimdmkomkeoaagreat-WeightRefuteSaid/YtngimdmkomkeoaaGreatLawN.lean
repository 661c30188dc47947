/- Weights: the document's search for the least ones; what Find and Check say. -/
import Derived.Test.YtngimdmkomkeoaaGreatLawJ
set_option linter.unusedVariables false
set_option linter.unusedSimpArgs false
namespace Go.Proofs.YtngimdmkomkeoaaGreat.K
open Go.RowKit Go.Proofs
theorem z45.lt_or {a b : List Int} (hl : a.length = b.length) (h : z45 a b) : a = b ∨ z4t a b := by
  rcases lex_total hl with h1 | h1
  · exact .inr h1
  · exact .inl (z45.antisymm hl h h1)
theorem z4t.trans : ∀ {a b c : List Int}, z4t a b → z4t b c → z4t a c
  | [], [], _, h, _ => h.elim
  | [], _ :: _, [], _, h => h.elim
  | [], _ :: _, _ :: _, _, _ => trivial
  | _ :: _, [], _, h, _ => h.elim
  | _ :: _, _ :: _, [], _, h => h.elim
  | x :: xs, y :: ys, z :: zs, h, k => by
    simp only [z4t] at h k ⊢
    rcases h with h | ⟨e, h⟩
    · rcases k with k | ⟨e, k⟩
      · exact .inl (by omega)
      · exact .inl (by omega)
    · rcases k with k | ⟨e', k⟩
      · exact .inl (by omega)
      · exact .inr ⟨by omega, h.trans k⟩
theorem set_mid (p : List Int) (a v : Int) (r : List Int) : (p ++ a :: r).set p.length v = p ++ v :: r := by
  induction p with
  | nil => rfl
  | cons x xs ih => simp [ih]
theorem nth_mid (p : List Int) (a : Int) (r : List Int) : nth (p ++ a :: r) (p.length : Int) = a := by
  rw [z48 _ _ (by simp)]; simp
theorem next_law {n : Nat} {l : List Int} (hl : Box n l) (hn : n ≤ 100) : ∃ b l', ref39_next l = some (b, l') ∧ (b = true → Box n l' ∧ z4t l l' ∧ ∀ t, Box n t → z4t l t → z45 l' t) ∧ (b = false → ∀ t, Box n t → z45 t l) := by
  unfold ref39_next
  have hlen := hl.1
  rw [z2h (by omega) (by omega)]
  simp only [Option.bind_some]
  obtain ⟨r, r1, r2⟩ := z2m (F := ref39_next_l3) (fun x : List Int × Int => ∃ (pre : List Int) (m : Nat), l = pre ++ List.replicate m 6 ∧ x.1 = pre ++ List.replicate m 0 ∧ (pre.length : Int) = x.2 + 1) (fun x => (x.2 + 1).toNat) (fun r => ∃ b l', r = (b, l') ∧ (b = true → Box n l' ∧ z4t l l' ∧ ∀ t, Box n t → z4t l t → z45 l' t) ∧ (b = false → ∀ t, Box n t → z45 t l)) (fun x hp => by
    obtain ⟨l2, i⟩ := x
    obtain ⟨pre, m, e1, e2, e3⟩ := hp
    simp only at e2 e3
    unfold ref39_next_l3
    simp only
    by_cases hi : 0 ≤ i
    · rcases List.eq_nil_or_concat pre with e | ⟨p, a, e⟩
      · subst e; simp at e3; omega
      subst e
      have hpl : (p.length : Int) = i := by simp at e3; omega
      rw [List.concat_eq_append, List.append_assoc] at e1 e2
      simp only [List.singleton_append] at e1 e2
      have hnm : n = p.length + (m + 1) := by rw [← hlen, e1]; simp
      have ha : 0 ≤ a ∧ a ≤ 6 := hl.2 a (by rw [e1]; simp)
      rw [if_pos hi, if_pos ⟨hi, by rw [e2]; simp; omega⟩, e2, ← hpl, nth_mid]
      simp only [Int.toNat_natCast]
      rw [set_mid, set_mid]
      by_cases h6 : a < 6
      · rw [if_pos h6]
        obtain ⟨n1, n2⟩ := lex_next (pre := p) (a := a) (m := m) h6
        refine .inr ⟨_, rfl, true, _, rfl, fun _ => ⟨⟨by simp [hnm], fun x hx => ?_⟩, by rw [e1]; exact n1, fun t ht hlt => n2 t (hnm ▸ ht) (by rw [← e1]; exact hlt)⟩, fun h => by cases h⟩
        rcases List.mem_append.1 hx with hx | hx
        · exact hl.2 x (by rw [e1]; exact List.mem_append_left _ hx)
        · rcases List.mem_cons.1 hx with hx | hx
          · rw [hx]; omega
          · have := List.eq_of_mem_replicate hx; omega
      · rw [if_neg h6]
        have : a = 6 := by omega
        subst this
        refine .inl ⟨_, rfl, ⟨p, m + 1, e1, by simp only [List.replicate_succ], by simp only; omega⟩, by simp only; omega⟩
    · have : pre = [] := List.eq_nil_of_length_eq_zero (by omega)
      subst this
      rw [if_neg hi]
      refine .inr ⟨_, rfl, false, _, rfl, fun h => (by cases h), fun _ t ht => ?_⟩
      rw [e1]
      have hm : m = n := by rw [← hlen, e1]; simp
      subst hm
      exact lex_last m t ht) (l, (l.length : Int) - 1) ⟨l, 0, by simp, by simp, by simp only; omega⟩
  obtain ⟨b, l', rfl, h⟩ := r2
  exact ⟨b, l', r1, h⟩
theorem tot_snoc (l : List Int) (v : Int) : tot (l ++ [v]) = tot l + v := by
  induction l with
  | nil => simp [tot]
  | cons x xs ih => simp only [List.cons_append, tot]; rw [ih]; omega
theorem tot_sum (l : List Int) : ∀ n : Nat, n ≤ l.length → tot (l.take n) = z67 (fun i => nth l i) n
  | 0, _ => by simp [tot, z67]
  | n + 1, h => by
    rw [List.take_succ_eq_append_getElem (by omega), tot_snoc, tot_sum l n (by omega)]
    simp only [z67]
    rw [z48 l n (by omega)]
theorem total_law {l : List Int} (hl : l.length ≤ 100) (hb : Bd 1000 l) : z7i l = some (tot l) := by
  unfold z7i
  obtain ⟨r, r1, r2⟩ := z2m (F := ref39_total_l1 l) (fun x : Int × Int => 0 ≤ x.2 ∧ x.2 ≤ (l.length : Int) ∧ x.1 = z67 (fun i => nth l i) x.2.toNat) (fun x => ((l.length : Int) - x.2).toNat) (fun r => r = z67 (fun i => nth l i) l.length) (fun x hp => by
    obtain ⟨s, i⟩ := x
    obtain ⟨p1, p2, p3⟩ := hp
    simp only at p1 p2 p3
    obtain ⟨i, rfl⟩ := Int.eq_ofNat_of_zero_le p1
    simp only [Int.toNat_natCast] at p3
    unfold ref39_total_l1
    simp only
    by_cases hi : (i : Int) < (l.length : Int)
    · have h1 := hb.nth p1 hi
      have h2 := sumN_bd (f := fun i => nth l i) (B := 1000) i (fun j a b => hb.nth a (by omega))
      rw [if_pos hi, if_pos ⟨p1, hi⟩, z2h (by rw [p3]; omega) (by rw [p3]; omega)]
      refine .inl ⟨_, rfl, ⟨by simp only; omega, by simp only; omega, ?_⟩, by simp only; omega⟩
      have e : ((i : Int) + 1).toNat = i + 1 := by omega
      simp only [e, z67, p3]
    · rw [if_neg hi]
      have : i = l.length := by omega
      subst this
      exact .inr ⟨_, rfl, p3⟩) (0, 0) ⟨by simp, by simp, by simp [z67]⟩
  rw [r1, r2, ← tot_sum l l.length (Nat.le_refl _), List.take_length]
theorem Box.bd {n : Nat} {l : List Int} (h : Box n l) : Bd 1000 l := fun x hx => by have := h.2 x hx; omega
theorem lowers_law {S : List (List Int)} {w : List Int} (hw : w.length ≤ 100) (h : ∀ row ∈ S, w.length ≤ row.length ∧ ∀ i : Int, 0 ≤ i → i < (w.length : Int) → -1000000 ≤ nth w i * nth row i ∧ nth w i * nth row i ≤ 1000000) :
    ref39_lowers w S = some (S.all fun row => decide (z67 (fun i => nth w i * nth row i) w.length ≤ -1)) := by
  unfold ref39_lowers
  rw [Iter_any S (fun row => !decide (z67 (fun i => nth w i * nth row i) w.length ≤ -1)) (c := false) (fin := some true) (fun i i0 i1 => by
    obtain ⟨h1, h2⟩ := h _ (z2c i0 i1)
    unfold ref39_lowers_l1
    rw [if_pos i1, if_pos ⟨i0, i1⟩, rproduct_eq, product_law h1 hw h2]
    simp only [Option.bind_some]
    by_cases hq : z67 (fun j => nth w j * nth (nth S i) j) w.length ≤ -1
    · rw [if_neg (by omega)]; simp [hq]
    · rw [if_pos (by omega)]; simp [hq]) (by unfold ref39_lowers_l1; rw [if_neg (by omega)]; rfl)]
  rw [List.all_eq_not_any_not]
  cases S.any fun row => !decide (z67 (fun i => nth w i * nth row i) w.length ≤ -1) <;> rfl
theorem nth_map {f : Int → Int} {l : List Int} {i : Int} (i0 : 0 ≤ i) (i1 : i < (l.length : Int)) : nth (l.map f) i = f (nth l i) := by
  obtain ⟨k, rfl⟩ := Int.eq_ofNat_of_zero_le i0
  rw [z48 _ k (by simp; omega), z48 _ k (by omega)]; simp
theorem rgood_law {E : List (List Int)} {N : Nat} (hr : ∀ l ∈ E, l.length = N ∧ Bd 1000 l) (h6 : (tch E N).length ≤ 6) {w : List Int} (hw : Box (tch E N).length w) : ref39_lowers w (E.map fun e => (tch E N).map fun j => nth e j) = some (good E N w) := by
  have hwl := hw.1
  rw [lowers_law (by omega) (fun row hrow => by
    obtain ⟨e, he, rfl⟩ := List.mem_map.1 hrow
    obtain ⟨h1, h2⟩ := hr e he
    refine ⟨by simp [hwl], fun i i0 i1 => ?_⟩
    obtain ⟨t0, t1, _⟩ := tch_mem (z2c (xs := tch E N) i0 (by omega))
    rw [nth_map i0 (by omega)]
    exact mul_bd (A := 1000) (B := 1000) (by omega) (by omega) (hw.bd.nth i0 i1) (h2.nth t0 (by omega)))]
  congr 1
  unfold good
  rw [List.all_map]
  refine all_congr' fun e he => ?_
  simp only [Function.comp]
  rw [hwl]
  have : z67 (fun i => nth w i * nth ((tch E N).map fun j => nth e j) i) (tch E N).length = z67 (fun i => nth e (nth (tch E N) i) * nth w i) (tch E N).length := sumN_congr _ fun i i0 i1 => by
    rw [nth_map i0 i1, Int.mul_comm]
  rw [this]
theorem narrow_law {e : List Int} {at_ : List Int} (hl : at_.length ≤ 100) (h : ∀ j ∈ at_, 0 ≤ j ∧ j < (e.length : Int)) : ref39_narrow e at_ = some (at_.map fun j => nth e j) := by
  unfold ref39_narrow
  obtain ⟨r, r1, r2⟩ := z2m (F := ref39_narrow_l1 e at_) (fun x : List Int × Int => 0 ≤ x.2 ∧ x.2 ≤ (at_.length : Int) ∧ x.1 = (at_.take x.2.toNat).map fun j => nth e j) (fun x => ((at_.length : Int) - x.2).toNat) (fun r => r = at_.map fun j => nth e j) (fun x hp => by
    obtain ⟨l, i⟩ := x
    obtain ⟨p1, p2, p3⟩ := hp
    simp only at p1 p2 p3
    unfold ref39_narrow_l1
    simp only
    have hll : l.length ≤ at_.length := by rw [p3]; simp; omega
    by_cases hi : i < (at_.length : Int)
    · obtain ⟨j0, j1⟩ := h _ (z2c p1 hi)
      rw [if_pos hi, if_pos ⟨p1, hi⟩, if_pos ⟨j0, j1⟩, if_pos (by omega)]
      refine .inl ⟨_, rfl, ⟨by simp only; omega, by simp only; omega, ?_⟩, by simp only; omega⟩
      simp only
      rw [← take_snoc at_ i p1 hi, List.map_append, p3]; rfl
    · rw [if_neg hi]
      have : i = (at_.length : Int) := by omega
      subst this
      exact .inr ⟨_, rfl, by rw [p3]; simp⟩) ([], 0) ⟨by simp, by simp, by simp⟩
  rw [r1, r2]
theorem spread_law {E : List (List Int)} {N : Nat} (hN : N ≤ 32) {l : List Int} (hl : l.length = (tch E N).length) : ∃ o, ref39_spread (N : Int) (tch E N) l = some o ∧ Sp E N o l := by
  unfold ref39_spread
  rw [if_pos ⟨by omega, by omega⟩]
  refine z2m (F := ref39_spread_l2 (tch E N) l) (fun x : List Int × Int => 0 ≤ x.2 ∧ x.2 ≤ ((tch E N).length : Int) ∧ OutOk E N x.1 ∧ ∀ i : Int, 0 ≤ i → i < x.2 → nth x.1 (nth (tch E N) i) = nth l i) (fun x => (((tch E N).length : Int) - x.2).toNat) _ (fun x hp => ?_) _ ⟨by simp, by simp, ⟨by simp, fun j j0 j1 _ => ?_⟩, fun i a b => by simp at b; omega⟩
  rotate_left
  · obtain ⟨k, rfl⟩ := Int.eq_ofNat_of_zero_le j0
    rw [z48 _ k (by simp; omega)]; simp
  obtain ⟨w, i⟩ := x
  obtain ⟨p1, p2, p3, p4⟩ := hp
  simp only at p1 p2 p3 p4
  unfold ref39_spread_l2
  simp only
  by_cases hi : i < ((tch E N).length : Int)
  · obtain ⟨t0, t1, t2⟩ := tch_mem (z2c p1 hi)
    have hwl := p3.len
    rw [if_pos hi, if_pos ⟨p1, hi⟩, if_pos ⟨p1, by omega⟩, if_pos ⟨t0, by omega⟩]
    refine .inl ⟨_, rfl, ⟨by simp only; omega, by simp only; omega, ⟨by simp [hwl], fun j j0 j1 hh => ?_⟩, fun k k0 k1 => ?_⟩, by simp only; omega⟩
    · simp only
      have hne : j ≠ nth (tch E N) i := fun e => by rw [e, t2] at hh; cases hh
      rw [nth_set_ne t0 hne j0]
      exact p3.z j j0 j1 hh
    · simp only at k1 ⊢
      by_cases e : k = i
      · subst e; rw [nth_set_eq t0 (by omega)]
      · have hk : k < ((tch E N).length : Int) := by omega
        obtain ⟨s0, s1, _⟩ := tch_mem (z2c k0 hk)
        have hne : nth (tch E N) k ≠ nth (tch E N) i := by
          have := nodup_nth.1 (tch_nodup E N)
          rcases Int.lt_trichotomy k i with h | h | h
          · exact (this i k k0 h hi).symm
          · exact absurd h e
          · exact this k i p1 h hk
        rw [nth_set_ne t0 hne s0]
        exact p4 k k0 (by omega)
  · rw [if_neg hi]
    exact .inr ⟨_, rfl, p3, fun k k0 k1 => p4 k k0 (by omega)⟩
structure Seen (n : Nat) (G : List Int → Bool) (b : List Int) (f : Bool) (t : List Int) : Prop where
  s : G t = true → f = true ∧ (tot b < tot t ∨ (tot b = tot t ∧ z45 b t))
theorem seen_step {n : Nat} {G : List Int → Bool} {b w : List Int} {f : Bool} (hw : Box n w) (hb : f = true → Box n b ∧ G b = true ∧ z4t b w) {t : List Int} (ht : Box n t) (hs : z4t t w → Seen n G b f t) (hle : z45 t w) :
    (¬ ((f = false ∨ tot w < tot b) ∧ G w = true) → Seen n G b f t) ∧ ((f = false ∨ tot w < tot b) ∧ G w = true → Seen n G w true t) := by
  rcases hle.lt_or (ht.1.trans hw.1.symm) with e | h
  · subst e
    refine ⟨fun hn => ⟨fun hg => ?_⟩, fun _ => ⟨fun _ => ⟨rfl, .inr ⟨rfl, z45.refl _⟩⟩⟩⟩
    cases f
    · exact absurd ⟨.inl rfl, hg⟩ hn
    · refine ⟨rfl, ?_⟩
      have h1 : ¬ tot t < tot b := fun h => hn ⟨.inr h, hg⟩
      have h2 := (hb rfl).2.2.le
      by_cases h3 : tot b < tot t
      · exact .inl h3
      · exact .inr ⟨by omega, h2⟩
  · have hq := hs h
    refine ⟨fun _ => hq, fun hc => ⟨fun hg => ⟨rfl, ?_⟩⟩⟩
    obtain ⟨h1, h2⟩ := hq.s hg
    rcases hc.1 with h3 | h3
    · rw [h3] at h1; cases h1
    · left
      rcases h2 with h2 | h2 <;> omega
theorem refbest_law {E : List (List Int)} {N : Nat} (hr : ∀ l ∈ E, l.length = N ∧ Bd 1000 l) (hN : N ≤ 32) (h6 : (tch E N).length ≤ 6) (z : Int) :
    ∃ r, z2n (ref39_Find_l22 (N : Int) (tch E N) (E.map fun e => (tch E N).map fun j => nth e j, z)) (List.replicate (tch E N).length 0, [], false, true) = some r ∧
      ((r.2 = 0 ∧ ∃ l, Best (tch E N).length (fun l => good E N l = true) l ∧ Sp E N r.1 l) ∨ (r = ([], 10) ∧ ∀ t, Box (tch E N).length t → ¬ good E N t = true)) := by
  generalize hn : (tch E N).length = n at h6
  refine z2m (F := ref39_Find_l22 (N : Int) (tch E N) (E.map fun e => (tch E N).map fun j => nth e j, z))
    (fun x : List Int × List Int × Bool × Bool => (x.2.2.1 = true → Box n x.2.1 ∧ good E N x.2.1 = true) ∧ (x.2.2.2 = true → Box n x.1 ∧ (x.2.2.1 = true → z4t x.2.1 x.1) ∧ ∀ t, Box n t → z4t t x.1 → Seen n (good E N) x.2.1 x.2.2.1 t) ∧ (x.2.2.2 = false → ∀ t, Box n t → Seen n (good E N) x.2.1 x.2.2.1 t))
    (fun x => if x.2.2.2 = true then 7 ^ n - code x.1 + 1 else 0) _ (fun x hp => ?_) _ ⟨fun h => (by cases h), fun _ => ⟨⟨by simp, fun x hx => by simp at hx; omega⟩, fun h => (by cases h), fun t ht hlt => ?_⟩, fun h => by cases h⟩
  rotate_left
  · exfalso
    have : ∀ (m : Nat) (t : List Int), Box m t → ¬ z4t t (List.replicate m 0) := by
      intro m
      induction m with
      | zero => intro t ht h; rw [ht.nil] at h; exact h
      | succ m ih =>
        intro t ht h
        obtain ⟨y, u, rfl, hy, hu⟩ := ht.succ
        rw [List.replicate_succ] at h
        simp only [z4t] at h
        rcases h with h | ⟨_, h⟩
        · omega
        · exact ih u hu h
    exact this n t ht hlt
  obtain ⟨w, b, f, m⟩ := x
  obtain ⟨p1, p2, p3⟩ := hp
  simp only at p1 p2 p3
  unfold ref39_Find_l22
  simp only
  cases m
  · -- the end
    have p4 := p3 rfl
    rw [if_neg (by simp)]
    cases f
    · rw [if_pos (by simp)]
      exact .inr ⟨_, rfl, .inr ⟨rfl, fun t ht hg => by have := ((p4 t ht).s hg).1; cases this⟩⟩
    · rw [if_neg (by simp)]
      obtain ⟨q1, q2⟩ := p1 rfl
      obtain ⟨o, o1, o2⟩ := spread_law hN (q1.1.trans hn.symm)
      rw [o1]
      exact .inr ⟨(o, 0), rfl, .inl ⟨rfl, b, ⟨q1, q2, fun t ht hg => ((p4 t ht).s hg).2⟩, o2⟩⟩
  · obtain ⟨hw, hbw, hs⟩ := p2 rfl
    have hlow := rgood_law hr (by omega) (hn ▸ hw)
    have hcl := code_lt hw
    obtain ⟨nb, w', n1, n2, n3⟩ := next_law hw (by omega)
    -- what happens behind the choice
    have go : ∀ (b' : List Int) (f' : Bool), (f' = true → Box n b' ∧ good E N b' = true ∧ z45 b' w) → (∀ t, Box n t → z45 t w → Seen n (good E N) b' f' t) →
        ∃ x', ref39_Find_j51 (w, b, f, true) (b', f') = some (.inl x') ∧ ((x'.2.2.1 = true → Box n x'.2.1 ∧ good E N x'.2.1 = true) ∧ (x'.2.2.2 = true → Box n x'.1 ∧ (x'.2.2.1 = true → z4t x'.2.1 x'.1) ∧ ∀ t, Box n t → z4t t x'.1 → Seen n (good E N) x'.2.1 x'.2.2.1 t) ∧ (x'.2.2.2 = false → ∀ t, Box n t → Seen n (good E N) x'.2.1 x'.2.2.1 t)) ∧ (if x'.2.2.2 = true then 7 ^ n - code x'.1 + 1 else 0) < 7 ^ n - code w + 1 := by
      intro b' f' h1 h2
      unfold ref39_Find_j51
      simp only
      rw [n1]
      refine ⟨(w', b', f', nb), rfl, ⟨fun h => ⟨(h1 h).1, (h1 h).2.1⟩, fun h => ?_, fun h t ht => ?_⟩, ?_⟩
      · simp only at h ⊢
        obtain ⟨m1, m2, m3⟩ := n2 h
        refine ⟨m1, fun hf => ?_, fun t ht hlt => h2 t ht ?_⟩
        · obtain ⟨k1, _, k3⟩ := h1 hf
          rcases k3.lt_or (k1.1.trans hw.1.symm) with e | k3
          · rw [e]; exact m2
          · exact k3.trans m2
        · rcases lex_total (a := w) (b := t) (hw.1.trans ht.1.symm) with h3 | h3
          · exact absurd (m3 t ht h3) (hlt.not_le (ht.1.trans m1.1.symm))
          · exact h3
      · exact h2 t ht (n3 h t ht)
      · simp only
        cases nb
        · simp
        · obtain ⟨m1, m2, _⟩ := n2 rfl
          have hc := m2.code hw m1
          have := code_lt m1
          simp only [if_true]
          omega
    have base := fun (t : List Int) (ht : Box n t) (hle : z45 t w) => seen_step (b := b) (f := f) (G := good E N) hw (fun h => ⟨(p1 h).1, (p1 h).2, hbw h⟩) ht (hs t ht) hle
    have keep : ¬ ((f = false ∨ tot w < tot b) ∧ good E N w = true) → ∃ x', z8q (w, b, f, true) () = some (.inl x') ∧ ((x'.2.2.1 = true → Box n x'.2.1 ∧ good E N x'.2.1 = true) ∧ (x'.2.2.2 = true → Box n x'.1 ∧ (x'.2.2.1 = true → z4t x'.2.1 x'.1) ∧ ∀ t, Box n t → z4t t x'.1 → Seen n (good E N) x'.2.1 x'.2.2.1 t) ∧ (x'.2.2.2 = false → ∀ t, Box n t → Seen n (good E N) x'.2.1 x'.2.2.1 t)) ∧ (if x'.2.2.2 = true then 7 ^ n - code x'.1 + 1 else 0) < 7 ^ n - code w + 1 := fun hc => by
      unfold z8q
      exact go b f (fun h => ⟨(p1 h).1, (p1 h).2, (hbw h).le⟩) fun t ht hle => (base t ht hle).1 hc
    have take : (f = false ∨ tot w < tot b) ∧ good E N w = true → ∃ x', ref39_Find_j46 (w, b, f, true) () = some (.inl x') ∧ ((x'.2.2.1 = true → Box n x'.2.1 ∧ good E N x'.2.1 = true) ∧ (x'.2.2.2 = true → Box n x'.1 ∧ (x'.2.2.1 = true → z4t x'.2.1 x'.1) ∧ ∀ t, Box n t → z4t t x'.1 → Seen n (good E N) x'.2.1 x'.2.2.1 t) ∧ (x'.2.2.2 = false → ∀ t, Box n t → Seen n (good E N) x'.2.1 x'.2.2.1 t)) ∧ (if x'.2.2.2 = true then 7 ^ n - code x'.1 + 1 else 0) < 7 ^ n - code w + 1 := fun hc => by
      unfold ref39_Find_j46
      have := hw.1
      rw [if_pos (by simp only; omega)]
      exact go w true (fun _ => ⟨hw, hc.2, z45.refl _⟩) fun t ht hle => (base t ht hle).2 hc
    left
    simp only [if_true]
    cases f
    · simp only [Bool.not_false, if_true]
      rw [hlow]
      simp only [Option.bind_some]
      cases hg : good E N w
      · simp only [Bool.false_eq_true, if_false]; exact keep fun h => by rw [h.2] at hg; cases hg
      · simp only [if_true]; exact take ⟨.inl rfl, hg⟩
    · have hbb := (p1 rfl).1
      simp only [Bool.not_true, Bool.false_eq_true, if_false]
      rw [total_law (by have := hw.1; omega) hw.bd, total_law (by have := hbb.1; omega) hbb.bd]
      simp only [Option.bind_some]
      by_cases ht : tot w < tot b
      · rw [if_pos ht, hlow]
        simp only [Option.bind_some]
        cases hg : good E N w
        · simp only [Bool.false_eq_true, if_false]; exact keep fun h => by rw [h.2] at hg; cases hg
        · simp only [if_true]; exact take ⟨.inr ht, hg⟩
      · rw [if_neg ht]
        exact keep fun h => h.1.elim (fun h => by cases h) ht
theorem rfind_law {T : z06} {rules : List z0z} {E : List (List Int)} {N : Nat} (hE : EffsOk T rules E N) (he : z6i T rules = some (E, 0)) :
    ∃ r, ref39_Find T rules = some r ∧ ((r.2 = 0 ∧ ∃ l, Best (tch E N).length (fun l => good E N l = true) l ∧ Sp E N r.1 l) ∨ (r = ([], 10) ∧ ∀ t, Box (tch E N).length t → ¬ good E N t = true)) := by
  have hN := hE.n; have h32 := hE.n32; have hsix := hE.six
  unfold ref39_Find
  rw [he]
  simp only [Option.bind_some, not_true_eq_false, if_false]
  rw [z2h (by omega) (by omega), ← hN]
  rw [touched_law (fun l hl => (hE.row l hl).1) (by omega)]
  simp only [Option.bind_some]
  refine z2m (F := ref39_Find_l8 (E, 0) (N : Int) (tch E N)) (fun x : List (List Int) × Int => 0 ≤ x.2 ∧ x.2 ≤ (E.length : Int) ∧ x.1 = (E.take x.2.toNat).map fun e => (tch E N).map fun j => nth e j) (fun x => ((E.length : Int) - x.2).toNat) _ (fun x hp => ?_) ([], 0) ⟨by simp, by simp, by simp⟩
  obtain ⟨S, i⟩ := x
  obtain ⟨p1, p2, p3⟩ := hp
  simp only at p1 p2 p3
  unfold ref39_Find_l8
  simp only
  have hSl : S.length ≤ E.length := by rw [p3]; simp; omega
  by_cases hi : i < (E.length : Int)
  · have hrow := (hE.row _ (z2c p1 hi)).1
    have hf := hE.few
    rw [if_pos hi, if_pos ⟨p1, hi⟩, narrow_law (by omega) (fun j hj => by obtain ⟨a, b, _⟩ := tch_mem hj; exact ⟨a, by omega⟩)]
    simp only [Option.bind_some]
    rw [if_pos (by omega)]
    refine .inl ⟨_, rfl, ⟨by simp only; omega, by simp only; omega, ?_⟩, by simp only; omega⟩
    simp only
    rw [← take_snoc E i p1 hi, List.map_append, p3]; rfl
  · rw [if_neg hi]
    have : i = (E.length : Int) := by omega
    subst this
    have hf := hE.few
    rw [if_pos ⟨by omega, by omega⟩]
    obtain ⟨r, r1, r2⟩ := refbest_law hE.row (by omega) hE.few (E.length : Int)
    have e1 : S = E.map fun e => (tch E N).map fun j => nth e j := by rw [p3]; simp
    simp only [Int.toNat_natCast]
    rw [e1, r1]
    exact .inr ⟨r, rfl, r2⟩
theorem zeros_ok (E : List (List Int)) (N : Nat) : OutOk E N (List.replicate N 0) := ⟨by simp, fun j j0 j1 _ => by
  obtain ⟨k, rfl⟩ := Int.eq_ofNat_of_zero_le j0
  rw [z48 _ k (by simp; omega)]; simp⟩
theorem pfind_law {T : z06} {rules : List z0z} {E : List (List Int)} {N : Nat} (hE : EffsOk T rules E N) (he : z3b T rules = some (E, tch E N, 0)) :
    ∃ r, z99 T rules = some r ∧ ((r.2 = 0 ∧ ∃ l, Best (tch E N).length (fun l => good E N l = true) l ∧ Sp E N r.1 l) ∨ (r = ([], 10) ∧ ∀ t, Box (tch E N).length t → ¬ good E N t = true)) := by
  have hN := hE.n; have h32 := hE.n32
  unfold z99
  rw [he]
  simp only [Option.bind_some, not_true_eq_false, if_false]
  rw [z2h (by omega) (by omega), ← hN, if_pos ⟨by omega, by omega⟩]
  simp only [Int.toNat_natCast]
  obtain ⟨r, r1, r2⟩ := least_law hE.row (by omega) hE.few (zeros_ok E N)
  rw [r1]
  simp only [Option.bind_some]
  rcases r2 with ⟨h1, h2, h3⟩ | ⟨h1, h2⟩
  · rw [h1]
    exact ⟨(r.2.2, 0), rfl, .inl ⟨rfl, r.1, h2, h3⟩⟩
  · rw [h1]
    exact ⟨([], 10), rfl, .inr ⟨rfl, h2⟩⟩
theorem find_law {T : z06} (hf : FewT T) {rules : List z0z} (hr : ∀ r ∈ rules, FewR r) : ∃ r, z99 T rules = some r ∧ ref39_Find T rules = some r ∧
    (r.2 = 0 → ∃ E N l, EffsOk T rules E N ∧ z3b T rules = some (E, tch E N, 0) ∧ Box (tch E N).length l ∧ good E N l = true ∧ Sp E N r.1 l) ∧
    (∀ E N, EffsOk T rules E N → z3b T rules = some (E, tch E N, 0) → (∀ t, Box (tch E N).length t → ¬ good E N t = true) → r.2 = 10) := by
  rcases effects_law hf hr with ⟨c, h1, h2, h3⟩ | ⟨E, N, hE, h2, h3⟩
  · refine ⟨([], c), ?_, ?_, fun e => absurd e h1, fun E N _ h4 _ => ?_⟩
    · unfold z99; rw [h2]; simp [h1]
    · unfold ref39_Find; rw [h3]; simp [h1]
    · rw [h2] at h4
      have h5 : c = 0 := by injection h4 with h4; injection h4 with _ h4; injection h4
      exact absurd h5 h1
  · obtain ⟨r, r1, r2⟩ := pfind_law hE h2
    obtain ⟨s, s1, s2⟩ := rfind_law hE h3
    have e : s = r := by
      rcases r2 with ⟨a1, l, a2, a3⟩ | ⟨a1, a2⟩
      · rcases s2 with ⟨b1, l', b2, b3⟩ | ⟨_, b2⟩
        · have := a2.uniq b2
          subst this
          exact Prod.ext (b3.uniq a3) (b1.trans a1.symm)
        · exact absurd a2.2.1 (b2 l a2.1)
      · rcases s2 with ⟨b1, l', b2, b3⟩ | ⟨b1, _⟩
        · exact absurd b2.2.1 (a2 l' b2.1)
        · rw [a1, b1]
    subst e
    refine ⟨s, r1, s1, fun h0 => ?_, fun E' N' hE' h4 hno => ?_⟩
    · rcases r2 with ⟨a1, l, a2, a3⟩ | ⟨a1, _⟩
      · exact ⟨E, N, l, hE, h2, a2.1, a2.2.1, a3⟩
      · rw [a1] at h0; cases h0
    · rw [h2] at h4
      have e1 : E = E' := by injection h4 with h4; injection h4
      subst e1
      have e2 : N = N' := by have := hE.n; have := hE'.n; omega
      subst e2
      rcases r2 with ⟨a1, l, a2, a3⟩ | ⟨a1, _⟩
      · exact absurd a2.2.1 (hno l a2.1)
      · rw [a1]
theorem natural_yes {w : List Int} {n : Int} (h : (w.length : Int) = n) : (∀ x ∈ w, 0 ≤ x ∧ x ≤ 1000) → weight_natural w n = some true := fun hb => by
  unfold weight_natural
  rw [if_pos h, cont_int, cont_any (q := fun x => !decide (0 ≤ x ∧ x ≤ 1000)) w (fun x _ => by
    unfold weight_natural_1
    by_cases h0 : x < 0
    · rw [if_pos h0]; simp; omega
    · rw [if_neg h0]; congr 1; by_cases h1 : 1000 < x <;> simp [h1] <;> omega)]
  have : w.any (fun x => !decide (0 ≤ x ∧ x ≤ 1000)) = false := by
    rw [List.any_eq_false]
    intro x hx
    simp [hb x hx]
  rw [this]; rfl
end Go.Proofs.YtngimdmkomkeoaaGreat.K
