/- Type graphs: the program and the document's answer say the same of any small one. -/
import Derived.Test.YtngimdmkomkeoaaGreatLawV
set_option linter.unusedVariables false
set_option linter.unusedSimpArgs false
namespace Go.Proofs.YtngimdmkomkeoaaGreat.K
open Go.RowKit Go.Proofs
theorem upto_law {α β : Type} [Inhabited α] (xs : List α) (k : Nat) (hk : (k : Int) ≤ (xs.length : Int)) {q : α → Prop} [DecidablePred q] {F : Int → Option (Int ⊕ β)} {c : β} {fin : Option β}
    (h1 : ∀ i : Int, 0 ≤ i → i < (k : Int) → F i = if q (nth xs i) then some (.inr c) else some (.inl (i + 1))) (h2 : F (k : Int) = fin.map .inr) :
    ((∃ x ∈ cut xs 0 k, q x) → z2l F 0 = some c) ∧ ((∀ x ∈ cut xs 0 k, ¬ q x) → z2l F 0 = fin) := by
  have e : z2l F 0 = scanN (fun i => if q (nth xs i) then some c else none) 0 k fin := by
    refine z4m _ _ (fun i a b => ?_) h2
    rw [h1 i a b]
    by_cases hq : q (nth xs i) <;> simp [hq]
  have s := scanN_if (step := fun i => if q (nth xs i) then some c else none) (p := fun i => q (nth xs i)) (c := c) (fin := fin) k (fun i _ _ => rfl)
  rw [e]
  have hl := len_cut0 (xs := xs) (k := (k : Int)) (by omega) hk
  refine ⟨fun ⟨x, hx, hq⟩ => s.1 ?_, fun h => s.2 fun i a b hq => ?_⟩
  · obtain ⟨i, i0, i1, e⟩ := z80 hx
    refine ⟨i, i0, by omega, ?_⟩
    rw [← nth_cut0 (k := (k : Int)) i0 (by omega) hk, e]; exact hq
  · refine h _ ?_ hq
    have := z2u (xs := cut xs 0 (k : Int)) a (by omega)
    rwa [nth_cut0 a b hk] at this
theorem contNT : z3u = ContG := rfl
theorem contET : z3v = ContG := rfl
theorem contAT : z4o = ContG := rfl
theorem rin_eq (a b c : Int) : z5k a b c = some (decide (b ≤ a ∧ a ≤ c)) := by
  unfold z5k; by_cases h : b ≤ a <;> simp [h]
def AttrFew (a : z0r) : Prop := (a.Name.size : Int) ≤ 40 ∧ (a.Names.length : Int) ≤ 25 ∧ ∀ s ∈ a.Names, (s.size : Int) ≤ 40
structure FewT (T : z06) : Prop where
  nn : ∀ i : Int, 0 ≤ i → i < (T.Nodes.length : Int) → ((nth T.Nodes i).Name.size : Int) ≤ 40 ∧ ((nth T.Nodes i).Attrs.length : Int) ≤ 30 ∧ ∀ a ∈ (nth T.Nodes i).Attrs, AttrFew a
  en : ∀ i : Int, 0 ≤ i → i < (T.Edges.length : Int) → ((nth T.Edges i).Name.size : Int) ≤ 40
theorem names_law (xs : List ByteArray) (hs : ∀ s ∈ xs, (s.size : Int) ≤ 40) : ∃ c, z8w xs = some c ∧ ref04_names xs = some c := by
  unfold z8w ref04_names
  split
  · exact ⟨_, rfl, rfl⟩
  · rename_i hl
    have := z4j (F := types_names_l2 xs) (G := ref04_names_l2 xs) (fun x => 0 ≤ x ∧ x ≤ (xs.length : Int)) (fun x => ((xs.length : Int) - x).toNat) (fun _ => True) (fun x ⟨x0, x1⟩ => ?_) 0 ⟨by omega, by omega⟩
    · obtain ⟨b, h1, h2, _⟩ := this; exact ⟨b, h1, h2⟩
    · unfold types_names_l2 ref04_names_l2
      split
      · rename_i hx
        obtain ⟨k, rfl⟩ := Int.eq_ofNat_of_zero_le x0
        obtain ⟨b, e1, e2⟩ := isName_law (nth xs k) (by have := hs _ (z2u x0 hx); omega)
        have hkk : 0 ≤ (k : Int) ∧ (k : Int) < (xs.length : Int) := ⟨x0, hx⟩
        have hcc : 0 ≤ (0 : Int) ∧ (0 : Int) ≤ (k : Int) ∧ (k : Int) ≤ (xs.length : Int) := ⟨by omega, by omega, by omega⟩
        rw [if_pos hkk, if_pos hkk, e1, e2]
        cases b
        · exact .inr ⟨2, by simp, by simp, trivial⟩
        · simp only [Option.bind_some, Bool.not_true, Bool.false_eq_true, if_false]
          rw [if_pos hcc]
          obtain ⟨d, e3, e4⟩ := contS (cut xs 0 k) (nth xs k)
          have u := upto_law xs k (by omega) (q := fun y => y = nth xs k) (F := za2 xs k) (c := .inr 5) (fin := some (.inl ((k : Int) + 1))) (fun i a b => by
            unfold za2
            rw [if_pos b, if_pos ⟨a, by omega⟩]) (by unfold za2; rw [if_neg (by omega)]; rfl)
          rw [e3]
          cases d
          · rw [u.2 (fun y hy e => by have := e4.2 (e ▸ hy); cases this)]
            exact .inl ⟨_, by simp, rfl, ⟨by omega, by omega⟩, by omega⟩
          · rw [u.1 ⟨_, e4.1 rfl, rfl⟩]
            exact .inr ⟨_, by simp, rfl, trivial⟩
      · exact .inr ⟨_, rfl, rfl, trivial⟩
theorem names_nil : z8w [] = some 0 := by
  unfold z8w
  rw [if_neg (by simp)]
  exact z8g (by unfold types_names_l2; simp)
theorem attribute_law (a : z0r) (hf : AttrFew a) : ∃ c, z3o a = some c ∧ ∀ before, z4u a.Name = some true → (∀ x ∈ before, ¬ x.Name = a.Name) → z4x a before = some c := by
  have key : ∀ c, z3o a = some c → (∀ n, z8w a.Names = some n → (¬ n = 0 → c = n) ∧ (n = 0 → c = if (if 0 < (a.Names.length : Int) then decide (a.Low = 0 ∧ a.High = (a.Names.length : Int) - 1) else decide (-1000000 ≤ a.Low ∧ a.Low ≤ a.High ∧ a.High ≤ 1000000)) = true then 0 else 6)) → ∀ before, z4u a.Name = some true → (∀ x ∈ before, ¬ x.Name = a.Name) → z4x a before = some c := by
    intro c hc h before hn hb
    obtain ⟨n, e1, _⟩ := names_law a.Names hf.2.2
    obtain ⟨b, f1, f2⟩ := cont_law (p := fun x => z5n x a) (q := fun x => x.Name = a.Name) before (fun x _ => ⟨_, rfl, by simp⟩)
    have fb : b = false := by
      cases b
      · rfl
      · obtain ⟨x, hx, e⟩ := f2.1 rfl; exact absurd e (hb x hx)
    subst fb
    unfold z4x
    rw [hn, contAT, f1, e1]
    simp only [Option.bind_some, Bool.not_true, Bool.false_eq_true, if_false]
    obtain ⟨k1, k2⟩ := h n e1
    by_cases h0 : n = 0
    · rw [if_neg (by simp [h0]), k2 h0]
      unfold z4w z62 z61
      by_cases p1 : 0 < (a.Names.length : Int)
      · simp only [p1, if_true]
        by_cases p2 : a.Low = 0 <;> by_cases p3 : a.High = (a.Names.length : Int) - 1 <;> by_cases q1 : -1000000 ≤ a.Low <;> by_cases q2 : a.Low ≤ a.High <;> simp [p2, p3, q1, q2] <;> omega
      · simp only [p1, if_false]
        by_cases q1 : -1000000 ≤ a.Low <;> by_cases q2 : a.Low ≤ a.High <;> by_cases q3 : a.High ≤ 1000000 <;> simp [q1, q2, q3]
    · rw [if_pos h0, k1 h0]
  obtain ⟨n, e1, e2⟩ := names_law a.Names hf.2.2
  by_cases hl : (a.Names.length : Int) = 0
  · have hnil : a.Names = [] := List.eq_nil_of_length_eq_zero (by omega)
    refine ⟨if decide (-1000000 ≤ a.Low ∧ a.Low ≤ a.High ∧ a.High ≤ 1000000) = true then 0 else 6, ?_, key _ ?_ ?_⟩
    · unfold z3o
      rw [if_pos hl, rin_eq, rin_eq]
      by_cases q1 : -1000000 ≤ a.Low <;> by_cases q2 : a.Low ≤ a.High <;> by_cases q3 : a.High ≤ 1000000 <;> simp [q1, q2, q3] <;> omega
    · unfold z3o
      rw [if_pos hl, rin_eq, rin_eq]
      by_cases q1 : -1000000 ≤ a.Low <;> by_cases q2 : a.Low ≤ a.High <;> by_cases q3 : a.High ≤ 1000000 <;> simp [q1, q2, q3] <;> omega
    · intro n hn
      rw [hnil, names_nil] at hn
      cases hn
      refine ⟨fun h => absurd rfl h, fun _ => ?_⟩
      rw [hnil]; simp
  · have hc : z3o a = some (if ¬ n = 0 then n else if decide (a.Low = 0 ∧ a.High = (a.Names.length : Int) - 1) = true then 0 else 6) := by
      unfold z3o
      rw [if_neg hl, e2]
      by_cases h0 : n = 0 <;> by_cases p2 : a.Low = 0 <;> by_cases p3 : a.High = (a.Names.length : Int) - 1 <;> simp [h0, p2, p3]
    refine ⟨_, hc, key _ hc fun m hm => ?_⟩
    rw [e1] at hm; cases hm
    refine ⟨fun h => by rw [if_pos h], fun h => ?_⟩
    rw [if_neg (by simp [h]), if_pos (show 0 < (a.Names.length : Int) by omega)]
inductive AtO (T : z06) : Int → List z0r → Prop
  | root {i : Int} (h : (nth T.Nodes i).Parent < 0) : AtO T i (nth T.Nodes i).Attrs
  | up {i : Int} {l : List z0r} (h : 0 ≤ (nth T.Nodes i).Parent) (t : AtO T (nth T.Nodes i).Parent l) : AtO T i (l ++ (nth T.Nodes i).Attrs)
theorem AtO.det {T : z06} {i : Int} {l l' : List z0r} (h : AtO T i l) (h' : AtO T i l') : l = l' := by
  induction h generalizing l' with
  | root h =>
    cases h' with
    | root => rfl
    | up h2 => omega
  | up h _ ih =>
    cases h' with
    | root h2 => omega
    | up h2 t => rw [ih t]
def Par (T : z06) (i : Int) : Prop := ∀ k : Int, 0 ≤ k → k ≤ i → -1 ≤ (nth T.Nodes k).Parent ∧ (nth T.Nodes k).Parent < k
theorem Par.down {T : z06} {i j : Int} (h : Par T i) (hj : j ≤ i) : Par T j := fun k a b => h k a (by omega)
theorem AtO.few {T : z06} (hf : FewT T) {i : Int} {l : List z0r} (h : AtO T i l) : 0 ≤ i → i < (T.Nodes.length : Int) → Par T i → (l.length : Int) ≤ 30 * (i + 1) ∧ (∀ a ∈ l, AttrFew a) ∧ ∃ pre, l = pre ++ (nth T.Nodes i).Attrs := by
  induction h with
  | @root i h =>
    intro h0 h1 hp
    obtain ⟨_, b, c⟩ := hf.nn i h0 h1
    exact ⟨by omega, c, [], rfl⟩
  | @up i l h _ ih =>
    intro h0 h1 hp
    obtain ⟨_, b, c⟩ := hf.nn i h0 h1
    have hpi := hp i h0 (by omega)
    obtain ⟨i1, i2, _⟩ := ih h (by omega) (hp.down (by omega))
    refine ⟨by rw [List.length_append]; omega, fun a ha => (List.mem_append.1 ha).elim (i2 a) (c a), l, rfl⟩
theorem attrsN {T : z06} (hf : FewT T) (hn : (T.Nodes.length : Int) ≤ 12) : ∀ (n : Nat) (i : Int), 0 ≤ i → i < (T.Nodes.length : Int) → Par T i → (∀ l, z42 n T i = some l → AtO T i l) ∧ (i < n → ∃ l, z42 n T i = some l)
  | 0, i, h0, h1, hp => ⟨fun l h => (by cases h), fun h => by omega⟩
  | n + 1, i, h0, h1, hp => by
    show (∀ l, z9n (z42 n) T i = some l → AtO T i l) ∧ (i < ((n + 1 : Nat) : Int) → ∃ l, z9n (z42 n) T i = some l)
    have hpi := hp i h0 (by omega)
    have a1 := (hf.nn i h0 h1).2.1
    unfold z9n types_attrs_j6
    rw [if_pos ⟨h0, h1⟩]
    by_cases hq : 0 ≤ (nth T.Nodes i).Parent
    · rw [if_pos hq]
      have ih := attrsN hf hn n (nth T.Nodes i).Parent hq (by omega) (hp.down (by omega))
      have key : ∀ l', z42 n T (nth T.Nodes i).Parent = some l' → (l'.length : Int) ≤ 360 ∧ AtO T i (l' ++ (nth T.Nodes i).Attrs) := fun l' hc => by
        have hg := ih.1 l' hc
        have := (hg.few hf hq (by omega) (hp.down (by omega))).1
        exact ⟨by omega, .up hq hg⟩
      constructor
      · intro l h
        cases hc : z42 n T (nth T.Nodes i).Parent with
        | none => rw [hc] at h; cases h
        | some l' =>
          rw [hc] at h
          obtain ⟨k1, k2⟩ := key l' hc
          simp only [Option.bind_some] at h
          rw [if_pos (by omega)] at h
          cases h; exact k2
      · intro hi
        obtain ⟨l', hc⟩ := ih.2 (by omega)
        obtain ⟨k1, k2⟩ := key l' hc
        rw [hc, Option.bind_some, if_pos (by omega)]
        exact ⟨_, rfl⟩
    · rw [if_neg hq, if_pos (by simp; omega)]
      exact ⟨fun l h => (by cases h; exact .root (by omega)), fun _ => ⟨_, rfl⟩⟩
theorem rattrsN {T : z06} (hf : FewT T) (hn : (T.Nodes.length : Int) ≤ 12) : ∀ (n : Nat) (i : Int), i < (T.Nodes.length : Int) → Par T i → (∀ l, z44 n T i = some l → (0 ≤ i → AtO T i l) ∧ (i < 0 → l = [])) ∧ (max i (-1) + 1 < n → ∃ l, z44 n T i = some l)
  | 0, i, h1, hp => ⟨fun l h => (by cases h), fun h => by omega⟩
  | n + 1, i, h1, hp => by
    show (∀ l, za3 (z44 n) T i = some l → (0 ≤ i → AtO T i l) ∧ (i < 0 → l = [])) ∧ (max i (-1) + 1 < ((n + 1 : Nat) : Int) → ∃ l, za3 (z44 n) T i = some l)
    unfold za3
    by_cases hi : i < 0
    · rw [if_pos hi]
      exact ⟨fun l h => (by cases h; exact ⟨fun h => by omega, fun _ => rfl⟩), fun _ => ⟨_, rfl⟩⟩
    · have h0 : 0 ≤ i := by omega
      have hpi := hp i h0 (by omega)
      have a1 := (hf.nn i h0 h1).2.1
      rw [if_neg hi, if_pos ⟨h0, h1⟩]
      have ih := rattrsN hf hn n (nth T.Nodes i).Parent (by omega) (hp.down (by omega))
      have key : ∀ l', z44 n T (nth T.Nodes i).Parent = some l' → (l'.length : Int) ≤ 360 ∧ AtO T i (l' ++ (nth T.Nodes i).Attrs) := fun l' hc => by
        have := ih.1 l' hc
        by_cases hq : 0 ≤ (nth T.Nodes i).Parent
        · have hg := this.1 hq
          have := (hg.few hf hq (by omega) (hp.down (by omega))).1
          exact ⟨by omega, .up hq hg⟩
        · have e := this.2 (by omega)
          subst e
          exact ⟨by simp, .root (by omega)⟩
      constructor
      · intro l h
        cases hc : z44 n T (nth T.Nodes i).Parent with
        | none => rw [hc] at h; cases h
        | some l' =>
          rw [hc] at h
          obtain ⟨k1, k2⟩ := key l' hc
          simp only [Option.bind_some] at h
          rw [if_pos (by omega), if_pos (by omega)] at h
          cases h
          exact ⟨fun _ => k2, fun h => by omega⟩
      · intro hlt
        obtain ⟨l', hc⟩ := ih.2 (by omega)
        obtain ⟨k1, k2⟩ := key l' hc
        rw [hc, Option.bind_some, if_pos (by omega), if_pos (by omega)]
        exact ⟨_, rfl⟩
theorem attrs_both {T : z06} (hf : FewT T) (hn : (T.Nodes.length : Int) ≤ 12) {i : Int} (h0 : 0 ≤ i) (h1 : i < (T.Nodes.length : Int)) (hp : Par T i) : ∃ l, types_attrs T i = some l ∧ ref04_attrs T i = some l ∧ AtO T i l := by
  obtain ⟨l, a1, a2⟩ := Ev_any (u := fun n => z42 n T i) (Q := AtO T i) (fun n l h => (attrsN hf hn n i h0 h1 hp).1 l h) ⟨i.toNat + 1, (attrsN hf hn (i.toNat + 1) i h0 h1 hp).2 (by omega)⟩
  obtain ⟨l', b1, b2⟩ := Ev_any (u := fun n => z44 n T i) (Q := AtO T i) (fun n l h => ((rattrsN hf hn n i h1 hp).1 l h).1 h0) ⟨i.toNat + 3, (rattrsN hf hn (i.toNat + 3) i h1 hp).2 (by omega)⟩
  exact ⟨l, a1, by rw [a2.det b2]; exact b1, a2⟩
theorem node_law {T : z06} (hf : FewT T) (hn : (T.Nodes.length : Int) ≤ 12) {i : Int} (h0 : 0 ≤ i) (h1 : i < (T.Nodes.length : Int)) (hp : Par T (i - 1)) :
    ∃ c, types_node T i = some c ∧ ref04_node T i = some c ∧ (c = 0 → Par T i ∧ ∃ l, AtO T i l ∧ (l.length : Int) ≤ 8) := by
  obtain ⟨k, rfl⟩ := Int.eq_ofNat_of_zero_le h0
  obtain ⟨n1, n2, n3⟩ := hf.nn k h0 h1
  unfold types_node ref04_node
  obtain ⟨b, e1, e2⟩ := isName_law (nth T.Nodes k).Name (by omega)
  have hkk : 0 ≤ (k : Int) ∧ (k : Int) < (T.Nodes.length : Int) := ⟨h0, h1⟩
  have hcc : 0 ≤ (0 : Int) ∧ (0 : Int) ≤ (k : Int) ∧ (k : Int) ≤ (T.Nodes.length : Int) := ⟨by omega, by omega, by omega⟩
  rw [if_pos hkk, if_pos hkk, e1, e2]
  cases b
  · exact ⟨2, by simp, by simp, by simp⟩
  simp only [Option.bind_some, Bool.not_true, Bool.false_eq_true, if_false]
  rw [if_pos hcc, contNT]
  obtain ⟨d, f1, f2⟩ := cont_law (p := fun x => types_node_1 x (nth T.Nodes k)) (q := fun x => x.Name = (nth T.Nodes k).Name) (cut T.Nodes 0 k) (fun x _ => ⟨_, rfl, by simp⟩)
  have u := upto_law T.Nodes k (by omega) (q := fun x => x.Name = (nth T.Nodes k).Name) (F := ref04_node_l5 T k) (c := 5) (fin := ((some (w64 ((k : Int) - 1))).bind fun b15 => (z5k ((nth T.Nodes k).Parent) (-1) b15).bind fun b17 => if (!b17) = true then some 6 else (ref04_attrs T k).bind fun b20 => if 4 < (((nth T.Nodes k).Attrs).length : Int) then some 3 else if 8 < (b20.length : Int) then some 3 else (some (w64 ((b20.length : Int) - (((nth T.Nodes k).Attrs).length : Int)))).bind fun b24 => z2l (ref04_node_l26 b20) b24))
    (fun i a b => by unfold ref04_node_l5; rw [if_pos b, if_pos ⟨a, by omega⟩]) (by unfold ref04_node_l5; rw [if_neg (by omega)])
  rw [f1]
  cases d
  rotate_left
  · rw [u.1 (f2.1 rfl)]; exact ⟨5, by simp, rfl, by simp⟩
  rw [u.2 (fun x hx e => by have := f2.2 ⟨x, hx, e⟩; cases this), z34 (x := (k : Int) - 1) (by omega) (by omega)]
  simp only [Option.bind_some, Bool.false_eq_true, if_false]
  rw [rin_eq]
  by_cases q1 : (nth T.Nodes k).Parent < -1
  · rw [if_pos q1]; exact ⟨6, rfl, by rw [decide_eq_false (by omega)]; simp, by simp⟩
  rw [if_neg q1]
  by_cases q2 : (k : Int) ≤ (nth T.Nodes k).Parent
  · rw [if_pos q2]; exact ⟨6, rfl, by rw [decide_eq_false (by omega)]; simp, by simp⟩
  rw [if_neg q2, decide_eq_true (by omega)]
  have hpk : Par T k := fun j j0 j1 => by
    by_cases e : j = k
    · subst e; exact ⟨by omega, by omega⟩
    · exact hp j j0 (by omega)
  obtain ⟨l, a1, a2, a3⟩ := attrs_both hf hn h0 h1 hpk
  obtain ⟨b1, b2, pre, b3⟩ := a3.few hf h0 h1 hpk
  rw [a1, a2]
  simp only [Option.bind_some, Bool.not_true, Bool.false_eq_true, if_false]
  by_cases q3 : 4 < (((nth T.Nodes k).Attrs).length : Int)
  · rw [if_pos q3, if_pos q3]; exact ⟨3, rfl, rfl, by simp⟩
  rw [if_neg q3, if_neg q3]
  by_cases q4 : 8 < (l.length : Int)
  · rw [if_pos q4, if_pos q4]; exact ⟨3, rfl, rfl, by simp⟩
  have hge : ((nth T.Nodes k).Attrs.length : Int) ≤ (l.length : Int) := by rw [b3, List.length_append]; omega
  rw [if_neg q4, if_neg q4, z34 (by omega) (by omega)]
  have hS := z4j (F := types_node_l18 l) (G := ref04_node_l26 l) (fun x => 0 ≤ x ∧ x ≤ (l.length : Int)) (fun x => ((l.length : Int) - x).toNat) (fun _ => True) (fun x ⟨x0, x1⟩ => ?_) ((l.length : Int) - ((nth T.Nodes k).Attrs.length : Int)) ⟨by omega, by omega⟩
  · obtain ⟨c, c1, c2, _⟩ := hS
    exact ⟨c, c1, c2, fun _ => ⟨hpk, l, a3, by omega⟩⟩
  · unfold types_node_l18 ref04_node_l26
    split
    · rename_i hx
      obtain ⟨m, rfl⟩ := Int.eq_ofNat_of_zero_le x0
      have hF := b2 _ (z2u x0 hx)
      obtain ⟨b, g1, g2⟩ := isName_law (nth l m).Name (by have := hF.1; omega)
      have hmm : 0 ≤ (m : Int) ∧ (m : Int) < (l.length : Int) := ⟨x0, hx⟩
      have hcm : 0 ≤ (0 : Int) ∧ (0 : Int) ≤ (m : Int) ∧ (m : Int) ≤ (l.length : Int) := ⟨by omega, by omega, by omega⟩
      rw [if_pos hmm, if_pos hmm, if_pos hcm, g2]
      cases b
      · refine .inr ⟨2, ?_, by simp, trivial⟩
        unfold z4x
        rw [g1]; simp
      · simp only [Option.bind_some, Bool.not_true, Bool.false_eq_true, if_false]
        obtain ⟨c, r1, r2⟩ := attribute_law (nth l m) hF
        have u := upto_law l m (by omega) (q := fun x => x.Name = (nth l m).Name) (F := ref04_node_l53 l m) (c := .inr 5) (fin := ((z3o (nth l m)).bind fun b63 => if ¬ (b63 = 0) then some (.inr b63) else some (.inl ((m : Int) + 1))))
          (fun i a b => by unfold ref04_node_l53; rw [if_pos b, if_pos ⟨a, by omega⟩]) (by unfold ref04_node_l53; rw [if_neg (by omega)])
        by_cases hd : ∃ x ∈ cut l 0 m, x.Name = (nth l m).Name
        · rw [u.1 hd]
          refine .inr ⟨5, ?_, rfl, trivial⟩
          obtain ⟨d, f1, f2⟩ := cont_law (p := fun x => z5n x (nth l m)) (q := fun x => x.Name = (nth l m).Name) (cut l 0 m) (fun x _ => ⟨_, rfl, by simp⟩)
          have := f2.2 hd
          subst this
          unfold z4x
          rw [g1, contAT, f1]; simp
        · have hd' : ∀ x ∈ cut l 0 m, ¬ x.Name = (nth l m).Name := fun x hx e => hd ⟨x, hx, e⟩
          rw [u.2 hd', r2 _ g1 hd', r1]
          simp only [Option.bind_some]
          by_cases h : c = 0
          · subst h; exact .inl ⟨(m : Int) + 1, by simp, by simp, ⟨by omega, by omega⟩, by omega⟩
          · exact .inr ⟨c, by simp [h], by simp [h], trivial⟩
    · exact .inr ⟨_, rfl, rfl, trivial⟩
theorem bounded_eq (a b : Int) : z9m a b = z67 a b := by
  unfold z9m z67
  rw [rin_eq, rin_eq]
  by_cases h1 : 0 ≤ a <;> by_cases h2 : a ≤ 40 <;> by_cases h3 : b = -1 <;> by_cases h4 : a ≤ b <;> simp [h1, h2, h3, h4]
theorem bound_tot (a b : Int) : ∃ c, z67 a b = some c := by
  unfold z67
  rw [rin_eq, rin_eq]
  by_cases h1 : 0 ≤ a ∧ a ≤ 40 <;> by_cases h3 : b = -1 <;> simp [h1, h3]
theorem edgeT_law {T : z06} (hf : FewT T) (hn : (T.Nodes.length : Int) ≤ 12) (he : (T.Edges.length : Int) ≤ 20) {i : Int} (h0 : 0 ≤ i) (h1 : i < (T.Edges.length : Int)) :
    ∃ c, types_edge T i = some c ∧ ref04_edge T i = some c ∧ (c = 0 → 0 ≤ (nth T.Edges i).From ∧ (nth T.Edges i).From < (T.Nodes.length : Int) ∧ 0 ≤ (nth T.Edges i).To ∧ (nth T.Edges i).To < (T.Nodes.length : Int)) := by
  obtain ⟨k, rfl⟩ := Int.eq_ofNat_of_zero_le h0
  have n1 := hf.en k h0 h1
  unfold types_edge ref04_edge
  obtain ⟨b, e1, e2⟩ := isName_law (nth T.Edges k).Name (by omega)
  have hkk : 0 ≤ (k : Int) ∧ (k : Int) < (T.Edges.length : Int) := ⟨h0, h1⟩
  have hcc : 0 ≤ (0 : Int) ∧ (0 : Int) ≤ (k : Int) ∧ (k : Int) ≤ (T.Edges.length : Int) := ⟨by omega, by omega, by omega⟩
  rw [if_pos hkk, if_pos hkk, e1, e2]
  cases b
  · exact ⟨2, by simp, by simp, by simp⟩
  simp only [Option.bind_some, Bool.not_true, Bool.false_eq_true, if_false]
  rw [if_pos hcc, contET]
  obtain ⟨d, f1, f2⟩ := cont_law (p := fun x => types_edge_2 x (nth T.Edges k)) (q := fun x => x.Name = (nth T.Edges k).Name) (cut T.Edges 0 k) (fun x _ => ⟨_, rfl, by simp⟩)
  have u := upto_law T.Edges k (by omega) (q := fun x => x.Name = (nth T.Edges k).Name) (F := ref04_edge_l5 T k) (c := 5) (fin := ((some (w64 ((T.Nodes.length : Int) - 1))).bind fun b15 => (z5k ((nth T.Edges k).From) 0 b15).bind fun b17 => if (!b17) = true then some 6 else (z5k ((nth T.Edges k).To) 0 b15).bind fun b20 => if (!b20) = true then some 6 else (z67 ((nth T.Edges k).OutLow) ((nth T.Edges k).OutHigh)).bind fun b23 => if (!b23) = true then some 6 else (z67 ((nth T.Edges k).InLow) ((nth T.Edges k).InHigh)).bind fun b26 => if (!b26) = true then some 6 else some 0))
    (fun i a b => by unfold ref04_edge_l5; rw [if_pos b, if_pos ⟨a, by omega⟩]) (by unfold ref04_edge_l5; rw [if_neg (by omega)])
  rw [f1]
  cases d
  rotate_left
  · rw [u.1 (f2.1 rfl)]; exact ⟨5, by simp, rfl, by simp⟩
  rw [u.2 (fun x hx e => by have := f2.2 ⟨x, hx, e⟩; cases this), z34 (x := (T.Nodes.length : Int) - 1) (by omega) (by omega)]
  obtain ⟨b1, hb1⟩ := bound_tot (nth T.Edges k).OutLow (nth T.Edges k).OutHigh
  obtain ⟨b2, hb2⟩ := bound_tot (nth T.Edges k).InLow (nth T.Edges k).InHigh
  have t1 : ∀ x : Int, z3s x T = some (decide (0 ≤ x ∧ x < (T.Nodes.length : Int))) := fun x => by
    unfold z3s; by_cases h : 0 ≤ x <;> simp [h]
  simp only [Option.bind_some, Bool.false_eq_true, if_false, t1, types_edge_j16, types_edge_j23, types_edge_j26, rin_eq, bounded_eq, hb1, hb2]
  have c1 : decide (0 ≤ (nth T.Edges k).From ∧ (nth T.Edges k).From ≤ (T.Nodes.length : Int) - 1) = decide (0 ≤ (nth T.Edges k).From ∧ (nth T.Edges k).From < (T.Nodes.length : Int)) := by rw [decide_eq_decide]; omega
  have c2 : decide (0 ≤ (nth T.Edges k).To ∧ (nth T.Edges k).To ≤ (T.Nodes.length : Int) - 1) = decide (0 ≤ (nth T.Edges k).To ∧ (nth T.Edges k).To < (T.Nodes.length : Int)) := by rw [decide_eq_decide]; omega
  rw [c1, c2]
  by_cases p1 : 0 ≤ (nth T.Edges k).From ∧ (nth T.Edges k).From < (T.Nodes.length : Int)
  · by_cases p2 : 0 ≤ (nth T.Edges k).To ∧ (nth T.Edges k).To < (T.Nodes.length : Int)
    · rw [decide_eq_true p1, decide_eq_true p2]
      cases b1
      · exact ⟨6, by simp, by simp, by simp⟩
      · cases b2
        · exact ⟨6, by simp, by simp, by simp⟩
        · exact ⟨0, by simp, by simp, fun _ => ⟨p1.1, p1.2, p2.1, p2.2⟩⟩
    · rw [decide_eq_true p1, decide_eq_false p2]; exact ⟨6, by simp, by simp, by simp⟩
  · rw [decide_eq_false p1]; exact ⟨6, by simp, by simp, by simp⟩
structure TyOk (T : z06) : Prop where
  few : FewT T
  n1 : 1 ≤ (T.Nodes.length : Int)
  n12 : (T.Nodes.length : Int) ≤ 12
  e20 : (T.Edges.length : Int) ≤ 20
  par : Par T ((T.Nodes.length : Int) - 1)
  at8 : ∀ i : Int, 0 ≤ i → i < (T.Nodes.length : Int) → ∃ l, AtO T i l ∧ (l.length : Int) ≤ 8
  ed : ∀ i : Int, 0 ≤ i → i < (T.Edges.length : Int) → 0 ≤ (nth T.Edges i).From ∧ (nth T.Edges i).From < (T.Nodes.length : Int) ∧ 0 ≤ (nth T.Edges i).To ∧ (nth T.Edges i).To < (T.Nodes.length : Int)
theorem types_law {T : z06} (hf : FewT T) : ∃ b, z5c T = some b ∧ z5e T = some b ∧ (b.2 = 0 → TyOk T) := by
  unfold z5c z5e
  by_cases q1 : (T.Nodes.length : Int) = 0
  · rw [if_pos q1, if_pos q1]; exact ⟨_, rfl, rfl, by simp⟩
  rw [if_neg q1, if_neg q1]
  by_cases q2 : 12 < (T.Nodes.length : Int)
  · rw [if_pos q2, if_pos q2]; exact ⟨_, rfl, rfl, by simp⟩
  rw [if_neg q2, if_neg q2]
  by_cases q3 : 20 < (T.Edges.length : Int)
  · rw [if_pos q3, if_pos q3]; exact ⟨_, rfl, rfl, by simp⟩
  rw [if_neg q3, if_neg q3]
  refine z4j (F := types_Valid_l4 T) (G := ref04_Valid_l4 T) (fun x => 0 ≤ x ∧ x ≤ (T.Nodes.length : Int) ∧ Par T (x - 1) ∧ ∀ i : Int, 0 ≤ i → i < x → ∃ l, AtO T i l ∧ (l.length : Int) ≤ 8) (fun x => ((T.Nodes.length : Int) - x).toNat) (fun b => b.2 = 0 → TyOk T) (fun x ⟨x0, x1, x2, x3⟩ => ?_) 0 ⟨by omega, by omega, fun k a b => by omega, fun i a b => by omega⟩
  unfold types_Valid_l4 ref04_Valid_l4
  split
  · rename_i hx
    obtain ⟨c, c1, c2, c3⟩ := node_law hf (by omega) x0 hx x2
    rw [if_pos ⟨x0, hx⟩, c1, c2]
    by_cases h : c = 0
    · subst h
      obtain ⟨d1, d2⟩ := c3 rfl
      refine .inl ⟨x + 1, by simp, by simp, ⟨by omega, by omega, by rw [Int.add_sub_cancel]; exact d1, fun i a b => ?_⟩, by omega⟩
      by_cases e : i = x
      · subst e; exact d2
      · exact x3 i a (by omega)
    · exact .inr ⟨((nth T.Nodes x).Name, c), by simp [h], by simp [h, x0, hx], fun e => absurd e h⟩
  · rename_i hx
    have hxe : x = (T.Nodes.length : Int) := by omega
    subst hxe
    obtain ⟨b, b1, b2, b3⟩ := z4j (F := types_Valid_l18 T) (G := ref04_Valid_l18 T) (fun y => 0 ≤ y ∧ y ≤ (T.Edges.length : Int) ∧ ∀ i : Int, 0 ≤ i → i < y → 0 ≤ (nth T.Edges i).From ∧ (nth T.Edges i).From < (T.Nodes.length : Int) ∧ 0 ≤ (nth T.Edges i).To ∧ (nth T.Edges i).To < (T.Nodes.length : Int)) (fun y => ((T.Edges.length : Int) - y).toNat) (fun b => b.2 = 0 → TyOk T) (fun y ⟨y0, y1, y2⟩ => by
      unfold types_Valid_l18 ref04_Valid_l18
      split
      · rename_i hy
        obtain ⟨c, c1, c2, c3⟩ := edgeT_law hf (by omega) (by omega) y0 hy
        rw [if_pos ⟨y0, hy⟩, c1, c2]
        by_cases h : c = 0
        · subst h
          refine .inl ⟨y + 1, by simp, by simp, ⟨by omega, by omega, fun i a b => ?_⟩, by omega⟩
          by_cases e : i = y
          · subst e; exact c3 rfl
          · exact y2 i a (by omega)
        · exact .inr ⟨((nth T.Edges y).Name, c), by simp [h], by simp [h, y0, hy], fun e => absurd e h⟩
      · exact .inr ⟨_, rfl, rfl, fun _ => ⟨hf, by omega, by omega, by omega, x2, x3, fun i a b => y2 i a (by omega)⟩⟩) 0 ⟨by omega, by omega, fun i a b => by omega⟩
    exact .inr ⟨b, by rw [b1]; rfl, by rw [b2]; rfl, b3⟩
end Go.Proofs.YtngimdmkomkeoaaGreat.K
