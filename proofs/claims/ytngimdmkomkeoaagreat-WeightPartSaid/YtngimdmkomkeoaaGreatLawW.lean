import Derived.Test.YtngimdmkomkeoaaGreatLawV
set_option linter.unusedVariables false
set_option linter.unusedSimpArgs false
namespace Go.Proofs.YtngimdmkomkeoaaGreat.K
open Go.RowKit Go.Proofs
theorem pb {α β : Type} [Inhabited α] (xs : List α) (k : Nat) (hk : (k : Int) ≤ (xs.length : Int)) {q : α → Prop} [DecidablePred q] {F : Int → Option (Int ⊕ β)} {c : β} {fin : Option β}
    (h1 : ∀ i : Int, 0 ≤ i → i < (k : Int) → F i = if q (nth xs i) then some (.inr c) else some (.inl (i + 1))) (h2 : F (k : Int) = fin.map .inr) :
    ((∃ x ∈ cut xs 0 k, q x) → aE F 0 = some c) ∧ ((∀ x ∈ cut xs 0 k, ¬ q x) → aE F 0 = fin) := by
  have e : aE F 0 = eg (fun i => if q (nth xs i) then some c else none) 0 k fin := by
    refine fJ _ _ (fun i a b => ?_) h2
    rw [h1 i a b]
    by_cases hq : q (nth xs i) <;> simp [hq]
  have s := kH (step := fun i => if q (nth xs i) then some c else none) (p := fun i => q (nth xs i)) (c := c) (fin := fin) k (fun i _ _ => rfl)
  rw [e]
  have hl := wB (xs := xs) (k := (k : Int)) (by omega) hk
  refine ⟨fun ⟨x, hx, hq⟩ => s.1 ?_, fun h => s.2 fun i a b hq => ?_⟩
  · obtain ⟨i, i0, i1, e⟩ := eo hx
    refine ⟨i, i0, by omega, ?_⟩
    rw [← BP (k := (k : Int)) i0 (by omega) hk, e]; exact hq
  · refine h _ ?_ hq
    have := cu (xs := cut xs 0 (k : Int)) a (by omega)
    rwa [BP a b hk] at this
theorem EE : zk = gW := rfl
theorem ED : zj = gW := rfl
theorem Aa : zf = gW := rfl
theorem gI (a b c : Int) : fk a b c = some (decide (b ≤ a ∧ a ≤ c)) := by
  unfold fk; by_cases h : b ≤ a <;> simp [h]
def vZ (a : aW) : Prop := (a.Name.size : Int) ≤ 40 ∧ (a.Names.length : Int) ≤ 25 ∧ ∀ s ∈ a.Names, (s.size : Int) ≤ 40
structure eM (T : aq) : Prop where
  nn : ∀ i : Int, 0 ≤ i → i < (T.Nodes.length : Int) → ((nth T.Nodes i).Name.size : Int) ≤ 40 ∧ ((nth T.Nodes i).Attrs.length : Int) ≤ 30 ∧ ∀ a ∈ (nth T.Nodes i).Attrs, vZ a
  en : ∀ i : Int, 0 ≤ i → i < (T.Edges.length : Int) → ((nth T.Edges i).Name.size : Int) ≤ 40
theorem Ch (xs : List ByteArray) (hs : ∀ s ∈ xs, (s.size : Int) ≤ 40) : ∃ c, j7 xs = some c ∧ pj xs = some c := by
  unfold j7 pj
  split
  · exact ⟨_, rfl, rfl⟩
  · rename_i hl
    have := eD (F := nI xs) (G := xW xs) (fun x => 0 ≤ x ∧ x ≤ (xs.length : Int)) (fun x => ((xs.length : Int) - x).toNat) (fun _ => True) (fun x ⟨x0, x1⟩ => ?_) 0 ⟨by omega, by omega⟩
    · obtain ⟨b, h1, h2, _⟩ := this; exact ⟨b, h1, h2⟩
    · unfold nI xW
      split
      · rename_i hx
        obtain ⟨k, rfl⟩ := Int.eq_ofNat_of_zero_le x0
        obtain ⟨b, e1, e2⟩ := pf (nth xs k) (by have := hs _ (cu x0 hx); omega)
        have hkk : 0 ≤ (k : Int) ∧ (k : Int) < (xs.length : Int) := ⟨x0, hx⟩
        have hcc : 0 ≤ (0 : Int) ∧ (0 : Int) ≤ (k : Int) ∧ (k : Int) ≤ (xs.length : Int) := ⟨by omega, by omega, by omega⟩
        rw [if_pos hkk, if_pos hkk, e1, e2]
        cases b
        · exact .inr ⟨2, by simp, by simp, trivial⟩
        · simp only [Option.bind_some, Bool.not_true, Bool.false_eq_true, if_false]
          rw [if_pos hcc]
          obtain ⟨d, e3, e4⟩ := zr (cut xs 0 k) (nth xs k)
          have u := pb xs k (by omega) (q := fun y => y = nth xs k) (F := ud xs k) (c := .inr 5) (fin := some (.inl ((k : Int) + 1))) (fun i a b => by
            unfold ud
            rw [if_pos b, if_pos ⟨a, by omega⟩]) (by unfold ud; rw [if_neg (by omega)]; rfl)
          rw [e3]
          cases d
          · rw [u.2 (fun y hy e => by have := e4.2 (e ▸ hy); cases this)]
            exact .inl ⟨_, by simp, rfl, ⟨by omega, by omega⟩, by omega⟩
          · rw [u.1 ⟨_, e4.1 rfl, rfl⟩]
            exact .inr ⟨_, by simp, rfl, trivial⟩
      · exact .inr ⟨_, rfl, rfl, trivial⟩
theorem J1 : j7 [] = some 0 := by
  unfold j7
  rw [if_neg (by simp)]
  exact kI (by unfold nI; simp)
theorem Li (a : aW) (hf : vZ a) : ∃ c, ic a = some c ∧ ∀ before, gc a.Name = some true → (∀ x ∈ before, ¬ x.Name = a.Name) → jR a before = some c := by
  have key : ∀ c, ic a = some c → (∀ n, j7 a.Names = some n → (¬ n = 0 → c = n) ∧ (n = 0 → c = if (if 0 < (a.Names.length : Int) then decide (a.Low = 0 ∧ a.High = (a.Names.length : Int) - 1) else decide (-1000000 ≤ a.Low ∧ a.Low ≤ a.High ∧ a.High ≤ 1000000)) = true then 0 else 6)) → ∀ before, gc a.Name = some true → (∀ x ∈ before, ¬ x.Name = a.Name) → jR a before = some c := by
    intro c hc h before hn hb
    obtain ⟨n, e1, _⟩ := Ch a.Names hf.2.2
    obtain ⟨b, f1, f2⟩ := jF (p := fun x => qC x a) (q := fun x => x.Name = a.Name) before (fun x _ => ⟨_, rfl, by simp⟩)
    have fb : b = false := by
      cases b
      · rfl
      · obtain ⟨x, hx, e⟩ := f2.1 rfl; exact absurd e (hb x hx)
    subst fb
    unfold jR
    rw [hn, Aa, f1, e1]
    simp only [Option.bind_some, Bool.not_true, Bool.false_eq_true, if_false]
    obtain ⟨k1, k2⟩ := h n e1
    by_cases h0 : n = 0
    · rw [if_neg (by simp [h0]), k2 h0]
      unfold od qM qN
      by_cases p1 : 0 < (a.Names.length : Int)
      · simp only [p1, if_true]
        by_cases p2 : a.Low = 0 <;> by_cases p3 : a.High = (a.Names.length : Int) - 1 <;> by_cases q1 : -1000000 ≤ a.Low <;> by_cases q2 : a.Low ≤ a.High <;> simp [p2, p3, q1, q2] <;> omega
      · simp only [p1, if_false]
        by_cases q1 : -1000000 ≤ a.Low <;> by_cases q2 : a.Low ≤ a.High <;> by_cases q3 : a.High ≤ 1000000 <;> simp [q1, q2, q3]
    · rw [if_pos h0, k1 h0]
  obtain ⟨n, e1, e2⟩ := Ch a.Names hf.2.2
  by_cases hl : (a.Names.length : Int) = 0
  · have hnil : a.Names = [] := List.eq_nil_of_length_eq_zero (by omega)
    refine ⟨if decide (-1000000 ≤ a.Low ∧ a.Low ≤ a.High ∧ a.High ≤ 1000000) = true then 0 else 6, ?_, key _ ?_ ?_⟩
    · unfold ic
      rw [if_pos hl, gI, gI]
      by_cases q1 : -1000000 ≤ a.Low <;> by_cases q2 : a.Low ≤ a.High <;> by_cases q3 : a.High ≤ 1000000 <;> simp [q1, q2, q3] <;> omega
    · unfold ic
      rw [if_pos hl, gI, gI]
      by_cases q1 : -1000000 ≤ a.Low <;> by_cases q2 : a.Low ≤ a.High <;> by_cases q3 : a.High ≤ 1000000 <;> simp [q1, q2, q3] <;> omega
    · intro n hn
      rw [hnil, J1] at hn
      cases hn
      refine ⟨fun h => absurd rfl h, fun _ => ?_⟩
      rw [hnil]; simp
  · have hc : ic a = some (if ¬ n = 0 then n else if decide (a.Low = 0 ∧ a.High = (a.Names.length : Int) - 1) = true then 0 else 6) := by
      unfold ic
      rw [if_neg hl, e2]
      by_cases h0 : n = 0 <;> by_cases p2 : a.Low = 0 <;> by_cases p3 : a.High = (a.Names.length : Int) - 1 <;> simp [h0, p2, p3]
    refine ⟨_, hc, key _ hc fun m hm => ?_⟩
    rw [e1] at hm; cases hm
    refine ⟨fun h => by rw [if_pos h], fun h => ?_⟩
    rw [if_neg (by simp [h]), if_pos (show 0 < (a.Names.length : Int) by omega)]
inductive eL (T : aq) : Int → List aW → Prop
  | root {i : Int} (h : (nth T.Nodes i).Parent < 0) : eL T i (nth T.Nodes i).Attrs
  | up {i : Int} {l : List aW} (h : 0 ≤ (nth T.Nodes i).Parent) (t : eL T (nth T.Nodes i).Parent l) : eL T i (l ++ (nth T.Nodes i).Attrs)
theorem eL.det {T : aq} {i : Int} {l l' : List aW} (h : eL T i l) (h' : eL T i l') : l = l' := by
  induction h generalizing l' with
  | root h =>
    cases h' with
    | root => rfl
    | up h2 => omega
  | up h _ ih =>
    cases h' with
    | root h2 => omega
    | up h2 t => rw [ih t]
def gz (T : aq) (i : Int) : Prop := ∀ k : Int, 0 ≤ k → k ≤ i → -1 ≤ (nth T.Nodes k).Parent ∧ (nth T.Nodes k).Parent < k
theorem gz.down {T : aq} {i j : Int} (h : gz T i) (hj : j ≤ i) : gz T j := fun k a b => h k a (by omega)
theorem eL.few {T : aq} (hf : eM T) {i : Int} {l : List aW} (h : eL T i l) : 0 ≤ i → i < (T.Nodes.length : Int) → gz T i → (l.length : Int) ≤ 30 * (i + 1) ∧ (∀ a ∈ l, vZ a) ∧ ∃ pre, l = pre ++ (nth T.Nodes i).Attrs := by
  induction h with
  | @root i h =>
    intro h0 h1 hp
    obtain ⟨_, b, c⟩ := hf.nn i h0 h1
    exact ⟨by omega, c, [], rfl⟩
  | @up i l h _ ih =>
    intro h0 h1 hp
    obtain ⟨_, b, c⟩ := hf.nn i h0 h1
    have hpi := hp i h0 (by omega)
    obtain ⟨i1, i2, _⟩ := ih h (by omega) (hp.down (by omega))
    refine ⟨by rw [List.length_append]; omega, fun a ha => (List.mem_append.1 ha).elim (i2 a) (c a), l, rfl⟩
theorem vF {T : aq} (hf : eM T) (hn : (T.Nodes.length : Int) ≤ 12) : ∀ (n : Nat) (i : Int), 0 ≤ i → i < (T.Nodes.length : Int) → gz T i → (∀ l, jb n T i = some l → eL T i l) ∧ (i < n → ∃ l, jb n T i = some l)
  | 0, i, h0, h1, hp => ⟨fun l h => (by cases h), fun h => by omega⟩
  | n + 1, i, h0, h1, hp => by
    show (∀ l, pM (jb n) T i = some l → eL T i l) ∧ (i < ((n + 1 : Nat) : Int) → ∃ l, pM (jb n) T i = some l)
    have hpi := hp i h0 (by omega)
    have a1 := (hf.nn i h0 h1).2.1
    unfold pM u9
    rw [if_pos ⟨h0, h1⟩]
    by_cases hq : 0 ≤ (nth T.Nodes i).Parent
    · rw [if_pos hq]
      have ih := vF hf hn n (nth T.Nodes i).Parent hq (by omega) (hp.down (by omega))
      have key : ∀ l', jb n T (nth T.Nodes i).Parent = some l' → (l'.length : Int) ≤ 360 ∧ eL T i (l' ++ (nth T.Nodes i).Attrs) := fun l' hc => by
        have hg := ih.1 l' hc
        have := (hg.few hf hq (by omega) (hp.down (by omega))).1
        exact ⟨by omega, .up hq hg⟩
      constructor
      · intro l h
        cases hc : jb n T (nth T.Nodes i).Parent with
        | none => rw [hc] at h; cases h
        | some l' =>
          rw [hc] at h
          obtain ⟨k1, k2⟩ := key l' hc
          simp only [Option.bind_some] at h
          rw [if_pos (by omega)] at h
          cases h; exact k2
      · intro hi
        obtain ⟨l', hc⟩ := ih.2 (by omega)
        obtain ⟨k1, k2⟩ := key l' hc
        rw [hc, Option.bind_some, if_pos (by omega)]
        exact ⟨_, rfl⟩
    · rw [if_neg hq, if_pos (by simp; omega)]
      exact ⟨fun l h => (by cases h; exact .root (by omega)), fun _ => ⟨_, rfl⟩⟩
theorem wv {T : aq} (hf : eM T) (hn : (T.Nodes.length : Int) ≤ 12) : ∀ (n : Nat) (i : Int), i < (T.Nodes.length : Int) → gz T i → (∀ l, fL n T i = some l → (0 ≤ i → eL T i l) ∧ (i < 0 → l = [])) ∧ (max i (-1) + 1 < n → ∃ l, fL n T i = some l)
  | 0, i, h1, hp => ⟨fun l h => (by cases h), fun h => by omega⟩
  | n + 1, i, h1, hp => by
    show (∀ l, kP (fL n) T i = some l → (0 ≤ i → eL T i l) ∧ (i < 0 → l = [])) ∧ (max i (-1) + 1 < ((n + 1 : Nat) : Int) → ∃ l, kP (fL n) T i = some l)
    unfold kP
    by_cases hi : i < 0
    · rw [if_pos hi]
      exact ⟨fun l h => (by cases h; exact ⟨fun h => by omega, fun _ => rfl⟩), fun _ => ⟨_, rfl⟩⟩
    · have h0 : 0 ≤ i := by omega
      have hpi := hp i h0 (by omega)
      have a1 := (hf.nn i h0 h1).2.1
      rw [if_neg hi, if_pos ⟨h0, h1⟩]
      have ih := wv hf hn n (nth T.Nodes i).Parent (by omega) (hp.down (by omega))
      have key : ∀ l', fL n T (nth T.Nodes i).Parent = some l' → (l'.length : Int) ≤ 360 ∧ eL T i (l' ++ (nth T.Nodes i).Attrs) := fun l' hc => by
        have := ih.1 l' hc
        by_cases hq : 0 ≤ (nth T.Nodes i).Parent
        · have hg := this.1 hq
          have := (hg.few hf hq (by omega) (hp.down (by omega))).1
          exact ⟨by omega, .up hq hg⟩
        · have e := this.2 (by omega)
          subst e
          exact ⟨by simp, .root (by omega)⟩
      constructor
      · intro l h
        cases hc : fL n T (nth T.Nodes i).Parent with
        | none => rw [hc] at h; cases h
        | some l' =>
          rw [hc] at h
          obtain ⟨k1, k2⟩ := key l' hc
          simp only [Option.bind_some] at h
          rw [if_pos (by omega), if_pos (by omega)] at h
          cases h
          exact ⟨fun _ => k2, fun h => by omega⟩
      · intro hlt
        obtain ⟨l', hc⟩ := ih.2 (by omega)
        obtain ⟨k1, k2⟩ := key l' hc
        rw [hc, Option.bind_some, if_pos (by omega), if_pos (by omega)]
        exact ⟨_, rfl⟩
theorem Cn {T : aq} (hf : eM T) (hn : (T.Nodes.length : Int) ≤ 12) {i : Int} (h0 : 0 ≤ i) (h1 : i < (T.Nodes.length : Int)) (hp : gz T i) : ∃ l, tf T i = some l ∧ nh T i = some l ∧ eL T i l := by
  obtain ⟨l, a1, a2⟩ := mj (u := fun n => jb n T i) (Q := eL T i) (fun n l h => (vF hf hn n i h0 h1 hp).1 l h) ⟨i.toNat + 1, (vF hf hn (i.toNat + 1) i h0 h1 hp).2 (by omega)⟩
  obtain ⟨l', b1, b2⟩ := mj (u := fun n => fL n T i) (Q := eL T i) (fun n l h => ((wv hf hn n i h1 hp).1 l h).1 h0) ⟨i.toNat + 3, (wv hf hn (i.toNat + 3) i h1 hp).2 (by omega)⟩
  exact ⟨l, a1, by rw [a2.det b2]; exact b1, a2⟩
theorem I5 {T : aq} (hf : eM T) (hn : (T.Nodes.length : Int) ≤ 12) {i : Int} (h0 : 0 ≤ i) (h1 : i < (T.Nodes.length : Int)) (hp : gz T (i - 1)) :
    ∃ c, nf T i = some c ∧ mW T i = some c ∧ (c = 0 → gz T i ∧ ∃ l, eL T i l ∧ (l.length : Int) ≤ 8) := by
  obtain ⟨k, rfl⟩ := Int.eq_ofNat_of_zero_le h0
  obtain ⟨n1, n2, n3⟩ := hf.nn k h0 h1
  unfold nf mW
  obtain ⟨b, e1, e2⟩ := pf (nth T.Nodes k).Name (by omega)
  have hkk : 0 ≤ (k : Int) ∧ (k : Int) < (T.Nodes.length : Int) := ⟨h0, h1⟩
  have hcc : 0 ≤ (0 : Int) ∧ (0 : Int) ≤ (k : Int) ∧ (k : Int) ≤ (T.Nodes.length : Int) := ⟨by omega, by omega, by omega⟩
  rw [if_pos hkk, if_pos hkk, e1, e2]
  cases b
  · exact ⟨2, by simp, by simp, by simp⟩
  simp only [Option.bind_some, Bool.not_true, Bool.false_eq_true, if_false]
  rw [if_pos hcc, EE]
  obtain ⟨d, f1, f2⟩ := jF (p := fun x => tA x (nth T.Nodes k)) (q := fun x => x.Name = (nth T.Nodes k).Name) (cut T.Nodes 0 k) (fun x _ => ⟨_, rfl, by simp⟩)
  have u := pb T.Nodes k (by omega) (q := fun x => x.Name = (nth T.Nodes k).Name) (F := nz T k) (c := 5) (fin := ((some (bb ((k : Int) - 1))).bind fun b15 => (fk ((nth T.Nodes k).Parent) (-1) b15).bind fun b17 => if (!b17) = true then some 6 else (nh T k).bind fun b20 => if 4 < (((nth T.Nodes k).Attrs).length : Int) then some 3 else if 8 < (b20.length : Int) then some 3 else (some (bb ((b20.length : Int) - (((nth T.Nodes k).Attrs).length : Int)))).bind fun b24 => aE (lL b20) b24))
    (fun i a b => by unfold nz; rw [if_pos b, if_pos ⟨a, by omega⟩]) (by unfold nz; rw [if_neg (by omega)])
  rw [f1]
  cases d
  rotate_left
  · rw [u.1 (f2.1 rfl)]; exact ⟨5, by simp, rfl, by simp⟩
  rw [u.2 (fun x hx e => by have := f2.2 ⟨x, hx, e⟩; cases this), bL (x := (k : Int) - 1) (by omega) (by omega)]
  simp only [Option.bind_some, Bool.false_eq_true, if_false]
  rw [gI]
  by_cases q1 : (nth T.Nodes k).Parent < -1
  · rw [if_pos q1]; exact ⟨6, rfl, by rw [decide_eq_false (by omega)]; simp, by simp⟩
  rw [if_neg q1]
  by_cases q2 : (k : Int) ≤ (nth T.Nodes k).Parent
  · rw [if_pos q2]; exact ⟨6, rfl, by rw [decide_eq_false (by omega)]; simp, by simp⟩
  rw [if_neg q2, decide_eq_true (by omega)]
  have hpk : gz T k := fun j j0 j1 => by
    by_cases e : j = k
    · subst e; exact ⟨by omega, by omega⟩
    · exact hp j j0 (by omega)
  obtain ⟨l, a1, a2, a3⟩ := Cn hf hn h0 h1 hpk
  obtain ⟨b1, b2, pre, b3⟩ := a3.few hf h0 h1 hpk
  rw [a1, a2]
  simp only [Option.bind_some, Bool.not_true, Bool.false_eq_true, if_false]
  by_cases q3 : 4 < (((nth T.Nodes k).Attrs).length : Int)
  · rw [if_pos q3, if_pos q3]; exact ⟨3, rfl, rfl, by simp⟩
  rw [if_neg q3, if_neg q3]
  by_cases q4 : 8 < (l.length : Int)
  · rw [if_pos q4, if_pos q4]; exact ⟨3, rfl, rfl, by simp⟩
  have hge : ((nth T.Nodes k).Attrs.length : Int) ≤ (l.length : Int) := by rw [b3, List.length_append]; omega
  rw [if_neg q4, if_neg q4, bL (by omega) (by omega)]
  have hS := eD (F := qg l) (G := lL l) (fun x => 0 ≤ x ∧ x ≤ (l.length : Int)) (fun x => ((l.length : Int) - x).toNat) (fun _ => True) (fun x ⟨x0, x1⟩ => ?_) ((l.length : Int) - ((nth T.Nodes k).Attrs.length : Int)) ⟨by omega, by omega⟩
  · obtain ⟨c, c1, c2, _⟩ := hS
    exact ⟨c, c1, c2, fun _ => ⟨hpk, l, a3, by omega⟩⟩
  · unfold qg lL
    split
    · rename_i hx
      obtain ⟨m, rfl⟩ := Int.eq_ofNat_of_zero_le x0
      have hF := b2 _ (cu x0 hx)
      obtain ⟨b, g1, g2⟩ := pf (nth l m).Name (by have := hF.1; omega)
      have hmm : 0 ≤ (m : Int) ∧ (m : Int) < (l.length : Int) := ⟨x0, hx⟩
      have hcm : 0 ≤ (0 : Int) ∧ (0 : Int) ≤ (m : Int) ∧ (m : Int) ≤ (l.length : Int) := ⟨by omega, by omega, by omega⟩
      rw [if_pos hmm, if_pos hmm, if_pos hcm, g2]
      cases b
      · refine .inr ⟨2, ?_, by simp, trivial⟩
        unfold jR
        rw [g1]; simp
      · simp only [Option.bind_some, Bool.not_true, Bool.false_eq_true, if_false]
        obtain ⟨c, r1, r2⟩ := Li (nth l m) hF
        have u := pb l m (by omega) (q := fun x => x.Name = (nth l m).Name) (F := nD l m) (c := .inr 5) (fin := ((ic (nth l m)).bind fun b63 => if ¬ (b63 = 0) then some (.inr b63) else some (.inl ((m : Int) + 1))))
          (fun i a b => by unfold nD; rw [if_pos b, if_pos ⟨a, by omega⟩]) (by unfold nD; rw [if_neg (by omega)])
        by_cases hd : ∃ x ∈ cut l 0 m, x.Name = (nth l m).Name
        · rw [u.1 hd]
          refine .inr ⟨5, ?_, rfl, trivial⟩
          obtain ⟨d, f1, f2⟩ := jF (p := fun x => qC x (nth l m)) (q := fun x => x.Name = (nth l m).Name) (cut l 0 m) (fun x _ => ⟨_, rfl, by simp⟩)
          have := f2.2 hd
          subst this
          unfold jR
          rw [g1, Aa, f1]; simp
        · have hd' : ∀ x ∈ cut l 0 m, ¬ x.Name = (nth l m).Name := fun x hx e => hd ⟨x, hx, e⟩
          rw [u.2 hd', r2 _ g1 hd', r1]
          simp only [Option.bind_some]
          by_cases h : c = 0
          · subst h; exact .inl ⟨(m : Int) + 1, by simp, by simp, ⟨by omega, by omega⟩, by omega⟩
          · exact .inr ⟨c, by simp [h], by simp [h], trivial⟩
    · exact .inr ⟨_, rfl, rfl, trivial⟩
theorem JB (a b : Int) : pN a b = j6 a b := by
  unfold pN j6
  rw [gI, gI]
  by_cases h1 : 0 ≤ a <;> by_cases h2 : a ≤ 40 <;> by_cases h3 : b = -1 <;> by_cases h4 : a ≤ b <;> simp [h1, h2, h3, h4]
theorem Cc (a b : Int) : ∃ c, j6 a b = some c := by
  unfold j6
  rw [gI, gI]
  by_cases h1 : 0 ≤ a ∧ a ≤ 40 <;> by_cases h3 : b = -1 <;> simp [h1, h3]
theorem IS {T : aq} (hf : eM T) (hn : (T.Nodes.length : Int) ≤ 12) (he : (T.Edges.length : Int) ≤ 20) {i : Int} (h0 : 0 ≤ i) (h1 : i < (T.Edges.length : Int)) :
    ∃ c, nc T i = some c ∧ mV T i = some c ∧ (c = 0 → 0 ≤ (nth T.Edges i).From ∧ (nth T.Edges i).From < (T.Nodes.length : Int) ∧ 0 ≤ (nth T.Edges i).To ∧ (nth T.Edges i).To < (T.Nodes.length : Int)) := by
  obtain ⟨k, rfl⟩ := Int.eq_ofNat_of_zero_le h0
  have n1 := hf.en k h0 h1
  unfold nc mV
  obtain ⟨b, e1, e2⟩ := pf (nth T.Edges k).Name (by omega)
  have hkk : 0 ≤ (k : Int) ∧ (k : Int) < (T.Edges.length : Int) := ⟨h0, h1⟩
  have hcc : 0 ≤ (0 : Int) ∧ (0 : Int) ≤ (k : Int) ∧ (k : Int) ≤ (T.Edges.length : Int) := ⟨by omega, by omega, by omega⟩
  rw [if_pos hkk, if_pos hkk, e1, e2]
  cases b
  · exact ⟨2, by simp, by simp, by simp⟩
  simp only [Option.bind_some, Bool.not_true, Bool.false_eq_true, if_false]
  rw [if_pos hcc, ED]
  obtain ⟨d, f1, f2⟩ := jF (p := fun x => tz x (nth T.Edges k)) (q := fun x => x.Name = (nth T.Edges k).Name) (cut T.Edges 0 k) (fun x _ => ⟨_, rfl, by simp⟩)
  have u := pb T.Edges k (by omega) (q := fun x => x.Name = (nth T.Edges k).Name) (F := ny T k) (c := 5) (fin := ((some (bb ((T.Nodes.length : Int) - 1))).bind fun b15 => (fk ((nth T.Edges k).From) 0 b15).bind fun b17 => if (!b17) = true then some 6 else (fk ((nth T.Edges k).To) 0 b15).bind fun b20 => if (!b20) = true then some 6 else (j6 ((nth T.Edges k).OutLow) ((nth T.Edges k).OutHigh)).bind fun b23 => if (!b23) = true then some 6 else (j6 ((nth T.Edges k).InLow) ((nth T.Edges k).InHigh)).bind fun b26 => if (!b26) = true then some 6 else some 0))
    (fun i a b => by unfold ny; rw [if_pos b, if_pos ⟨a, by omega⟩]) (by unfold ny; rw [if_neg (by omega)])
  rw [f1]
  cases d
  rotate_left
  · rw [u.1 (f2.1 rfl)]; exact ⟨5, by simp, rfl, by simp⟩
  rw [u.2 (fun x hx e => by have := f2.2 ⟨x, hx, e⟩; cases this), bL (x := (T.Nodes.length : Int) - 1) (by omega) (by omega)]
  obtain ⟨b1, hb1⟩ := Cc (nth T.Edges k).OutLow (nth T.Edges k).OutHigh
  obtain ⟨b2, hb2⟩ := Cc (nth T.Edges k).InLow (nth T.Edges k).InHigh
  have t1 : ∀ x : Int, ia x T = some (decide (0 ≤ x ∧ x < (T.Nodes.length : Int))) := fun x => by
    unfold ia; by_cases h : 0 ≤ x <;> simp [h]
  simp only [Option.bind_some, Bool.false_eq_true, if_false, t1, qd, qe, qf, gI, JB, hb1, hb2]
  have c1 : decide (0 ≤ (nth T.Edges k).From ∧ (nth T.Edges k).From ≤ (T.Nodes.length : Int) - 1) = decide (0 ≤ (nth T.Edges k).From ∧ (nth T.Edges k).From < (T.Nodes.length : Int)) := by rw [decide_eq_decide]; omega
  have c2 : decide (0 ≤ (nth T.Edges k).To ∧ (nth T.Edges k).To ≤ (T.Nodes.length : Int) - 1) = decide (0 ≤ (nth T.Edges k).To ∧ (nth T.Edges k).To < (T.Nodes.length : Int)) := by rw [decide_eq_decide]; omega
  rw [c1, c2]
  by_cases p1 : 0 ≤ (nth T.Edges k).From ∧ (nth T.Edges k).From < (T.Nodes.length : Int)
  · by_cases p2 : 0 ≤ (nth T.Edges k).To ∧ (nth T.Edges k).To < (T.Nodes.length : Int)
    · rw [decide_eq_true p1, decide_eq_true p2]
      cases b1
      · exact ⟨6, by simp, by simp, by simp⟩
      · cases b2
        · exact ⟨6, by simp, by simp, by simp⟩
        · exact ⟨0, by simp, by simp, fun _ => ⟨p1.1, p1.2, p2.1, p2.2⟩⟩
    · rw [decide_eq_true p1, decide_eq_false p2]; exact ⟨6, by simp, by simp, by simp⟩
  · rw [decide_eq_false p1]; exact ⟨6, by simp, by simp, by simp⟩
structure qZ (T : aq) : Prop where
  few : eM T
  n1 : 1 ≤ (T.Nodes.length : Int)
  n12 : (T.Nodes.length : Int) ≤ 12
  e20 : (T.Edges.length : Int) ≤ 20
  par : gz T ((T.Nodes.length : Int) - 1)
  at8 : ∀ i : Int, 0 ≤ i → i < (T.Nodes.length : Int) → ∃ l, eL T i l ∧ (l.length : Int) ≤ 8
  ed : ∀ i : Int, 0 ≤ i → i < (T.Edges.length : Int) → 0 ≤ (nth T.Edges i).From ∧ (nth T.Edges i).From < (T.Nodes.length : Int) ∧ 0 ≤ (nth T.Edges i).To ∧ (nth T.Edges i).To < (T.Nodes.length : Int)
theorem Jv {T : aq} (hf : eM T) : ∃ b, gO T = some b ∧ iD T = some b ∧ (b.2 = 0 → qZ T) := by
  unfold gO iD
  by_cases q1 : (T.Nodes.length : Int) = 0
  · rw [if_pos q1, if_pos q1]; exact ⟨_, rfl, rfl, by simp⟩
  rw [if_neg q1, if_neg q1]
  by_cases q2 : 12 < (T.Nodes.length : Int)
  · rw [if_pos q2, if_pos q2]; exact ⟨_, rfl, rfl, by simp⟩
  rw [if_neg q2, if_neg q2]
  by_cases q3 : 20 < (T.Edges.length : Int)
  · rw [if_pos q3, if_pos q3]; exact ⟨_, rfl, rfl, by simp⟩
  rw [if_neg q3, if_neg q3]
  refine eD (F := qc T) (G := pU T) (fun x => 0 ≤ x ∧ x ≤ (T.Nodes.length : Int) ∧ gz T (x - 1) ∧ ∀ i : Int, 0 ≤ i → i < x → ∃ l, eL T i l ∧ (l.length : Int) ≤ 8) (fun x => ((T.Nodes.length : Int) - x).toNat) (fun b => b.2 = 0 → qZ T) (fun x ⟨x0, x1, x2, x3⟩ => ?_) 0 ⟨by omega, by omega, fun k a b => by omega, fun i a b => by omega⟩
  unfold qc pU
  split
  · rename_i hx
    obtain ⟨c, c1, c2, c3⟩ := I5 hf (by omega) x0 hx x2
    rw [if_pos ⟨x0, hx⟩, c1, c2]
    by_cases h : c = 0
    · subst h
      obtain ⟨d1, d2⟩ := c3 rfl
      refine .inl ⟨x + 1, by simp, by simp, ⟨by omega, by omega, by rw [Int.add_sub_cancel]; exact d1, fun i a b => ?_⟩, by omega⟩
      by_cases e : i = x
      · subst e; exact d2
      · exact x3 i a (by omega)
    · exact .inr ⟨((nth T.Nodes x).Name, c), by simp [h], by simp [h, x0, hx], fun e => absurd e h⟩
  · rename_i hx
    have hxe : x = (T.Nodes.length : Int) := by omega
    subst hxe
    obtain ⟨b, b1, b2, b3⟩ := eD (F := qt T) (G := nM T) (fun y => 0 ≤ y ∧ y ≤ (T.Edges.length : Int) ∧ ∀ i : Int, 0 ≤ i → i < y → 0 ≤ (nth T.Edges i).From ∧ (nth T.Edges i).From < (T.Nodes.length : Int) ∧ 0 ≤ (nth T.Edges i).To ∧ (nth T.Edges i).To < (T.Nodes.length : Int)) (fun y => ((T.Edges.length : Int) - y).toNat) (fun b => b.2 = 0 → qZ T) (fun y ⟨y0, y1, y2⟩ => by
      unfold qt nM
      split
      · rename_i hy
        obtain ⟨c, c1, c2, c3⟩ := IS hf (by omega) (by omega) y0 hy
        rw [if_pos ⟨y0, hy⟩, c1, c2]
        by_cases h : c = 0
        · subst h
          refine .inl ⟨y + 1, by simp, by simp, ⟨by omega, by omega, fun i a b => ?_⟩, by omega⟩
          by_cases e : i = y
          · subst e; exact c3 rfl
          · exact y2 i a (by omega)
        · exact .inr ⟨((nth T.Edges y).Name, c), by simp [h], by simp [h, y0, hy], fun e => absurd e h⟩
      · exact .inr ⟨_, rfl, rfl, fun _ => ⟨hf, by omega, by omega, by omega, x2, x3, fun i a b => y2 i a (by omega)⟩⟩) 0 ⟨by omega, by omega, fun i a b => by omega⟩
    exact .inr ⟨b, by rw [b1]; rfl, by rw [b2]; rfl, b3⟩
end Go.Proofs.YtngimdmkomkeoaaGreat.K
