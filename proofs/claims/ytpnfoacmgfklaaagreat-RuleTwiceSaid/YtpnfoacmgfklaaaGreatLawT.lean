/- Laws about the type graphs that numbers describe: they are made, and they have no error. -/
import Derived.Test.YtpnfoacmgfklaaaGreatLawG
set_option linter.unusedVariables false
set_option linter.unusedSimpArgs false
namespace Go.Proofs.YtpnfoacmgfklaaaGreat.K
open Go.RowKit Go.Proofs

def nmN (i : Int) : ByteArray := cutS (ByteArray.mk #[65, 66, 67, 68, 69, 70]) i (i + 1)
def nmA (i : Int) : ByteArray := cutS (ByteArray.mk #[117, 118, 119, 120, 121, 122]) i (i + 1)
def nmE (i : Int) : ByteArray := cutS (ByteArray.mk #[101, 102, 103, 104, 105]) i (i + 1)
theorem six {P : Int → Prop} (h0 : P 0) (h1 : P 1) (h2 : P 2) (h3 : P 3) (h4 : P 4) (h5 : P 5) (i : Int) (a : 0 ≤ i) (b : i < 6) : P i := by
  have : i = 0 ∨ i = 1 ∨ i = 2 ∨ i = 3 ∨ i = 4 ∨ i = 5 := by omega
  rcases this with h | h | h | h | h | h <;> subst h <;> assumption
theorem nameN (i : Int) (a : 0 ≤ i) (b : i < 6) : token_IsName (nmN i) = some true ∧ ref01_IsName (nmN i) = some true :=
  six (P := fun i => token_IsName (nmN i) = some true ∧ ref01_IsName (nmN i) = some true) ⟨by kernel_rfl, by kernel_rfl⟩ ⟨by kernel_rfl, by kernel_rfl⟩ ⟨by kernel_rfl, by kernel_rfl⟩ ⟨by kernel_rfl, by kernel_rfl⟩ ⟨by kernel_rfl, by kernel_rfl⟩ ⟨by kernel_rfl, by kernel_rfl⟩ i a b
theorem nameA (i : Int) (a : 0 ≤ i) (b : i < 6) : token_IsName (nmA i) = some true ∧ ref01_IsName (nmA i) = some true :=
  six (P := fun i => token_IsName (nmA i) = some true ∧ ref01_IsName (nmA i) = some true) ⟨by kernel_rfl, by kernel_rfl⟩ ⟨by kernel_rfl, by kernel_rfl⟩ ⟨by kernel_rfl, by kernel_rfl⟩ ⟨by kernel_rfl, by kernel_rfl⟩ ⟨by kernel_rfl, by kernel_rfl⟩ ⟨by kernel_rfl, by kernel_rfl⟩ i a b
theorem nameE (i : Int) (a : 0 ≤ i) (b : i < 5) : token_IsName (nmE i) = some true ∧ ref01_IsName (nmE i) = some true := by
  have : i = 0 ∨ i = 1 ∨ i = 2 ∨ i = 3 ∨ i = 4 := by omega
  rcases this with h | h | h | h | h <;> subst h <;> exact ⟨by kernel_rfl, by kernel_rfl⟩
theorem injN : ∀ i : Nat, i < 6 → ∀ j : Nat, j < 6 → nmN (i : Int) = nmN (j : Int) → i = j := by decide +kernel
theorem injA : ∀ i : Nat, i < 6 → ∀ j : Nat, j < 6 → nmA (i : Int) = nmA (j : Int) → i = j := by decide +kernel
theorem injE : ∀ i : Nat, i < 5 → ∀ j : Nat, j < 5 → nmE (i : Int) = nmE (j : Int) → i = j := by decide +kernel
theorem nmN_inj {i j : Int} (a : 0 ≤ i) (b : i < 6) (c : 0 ≤ j) (d : j < 6) (h : nmN i = nmN j) : i = j := by
  obtain ⟨n, rfl⟩ := Int.eq_ofNat_of_zero_le a
  obtain ⟨m, rfl⟩ := Int.eq_ofNat_of_zero_le c
  have := injN n (by omega) m (by omega) h; omega
theorem nmA_inj {i j : Int} (a : 0 ≤ i) (b : i < 6) (c : 0 ≤ j) (d : j < 6) (h : nmA i = nmA j) : i = j := by
  obtain ⟨n, rfl⟩ := Int.eq_ofNat_of_zero_le a
  obtain ⟨m, rfl⟩ := Int.eq_ofNat_of_zero_le c
  have := injA n (by omega) m (by omega) h; omega
theorem nmE_inj {i j : Int} (a : 0 ≤ i) (b : i < 5) (c : 0 ≤ j) (d : j < 5) (h : nmE i = nmE j) : i = j := by
  obtain ⟨n, rfl⟩ := Int.eq_ofNat_of_zero_le a
  obtain ⟨m, rfl⟩ := Int.eq_ofNat_of_zero_le c
  have := injE n (by omega) m (by omega) h; omega

def offOn : List ByteArray := [(ByteArray.mk #[111, 102, 102]), (ByteArray.mk #[111, 110])]
def AttrOk (a : api_Attr) : Prop := (a.Names = [] ∧ -1000000 ≤ a.Low ∧ a.Low ≤ a.High ∧ a.High ≤ 1000000) ∨ (a.Names = offOn ∧ a.Low = 0 ∧ a.High = 1)
def NodeOk (i : Int) (n : api_NodeType) : Prop := n.Name = nmN i ∧ -1 ≤ n.Parent ∧ n.Parent < i ∧ (n.Attrs = [] ∨ ∃ a, n.Attrs = [a] ∧ a.Name = nmA i ∧ AttrOk a)
def EdgeTOk (n i : Int) (e : api_EdgeType) : Prop := e.Name = nmE i ∧ 0 ≤ e.From ∧ e.From < n ∧ 0 ≤ e.To ∧ e.To < n ∧ e.OutLow = 0 ∧ e.OutHigh = -1 ∧ e.InLow = 0 ∧ e.InHigh = -1
/-- the type graphs that numbers describe -/
structure TOk (T : api_Types) : Prop where
  n1 : 1 ≤ (T.Nodes.length : Int)
  n6 : (T.Nodes.length : Int) ≤ 6
  e5 : (T.Edges.length : Int) ≤ 5
  node : ∀ i : Int, 0 ≤ i → i < (T.Nodes.length : Int) → NodeOk i (nth T.Nodes i)
  edge : ∀ i : Int, 0 ≤ i → i < (T.Edges.length : Int) → EdgeTOk (T.Nodes.length : Int) i (nth T.Edges i)

def U8 (x : Int) : Prop := 0 ≤ x ∧ x ≤ 255
theorem tmod_rng {a n : Int} (ha : 0 ≤ a) (hn : 0 < n) : 0 ≤ a.tmod n ∧ a.tmod n < n := ⟨Int.tmod_nonneg _ ha, Int.tmod_lt_of_pos _ hn⟩
theorem made_node (ns : List api_NodeType) (i : Int) (v : Arr2_c_u8) (hi : 0 ≤ i) (h6 : i < 6) (hl : (ns.length : Int) = i) (h0 : U8 v.e0) (h1 : U8 v.e1) :
    ∃ n, ref04_Made_j162 (ns, i) v = some (.inl (ns ++ [n], i + 1)) ∧ NodeOk i n := by
  unfold ref04_Made_j162
  try simp only
  simp only [w64_in (x := i + 1) (by omega) (by omega), Option.bind_some]
  have s1 : ((ByteArray.mk #[65, 66, 67, 68, 69, 70]).size : Int) = 6 := rfl
  have s2 : ((ByteArray.mk #[117, 118, 119, 120, 121, 122]).size : Int) = 6 := rfl
  rw [s1, s2, if_pos (show 0 ≤ i ∧ i ≤ i + 1 ∧ i + 1 ≤ 6 by omega), if_pos (show i + 1 ≠ 0 by omega)]
  obtain ⟨m1, m2⟩ := tmod_rng h0.1 (show 0 < i + 1 by omega)
  rw [w64_in (x := v.e0.tmod (i + 1) - 1) (by omega) (by omega)]
  rw [if_pos (show 0 ≤ i ∧ i ≤ i + 1 ∧ i + 1 ≤ 6 by omega)]
  have fin : ∀ n, ref04_Made_j184 (ns, i) n = some (.inl (ns ++ [n], i + 1)) := fun n => by
    unfold ref04_Made_j184
    simp only
    rw [if_pos (by omega), w64_in (x := i + 1) (by omega) (by omega)]
    rfl
  by_cases c1 : v.e1.tmod 4 = 1
  · rw [if_pos c1]
    have d0 : 0 ≤ v.e1.tdiv 4 ∧ v.e1.tdiv 4 ≤ 255 := by
      obtain ⟨a, b⟩ := h1
      rw [Int.tdiv_eq_ediv_of_nonneg a]; omega
    rw [IntWalk.u8_in _ d0]
    obtain ⟨t1, t2⟩ := tmod_rng d0.1 (show (0 : Int) < 9 by omega)
    rw [w64_in (x := 3 + (v.e1.tdiv 4).tmod 9) (by omega) (by omega), fin]
    exact ⟨_, rfl, rfl, by simp only; omega, by simp only; omega, Or.inr ⟨_, rfl, rfl, Or.inl ⟨rfl, by simp only; omega, by simp only; omega, by simp only; omega⟩⟩⟩
  · rw [if_neg c1]
    unfold ref04_Made_j182
    by_cases c2 : v.e1.tmod 4 = 2
    · rw [if_pos c2, fin]
      exact ⟨_, rfl, rfl, by simp only; omega, by simp only; omega, Or.inr ⟨_, rfl, rfl, Or.inr ⟨rfl, rfl, rfl⟩⟩⟩
    · rw [if_neg c2, fin]
      exact ⟨_, rfl, rfl, by simp only; omega, by simp only; omega, Or.inl rfl⟩
theorem made_types (t0 t1 : List Arr2_c_u8) (h0 : ∀ x ∈ t0, U8 x.e0 ∧ U8 x.e1) (h1 : ∀ x ∈ t1, U8 x.e0 ∧ U8 x.e1) : ∃ T, ref04_Made t0 t1 = some T ∧ TOk T := by
  unfold ref04_Made
  refine Iter_inv (F := ref04_Made_l1 t0 t1) (fun x : List api_NodeType × Int => 0 ≤ x.2 ∧ x.2 ≤ 6 ∧ (x.1.length : Int) = x.2 ∧ ∀ i : Int, 0 ≤ i → i < (x.1.length : Int) → NodeOk i (nth x.1 i)) (fun x => (6 - x.2).toNat) TOk (fun x hp => ?_) ([], 0) ⟨by simp, by simp, by simp, fun i a b => by simp at b; omega⟩
  obtain ⟨ns, i⟩ := x
  obtain ⟨p1, p2, p3, p4⟩ := hp
  simp only at p1 p2 p3 p4
  have step : i < 6 → (∃ x', ref04_Made_j137 t0 (ns, i) () = some (.inl x') ∧ (0 ≤ x'.2 ∧ x'.2 ≤ 6 ∧ (x'.1.length : Int) = x'.2 ∧ ∀ i : Int, 0 ≤ i → i < (x'.1.length : Int) → NodeOk i (nth x'.1 i)) ∧ (6 - x'.2).toNat < (6 - i).toNat) := fun h6 => by
    have key : ∀ v : Arr2_c_u8, U8 v.e0 → U8 v.e1 → (∃ x', ref04_Made_j162 (ns, i) v = some (.inl x') ∧ (0 ≤ x'.2 ∧ x'.2 ≤ 6 ∧ (x'.1.length : Int) = x'.2 ∧ ∀ i : Int, 0 ≤ i → i < (x'.1.length : Int) → NodeOk i (nth x'.1 i)) ∧ (6 - x'.2).toNat < (6 - i).toNat) := fun v a b => by
      obtain ⟨n, e1, e2⟩ := made_node ns i v p1 h6 p3 a b
      exact ⟨_, e1, ⟨by simp only; omega, by simp only; omega, by simp only [List.length_append, List.length_singleton]; omega, all_snoc (P := NodeOk) p4 (by rw [p3]; exact e2)⟩, by simp only; omega⟩
    unfold ref04_Made_j137
    simp only
    by_cases c : i < (t0.length : Int)
    · rw [if_pos c, if_pos ⟨p1, c⟩]
      have := h0 _ (nth_mem p1 c)
      exact key _ this.1 this.2
    · rw [if_neg c]
      exact key ⟨0, 0⟩ (show U8 0 from ⟨by omega, by omega⟩) (show U8 0 from ⟨by omega, by omega⟩)
  have done : 1 ≤ i → ∃ T, ref04_Made_j191 t1 (ns, i) () = some (.inr T) ∧ TOk T := fun h1' => by
    unfold ref04_Made_j191
    obtain ⟨T, e1, e2⟩ := Iter_inv (F := ref04_Made_l193 t1 (ns, i)) (fun x : List api_EdgeType × Int => 0 ≤ x.2 ∧ x.2 ≤ 5 ∧ (x.1.length : Int) = x.2 ∧ ∀ j : Int, 0 ≤ j → j < (x.1.length : Int) → EdgeTOk (ns.length : Int) j (nth x.1 j)) (fun x => (5 - x.2).toNat) TOk (fun x hp => by
      obtain ⟨es, j⟩ := x
      obtain ⟨q1, q2, q3, q4⟩ := hp
      simp only at q1 q2 q3 q4
      have fin : ∃ T, ref04_Made_j213 (ns, i) (es, j) () = some (.inr T) ∧ TOk T := ⟨_, rfl, by simp only; omega, by simp only; omega, by simp only; omega, p4, q4⟩
      unfold ref04_Made_l193
      simp only
      have s1 : ((ByteArray.mk #[101, 102, 103, 104, 105]).size : Int) = 5 := rfl
      by_cases c : j < (t1.length : Int)
      · by_cases c5 : j < 5
        · obtain ⟨⟨a1, a2⟩, b1, b2⟩ := h1 _ (nth_mem q1 c)
          obtain ⟨m1, m2⟩ := tmod_rng a1 (show 0 < (ns.length : Int) by omega)
          obtain ⟨m3, m4⟩ := tmod_rng b1 (show 0 < (ns.length : Int) by omega)
          rw [if_pos c, if_pos c5, s1, if_pos (by omega), if_pos ⟨q1, c⟩, if_pos (by omega), if_pos (by simp only [List.length_singleton]; omega)]
          exact Or.inl ⟨_, rfl, ⟨by simp only; omega, by simp only; omega, by simp only [List.length_append, List.length_singleton]; omega, all_snoc (P := EdgeTOk (ns.length : Int)) q4 ⟨by rw [q3]; rfl, m1, m2, m3, m4, rfl, rfl, rfl, rfl⟩⟩, by simp only; omega⟩
        · rw [if_pos c, if_neg c5]; exact Or.inr fin
      · rw [if_neg c]; exact Or.inr fin) ([], 0) ⟨by simp, by simp, by simp, fun i a b => by simp at b; omega⟩
    rw [e1]
    exact ⟨T, rfl, e2⟩
  unfold ref04_Made_l1
  simp only
  by_cases c0 : i = 0
  · rw [if_pos c0]; exact Or.inl (step (by omega))
  · rw [if_neg c0]
    by_cases c : i < (t0.length : Int)
    · by_cases c6 : i < 6
      · rw [if_pos c, if_pos c6]; exact Or.inl (step c6)
      · rw [if_pos c, if_neg c6]; exact Or.inr (done (by omega))
    · rw [if_neg c]; exact Or.inr (done (by omega))

/-! ### the attributes of a node type -/
def Good (T : api_Types) (i : Int) (l : List api_Attr) : Prop := ∃ pre, l = pre ++ (nth T.Nodes i).Attrs ∧ (pre.length : Int) ≤ i ∧ ∀ a ∈ pre, ∃ j : Int, 0 ≤ j ∧ j < i ∧ a.Name = nmA j ∧ AttrOk a
theorem attrs1 {T : api_Types} (hT : TOk T) {i : Int} (h0 : 0 ≤ i) (h1 : i < (T.Nodes.length : Int)) : ((nth T.Nodes i).Attrs.length : Int) ≤ 1 := by
  obtain ⟨_, _, _, h | ⟨a, h, _⟩⟩ := hT.node i h0 h1 <;> rw [h] <;> simp
theorem Good.len {T : api_Types} (hT : TOk T) {i : Int} (h0 : 0 ≤ i) (h1 : i < (T.Nodes.length : Int)) {l : List api_Attr} (h : Good T i l) : (l.length : Int) ≤ i + 1 := by
  obtain ⟨pre, rfl, h2, _⟩ := h
  have := attrs1 hT h0 h1
  simp; omega
theorem Good.up {T : api_Types} (hT : TOk T) {p i : Int} (h0 : 0 ≤ p) (h1 : p < i) (h2 : i < (T.Nodes.length : Int)) {l : List api_Attr} (h : Good T p l) : Good T i (l ++ (nth T.Nodes i).Attrs) := by
  have hl := h.len hT h0 (by omega)
  refine ⟨l, rfl, by omega, fun a ha => ?_⟩
  obtain ⟨pre, rfl, _, h3⟩ := h
  rcases List.mem_append.1 ha with ha | ha
  · obtain ⟨j, a1, a2, a3⟩ := h3 a ha; exact ⟨j, a1, by omega, a3⟩
  · obtain ⟨_, _, _, e | ⟨b, e, e1, e2⟩⟩ := hT.node p h0 (by omega)
    · rw [e] at ha; simp at ha
    · rw [e] at ha; simp at ha; subst ha; exact ⟨p, h0, h1, e1, e2⟩
theorem Good.root {T : api_Types} {i : Int} (h0 : 0 ≤ i) : Good T i ([] ++ (nth T.Nodes i).Attrs) := ⟨[], rfl, by simpa using h0, by simp⟩
theorem attrs_n {T : api_Types} (hT : TOk T) : ∀ (n : Nat) (i : Int), 0 ≤ i → i < (T.Nodes.length : Int) → (∀ l, types_attrs_n n T i = some l → Good T i l) ∧ (i < n → ∃ l, types_attrs_n n T i = some l)
  | 0, i, h0, h1 => ⟨fun l h => (by cases h), fun h => by omega⟩
  | n + 1, i, h0, h1 => by
    show (∀ l, types_attrs_b (types_attrs_n n) T i = some l → Good T i l) ∧ (i < ((n + 1 : Nat) : Int) → ∃ l, types_attrs_b (types_attrs_n n) T i = some l)
    have hn := hT.node i h0 h1
    have n6 := hT.n6
    have a1 := attrs1 hT h0 h1
    unfold types_attrs_b types_attrs_j6
    rw [if_pos ⟨h0, h1⟩]
    by_cases hp : 0 ≤ (nth T.Nodes i).Parent
    · rw [if_pos hp]
      have ih := attrs_n hT n (nth T.Nodes i).Parent hp (by have := hn.2.2.1; omega)
      constructor
      · intro l h
        cases hc : types_attrs_n n T (nth T.Nodes i).Parent with
        | none => rw [hc] at h; cases h
        | some l' =>
          rw [hc] at h
          have hg := ih.1 l' hc
          have := hg.len hT hp (by have := hn.2.2.1; omega)
          have := hn.2.2.1
          simp only [Option.bind_some] at h
          rw [if_pos (by omega)] at h
          cases h
          exact hg.up hT hp hn.2.2.1 h1
      · intro hi
        obtain ⟨l', hc⟩ := ih.2 (by have := hn.2.2.1; omega)
        have hg := ih.1 l' hc
        have := hg.len hT hp (by have := hn.2.2.1; omega)
        have := hn.2.2.1
        rw [hc, Option.bind_some, if_pos (by omega)]
        exact ⟨_, rfl⟩
    · rw [if_neg hp, if_pos (by simp; omega)]
      exact ⟨fun l h => (by cases h; exact Good.root h0), fun _ => ⟨_, rfl⟩⟩
theorem attrs_law {T : api_Types} (hT : TOk T) (i : Int) (h0 : 0 ≤ i) (h1 : i < (T.Nodes.length : Int)) : ∃ l, types_attrs T i = some l ∧ Good T i l :=
  Ev_any (u := fun n => types_attrs_n n T i) (Q := Good T i) (fun n l h => (attrs_n hT n i h0 h1).1 l h) ⟨i.toNat + 1, (attrs_n hT (i.toNat + 1) i h0 h1).2 (by omega)⟩
theorem rattrs_n {T : api_Types} (hT : TOk T) : ∀ (n : Nat) (i : Int), i < (T.Nodes.length : Int) → (∀ l, ref04_attrs_n n T i = some l → (0 ≤ i → Good T i l) ∧ (i < 0 → l = [])) ∧ (max i (-1) + 1 < n → ∃ l, ref04_attrs_n n T i = some l)
  | 0, i, h1 => ⟨fun l h => (by cases h), fun h => by omega⟩
  | n + 1, i, h1 => by
    show (∀ l, ref04_attrs_b (ref04_attrs_n n) T i = some l → (0 ≤ i → Good T i l) ∧ (i < 0 → l = [])) ∧ (max i (-1) + 1 < ((n + 1 : Nat) : Int) → ∃ l, ref04_attrs_b (ref04_attrs_n n) T i = some l)
    have n6 := hT.n6
    unfold ref04_attrs_b
    by_cases hi : i < 0
    · rw [if_pos hi]
      exact ⟨fun l h => (by cases h; exact ⟨fun h => by omega, fun _ => rfl⟩), fun _ => ⟨_, rfl⟩⟩
    · have h0 : 0 ≤ i := by omega
      have hn := hT.node i h0 h1
      have a1 := attrs1 hT h0 h1
      rw [if_neg hi, if_pos ⟨h0, h1⟩]
      have ih := rattrs_n hT n (nth T.Nodes i).Parent (by have := hn.2.2.1; omega)
      have key : ∀ l', ref04_attrs_n n T (nth T.Nodes i).Parent = some l' → (l'.length : Int) ≤ 6 ∧ Good T i (l' ++ (nth T.Nodes i).Attrs) := fun l' hc => by
        have := ih.1 l' hc
        by_cases hp : 0 ≤ (nth T.Nodes i).Parent
        · have hg := this.1 hp
          have := hg.len hT hp (by have := hn.2.2.1; omega)
          have := hn.2.2.1
          exact ⟨by omega, hg.up hT hp hn.2.2.1 h1⟩
        · have e := this.2 (by omega)
          subst e
          exact ⟨by simp, Good.root h0⟩
      constructor
      · intro l h
        cases hc : ref04_attrs_n n T (nth T.Nodes i).Parent with
        | none => rw [hc] at h; cases h
        | some l' =>
          rw [hc] at h
          obtain ⟨k1, k2⟩ := key l' hc
          simp only [Option.bind_some] at h
          rw [if_pos (by omega), if_pos (by omega)] at h
          cases h
          exact ⟨fun _ => k2, fun h => by omega⟩
      · intro hlt
        obtain ⟨l', hc⟩ := ih.2 (by have := hn.2.2.1; have := hn.2.1; omega)
        obtain ⟨k1, k2⟩ := key l' hc
        rw [hc, Option.bind_some, if_pos (by omega), if_pos (by omega)]
        exact ⟨_, rfl⟩
theorem rattrs_law {T : api_Types} (hT : TOk T) (i : Int) (h0 : 0 ≤ i) (h1 : i < (T.Nodes.length : Int)) : ∃ l, ref04_attrs T i = some l ∧ Good T i l :=
  Ev_any (u := fun n => ref04_attrs_n n T i) (Q := Good T i) (fun n l h => ((rattrs_n hT n i h1).1 l h).1 h0) ⟨i.toNat + 3, (rattrs_n hT (i.toNat + 3) i h1).2 (by omega)⟩

/-! ### no error, in the program -/
theorem cont_nodeType : slices_ContainsFunc_api_NodeType = ContG := rfl
theorem cont_edgeType : slices_ContainsFunc_api_EdgeType = ContG := rfl
theorem cont_attr : slices_ContainsFunc_api_Attr = ContG := rfl
theorem cont_no {α : Type} [Inhabited α] {p : α → Option Bool} {q : α → Prop} (xs : List α) (h : ∀ x ∈ xs, ∃ b, p x = some b ∧ (b = true ↔ q x)) (hq : ∀ x ∈ xs, ¬ q x) : ContG xs p = some false := by
  obtain ⟨b, h1, h2⟩ := cont_law xs h
  cases b
  · exact h1
  · obtain ⟨x, a, c⟩ := h2.1 rfl; exact absurd c (hq x a)
theorem some_dec {p : Prop} [Decidable p] : ∃ b, some (decide p) = some b ∧ (b = true ↔ p) := ⟨_, rfl, by simp⟩
theorem names_ok {a : api_Attr} (h : AttrOk a) : types_names a.Names = some 0 ∧ ref04_attribute a = some 0 := by
  rcases h with ⟨h, h1, h2, h3⟩ | ⟨h, h1, h2⟩
  · constructor
    · rw [h]; kernel_rfl
    · unfold ref04_attribute ref04_in
      rw [h, if_pos (by simp), if_pos h1]
      simp only [Option.bind_some]
      rw [if_neg (by simp; omega), if_pos h2]
      simp only [Option.bind_some]
      rw [if_neg (by simp; omega)]
  · constructor
    · rw [h]; kernel_rfl
    · have e : ref04_names offOn = some 0 := by kernel_rfl
      unfold ref04_attribute
      rw [h, if_neg (by simp [offOn]), e]
      simp [h1, h2, offOn]
theorem attribute_ok {a : api_Attr} {i : Int} (h0 : 0 ≤ i) (h6 : i < 6) (hn : a.Name = nmA i) (hk : AttrOk a) (before : List api_Attr) (hb : ∀ b ∈ before, ∃ j : Int, 0 ≤ j ∧ j < i ∧ b.Name = nmA j) : types_attribute a before = some 0 := by
  unfold types_attribute
  rw [hn, (nameA i h0 h6).1, Option.bind_some, cont_attr, cont_no (p := fun x => types_attribute_1 x a) (q := fun x => x.Name = a.Name) before (fun x _ => some_dec) (fun x hx e => by
    obtain ⟨j, j0, j1, j2⟩ := hb x hx
    have := nmA_inj j0 (by omega) h0 h6 (j2.symm.trans (e.trans hn)); omega), Option.bind_some, (names_ok hk).1]
  simp only [Option.bind_some, Bool.not_true, Bool.false_eq_true, if_false, not_true]
  unfold types_attribute_j21 types_attribute_j25 types_attribute_j28
  rcases hk with ⟨h, h1, h2, h3⟩ | ⟨h, h1, h2⟩
  · rw [if_pos h1, if_pos h2, h, if_neg (by simp)]; simp [h3]
  · rw [h1, h2, h]; simp [offOn]
theorem node_ok {T : api_Types} (hT : TOk T) (i : Int) (h0 : 0 ≤ i) (h1 : i < (T.Nodes.length : Int)) : types_node T i = some 0 := by
  have hn := hT.node i h0 h1
  have n6 := hT.n6
  have a1 := attrs1 hT h0 h1
  obtain ⟨l, e1, e2⟩ := attrs_law hT i h0 h1
  have hl := e2.len hT h0 h1
  obtain ⟨pre, e3, e4, e5⟩ := e2
  have hlen : (l.length : Int) = pre.length + (nth T.Nodes i).Attrs.length := by rw [e3]; simp
  unfold types_node
  rw [if_pos ⟨h0, h1⟩, hn.1, (nameN i h0 (by omega)).1, Option.bind_some, if_neg (by simp), if_pos (by omega), cont_nodeType, cont_no (p := fun x => types_node_1 x (nth T.Nodes i)) (q := fun x => x.Name = (nth T.Nodes i).Name) _ (fun x _ => some_dec) (fun x hx e => by
    rw [cut0 h0] at hx
    obtain ⟨k, hk, hx⟩ := List.getElem_of_mem hx
    have hk' : k < T.Nodes.length ∧ (k : Int) < i := by simp at hk; omega
    have hx2 : nth T.Nodes (k : Int) = x := by rw [nth_nat _ k hk'.1, ← hx]; simp
    have := (hT.node (k : Int) (by omega) (by omega)).1
    rw [hx2, e, hn.1] at this
    have := nmN_inj h0 (by omega) (show 0 ≤ (k : Int) by omega) (by omega) this; omega), Option.bind_some, if_neg (by simp), if_neg (by have := hn.2.1; omega), if_neg (by have := hn.2.2.1; omega), if_neg (by omega), e1, Option.bind_some, if_neg (by omega), w64_in (by omega) (by omega), Option.bind_some]
  obtain ⟨c, hc, rfl⟩ := Iter_inv (F := types_node_l18 l) (fun x : Int => (pre.length : Int) ≤ x ∧ x ≤ (l.length : Int)) (fun x => ((l.length : Int) - x).toNat) (fun c => c = 0) (fun x hp => by
    obtain ⟨p1, p2⟩ := hp
    unfold types_node_l18
    by_cases hx : x < (l.length : Int)
    · have hx' : x = (pre.length : Int) := by omega
      rw [if_pos hx, if_pos (by omega), if_pos (by omega)]
      rcases hn.2.2.2 with e | ⟨a, e, f1, f2⟩
      · rw [e] at hlen; simp at hlen; omega
      · rw [e] at e3
        have v1 : nth l x = a := by rw [e3]; exact nth_last hx'
        have v2 : cut l 0 x = pre := by rw [cut0 (by omega), e3, hx']; simp
        rw [v1, v2, attribute_ok h0 (by omega) f1 f2 pre (fun b hb => by obtain ⟨j, j1, j2, j3, _⟩ := e5 b hb; exact ⟨j, j1, j2, j3⟩)]
        exact Or.inl ⟨_, rfl, ⟨by omega, by omega⟩, by omega⟩
    · rw [if_neg hx]; exact Or.inr ⟨_, rfl, rfl⟩) ((l.length : Int) - (nth T.Nodes i).Attrs.length) ⟨by omega, by omega⟩
  exact hc
theorem edge_ok {T : api_Types} (hT : TOk T) (i : Int) (h0 : 0 ≤ i) (h1 : i < (T.Edges.length : Int)) : types_edge T i = some 0 := by
  obtain ⟨n1, n2, n3, n4, n5, n6, n7, n8, n9⟩ := hT.edge i h0 h1
  have e5 := hT.e5
  unfold types_edge types_edge_j23 types_edge_j26 types_edge_1
  rw [if_pos ⟨h0, h1⟩, n1, (nameE i h0 (by omega)).1, Option.bind_some, if_neg (by simp), if_pos (by omega), cont_edgeType, cont_no (p := fun x => types_edge_2 x (nth T.Edges i)) (q := fun x => x.Name = (nth T.Edges i).Name) _ (fun x _ => some_dec) (fun x hx e => by
    rw [cut0 h0] at hx
    obtain ⟨k, hk, hx⟩ := List.getElem_of_mem hx
    have hk' : k < T.Edges.length ∧ (k : Int) < i := by simp at hk; omega
    have hx2 : nth T.Edges (k : Int) = x := by rw [nth_nat _ k hk'.1, ← hx]; simp
    have := (hT.edge (k : Int) (by omega) (by omega)).1
    rw [hx2, e, n1] at this
    have := nmE_inj h0 (by omega) (show 0 ≤ (k : Int) by omega) (by omega) this; omega)]
  simp [n2, n3, n4, n5, n6, n7, n8, n9, types_bounded]
theorem types_ok {T : api_Types} (hT : TOk T) : types_Valid T = some ((ByteArray.mk #[]), 0) := by
  have n1 := hT.n1
  have n6 := hT.n6
  have e5 := hT.e5
  unfold types_Valid
  rw [if_neg (by omega), if_neg (by omega), if_neg (by omega)]
  have inner : Iter (types_Valid_l18 T) 0 = some ((ByteArray.mk #[]), 0) := by
    obtain ⟨c, hc, rfl⟩ := Iter_inv (F := types_Valid_l18 T) (fun x : Int => 0 ≤ x ∧ x ≤ (T.Edges.length : Int)) (fun x => ((T.Edges.length : Int) - x).toNat) (fun c => c = ((ByteArray.mk #[]), 0)) (fun x hp => by
      obtain ⟨p1, p2⟩ := hp
      unfold types_Valid_l18
      by_cases hx : x < (T.Edges.length : Int)
      · rw [if_pos hx, if_pos ⟨p1, hx⟩, edge_ok hT x p1 hx]; exact Or.inl ⟨_, rfl, ⟨by omega, by omega⟩, by omega⟩
      · rw [if_neg hx]; exact Or.inr ⟨_, rfl, rfl⟩) 0 ⟨by omega, by omega⟩
    exact hc
  obtain ⟨c, hc, rfl⟩ := Iter_inv (F := types_Valid_l4 T) (fun x : Int => 0 ≤ x ∧ x ≤ (T.Nodes.length : Int)) (fun x => ((T.Nodes.length : Int) - x).toNat) (fun c => c = ((ByteArray.mk #[]), 0)) (fun x hp => by
    obtain ⟨p1, p2⟩ := hp
    unfold types_Valid_l4
    by_cases hx : x < (T.Nodes.length : Int)
    · rw [if_pos hx, if_pos ⟨p1, hx⟩, node_ok hT x p1 hx]; exact Or.inl ⟨_, rfl, ⟨by omega, by omega⟩, by omega⟩
    · rw [if_neg hx, inner]; exact Or.inr ⟨_, rfl, rfl⟩) 0 ⟨by omega, by omega⟩
  exact hc

/-! ### no error, in the document's answer -/
theorem in_eq (a b c : Int) : ref04_in a b c = some (decide (b ≤ a ∧ a ≤ c)) := by
  unfold ref04_in; by_cases h : b ≤ a <;> simp [h]
theorem rnode_ok {T : api_Types} (hT : TOk T) (i : Int) (h0 : 0 ≤ i) (h1 : i < (T.Nodes.length : Int)) : ref04_node T i = some 0 := by
  have hn := hT.node i h0 h1
  have n6 := hT.n6
  have a1 := attrs1 hT h0 h1
  obtain ⟨l, e1, e2⟩ := rattrs_law hT i h0 h1
  have hl := e2.len hT h0 h1
  obtain ⟨pre, e3, e4, e5⟩ := e2
  have hlen : (l.length : Int) = pre.length + (nth T.Nodes i).Attrs.length := by rw [e3]; simp
  have last : Iter (ref04_node_l26 l) ((l.length : Int) - (nth T.Nodes i).Attrs.length) = some 0 := by
    obtain ⟨c, hc, rfl⟩ := Iter_inv (F := ref04_node_l26 l) (fun x : Int => (pre.length : Int) ≤ x ∧ x ≤ (l.length : Int)) (fun x => ((l.length : Int) - x).toNat) (fun c => c = 0) (fun x hp => by
      obtain ⟨p1, p2⟩ := hp
      unfold ref04_node_l26
      by_cases hx : x < (l.length : Int)
      · have hx' : x = (pre.length : Int) := by omega
        rw [if_pos hx, if_pos (by omega)]
        rcases hn.2.2.2 with e | ⟨a, e, f1, f2⟩
        · rw [e] at hlen; simp at hlen; omega
        · rw [e] at e3
          have v1 : nth l x = a := by rw [e3]; exact nth_last hx'
          rw [v1, f1, (nameA i h0 (by omega)).2, Option.bind_some, if_neg (by simp)]
          obtain ⟨c, hc, rfl⟩ := Iter_inv (F := ref04_node_l53 l x) (fun y : Int => 0 ≤ y ∧ y ≤ x) (fun y => (x - y).toNat) (fun c => c = .inl (x + 1)) (fun y hp => by
            obtain ⟨q1, q2⟩ := hp
            unfold ref04_node_l53
            by_cases hy : y < x
            · have hm : nth l y ∈ pre := by
                rw [e3, nth_left q1 (by omega)]; exact nth_mem q1 (by omega)
              obtain ⟨j, j1, j2, j3, _⟩ := e5 _ hm
              rw [if_pos hy, if_pos (by omega), v1, j3, f1, if_neg (fun e => by have := nmA_inj j1 (by omega) h0 (by omega) e; omega)]
              exact Or.inl ⟨_, rfl, ⟨by omega, by omega⟩, by omega⟩
            · rw [if_neg hy, v1, (names_ok f2).2]; exact Or.inr ⟨_, rfl, rfl⟩) 0 ⟨by omega, by omega⟩
          rw [hc]
          exact Or.inl ⟨_, rfl, ⟨by omega, by omega⟩, by omega⟩
      · rw [if_neg hx]; exact Or.inr ⟨_, rfl, rfl⟩) ((l.length : Int) - (nth T.Nodes i).Attrs.length) ⟨by omega, by omega⟩
    exact hc
  unfold ref04_node
  rw [if_pos ⟨h0, h1⟩, hn.1, (nameN i h0 (by omega)).2, Option.bind_some, if_neg (by simp)]
  obtain ⟨c, hc, rfl⟩ := Iter_inv (F := ref04_node_l5 T i) (fun y : Int => 0 ≤ y ∧ y ≤ i) (fun y => (i - y).toNat) (fun c => c = 0) (fun y hp => by
    obtain ⟨q1, q2⟩ := hp
    unfold ref04_node_l5
    by_cases hy : y < i
    · rw [if_pos hy, if_pos (by omega), (hT.node y q1 (by omega)).1, hn.1, if_neg (fun e => by have := nmN_inj q1 (by omega) h0 (by omega) e; omega)]
      exact Or.inl ⟨_, rfl, ⟨by omega, by omega⟩, by omega⟩
    · have g1 := hn.2.1
      have g2 := hn.2.2.1
      rw [if_neg hy, w64_in (by omega) (by omega), Option.bind_some, in_eq, Option.bind_some, if_neg (by simp; omega), e1, Option.bind_some, if_neg (by omega), if_neg (by omega), w64_in (by omega) (by omega), Option.bind_some, last]
      exact Or.inr ⟨_, rfl, rfl⟩) 0 ⟨by omega, by omega⟩
  exact hc
theorem redge_ok {T : api_Types} (hT : TOk T) (i : Int) (h0 : 0 ≤ i) (h1 : i < (T.Edges.length : Int)) : ref04_edge T i = some 0 := by
  obtain ⟨n1, n2, n3, n4, n5, n6, n7, n8, n9⟩ := hT.edge i h0 h1
  have e5 := hT.e5
  have t6 := hT.n6
  unfold ref04_edge
  rw [if_pos ⟨h0, h1⟩, n1, (nameE i h0 (by omega)).2, Option.bind_some, if_neg (by simp)]
  obtain ⟨c, hc, rfl⟩ := Iter_inv (F := ref04_edge_l5 T i) (fun y : Int => 0 ≤ y ∧ y ≤ i) (fun y => (i - y).toNat) (fun c => c = 0) (fun y hp => by
    obtain ⟨q1, q2⟩ := hp
    unfold ref04_edge_l5
    by_cases hy : y < i
    · rw [if_pos hy, if_pos (by omega), (hT.edge y q1 (by omega)).1, n1, if_neg (fun e => by have := nmE_inj q1 (by omega) h0 (by omega) e; omega)]
      exact Or.inl ⟨_, rfl, ⟨by omega, by omega⟩, by omega⟩
    · have b1 : ref04_bound 0 (-1) = some true := by kernel_rfl
      rw [if_neg hy, w64_in (by omega) (by omega), Option.bind_some, in_eq, Option.bind_some, if_neg (by simp; omega), in_eq, Option.bind_some, if_neg (by simp; omega), n6, n7, n8, n9, b1]
      exact Or.inr ⟨_, rfl, rfl⟩) 0 ⟨by omega, by omega⟩
  exact hc
theorem rtypes_ok {T : api_Types} (hT : TOk T) : ref04_Valid T = some ((ByteArray.mk #[]), 0) := by
  have n1 := hT.n1
  have n6 := hT.n6
  have e5 := hT.e5
  unfold ref04_Valid
  rw [if_neg (by omega), if_neg (by omega), if_neg (by omega)]
  have inner : Iter (ref04_Valid_l18 T) 0 = some ((ByteArray.mk #[]), 0) := by
    obtain ⟨c, hc, rfl⟩ := Iter_inv (F := ref04_Valid_l18 T) (fun x : Int => 0 ≤ x ∧ x ≤ (T.Edges.length : Int)) (fun x => ((T.Edges.length : Int) - x).toNat) (fun c => c = ((ByteArray.mk #[]), 0)) (fun x hp => by
      obtain ⟨p1, p2⟩ := hp
      unfold ref04_Valid_l18
      by_cases hx : x < (T.Edges.length : Int)
      · rw [if_pos hx, redge_ok hT x p1 hx]; exact Or.inl ⟨_, rfl, ⟨by omega, by omega⟩, by omega⟩
      · rw [if_neg hx]; exact Or.inr ⟨_, rfl, rfl⟩) 0 ⟨by omega, by omega⟩
    exact hc
  obtain ⟨c, hc, rfl⟩ := Iter_inv (F := ref04_Valid_l4 T) (fun x : Int => 0 ≤ x ∧ x ≤ (T.Nodes.length : Int)) (fun x => ((T.Nodes.length : Int) - x).toNat) (fun c => c = ((ByteArray.mk #[]), 0)) (fun x hp => by
    obtain ⟨p1, p2⟩ := hp
    unfold ref04_Valid_l4
    by_cases hx : x < (T.Nodes.length : Int)
    · rw [if_pos hx, rnode_ok hT x p1 hx]; exact Or.inl ⟨_, rfl, ⟨by omega, by omega⟩, by omega⟩
    · rw [if_neg hx, inner]; exact Or.inr ⟨_, rfl, rfl⟩) 0 ⟨by omega, by omega⟩
  exact hc

/-! ### what always answers -/
theorem given_law {T : api_Types} (hT : TOk T) (l : List Int) : ∃ c, types_given T l = some c ∧ (c = 0 ↔ ∀ x ∈ l, 0 ≤ x ∧ x < (T.Nodes.length : Int)) := by
  unfold types_given
  rw [types_ok hT, Option.bind_some, if_neg (by simp), cont_int]
  obtain ⟨b, h1, h2⟩ := cont_law (p := fun x => types_given_1 x T) (q := fun x => x < 0 ∨ (T.Nodes.length : Int) ≤ x) l (fun x _ => by
    unfold types_given_1
    by_cases h : x < 0
    · exact ⟨true, by simp [h], by simp [h]⟩
    · exact ⟨decide ((T.Nodes.length : Int) ≤ x), by simp [h], by simp [h]⟩)
  rw [h1, Option.bind_some]
  cases b
  · refine ⟨0, rfl, fun _ x hx => ?_, fun _ => rfl⟩
    by_cases h : x < 0 ∨ (T.Nodes.length : Int) ≤ x
    · exact absurd (h2.2 ⟨x, hx, h⟩) (by simp)
    · omega
  · obtain ⟨x, hx, h⟩ := h2.1 rfl
    exact ⟨6, rfl, fun h => (by cases h), fun k => by have := k x hx; omega⟩
theorem rgiven_law {T : api_Types} (hT : TOk T) (a b : Int) : ∃ c, ref04_given T a b = some c ∧ (c = 0 ↔ (0 ≤ a ∧ a < (T.Nodes.length : Int)) ∧ (0 ≤ b ∧ b < (T.Nodes.length : Int))) := by
  have n1 := hT.n1
  have n6 := hT.n6
  unfold ref04_given
  rw [rtypes_ok hT, Option.bind_some, if_neg (by simp), w64_in (by omega) (by omega), Option.bind_some, in_eq, Option.bind_some]
  by_cases h : 0 ≤ a ∧ a ≤ (T.Nodes.length : Int) - 1
  · rw [if_neg (by simp [h]), Option.bind_some, in_eq, Option.bind_some]
    by_cases h' : 0 ≤ b ∧ b ≤ (T.Nodes.length : Int) - 1
    · rw [if_neg (by simp [h'])]; exact ⟨0, rfl, fun _ => by omega, fun _ => rfl⟩
    · rw [if_pos (by simp; omega)]; exact ⟨6, rfl, fun h => (by cases h), fun k => by omega⟩
  · rw [if_pos (by simp; omega)]; exact ⟨6, rfl, fun h => (by cases h), fun k => by omega⟩
theorem reverse_tot (xs : List Int) (hl : (xs.length : Int) ≤ 1000) : ∃ ys, slices_Reverse_int xs = some ys := by
  unfold slices_Reverse_int
  rw [w64_in (by omega) (by omega), Option.bind_some]
  obtain ⟨b, hb, _⟩ := Iter_inv (F := slices_Reverse_int_l3) (fun x : List Int × Int × Int => (x.1.length : Int) = xs.length ∧ 0 ≤ x.2.1 ∧ x.2.2 < (xs.length : Int)) (fun x => (x.2.2 - x.2.1).toNat) (fun _ => True) (fun x hp => by
    obtain ⟨ys, i, j⟩ := x
    obtain ⟨p1, p2, p3⟩ := hp
    simp only at p1 p2 p3
    unfold slices_Reverse_int_l3
    simp only
    by_cases h : i < j
    · rw [if_pos h, if_pos (by omega), if_pos (by omega), if_pos (by simp; omega)]
      exact Or.inl ⟨_, rfl, ⟨by simp; omega, by simp only; omega, by simp only; omega⟩, by simp only; omega⟩
    · rw [if_neg h]; exact Or.inr ⟨_, rfl, trivial⟩) (xs, 0, (xs.length : Int) - 1) ⟨rfl, by simp, by simp only; omega⟩
  exact ⟨b, hb⟩
theorem is_tot {T : api_Types} (hT : TOk T) (a b : Int) (h1 : a < (T.Nodes.length : Int)) : ∃ c, types_is T a b = some c := by
  have n6 := hT.n6
  unfold types_is types_line
  obtain ⟨l, hl, _⟩ := Iter_inv (F := types_line_l1 T) (fun x : Int × List Int => x.1 < (T.Nodes.length : Int) ∧ -1 ≤ max x.1 (-1) ∧ (x.2.length : Int) + max x.1 (-1) ≤ 10) (fun x => (x.1 + 1).toNat) (fun _ => True) (fun x hp => by
    obtain ⟨a, l⟩ := x
    obtain ⟨p1, _, p2⟩ := hp
    simp only at p1 p2
    unfold types_line_l1
    simp only
    by_cases h : 0 ≤ a
    · obtain ⟨_, g1, g2, _⟩ := hT.node a h p1
      rw [if_pos h, if_pos (by omega), if_pos ⟨h, p1⟩]
      exact Or.inl ⟨_, rfl, ⟨by simp only; omega, by simp only; omega, by simp only [List.length_append, List.length_singleton]; omega⟩, by simp only; omega⟩
    · rw [if_neg h]
      obtain ⟨ys, hy⟩ := reverse_tot l (by omega)
      rw [hy]; exact Or.inr ⟨_, rfl, trivial⟩) (a, []) ⟨h1, by simp only; omega, by simp only [List.length_nil]; omega⟩
  obtain ⟨c, hc, _⟩ := contains_law l b
  rw [hl, Option.bind_some, hc]
  exact ⟨c, rfl⟩
theorem fits_tot {T : api_Types} (hT : TOk T) (e a b : Int) : ∃ c, types_Fits T e a b = some c := by
  unfold types_Fits
  obtain ⟨c, h1, h2⟩ := given_law hT [a, b]
  rw [h1, Option.bind_some]
  by_cases hc : c = 0
  rotate_left
  · rw [if_pos hc]; exact ⟨_, rfl⟩
  have hr := h2.1 hc
  have ra := hr a (by simp)
  have rb := hr b (by simp)
  rw [if_neg (by simpa using hc)]
  by_cases h3 : e < 0
  · rw [if_pos h3]; exact ⟨_, rfl⟩
  by_cases h4 : (T.Edges.length : Int) ≤ e
  · rw [if_neg h3, if_pos h4]; exact ⟨_, rfl⟩
  rw [if_neg h3, if_neg h4, if_pos (by omega)]
  obtain ⟨c1, k1⟩ := is_tot hT a (nth T.Edges e).From ra.2
  obtain ⟨c2, k2⟩ := is_tot hT b (nth T.Edges e).To rb.2
  rw [k1, k2]
  cases c1
  · exact ⟨_, rfl⟩
  · exact ⟨c2, rfl⟩
theorem below1_tot {T : api_Types} (hT : TOk T) (a b : Int) (h1 : a < (T.Nodes.length : Int)) : ∃ c, ref04_Below1 T a b = some c := by
  have key : ∀ (n : Nat) (a : Int), a < (T.Nodes.length : Int) → max a (-1) + 1 < n → ∃ c, ref04_Below1_n n T a b = some c := by
    intro n
    induction n with
    | zero => intro a _ h; omega
    | succ n ih =>
      intro a h1 h2
      show ∃ c, ref04_Below1_b (ref04_Below1_n n) T a b = some c
      unfold ref04_Below1_b
      by_cases e : a = b
      · rw [if_pos e]; exact ⟨_, rfl⟩
      · rw [if_neg e]
        by_cases h : 0 ≤ a
        · obtain ⟨_, g1, g2, _⟩ := hT.node a h h1
          obtain ⟨c, hc⟩ := ih (nth T.Nodes a).Parent (by omega) (by omega)
          rw [if_pos h, if_pos ⟨h, h1⟩, hc]; exact ⟨c, rfl⟩
        · rw [if_neg h]; exact ⟨_, rfl⟩
  obtain ⟨c, hc, _⟩ := Ev_any (u := fun n => ref04_Below1_n n T a b) (Q := fun _ => True) (fun _ _ _ => trivial) ⟨(max a (-1) + 1).toNat + 1, key _ a h1 (by omega)⟩
  exact ⟨c, hc⟩
theorem rfits_tot {T : api_Types} (hT : TOk T) (e a b : Int) : ∃ c, ref04_Fits T e a b = some c := by
  have e5 := hT.e5
  unfold ref04_Fits
  obtain ⟨c, h1, h2⟩ := rgiven_law hT a b
  rw [h1, Option.bind_some]
  by_cases hc : c = 0
  rotate_left
  · rw [if_pos hc]; exact ⟨_, rfl⟩
  obtain ⟨ra, rb⟩ := h2.1 hc
  rw [if_neg (by simpa using hc), w64_in (by omega) (by omega), Option.bind_some, in_eq, Option.bind_some]
  by_cases h : 0 ≤ e ∧ e ≤ (T.Edges.length : Int) - 1
  · rw [if_neg (by simp [h]), if_pos (by omega)]
    obtain ⟨c1, k1⟩ := below1_tot hT a (nth T.Edges e).From ra.2
    obtain ⟨c2, k2⟩ := below1_tot hT b (nth T.Edges e).To rb.2
    rw [k1, k2]
    cases c1
    · exact ⟨_, rfl⟩
    · exact ⟨c2, rfl⟩
  · rw [if_pos (by simp; omega)]; exact ⟨_, rfl⟩
theorem rAttrs_tot {T : api_Types} (hT : TOk T) (i : Int) (h0 : 0 ≤ i) (h1 : i < (T.Nodes.length : Int)) : ∃ b, ref04_Attrs T i = some b ∧ (b.1.length : Int) ≤ 6 := by
  have n6 := hT.n6
  unfold ref04_Attrs
  obtain ⟨c, e1, e2⟩ := rgiven_law hT i i
  obtain ⟨l, k1, k2⟩ := rattrs_law hT i h0 h1
  have hl := k2.len hT h0 h1
  rw [e1, Option.bind_some, if_neg (by simp; exact e2.2 ⟨⟨h0, h1⟩, h0, h1⟩), k1, Option.bind_some]
  obtain ⟨pre, rfl, g1, g2⟩ := k2
  have small : ∀ j : Int, 0 ≤ j → j < ((pre ++ (nth T.Nodes i).Attrs).length : Int) → (nth (pre ++ (nth T.Nodes i).Attrs) j).Names.length ≤ 2 := fun j j0 j1 => by
    have ok : AttrOk (nth (pre ++ (nth T.Nodes i).Attrs) j) := by
      rcases List.mem_append.1 (nth_mem j0 j1) with h | h
      · obtain ⟨_, _, _, _, h⟩ := g2 _ h; exact h
      · obtain ⟨_, _, _, e | ⟨a, e, _, f⟩⟩ := hT.node i h0 h1
        · rw [e] at h; simp at h
        · have : nth (pre ++ (nth T.Nodes i).Attrs) j = a := by rw [e] at h ⊢; simpa using h
          rw [this]; exact f
    rcases ok with ⟨h, _⟩ | ⟨h, _⟩ <;> rw [h] <;> simp [offOn]
  refine Iter_inv (F := ref04_Attrs_l6 (pre ++ (nth T.Nodes i).Attrs)) (fun x : List api_Attr × Int => 0 ≤ x.2 ∧ x.2 ≤ ((pre ++ (nth T.Nodes i).Attrs).length : Int) ∧ (x.1.length : Int) = x.2) (fun x => (((pre ++ (nth T.Nodes i).Attrs).length : Int) - x.2).toNat) _ (fun x hp => ?_) ([], 0) ⟨by simp, by simp only; omega, by simp⟩
  obtain ⟨r, x⟩ := x
  obtain ⟨p1, p2, p3⟩ := hp
  simp only at p1 p2 p3
  unfold ref04_Attrs_l6
  simp only
  by_cases hx : x < ((pre ++ (nth T.Nodes i).Attrs).length : Int)
  · have := small x p1 hx
    rw [if_pos hx, if_pos ⟨p1, hx⟩, if_pos (by omega), if_pos (by omega)]
    exact Or.inl ⟨_, rfl, ⟨by simp only; omega, by simp only; omega, by simp only [List.length_append, List.length_singleton]; omega⟩, by simp only; omega⟩
  · rw [if_neg hx]; exact Or.inr ⟨_, rfl, by simp only; omega⟩
end Go.Proofs.YtpnfoacmgfklaaaGreat.K
