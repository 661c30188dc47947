/- Plain laws: sameness of rules, in the program and in the document's answer. -/
import Derived.Test.YtpnfoacmgfklaaaGreatLawP
set_option linter.unusedVariables false
set_option linter.unusedSimpArgs false
namespace Go.Proofs.YtpnfoacmgfklaaaGreat.K
open Go.RowKit Go.Proofs

/-- What a loop's end has, if there is one. -/
theorem Iter_part {σ β : Type} {F : σ → Option (σ ⊕ β)} (P : σ → Prop) (Q : β → Prop)
    (h : ∀ x, P x → (∀ x', F x = some (.inl x') → P x') ∧ (∀ b, F x = some (.inr b) → Q b)) {x : σ} {b : β} (hp : P x) (hb : Iter F x = some b) : Q b := by
  obtain ⟨n, hn⟩ := Lim_some hb
  have key : ∀ n x b, P x → iterN F n x = some b → Q b := by
    intro n
    induction n with
    | zero => intro x b _ h0; simp [iterN] at h0
    | succ n ih =>
      intro x b hx hb
      rw [iterN] at hb
      cases hF : F x with
      | none => rw [hF] at hb; simp at hb
      | some z =>
        rw [hF] at hb
        cases z with
        | inl x' => exact ih x' b ((h x hx).1 x' hF) (by simpa using hb)
        | inr c =>
          have : c = b := by simpa using hb
          exact this ▸ (h x hx).2 c hF
  exact key n x b hp hn

/-- f says of x and y whether they are equal -/
def Says {α : Type} (u : Option Bool) (x y : α) : Prop := ∃ b, u = some b ∧ (b = true ↔ x = y)
theorem Says.same {α : Type} {u v : Option Bool} {x y : α} (h : Says u x y) (k : Says v x y) : ∃ b, u = some b ∧ v = some b := by
  obtain ⟨b, h1, h2⟩ := h
  obtain ⟨c, k1, k2⟩ := k
  have : b = c := by cases b <;> cases c <;> simp_all
  exact ⟨b, h1, this ▸ k1⟩
theorem Says.refl {α : Type} {u : Option Bool} {x : α} (h : Says u x x) : u = some true := by
  obtain ⟨b, h1, h2⟩ := h
  rw [h1, h2.2 rfl]
theorem Says.bind {α : Type} {u : Option Bool} {x y : α} (h : Says u x y) : ∃ b, u = some b ∧ (b = true → x = y) ∧ (b = false → ¬ x = y) := by
  obtain ⟨b, h1, h2⟩ := h
  exact ⟨b, h1, h2.1, fun e k => by rw [h2.2 k] at e; cases e⟩
theorem ext_nth {α : Type} [Inhabited α] {xs ys : List α} (hl : xs.length = ys.length) (h : ∀ i : Int, 0 ≤ i → i < (xs.length : Int) → nth xs i = nth ys i) : xs = ys := by
  refine List.ext_getElem hl fun i h1 h2 => ?_
  have := h (i : Int) (by omega) (by omega)
  rwa [nth_nat xs i h1, nth_nat ys i h2] at this
theorem says_loop {α : Type} [Inhabited α] {xs ys : List α} {F : Int → Option (Int ⊕ Bool)} (hl : (xs.length : Int) = (ys.length : Int))
    (h1 : ∀ i : Int, 0 ≤ i → i < (xs.length : Int) → (nth xs i = nth ys i → F i = some (.inl (i + 1))) ∧ (¬ nth xs i = nth ys i → F i = some (.inr false))) (h2 : F (xs.length : Int) = some (.inr true)) : Says (Iter F 0) xs ys := by
  refine Iter_inv (fun x : Int => 0 ≤ x ∧ x ≤ (xs.length : Int) ∧ ∀ i : Int, 0 ≤ i → i < x → nth xs i = nth ys i) (fun x => ((xs.length : Int) - x).toNat) (fun b => b = true ↔ xs = ys) (fun x hp => ?_) 0 ⟨by omega, by omega, fun i a b => by omega⟩
  obtain ⟨p1, p2, p3⟩ := hp
  by_cases hx : x < (xs.length : Int)
  · by_cases he : nth xs x = nth ys x
    · refine Or.inl ⟨x + 1, (h1 x p1 hx).1 he, ⟨by omega, by omega, fun i a b => ?_⟩, by omega⟩
      by_cases e : i = x
      · rw [e]; exact he
      · exact p3 i a (by omega)
    · exact Or.inr ⟨false, (h1 x p1 hx).2 he, by simp; intro e; exact he (by rw [e])⟩
  · have e : x = (xs.length : Int) := by omega
    exact Or.inr ⟨true, by rw [e]; exact h2, by simp; exact ext_nth (by omega) (fun i a b => p3 i a (by omega))⟩
theorem says_no {α : Type} {xs ys : List α} (hl : ¬ (xs.length : Int) = (ys.length : Int)) : Says (some false) xs ys := ⟨false, rfl, by simp; intro e; exact hl (by rw [e])⟩

theorem says_ints (xs ys : List Int) : Says (slices_Equal_int xs ys) xs ys := by
  unfold slices_Equal_int
  by_cases hl : (xs.length : Int) = (ys.length : Int)
  · rw [if_neg (by simpa using hl)]
    refine says_loop hl (fun i h0 h1 => ?_) ?_
    · unfold slices_Equal_int_l2
      rw [if_pos h1, if_pos ⟨h0, h1⟩, if_pos ⟨h0, hl ▸ h1⟩]
      exact ⟨fun e => by rw [if_neg (by simpa using e)], fun e => by rw [if_pos e]⟩
    · unfold slices_Equal_int_l2
      rw [if_neg (by omega)]
  · rw [if_pos hl]; exact says_no hl
theorem says_edges (xs ys : List api_Edge) : Says (slices_Equal_api_Edge xs ys) xs ys := by
  unfold slices_Equal_api_Edge
  by_cases hl : (xs.length : Int) = (ys.length : Int)
  · rw [if_neg (by simpa using hl)]
    refine says_loop hl (fun i h0 h1 => ?_) ?_
    · unfold slices_Equal_api_Edge_l2
      rw [if_pos h1, if_pos ⟨h0, h1⟩, if_pos ⟨h0, hl ▸ h1⟩]
      exact ⟨fun e => by rw [if_neg (by simpa using e)], fun e => by rw [if_pos e]⟩
    · unfold slices_Equal_api_Edge_l2
      rw [if_neg (by omega)]
  · rw [if_pos hl]; exact says_no hl
theorem says_slots (xs ys : List api_Slot) : Says (slices_Equal_api_Slot xs ys) xs ys := by
  unfold slices_Equal_api_Slot
  by_cases hl : (xs.length : Int) = (ys.length : Int)
  · rw [if_neg (by simpa using hl)]
    refine says_loop hl (fun i h0 h1 => ?_) ?_
    · unfold slices_Equal_api_Slot_l2
      rw [if_pos h1, if_pos ⟨h0, h1⟩, if_pos ⟨h0, hl ▸ h1⟩]
      exact ⟨fun e => by rw [if_neg (by simpa using e)], fun e => by rw [if_pos e]⟩
    · unfold slices_Equal_api_Slot_l2
      rw [if_neg (by omega)]
  · rw [if_pos hl]; exact says_no hl
theorem says_tests (xs ys : List api_Test) : Says (slices_Equal_api_Test xs ys) xs ys := by
  unfold slices_Equal_api_Test
  by_cases hl : (xs.length : Int) = (ys.length : Int)
  · rw [if_neg (by simpa using hl)]
    refine says_loop hl (fun i h0 h1 => ?_) ?_
    · unfold slices_Equal_api_Test_l2
      rw [if_pos h1, if_pos ⟨h0, h1⟩, if_pos ⟨h0, hl ▸ h1⟩]
      exact ⟨fun e => by rw [if_neg (by simpa using e)], fun e => by rw [if_pos e]⟩
    · unfold slices_Equal_api_Test_l2
      rw [if_neg (by omega)]
  · rw [if_pos hl]; exact says_no hl
theorem says_ints5 (xs ys : List Int) : Says (ref05_SameInts xs ys) xs ys := by
  unfold ref05_SameInts
  by_cases hl : (xs.length : Int) = (ys.length : Int)
  · rw [if_neg (by simpa using hl)]
    refine says_loop hl (fun i h0 h1 => ?_) ?_
    · unfold ref05_SameInts_l2
      rw [if_pos h1, if_pos ⟨h0, h1⟩, if_pos ⟨h0, hl ▸ h1⟩]
      exact ⟨fun e => by rw [if_neg (by simpa using e)], fun e => by rw [if_pos e]⟩
    · unfold ref05_SameInts_l2
      rw [if_neg (by omega)]
  · rw [if_pos hl]; exact says_no hl

theorem graph_eq {a b : api_Graph} : a = b ↔ a.Nodes = b.Nodes ∧ a.Edges = b.Edges := by
  constructor
  · rintro rfl; exact ⟨rfl, rfl⟩
  · intro h; cases a; cases b; simp_all
theorem pattern_eq {a b : api_Pattern} : a = b ↔ a.Graph = b.Graph ∧ a.Vars = b.Vars ∧ a.Slots = b.Slots ∧ a.Tests = b.Tests := by
  constructor
  · rintro rfl; exact ⟨rfl, rfl, rfl, rfl⟩
  · intro h; cases a; cases b; simp_all
theorem part_eq {a b : api_Part} : a = b ↔ a.Nodes = b.Nodes ∧ a.Edges = b.Edges := by
  constructor
  · rintro rfl; exact ⟨rfl, rfl⟩
  · intro h; cases a; cases b; simp_all
theorem map_eq {a b : api_Morphism} : a = b ↔ a.Nodes = b.Nodes ∧ a.Edges = b.Edges := by
  constructor
  · rintro rfl; exact ⟨rfl, rfl⟩
  · intro h; cases a; cases b; simp_all
theorem cond_eq {a b : api_Condition} : a = b ↔ a.Kind = b.Kind ∧ a.Kids = b.Kids ∧ a.Map = b.Map ∧ a.Pattern = b.Pattern := by
  constructor
  · rintro rfl; exact ⟨rfl, rfl, rfl, rfl⟩
  · intro h
    cases a; cases b
    obtain ⟨h1, h2, h3, h4⟩ := h
    simp only [api_Condition.Kind, api_Condition.Kids, api_Condition.Map, api_Condition.Pattern] at h1 h2 h3 h4
    subst h1; subst h2; subst h3; subst h4
    rfl
theorem rule_eq {a b : api_Rule} : a = b ↔ a.Name = b.Name ∧ a.Injective = b.Injective ∧ a.Left = b.Left ∧ a.Right = b.Right ∧ a.Keep = b.Keep ∧ a.Into = b.Into ∧ a.Condition = b.Condition := by
  constructor
  · rintro rfl; exact ⟨rfl, rfl, rfl, rfl, rfl, rfl, rfl⟩
  · intro h; cases a; cases b; simp_all

/-- two parts, one after the other -/
theorem Says.two {α β γ : Type} {u v : Option Bool} {x y : α} {x' y' : β} {z z' : γ} (h : Says u x y) (k : Says v x' y') (he : z = z' ↔ x = y ∧ x' = y') : Says (u.bind fun b => if b = true then v.bind fun c => some c else some false) z z' := by
  obtain ⟨b, h1, h2⟩ := h
  obtain ⟨c, k1, k2⟩ := k
  rw [h1, k1]
  cases b
  · exact ⟨false, rfl, by simp only [Bool.false_eq_true, false_iff] at h2 ⊢; rw [he]; exact fun e => h2 e.1⟩
  · exact ⟨c, rfl, by rw [he, k2]; simp at h2; simp [h2]⟩
/-- the same, the parts' sameness told by what follows -/
theorem Says.step {α γ : Type} {u v : Option Bool} {x y : α} {z z' : γ} (h : Says u x y) (hn : ¬ x = y → ¬ z = z') (k : x = y → Says v z z') : Says (u.bind fun b => if b = true then v else some false) z z' := by
  obtain ⟨b, h1, h2⟩ := h
  rw [h1]
  cases b
  · exact ⟨false, rfl, by simp only [Bool.false_eq_true, false_iff] at h2 ⊢; exact hn h2⟩
  · exact k (h2.1 rfl)
theorem Says.stepN {α γ : Type} {u v : Option Bool} {x y : α} {z z' : γ} (h : Says u x y) (hn : ¬ x = y → ¬ z = z') (k : x = y → Says v z z') : Says (u.bind fun b => if (!b) = true then some false else v) z z' := by
  obtain ⟨b, h1, h2⟩ := h
  rw [h1]
  cases b
  · exact ⟨false, rfl, by simp only [Bool.false_eq_true, false_iff] at h2 ⊢; exact hn h2⟩
  · exact k (h2.1 rfl)
theorem Says.test {γ : Type} {p : Prop} [Decidable p] {v : Option Bool} {z z' : γ} (hn : ¬ p → ¬ z = z') (k : p → Says v z z') : Says (if p then v else some false) z z' := by
  by_cases h : p
  · rw [if_pos h]; exact k h
  · rw [if_neg h]; exact ⟨false, rfl, by simp; exact hn h⟩
theorem Says.testN {γ : Type} {p : Prop} [Decidable p] {v : Option Bool} {z z' : γ} (hn : ¬ p → ¬ z = z') (k : p → Says v z z') : Says (if ¬ p then some false else v) z z' := by
  by_cases h : p
  · rw [if_neg (by simpa using h)]; exact k h
  · rw [if_pos h]; exact ⟨false, rfl, by simp; exact hn h⟩
theorem Says.as {α γ : Type} {u : Option Bool} {x y : α} {z z' : γ} (h : Says u x y) (he : z = z' ↔ x = y) : Says u z z' := by
  obtain ⟨b, h1, h2⟩ := h
  exact ⟨b, h1, h2.trans he.symm⟩
theorem Says.some_bind {γ : Type} {u : Option Bool} {z z' : γ} (h : Says u z z') : Says (u.bind fun b => some b) z z' := by
  obtain ⟨b, h1, h2⟩ := h
  exact ⟨b, by rw [h1]; rfl, h2⟩

theorem says_graph (a b : api_Graph) : Says (graph_Same a b) a b := by
  unfold graph_Same
  exact Says.two (says_ints _ _) (says_edges _ _) graph_eq
theorem says_graph5 (a b : api_Graph) : Says (ref05_Same a b) a b := by
  unfold ref05_Same
  refine Says.stepN (says_ints5 _ _) (fun h e => h (graph_eq.1 e).1) fun h => Says.testN (fun h e => h (by rw [e])) fun hl => ?_
  refine Says.as (x := a.Edges) (y := b.Edges) (says_loop hl (fun i h0 h1 => ?_) ?_) (by rw [graph_eq]; simp [h])
  · unfold ref05_Same_l5
    rw [if_pos h1, if_pos ⟨h0, h1⟩, if_pos ⟨h0, hl ▸ h1⟩]
    exact ⟨fun e => by rw [if_neg (by simpa using e)], fun e => by rw [if_pos e]⟩
  · unfold ref05_Same_l5
    rw [if_neg (by omega)]
theorem says_pattern (a b : api_Pattern) : Says (rule_samePattern a b) a b := by
  unfold rule_samePattern
  refine Says.step (says_graph _ _) (fun h e => h (pattern_eq.1 e).1) fun h1 => Says.test (fun h e => h (pattern_eq.1 e).2.1) fun h2 => ?_
  exact Says.two (says_slots _ _) (says_tests _ _) (by rw [pattern_eq]; simp [h1, h2])
theorem says_pattern21 (a b : api_Pattern) : Says (ref21_Same a b) a b := by
  unfold ref21_Same
  refine Says.stepN (says_graph5 _ _) (fun h e => h (pattern_eq.1 e).1) fun h1 => Says.testN (fun h e => h (pattern_eq.1 e).2.1) fun h2 => Says.testN (fun h e => h (by rw [e])) fun h3 => Says.testN (fun h e => h (by rw [e])) fun h4 => ?_
  have tests : Says (Iter (ref21_Same_l19 a b) 0) a.Tests b.Tests := by
    refine says_loop h4 (fun i h0 h1 => ?_) ?_
    · unfold ref21_Same_l19
      rw [if_pos h1, if_pos ⟨h0, h1⟩, if_pos ⟨h0, h4 ▸ h1⟩]
      exact ⟨fun e => by rw [if_neg (by simpa using e)], fun e => by rw [if_pos e]⟩
    · unfold ref21_Same_l19
      rw [if_neg (by omega)]
  obtain ⟨c, c1, c2⟩ := tests
  rw [Iter_scan (n := a.Slots.length) (fun i => if ¬ nth a.Slots i = nth b.Slots i then some false else none) (some c) ?_ ?_]
  · rcases scanN_cases (step := fun i : Int => if ¬ nth a.Slots i = nth b.Slots i then some false else none) (fin := some c) a.Slots.length 0 with ⟨s1, s2⟩ | ⟨j, v, s1, s2, s3, s4, s5⟩
    · have e : a.Slots = b.Slots := ext_nth (by omega) fun i x y => by
        have := s1 i x (by omega)
        by_cases hq : nth a.Slots i = nth b.Slots i
        · exact hq
        · simp [hq] at this
      exact ⟨c, s2, by rw [c2, pattern_eq]; simp [h1, h2, e]⟩
    · by_cases hq : nth a.Slots j = nth b.Slots j
      · simp [hq] at s3
      · simp [hq] at s3
        subst s3
        exact ⟨false, s5, by simp; intro e; exact hq (by rw [e])⟩
  · intro i h0 h1
    unfold ref21_Same_l7
    rw [if_pos h1, if_pos ⟨h0, h1⟩, if_pos ⟨h0, h3 ▸ h1⟩]
    by_cases hq : nth a.Slots i = nth b.Slots i <;> simp [hq]
  · unfold ref21_Same_l7
    rw [if_neg (by omega), c1]
theorem says_map (a b : api_Morphism) : Says (morphism_Same a b) a b := by
  unfold morphism_Same
  exact Says.two (says_ints _ _) (says_ints _ _) map_eq
theorem says_map6 (a b : api_Morphism) : Says (ref06_Same a b) a b := by
  unfold ref06_Same
  rw [sameInts2_eq]
  exact Says.two (says_ints5 _ _) (says_ints5 _ _) map_eq
theorem says_part7 (a b : api_Part) : Says (ref07_Same a b) a b := by
  unfold ref07_Same
  exact Says.two (says_ints5 _ _) (says_ints5 _ _) part_eq

/-! ### conditions -/
/-- q says, where it says something, whether two are equal -/
def Right (q : api_Condition → api_Condition → Option Bool) : Prop := ∀ a b v, q a b = some v → (v = true ↔ a = b)
theorem kids_part {a b : api_Condition} {q : api_Condition → api_Condition → Option Bool} {F : Int → Option (Int ⊕ Bool)} (hq : Right q) (hl : (a.Kids.length : Int) = (b.Kids.length : Int))
    (h1 : ∀ i : Int, 0 ≤ i → i < (a.Kids.length : Int) → F i = (q (nth a.Kids i) (nth b.Kids i)).bind fun v => if (!v) = true then some (.inr false) else some (.inl (i + 1))) (h2 : F (a.Kids.length : Int) = some (.inr true)) {v : Bool} (hv : Iter F 0 = some v) : v = true ↔ a.Kids = b.Kids := by
  refine Iter_part (fun x : Int => 0 ≤ x ∧ x ≤ (a.Kids.length : Int) ∧ ∀ i : Int, 0 ≤ i → i < x → nth a.Kids i = nth b.Kids i) (fun v => v = true ↔ a.Kids = b.Kids) (fun x hp => ?_) ⟨by omega, by omega, fun i a b => by omega⟩ hv
  obtain ⟨p1, p2, p3⟩ := hp
  by_cases hx : x < (a.Kids.length : Int)
  · rw [h1 x p1 hx]
    cases hc : q (nth a.Kids x) (nth b.Kids x) with
    | none => simp
    | some c =>
      have := hq _ _ _ hc
      cases c
      · refine ⟨fun x' h => by simp at h, fun v h => ?_⟩
        simp at h
        subst h
        simp only [Bool.false_eq_true, false_iff] at this ⊢
        exact fun e => this (by rw [e])
      · refine ⟨fun x' h => ?_, fun v h => by simp at h⟩
        simp at h
        subst h
        refine ⟨by omega, by omega, fun i a b => ?_⟩
        by_cases e : i = x
        · rw [e]; exact this.1 rfl
        · exact p3 i a (by omega)
  · have e : x = (a.Kids.length : Int) := by omega
    rw [e, h2]
    refine ⟨fun x' h => by simp at h, fun v h => ?_⟩
    simp at h
    subst h
    simp
    exact ext_nth (by omega) (fun i a b => p3 i a (by omega))
theorem kids_tot {a b : api_Condition} {q : api_Condition → api_Condition → Option Bool} {F : Int → Option (Int ⊕ Bool)} (hq : ∀ k ∈ a.Kids, ∀ c, ∃ v, q k c = some v)
    (h1 : ∀ i : Int, 0 ≤ i → i < (a.Kids.length : Int) → F i = (q (nth a.Kids i) (nth b.Kids i)).bind fun v => if (!v) = true then some (.inr false) else some (.inl (i + 1))) (h2 : F (a.Kids.length : Int) = some (.inr true)) : ∃ v, Iter F 0 = some v := by
  obtain ⟨v, hv, _⟩ := Iter_inv (F := F) (fun x : Int => 0 ≤ x ∧ x ≤ (a.Kids.length : Int)) (fun x => ((a.Kids.length : Int) - x).toNat) (fun _ => True) (fun x hp => by
    obtain ⟨p1, p2⟩ := hp
    by_cases hx : x < (a.Kids.length : Int)
    · obtain ⟨v, hv⟩ := hq _ (nth_mem p1 hx) (nth b.Kids x)
      rw [h1 x p1 hx, hv]
      cases v
      · exact Or.inr ⟨_, rfl, trivial⟩
      · exact Or.inl ⟨_, rfl, ⟨by omega, by omega⟩, by omega⟩
    · have e : x = (a.Kids.length : Int) := by omega
      rw [e, h2]
      exact Or.inr ⟨_, rfl, trivial⟩) 0 ⟨by omega, by omega⟩
  exact ⟨v, hv⟩
theorem efunc_l2 {a b : api_Condition} {q : api_Condition → api_Condition → Option Bool} (hl : (a.Kids.length : Int) = (b.Kids.length : Int)) :
    (∀ i : Int, 0 ≤ i → i < (a.Kids.length : Int) → slices_EqualFunc_api_Condition_l2 a.Kids b.Kids (fun x => q x.1 x.2) i = (q (nth a.Kids i) (nth b.Kids i)).bind fun v => if (!v) = true then some (.inr false) else some (.inl (i + 1))) ∧
      slices_EqualFunc_api_Condition_l2 a.Kids b.Kids (fun x => q x.1 x.2) (a.Kids.length : Int) = some (.inr true) := by
  refine ⟨fun i h0 h1 => ?_, ?_⟩
  · unfold slices_EqualFunc_api_Condition_l2
    rw [if_pos h1, if_pos ⟨h0, h1⟩, if_pos ⟨h0, hl ▸ h1⟩]
  · unfold slices_EqualFunc_api_Condition_l2
    rw [if_neg (by omega)]
theorem ref22_l9 {a b : api_Condition} {q : api_Condition → api_Condition → Option Bool} (hl : (a.Kids.length : Int) = (b.Kids.length : Int)) :
    (∀ i : Int, 0 ≤ i → i < (a.Kids.length : Int) → ref22_Same_l9 q a b i = (q (nth a.Kids i) (nth b.Kids i)).bind fun v => if (!v) = true then some (.inr false) else some (.inl (i + 1))) ∧ ref22_Same_l9 q a b (a.Kids.length : Int) = some (.inr true) := by
  refine ⟨fun i h0 h1 => ?_, ?_⟩
  · unfold ref22_Same_l9
    rw [if_pos h1, if_pos ⟨h0, h1⟩, if_pos ⟨h0, hl ▸ h1⟩]
  · unfold ref22_Same_l9
    rw [if_neg (by omega)]
theorem condition_right : ∀ n, Right (condition_Same_n n)
  | 0 => fun a b v h => by cases h
  | n + 1 => fun a b v h => by
    have ih := condition_right n
    have h : condition_Same_b (condition_Same_n n) a b = some v := h
    unfold condition_Same_b at h
    rw [cond_eq]
    by_cases hk : a.Kind = b.Kind
    rotate_left
    · rw [if_pos hk] at h; cases h; simp [hk]
    rw [if_neg (by simpa using hk)] at h
    obtain ⟨c1, m1, m2⟩ := says_map a.Map b.Map
    rw [m1] at h
    cases c1
    · simp at h m2; subst h; simp [m2]
    simp at m2
    simp only [Option.bind_some, Bool.not_true, Bool.false_eq_true, if_false] at h
    by_cases hv : a.Pattern.Vars = b.Pattern.Vars
    rotate_left
    · rw [if_pos hv] at h; cases h; simp [pattern_eq, hv]
    rw [if_neg (by simpa using hv)] at h
    obtain ⟨c2, n1, n2⟩ := says_ints a.Pattern.Graph.Nodes b.Pattern.Graph.Nodes
    rw [n1] at h
    cases c2
    · simp at h n2; subst h; simp [pattern_eq, graph_eq, n2]
    simp at n2
    simp only [Option.bind_some, Bool.not_true, Bool.false_eq_true, if_false] at h
    obtain ⟨c3, e1, e2⟩ := says_edges a.Pattern.Graph.Edges b.Pattern.Graph.Edges
    rw [e1] at h
    cases c3
    · simp at h e2; subst h; simp [pattern_eq, graph_eq, e2]
    simp at e2
    simp only [Option.bind_some, Bool.not_true, Bool.false_eq_true, if_false] at h
    obtain ⟨c4, s1, s2⟩ := says_slots a.Pattern.Slots b.Pattern.Slots
    rw [s1] at h
    cases c4
    · simp at h s2; subst h; simp [pattern_eq, s2]
    simp at s2
    simp only [Option.bind_some, if_true] at h
    obtain ⟨c5, t1, t2⟩ := says_tests a.Pattern.Tests b.Pattern.Tests
    rw [t1] at h
    cases c5
    · simp at h t2; subst h; simp [pattern_eq, t2]
    simp at t2
    simp only [Option.bind_some, if_true] at h
    unfold slices_EqualFunc_api_Condition at h
    have key : v = true ↔ a.Kids = b.Kids := by
      by_cases hl : (a.Kids.length : Int) = (b.Kids.length : Int)
      · rw [if_neg (by simpa using hl)] at h
        cases hI : Iter (slices_EqualFunc_api_Condition_l2 a.Kids b.Kids fun x => condition_Same_n n x.1 x.2) 0 with
        | none => rw [hI] at h; cases h
        | some v' =>
          rw [hI] at h
          simp at h
          subst h
          exact kids_part ih hl (efunc_l2 hl).1 (efunc_l2 hl).2 hI
      · rw [if_pos hl] at h
        simp at h
        subst h
        simp
        intro e; exact hl (by rw [e])
    rw [key]
    simp [hk, m2, pattern_eq, graph_eq, hv, n2, e2, s2, t2]
theorem condition_tot : ∀ (n : Nat) (a b : api_Condition), SizeOf.sizeOf a ≤ n → ∃ v, condition_Same_n n a b = some v
  | 0, a, b, h => by cases a; simp only [api_Condition.mk.sizeOf_spec] at h; omega
  | n + 1, a, b, h => by
    show ∃ v, condition_Same_b (condition_Same_n n) a b = some v
    unfold condition_Same_b
    obtain ⟨c1, m1, _⟩ := says_map a.Map b.Map
    obtain ⟨c2, n1, _⟩ := says_ints a.Pattern.Graph.Nodes b.Pattern.Graph.Nodes
    obtain ⟨c3, e1, _⟩ := says_edges a.Pattern.Graph.Edges b.Pattern.Graph.Edges
    obtain ⟨c4, s1, _⟩ := says_slots a.Pattern.Slots b.Pattern.Slots
    obtain ⟨c5, t1, _⟩ := says_tests a.Pattern.Tests b.Pattern.Tests
    have hk : ∃ v, slices_EqualFunc_api_Condition a.Kids b.Kids (fun x => condition_Same_n n x.1 x.2) = some v := by
      unfold slices_EqualFunc_api_Condition
      by_cases hl : (a.Kids.length : Int) = (b.Kids.length : Int)
      · rw [if_neg (by simpa using hl)]
        exact kids_tot (fun k hk c => condition_tot n k c (by have := cond_size a k hk; omega)) (efunc_l2 hl).1 (efunc_l2 hl).2
      · rw [if_pos hl]; exact ⟨_, rfl⟩
    obtain ⟨c6, k1⟩ := hk
    rw [m1, n1, e1, s1, t1, k1]
    simp only [Option.bind_some]
    repeat' split
    all_goals exact ⟨_, rfl⟩
theorem ref22_right : ∀ n, Right (ref22_Same_n n)
  | 0 => fun a b v h => by cases h
  | n + 1 => fun a b v h => by
    have ih := ref22_right n
    have h : ref22_Same_b (ref22_Same_n n) a b = some v := h
    unfold ref22_Same_b at h
    rw [cond_eq]
    by_cases hk : a.Kind = b.Kind
    rotate_left
    · rw [if_pos hk] at h; cases h; simp [hk]
    rw [if_neg (by simpa using hk)] at h
    by_cases hl : (a.Kids.length : Int) = (b.Kids.length : Int)
    rotate_left
    · rw [if_pos hl] at h
      cases h
      simp
      intro _ e; exact absurd (by rw [e]) hl
    rw [if_neg (by simpa using hl)] at h
    obtain ⟨c1, m1, m2⟩ := says_map6 a.Map b.Map
    rw [m1] at h
    cases c1
    · simp at h m2; subst h; simp [m2]
    simp at m2
    simp only [Option.bind_some, Bool.not_true, Bool.false_eq_true, if_false] at h
    obtain ⟨c2, n1, n2⟩ := says_pattern21 a.Pattern b.Pattern
    rw [n1] at h
    cases c2
    · simp at h n2; subst h; simp [n2]
    simp at n2
    simp only [Option.bind_some, Bool.not_true, Bool.false_eq_true, if_false] at h
    rw [kids_part ih hl (ref22_l9 hl).1 (ref22_l9 hl).2 h]
    simp [hk, m2, n2]
theorem ref22_tot : ∀ (n : Nat) (a b : api_Condition), SizeOf.sizeOf a ≤ n → ∃ v, ref22_Same_n n a b = some v
  | 0, a, b, h => by cases a; simp only [api_Condition.mk.sizeOf_spec] at h; omega
  | n + 1, a, b, h => by
    show ∃ v, ref22_Same_b (ref22_Same_n n) a b = some v
    unfold ref22_Same_b
    obtain ⟨c1, m1, _⟩ := says_map6 a.Map b.Map
    obtain ⟨c2, n1, _⟩ := says_pattern21 a.Pattern b.Pattern
    rw [m1, n1]
    simp only [Option.bind_some]
    by_cases hl : (a.Kids.length : Int) = (b.Kids.length : Int)
    rotate_left
    · simp only [if_pos hl]
      repeat' split
      all_goals exact ⟨_, rfl⟩
    · obtain ⟨c6, k1⟩ := kids_tot (fun k hk c => ref22_tot n k c (by have := cond_size a k hk; omega)) (ref22_l9 hl).1 (ref22_l9 hl).2
      rw [k1]
      repeat' split
      all_goals exact ⟨_, rfl⟩
theorem says_condition (a b : api_Condition) : Says (condition_Same a b) a b :=
  Ev_any (u := fun n => condition_Same_n n a b) (Q := fun v => v = true ↔ a = b) (fun n v h => condition_right n a b v h) ⟨_, condition_tot _ a b (Nat.le_refl _)⟩
theorem says_condition22 (a b : api_Condition) : Says (ref22_Same a b) a b :=
  Ev_any (u := fun n => ref22_Same_n n a b) (Q := fun v => v = true ↔ a = b) (fun n v h => ref22_right n a b v h) ⟨_, ref22_tot _ a b (Nat.le_refl _)⟩

theorem says_rule (a b : api_Rule) : Says (rule_Same a b) a b := by
  unfold rule_Same
  refine Says.test (fun h e => h (by rw [e])) fun h1 => Says.test (fun h e => h (by rw [e]; simp)) fun h2 => ?_
  refine Says.step (says_pattern _ _) (fun h e => h (by rw [e])) fun h3 => Says.step (says_pattern _ _) (fun h e => h (by rw [e])) fun h4 => ?_
  refine Says.step (says_ints _ _) (fun h e => h (by rw [e])) fun h5 => Says.step (says_ints _ _) (fun h e => h (by rw [e])) fun h6 => ?_
  refine Says.two (says_map _ _) (says_condition _ _) ?_
  rw [rule_eq, part_eq]
  simp at h2
  simp [h1, h2, h3, h4, h5, h6]
theorem says_rule24 (a b : api_Rule) : Says (ref24_Same a b) a b := by
  unfold ref24_Same
  refine Says.test (fun h e => h (by rw [e])) fun h1 => Says.test (fun h e => h (by rw [e]; simp)) fun h2 => ?_
  refine Says.step (says_pattern21 _ _) (fun h e => h (by rw [e])) fun h3 => Says.step (says_pattern21 _ _) (fun h e => h (by rw [e])) fun h4 => ?_
  refine Says.step (says_part7 _ _) (fun h e => h (by rw [e])) fun h5 => ?_
  refine Says.two (says_map6 _ _) (says_condition22 _ _) ?_
  rw [rule_eq]
  simp at h2
  simp [h1, h2, h3, h4, h5]

theorem ruleSame_law (ha : law24_awake = some true) (a b : api_Rule) : law24_RuleSame a b = some true := by
  unfold law24_RuleSame
  rw [ha]
  obtain ⟨x, hx⟩ := few24 a
  obtain ⟨y, hy⟩ := few24 b
  obtain ⟨v, h1, h2⟩ := (says_rule a b).same (says_rule24 a b)
  have h3 := (says_rule a a).refl
  rw [hx, hy, h1, h2, h3]
  cases x <;> cases y <;> cases v <;> rfl
end Go.Proofs.YtpnfoacmgfklaaaGreat.K
