/- The weight of a graph: the program and the document's answer say the same of any small one. -/
import Derived.Test.YtngimdmkomkeoaaGreatLawY
set_option linter.unusedVariables false
set_option linter.unusedSimpArgs false
namespace Go.Proofs.YtngimdmkomkeoaaGreat.K
open Go.RowKit Go.Proofs

structure TypedG (T : api_Types) (g : api_Graph) : Prop where
  tv : TV T
  ok : GraphOk g
  n : ∀ i : Int, 0 ≤ i → i < (g.Nodes.length : Int) → nth g.Nodes i < (T.Nodes.length : Int)
  e : ∀ i : Int, 0 ≤ i → i < (g.Edges.length : Int) → (nth g.Edges i).Type_ < (T.Edges.length : Int)
theorem typed_law {T : api_Types} (hf : FewT T) (g : api_Graph) : ∃ c, weight_typed T g = some c ∧ ref18_Typed T g = some c ∧ (c = 0 → TypedG T g) := by
  unfold weight_typed ref18_Typed
  rcases tv_law hf with ⟨s, c, h1, h2, h3⟩ | hT
  · rw [h1, h2]; exact ⟨c, by simp [h3], by simp [h3], fun e => absurd e h3⟩
  obtain ⟨s, v1, v2⟩ := hT.v
  obtain ⟨c, g1, g2, g3⟩ := graph_law g
  rw [v1, v2, g1, g2]
  simp only [Option.bind_some, not_true_eq_false, if_false]
  by_cases h : c = 0
  rotate_left
  · exact ⟨c, by simp [h], by simp [h], fun e => absurd e h⟩
  subst h
  have hg := g3.1 rfl
  simp only [not_true_eq_false, if_false]
  refine Iter_sim (F := weight_typed_l7 T g) (G := ref18_Typed_l7 T g) (fun x => 0 ≤ x ∧ x ≤ (g.Nodes.length : Int) ∧ ∀ i : Int, 0 ≤ i → i < x → nth g.Nodes i < (T.Nodes.length : Int)) (fun x => ((g.Nodes.length : Int) - x).toNat) _ (fun x hx => ?_) 0 ⟨by omega, by omega, fun i a b => by omega⟩
  obtain ⟨x0, x1, x2⟩ := hx
  unfold weight_typed_l7 ref18_Typed_l7
  by_cases hl : x < (g.Nodes.length : Int)
  · have hx2 : 0 ≤ x ∧ x < (g.Nodes.length : Int) := ⟨x0, hl⟩
    rw [if_pos hl]; try rw [if_pos hl]
    rw [if_pos hx2]; try rw [if_pos hx2]
    by_cases q : (T.Nodes.length : Int) ≤ nth g.Nodes x
    · rw [if_pos q]; try rw [if_pos q]
      exact .inr ⟨6, rfl, rfl, by simp⟩
    · rw [if_neg q]; try rw [if_neg q]
      refine .inl ⟨x + 1, rfl, rfl, ⟨by omega, by omega, fun i a b => ?_⟩, by omega⟩
      by_cases e : i = x
      · subst e; omega
      · exact x2 i a (by omega)
  · rw [if_neg hl]; try rw [if_neg hl]
    have hE := Iter_sim (F := weight_typed_l17 T g) (G := ref18_Typed_l17 T g) (fun x => 0 ≤ x ∧ x ≤ (g.Edges.length : Int) ∧ ∀ i : Int, 0 ≤ i → i < x → (nth g.Edges i).Type_ < (T.Edges.length : Int)) (fun x => ((g.Edges.length : Int) - x).toNat) (fun c => c = 0 → TypedG T g) (fun y hy => by
      obtain ⟨y0, y1, y2⟩ := hy
      unfold weight_typed_l17 ref18_Typed_l17
      by_cases hyl : y < (g.Edges.length : Int)
      · have hy2 : 0 ≤ y ∧ y < (g.Edges.length : Int) := ⟨y0, hyl⟩
        rw [if_pos hyl]; try rw [if_pos hyl]
        rw [if_pos hy2]; try rw [if_pos hy2]
        by_cases q : (T.Edges.length : Int) ≤ (nth g.Edges y).Type_
        · rw [if_pos q]; try rw [if_pos q]
          exact .inr ⟨6, rfl, rfl, by simp⟩
        · obtain ⟨e1, e2, e3, e4, e5, e6⟩ := hg.2.2.2 y y0 hyl
          obtain ⟨c, f1, f2⟩ := fitsV hT (nth g.Edges y).Type_ (nth g.Nodes (nth g.Edges y).From) (nth g.Nodes (nth g.Edges y).To)
          have hF : 0 ≤ (nth g.Edges y).From ∧ (nth g.Edges y).From < (g.Nodes.length : Int) := ⟨e3, e4⟩
          have hO : 0 ≤ (nth g.Edges y).To ∧ (nth g.Edges y).To < (g.Nodes.length : Int) := ⟨e5, e6⟩
          rw [if_neg q]; try rw [if_neg q]
          rw [if_pos hF]; try rw [if_pos hF]
          rw [if_pos hO]; try rw [if_pos hO]
          rw [f1, f2]
          cases c
          · exact .inr ⟨13, rfl, rfl, by simp⟩
          · refine .inl ⟨y + 1, rfl, rfl, ⟨by omega, by omega, fun i a b => ?_⟩, by omega⟩
            by_cases e : i = y
            · subst e; omega
            · exact y2 i a (by omega)
      · rw [if_neg hyl]; try rw [if_neg hyl]
        exact .inr ⟨0, rfl, rfl, fun _ => ⟨hT, hg, fun i a b => x2 i a (by omega), fun i a b => y2 i a (by omega)⟩⟩) 0 ⟨by omega, by omega, fun i a b => by omega⟩
    obtain ⟨b, b1, b2, b3⟩ := hE
    exact .inr ⟨b, by rw [b1]; rfl, by rw [b2]; rfl, b3⟩
theorem natural_law (w : List Int) (n : Int) (h : (w.length : Int) = n) : ∃ b, weight_natural w n = some b ∧ ref39_natural w n = some b := by
  unfold weight_natural ref39_natural
  rw [if_pos h, if_neg (by simpa using h)]
  have c1 := contains_int (p := weight_natural_1) (q := fun v => v < 0 ∨ 1000 < v) w (fun x _ => by
    unfold weight_natural_1
    by_cases a : x < 0 <;> simp [a])
  have e1 : Iter (ref39_natural_l2 w n) 0 = scanN (fun i => if nth w i < 0 ∨ 1000 < nth w i then some false else none) 0 w.length (some true) := by
    refine Iter_scan _ _ (fun i h0 h1 => ?_) ?_
    · unfold ref39_natural_l2
      rw [if_pos (by omega), if_pos ⟨h0, h1⟩]
      by_cases a : nth w i < 0 <;> by_cases b : 1000 < nth w i <;> simp [a, b]
    · unfold ref39_natural_l2
      rw [if_neg (by omega)]; rfl
  have s1 := scanN_if (step := fun i => if nth w i < 0 ∨ 1000 < nth w i then some false else none) (p := fun i => nth w i < 0 ∨ 1000 < nth w i) (c := false) (fin := some true) w.length (fun i _ _ => rfl)
  rw [e1]
  by_cases a : ∃ i : Int, 0 ≤ i ∧ i < (w.length : Int) ∧ (nth w i < 0 ∨ 1000 < nth w i)
  · rw [c1.1 a, s1.1 a]; exact ⟨false, rfl, rfl⟩
  · have a' : ∀ i : Int, 0 ≤ i → i < (w.length : Int) → ¬ (nth w i < 0 ∨ 1000 < nth w i) := fun i x y z => a ⟨i, x, y, z⟩
    rw [c1.2 a', s1.2 a']; exact ⟨true, rfl, rfl⟩
theorem of_law {T : api_Types} (hf : FewT T) (w : List Int) (hw : (w.length : Int) ≤ 60) (g : api_Graph) : ∃ b, weight_Of T w g = some b ∧ ref39_Of T w g = some b := by
  unfold weight_Of ref39_Of
  obtain ⟨c, h1, h2, h3⟩ := typed_law hf g
  rw [h1, h2]
  by_cases h : c = 0
  rotate_left
  · exact ⟨(0, c), by simp [h], by simp [h]⟩
  subst h
  have ht := h3 rfl
  have n12 := ht.tv.n12
  have e20 := ht.tv.e20
  simp only [Option.bind_some, not_true_eq_false, if_false]
  rw [w64_in (by omega) (by omega)]
  by_cases hl : (w.length : Int) = (T.Nodes.length : Int) + (T.Edges.length : Int)
  rotate_left
  · rw [if_pos hl]; try rw [if_pos hl]
    exact ⟨_, rfl, rfl⟩
  have hl' : ¬ ¬ (w.length : Int) = (T.Nodes.length : Int) + (T.Edges.length : Int) := fun h => h hl
  rw [if_neg hl']; try rw [if_neg hl']
  obtain ⟨b, n1, n2⟩ := natural_law w _ hl
  have n2' : ref39_natural w (w.length : Int) = some b := by rw [hl]; exact n2
  rw [n1, n2']
  cases b
  · exact ⟨_, rfl, rfl⟩
  simp only [Option.bind_some, Bool.not_true, Bool.false_eq_true, if_false]
  have e : ref39_Of_l10 T w g = weight_Of_l10 T w g := rfl
  rw [e]
  obtain ⟨b, hb, _⟩ := Iter_inv (F := weight_Of_l10 T w g) (fun x : Int × Int => 0 ≤ x.2 ∧ x.2 ≤ (g.Nodes.length : Int)) (fun x => ((g.Nodes.length : Int) - x.2).toNat) (fun _ => True) (fun x hx => by
    obtain ⟨s, x⟩ := x
    obtain ⟨x0, x1⟩ := hx
    simp only at x0 x1
    unfold weight_Of_l10
    simp only
    by_cases hxl : x < (g.Nodes.length : Int)
    · have hn : 0 ≤ nth g.Nodes x ∧ nth g.Nodes x < (w.length : Int) := ⟨(ht.ok.2.2.1 x x0 hxl).1, by have := ht.n x x0 hxl; omega⟩
      rw [if_pos hxl, if_pos ⟨x0, hxl⟩, if_pos hn]
      exact .inl ⟨_, rfl, ⟨by simp only; omega, by simp only; omega⟩, by simp only; omega⟩
    · rw [if_neg hxl]
      obtain ⟨c, hc, _⟩ := Iter_inv (F := weight_Of_l24 T w g) (fun x : Int × Int => 0 ≤ x.2 ∧ x.2 ≤ (g.Edges.length : Int)) (fun x => ((g.Edges.length : Int) - x.2).toNat) (fun _ => True) (fun y hy => by
        obtain ⟨s, y⟩ := y
        obtain ⟨y0, y1⟩ := hy
        simp only at y0 y1
        unfold weight_Of_l24
        simp only
        by_cases hyl : y < (g.Edges.length : Int)
        · have e0 := (ht.ok.2.2.2 y y0 hyl).1
          have e1 := ht.e y y0 hyl
          rw [if_pos hyl, if_pos ⟨y0, hyl⟩, w64_in (by omega) (by omega), Option.bind_some, if_pos (by omega)]
          exact .inl ⟨_, rfl, ⟨by simp only; omega, by simp only; omega⟩, by simp only; omega⟩
        · rw [if_neg hyl]; exact .inr ⟨_, rfl, trivial⟩) (s, 0) ⟨by simp, by simp⟩
      rw [hc]; exact .inr ⟨c, rfl, trivial⟩) (0, 0) ⟨by simp, by simp⟩
  exact ⟨b, hb, hb⟩
theorem weightOf_law' (ha : law39_awake = some true) {T : api_Types} (hL : LenT T) (w : List Int) (g : api_Graph) : law39_WeightOf T w g = some true := by
  unfold law39_WeightOf
  rw [ha]
  obtain ⟨b, f1, f2⟩ := few4 hL
  simp only [Option.bind_some, Bool.not_true, Bool.false_eq_true, if_false]
  rw [f1, Option.bind_some]
  cases b
  · rfl
  have hf := f2 rfl
  simp only [Bool.not_true, Bool.false_eq_true, if_false]
  by_cases h6 : 60 < (w.length : Int)
  · rw [if_pos h6]
  rw [if_neg h6]
  have f5 : ∃ b, ref05_Few g = some b := by
    unfold ref05_Few
    split
    · exact ⟨_, rfl⟩
    · exact ⟨_, rfl⟩
  obtain ⟨b, hb⟩ := f5
  rw [hb, Option.bind_some]
  cases b
  · rfl
  obtain ⟨r, r1, r2⟩ := of_law hf w (by omega) g
  simp only [Bool.not_true, Bool.false_eq_true, if_false]
  rw [cloneI (by omega), Option.bind_some, r1, r2]
  simp
end Go.Proofs.YtngimdmkomkeoaaGreat.K
