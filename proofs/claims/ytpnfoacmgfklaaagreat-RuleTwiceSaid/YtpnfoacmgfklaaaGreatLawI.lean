/- Laws about the inverse of a plain rule. -/
import Derived.Test.YtpnfoacmgfklaaaGreatLawM
set_option linter.unusedVariables false
set_option linter.unusedSimpArgs false
namespace Go.Proofs.YtpnfoacmgfklaaaGreat.K
open Go.RowKit Go.Proofs

def trueC : api_Condition := api_Condition.mk 1 [] (api_Morphism.mk [] []) (api_Pattern.mk (api_Graph.mk [] []) [] 0 [])
def plainR (inj : Bool) (L R : api_Graph) (K : api_Part) (I : api_Morphism) : api_Rule := api_Rule.mk (ByteArray.mk #[114]) (api_Pattern.mk L [] 0 []) (api_Pattern.mk R [] 0 []) K I inj trueC
/-- the two sides of a plain rule, what is kept of the left one, and what it becomes -/
structure Span (T : api_Types) (L R : api_Graph) (K : api_Part) (I : api_Morphism) : Prop where
  gl : Gok T L 10 12
  gr : Gok T R 10 12
  part : PartOk L K
  lenN : I.Nodes.length = K.Nodes.length
  lenE : I.Edges.length = K.Edges.length
  injN : Inj I.Nodes
  injE : Inj I.Edges
  mapN : ∀ i : Int, 0 ≤ i → i < (K.Nodes.length : Int) → 0 ≤ nth I.Nodes i ∧ nth I.Nodes i < (R.Nodes.length : Int) ∧ nth R.Nodes (nth I.Nodes i) = nth L.Nodes (nth K.Nodes i)
  mapE : ∀ i : Int, 0 ≤ i → i < (K.Edges.length : Int) → 0 ≤ nth I.Edges i ∧ nth I.Edges i < (R.Edges.length : Int) ∧ (nth R.Edges (nth I.Edges i)).Type_ = (nth L.Edges (nth K.Edges i)).Type_ ∧
    ∀ a : Int, 0 ≤ a → a < (K.Nodes.length : Int) → (nth K.Nodes a = (nth L.Edges (nth K.Edges i)).From → nth I.Nodes a = (nth R.Edges (nth I.Edges i)).From) ∧ (nth K.Nodes a = (nth L.Edges (nth K.Edges i)).To → nth I.Nodes a = (nth R.Edges (nth I.Edges i)).To)
section
variable {T : api_Types} {L R : api_Graph} {K : api_Part} {I : api_Morphism} {inj : Bool}
theorem Span.small (h : Span T L R K I) : (K.Nodes.length : Int) ≤ 10 ∧ (K.Edges.length : Int) ≤ 12 := by
  have l1 := h.part.1.len (by omega)
  have l2 := h.part.2.1.len (by omega)
  have := h.gl.a
  have := h.gl.b
  omega
theorem Span.mor (h : Span T L R K I) {k : api_Graph} (hc : CutOf L K k) : MorOk k R I := by
  obtain ⟨c1, c2, c3, c4⟩ := hc
  refine ⟨by have := h.lenN; omega, by have := h.lenE; omega, fun i i0 i1 => ?_, fun i i0 i1 => ?_⟩
  · obtain ⟨a, b, c⟩ := h.mapN i i0 (by omega)
    exact ⟨a, b, by rw [c, c3 i i0 (by omega)]⟩
  · obtain ⟨a, b, c, d⟩ := h.mapE i i0 (by omega)
    obtain ⟨e1, e2, e3, e4, e5, e6, e7⟩ := c4 i i0 (by omega)
    exact ⟨a, b, by rw [c, e1], (d _ e2 e3).1 e4, (d _ e5 e6).2 e7⟩
theorem plain_ok (hT : TOk T) (h : Span T L R K I) {r : api_Rule} (h1 : r.Name = ByteArray.mk #[114]) (h2 : r.Left.Graph = L) (h3 : r.Right.Graph = R) (h4 : r.Keep = K) (h5 : r.Into = I) : rule_Plain r = some (plainR r.Injective L R K I, 0) ∧ rule_plain r = some (plainR r.Injective L R K I) := by
  have okL := h.gl.ok hT (by omega) (by omega)
  have okR := h.gr.ok hT (by omega) (by omega)
  obtain ⟨s1, s2⟩ := h.small
  have la := h.gl.a; have lb := h.gl.b; have ra := h.gr.a; have rb := h.gr.b
  have ln := h.lenN; have le := h.lenE
  obtain ⟨c1, a1, _, a2⟩ := graph_law L
  obtain ⟨c2, b1, _, b2⟩ := graph_law R
  obtain ⟨k, e1, _, e2, e3⟩ := cut_law okL h.part
  have hk : GraphOk k.1 := (cut_gok h.gl h.part e3).ok hT (by omega) (by omega)
  have hp : rule_plain r = some (plainR r.Injective L R K I) := by
    unfold rule_plain rule_copied
    rw [h1, h2, h3, h4, h5, cloneI (by omega), cloneE (by omega), cloneI (by omega), cloneE (by omega), cloneI (by omega), cloneI (by omega), cloneI (by omega), cloneI (by omega)]
    rfl
  refine ⟨?_, hp⟩
  unfold rule_Plain
  rw [h2, h3, h4, h5, a1, Option.bind_some, if_neg (by simp; exact a2.2 okL), b1, Option.bind_some, if_neg (by simp; exact b2.2 okR), e1, Option.bind_some, if_neg (by simp [e2]), morphism_ok hk okR (h.mor e3), Option.bind_some, if_neg (by simp), hp]
  rfl

/-! ### no error -/
theorem cont_tot {α : Type} [Inhabited α] {p : α → Option Bool} (xs : List α) (h : ∀ x ∈ xs, ∃ b, p x = some b) : ∃ b, ContG xs p = some b := by
  obtain ⟨b, h1, _⟩ := cont_law (p := p) (q := fun x => p x = some true) xs (fun x hx => by
    obtain ⟨b, hb⟩ := h x hx
    exact ⟨b, hb, by rw [hb]; simp⟩)
  exact ⟨b, h1⟩
theorem attr_ok (hT : TOk T) {g : api_Graph} (hg : Gok T g 10 12) : attribute_Valid T (api_Pattern.mk g [] 0 []) = some 0 := by
  obtain ⟨c, a1, _, a2⟩ := graph_law g
  unfold attribute_Valid
  rw [types_ok hT, Option.bind_some, if_neg (by simp)]
  simp only
  rw [a1, Option.bind_some, if_neg (by simp; exact a2.2 (hg.ok hT (by omega) (by omega))), cont_int, cont_edge, cont_no (p := fun x => attribute_Valid_1 x T) (q := fun x => (T.Nodes.length : Int) ≤ x) g.Nodes (fun x _ => some_dec) (fun x hx => by
    obtain ⟨i, i0, i1, rfl⟩ := mem_nth hx
    have := (hg.node i i0 i1).2; omega), Option.bind_some, if_neg (by simp), cont_no (p := fun x => attribute_Valid_2 x T) (q := fun x => (T.Edges.length : Int) ≤ x.Type_) g.Edges (fun x _ => some_dec) (fun x hx => by
    obtain ⟨i, i0, i1, rfl⟩ := mem_nth hx
    have := (hg.edge i i0 i1).2.1; omega), Option.bind_some, if_neg (by simp)]
  have w : attribute_within 0 0 12 = some true := by kernel_rfl
  rw [w, Option.bind_some, if_neg (by simp), if_neg (by simp), if_neg (by simp), if_pos (by simp)]
  refine Iter_out (u := some 0) ?_
  unfold attribute_Valid_l19
  rw [if_neg (by simp)]
  have d : difference_Valid 0 [] = some 0 := by kernel_rfl
  have e : slices_Contains_bool (List.replicate (0 : Int).toNat false) false = some false := by kernel_rfl
  simp only
  rw [d, Option.bind_some, if_neg (by simp), e]
  rfl
theorem right_ok (hT : TOk T) (h : Gok T R 10 12) : rule_right T (plainR inj L R K I) = some 0 := by
  obtain ⟨c, a1, _, a2⟩ := graph_law R
  unfold rule_right rule_typed plainR
  simp only
  rw [a1, Option.bind_some, if_neg (by simp; exact a2.2 (h.ok hT (by omega) (by omega))), cont_int, cont_edge, cont_no (p := fun x => rule_typed_1 x T) (q := fun x => (T.Nodes.length : Int) ≤ x) R.Nodes (fun x _ => some_dec) (fun x hx => by
    obtain ⟨i, i0, i1, rfl⟩ := mem_nth hx
    have := (h.node i i0 i1).2; omega), Option.bind_some, if_pos (by simp), cont_no (p := fun x => rule_typed_2 x T) (q := fun x => (T.Edges.length : Int) ≤ x.Type_) R.Edges (fun x _ => some_dec) (fun x hx => by
    obtain ⟨i, i0, i1, rfl⟩ := mem_nth hx
    have := (h.edge i i0 i1).2.1; omega), Option.bind_some, Option.bind_some, if_neg (by simp), if_neg (by simp), if_neg (by simp), if_neg (by simp)]
  refine Iter_stop ?_
  unfold rule_right_l10
  rw [if_neg (by simp)]
theorem kept_ok (hT : TOk T) (h : Span T L R K I) : rule_kept (plainR inj L R K I) = some 0 := by
  have okL := h.gl.ok hT (by omega) (by omega)
  have okR := h.gr.ok hT (by omega) (by omega)
  obtain ⟨s1, s2⟩ := h.small
  have ln := h.lenN; have le := h.lenE
  obtain ⟨k, e1, _, e2, e3⟩ := cut_law okL h.part
  have hk : GraphOk k.1 := (cut_gok h.gl h.part e3).ok hT (by omega) (by omega)
  unfold rule_kept morphism_Injective plainR
  simp only
  rw [e1, Option.bind_some, if_neg (by simp [e2]), morphism_ok hk okR (h.mor e3), Option.bind_some, if_neg (by simp), Option.bind_some, if_pos rfl, images_law _ (by omega) h.injN, Option.bind_some, if_pos rfl, images_law _ (by omega) h.injE]
  simp
theorem inside_ok (p : api_Pattern) : condition_inside T p trueC = some 0 := by
  have one : ∀ q, condition_inside_b q T p trueC = some 0 := fun q => by
    unfold condition_inside_b
    rw [if_neg (by simp [trueC, api_Condition.Kind])]
    refine Iter_stop ?_
    rfl
  obtain ⟨v, h1, h2⟩ := Ev_any (u := fun n => condition_inside_n n T p trueC) (Q := fun v => v = 0) (fun n v h => by
    cases n with
    | zero => cases h
    | succ n => have := (one (condition_inside_n n)).symm.trans h; cases this; rfl) ⟨1, 0, one _⟩
  unfold condition_inside; rw [h1, h2]
theorem makable_tot (hT : TOk T) {g : api_Graph} (hg : Gok T g 10 12) (ns es : List Int) (hn : ∀ x ∈ ns, 0 ≤ x ∧ x < (g.Nodes.length : Int)) (he : ∀ x ∈ es, 0 ≤ x ∧ x < (g.Edges.length : Int)) : ∃ b, rule_makable T g ns es = some b := by
  unfold rule_makable
  rw [cont_int]
  obtain ⟨b1, h1⟩ := cont_tot (p := fun x => rule_makable_1 x T g) ns (fun x hx => by
    obtain ⟨a, b⟩ := hn x hx
    unfold rule_makable_1
    rw [if_pos ⟨a, b⟩, if_pos (show 0 ≤ nth g.Nodes x ∧ nth g.Nodes x < (T.Nodes.length : Int) from hg.node x a b)]
    exact ⟨_, rfl⟩)
  obtain ⟨b2, h2⟩ := cont_tot (p := fun x => rule_makable_2 x g T) es (fun x hx => by
    obtain ⟨a, b⟩ := he x hx
    obtain ⟨_, _, c1, c2, c3, c4⟩ := hg.edge x a b
    unfold rule_makable_2
    rw [if_pos ⟨a, b⟩, if_pos ⟨c1, c2⟩, if_pos ⟨c3, c4⟩]
    obtain ⟨c, hc⟩ := fits_tot hT (nth g.Edges x).Type_ (nth g.Nodes (nth g.Edges x).From) (nth g.Nodes (nth g.Edges x).To)
    rw [hc]; exact ⟨_, rfl⟩)
  rw [h1, h2]
  cases b1
  · exact ⟨_, rfl⟩
  · exact ⟨_, rfl⟩
theorem valid_law (hT : TOk T) (h : Span T L R K I) {cN cE : List Int} {mc : Bool} (h1 : rule_others I.Nodes (R.Nodes.length : Int) = some cN) (h2 : rule_others I.Edges (R.Edges.length : Int) = some cE) (hm : rule_makable T R cN cE = some mc) :
    rule_Valid T (plainR inj L R K I) = some (if mc = true then 0 else 13) ∧ rule_created (plainR inj L R K I) = some (cN, cE) := by
  have hc : rule_created (plainR inj L R K I) = some (cN, cE) := by
    unfold rule_created plainR
    simp only
    rw [h1, Option.bind_some, h2]; rfl
  refine ⟨?_, hc⟩
  have nm : token_IsName (ByteArray.mk #[114]) = some true := by kernel_rfl
  have sh : condition_shape trueC = some 0 := by kernel_rfl
  have n1 : (plainR inj L R K I).Name = ByteArray.mk #[114] := rfl
  have n2 : (plainR inj L R K I).Left = api_Pattern.mk L [] 0 [] := rfl
  have n3 : (plainR inj L R K I).Right.Graph = R := rfl
  have n4 : (plainR inj L R K I).Condition = trueC := rfl
  unfold rule_Valid condition_Valid
  rw [types_ok hT, Option.bind_some, if_neg (by simp), n1, nm, Option.bind_some, if_neg (by simp), n2, attr_ok hT h.gl, Option.bind_some, if_neg (by simp), right_ok hT h.gr, Option.bind_some, if_neg (by simp), kept_ok hT h, Option.bind_some, if_neg (by simp), hc, Option.bind_some, n3, hm, Option.bind_some]
  cases mc
  · rfl
  · rw [if_neg (by simp), Option.bind_some, if_neg (by simp), n4, sh, Option.bind_some, if_neg (by simp), inside_ok]; rfl
theorem deleted_law {dN dE : List Int} (h1 : rule_others K.Nodes (L.Nodes.length : Int) = some dN) (h2 : rule_others K.Edges (L.Edges.length : Int) = some dE) : rule_deleted (plainR inj L R K I) = some (dN, dE) := by
  unfold rule_deleted plainR
  simp only
  rw [h1, Option.bind_some, h2]; rfl
theorem inverse_law (hT : TOk T) (h : Span T L R K I) {cN cE dN dE S B SE BE : List Int} {mc md : Bool} (h1 : rule_others I.Nodes (R.Nodes.length : Int) = some cN) (h2 : rule_others I.Edges (R.Edges.length : Int) = some cE) (hm : rule_makable T R cN cE = some mc)
    (k1 : rule_others K.Nodes (L.Nodes.length : Int) = some dN) (k2 : rule_others K.Edges (L.Edges.length : Int) = some dE) (hd : rule_makable T L dN dE = some md) (t1 : rule_turned K.Nodes I.Nodes = some (S, B)) (t2 : rule_turned K.Edges I.Edges = some (SE, BE)) :
    ∃ r e, rule_Inverse T (plainR inj L R K I) = some (r, e) ∧ (e = 0 ∧ mc = true ∧ md = true ∧ r = plainR inj R L (api_Part.mk S SE) (api_Morphism.mk B BE) ∨ e = 13 ∧ (mc = false ∨ md = false)) := by
  have v := (valid_law (inj := inj) hT h h1 h2 hm).1
  unfold rule_Inverse rule_given
  rw [v]
  cases mc
  · simp only [Option.bind_some, Bool.false_eq_true, if_false]
    rw [if_pos (by simp), Option.bind_some, if_pos (by simp)]
    exact ⟨_, _, rfl, Or.inr ⟨rfl, Or.inl trivial⟩⟩
  · have si : rule_simple (plainR inj L R K I) = some true := by
      unfold rule_simple plainR
      simp only
      rw [if_pos trivial]
      rfl
    rw [if_pos rfl, Option.bind_some, if_neg (by simp), si, Option.bind_some, if_neg (by simp), Option.bind_some, if_neg (by simp), deleted_law k1 k2, Option.bind_some]
    have n2 : (plainR inj L R K I).Left.Graph = L := rfl
    have n3 : (plainR inj L R K I).Keep = K := rfl
    have n4 : (plainR inj L R K I).Into = I := rfl
    rw [n2, hd, Option.bind_some]
    cases md
    · rw [if_pos (by simp)]
      exact ⟨_, _, rfl, Or.inr ⟨rfl, Or.inr rfl⟩⟩
    · rw [if_neg (by simp), (plain_ok (r := plainR inj L R K I) hT h rfl rfl rfl rfl rfl).2, Option.bind_some, n3, n4, t1, Option.bind_some, t2]
      exact ⟨_, _, rfl, Or.inl ⟨rfl, rfl, rfl, rfl⟩⟩

/-! ### turned around -/
theorem at_of_perm {S I : List Int} (h : S.Perm I) {i : Int} (i0 : 0 ≤ i) (i1 : i < (S.length : Int)) : ∃ a : Int, 0 ≤ a ∧ a < (I.length : Int) ∧ nth I a = nth S i := mem_nth (h.mem_iff.1 (nth_mem i0 i1))
/-- what turning a list around leads to -/
structure Turn (K I S B : List Int) : Prop where
  perm : S.Perm I
  asc : Asc S
  len : B.length = S.length
  at_ : ∀ i a : Int, 0 ≤ i → i < (S.length : Int) → 0 ≤ a → a < (I.length : Int) → nth I a = nth S i → nth B i = nth K a
theorem Turn.mem {K I S B : List Int} (h : Turn K I S B) (hl : I.length = K.length) : ∀ x, x ∈ B ↔ x ∈ K := fun x => by
  have hs := h.perm.length_eq
  constructor
  · intro hx
    obtain ⟨i, i0, i1, rfl⟩ := mem_nth hx
    have := h.len
    obtain ⟨a, a0, a1, a2⟩ := at_of_perm h.perm i0 (by omega)
    rw [h.at_ i a i0 (by omega) a0 a1 a2]
    exact nth_mem a0 (by omega)
  · intro hx
    obtain ⟨a, a0, a1, rfl⟩ := mem_nth hx
    obtain ⟨i, i0, i1, i2⟩ := at_of_perm h.perm.symm a0 (by omega)
    rw [← h.at_ i a i0 i1 a0 (by omega) i2.symm]
    have := h.len
    exact nth_mem i0 (by omega)
theorem Turn.injS {K I S B : List Int} (h : Turn K I S B) (hi : Inj I) : Inj S := inj_nodup.2 (h.perm.nodup_iff.2 (inj_nodup.1 hi))
theorem Turn.injB {K I S B : List Int} (h : Turn K I S B) (hi : Inj I) (hk : Inj K) (hl : I.length = K.length) : Inj B := fun i j i0 i1 j0 j1 e => by
  have := h.len
  obtain ⟨a, a0, a1, a2⟩ := at_of_perm h.perm i0 (by omega)
  obtain ⟨b, b0, b1, b2⟩ := at_of_perm h.perm j0 (by omega)
  rw [h.at_ i a i0 (by omega) a0 a1 a2, h.at_ j b j0 (by omega) b0 b1 b2] at e
  have := hk a b a0 (by omega) b0 (by omega) e
  subst this
  exact h.injS hi i j i0 (by omega) j0 (by omega) (a2.symm.trans b2)
theorem Turn.up {n : Int} {K I S B : List Int} (h : Turn K I S B) (hi : Inj I) (hr : ∀ x ∈ I, 0 ≤ x ∧ x < n) : Up n S := asc_up h.asc (h.injS hi) fun x hx => hr x (h.perm.mem_iff.1 hx)
/-- turned around twice -/
theorem Turn.back {n : Int} {K I S B S' B' : List Int} (h : Turn K I S B) (h' : Turn S B S' B') (hi : Inj I) (hk : Up n K) (hl : I.length = K.length) : S' = K ∧ B' = I := by
  have hs := h.perm.length_eq
  have hs' := h'.perm.length_eq
  have hb := h.len
  have hb' := h'.len
  have ib := h.injB hi hk.inj' hl
  have e1 : S' = K := up_ext (h'.up ib fun x hx => by
    obtain ⟨i, i0, i1, rfl⟩ := mem_nth ((h.mem hl x).1 hx)
    obtain ⟨u1, u2, _⟩ := hk i i0 i1
    exact ⟨u1, u2⟩) hk fun x => (h'.perm.mem_iff).trans (h.mem hl x)
  refine ⟨e1, ext_nth' (by omega) fun i i0 i1 => ?_⟩
  obtain ⟨a, a0, a1, a2⟩ := at_of_perm h.perm.symm i0 (show i < (I.length : Int) by omega)
  have hBa : nth B a = nth K i := h.at_ a i a0 a1 i0 (by omega) a2.symm
  rw [h'.at_ i a i0 (by omega) a0 (by omega) (by rw [hBa, e1]), a2]
theorem span_turn (h : Span T L R K I) {S B SE BE : List Int} (tN : Turn K.Nodes I.Nodes S B) (tE : Turn K.Edges I.Edges SE BE) : Span T R L (api_Part.mk S SE) (api_Morphism.mk B BE) := by
  have ln := h.lenN; have le := h.lenE
  have sn := tN.perm.length_eq; have se := tE.perm.length_eq
  have rangeN : ∀ x ∈ I.Nodes, 0 ≤ x ∧ x < (R.Nodes.length : Int) := fun x hx => by
    obtain ⟨i, i0, i1, rfl⟩ := mem_nth hx
    obtain ⟨a, b, _⟩ := h.mapN i i0 (by omega); exact ⟨a, b⟩
  have rangeE : ∀ x ∈ I.Edges, 0 ≤ x ∧ x < (R.Edges.length : Int) := fun x hx => by
    obtain ⟨i, i0, i1, rfl⟩ := mem_nth hx
    obtain ⟨a, b, _⟩ := h.mapE i i0 (by omega); exact ⟨a, b⟩
  refine ⟨h.gr, h.gl, ⟨tN.up h.injN rangeN, tE.up h.injE rangeE, fun i i0 i1 => ?_⟩, tN.len, tE.len, tN.injB h.injN h.part.1.inj' ln, tE.injB h.injE h.part.2.1.inj' le, fun i i0 i1 => ?_, fun i i0 i1 => ?_⟩
  · simp only at i1 ⊢
    obtain ⟨j, j0, j1, j2⟩ := at_of_perm tE.perm i0 i1
    obtain ⟨_, _, _, d⟩ := h.mapE j j0 (by omega)
    obtain ⟨⟨a, a0, a1, a2⟩, b, b0, b1, b2⟩ := h.part.2.2 j j0 (by omega)
    have e1 := (d a a0 a1).1 a2
    have e2 := (d b b0 b1).2 b2
    rw [j2] at e1 e2
    rw [← e1, ← e2]
    exact ⟨at_of_perm tN.perm.symm a0 (by omega), at_of_perm tN.perm.symm b0 (by omega)⟩
  · simp only at i1 ⊢
    obtain ⟨a, a0, a1, a2⟩ := at_of_perm tN.perm i0 i1
    obtain ⟨u1, u2, _⟩ := h.part.1 a a0 (by omega)
    obtain ⟨_, _, m⟩ := h.mapN a a0 (by omega)
    rw [tN.at_ i a i0 i1 a0 a1 a2, ← a2]
    exact ⟨u1, u2, m.symm⟩
  · simp only at i1 ⊢
    obtain ⟨j, j0, j1, j2⟩ := at_of_perm tE.perm i0 i1
    obtain ⟨u1, u2, _⟩ := h.part.2.1 j j0 (by omega)
    obtain ⟨_, _, t, d⟩ := h.mapE j j0 (by omega)
    obtain ⟨⟨a, a0, a1, a2⟩, b, b0, b1, b2⟩ := h.part.2.2 j j0 (by omega)
    have e1 := (d a a0 a1).1 a2
    have e2 := (d b b0 b1).2 b2
    rw [tE.at_ i j i0 i1 j0 j1 j2, ← j2]
    refine ⟨u1, u2, t.symm, fun c c0 c1 => ⟨fun hc => ?_, fun hc => ?_⟩⟩
    · obtain ⟨f, f0, f1, f2⟩ := at_of_perm tN.perm c0 c1
      rw [tN.at_ c f c0 c1 f0 f1 f2]
      have := h.injN f a f0 f1 a0 (by omega) (by rw [f2, hc, e1])
      rw [this, a2]
    · obtain ⟨f, f0, f1, f2⟩ := at_of_perm tN.perm c0 c1
      rw [tN.at_ c f c0 c1 f0 f1 f2]
      have := h.injN f b f0 f1 b0 (by omega) (by rw [f2, hc, e2])
      rw [this, b2]
end

/-! ### sameness of a plain rule and itself -/
theorem eqInts (xs : List Int) : slices_Equal_int xs xs = some true := by
  unfold slices_Equal_int
  rw [if_neg (by simp), Iter_scan (n := xs.length) (fun _ => none) (some true) ?_ ?_]
  · exact (scanN_if (p := fun _ => False) (c := true) xs.length (fun i _ _ => by simp)).2 (fun _ _ _ h => h)
  · intro i h0 h1
    unfold slices_Equal_int_l2
    rw [if_pos h1, if_pos ⟨h0, h1⟩, if_pos ⟨h0, h1⟩, if_neg (by simp)]
  · unfold slices_Equal_int_l2
    rw [if_neg (by omega)]; rfl
theorem eqEdges (xs : List api_Edge) : slices_Equal_api_Edge xs xs = some true := by
  unfold slices_Equal_api_Edge
  rw [if_neg (by simp), Iter_scan (n := xs.length) (fun _ => none) (some true) ?_ ?_]
  · exact (scanN_if (p := fun _ => False) (c := true) xs.length (fun i _ _ => by simp)).2 (fun _ _ _ h => h)
  · intro i h0 h1
    unfold slices_Equal_api_Edge_l2
    rw [if_pos h1, if_pos ⟨h0, h1⟩, if_pos ⟨h0, h1⟩, if_neg (by simp)]
  · unfold slices_Equal_api_Edge_l2
    rw [if_neg (by omega)]; rfl
theorem same_plain (inj : Bool) (L R : api_Graph) (K : api_Part) (I : api_Morphism) : rule_Same (plainR inj L R K I) (plainR inj L R K I) = some true := by
  have p : ∀ g, rule_samePattern (api_Pattern.mk g [] 0 []) (api_Pattern.mk g [] 0 []) = some true := fun g => by
    have s : slices_Equal_api_Slot [] [] = some true := by kernel_rfl
    have t : slices_Equal_api_Test [] [] = some true := by kernel_rfl
    unfold rule_samePattern graph_Same
    simp only
    rw [eqInts, eqEdges, s, t]
    rfl
  have c : condition_Same trueC trueC = some true := by kernel_rfl
  unfold rule_Same morphism_Same plainR
  simp only
  rw [if_pos trivial, if_pos (by simp), p, p, eqInts, eqInts, eqInts, eqInts, c]
  rfl

/-! ### the rule of a description -/
/-- the numbers of a description are bytes -/
structure DOk (d : ref24_Draft) : Prop where
  gn : ∀ x ∈ d.Left.Graph.Nodes, U8 x
  ge : ∀ x ∈ d.Left.Graph.Edges, U3 x
  gs : ∀ x ∈ d.Left.Slots, U3 x
  nodes : ∀ x ∈ d.Nodes, U8 x
  edges : ∀ x ∈ d.Edges, U3 x
  slots : ∀ x ∈ d.Slots, U3 x
  order : ∀ x ∈ d.Order, U8 x
theorem made24_law {T : api_Types} (hT : TOk T) (d : ref24_Draft) (hd : DOk d) : ∃ r inj L R K I, ref24_Made T d = some r ∧ rule_Plain r = some (plainR inj L R K I, 0) ∧ Span T L R K I := by
  obtain ⟨p, p1, p2, p3, p4⟩ := made21_law hT d.Left hd.gn hd.ge hd.gs
  have okL := p2.ok hT (by omega) (by omega)
  obtain ⟨K, k1, k2⟩ := made07_law p.Graph okL d.Keep
  obtain ⟨k, _, c1, c2, c3⟩ := cut_law okL k2
  have gk := cut_gok p2 k2 c3
  obtain ⟨G, g1, g2, g3, g4, g5, g6⟩ := grown_law hT k.1 gk d hd.nodes hd.edges
  have ga := g2.a; have gb := g2.b
  obtain ⟨P, s1, s2⟩ := shuffle_law (G.Nodes.length : Int) (by omega) (by omega) d.Order hd.order
  obtain ⟨Q, q1, q2⟩ := shuffle_law (G.Edges.length : Int) (by omega) (by omega) d.Order hd.order
  obtain ⟨R, r1, r2, r3, r4, r5, r6⟩ := reorder_law hT g2 (by omega) (by omega) s2 q2
  obtain ⟨sl, l1⟩ := slots_tot hT r2 p.Vars p3 p4 d.Slots hd.slots
  obtain ⟨fc, f1⟩ := forbid_tot hT p2 d.Forbid
  obtain ⟨P1, P2, P3⟩ := s2
  obtain ⟨Q1, Q2, Q3⟩ := q2
  obtain ⟨d1, d2, d3, d4⟩ := c3
  have hs : Span T p.Graph R K (api_Morphism.mk (cut P 0 (k.1.Nodes.length : Int)) (cut Q 0 (k.1.Edges.length : Int))) := by
    have lN : ((cut P 0 (k.1.Nodes.length : Int)).length : Int) = k.1.Nodes.length := len_cut0 (by omega) (by omega)
    have lE : ((cut Q 0 (k.1.Edges.length : Int)).length : Int) = k.1.Edges.length := len_cut0 (by omega) (by omega)
    have aN : ∀ i : Int, 0 ≤ i → i < (k.1.Nodes.length : Int) → nth (cut P 0 (k.1.Nodes.length : Int)) i = nth P i := fun i a b => nth_cut0 a b (by omega)
    have aE : ∀ i : Int, 0 ≤ i → i < (k.1.Edges.length : Int) → nth (cut Q 0 (k.1.Edges.length : Int)) i = nth Q i := fun i a b => nth_cut0 a b (by omega)
    refine ⟨p2.more (by omega) (by omega), r2, k2, by simp only; omega, by simp only; omega, fun i j i0 i1 j0 j1 e => ?_, fun i j i0 i1 j0 j1 e => ?_, fun i i0 i1 => ?_, fun i i0 i1 => ?_⟩
    · simp only at i1 j1 e
      rw [aN i i0 (by omega), aN j j0 (by omega)] at e
      exact P2 i j i0 (by omega) j0 (by omega) e
    · simp only at i1 j1 e
      rw [aE i i0 (by omega), aE j j0 (by omega)] at e
      exact Q2 i j i0 (by omega) j0 (by omega) e
    · simp only
      rw [aN i i0 (by omega)]
      obtain ⟨x, y⟩ := P3 i i0 (by omega)
      exact ⟨x, by omega, by rw [r5 i i0 (by omega), g5 i i0 (by omega), d3 i i0 i1]⟩
    · simp only
      rw [aE i i0 (by omega), r6 i i0 (by omega)]
      obtain ⟨x, y⟩ := Q3 i i0 (by omega)
      have eg := g6 i i0 (by omega)
      obtain ⟨e1, e2, e3, e4, e5, e6, e7⟩ := d4 i i0 i1
      refine ⟨x, by omega, by simp only; rw [eg, e1], fun a a0 a1 => ⟨fun h => ?_, fun h => ?_⟩⟩
      · have := k2.1.inj a0 a1 e2 e3 (h.trans e4.symm)
        rw [aN a a0 (by omega)]
        simp only
        rw [eg, this]
      · have := k2.1.inj a0 a1 e5 e6 (h.trans e7.symm)
        rw [aN a a0 (by omega)]
        simp only
        rw [eg, this]
  have gN : 0 ≤ (0 : Int) ∧ (0 : Int) ≤ (k.1.Nodes.length : Int) ∧ (k.1.Nodes.length : Int) ≤ (P.length : Int) := by omega
  have gE : 0 ≤ (0 : Int) ∧ (0 : Int) ≤ (k.1.Edges.length : Int) ∧ (k.1.Edges.length : Int) ≤ (Q.length : Int) := by omega
  unfold ref24_Made
  rw [p1, Option.bind_some, k1, Option.bind_some, c1, Option.bind_some, g1, Option.bind_some, s1, Option.bind_some, q1, Option.bind_some, r1, Option.bind_some]
  simp only
  rw [if_pos gN, if_pos gE, l1, Option.bind_some, f1, Option.bind_some]
  by_cases hp : d.Plain = true
  · obtain ⟨sm1, sm2⟩ := hs.small
    have ln := hs.lenN; have le := hs.lenE
    simp only at ln le
    have hpl : ref24_plain (api_Rule.mk (ByteArray.mk #[114]) p (api_Pattern.mk R sl p.Vars []) K (api_Morphism.mk (cut P 0 (k.1.Nodes.length : Int)) (cut Q 0 (k.1.Edges.length : Int))) d.Injective fc) = some (plainR d.Injective p.Graph R K (api_Morphism.mk (cut P 0 (k.1.Nodes.length : Int)) (cut Q 0 (k.1.Edges.length : Int)))) := by
      unfold ref24_plain
      simp only
      rw [copied5 p2 (by omega) (by omega), Option.bind_some, copied5 r2 (by omega) (by omega), Option.bind_some, if_pos (by omega), if_pos (by omega), if_pos (by omega), if_pos (by omega)]
      rfl
    rw [if_pos hp, hpl]
    exact ⟨_, _, _, _, _, _, rfl, (plain_ok hT hs rfl rfl rfl rfl rfl).1, hs⟩
  · rw [if_neg hp]
    exact ⟨_, _, _, _, _, _, rfl, (plain_ok hT hs rfl rfl rfl rfl rfl).1, hs⟩

/-! ### the statement -/
theorem deleted_of {T : api_Types} {r : api_Rule} {a b : List Int} (v : rule_Valid T r = some 0) (h : rule_deleted r = some (a, b)) : rule_Deleted T r = some (a, b, 0) := by
  unfold rule_Deleted
  rw [v, Option.bind_some, if_neg (by simp), h]; rfl
theorem created_of {T : api_Types} {r : api_Rule} {a b : List Int} (v : rule_Valid T r = some 0) (h : rule_created r = some (a, b)) : rule_Created T r = some (a, b, 0) := by
  unfold rule_Created
  rw [v, Option.bind_some, if_neg (by simp), h]; rfl
set_option maxHeartbeats 4000000 in
theorem twice_law (ha : law24_awake = some true) (t0 t1 : List Arr2_c_u8) (d : ref24_Draft) (h0 : ∀ x ∈ t0, U8 x.e0 ∧ U8 x.e1) (h1 : ∀ x ∈ t1, U8 x.e0 ∧ U8 x.e1) (hd : DOk d) : law24_RuleTwice t0 t1 d = some true := by
  obtain ⟨T, e1, hT⟩ := made_types t0 t1 h0 h1
  obtain ⟨r, inj, L, R, K, I, e2, e3, h⟩ := made24_law hT d hd
  obtain ⟨s1, s2⟩ := h.small
  have ln := h.lenN; have le := h.lenE
  have la := h.gl.a; have lb := h.gl.b; have ra := h.gr.a; have rb := h.gr.b
  obtain ⟨cN, c1, c2, c3⟩ := others_law I.Nodes (R.Nodes.length : Int) (by omega)
  obtain ⟨cE, c4, c5, c6⟩ := others_law I.Edges (R.Edges.length : Int) (by omega)
  obtain ⟨dN, d1, d2, d3⟩ := others_law K.Nodes (L.Nodes.length : Int) (by omega)
  obtain ⟨dE, d4, d5, d6⟩ := others_law K.Edges (L.Edges.length : Int) (by omega)
  obtain ⟨mc, hmc⟩ := makable_tot hT h.gr cN cE c2 c5
  obtain ⟨md, hmd⟩ := makable_tot hT h.gl dN dE d2 d5
  obtain ⟨S, B, t1', a1, a2, a3, a4⟩ := turned_law K.Nodes I.Nodes ln.symm (by omega) h.injN
  obtain ⟨SE, BE, t2', b1, b2, b3, b4⟩ := turned_law K.Edges I.Edges le.symm (by omega) h.injE
  have tN : Turn K.Nodes I.Nodes S B := ⟨a1, a2, a3, a4⟩
  have tE : Turn K.Edges I.Edges SE BE := ⟨b1, b2, b3, b4⟩
  have k := span_turn h tN tE
  obtain ⟨r1, x1, i1, i2⟩ := inverse_law (inj := inj) hT h c1 c4 hmc d1 d4 hmd t1' t2'
  unfold law24_RuleTwice
  rw [ha, Option.bind_some, if_neg (by simp), e1, Option.bind_some, e2, Option.bind_some, e3, Option.bind_some, if_neg (by simp), i1, Option.bind_some]
  rcases i2 with ⟨rfl, rfl, rfl, rfl⟩ | ⟨rfl, _⟩
  rotate_left
  · rw [if_pos (by simp)]; simp
  have o1 := d3 B (tN.mem ln)
  have o2 := d6 BE (tE.mem le)
  have o3 := c3 S (fun x => tN.perm.mem_iff)
  have o4 := c6 SE (fun x => tE.perm.mem_iff)
  have lS := tN.perm.length_eq; have lSE := tE.perm.length_eq
  obtain ⟨S', B', t3', a1', a2', a3', a4'⟩ := turned_law S B a3.symm (by omega) k.injN
  obtain ⟨SE', BE', t4', b1', b2', b3', b4'⟩ := turned_law SE BE b3.symm (by omega) k.injE
  obtain ⟨rfl, rfl⟩ := tN.back ⟨a1', a2', a3', a4'⟩ h.injN h.part.1 ln
  obtain ⟨rfl, rfl⟩ := tE.back ⟨b1', b2', b3', b4'⟩ h.injE h.part.2.1 le
  obtain ⟨r2, x2, j1, j2⟩ := inverse_law (inj := inj) hT k o1 o2 hmd o3 o4 hmc t3' t4'
  rcases j2 with ⟨rfl, _, _, rfl⟩ | ⟨_, h | h⟩
  rotate_left
  · cases h
  · cases h
  obtain ⟨v1, v2⟩ := valid_law (inj := inj) hT h c1 c4 hmc
  obtain ⟨v3, v4⟩ := valid_law (inj := inj) hT k o1 o2 hmd
  rw [if_pos rfl] at v1 v3
  have y1 := deleted_of v3 (deleted_law o3 o4)
  have y2 := created_of v1 v2
  have y3 := created_of v3 v4
  have y4 := deleted_of v1 (deleted_law d1 d4)
  have eta : plainR inj L R (api_Part.mk K.Nodes K.Edges) (api_Morphism.mk I.Nodes I.Edges) = plainR inj L R K I := rfl
  rw [if_neg (by simp), j1, Option.bind_some, y1, Option.bind_some, y2, Option.bind_some, y3, Option.bind_some, y4, Option.bind_some, if_neg (by simp), if_neg (by simp), if_neg (by simp), if_neg (by simp), if_neg (by simp), eta, same_plain, Option.bind_some, if_pos rfl, eqInts, Option.bind_some, if_pos rfl, eqInts, Option.bind_some, if_pos rfl, eqInts, Option.bind_some, if_pos rfl, eqInts]
  rfl
end Go.Proofs.YtpnfoacmgfklaaaGreat.K
