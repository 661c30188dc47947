/- A region in a drawn order: what was shown in the text's order holds in every order that the region's edges allow, where all that touches one slot or one object is ordered. -/
import Derived.Test.YtngimdmkomkeoaaGreatCoreB
set_option linter.unusedVariables false
set_option linter.unusedSimpArgs false
namespace Go.Proofs.YtngimdmkomkeoaaGreat.K
open Go.RowKit
inductive z7a (l : List Oper) : Nat → Nat → Prop
  | edge {i j : Nat} {o : Oper} {e : Edge} (ho : l[j]? = some o) (he : e ∈ o.after.toList) (hb : Region.binds .any e = true) (hi : e.on = i) : z7a l i j
  | trans {i j k : Nat} : z7a l i j → z7a l j k → z7a l i k
def maskOf (acc : List Nat) (es : List Edge) : Nat := match es with
  | [] => 0
  | e :: r => bif Region.binds .any e then (1 <<< e.on) ||| acc.getD e.on 0 ||| maskOf acc r else maskOf acc r
def masksGo (acc : List Nat) : List Oper → List Nat
  | [] => acc
  | o :: r => masksGo (acc ++ [maskOf acc o.after.toList]) r
theorem maskOf_sound {l : List Oper} {acc : List Nat} (hacc : ∀ (j m : Nat), acc[j]? = some m → ∀ i, m.testBit i = true → z7a l i j) {j : Nat} {o : Oper} (ho : l[j]? = some o) :
    ∀ (es : List Edge), (∀ e ∈ es, e ∈ o.after.toList) → ∀ i, (maskOf acc es).testBit i = true → z7a l i j := by
  intro es
  induction es with
  | nil => intro _ i h; simp [maskOf] at h
  | cons e r ih =>
    intro hes i h
    simp only [maskOf] at h
    have ihr := ih (fun e he => hes e (by simp [he]))
    cases hb : Region.binds .any e with
    | false => rw [hb] at h; exact ihr i h
    | true =>
      rw [hb] at h
      simp only [cond_true, Nat.testBit_or, Bool.or_eq_true] at h
      rcases h with (h | h) | h
      · rw [Nat.one_shiftLeft, Nat.testBit_two_pow] at h
        exact .edge ho (hes e (by simp)) hb (by simpa using h)
      · cases hg : acc[e.on]? with
        | none => simp [List.getD, hg] at h
        | some m =>
          have : m.testBit i = true := by simpa [List.getD, hg] using h
          exact .trans (hacc _ _ hg i this) (.edge ho (hes e (by simp)) hb rfl)
      · exact ihr i h
theorem masksGo_sound {l : List Oper} : ∀ (r : List Oper) (acc : List Nat), (∀ (j m : Nat), acc[j]? = some m → ∀ i, m.testBit i = true → z7a l i j) → (∀ j, r[j]? = l[acc.length + j]?) →
    ∀ (j m : Nat), (masksGo acc r)[j]? = some m → ∀ i, m.testBit i = true → z7a l i j
  | [], acc, hacc, _ => hacc
  | o :: r, acc, hacc, hl => by
    refine masksGo_sound r _ ?_ (fun j => ?_)
    · intro j m hj i hi
      rw [List.getElem?_append] at hj
      split at hj
      · exact hacc j m hj i hi
      · rename_i hlt
        have hj0 : j = acc.length := by
          cases hk : j - acc.length with
          | zero => omega
          | succ k => rw [hk] at hj; simp at hj
        subst hj0
        simp at hj
        subst hj
        exact maskOf_sound hacc (by have := hl 0; simpa using this.symm) _ (fun e he => he) i hi
    · have := hl (j + 1)
      simp only [List.getElem?_cons_succ] at this
      rw [this]
      simp [Nat.add_assoc, Nat.add_comm 1 j]
def z5g (x : Nat) : List Nat → Bool
  | [] => false
  | y :: r => bif x == y then true else z5g x r
theorem memB_iff {x : Nat} {l : List Nat} : z5g x l = true ↔ x ∈ l := by
  induction l with
  | nil => simp [z5g]
  | cons y r ih =>
    simp only [z5g]
    cases h : (x == y)
    · simp only [cond_false, ih, List.mem_cons]; constructor
      · exact .inr
      · rintro (rfl | h'); · simp at h
        · exact h'
    · have : x = y := by simpa using h
      subst this; simp
def meets (a b : List Nat) : Bool := a.any fun x => z5g x b
theorem meets_of {a b : List Nat} {x : Nat} (h1 : x ∈ a) (h2 : x ∈ b) : meets a b = true := List.any_eq_true.2 ⟨x, h1, memB_iff.2 h2⟩
def looks (ops : Array Oper) (o : Oper) : List Nat := o.looksAt ops
def dstL (o : Oper) : List Nat := o.dst.toList
def clash (ops : Array Oper) (o : Oper) (f : Foot) (p : Oper) (g : Foot) : Bool :=
  meets (dstL o) (dstL p) || meets (dstL o) (looks ops p) || meets (looks ops o) (dstL p) || meets f.wr g.wr || meets f.wr g.rd || meets f.rd g.wr
def rowOk (ops : Array Oper) (p : Oper) (g : Foot) (m : Nat) : Nat → List (Oper × Foot) → Bool
  | _, [] => true
  | i, (o, f) :: r => (bif clash ops o f p g then m.testBit i else true) && rowOk ops p g m (i + 1) r
def colOk (ops : Array Oper) (ms : List Nat) : List (Oper × Foot) → List (Oper × Foot) → Bool
  | _, [] => true
  | past, (p, g) :: r => rowOk ops p g (ms.getD past.length 0) 0 past && colOk ops ms (past ++ [(p, g)]) r
def edgesOk : Nat → List Oper → Bool
  | _, [] => true
  | i, o :: r => o.after.toList.all (fun e => bif Region.binds .any e then Nat.blt e.on i else true) && edgesOk (i + 1) r
def drawOk (n : Nat) (l : List Oper) (fs : List Foot) : Bool :=
  dstsOk n l && l.length == fs.length && edgesOk 0 l && colOk l.toArray (masksGo [] l) [] (l.zip fs)
theorem rowOk_spec {ops : Array Oper} {p : Oper} {g : Foot} {m : Nat} : ∀ {past : List (Oper × Foot)} {k : Nat}, rowOk ops p g m k past = true → ∀ i o f, past[i]? = some (o, f) → clash ops o f p g = true → m.testBit (k + i) = true
  | [], _, _, i, o, f, h, _ => by simp at h
  | (q, e) :: r, k, hr, i, o, f, h, hc => by
    simp only [rowOk, Bool.and_eq_true] at hr
    cases i with
    | zero => simp at h; obtain ⟨rfl, rfl⟩ := h; have := hr.1; rw [hc] at this; simpa using this
    | succ i => have := rowOk_spec hr.2 i o f (by simpa using h) hc; rwa [show k + (i + 1) = k + 1 + i by omega]
theorem colOk_spec {ops : Array Oper} {ms : List Nat} : ∀ {r past : List (Oper × Foot)}, colOk ops ms past r = true → ∀ i j o f p g, i < j → past.length ≤ j → (past ++ r)[i]? = some (o, f) → (past ++ r)[j]? = some (p, g) →
    clash ops o f p g = true → (ms.getD j 0).testBit i = true
  | [], past, _, i, j, o, f, p, g, hij, hle, hi, hj, hc => by
    simp at hj; have := (List.getElem?_eq_some_iff.1 hj).1; omega
  | (q, e) :: r, past, h, i, j, o, f, p, g, hij, hle, hi, hj, hc => by
    simp only [colOk, Bool.and_eq_true] at h
    by_cases hjl : j = past.length
    · subst hjl
      rw [List.getElem?_append_right (Nat.le_refl _)] at hj
      simp at hj
      obtain ⟨rfl, rfl⟩ := hj
      rw [List.getElem?_append_left hij] at hi
      have := rowOk_spec h.1 i o f hi hc
      simpa using this
    · refine colOk_spec (r := r) (past := past ++ [(q, e)]) h.2 i j o f p g hij (by simp; omega) ?_ ?_ hc <;> simpa using ‹_›
theorem edgesOk_spec : ∀ {l : List Oper} {k : Nat}, edgesOk k l = true → ∀ j o e, l[j]? = some o → e ∈ o.after.toList → Region.binds .any e = true → e.on < k + j
  | [], _, _, j, o, e, h, _, _ => by simp at h
  | q :: r, k, hk, j, o, e, h, he, hb => by
    simp only [edgesOk, Bool.and_eq_true] at hk
    cases j with
    | zero =>
      simp at h; subst h
      have := List.all_eq_true.1 hk.1 e he
      rw [hb] at this
      have : e.on < k := of_decide_eq_true (by simpa [Nat.blt_eq] using this)
      omega
    | succ j => have := edgesOk_spec hk.2 j o e (by simpa using h) he hb; omega
def cur (D W : Nat → Bool) : Nat → Option Nat
  | 0 => none
  | m + 1 => if D m && W m then some m else cur D W m
theorem cur_congr {D D' W : Nat → Bool} : ∀ {n : Nat}, (∀ j, j < n → W j = true → D j = D' j) → cur D W n = cur D' W n
  | 0, _ => rfl
  | m + 1, h => by
    have ih := cur_congr (n := m) (fun j hj => h j (by omega))
    simp only [cur]
    cases hw : W m
    · simp [ih]
    · rw [h m (by omega) hw, ih]
theorem cur_top {D W : Nat → Bool} {i : Nat} : ∀ {n : Nat}, i < n → D i = true → W i = true → (∀ j, i < j → j < n → W j = true → D j = false) → cur D W n = some i
  | 0, h, _, _, _ => by omega
  | m + 1, h, hd, hw, ht => by
    simp only [cur]
    by_cases hm : i = m
    · subst hm; simp [hd, hw]
    · have : (D m && W m) = false := by
        cases hwm : W m
        · simp
        · simp [ht m (by omega) (by omega) hwm]
      simp only [this, Bool.false_eq_true, if_false]
      exact cur_top (by omega) hd hw (fun j h1 h2 => ht j h1 (by omega))
def ver {α : Type} (g : Nat → α) (D W : Nat → Bool) (n : Nat) : α := match cur D W n with | some j => g (j + 1) | none => g 0
def ltB (i : Nat) : Nat → Bool := fun j => decide (j < i)
theorem ver_text {α : Type} {g : Nat → α} {W : Nat → Bool} {n : Nat} (hs : ∀ j, j < n → W j = false → g (j + 1) = g j) : ∀ i, i ≤ n → ver g (ltB i) W n = g i
  | 0, _ => by
    have : cur (ltB 0) W n = none := by
      have : cur (ltB 0) W n = cur (fun _ => false) W n := cur_congr (fun j _ _ => by simp [ltB])
      rw [this]
      clear this hs
      induction n with
      | zero => rfl
      | succ m ih => simpa [cur] using ih
    simp [ver, this]
  | i + 1, hi => by
    have ih := ver_text hs i (by omega)
    cases hw : W i
    · have : cur (ltB (i + 1)) W n = cur (ltB i) W n := cur_congr (fun j _ hj => by
        have : j ≠ i := fun e => by subst e; rw [hw] at hj; cases hj
        simp only [ltB, decide_eq_decide]; omega)
      unfold ver at ih ⊢
      rw [this, ih, hs i (by omega) hw]
    · have : cur (ltB (i + 1)) W n = some i := cur_top (by omega) (by simp [ltB]) hw (fun j h1 _ _ => by simp [ltB]; omega)
      simp [ver, this]
theorem ver_congr {α : Type} {g : Nat → α} {D D' W : Nat → Bool} {n : Nat} (h : ∀ j, j < n → W j = true → D j = D' j) : ver g D W n = ver g D' W n := by unfold ver; rw [cur_congr h]
theorem ver_top {α : Type} {g : Nat → α} {D W : Nat → Bool} {n i : Nat} (h : i < n) (hd : D i = true) (hw : W i = true) (ht : ∀ j, i < j → j < n → W j = true → D j = false) : ver g D W n = g (i + 1) := by
  unfold ver; rw [cur_top h hd hw ht]
theorem Tr.at {P : Program} {c : Ctx} {ops : Array Oper} {l : List Oper} {fs : List Foot} {s s' : St} (h : Tr P c ops l fs s s') :
    ∃ S : Nat → St, S 0 = s ∧ S l.length = s' ∧ fs.length = l.length ∧ ∀ i o, l[i]? = some o → ∃ f, fs[i]? = some f ∧ Step1 P c ops o f (S i) (S (i + 1)) := by
  induction h with
  | @nil s => exact ⟨fun _ => s, rfl, rfl, rfl, fun i o h => by simp at h⟩
  | @cons o rest f fs s s1 s2 h1 _ ih =>
    obtain ⟨S, h0, hn, hl, hs⟩ := ih
    refine ⟨fun i => match i with | 0 => s | i + 1 => S i, rfl, by simpa using hn, by simp [hl], fun i q hq => ?_⟩
    cases i with
    | zero => simp at hq; subst hq; exact ⟨f, rfl, by simpa [h0] using h1⟩
    | succ i => obtain ⟨g, hg, hst⟩ := hs i q (by simpa using hq); exact ⟨g, by simpa using hg, hst⟩
theorem upds_same {H H' : Heap} {l : List (Nat × Option z5b)} {k : Nat} (h : k ∈ l.map (·.1)) : H.upds l k = H'.upds l k := by
  induction l with
  | nil => simp at h
  | cons x r ih =>
    obtain ⟨j, y⟩ := x
    simp only [Heap.upds, Heap.upd]
    cases hb : Nat.beq k j
    · simp only [cond_false]
      refine ih ?_
      simp only [List.map_cons, List.mem_cons] at h
      rcases h with rfl | h
      · simp at hb
      · exact h
    · rfl
section
variable {P : Program} {c : Ctx} {l : List Oper} {fs : List Foot} {S : Nat → St}
def Wt (l : List Oper) (t : Nat) : Nat → Bool := fun j => ((l[j]?).bind (·.dst)) == some t
def Wk (fs : List Foot) (k : Nat) : Nat → Bool := fun j => match fs[j]? with | some f => z5g k f.wr | none => false
def slv (S : Nat → St) (l : List Oper) (D : Nat → Bool) : Nat → Asn := fun t => ver (fun i => (S i).sl t) D (Wt l t) l.length
def hpv (S : Nat → St) (l : List Oper) (fs : List Foot) (D : Nat → Bool) : Heap := fun k => ver (fun i => (S i).H k) D (Wk fs k) l.length
def Cr (S : Nat → St) (l : List Oper) (D : Nat → Bool) (k : Nat) : Prop := k < (S 0).N ∨ ∃ j, j < l.length ∧ D j = true ∧ (S j).N ≤ k ∧ k < (S (j + 1)).N
structure Inv (c : Ctx) (S : Nat → St) (l : List Oper) (fs : List Foot) (D : Nat → Bool) (η : Env) (a : Act) : Prop where
  slots : ∀ t, (slv S l D t).p η (a.tmps.getD t undef)
  heap : z2h c η (hpv S l fs D)
  skeys : ∀ t k, (slv S l D t).keys k → Cr S l D k
  dom : ∀ k x, hpv S l fs D k = some x → Cr S l D k
  cont : ∀ k x j, hpv S l fs D k = some x → x.keys j → Cr S l D j
  defers : a.defers = []
  size : a.tmps.size = c.n
  ref : ∀ k, k < c.N0 → η.ρ k = c.ρ0 k
  nle : c.N0 ≤ (S 0).N
structure Plan (P : Program) (c : Ctx) (l : List Oper) (fs : List Foot) (S : Nat → St) : Prop where
  step : ∀ i o, l[i]? = some o → ∃ f, fs[i]? = some f ∧ Step1 P c l.toArray o f (S i) (S (i + 1))
  below : ∀ i, i ≤ l.length → Below_ (S i)
  len : fs.length = l.length
  ord : ∀ i j o f p g, i < j → l[i]? = some o → fs[i]? = some f → l[j]? = some p → fs[j]? = some g → clash l.toArray o f p g = true → z7a l i j
  edges : ∀ j o e, l[j]? = some o → e ∈ o.after.toList → Region.binds .any e = true → e.on < j
  dsts : dstsOk c.n l = true
theorem Plan.of {P : Program} {c : Ctx} {l : List Oper} {fs : List Foot} {s s' : St} (h : Tr P c l.toArray l fs s s') (hb : Below_ s) (hk : drawOk c.n l fs = true) :
    ∃ S, S 0 = s ∧ S l.length = s' ∧ Plan P c l fs S := by
  obtain ⟨S, h0, hn, hl, hs⟩ := h.at
  simp only [drawOk, Bool.and_eq_true] at hk
  obtain ⟨⟨⟨hd, _⟩, he⟩, hc⟩ := hk
  refine ⟨S, h0, hn, ⟨hs, ?_, hl, ?_, ?_, hd⟩⟩
  · intro i
    induction i with
    | zero => intro _; rw [h0]; exact hb
    | succ i ih =>
      intro hi
      have hlt : i < l.length := hi
      obtain ⟨f, _, hst⟩ := hs i l[i] (List.getElem?_eq_getElem hlt)
      exact (Below_.step hst (ih (by omega))).1
  · intro i j o f p g hij ho hf hp hg hcl
    have hz : ∀ (i : Nat) (o : Oper) (f : Foot), l[i]? = some o → fs[i]? = some f → ([] ++ l.zip fs)[i]? = some (o, f) := by
      intro i o f ho hf
      simp only [List.nil_append]
      rw [List.getElem?_zip_eq_some]
      exact ⟨ho, hf⟩
    have := colOk_spec hc i j o f p g hij (by simp) (hz i o f ho hf) (hz j p g hp hg) hcl
    have hm := masksGo_sound (l := l) l [] (by intro j m h; simp at h) (by intro j; simp)
    cases hx : (masksGo [] l)[j]? with
    | none => simp [List.getD, hx] at this
    | some m => exact hm j m hx i (by simpa [List.getD, hx] using this)
  · intro j o e hj he' hbd
    have := edgesOk_spec he j o e hj he' hbd
    omega
theorem ltB_iff {i j : Nat} : (ltB i j = true) ↔ j < i := by simp [ltB]
theorem Plan.same {P : Program} {c : Ctx} {l : List Oper} {fs : List Foot} {S : Nat → St} (H : Plan P c l fs S) {D : Nat → Bool} {i : Nat} {o : Oper} {f : Foot} (ho : l[i]? = some o) (hf : fs[i]? = some f)
    (hi : D i = false) (hdown : ∀ a b, z7a l a b → D b = true → D a = true) (hpre : ∀ a, z7a l a i → D a = true) {W : Nat → Bool}
    (hW : ∀ j p g, j ≠ i → l[j]? = some p → fs[j]? = some g → W j = true → clash l.toArray o f p g = true ∧ clash l.toArray p g o f = true) :
    ∀ j, j < l.length → W j = true → D j = ltB i j := by
  intro j hj hw
  obtain ⟨p, hp⟩ : ∃ p, l[j]? = some p := ⟨_, List.getElem?_eq_getElem hj⟩
  obtain ⟨g, hg⟩ : ∃ g, fs[j]? = some g := ⟨_, List.getElem?_eq_getElem (by rw [H.len]; exact hj)⟩
  by_cases hji : j = i
  · subst hji; rw [hi]; symm; simp [ltB]
  · obtain ⟨h1, h2⟩ := hW j p g hji hp hg hw
    rcases Nat.lt_or_gt_of_ne hji with hlt | hgt
    · rw [hpre j (H.ord j i p g o f hlt hp hg ho hf h2)]; symm; exact ltB_iff.2 hlt
    · have : D j = false := by
        cases hd : D j
        · rfl
        · have := hdown i j (H.ord i j o f p g hgt ho hf hp hg h1) hd; rw [hi] at this; cases this
      rw [this]; symm
      cases hb : ltB i j
      · rfl
      · exact absurd (ltB_iff.1 hb) (by omega)
theorem clash_comm_slot {ops : Array Oper} {o p : Oper} {f g : Foot} {t : Nat} (h1 : t ∈ dstL p) (h2 : t ∈ looks ops o ∨ t ∈ dstL o) : clash ops o f p g = true ∧ clash ops p g o f = true := by
  unfold clash
  rcases h2 with h2 | h2
  · simp [meets_of h2 h1, meets_of h1 h2]
  · simp [meets_of h2 h1, meets_of h1 h2]
theorem clash_comm_key {ops : Array Oper} {o p : Oper} {f g : Foot} {k : Nat} (h1 : k ∈ g.wr) (h2 : k ∈ f.rd ∨ k ∈ f.wr) : clash ops o f p g = true ∧ clash ops p g o f = true := by
  unfold clash
  rcases h2 with h2 | h2
  · simp [meets_of h2 h1, meets_of h1 h2]
  · simp [meets_of h2 h1, meets_of h1 h2]
theorem Wt_iff {l : List Oper} {t j : Nat} {p : Oper} (hp : l[j]? = some p) : Wt l t j = true ↔ p.dst = some t := by simp [Wt, hp]
theorem dstL_mem {p : Oper} {t : Nat} : t ∈ dstL p ↔ p.dst = some t := by simp [dstL, Option.mem_toList]
theorem Wk_iff {fs : List Foot} {k j : Nat} {g : Foot} (hg : fs[j]? = some g) : Wk fs k j = true ↔ k ∈ g.wr := by simp [Wk, hg, memB_iff]
theorem step_slot {P : Program} {c : Ctx} {ops : Array Oper} {o : Oper} {f : Foot} {s s1 : St} (h : Step1 P c ops o f s s1) {t : Nat} (ht : o.dst ≠ some t) : s1.sl t = s.sl t := by
  have key : ∀ A, z5y s.sl o.dst A t = s.sl t := by
    intro A
    cases hd : o.dst with
    | none => rfl
    | some d =>
      have : Nat.beq t d = false := beq_ne fun e => ht (by rw [hd, e])
      simp [z5y, this]
  cases h <;> exact key _
theorem step_heap {P : Program} {c : Ctx} {ops : Array Oper} {o : Oper} {f : Foot} {s s1 : St} (h : Step1 P c ops o f s s1) {k : Nat} (hk : k ∉ f.wr) : s1.H k = s.H k := by
  cases h with
  | skip => rfl
  | run => exact upds_not hk
theorem Plan.slot_at {P : Program} {c : Ctx} {l : List Oper} {fs : List Foot} {S : Nat → St} (H : Plan P c l fs S) {D : Nat → Bool} {i : Nat} {o : Oper} {f : Foot} (ho : l[i]? = some o) (hf : fs[i]? = some f)
    (hi : D i = false) (hdown : ∀ a b, z7a l a b → D b = true → D a = true) (hpre : ∀ a, z7a l a i → D a = true) {t : Nat} (ht : t ∈ looks l.toArray o) : slv S l D t = (S i).sl t := by
  have hlt : i < l.length := (List.getElem?_eq_some_iff.1 ho).1
  have h1 := H.same ho hf hi hdown hpre (W := Wt l t) (fun j p g hji hp hg hw => clash_comm_slot (dstL_mem.2 ((Wt_iff hp).1 hw)) (.inl ht))
  unfold slv
  rw [ver_congr h1]
  refine ver_text (fun j hj hw => ?_) i (by omega)
  obtain ⟨q, hq⟩ : ∃ q, l[j]? = some q := ⟨_, List.getElem?_eq_getElem hj⟩
  obtain ⟨g, hg, hst⟩ := H.step j q hq
  exact step_slot hst (fun e => by rw [(Wt_iff hq).2 e] at hw; cases hw)
theorem Plan.key_at {P : Program} {c : Ctx} {l : List Oper} {fs : List Foot} {S : Nat → St} (H : Plan P c l fs S) {D : Nat → Bool} {i : Nat} {o : Oper} {f : Foot} (ho : l[i]? = some o) (hf : fs[i]? = some f)
    (hi : D i = false) (hdown : ∀ a b, z7a l a b → D b = true → D a = true) (hpre : ∀ a, z7a l a i → D a = true) {k : Nat} (hk : k ∈ f.rd) : hpv S l fs D k = (S i).H k := by
  have hlt : i < l.length := (List.getElem?_eq_some_iff.1 ho).1
  have h1 := H.same ho hf hi hdown hpre (W := Wk fs k) (fun j p g hji hp hg hw => clash_comm_key ((Wk_iff hg).1 hw) (.inl hk))
  unfold hpv
  rw [ver_congr h1]
  refine ver_text (g := fun i => (S i).H k) (fun j hj hw => ?_) i (by omega)
  obtain ⟨q, hq⟩ : ∃ q, l[j]? = some q := ⟨_, List.getElem?_eq_getElem hj⟩
  obtain ⟨g, hg, hst⟩ := H.step j q hq
  exact step_heap hst (fun e => by rw [(Wk_iff hg).2 e] at hw; cases hw)
def addB (D : Nat → Bool) (i : Nat) : Nat → Bool := fun j => D j || j == i
theorem addB_self (D : Nat → Bool) (i : Nat) : addB D i i = true := by simp [addB]
theorem addB_of {D : Nat → Bool} {i j : Nat} (h : D j = true) : addB D i j = true := by simp [addB, h]
theorem addB_ne {D : Nat → Bool} {i j : Nat} (h : j ≠ i) : addB D i j = D j := by simp [addB, h]
theorem Cr.add {S : Nat → St} {l : List Oper} {D : Nat → Bool} {i k : Nat} (h : Cr S l D k) : Cr S l (addB D i) k := h.imp id fun ⟨j, h1, h2, h3⟩ => ⟨j, h1, addB_of h2, h3⟩
theorem Plan.slot_add {P : Program} {c : Ctx} {l : List Oper} {fs : List Foot} {S : Nat → St} (H : Plan P c l fs S) {D : Nat → Bool} {i : Nat} {o : Oper} {f : Foot} (ho : l[i]? = some o) (hf : fs[i]? = some f)
    (hi : D i = false) (hdown : ∀ a b, z7a l a b → D b = true → D a = true) (hpre : ∀ a, z7a l a i → D a = true) (t : Nat) : slv S l (addB D i) t = if o.dst = some t then (S (i + 1)).sl t else slv S l D t := by
  have hlt : i < l.length := (List.getElem?_eq_some_iff.1 ho).1
  split
  · rename_i hd
    have h1 := H.same ho hf hi hdown hpre (W := Wt l t) (fun j p g hji hp hg hw => clash_comm_slot (dstL_mem.2 ((Wt_iff hp).1 hw)) (.inr (dstL_mem.2 hd)))
    refine ver_top (g := fun i => (S i).sl t) hlt (addB_self D i) ((Wt_iff ho).2 hd) (fun j h2 h3 h4 => ?_)
    rw [addB_ne (by omega), h1 j h3 h4]
    cases hb : ltB i j
    · rfl
    · exact absurd (ltB_iff.1 hb) (by omega)
  · rename_i hd
    refine ver_congr (fun j hj hw => addB_ne fun e => ?_)
    subst e
    exact hd ((Wt_iff ho).1 hw)
theorem Plan.heap_add {P : Program} {c : Ctx} {l : List Oper} {fs : List Foot} {S : Nat → St} (H : Plan P c l fs S) {D : Nat → Bool} {i : Nat} {o : Oper} {f : Foot} (ho : l[i]? = some o) (hf : fs[i]? = some f)
    (hi : D i = false) (hdown : ∀ a b, z7a l a b → D b = true → D a = true) (hpre : ∀ a, z7a l a i → D a = true) (k : Nat) : hpv S l fs (addB D i) k = if k ∈ f.wr then (S (i + 1)).H k else hpv S l fs D k := by
  have hlt : i < l.length := (List.getElem?_eq_some_iff.1 ho).1
  split
  · rename_i hd
    have h1 := H.same ho hf hi hdown hpre (W := Wk fs k) (fun j p g hji hp hg hw => clash_comm_key ((Wk_iff hg).1 hw) (.inr hd))
    refine ver_top (g := fun i => (S i).H k) hlt (addB_self D i) ((Wk_iff hf).2 hd) (fun j h2 h3 h4 => ?_)
    rw [addB_ne (by omega), h1 j h3 h4]
    cases hb : ltB i j
    · rfl
    · exact absurd (ltB_iff.1 hb) (by omega)
  · rename_i hd
    refine ver_congr (fun j hj hw => addB_ne fun e => ?_)
    subst e
    exact hd ((Wk_iff hf).1 hw)
theorem Plan.mono {P : Program} {c : Ctx} {l : List Oper} {fs : List Foot} {S : Nat → St} (H : Plan P c l fs S) {i : Nat} : ∀ {j : Nat}, i ≤ j → j ≤ l.length → (S i).N ≤ (S j).N := by
  intro j hij
  induction hij with
  | refl => intro _; exact Nat.le_refl _
  | @step m _ ih =>
    intro hm
    obtain ⟨f, _, hst⟩ := H.step m _ (List.getElem?_eq_getElem (show m < l.length by omega))
    exact Nat.le_trans (ih (by omega)) (Below_.step hst (H.below m (by omega))).2
theorem looks_operand {ops : Array Oper} {o : Oper} {t : Nat} (h : Operand.tmp t ∈ o.op.operands.toList) : t ∈ looks ops o :=
  List.mem_append_left _ (List.mem_filterMap.2 ⟨.tmp t, h, rfl⟩)
theorem looks_guard {ops : Array Oper} {o : Oper} {j : Nat} {want : Bool} {d : Nat} (hg : o.guard = some (j, want)) (hd : (ops[j]?).bind (·.dst) = some d) : d ∈ looks ops o :=
  List.mem_append_right _ (by rw [hg]; simp only; rw [hd]; simp)
theorem z1k.wanted' {ops : Array Oper} {sl : Nat → Asn} {o : Oper} {b : Bool} (h : z1k ops sl o b) {η : Env} {tmps : Array Value} (hs : ∀ t, t ∈ looks ops o → (sl t).p η (tmps.getD t undef)) :
    Region.wanted o (yielded ops tmps) = b := by
  refine z1k.wanted (sl := fun t => if t ∈ looks ops o then sl t else ATop) (η := η) ?_ (fun t => ?_)
  · unfold z1k at h ⊢
    cases hg : o.guard with
    | none => simpa [hg] using h
    | some jw =>
      obtain ⟨j, want⟩ := jw
      simp only [hg] at h ⊢
      obtain ⟨d, hd, ⟨x, hx, hb⟩ | ⟨hx, hb⟩⟩ := h
      · exact ⟨d, hd, .inl ⟨x, by rw [if_pos (looks_guard hg hd)]; exact hx, hb⟩⟩
      · exact ⟨d, hd, .inr ⟨by rw [if_pos (looks_guard hg hd)]; exact hx, hb⟩⟩
  · split
    · exact hs t ‹_›
    · trivial
theorem Step1.inv {P : Program} {c : Ctx} {ops : Array Oper} {o : Oper} {f : Foot} {s s1 : St} (h : Step1 P c ops o f s s1) :
    (z1k ops s.sl o false ∧ f = ⟨[], []⟩ ∧ s1 = ⟨z5y s.sl o.dst AUndef, s.H, s.N⟩) ∨
    ∃ (need : List (Nat × z5b)) (upd : List (Nat × Option z5b)) (new : List Nat) (r : Asn) (N1 : Nat), z1k ops s.sl o true ∧ z2o P c o (lkp s.sl) need upd new r ∧ (∀ k x, (k, x) ∈ need → s.H k = some x) ∧ (∀ k, k ∈ new → s.N ≤ k ∧ k < N1) ∧ s.N ≤ N1 ∧
      f = ⟨need.map (·.1), upd.map (·.1)⟩ ∧ s1 = ⟨z5y s.sl o.dst r, s.H.upds upd, N1⟩ := by
  cases h with
  | skip hg => exact .inl ⟨hg, rfl, rfl⟩
  | run hg h hn hnew hN => exact .inr ⟨_, _, _, _, _, hg, h, hn, hnew, hN, rfl, rfl⟩
theorem Inv.step {P : Program} {c : Ctx} {l : List Oper} {fs : List Foot} {S : Nat → St} (H : Plan P c l fs S) {D : Nat → Bool} {i : Nat} {o : Oper} (ho : l[i]? = some o)
    (hi : D i = false) (hdown : ∀ a b, z7a l a b → D b = true → D a = true) (hpre : ∀ a, z7a l a i → D a = true) {η : Env} {a : Act} (hv : Inv c S l fs D η a)
    {K : Act → World → Prop} {Q : Exit → Act → World → Prop} (hK : ∀ η' a', Inv c S l fs (addB D i) η' a' → K a' η'.w) : wpOp P l.toArray Q i K a η.w := by
  obtain ⟨f, hf, hst⟩ := H.step i o ho
  have hlt : i < l.length := (List.getElem?_eq_some_iff.1 ho).1
  have hbel := H.below i (by omega)
  have hslot : ∀ t, t ∈ looks l.toArray o → ((S i).sl t).p η (a.tmps.getD t undef) := fun t ht => by
    rw [← H.slot_at ho hf hi hdown hpre ht]; exact hv.slots t
  have hd1 : ∀ t, o.dst = some t → t < a.tmps.size := by rw [hv.size]; exact dstsOk_mem H.dsts (List.mem_of_getElem? ho)
  have hoa : l.toArray[i]? = some o := by simpa using ho
  unfold wpOp
  simp only [hoa]
  have hS1 := H.slot_add ho hf hi hdown hpre
  have hH1 := H.heap_add ho hf hi hdown hpre
  generalize hSi : S i = si at *
  generalize hSi1 : S (i + 1) = si1 at *
  have mk : ∀ {need : List (Nat × z5b)} {upd : List (Nat × Option z5b)} {new : List Nat} {r : Asn} {η' : Env} {v : Value}, si1.sl = z5y si.sl o.dst r → f.wr = upd.map (·.1) → (∀ k, k ∈ f.wr → si1.H k = si.H.upds upd k) →
      StepTo new η η' → z2h c η' ((hpv S l fs D).upds upd) → r.p η' v → (∀ k, k ∈ new → ¬ Cr S l D k) → (∀ k, r.keys k → Cr S l (addB D i) k) → (∀ j x, (j, some x) ∈ upd → Cr S l (addB D i) j ∧ ∀ k, x.keys k → Cr S l (addB D i) k) →
      Inv c S l fs (addB D i) η' (a.put o.dst v) := by
    intro need upd new r η' v hsl hwr hhp hst' hheap hrv hnew hrk huk
    have hsl' : ∀ t, slv S l (addB D i) t = z5y (slv S l D) o.dst r t := by
      intro t
      rw [hS1 t]
      cases hd : o.dst with
      | none => simp [z5y]
      | some d =>
        by_cases htd : d = t
        · subst htd; simp [z5y, hsl, hd]
        · have : Nat.beq t d = false := beq_ne (Ne.symm htd)
          simp [z5y, htd, this]
    have hhp' : hpv S l fs (addB D i) = (hpv S l fs D).upds upd := by
      funext k
      rw [hH1 k]
      split
      · rename_i hk
        rw [hhp k hk]
        exact upds_same (by rw [← hwr]; exact hk)
      · rename_i hk
        exact (upds_not (by rw [← hwr]; exact hk)).symm
    refine ⟨fun t => ?_, ?_, fun t k hk => ?_, fun k x hk => ?_, fun k x j hk hj => ?_, ?_, ?_, ?_, ?_⟩
    · rw [hsl' t]
      refine slots_put (sl := slv S l D) (fun t => ?_) hrv hd1 t
      exact (slv S l D t).mono (hst'.le fun k hk hkn => hnew k hkn (hv.skeys t k hk)) (hv.slots t)
    · rw [hhp']; exact hheap
    · rw [hsl' t] at hk
      rcases putS_keys hk with h | h
      · exact hrk k h
      · exact (hv.skeys t k h).add
    · rw [hhp'] at hk
      rcases upds_mem hk with h | h
      · exact (huk k x h).1
      · exact (hv.dom k x h).add
    · rw [hhp'] at hk
      rcases upds_mem hk with h | h
      · exact (huk k x h).2 j hj
      · exact (hv.cont k x j h hj).add
    · rw [Act.put_def]; exact hv.defers
    · rw [Act.put_size]; exact hv.size
    · exact fun k hk => (hst'.ref k fun hkn => hnew k hkn (.inl (Nat.lt_of_lt_of_le hk hv.nle))).trans (hv.ref k hk)
    · exact hv.nle
  rcases hst.inv with ⟨hg, hfe, hse⟩ | ⟨need, upd, new, r, N1, hg, hop, hn, hnew, hN, hfe, hse⟩
  · rw [z1k.wanted' hg hslot]
    simp only [Bool.false_eq_true, if_false]
    refine hK η _ (mk (need := []) (upd := []) (new := []) (r := AUndef) (by rw [hse]) (by rw [hfe]; rfl) (fun k hk => by rw [hfe] at hk; simp at hk) ⟨fun _ h => h, fun _ _ => rfl, fun _ _ => rfl⟩ hv.heap rfl (fun k hk => by simp at hk) (fun k hk => hk.elim) (fun j x hx => by simp at hx))
  · have hsN : si1.N = N1 := by rw [hse]
    rw [z1k.wanted' hg hslot]
    simp only [if_true]
    left
    have newno : ∀ k, k ∈ new → ¬ Cr S l D k := by
      intro k hk hc
      have h1 := hnew k hk
      rcases hc with h | ⟨j, hj, hDj, h2, h3⟩
      · have := H.mono (i := 0) (j := i) (by omega) (by omega); rw [hSi] at this; omega
      · have hji : j ≠ i := fun e => by subst e; rw [hi] at hDj; cases hDj
        rcases Nat.lt_or_gt_of_ne hji with h | h
        · have := H.mono (i := j + 1) (j := i) (by omega) (by omega); rw [hSi] at this; omega
        · have := H.mono (i := i + 1) (j := j) (by omega) (by omega); rw [hSi1, hsN] at this
          have : N1 ≤ k := Nat.le_trans this h2
          omega
    have newcr : ∀ k, k ∈ new → Cr S l (addB D i) k := fun k hk => .inr ⟨i, hlt, addB_self D i, by rw [hSi]; exact (hnew k hk).1, by rw [hSi1, hsN]; exact (hnew k hk).2⟩
    have hneed : ∀ k x, (k, x) ∈ need → hpv S l fs D k = some x := fun k x hx => by
      rw [H.key_at ho hf hi hdown hpre (k := k) (by rw [hfe]; exact List.mem_map.2 ⟨(k, x), hx, rfl⟩), hSi]
      exact hn k x hx
    have opcr : ∀ x ∈ o.op.operands.toList, ∀ k, (lkp si.sl x).keys k → Cr S l D k := by
      intro x hx k hk
      cases x with
      | tmp t =>
        refine hv.skeys t k ?_
        rw [H.slot_at ho hf hi hdown hpre (looks_operand hx), hSi]
        exact hk
      | const v => exact absurd hk (constA_keys v k)
      | global g => exact hk.elim
      | func f => exact absurd hk (z4g k)
    have kcr : ∀ k, ((∃ x ∈ o.op.operands.toList, (lkp si.sl x).keys k) ∨ (∃ j x, (j, x) ∈ need ∧ x.keys k) ∨ k ∈ new ++ need.map (·.1)) → Cr S l (addB D i) k := by
      rintro k (⟨x, hx, hk⟩ | ⟨j, x, hx, hk⟩ | hk)
      · exact (opcr x hx k hk).add
      · exact (hv.cont j x k (hneed j x hx) hk).add
      · rcases List.mem_append.1 hk with hk | hk
        · exact newcr k hk
        · obtain ⟨⟨j, x⟩, hm, rfl⟩ := List.mem_map.1 hk
          exact (hv.dom j x (hneed j x hm)).add
    refine Exec.wp (hop.run η a.eval (hpv S l fs D) hv.heap (fun x hx => ?_) hneed (fun k hk => ⟨?_, fun j x hj hk' => newno k hk (hv.cont j x k hj hk')⟩) (fun x hx k hk hkn => newno k hkn (opcr x hx k hk))) ?_
    · cases x with
      | tmp t => exact hslot t (looks_operand hx)
      | const v => exact constA_p η v
      | global g => rfl
      | func f => exact ⟨#[], rfl, .nil⟩
    · cases hx : hpv S l fs D k with
      | none => rfl
      | some x => exact absurd (hv.dom k x hx) (newno k hk)
    · rintro v w' ⟨η', rfl, hst', hheap, hrv⟩
      refine hK η' _ (mk (need := need) (upd := upd) (new := new) (by rw [hse]) (by rw [hfe]) (fun k _ => by rw [hse]) hst' hheap hrv newno (fun k hk => kcr k (hop.keys k hk)) (fun j x hx => ⟨?_, fun k hk => kcr k (hop.ukeys j x hx k hk)⟩))
      rcases hop.dom j _ hx with ⟨y, hy⟩ | h
      · exact (hv.dom j y (hneed j y hy)).add
      · exact newcr j h
theorem set_getD {listed : Array Bool} {i : Nat} (h : i < listed.size) (j : Nat) : (listed.setIfInBounds i true).getD j false = addB (fun j => listed.getD j false) i j := by
  unfold addB
  by_cases hj : j = i
  · subst hj; simp [h]
  · simp [Array.getElem?_setIfInBounds_ne (Ne.symm hj), hj]
theorem draw_any {P : Program} {c : Ctx} {l : List Oper} {fs : List Foot} {S : Nat → St} (H : Plan P c l fs S) {Q : Exit → Act → World → Prop} (hQ : ∀ η a, Rel c (S l.length) η a → Q .normal a η.w) :
    ∀ (fuel : Nat) (listed : Array Bool) (L : List Nat) (η : Env) (a : Act), listed.size = l.length → L.length ≤ fuel → (∀ j, j < l.length → listed.getD j false = false → j ∈ L) →
      (∀ a b, z7a l a b → listed.getD b false = true → listed.getD a false = true) → Inv c S l fs (fun j => listed.getD j false) η a → wpAny P .any l.toArray Q fuel listed a η.w := by
  have fin : ∀ (listed : Array Bool) (η : Env) (a : Act), (∀ j, j < l.length → listed.getD j false = true) → Inv c S l fs (fun j => listed.getD j false) η a → Q .normal a η.w := by
    intro listed η a hall hv
    have hsl : ∀ t, slv S l (fun j => listed.getD j false) t = (S l.length).sl t := fun t => by
      unfold slv
      rw [ver_congr (D' := ltB l.length) (fun j hj _ => by rw [hall j hj]; symm; exact ltB_iff.2 hj)]
      refine ver_text (g := fun i => (S i).sl t) (fun j hj hw => ?_) l.length (Nat.le_refl _)
      obtain ⟨g, hg, hst⟩ := H.step j _ (List.getElem?_eq_getElem hj)
      exact step_slot hst (fun e => by rw [(Wt_iff (List.getElem?_eq_getElem hj)).2 e] at hw; cases hw)
    have hhp : hpv S l fs (fun j => listed.getD j false) = (S l.length).H := by
      funext k
      unfold hpv
      rw [ver_congr (D' := ltB l.length) (fun j hj _ => by rw [hall j hj]; symm; exact ltB_iff.2 hj)]
      refine ver_text (g := fun i => (S i).H k) (fun j hj hw => ?_) l.length (Nat.le_refl _)
      obtain ⟨g, hg, hst⟩ := H.step j _ (List.getElem?_eq_getElem hj)
      exact step_heap hst (fun e => by rw [(Wk_iff hg).2 e] at hw; cases hw)
    refine hQ η a ⟨fun t => ?_, ?_, H.below _ (Nat.le_refl _), hv.defers, hv.size, hv.ref, Nat.le_trans hv.nle (H.mono (Nat.zero_le _) (Nat.le_refl _))⟩
    · rw [← hsl t]; exact hv.slots t
    · rw [← hhp]; exact hv.heap
  have dmin : ∀ (listed : Array Bool), listed.size = l.length → (∃ j, j < l.length ∧ listed.getD j false = false) → Region.ready .any l.toArray listed ≠ [] := by
    intro listed hsz ⟨j0, hj0, h0⟩
    -- the least one that isn't listed
    have : ∃ j, j < l.length ∧ listed.getD j false = false ∧ ∀ k, k < j → listed.getD k false = true := by
      induction j0 using Nat.strongRecOn with
      | _ j0 ih =>
        by_cases hk : ∃ k, k < j0 ∧ listed.getD k false = false
        · obtain ⟨k, hk1, hk2⟩ := hk; exact ih k hk1 (by omega) hk2
        · refine ⟨j0, hj0, h0, fun k hk1 => ?_⟩
          cases hb : listed.getD k false
          · exact absurd ⟨k, hk1, hb⟩ hk
          · rfl
    obtain ⟨j, hj, hf, hall⟩ := this
    have hm : j ∈ Region.ready .any l.toArray listed := by
      rw [mem_ready]
      refine ⟨?_, l[j], by simp, fun e he hb => hall _ (H.edges j _ e (List.getElem?_eq_getElem hj) (by simpa using he) hb)⟩
      have hjs : j < listed.size := by omega
      simp [hjs] at hf ⊢; exact hf
    intro e; rw [e] at hm; cases hm
  intro fuel
  induction fuel with
  | zero =>
    intro listed L η a hsz hL hLs hdown hv
    have hall : ∀ j, j < l.length → listed.getD j false = true := by
      intro j hj
      cases hb : listed.getD j false
      · have := hLs j hj hb
        have : L = [] := List.eq_nil_of_length_eq_zero (by omega)
        simp_all
      · rfl
    refine ⟨?_, fin listed η a hall hv⟩
    cases hr : Region.ready .any l.toArray listed with
    | nil => rfl
    | cons x xs =>
      have hx : x ∈ Region.ready .any l.toArray listed := by rw [hr]; simp
      rw [mem_ready] at hx
      obtain ⟨h0, o, hox, _⟩ := hx
      have hxl : x < l.length := by have := (Array.getElem?_eq_some_iff.1 hox).1; simpa using this
      have := hall x hxl
      have hxs : x < listed.size := by omega
      simp [hxs] at h0 this; rw [h0] at this; cases this
  | succ fuel ih =>
    intro listed L η a hsz hL hLs hdown hv
    refine ⟨fun hr => ?_, fun i hi => ?_⟩
    · refine fin listed η a (fun j hj => ?_) hv
      cases hb : listed.getD j false
      · exact absurd hr (dmin listed hsz ⟨j, hj, hb⟩)
      · rfl
    · rw [mem_ready] at hi
      obtain ⟨h0, o, hox, hall⟩ := hi
      have hil : i < l.length := by have := (Array.getElem?_eq_some_iff.1 hox).1; simpa using this
      have his : i < listed.size := by omega
      have hDi : listed.getD i false = false := by simp [his] at h0 ⊢; exact h0
      have ho : l[i]? = some o := by simpa using hox
      have hpre : ∀ a, z7a l a i → listed.getD a false = true := by
        intro a hab
        generalize hgi : i = i' at hab
        induction hab with
        | edge ho' he hb hon =>
          subst hgi
          rw [ho] at ho'
          obtain rfl := Option.some.inj ho'
          rw [← hon]
          exact hall _ (by simpa using he) hb
        | trans h1 h2 _ ih2 => exact hdown _ _ h1 (ih2 hgi)
      have hfun : (fun j => (listed.setIfInBounds i true).getD j false) = addB (fun j => listed.getD j false) i := funext (set_getD his)
      refine Inv.step H ho hDi hdown hpre hv (fun η' a' hv' => ih _ (L.erase i) η' a' (by simpa using hsz) ?_ ?_ ?_ (by rw [hfun]; exact hv'))
      · have hmem : i ∈ L := hLs i hil hDi
        rw [List.length_erase_of_mem hmem]; omega
      · intro j hj hjf
        have h1 := congrFun hfun j
        rw [h1] at hjf
        have hji : j ≠ i := fun e => by subst e; rw [addB_self] at hjf; cases hjf
        rw [addB_ne hji] at hjf
        exact (List.mem_erase_of_ne hji).2 (hLs j hj hjf)
      · intro x y hxy hy
        have h1 := congrFun hfun y
        have h2 := congrFun hfun x
        rw [h1] at hy
        rw [h2]
        by_cases hyi : y = i
        · subst hyi; exact addB_of (hpre x hxy)
        · rw [addB_ne hyi] at hy; exact addB_of (hdown x y hxy hy)
end
theorem z2h.drew {c : Ctx} {η : Env} {H : Heap} (h : z2h c η H) : z2h c { η with w := η.w.drew } H := by
  refine ⟨fun k x hk => ?_, h.own, h.apart, h.lt, h.new, h.old, h.size, h.keep, h.os, h.tape, h.output⟩
  exact (h.holds k x hk).mono (η' := { η with w := η.w.drew }) ⟨fun _ h => h, fun _ _ => rfl, fun _ _ => rfl⟩ (fun _ _ => rfl)
theorem region_draw {P : Program} (hm : P.follows .mixedOrders = true) {c : Ctx} {Q : Exit → Act → World → Prop} {l : List Oper} {id : Nat} {fs : List Foot} {s s' : St} (h : Tr P c l.toArray l fs s s') (hk : drawOk c.n l fs = true)
    {η : Env} {a : Act} (hr : Rel c s η a) (hq : ∀ η' a', Rel c s' η' a' → Q .normal a' η'.w) : (Code.region id l.toArray true).wp P Q a η.w := by
  obtain ⟨S, h0, hn, H⟩ := Plan.of h hr.below hk
  refine wp_region_any hm ?_
  have hD : ∀ j, (Array.replicate l.toArray.size false).getD j false = false := by intro j; simp [Array.getElem?_replicate]; split <;> rfl
  have hcur : ∀ (W : Nat → Bool) (n : Nat), cur (fun j => (Array.replicate l.toArray.size false).getD j false) W n = none := by
    intro W n
    induction n with
    | zero => rfl
    | succ m ih =>
      show (if ((Array.replicate l.toArray.size false).getD m false && W m) = true then some m else cur (fun j => (Array.replicate l.toArray.size false).getD j false) W m) = none
      rw [hD m]
      exact ih
  have hs : ∀ t, slv S l (fun j => (Array.replicate l.toArray.size false).getD j false) t = s.sl t := fun t => by simp only [slv, ver, hcur, h0]
  have hh : hpv S l fs (fun j => (Array.replicate l.toArray.size false).getD j false) = s.H := by funext k; simp only [hpv, ver, hcur, h0]
  have hcr : ∀ k, k < s.N → Cr S l (fun j => (Array.replicate l.toArray.size false).getD j false) k := fun k hk => .inl (by rw [h0]; exact hk)
  have := draw_any H (Q := Q) (fun η a h => hq η a (by rw [← hn]; exact h)) l.toArray.size (Array.replicate l.toArray.size false) (List.range l.length) { η with w := η.w.drew } a (by simp) (by simp) (fun j hj _ => by simpa using hj)
    (fun x y _ hy => by rw [hD] at hy; cases hy) ?_
  · exact this
  · refine ⟨fun t => ?_, ?_, fun t k hk => ?_, fun k x hk => ?_, fun k x j hk hj => ?_, hr.defers, hr.size, hr.ref, by rw [h0]; exact hr.nle⟩
    · rw [hs t]; exact (s.sl t).mono (η := η) ⟨fun _ h => h, fun _ _ => rfl, fun _ _ => rfl⟩ (hr.slots t)
    · rw [hh]; exact hr.heap.drew
    · rw [hs t] at hk; exact hcr _ (hr.below.sl t k hk)
    · rw [hh] at hk; exact hcr _ (hr.below.dom k x hk)
    · rw [hh] at hk; exact hcr _ (hr.below.cont k x j hk hj)
end Go.Proofs.YtngimdmkomkeoaaGreat.K
