import Derived.Test.YtngimdmkomkeoaaGreatCoreB
set_option linter.unusedVariables false
set_option linter.unusedSimpArgs false
namespace Go.Proofs.YtngimdmkomkeoaaGreat.K
open Go.RowKit
inductive eB (l : List Oper) : Nat → Nat → Prop
  | edge {i j : Nat} {o : Oper} {e : Edge} (ho : l[j]? = some o) (he : e ∈ o.after.toList) (hb : Region.binds .any e = true) (hi : e.on = i) : eB l i j
  | trans {i j k : Nat} : eB l i j → eB l j k → eB l i k
def mu (acc : List Nat) (es : List Edge) : Nat := match es with
  | [] => 0
  | e :: r => bif Region.binds .any e then (1 <<< e.on) ||| acc.getD e.on 0 ||| mu acc r else mu acc r
def rY (acc : List Nat) : List Oper → List Nat
  | [] => acc
  | o :: r => rY (acc ++ [mu acc o.after.toList]) r
theorem L5 {l : List Oper} {acc : List Nat} (hacc : ∀ (j m : Nat), acc[j]? = some m → ∀ i, m.testBit i = true → eB l i j) {j : Nat} {o : Oper} (ho : l[j]? = some o) :
    ∀ (es : List Edge), (∀ e ∈ es, e ∈ o.after.toList) → ∀ i, (mu acc es).testBit i = true → eB l i j := by
  intro es
  induction es with
  | nil => intro _ i h; simp [mu] at h
  | cons e r ih =>
    intro hes i h
    simp only [mu] at h
    have ihr := ih (fun e he => hes e (by simp [he]))
    cases hb : Region.binds .any e with
    | false => rw [hb] at h; exact ihr i h
    | true =>
      rw [hb] at h
      simp only [cond_true, Nat.testBit_or, Bool.or_eq_true] at h
      rcases h with (h | h) | h
      · rw [Nat.one_shiftLeft, Nat.testBit_two_pow] at h
        exact .edge ho (hes e (by simp)) hb (by simpa using h)
      · cases hg : acc[e.on]? with
        | none => simp [List.getD, hg] at h
        | some m =>
          have : m.testBit i = true := by simpa [List.getD, hg] using h
          exact .trans (hacc _ _ hg i this) (.edge ho (hes e (by simp)) hb rfl)
      · exact ihr i h
theorem Dg {l : List Oper} : ∀ (r : List Oper) (acc : List Nat), (∀ (j m : Nat), acc[j]? = some m → ∀ i, m.testBit i = true → eB l i j) → (∀ j, r[j]? = l[acc.length + j]?) →
    ∀ (j m : Nat), (rY acc r)[j]? = some m → ∀ i, m.testBit i = true → eB l i j
  | [], acc, hacc, _ => hacc
  | o :: r, acc, hacc, hl => by
    refine Dg r _ ?_ (fun j => ?_)
    · intro j m hj i hi
      rw [List.getElem?_append] at hj
      split at hj
      · exact hacc j m hj i hi
      · rename_i hlt
        have hj0 : j = acc.length := by
          cases hk : j - acc.length with
          | zero => omega
          | succ k => rw [hk] at hj; simp at hj
        subst hj0
        simp at hj
        subst hj
        exact L5 hacc (by have := hl 0; simpa using this.symm) _ (fun e he => he) i hi
    · have := hl (j + 1)
      simp only [List.getElem?_cons_succ] at this
      rw [this]
      simp [Nat.add_assoc, Nat.add_comm 1 j]
def bF (x : Nat) : List Nat → Bool
  | [] => false
  | y :: r => bif x == y then true else bF x r
theorem lz {x : Nat} {l : List Nat} : bF x l = true ↔ x ∈ l := by
  induction l with
  | nil => simp [bF]
  | cons y r ih =>
    simp only [bF]
    cases h : (x == y)
    · simp only [cond_false, ih, List.mem_cons]; constructor
      · exact .inr
      · rintro (rfl | h'); · simp at h
        · exact h'
    · have : x = y := by simpa using h
      subst this; simp
def l9 (a b : List Nat) : Bool := a.any fun x => bF x b
theorem kF {a b : List Nat} {x : Nat} (h1 : x ∈ a) (h2 : x ∈ b) : l9 a b = true := List.any_eq_true.2 ⟨x, h1, lz.2 h2⟩
def jq (ops : Array Oper) (o : Oper) : List Nat := o.looksAt ops
def k9 (o : Oper) : List Nat := o.dst.toList
def gZ (ops : Array Oper) (o : Oper) (f : cB) (p : Oper) (g : cB) : Bool :=
  l9 (k9 o) (k9 p) || l9 (k9 o) (jq ops p) || l9 (jq ops o) (k9 p) || l9 f.wr g.wr || l9 f.wr g.rd || l9 f.rd g.wr
def rq (ops : Array Oper) (p : Oper) (g : cB) (m : Nat) : Nat → List (Oper × cB) → Bool
  | _, [] => true
  | i, (o, f) :: r => (bif gZ ops o f p g then m.testBit i else true) && rq ops p g m (i + 1) r
def rc (ops : Array Oper) (ms : List Nat) : List (Oper × cB) → List (Oper × cB) → Bool
  | _, [] => true
  | past, (p, g) :: r => rq ops p g (ms.getD past.length 0) 0 past && rc ops ms (past ++ [(p, g)]) r
def rW : Nat → List Oper → Bool
  | _, [] => true
  | i, o :: r => o.after.toList.all (fun e => bif Region.binds .any e then Nat.blt e.on i else true) && rW (i + 1) r
def ll (n : Nat) (l : List Oper) (fs : List cB) : Bool :=
  jy n l && l.length == fs.length && rW 0 l && rc l.toArray (rY [] l) [] (l.zip fs)
theorem CH {ops : Array Oper} {p : Oper} {g : cB} {m : Nat} : ∀ {past : List (Oper × cB)} {k : Nat}, rq ops p g m k past = true → ∀ i o f, past[i]? = some (o, f) → gZ ops o f p g = true → m.testBit (k + i) = true
  | [], _, _, i, o, f, h, _ => by simp at h
  | (q, e) :: r, k, hr, i, o, f, h, hc => by
    simp only [rq, Bool.and_eq_true] at hr
    cases i with
    | zero => simp at h; obtain ⟨rfl, rfl⟩ := h; have := hr.1; rw [hc] at this; simpa using this
    | succ i => have := CH hr.2 i o f (by simpa using h) hc; rwa [show k + (i + 1) = k + 1 + i by omega]
theorem Cp {ops : Array Oper} {ms : List Nat} : ∀ {r past : List (Oper × cB)}, rc ops ms past r = true → ∀ i j o f p g, i < j → past.length ≤ j → (past ++ r)[i]? = some (o, f) → (past ++ r)[j]? = some (p, g) →
    gZ ops o f p g = true → (ms.getD j 0).testBit i = true
  | [], past, _, i, j, o, f, p, g, hij, hle, hi, hj, hc => by
    simp at hj; have := (List.getElem?_eq_some_iff.1 hj).1; omega
  | (q, e) :: r, past, h, i, j, o, f, p, g, hij, hle, hi, hj, hc => by
    simp only [rc, Bool.and_eq_true] at h
    by_cases hjl : j = past.length
    · subst hjl
      rw [List.getElem?_append_right (Nat.le_refl _)] at hj
      simp at hj
      obtain ⟨rfl, rfl⟩ := hj
      rw [List.getElem?_append_left hij] at hi
      have := CH h.1 i o f hi hc
      simpa using this
    · refine Cp (r := r) (past := past ++ [(q, e)]) h.2 i j o f p g hij (by simp; omega) ?_ ?_ hc <;> simpa using ‹_›
theorem CU : ∀ {l : List Oper} {k : Nat}, rW k l = true → ∀ j o e, l[j]? = some o → e ∈ o.after.toList → Region.binds .any e = true → e.on < k + j
  | [], _, _, j, o, e, h, _, _ => by simp at h
  | q :: r, k, hk, j, o, e, h, he, hb => by
    simp only [rW, Bool.and_eq_true] at hk
    cases j with
    | zero =>
      simp at h; subst h
      have := List.all_eq_true.1 hk.1 e he
      rw [hb] at this
      have : e.on < k := of_decide_eq_true (by simpa [Nat.blt_eq] using this)
      omega
    | succ j => have := CU hk.2 j o e (by simpa using h) he hb; omega
def cur (D W : Nat → Bool) : Nat → Option Nat
  | 0 => none
  | m + 1 => if D m && W m then some m else cur D W m
theorem sx {D D' W : Nat → Bool} : ∀ {n : Nat}, (∀ j, j < n → W j = true → D j = D' j) → cur D W n = cur D' W n
  | 0, _ => rfl
  | m + 1, h => by
    have ih := sx (n := m) (fun j hj => h j (by omega))
    simp only [cur]
    cases hw : W m
    · simp [ih]
    · rw [h m (by omega) hw, ih]
theorem wc {D W : Nat → Bool} {i : Nat} : ∀ {n : Nat}, i < n → D i = true → W i = true → (∀ j, i < j → j < n → W j = true → D j = false) → cur D W n = some i
  | 0, h, _, _, _ => by omega
  | m + 1, h, hd, hw, ht => by
    simp only [cur]
    by_cases hm : i = m
    · subst hm; simp [hd, hw]
    · have : (D m && W m) = false := by
        cases hwm : W m
        · simp
        · simp [ht m (by omega) (by omega) hwm]
      simp only [this, Bool.false_eq_true, if_false]
      exact wc (by omega) hd hw (fun j h1 h2 => ht j h1 (by omega))
def gA {α : Type} (g : Nat → α) (D W : Nat → Bool) (n : Nat) : α := match cur D W n with | some j => g (j + 1) | none => g 0
def f9 (i : Nat) : Nat → Bool := fun j => decide (j < i)
theorem pc {α : Type} {g : Nat → α} {W : Nat → Bool} {n : Nat} (hs : ∀ j, j < n → W j = false → g (j + 1) = g j) : ∀ i, i ≤ n → gA g (f9 i) W n = g i
  | 0, _ => by
    have : cur (f9 0) W n = none := by
      have : cur (f9 0) W n = cur (fun _ => false) W n := sx (fun j _ _ => by simp [f9])
      rw [this]
      clear this hs
      induction n with
      | zero => rfl
      | succ m ih => simpa [cur] using ih
    simp [gA, this]
  | i + 1, hi => by
    have ih := pc hs i (by omega)
    cases hw : W i
    · have : cur (f9 (i + 1)) W n = cur (f9 i) W n := sx (fun j _ hj => by
        have : j ≠ i := fun e => by subst e; rw [hw] at hj; cases hj
        simp only [f9, decide_eq_decide]; omega)
      unfold gA at ih ⊢
      rw [this, ih, hs i (by omega) hw]
    · have : cur (f9 (i + 1)) W n = some i := wc (by omega) (by simp [f9]) hw (fun j h1 _ _ => by simp [f9]; omega)
      simp [gA, this]
theorem mS {α : Type} {g : Nat → α} {D D' W : Nat → Bool} {n : Nat} (h : ∀ j, j < n → W j = true → D j = D' j) : gA g D W n = gA g D' W n := by unfold gA; rw [sx h]
theorem Bx {α : Type} {g : Nat → α} {D W : Nat → Bool} {n i : Nat} (h : i < n) (hd : D i = true) (hw : W i = true) (ht : ∀ j, i < j → j < n → W j = true → D j = false) : gA g D W n = g (i + 1) := by
  unfold gA; rw [wc h hd hw ht]
theorem Tr.at {P : Program} {c : cS} {ops : Array Oper} {l : List Oper} {fs : List cB} {s s' : St} (h : Tr P c ops l fs s s') :
    ∃ S : Nat → St, S 0 = s ∧ S l.length = s' ∧ fs.length = l.length ∧ ∀ i o, l[i]? = some o → ∃ f, fs[i]? = some f ∧ iL P c ops o f (S i) (S (i + 1)) := by
  induction h with
  | @nil s => exact ⟨fun _ => s, rfl, rfl, rfl, fun i o h => by simp at h⟩
  | @cons o rest f fs s s1 s2 h1 _ ih =>
    obtain ⟨S, h0, hn, hl, hs⟩ := ih
    refine ⟨fun i => match i with | 0 => s | i + 1 => S i, rfl, by simpa using hn, by simp [hl], fun i q hq => ?_⟩
    cases i with
    | zero => simp at hq; subst hq; exact ⟨f, rfl, by simpa [h0] using h1⟩
    | succ i => obtain ⟨g, hg, hst⟩ := hs i q (by simpa using hq); exact ⟨g, by simpa using hg, hst⟩
theorem Jx {H H' : cz} {l : List (Nat × Option bB)} {k : Nat} (h : k ∈ l.map (·.1)) : H.upds l k = H'.upds l k := by
  induction l with
  | nil => simp at h
  | cons x r ih =>
    obtain ⟨j, y⟩ := x
    simp only [cz.upds, cz.upd]
    cases hb : Nat.beq k j
    · simp only [cond_false]
      refine ih ?_
      simp only [List.map_cons, List.mem_cons] at h
      rcases h with rfl | h
      · simp at hb
      · exact h
    · rfl
section
variable {P : Program} {c : cS} {l : List Oper} {fs : List cB} {S : Nat → St}
def Wt (l : List Oper) (t : Nat) : Nat → Bool := fun j => ((l[j]?).bind (·.dst)) == some t
def Wk (fs : List cB) (k : Nat) : Nat → Bool := fun j => match fs[j]? with | some f => bF k f.wr | none => false
def gj (S : Nat → St) (l : List Oper) (D : Nat → Bool) : Nat → ae := fun t => gA (fun i => (S i).sl t) D (Wt l t) l.length
def fz (S : Nat → St) (l : List Oper) (fs : List cB) (D : Nat → Bool) : cz := fun k => gA (fun i => (S i).H k) D (Wk fs k) l.length
def Cr (S : Nat → St) (l : List Oper) (D : Nat → Bool) (k : Nat) : Prop := k < (S 0).N ∨ ∃ j, j < l.length ∧ D j = true ∧ (S j).N ≤ k ∧ k < (S (j + 1)).N
structure kX (c : cS) (S : Nat → St) (l : List Oper) (fs : List cB) (D : Nat → Bool) (η : bA) (a : Act) : Prop where
  slots : ∀ t, (gj S l D t).p η (a.tmps.getD t undef)
  heap : bZ c η (fz S l fs D)
  skeys : ∀ t k, (gj S l D t).keys k → Cr S l D k
  dom : ∀ k x, fz S l fs D k = some x → Cr S l D k
  cont : ∀ k x j, fz S l fs D k = some x → x.keys j → Cr S l D j
  defers : a.defers = []
  size : a.tmps.size = c.n
  ref : ∀ k, k < c.N0 → η.ρ k = c.ρ0 k
  nle : c.N0 ≤ (S 0).N
structure fB (P : Program) (c : cS) (l : List Oper) (fs : List cB) (S : Nat → St) : Prop where
  step : ∀ i o, l[i]? = some o → ∃ f, fs[i]? = some f ∧ iL P c l.toArray o f (S i) (S (i + 1))
  below : ∀ i, i ≤ l.length → jv (S i)
  len : fs.length = l.length
  ord : ∀ i j o f p g, i < j → l[i]? = some o → fs[i]? = some f → l[j]? = some p → fs[j]? = some g → gZ l.toArray o f p g = true → eB l i j
  edges : ∀ j o e, l[j]? = some o → e ∈ o.after.toList → Region.binds .any e = true → e.on < j
  dsts : jy c.n l = true
theorem fB.of {P : Program} {c : cS} {l : List Oper} {fs : List cB} {s s' : St} (h : Tr P c l.toArray l fs s s') (hb : jv s) (hk : ll c.n l fs = true) :
    ∃ S, S 0 = s ∧ S l.length = s' ∧ fB P c l fs S := by
  obtain ⟨S, h0, hn, hl, hs⟩ := h.at
  simp only [ll, Bool.and_eq_true] at hk
  obtain ⟨⟨⟨hd, _⟩, he⟩, hc⟩ := hk
  refine ⟨S, h0, hn, ⟨hs, ?_, hl, ?_, ?_, hd⟩⟩
  · intro i
    induction i with
    | zero => intro _; rw [h0]; exact hb
    | succ i ih =>
      intro hi
      have hlt : i < l.length := hi
      obtain ⟨f, _, hst⟩ := hs i l[i] (List.getElem?_eq_getElem hlt)
      exact (jv.step hst (ih (by omega))).1
  · intro i j o f p g hij ho hf hp hg hcl
    have hz : ∀ (i : Nat) (o : Oper) (f : cB), l[i]? = some o → fs[i]? = some f → ([] ++ l.zip fs)[i]? = some (o, f) := by
      intro i o f ho hf
      simp only [List.nil_append]
      rw [List.getElem?_zip_eq_some]
      exact ⟨ho, hf⟩
    have := Cp hc i j o f p g hij (by simp) (hz i o f ho hf) (hz j p g hp hg) hcl
    have hm := Dg (l := l) l [] (by intro j m h; simp at h) (by intro j; simp)
    cases hx : (rY [] l)[j]? with
    | none => simp [List.getD, hx] at this
    | some m => exact hm j m hx i (by simpa [List.getD, hx] using this)
  · intro j o e hj he' hbd
    have := CU he j o e hj he' hbd
    omega
theorem mD {i j : Nat} : (f9 i j = true) ↔ j < i := by simp [f9]
theorem fB.same {P : Program} {c : cS} {l : List Oper} {fs : List cB} {S : Nat → St} (H : fB P c l fs S) {D : Nat → Bool} {i : Nat} {o : Oper} {f : cB} (ho : l[i]? = some o) (hf : fs[i]? = some f)
    (hi : D i = false) (hdown : ∀ a b, eB l a b → D b = true → D a = true) (hpre : ∀ a, eB l a i → D a = true) {W : Nat → Bool}
    (hW : ∀ j p g, j ≠ i → l[j]? = some p → fs[j]? = some g → W j = true → gZ l.toArray o f p g = true ∧ gZ l.toArray p g o f = true) :
    ∀ j, j < l.length → W j = true → D j = f9 i j := by
  intro j hj hw
  obtain ⟨p, hp⟩ : ∃ p, l[j]? = some p := ⟨_, List.getElem?_eq_getElem hj⟩
  obtain ⟨g, hg⟩ : ∃ g, fs[j]? = some g := ⟨_, List.getElem?_eq_getElem (by rw [H.len]; exact hj)⟩
  by_cases hji : j = i
  · subst hji; rw [hi]; symm; simp [f9]
  · obtain ⟨h1, h2⟩ := hW j p g hji hp hg hw
    rcases Nat.lt_or_gt_of_ne hji with hlt | hgt
    · rw [hpre j (H.ord j i p g o f hlt hp hg ho hf h2)]; symm; exact mD.2 hlt
    · have : D j = false := by
        cases hd : D j
        · rfl
        · have := hdown i j (H.ord i j o f p g hgt ho hf hp hg h1) hd; rw [hi] at this; cases this
      rw [this]; symm
      cases hb : f9 i j
      · rfl
      · exact absurd (mD.1 hb) (by omega)
theorem DB {ops : Array Oper} {o p : Oper} {f g : cB} {t : Nat} (h1 : t ∈ k9 p) (h2 : t ∈ jq ops o ∨ t ∈ k9 o) : gZ ops o f p g = true ∧ gZ ops p g o f = true := by
  unfold gZ
  rcases h2 with h2 | h2
  · simp [kF h2 h1, kF h1 h2]
  · simp [kF h2 h1, kF h1 h2]
theorem Dq {ops : Array Oper} {o p : Oper} {f g : cB} {k : Nat} (h1 : k ∈ g.wr) (h2 : k ∈ f.rd ∨ k ∈ f.wr) : gZ ops o f p g = true ∧ gZ ops p g o f = true := by
  unfold gZ
  rcases h2 with h2 | h2
  · simp [kF h2 h1, kF h1 h2]
  · simp [kF h2 h1, kF h1 h2]
theorem mo {l : List Oper} {t j : Nat} {p : Oper} (hp : l[j]? = some p) : Wt l t j = true ↔ p.dst = some t := by simp [Wt, hp]
theorem wy {p : Oper} {t : Nat} : t ∈ k9 p ↔ p.dst = some t := by simp [k9, Option.mem_toList]
theorem mn {fs : List cB} {k j : Nat} {g : cB} (hg : fs[j]? = some g) : Wk fs k j = true ↔ k ∈ g.wr := by simp [Wk, hg, lz]
theorem Ck {P : Program} {c : cS} {ops : Array Oper} {o : Oper} {f : cB} {s s1 : St} (h : iL P c ops o f s s1) {t : Nat} (ht : o.dst ≠ some t) : s1.sl t = s.sl t := by
  have key : ∀ A, bm s.sl o.dst A t = s.sl t := by
    intro A
    cases hd : o.dst with
    | none => rfl
    | some d =>
      have : Nat.beq t d = false := kr fun e => ht (by rw [hd, e])
      simp [bm, this]
  cases h <;> exact key _
theorem Cj {P : Program} {c : cS} {ops : Array Oper} {o : Oper} {f : cB} {s s1 : St} (h : iL P c ops o f s s1) {k : Nat} (hk : k ∉ f.wr) : s1.H k = s.H k := by
  cases h with
  | skip => rfl
  | run => exact C4 hk
theorem fB.slot_at {P : Program} {c : cS} {l : List Oper} {fs : List cB} {S : Nat → St} (H : fB P c l fs S) {D : Nat → Bool} {i : Nat} {o : Oper} {f : cB} (ho : l[i]? = some o) (hf : fs[i]? = some f)
    (hi : D i = false) (hdown : ∀ a b, eB l a b → D b = true → D a = true) (hpre : ∀ a, eB l a i → D a = true) {t : Nat} (ht : t ∈ jq l.toArray o) : gj S l D t = (S i).sl t := by
  have hlt : i < l.length := (List.getElem?_eq_some_iff.1 ho).1
  have h1 := H.same ho hf hi hdown hpre (W := Wt l t) (fun j p g hji hp hg hw => DB (wy.2 ((mo hp).1 hw)) (.inl ht))
  unfold gj
  rw [mS h1]
  refine pc (fun j hj hw => ?_) i (by omega)
  obtain ⟨q, hq⟩ : ∃ q, l[j]? = some q := ⟨_, List.getElem?_eq_getElem hj⟩
  obtain ⟨g, hg, hst⟩ := H.step j q hq
  exact Ck hst (fun e => by rw [(mo hq).2 e] at hw; cases hw)
theorem fB.key_at {P : Program} {c : cS} {l : List Oper} {fs : List cB} {S : Nat → St} (H : fB P c l fs S) {D : Nat → Bool} {i : Nat} {o : Oper} {f : cB} (ho : l[i]? = some o) (hf : fs[i]? = some f)
    (hi : D i = false) (hdown : ∀ a b, eB l a b → D b = true → D a = true) (hpre : ∀ a, eB l a i → D a = true) {k : Nat} (hk : k ∈ f.rd) : fz S l fs D k = (S i).H k := by
  have hlt : i < l.length := (List.getElem?_eq_some_iff.1 ho).1
  have h1 := H.same ho hf hi hdown hpre (W := Wk fs k) (fun j p g hji hp hg hw => Dq ((mn hg).1 hw) (.inl hk))
  unfold fz
  rw [mS h1]
  refine pc (g := fun i => (S i).H k) (fun j hj hw => ?_) i (by omega)
  obtain ⟨q, hq⟩ : ∃ q, l[j]? = some q := ⟨_, List.getElem?_eq_getElem hj⟩
  obtain ⟨g, hg, hst⟩ := H.step j q hq
  exact Cj hst (fun e => by rw [(mn hg).2 e] at hw; cases hw)
def eO (D : Nat → Bool) (i : Nat) : Nat → Bool := fun j => D j || j == i
theorem sv (D : Nat → Bool) (i : Nat) : eO D i i = true := by simp [eO]
theorem wb {D : Nat → Bool} {i j : Nat} (h : D j = true) : eO D i j = true := by simp [eO, h]
theorem my {D : Nat → Bool} {i j : Nat} (h : j ≠ i) : eO D i j = D j := by simp [eO, h]
theorem Cr.add {S : Nat → St} {l : List Oper} {D : Nat → Bool} {i k : Nat} (h : Cr S l D k) : Cr S l (eO D i) k := h.imp id fun ⟨j, h1, h2, h3⟩ => ⟨j, h1, wb h2, h3⟩
theorem fB.slot_add {P : Program} {c : cS} {l : List Oper} {fs : List cB} {S : Nat → St} (H : fB P c l fs S) {D : Nat → Bool} {i : Nat} {o : Oper} {f : cB} (ho : l[i]? = some o) (hf : fs[i]? = some f)
    (hi : D i = false) (hdown : ∀ a b, eB l a b → D b = true → D a = true) (hpre : ∀ a, eB l a i → D a = true) (t : Nat) : gj S l (eO D i) t = if o.dst = some t then (S (i + 1)).sl t else gj S l D t := by
  have hlt : i < l.length := (List.getElem?_eq_some_iff.1 ho).1
  split
  · rename_i hd
    have h1 := H.same ho hf hi hdown hpre (W := Wt l t) (fun j p g hji hp hg hw => DB (wy.2 ((mo hp).1 hw)) (.inr (wy.2 hd)))
    refine Bx (g := fun i => (S i).sl t) hlt (sv D i) ((mo ho).2 hd) (fun j h2 h3 h4 => ?_)
    rw [my (by omega), h1 j h3 h4]
    cases hb : f9 i j
    · rfl
    · exact absurd (mD.1 hb) (by omega)
  · rename_i hd
    refine mS (fun j hj hw => my fun e => ?_)
    subst e
    exact hd ((mo ho).1 hw)
theorem fB.heap_add {P : Program} {c : cS} {l : List Oper} {fs : List cB} {S : Nat → St} (H : fB P c l fs S) {D : Nat → Bool} {i : Nat} {o : Oper} {f : cB} (ho : l[i]? = some o) (hf : fs[i]? = some f)
    (hi : D i = false) (hdown : ∀ a b, eB l a b → D b = true → D a = true) (hpre : ∀ a, eB l a i → D a = true) (k : Nat) : fz S l fs (eO D i) k = if k ∈ f.wr then (S (i + 1)).H k else fz S l fs D k := by
  have hlt : i < l.length := (List.getElem?_eq_some_iff.1 ho).1
  split
  · rename_i hd
    have h1 := H.same ho hf hi hdown hpre (W := Wk fs k) (fun j p g hji hp hg hw => Dq ((mn hg).1 hw) (.inr hd))
    refine Bx (g := fun i => (S i).H k) hlt (sv D i) ((mn hf).2 hd) (fun j h2 h3 h4 => ?_)
    rw [my (by omega), h1 j h3 h4]
    cases hb : f9 i j
    · rfl
    · exact absurd (mD.1 hb) (by omega)
  · rename_i hd
    refine mS (fun j hj hw => my fun e => ?_)
    subst e
    exact hd ((mn hf).1 hw)
theorem fB.mono {P : Program} {c : cS} {l : List Oper} {fs : List cB} {S : Nat → St} (H : fB P c l fs S) {i : Nat} : ∀ {j : Nat}, i ≤ j → j ≤ l.length → (S i).N ≤ (S j).N := by
  intro j hij
  induction hij with
  | refl => intro _; exact Nat.le_refl _
  | @step m _ ih =>
    intro hm
    obtain ⟨f, _, hst⟩ := H.step m _ (List.getElem?_eq_getElem (show m < l.length by omega))
    exact Nat.le_trans (ih (by omega)) (jv.step hst (H.below m (by omega))).2
theorem Df {ops : Array Oper} {o : Oper} {t : Nat} (h : Operand.tmp t ∈ o.op.operands.toList) : t ∈ jq ops o :=
  List.mem_append_left _ (List.mem_filterMap.2 ⟨.tmp t, h, rfl⟩)
theorem CN {ops : Array Oper} {o : Oper} {j : Nat} {want : Bool} {d : Nat} (hg : o.guard = some (j, want)) (hd : (ops[j]?).bind (·.dst) = some d) : d ∈ jq ops o :=
  List.mem_append_right _ (by rw [hg]; simp only; rw [hd]; simp)
theorem bD.wanted' {ops : Array Oper} {sl : Nat → ae} {o : Oper} {b : Bool} (h : bD ops sl o b) {η : bA} {tmps : Array Value} (hs : ∀ t, t ∈ jq ops o → (sl t).p η (tmps.getD t undef)) :
    Region.wanted o (yielded ops tmps) = b := by
  refine bD.wanted (sl := fun t => if t ∈ jq ops o then sl t else fA) (η := η) ?_ (fun t => ?_)
  · unfold bD at h ⊢
    cases hg : o.guard with
    | none => simpa [hg] using h
    | some jw =>
      obtain ⟨j, want⟩ := jw
      simp only [hg] at h ⊢
      obtain ⟨d, hd, ⟨x, hx, hb⟩ | ⟨hx, hb⟩⟩ := h
      · exact ⟨d, hd, .inl ⟨x, by rw [if_pos (CN hg hd)]; exact hx, hb⟩⟩
      · exact ⟨d, hd, .inr ⟨by rw [if_pos (CN hg hd)]; exact hx, hb⟩⟩
  · split
    · exact hs t ‹_›
    · trivial
theorem iL.inv {P : Program} {c : cS} {ops : Array Oper} {o : Oper} {f : cB} {s s1 : St} (h : iL P c ops o f s s1) :
    (bD ops s.sl o false ∧ f = ⟨[], []⟩ ∧ s1 = ⟨bm s.sl o.dst dB, s.H, s.N⟩) ∨
    ∃ (need : List (Nat × bB)) (upd : List (Nat × Option bB)) (new : List Nat) (r : ae) (N1 : Nat), bD ops s.sl o true ∧ cg P c o (bi s.sl) need upd new r ∧ (∀ k x, (k, x) ∈ need → s.H k = some x) ∧ (∀ k, k ∈ new → s.N ≤ k ∧ k < N1) ∧ s.N ≤ N1 ∧
      f = ⟨need.map (·.1), upd.map (·.1)⟩ ∧ s1 = ⟨bm s.sl o.dst r, s.H.upds upd, N1⟩ := by
  cases h with
  | skip hg => exact .inl ⟨hg, rfl, rfl⟩
  | run hg h hn hnew hN => exact .inr ⟨_, _, _, _, _, hg, h, hn, hnew, hN, rfl, rfl⟩
theorem kX.step {P : Program} {c : cS} {l : List Oper} {fs : List cB} {S : Nat → St} (H : fB P c l fs S) {D : Nat → Bool} {i : Nat} {o : Oper} (ho : l[i]? = some o)
    (hi : D i = false) (hdown : ∀ a b, eB l a b → D b = true → D a = true) (hpre : ∀ a, eB l a i → D a = true) {η : bA} {a : Act} (hv : kX c S l fs D η a)
    {K : Act → World → Prop} {Q : Exit → Act → World → Prop} (hK : ∀ η' a', kX c S l fs (eO D i) η' a' → K a' η'.w) : wpOp P l.toArray Q i K a η.w := by
  obtain ⟨f, hf, hst⟩ := H.step i o ho
  have hlt : i < l.length := (List.getElem?_eq_some_iff.1 ho).1
  have hbel := H.below i (by omega)
  have hslot : ∀ t, t ∈ jq l.toArray o → ((S i).sl t).p η (a.tmps.getD t undef) := fun t ht => by
    rw [← H.slot_at ho hf hi hdown hpre ht]; exact hv.slots t
  have hd1 : ∀ t, o.dst = some t → t < a.tmps.size := by rw [hv.size]; exact Cq H.dsts (List.mem_of_getElem? ho)
  have hoa : l.toArray[i]? = some o := by simpa using ho
  unfold wpOp
  simp only [hoa]
  have hS1 := H.slot_add ho hf hi hdown hpre
  have hH1 := H.heap_add ho hf hi hdown hpre
  generalize hSi : S i = si at *
  generalize hSi1 : S (i + 1) = si1 at *
  have mk : ∀ {need : List (Nat × bB)} {upd : List (Nat × Option bB)} {new : List Nat} {r : ae} {η' : bA} {v : Value}, si1.sl = bm si.sl o.dst r → f.wr = upd.map (·.1) → (∀ k, k ∈ f.wr → si1.H k = si.H.upds upd k) →
      mm new η η' → bZ c η' ((fz S l fs D).upds upd) → r.p η' v → (∀ k, k ∈ new → ¬ Cr S l D k) → (∀ k, r.keys k → Cr S l (eO D i) k) → (∀ j x, (j, some x) ∈ upd → Cr S l (eO D i) j ∧ ∀ k, x.keys k → Cr S l (eO D i) k) →
      kX c S l fs (eO D i) η' (a.put o.dst v) := by
    intro need upd new r η' v hsl hwr hhp hst' hheap hrv hnew hrk huk
    have hsl' : ∀ t, gj S l (eO D i) t = bm (gj S l D) o.dst r t := by
      intro t
      rw [hS1 t]
      cases hd : o.dst with
      | none => simp [bm]
      | some d =>
        by_cases htd : d = t
        · subst htd; simp [bm, hsl, hd]
        · have : Nat.beq t d = false := kr (Ne.symm htd)
          simp [bm, htd, this]
    have hhp' : fz S l fs (eO D i) = (fz S l fs D).upds upd := by
      funext k
      rw [hH1 k]
      split
      · rename_i hk
        rw [hhp k hk]
        exact Jx (by rw [← hwr]; exact hk)
      · rename_i hk
        exact (C4 (by rw [← hwr]; exact hk)).symm
    refine ⟨fun t => ?_, ?_, fun t k hk => ?_, fun k x hk => ?_, fun k x j hk hj => ?_, ?_, ?_, ?_, ?_⟩
    · rw [hsl' t]
      refine wV (sl := gj S l D) (fun t => ?_) hrv hd1 t
      exact (gj S l D t).mono (hst'.le fun k hk hkn => hnew k hkn (hv.skeys t k hk)) (hv.slots t)
    · rw [hhp']; exact hheap
    · rw [hsl' t] at hk
      rcases wQ hk with h | h
      · exact hrk k h
      · exact (hv.skeys t k h).add
    · rw [hhp'] at hk
      rcases su hk with h | h
      · exact (huk k x h).1
      · exact (hv.dom k x h).add
    · rw [hhp'] at hk
      rcases su hk with h | h
      · exact (huk k x h).2 j hj
      · exact (hv.cont k x j h hj).add
    · rw [Act.put_def]; exact hv.defers
    · rw [Act.put_size]; exact hv.size
    · exact fun k hk => (hst'.ref k fun hkn => hnew k hkn (.inl (Nat.lt_of_lt_of_le hk hv.nle))).trans (hv.ref k hk)
    · exact hv.nle
  rcases hst.inv with ⟨hg, hfe, hse⟩ | ⟨need, upd, new, r, N1, hg, hop, hn, hnew, hN, hfe, hse⟩
  · rw [bD.wanted' hg hslot]
    simp only [Bool.false_eq_true, if_false]
    refine hK η _ (mk (need := []) (upd := []) (new := []) (r := dB) (by rw [hse]) (by rw [hfe]; rfl) (fun k hk => by rw [hfe] at hk; simp at hk) ⟨fun _ h => h, fun _ _ => rfl, fun _ _ => rfl⟩ hv.heap rfl (fun k hk => by simp at hk) (fun k hk => hk.elim) (fun j x hx => by simp at hx))
  · have hsN : si1.N = N1 := by rw [hse]
    rw [bD.wanted' hg hslot]
    simp only [if_true]
    left
    have newno : ∀ k, k ∈ new → ¬ Cr S l D k := by
      intro k hk hc
      have h1 := hnew k hk
      rcases hc with h | ⟨j, hj, hDj, h2, h3⟩
      · have := H.mono (i := 0) (j := i) (by omega) (by omega); rw [hSi] at this; omega
      · have hji : j ≠ i := fun e => by subst e; rw [hi] at hDj; cases hDj
        rcases Nat.lt_or_gt_of_ne hji with h | h
        · have := H.mono (i := j + 1) (j := i) (by omega) (by omega); rw [hSi] at this; omega
        · have := H.mono (i := i + 1) (j := j) (by omega) (by omega); rw [hSi1, hsN] at this
          have : N1 ≤ k := Nat.le_trans this h2
          omega
    have newcr : ∀ k, k ∈ new → Cr S l (eO D i) k := fun k hk => .inr ⟨i, hlt, sv D i, by rw [hSi]; exact (hnew k hk).1, by rw [hSi1, hsN]; exact (hnew k hk).2⟩
    have hneed : ∀ k x, (k, x) ∈ need → fz S l fs D k = some x := fun k x hx => by
      rw [H.key_at ho hf hi hdown hpre (k := k) (by rw [hfe]; exact List.mem_map.2 ⟨(k, x), hx, rfl⟩), hSi]
      exact hn k x hx
    have opcr : ∀ x ∈ o.op.operands.toList, ∀ k, (bi si.sl x).keys k → Cr S l D k := by
      intro x hx k hk
      cases x with
      | tmp t =>
        refine hv.skeys t k ?_
        rw [H.slot_at ho hf hi hdown hpre (Df hx), hSi]
        exact hk
      | const v => exact absurd hk (sW v k)
      | global g => exact hk.elim
      | func f => exact absurd hk (gu k)
    have kcr : ∀ k, ((∃ x ∈ o.op.operands.toList, (bi si.sl x).keys k) ∨ (∃ j x, (j, x) ∈ need ∧ x.keys k) ∨ k ∈ new ++ need.map (·.1)) → Cr S l (eO D i) k := by
      rintro k (⟨x, hx, hk⟩ | ⟨j, x, hx, hk⟩ | hk)
      · exact (opcr x hx k hk).add
      · exact (hv.cont j x k (hneed j x hx) hk).add
      · rcases List.mem_append.1 hk with hk | hk
        · exact newcr k hk
        · obtain ⟨⟨j, x⟩, hm, rfl⟩ := List.mem_map.1 hk
          exact (hv.dom j x (hneed j x hm)).add
    refine dJ.wp (hop.run η a.eval (fz S l fs D) hv.heap (fun x hx => ?_) hneed (fun k hk => ⟨?_, fun j x hj hk' => newno k hk (hv.cont j x k hj hk')⟩) (fun x hx k hk hkn => newno k hkn (opcr x hx k hk))) ?_
    · cases x with
      | tmp t => exact hslot t (Df hx)
      | const v => exact wx η v
      | global g => rfl
      | func f => exact ⟨#[], rfl, .nil⟩
    · cases hx : fz S l fs D k with
      | none => rfl
      | some x => exact absurd (hv.dom k x hx) (newno k hk)
    · rintro v w' ⟨η', rfl, hst', hheap, hrv⟩
      refine hK η' _ (mk (need := need) (upd := upd) (new := new) (by rw [hse]) (by rw [hfe]) (fun k _ => by rw [hse]) hst' hheap hrv newno (fun k hk => kcr k (hop.keys k hk)) (fun j x hx => ⟨?_, fun k hk => kcr k (hop.ukeys j x hx k hk)⟩))
      rcases hop.dom j _ hx with ⟨y, hy⟩ | h
      · exact (hv.dom j y (hneed j y hy)).add
      · exact newcr j h
theorem Iz {listed : Array Bool} {i : Nat} (h : i < listed.size) (j : Nat) : (listed.setIfInBounds i true).getD j false = eO (fun j => listed.getD j false) i j := by
  unfold eO
  by_cases hj : j = i
  · subst hj; simp [h]
  · simp [Array.getElem?_setIfInBounds_ne (Ne.symm hj), hj]
theorem HF {P : Program} {c : cS} {l : List Oper} {fs : List cB} {S : Nat → St} (H : fB P c l fs S) {Q : Exit → Act → World → Prop} (hQ : ∀ η a, fy c (S l.length) η a → Q .normal a η.w) :
    ∀ (fuel : Nat) (listed : Array Bool) (L : List Nat) (η : bA) (a : Act), listed.size = l.length → L.length ≤ fuel → (∀ j, j < l.length → listed.getD j false = false → j ∈ L) →
      (∀ a b, eB l a b → listed.getD b false = true → listed.getD a false = true) → kX c S l fs (fun j => listed.getD j false) η a → wpAny P .any l.toArray Q fuel listed a η.w := by
  have fin : ∀ (listed : Array Bool) (η : bA) (a : Act), (∀ j, j < l.length → listed.getD j false = true) → kX c S l fs (fun j => listed.getD j false) η a → Q .normal a η.w := by
    intro listed η a hall hv
    have hsl : ∀ t, gj S l (fun j => listed.getD j false) t = (S l.length).sl t := fun t => by
      unfold gj
      rw [mS (D' := f9 l.length) (fun j hj _ => by rw [hall j hj]; symm; exact mD.2 hj)]
      refine pc (g := fun i => (S i).sl t) (fun j hj hw => ?_) l.length (Nat.le_refl _)
      obtain ⟨g, hg, hst⟩ := H.step j _ (List.getElem?_eq_getElem hj)
      exact Ck hst (fun e => by rw [(mo (List.getElem?_eq_getElem hj)).2 e] at hw; cases hw)
    have hhp : fz S l fs (fun j => listed.getD j false) = (S l.length).H := by
      funext k
      unfold fz
      rw [mS (D' := f9 l.length) (fun j hj _ => by rw [hall j hj]; symm; exact mD.2 hj)]
      refine pc (g := fun i => (S i).H k) (fun j hj hw => ?_) l.length (Nat.le_refl _)
      obtain ⟨g, hg, hst⟩ := H.step j _ (List.getElem?_eq_getElem hj)
      exact Cj hst (fun e => by rw [(mn hg).2 e] at hw; cases hw)
    refine hQ η a ⟨fun t => ?_, ?_, H.below _ (Nat.le_refl _), hv.defers, hv.size, hv.ref, Nat.le_trans hv.nle (H.mono (Nat.zero_le _) (Nat.le_refl _))⟩
    · rw [← hsl t]; exact hv.slots t
    · rw [← hhp]; exact hv.heap
  have dmin : ∀ (listed : Array Bool), listed.size = l.length → (∃ j, j < l.length ∧ listed.getD j false = false) → Region.ready .any l.toArray listed ≠ [] := by
    intro listed hsz ⟨j0, hj0, h0⟩
    -- the least one that isn't listed
    have : ∃ j, j < l.length ∧ listed.getD j false = false ∧ ∀ k, k < j → listed.getD k false = true := by
      induction j0 using Nat.strongRecOn with
      | _ j0 ih =>
        by_cases hk : ∃ k, k < j0 ∧ listed.getD k false = false
        · obtain ⟨k, hk1, hk2⟩ := hk; exact ih k hk1 (by omega) hk2
        · refine ⟨j0, hj0, h0, fun k hk1 => ?_⟩
          cases hb : listed.getD k false
          · exact absurd ⟨k, hk1, hb⟩ hk
          · rfl
    obtain ⟨j, hj, hf, hall⟩ := this
    have hm : j ∈ Region.ready .any l.toArray listed := by
      rw [mem_ready]
      refine ⟨?_, l[j], by simp, fun e he hb => hall _ (H.edges j _ e (List.getElem?_eq_getElem hj) (by simpa using he) hb)⟩
      have hjs : j < listed.size := by omega
      simp [hjs] at hf ⊢; exact hf
    intro e; rw [e] at hm; cases hm
  intro fuel
  induction fuel with
  | zero =>
    intro listed L η a hsz hL hLs hdown hv
    have hall : ∀ j, j < l.length → listed.getD j false = true := by
      intro j hj
      cases hb : listed.getD j false
      · have := hLs j hj hb
        have : L = [] := List.eq_nil_of_length_eq_zero (by omega)
        simp_all
      · rfl
    refine ⟨?_, fin listed η a hall hv⟩
    cases hr : Region.ready .any l.toArray listed with
    | nil => rfl
    | cons x xs =>
      have hx : x ∈ Region.ready .any l.toArray listed := by rw [hr]; simp
      rw [mem_ready] at hx
      obtain ⟨h0, o, hox, _⟩ := hx
      have hxl : x < l.length := by have := (Array.getElem?_eq_some_iff.1 hox).1; simpa using this
      have := hall x hxl
      have hxs : x < listed.size := by omega
      simp [hxs] at h0 this; rw [h0] at this; cases this
  | succ fuel ih =>
    intro listed L η a hsz hL hLs hdown hv
    refine ⟨fun hr => ?_, fun i hi => ?_⟩
    · refine fin listed η a (fun j hj => ?_) hv
      cases hb : listed.getD j false
      · exact absurd hr (dmin listed hsz ⟨j, hj, hb⟩)
      · rfl
    · rw [mem_ready] at hi
      obtain ⟨h0, o, hox, hall⟩ := hi
      have hil : i < l.length := by have := (Array.getElem?_eq_some_iff.1 hox).1; simpa using this
      have his : i < listed.size := by omega
      have hDi : listed.getD i false = false := by simp [his] at h0 ⊢; exact h0
      have ho : l[i]? = some o := by simpa using hox
      have hpre : ∀ a, eB l a i → listed.getD a false = true := by
        intro a hab
        generalize hgi : i = i' at hab
        induction hab with
        | edge ho' he hb hon =>
          subst hgi
          rw [ho] at ho'
          obtain rfl := Option.some.inj ho'
          rw [← hon]
          exact hall _ (by simpa using he) hb
        | trans h1 h2 _ ih2 => exact hdown _ _ h1 (ih2 hgi)
      have hfun : (fun j => (listed.setIfInBounds i true).getD j false) = eO (fun j => listed.getD j false) i := funext (Iz his)
      refine kX.step H ho hDi hdown hpre hv (fun η' a' hv' => ih _ (L.erase i) η' a' (by simpa using hsz) ?_ ?_ ?_ (by rw [hfun]; exact hv'))
      · have hmem : i ∈ L := hLs i hil hDi
        rw [List.length_erase_of_mem hmem]; omega
      · intro j hj hjf
        have h1 := congrFun hfun j
        rw [h1] at hjf
        have hji : j ≠ i := fun e => by subst e; rw [sv] at hjf; cases hjf
        rw [my hji] at hjf
        exact (List.mem_erase_of_ne hji).2 (hLs j hj hjf)
      · intro x y hxy hy
        have h1 := congrFun hfun y
        have h2 := congrFun hfun x
        rw [h1] at hy
        rw [h2]
        by_cases hyi : y = i
        · subst hyi; exact wb (hpre x hxy)
        · rw [my hyi] at hy; exact wb (hdown x y hxy hy)
end
theorem bZ.drew {c : cS} {η : bA} {H : cz} (h : bZ c η H) : bZ c { η with w := η.w.drew } H := by
  refine ⟨fun k x hk => ?_, h.own, h.apart, h.lt, h.new, h.old, h.size, h.keep, h.os, h.tape, h.output⟩
  exact (h.holds k x hk).mono (η' := { η with w := η.w.drew }) ⟨fun _ h => h, fun _ _ => rfl, fun _ _ => rfl⟩ (fun _ _ => rfl)
theorem Kx {P : Program} (hm : P.follows .mixedOrders = true) {c : cS} {Q : Exit → Act → World → Prop} {l : List Oper} {id : Nat} {fs : List cB} {s s' : St} (h : Tr P c l.toArray l fs s s') (hk : ll c.n l fs = true)
    {η : bA} {a : Act} (hr : fy c s η a) (hq : ∀ η' a', fy c s' η' a' → Q .normal a' η'.w) : (Code.region id l.toArray true).wp P Q a η.w := by
  obtain ⟨S, h0, hn, H⟩ := fB.of h hr.below hk
  refine wp_region_any hm ?_
  have hD : ∀ j, (Array.replicate l.toArray.size false).getD j false = false := by intro j; simp [Array.getElem?_replicate]; split <;> rfl
  have hcur : ∀ (W : Nat → Bool) (n : Nat), cur (fun j => (Array.replicate l.toArray.size false).getD j false) W n = none := by
    intro W n
    induction n with
    | zero => rfl
    | succ m ih =>
      show (if ((Array.replicate l.toArray.size false).getD m false && W m) = true then some m else cur (fun j => (Array.replicate l.toArray.size false).getD j false) W m) = none
      rw [hD m]
      exact ih
  have hs : ∀ t, gj S l (fun j => (Array.replicate l.toArray.size false).getD j false) t = s.sl t := fun t => by simp only [gj, gA, hcur, h0]
  have hh : fz S l fs (fun j => (Array.replicate l.toArray.size false).getD j false) = s.H := by funext k; simp only [fz, gA, hcur, h0]
  have hcr : ∀ k, k < s.N → Cr S l (fun j => (Array.replicate l.toArray.size false).getD j false) k := fun k hk => .inl (by rw [h0]; exact hk)
  have := HF H (Q := Q) (fun η a h => hq η a (by rw [← hn]; exact h)) l.toArray.size (Array.replicate l.toArray.size false) (List.range l.length) { η with w := η.w.drew } a (by simp) (by simp) (fun j hj _ => by simpa using hj)
    (fun x y _ hy => by rw [hD] at hy; cases hy) ?_
  · exact this
  · refine ⟨fun t => ?_, ?_, fun t k hk => ?_, fun k x hk => ?_, fun k x j hk hj => ?_, hr.defers, hr.size, hr.ref, by rw [h0]; exact hr.nle⟩
    · rw [hs t]; exact (s.sl t).mono (η := η) ⟨fun _ h => h, fun _ _ => rfl, fun _ _ => rfl⟩ (hr.slots t)
    · rw [hh]; exact hr.heap.drew
    · rw [hs t] at hk; exact hcr _ (hr.below.sl t k hk)
    · rw [hh] at hk; exact hcr _ (hr.below.dom k x hk)
    · rw [hh] at hk; exact hcr _ (hr.below.cont k x j hk hj)
end Go.Proofs.YtngimdmkomkeoaaGreat.K
