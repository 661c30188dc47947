import Derived.Test.YtngimdmkomkeoaaGreatCoreA
set_option linter.unusedVariables false
set_option linter.unusedSimpArgs false
namespace Go.Proofs.YtngimdmkomkeoaaGreat.K
open Go.RowKit
def cz.upd (H : cz) (k : Nat) (x : Option bB) : cz := fun j => bif Nat.beq j k then x else H j
def cz.upds (H : cz) : List (Nat × Option bB) → cz
  | [] => H
  | (k, x) :: r => (H.upds r).upd k x
structure St where
  sl : Nat → ae
  H : cz
  N : Nat
def bm (sl : Nat → ae) (d : Option Nat) (A : ae) : Nat → ae :=
  match d with
  | some d => fun t => bif Nat.beq t d then A else sl t
  | none => sl
def bi (sl : Nat → ae) : Operand → ae
  | .tmp t => sl t
  | .const v => fY v
  | .global g => fm (.pointer (some ⟨g, 0, none⟩))
  | .func f => bj f []
structure jv (s : St) : Prop where
  sl : ∀ t k, (s.sl t).keys k → k < s.N
  dom : ∀ k x, s.H k = some x → k < s.N
  cont : ∀ k x j, s.H k = some x → x.keys j → j < s.N
structure fy (c : cS) (s : St) (η : bA) (a : Act) : Prop where
  slots : ∀ t, (s.sl t).p η (a.tmps.getD t undef)
  heap : bZ c η s.H
  below : jv s
  defers : a.defers = []
  size : a.tmps.size = c.n
  ref : ∀ k, k < c.N0 → η.ρ k = c.ρ0 k
  nle : c.N0 ≤ s.N
theorem l8 {sl : Nat → ae} {η : bA} {a : Act} (h : ∀ t, (sl t).p η (a.tmps.getD t undef)) (x : Operand) : (bi sl x).p η (a.eval x) := by
  cases x with
  | tmp t => exact h t
  | const v => exact wx η v
  | global g => rfl
  | func f => exact ⟨#[], rfl, .nil⟩
def dJ (P : Program) (o : Oper) (ρo : Operand → Value) (w : World) (K : Value → World → Prop) : Prop :=
  match (execOp ρo o).run P w with
  | .ok (.value v) w' => K v w'
  | .ok .skip w' => K undef w'
  | .ok (.enter f args) w' => Calls P f args w' fun e w'' => ∃ v, e = .returned v ∧ K v w''
  | _ => False
theorem dJ.wp {P : Program} {o : Oper} {a : Act} {w : World} {K : Value → World → Prop} {next : Act → World → Prop} {Q : Exit → Act → World → Prop}
    (h : dJ P o a.eval w K) (hn : ∀ v w', K v w' → next (a.put o.dst v) w') : o.wp P a w next Q := by
  unfold dJ at h
  unfold Oper.wp
  generalize (execOp a.eval o).run P w = r at *
  cases r with
  | ok x w' =>
    cases x <;> simp only [Oper.upon] at h ⊢
    case value v => exact hn _ _ h
    case skip => exact hn _ _ h
    case enter f args =>
      refine h.mono ?_
      rintro e w'' ⟨v, rfl, hk⟩
      exact hn _ _ hk
  | halt x w' => exact h.elim
structure mm (new : List Nat) (η η' : bA) : Prop where
  grow : ∀ b, η.I b → η'.I b
  keep : ∀ b, η.I b → η'.w.heap[b]? = η.w.heap[b]?
  ref : ∀ k, k ∉ new → η'.ρ k = η.ρ k
theorem mm.le {new : List Nat} {η η' : bA} (h : mm new η η') {ks : Nat → Prop} (hk : ∀ k, ks k → k ∉ new) : Le ks η η' := ⟨h.grow, h.keep, fun k h1 => h.ref k (hk k h1)⟩
structure cg (P : Program) (c : cS) (o : Oper) (lk : Operand → ae) (need : List (Nat × bB)) (upd : List (Nat × Option bB)) (new : List Nat) (r : ae) : Prop where
  run : ∀ (η : bA) (ρo : Operand → Value) (H : cz), bZ c η H → (∀ x ∈ o.op.operands.toList, (lk x).p η (ρo x)) → (∀ k x, (k, x) ∈ need → H k = some x) →
    (∀ k, k ∈ new → H k = none ∧ ∀ j x, H j = some x → ¬ x.keys k) → (∀ x ∈ o.op.operands.toList, ∀ k, (lk x).keys k → k ∉ new) →
    dJ P o ρo η.w fun v w' => ∃ η', η'.w = w' ∧ mm new η η' ∧ bZ c η' (H.upds upd) ∧ r.p η' v
  keys : ∀ k, r.keys k → (∃ x ∈ o.op.operands.toList, (lk x).keys k) ∨ (∃ j x, (j, x) ∈ need ∧ x.keys k) ∨ k ∈ new ++ need.map (·.1)
  ukeys : ∀ j x, (j, some x) ∈ upd → ∀ k, x.keys k → (∃ y ∈ o.op.operands.toList, (lk y).keys k) ∨ (∃ j x, (j, x) ∈ need ∧ x.keys k) ∨ k ∈ new ++ need.map (·.1)
  dom : ∀ j x, (j, x) ∈ upd → (∃ y, (j, y) ∈ need) ∨ j ∈ new
  sel : ∀ cs b, o.op ≠ .select cs b
abbrev dB : ae := fm undef
def bD (ops : Array Oper) (sl : Nat → ae) (o : Oper) (b : Bool) : Prop :=
  match o.guard with
  | none => b = true
  | some (j, want) => ∃ d, (ops[j]?).bind (·.dst) = some d ∧ ((∃ x, sl d = aa x ∧ b = (x == want)) ∨ (sl d = dB ∧ b = false))
theorem bD.wanted {ops : Array Oper} {sl : Nat → ae} {o : Oper} {b : Bool} (h : bD ops sl o b) {η : bA} {tmps : Array Value} (hs : ∀ t, (sl t).p η (tmps.getD t undef)) :
    Region.wanted o (yielded ops tmps) = b := by
  unfold bD at h
  unfold Region.wanted
  cases hg : o.guard with
  | none => simp only [hg] at h; simp [h]
  | some jw =>
    obtain ⟨j, want⟩ := jw
    simp only [hg] at h ⊢
    obtain ⟨d, hd, ⟨x, hx, rfl⟩ | ⟨hx, rfl⟩⟩ := h
    rotate_left
    · have h1 := hs d
      rw [hx] at h1
      have h2 : tmps.getD d undef = undef := h1
      unfold yielded
      rw [hd]
      rw [Array.getD_eq_getD_getElem?] at h2
      cases ht : tmps[d]? with
      | none => simp [ht]
      | some u => rw [ht] at h2; simp at h2; subst h2; simp [ht, undef]
    have h1 := hs d
    rw [hx] at h1
    have h2 : tmps.getD d undef = .bool x := h1
    have h3 : tmps[d]? = some (.bool x) := by
      rw [Array.getD_eq_getD_getElem?] at h2
      cases ht : tmps[d]? with
      | none => rw [ht] at h2; simp [undef] at h2
      | some u => rw [ht] at h2; simp at h2; rw [h2]
    unfold yielded
    rw [hd]
    simp [h3]
structure cB where
  rd : List Nat
  wr : List Nat
inductive iL (P : Program) (c : cS) (ops : Array Oper) (o : Oper) : cB → St → St → Prop
  | run {s : St} {need : List (Nat × bB)} {upd : List (Nat × Option bB)} {new : List Nat} {r : ae} {N1 : Nat} (hg : bD ops s.sl o true) (h : cg P c o (bi s.sl) need upd new r)
      (hn : ∀ k x, (k, x) ∈ need → s.H k = some x) (hnew : ∀ k, k ∈ new → s.N ≤ k ∧ k < N1) (hN : s.N ≤ N1) :
      iL P c ops o ⟨need.map (·.1), upd.map (·.1)⟩ s ⟨bm s.sl o.dst r, s.H.upds upd, N1⟩
  | skip {s : St} (hg : bD ops s.sl o false) : iL P c ops o ⟨[], []⟩ s ⟨bm s.sl o.dst dB, s.H, s.N⟩
inductive Tr (P : Program) (c : cS) (ops : Array Oper) : List Oper → List cB → St → St → Prop
  | nil {s : St} : Tr P c ops [] [] s s
  | cons {o : Oper} {rest : List Oper} {f : cB} {fs : List cB} {s s1 s2 : St} (h : iL P c ops o f s s1) (t : Tr P c ops rest fs s1 s2) : Tr P c ops (o :: rest) (f :: fs) s s2
theorem kr {k j : Nat} (h : k ≠ j) : Nat.beq k j = false := by
  cases hb : Nat.beq k j
  · rfl
  · exact absurd (Nat.eq_of_beq_eq_true hb) h
theorem C4 {H : cz} {l : List (Nat × Option bB)} {k : Nat} (h : k ∉ l.map (·.1)) : H.upds l k = H k := by
  induction l with
  | nil => rfl
  | cons x r ih =>
    obtain ⟨j, y⟩ := x
    simp only [List.map_cons, List.mem_cons, not_or] at h
    have hb : Nat.beq k j = false := kr h.1
    simp [cz.upds, cz.upd, hb, ih h.2]
theorem su {H : cz} {l : List (Nat × Option bB)} {k : Nat} {x : bB} (h : H.upds l k = some x) : (k, some x) ∈ l ∨ H k = some x := by
  induction l with
  | nil => exact .inr h
  | cons y r ih =>
    obtain ⟨j, y⟩ := y
    simp only [cz.upds, cz.upd] at h
    by_cases hb : k = j
    · subst hb; simp at h; subst h; exact .inl (by simp)
    · have hb' : Nat.beq k j = false := kr hb
      simp only [hb', cond_false] at h
      rcases ih h with h | h
      · exact .inl (by simp [h])
      · exact .inr h
theorem wQ {sl : Nat → ae} {d : Option Nat} {A : ae} {t k : Nat} (h : (bm sl d A t).keys k) : A.keys k ∨ (sl t).keys k := by
  unfold bm at h
  cases d with
  | none => exact .inr h
  | some d =>
    simp only at h
    cases hb : Nat.beq t d <;> simp only [hb, cond_true, cond_false] at h
    · exact .inr h
    · exact .inl h
theorem jv.step {P : Program} {c : cS} {ops : Array Oper} {o : Oper} {f : cB} {s s1 : St} (h : iL P c ops o f s s1) (hb : jv s) : jv s1 ∧ s.N ≤ s1.N := by
  cases h with
  | skip hg =>
    refine ⟨⟨fun t k hk => ?_, hb.dom, hb.cont⟩, Nat.le_refl _⟩
    rcases wQ hk with h | h
    · exact h.elim
    · exact hb.sl t k h
  | @run _ need upd new r N1 hg h hn hnew hN =>
    have op : ∀ x ∈ o.op.operands.toList, ∀ k, (bi s.sl x).keys k → k < s.N := by
      intro x _ k hk
      cases x with
      | tmp t => exact hb.sl t k hk
      | const v => exact absurd hk (sW v k)
      | global g => exact hk.elim
      | func f => exact absurd hk (gu k)
    have rk : ∀ k, ((∃ x ∈ o.op.operands.toList, (bi s.sl x).keys k) ∨ (∃ j x, (j, x) ∈ need ∧ x.keys k) ∨ k ∈ new ++ need.map (·.1)) → k < N1 := by
      rintro k (⟨x, hx, hk⟩ | ⟨j, x, hx, hk⟩ | hk)
      · exact Nat.lt_of_lt_of_le (op x hx k hk) hN
      · exact Nat.lt_of_lt_of_le (hb.cont j x k (hn j x hx) hk) hN
      · rcases List.mem_append.1 hk with hk | hk
        · exact (hnew k hk).2
        · obtain ⟨⟨j, x⟩, hm, rfl⟩ := List.mem_map.1 hk
          exact Nat.lt_of_lt_of_le (hb.dom j x (hn j x hm)) hN
    refine ⟨⟨fun t k hk => ?_, fun k x hk => ?_, fun k x j hk hj => ?_⟩, hN⟩
    · rcases wQ hk with h1 | h1
      · exact rk k (h.keys k h1)
      · exact Nat.lt_of_lt_of_le (hb.sl t k h1) hN
    · rcases su hk with h1 | h1
      · rcases h.dom _ _ h1 with ⟨y, hy⟩ | h2
        · exact Nat.lt_of_lt_of_le (hb.dom k y (hn k y hy)) hN
        · exact (hnew k h2).2
      · exact Nat.lt_of_lt_of_le (hb.dom k x h1) hN
    · rcases su hk with h1 | h1
      · exact rk j (h.ukeys _ _ h1 j hj)
      · exact Nat.lt_of_lt_of_le (hb.cont k x j h1 hj) hN
theorem wV {sl : Nat → ae} {η' : bA} {a : Act} {d : Option Nat} {r : ae} {v : Value} (hs : ∀ t, (sl t).p η' (a.tmps.getD t undef)) (hr : r.p η' v)
    (hd : ∀ t, d = some t → t < a.tmps.size) : ∀ t, (bm sl d r t).p η' ((a.put d v).tmps.getD t undef) := by
  intro t
  cases d with
  | none => exact hs t
  | some d =>
    have hlt := hd d rfl
    simp only [bm, Act.put]
    cases hb : Nat.beq t d
    · have hne : d ≠ t := fun e => by subst e; simp at hb
      simp only [cond_false]
      rw [Array.getD_eq_getD_getElem?, Array.getElem?_setIfInBounds_ne hne, ← Array.getD_eq_getD_getElem?]
      exact hs t
    · have : t = d := Nat.eq_of_beq_eq_true hb
      subst this
      simp only [cond_true]
      rw [Array.getD_eq_getD_getElem?, Array.getElem?_setIfInBounds_self_of_lt hlt]
      exact hr
theorem Act.put_size (a : Act) (d : Option Nat) (v : Value) : (a.put d v).tmps.size = a.tmps.size := by cases d <;> simp [Act.put]
theorem Act.put_def (a : Act) (d : Option Nat) (v : Value) : (a.put d v).defers = a.defers := by cases d <;> rfl
def jy (n : Nat) (ops : List Oper) : Bool := ops.all fun o => match o.dst with | some d => Nat.blt d n | none => true
theorem Cq {n : Nat} {ops : List Oper} (h : jy n ops = true) {o : Oper} (ho : o ∈ ops) : ∀ t, o.dst = some t → t < n := by
  intro t ht
  have := List.all_eq_true.1 h o ho
  simp only [ht] at this
  exact of_decide_eq_true (by simpa [Nat.blt_eq] using this)
theorem Tr.wp {P : Program} {c : cS} {ops : Array Oper} {Q : Exit → Act → World → Prop} {l : List Oper} {fs : List cB} {s s' : St} (h : Tr P c ops l fs s s') (hd : jy c.n l = true) :
    ∀ {η : bA} {a : Act}, fy c s η a → (∀ η' a', fy c s' η' a' → Q .normal a' η'.w) → wpList P ops Q l a η.w := by
  induction h with
  | nil => intro η a hr hq; exact hq η a hr
  | @cons o rest f fs s s1 s2 h1 _ ih =>
    intro η a hr hq
    have hd1 : ∀ t, o.dst = some t → t < a.tmps.size := by rw [hr.size]; exact Cq hd (by simp)
    have hd2 : jy c.n rest = true := by simp only [jy, List.all_cons, Bool.and_eq_true] at hd; exact hd.2
    have hb1 := jv.step h1 hr.below
    unfold wpList
    cases h1 with
    | skip hg =>
      rw [hg.wanted hr.slots]
      simp only [Bool.false_eq_true, if_false]
      refine ih hd2 (η := η) ⟨wV hr.slots (r := dB) rfl hd1, hr.heap, hb1.1, ?_, ?_, hr.ref, Nat.le_trans hr.nle hb1.2⟩ hq
      · rw [Act.put_def]; exact hr.defers
      · rw [Act.put_size]; exact hr.size
    | @run _ need upd new r N1 hg hop hn hnew hN =>
      rw [hg.wanted hr.slots]
      simp only [if_true]
      left
      have opk : ∀ x ∈ o.op.operands.toList, ∀ k, (bi s.sl x).keys k → k ∉ new := by
        intro x _ k hk hkn
        have : k < s.N := by
          cases x with
          | tmp t => exact hr.below.sl t k hk
          | const v => exact absurd hk (sW v k)
          | global g => exact hk.elim
          | func f => exact absurd hk (gu k)
        exact absurd (hnew k hkn).1 (Nat.not_le.2 this)
      refine dJ.wp (hop.run η a.eval s.H hr.heap (fun x _ => l8 hr.slots x) hn (fun k hk => ⟨?_, fun j x hj hk' => ?_⟩) opk) ?_
      · cases hx : s.H k with
        | none => rfl
        | some x => exact absurd (hnew k hk).1 (Nat.not_le.2 (hr.below.dom k x hx))
      · exact absurd (hnew k hk).1 (Nat.not_le.2 (hr.below.cont j x k hj hk'))
      · rintro v w' ⟨η', rfl, hst, hheap, hrv⟩
        have hs' : ∀ t, (s.sl t).p η' (a.tmps.getD t undef) := fun t => (s.sl t).mono (hst.le fun k hk hkn => absurd (hnew k hkn).1 (Nat.not_le.2 (hr.below.sl t k hk))) (hr.slots t)
        refine ih hd2 ⟨wV hs' hrv hd1, hheap, hb1.1, ?_, ?_, fun k hk => (hst.ref k fun hkn => absurd (hnew k hkn).1 (by have := hr.nle; omega)).trans (hr.ref k hk), Nat.le_trans hr.nle hb1.2⟩ hq
        · rw [Act.put_def]; exact hr.defers
        · rw [Act.put_size]; exact hr.size
theorem Ky {P : Program} {c : cS} {Q : Exit → Act → World → Prop} {l : List Oper} {id : Nat} {fs : List cB} {s s' : St} (h : Tr P c l.toArray l fs s s') (hd : jy c.n l = true)
    {η : bA} {a : Act} (hr : fy c s η a) (hq : ∀ η' a', fy c s' η' a' → Q .normal a' η'.w) : (Code.region id l.toArray false).wp P Q a η.w :=
  wp_region_lit (h.wp hd hr hq)
end Go.Proofs.YtngimdmkomkeoaaGreat.K
