/- Contracts of functions; the judgement that a stack of code, from an abstract state, comes to what a pure expression says; loops. -/
import Derived.Test.YtngimdmkomkeoaaGreatCoreC
set_option linter.unusedVariables false
set_option linter.unusedSimpArgs false
namespace Go.Proofs.YtngimdmkomkeoaaGreat.K
open Go.RowKit
structure Ext (η : Env) (I' : Nat → Prop) (w' : World) : Prop where
  size : η.w.heap.size ≤ w'.heap.size
  keep : ∀ b, b < η.w.heap.size → w'.heap[b]? = η.w.heap[b]?
  grow : ∀ b, η.I b → I' b
  new : ∀ b, I' b → η.I b ∨ η.w.heap.size ≤ b
  lt : ∀ b, I' b → b < w'.heap.size
  os : w'.os = η.w.os
  tape : w'.tape = η.w.tape
  output : w'.output = η.w.output
def FnP (P : Program) (f : FuncId) (args : List Asn) (r : Asn) : Prop :=
  (∀ k, ¬ r.keys k) ∧ ∀ (η : Env) (vals : Array Value), (∀ b, η.I b → b < η.w.heap.size) → z5a η args vals.toList →
    Calls P f vals η.w fun e w' => ∃ v I', e = .returned v ∧ Ext η I' w' ∧ r.p ⟨w', I', η.ρ⟩ v
def Goes (P : Program) (f : FuncId) (R : Value → World → Prop) (k : List Item) (a : Act) (w : World) : Prop :=
  ∀ (b : Frame) (cs : List Frame), b.fn = f → b.kind = .normal → ∃ v w' fr, R v w' ∧ Steps P (lone (b.at a k) cs w) (lone fr cs w') ∧ fr.fn = f ∧ fr.leaving P w' (.returned v)
theorem Goes.calls {P : Program} {f : FuncId} {fn : Func} {c : Code} {args : Array Value} {w : World} {R : Value → World → Prop} (hf : P.funcs[f]? = some fn) (hb : fn.body = some c)
    (h : Goes P f R [.code c] { tmps := args ++ Array.replicate (fn.ntmps - args.size) undef, defers := [] } w) : Calls P f args w fun e w' => ∃ v, e = .returned v ∧ R v w' := by
  intro cs
  let b : Frame := { (default : Frame) with fn := f, kind := .normal }
  have henter : Frame.enter P f args .normal = b.at { tmps := args ++ Array.replicate (fn.ntmps - args.size) undef, defers := [] } [.code c] := by
    simp [Frame.enter, Frame.at, hf, hb, b]
  obtain ⟨v, w', fr, hR, hs, hfn, hl⟩ := h b cs rfl rfl
  rw [← henter] at hs
  exact ⟨.returned v, w', fr, ⟨v, rfl, hR⟩, hs, hfn, hl⟩
theorem Goes.head {P : Program} {f : FuncId} {R : Value → World → Prop} {k k' : List Item} {a : Act} {w : World}
    (hs : ∀ (b : Frame) (cs : List Frame), step P (lone (b.at a k) cs w) = .next (lone (b.at a k') cs w)) (h : Goes P f R k' a w) : Goes P f R k a w := by
  intro b cs hb hk
  obtain ⟨v, w', fr, hR, hst, hfn, hl⟩ := h b cs hb hk
  exact ⟨v, w', fr, hR, .head (hs b cs) hst, hfn, hl⟩
theorem Goes.wp {P : Program} {f : FuncId} {R : Value → World → Prop} {k : List Item} {c : Code} {a : Act} {w : World} (h : c.wp P (fun e a' w' => e = .normal ∧ Goes P f R k a' w') a w) :
    Goes P f R (.code c :: k) a w := by
  intro b cs hb hk
  obtain ⟨e, a', w', ⟨rfl, hg⟩, harr⟩ := h b k cs
  obtain ⟨v, w'', fr, hR, hst, hfn, hl⟩ := hg b cs hb hk
  exact ⟨v, w'', fr, hR, Steps.trans harr hst, hfn, hl⟩
theorem Goes.ret {P : Program} {f : FuncId} {fn : Func} {R : Value → World → Prop} {k : List Item} {a : Act} {w : World} {v : Value} (hf : P.funcs[f]? = some fn) (hr : (results fn a.tmps).run P w = .ok v w) (hd : a.defers = [])
    (hR : R v w) : Goes P f R (.code .ret :: k) a w := by
  intro b cs hb hk
  exact ⟨v, w, _, hR, .one step_ret, hb, rfl, hd, hk, fn, by rw [← hf]; exact congrArg (P.funcs[·]?) hb, hr⟩
theorem Goes.end {P : Program} {f : FuncId} {fn : Func} {R : Value → World → Prop} {a : Act} {w : World} {v : Value} (hf : P.funcs[f]? = some fn) (hr : (results fn a.tmps).run P w = .ok v w) (hd : a.defers = [])
    (hR : R v w) : Goes P f R [] a w := by
  intro b cs hb hk
  exact ⟨v, w, _, hR, .one step_end, hb, rfl, hd, hk, fn, by rw [← hf]; exact congrArg (P.funcs[·]?) hb, hr⟩
structure Cx (P : Program) (fn : Func) (n N0 : Nat) (Y : Type) where
  f : FuncId
  ρ0 : Nat → Value
  w0 : World
  X : Nat → Prop
  I0 : Nat → Prop
  Ψ : Y → Env → Value → Prop
  hf : P.funcs[f]? = some fn
  hm : P.follows .mixedOrders = true
abbrev Cx.P {P : Program} {fn : Func} {n N0 : Nat} {Y : Type} (_ : Cx P fn n N0 Y) : Program := P
abbrev Cx.fn {P : Program} {fn : Func} {n N0 : Nat} {Y : Type} (_ : Cx P fn n N0 Y) : Func := fn
def Cx.c {P : Program} {fn : Func} {n N0 : Nat} {Y : Type} (X : Cx P fn n N0 Y) : Ctx := ⟨X.w0, X.X, X.I0, n, N0, X.ρ0⟩
def Goal {P : Program} {fn : Func} {n N0 : Nat} {Y : Type} (X : Cx P fn n N0 Y) (y : Y) (k : List Item) (s : St) : Prop :=
  ∀ η a, Rel X.c s η a → Goes X.P X.f (fun v w' => ∃ η', η'.w = w' ∧ X.Ψ y η' v) k a η.w
def J {P : Program} {fn : Func} {n N0 : Nat} {Y Z : Type} (X : Cx P fn n N0 Y) (e : Option Z) (g : Z → Option Y) (k : List Item) (s : St) : Prop := ∀ y, e.bind g = some y → Goal X y k s
section
variable {P : Program} {fn : Func} {n N0 : Nat} {Y Z V : Type} {X : Cx P fn n N0 Y} {e e1 e2 : Option Z} {g : Z → Option Y} {k : List Item} {s : St}
theorem J_seq {x y : Code} (h : J X e g (.code x :: .code y :: k) s) : J X e g (.code (.seq x y) :: k) s := fun r hr η a hrel => (h r hr η a hrel).head fun _ _ => step_seq
theorem z0n {id : Nat} {x : Code} (h : J X e g (.code x :: .inBlock id :: k) s) : J X e g (.code (.block id x) :: k) s := fun r hr η a hrel => (h r hr η a hrel).head fun _ _ => step_block
theorem z0s {id : Nat} (h : J X e g k s) : J X e g (.inBlock id :: k) s := fun r hr η a hrel => (h r hr η a hrel).head fun _ _ => step_inBlock
theorem z0e (h : J X e g k s) : J X e g (.code .skip :: k) s := fun r hr η a hrel => (h r hr η a hrel).head fun _ _ => step_skip
theorem z1j {id : Nat} {k' : List Item} (hk : exitTo id k = some k') (h : J X e g k' s) : J X e g (.code (.exit id) :: k) s := fun r hr η a hrel => (h r hr η a hrel).head fun _ _ => step_exit hk
theorem z1v {o : Operand} {x y : Code} {b : Bool} (hc : lkp s.sl o = z00 b) (ht : b = true → J X e1 g (.code x :: k) s) (hf : b = false → J X e2 g (.code y :: k) s) :
    J X (if b = true then e1 else e2) g (.code (.cond o x y) :: k) s := by
  intro r hr η a hrel
  have h1 := lkp_p (a := a) hrel.slots o
  rw [hc] at h1
  have h2 : a.eval o = .bool b := h1
  cases b with
  | true => exact (ht rfl r (by simpa using hr) η a hrel).head fun _ _ => step_cond h2
  | false => exact (hf rfl r (by simpa using hr) η a hrel).head fun _ _ => step_cond h2
theorem z09 {o : Operand} {x y : Code} {p : Prop} [Decidable p] (hc : lkp s.sl o = z00 (decide p)) (ht : p → J X e1 g (.code x :: k) s) (hf : ¬ p → J X e2 g (.code y :: k) s) :
    J X (if p then e1 else e2) g (.code (.cond o x y) :: k) s := by
  by_cases hp : p
  · rw [if_pos hp]
    intro r hr η a hrel
    have h1 := lkp_p (a := a) hrel.slots o
    rw [hc] at h1
    have h2 : a.eval o = .bool true := by rw [decide_eq_true hp] at h1; exact h1
    exact (ht hp r hr η a hrel).head fun _ _ => step_cond h2
  · rw [if_neg hp]
    intro r hr η a hrel
    have h1 := lkp_p (a := a) hrel.slots o
    rw [hc] at h1
    have h2 : a.eval o = .bool false := by rw [decide_eq_false hp] at h1; exact h1
    exact (hf hp r hr η a hrel).head fun _ _ => step_cond h2
theorem J_cond_t {o : Operand} {x y : Code} (hc : lkp s.sl o = z00 true) (ht : J X e g (.code x :: k) s) : J X e g (.code (.cond o x y) :: k) s := by
  intro r hr η a hrel
  have h1 := lkp_p (a := a) hrel.slots o
  rw [hc] at h1
  exact (ht r hr η a hrel).head fun _ _ => step_cond (h1 : a.eval o = .bool true)
theorem J_cond_f {o : Operand} {x y : Code} (hc : lkp s.sl o = z00 false) (ht : J X e g (.code y :: k) s) : J X e g (.code (.cond o x y) :: k) s := by
  intro r hr η a hrel
  have h1 := lkp_p (a := a) hrel.slots o
  rw [hc] at h1
  exact (ht r hr η a hrel).head fun _ _ => step_cond (h1 : a.eval o = .bool false)
end
def Weak (s s' : St) : Prop := ∀ (c : Ctx) (η : Env) (a : Act), Rel c s η a → ∃ η', η'.w = η.w ∧ Rel c s' η' a
theorem Goal.weak {P : Program} {fn : Func} {n N0 : Nat} {Y : Type} {X : Cx P fn n N0 Y} {y : Y} {k : List Item} {s s' : St} (hw : Weak s s') (h : Goal X y k s') : Goal X y k s := by
  intro η a hr
  obtain ⟨η', e, hr'⟩ := hw X.c η a hr
  rw [← e]
  exact h η' a hr'
theorem J_weak {P : Program} {fn : Func} {n N0 : Nat} {Y Z : Type} {X : Cx P fn n N0 Y} {e : Option Z} {g : Z → Option Y} {k : List Item} {s s' : St} (hw : Weak s s') (h : J X e g k s') : J X e g k s := fun r hr => (h r hr).weak hw
noncomputable def Lim {β : Type} (u : Nat → Option β) : Option β :=
  match u 4096 with
  | some b => some b
  | none => open Classical in if h : ∃ b, ∃ n, u n = some b then some h.choose else none
theorem Lim_some {β : Type} {u : Nat → Option β} {b : β} (h : Lim u = some b) : ∃ n, u n = some b := by
  unfold Lim at h
  split at h
  · rename_i hx; exact ⟨4096, hx.trans h⟩
  · split at h
    · rename_i hx; rw [← Option.some.inj h]; exact hx.choose_spec
    · cases h
theorem Lim_any {β : Type} {u : Nat → Option β} {n : Nat} {b : β} (h : u n = some b) : ∃ b, Lim u = some b := by
  have hx : ∃ b, ∃ n, u n = some b := ⟨b, n, h⟩
  unfold Lim
  split
  · exact ⟨_, rfl⟩
  · rw [dif_pos hx]; exact ⟨_, rfl⟩
theorem Lim_eq {β : Type} {u : Nat → Option β} (hm : ∀ n b, u n = some b → u (n + 1) = some b) {n : Nat} {b : β} (h : u n = some b) : Lim u = some b := by
  have up : ∀ d n b, u n = some b → u (n + d) = some b := by
    intro d
    induction d with
    | zero => intro n b h; exact h
    | succ d ih => intro n b h; exact hm _ _ (ih n b h)
  obtain ⟨c, hc⟩ := Lim_any h
  obtain ⟨m, hmm⟩ := Lim_some hc
  have h1 := up m n b h
  have h2 := up n m _ hmm
  rw [Nat.add_comm] at h2
  rw [h1] at h2
  rw [hc, ← h2]
def iterN {σ β : Type} (F : σ → Option (σ ⊕ β)) : Nat → σ → Option β
  | 0, _ => none
  | n + 1, x => (F x).bind fun z => match z with | .inl x' => iterN F n x' | .inr b => some b
theorem iterN_mono {σ β : Type} {F : σ → Option (σ ⊕ β)} : ∀ (n : Nat) (x : σ) (b : β), iterN F n x = some b → iterN F (n + 1) x = some b
  | 0, x, b, h => by simp [iterN] at h
  | n + 1, x, b, h => by
    rw [iterN] at h ⊢
    cases hF : F x with
    | none => rw [hF] at h; simp at h
    | some z =>
      rw [hF] at h
      cases z with
      | inl x' => exact iterN_mono n x' b h
      | inr c => exact h
noncomputable def z2l {σ β : Type} (F : σ → Option (σ ⊕ β)) (x : σ) : Option β := Lim fun n => iterN F n x
theorem Iter_of {σ β : Type} {F : σ → Option (σ ⊕ β)} {n : Nat} {x : σ} {b : β} (h : iterN F n x = some b) : z2l F x = some b := Lim_eq (fun n b => iterN_mono n x b) h
theorem z8g {σ β : Type} {F : σ → Option (σ ⊕ β)} {x : σ} {b : β} (h : F x = some (.inr b)) : z2l F x = some b := Iter_of (n := 1) (by simp [iterN, h])
theorem Iter_go {σ β : Type} {F : σ → Option (σ ⊕ β)} {x x' : σ} (h : F x = some (.inl x')) : z2l F x = z2l F x' := by
  cases hx : z2l F x' with
  | some b =>
    obtain ⟨n, hn⟩ := Lim_some hx
    exact Iter_of (n := n + 1) (by simpa [iterN, h] using hn)
  | none =>
    cases hy : z2l F x with
    | none => rfl
    | some b =>
      obtain ⟨n, hn⟩ := Lim_some hy
      cases n with
      | zero => simp [iterN] at hn
      | succ n =>
        simp only [iterN, h, Option.bind_some] at hn
        rw [Iter_of hn] at hx; cases hx
theorem J_loop {P : Program} {fn : Func} {n N0 : Nat} {Y Z σ β : Type} {X : Cx P fn n N0 Y} {F : σ → Option (σ ⊕ β)} {G : β → Option Z} {g : Z → Option Y} {body : Code} {k : List Item} (S : σ → St → Prop)
    (h : ∀ E : σ → Option Z, (∀ x s, S x s → J X (E x) g (.inLoop body :: k) s) → ∀ x s, S x s → J X (F x) (fun z => (match z with | .inl x => E x | .inr b => G b : Option Z).bind g) (.code body :: .inLoop body :: k) s)
    {x0 : σ} {s0 : St} (h0 : S x0 s0) : J X ((z2l F x0).bind G) g (.code (.loop body) :: k) s0 := by
  intro y hy η a hr
  have key : ∀ n x, ∀ y, ((iterN F n x).bind G).bind g = some y → ∀ s, S x s → Goal X y (.code body :: .inLoop body :: k) s := by
    intro n
    induction n with
    | zero => intro x y hy; simp [iterN] at hy
    | succ n ih =>
      intro x y hy s hs
      refine h (fun x => (iterN F n x).bind G) (fun x s hs y hy η a hr => ?_) x s hs y ?_
      · exact (ih x y hy s hs η a hr).head fun _ _ => step_inLoop
      · rw [iterN] at hy
        cases hF : F x with
        | none => rw [hF] at hy; simp at hy
        | some z =>
          rw [hF] at hy
          cases z with
          | inl x' => simpa using hy
          | inr b => simpa using hy
  cases hI : z2l F x0 with
  | none => rw [hI] at hy; simp at hy
  | some b =>
    obtain ⟨n, hn⟩ := Lim_some hI
    rw [hI] at hy
    have := key n x0 y (by rw [hn]; exact hy) s0 h0
    exact (this η a hr).head fun _ _ => step_loop
def RT {P : Program} {fn : Func} {n N0 : Nat} {Y Z : Type} (X : Cx P fn n N0 Y) (draw : Bool) (ops l : List Oper) (e : Option Z) (g : Z → Option Y) (rest : List Oper) (acc : List Foot) (s : St) (k : List Item) : Prop :=
  ∀ y, e.bind g = some y → ∃ fs s', Tr X.P X.c ops.toArray rest fs s s' ∧ (draw = true → drawOk n l (acc.reverse ++ fs) = true) ∧ Goal X y k s'
section
variable {P : Program} {fn : Func} {n N0 : Nat} {Y Z V : Type} {X : Cx P fn n N0 Y} {e e1 e2 : Option Z} {g : Z → Option Y} {k : List Item} {s : St} {draw : Bool} {ops l rest : List Oper} {acc : List Foot} {o : Oper}
theorem J_region {id : Nat} (hd : dstsOk n ops = true) (h : RT X false ops ops e g ops [] s k) : J X e g (.code (.region id ops.toArray false) :: k) s := by
  intro y hy η a hr
  obtain ⟨fs, s', ht, _, hg⟩ := h y hy
  exact Goes.wp (region_text ht hd hr fun η' a' hr' => ⟨rfl, hg η' a' hr'⟩)
theorem z2g {id : Nat} (h : RT X true ops ops e g ops [] s k) : J X e g (.code (.region id ops.toArray true) :: k) s := by
  intro y hy η a hr
  obtain ⟨fs, s', ht, hk, hg⟩ := h y hy
  exact Goes.wp (region_draw X.hm ht (show drawOk n ops fs = true by simpa using hk rfl) hr fun η' a' hr' => ⟨rfl, hg η' a' hr'⟩)
theorem R_nil (hk : draw = true → drawOk n l acc.reverse = true) (h : J X e g k s) : RT X draw ops l e g [] acc s k := fun y hy => ⟨[], s, .nil, fun hd => by simpa using hk hd, h y hy⟩
theorem R_run {need : List (Nat × z5b)} {upd : List (Nat × Option z5b)} {new : List Nat} {r : Asn} {N1 : Nat} (hr : z2o X.P X.c o (lkp s.sl) need upd new r) (hg : z1k ops.toArray s.sl o true)
    (hn : ∀ k x, (k, x) ∈ need → s.H k = some x) (hnew : ∀ k, k ∈ new → s.N ≤ k ∧ k < N1) (hN : s.N ≤ N1)
    (h : RT X draw ops l e g rest (⟨need.map (·.1), upd.map (·.1)⟩ :: acc) ⟨z5y s.sl o.dst r, s.H.upds upd, N1⟩ k) : RT X draw ops l e g (o :: rest) acc s k := by
  intro y hy
  obtain ⟨fs, s', ht, hk, hg'⟩ := h y hy
  exact ⟨_, s', .cons (.run hg hr hn hnew hN) ht, fun hd => by simpa using hk hd, hg'⟩
theorem z3f {r : Asn} (hr : z2o X.P X.c o (lkp s.sl) [] [] [] r) (hg : z1k ops.toArray s.sl o true) (h : RT X draw ops l e g rest (⟨[], []⟩ :: acc) ⟨z5y s.sl o.dst r, s.H, s.N⟩ k) :
    RT X draw ops l e g (o :: rest) acc s k :=
  R_run (N1 := s.N) hr hg (fun k x h => by simp at h) (fun k h => by simp at h) (Nat.le_refl _) h
theorem R_skip (hg : z1k ops.toArray s.sl o false) (h : RT X draw ops l e g rest (⟨[], []⟩ :: acc) ⟨z5y s.sl o.dst AUndef, s.H, s.N⟩ k) : RT X draw ops l e g (o :: rest) acc s k := by
  intro y hy
  obtain ⟨fs, s', ht, hk, hg'⟩ := h y hy
  exact ⟨_, s', .cons (.skip hg) ht, fun hd => by simpa using hk hd, hg'⟩
theorem z0d {u : Option V} {f : V → Option Z} (h : ∀ z, u = some z → RT X draw ops l (f z) g rest acc s k) : RT X draw ops l (u.bind f) g rest acc s k := by
  intro r hr
  cases hu : u with
  | none => rw [hu] at hr; simp at hr
  | some z => rw [hu] at hr; exact h z hu r (by simpa using hr)
theorem z1b {p : Prop} [Decidable p] (ht : p → RT X draw ops l e1 g rest acc s k) (hf : ¬ p → RT X draw ops l e2 g rest acc s k) : RT X draw ops l (if p then e1 else e2) g rest acc s k := by
  by_cases hp : p
  · rw [if_pos hp]; exact ht hp
  · rw [if_neg hp]; exact hf hp
theorem z0u : RT X draw ops l none g rest acc s k := fun r hr => by simp at hr
end
def initS (args : List Asn) : St := ⟨fun t => args.getD t ATop, fun _ => none, 0⟩
theorem z2h.init {η : Env} {n : Nat} (hI : ∀ b, η.I b → b < η.w.heap.size) : z2h ⟨η.w, fun _ => False, η.I, n, 0, η.ρ⟩ η (fun _ => none) where
  holds := fun k x h => by cases h
  own := fun k x b h => by cases h
  apart := fun k k' x x' b h => by cases h
  lt := hI
  new := fun b hb => .inl hb
  old := fun b hb => hb
  size := Nat.le_refl _
  keep := fun _ _ _ => rfl
  os := rfl
  tape := rfl
  output := rfl
theorem FnP.of {P : Program} (hm : P.follows .mixedOrders = true) {f : FuncId} {fn : Func} {c : Code} (hf : P.funcs[f]? = some fn) (hb : fn.body = some c) {n : Nat} (hn : fn.ntmps = n) {args : List Asn} {Y : Type} {e : Option Y} {y : Y} (rr : Y → Asn)
    (ha : ∀ t k, ¬ (args.getD t ATop).keys k) (hrk : ∀ k, ¬ (rr y).keys k) (hl : Nat.ble args.length n = true) (he : e = some y)
    (h : ∀ X : Cx P fn n 0 Y, (∀ z η v H, z2h X.c η H → (rr z).p η v → X.Ψ z η v) → J X e some [.code c] (initS args)) : FnP P f args (rr y) := by
  refine ⟨hrk, fun η vals hI hv => ?_⟩
  let X : Cx P fn n 0 Y := { f := f, ρ0 := η.ρ, w0 := η.w, X := fun _ => False, I0 := η.I, Ψ := fun z η' v => ∃ H, z2h ⟨η.w, fun _ => False, η.I, n, 0, η.ρ⟩ η' H ∧ (rr z).p η' v, hf := hf, hm := hm }
  have hj := h X (fun z η v H h1 h2 => ⟨H, h1, h2⟩) y (by rw [he]; rfl)
  have hlen := hv.length
  have hln : args.length ≤ n := of_decide_eq_true (by simpa [Nat.ble_eq] using hl)
  have hgo := hj η { tmps := vals ++ Array.replicate (fn.ntmps - vals.size) undef, defers := [] } ?_
  · refine (Goes.calls hf hb hgo).mono ?_
    rintro e w' ⟨v, rfl, η', rfl, H, hH, hp⟩
    refine ⟨v, η'.I, rfl, ⟨hH.size, fun b hb => hH.keep b hb id, hH.old, fun b hb => ?_, hH.lt, hH.os, hH.tape, hH.output⟩, ?_⟩
    · rcases hH.new b hb with h | h | h
      · exact .inl h
      · exact .inr h
      · exact h.elim
    · exact (rr y).mono (η := η') ⟨fun _ h => h, fun _ _ => rfl, fun k hk => absurd hk (hrk k)⟩ hp
  · have hsz : args.length = vals.size := by simpa using hlen
    refine ⟨fun t => ?_, z2h.init hI, ⟨fun t k hk => absurd hk (ha t k), fun k x h => (by cases h), fun k x j h => (by cases h)⟩, rfl, ?_, fun k hk => absurd hk (Nat.not_lt_zero k), Nat.zero_le _⟩
    · show (args.getD t ATop).p η _
      cases hA : args[t]? with
      | none => simp only [List.getD, hA, Option.getD_none]; trivial
      | some A =>
        obtain ⟨v, h1, h2⟩ := hv.get t A hA
        have hlt : t < vals.size := by have := (List.getElem?_eq_some_iff.1 hA).1; omega
        have : (vals ++ Array.replicate (fn.ntmps - vals.size) undef).getD t undef = v := by
          have h3 : vals[t]? = some v := by simpa using h1
          rw [Array.getD_eq_getD_getElem?, Array.getElem?_append_left hlt, h3]; rfl
        rw [this]
        simp only [List.getD, hA, Option.getD_some]; exact h2
    · simp only [Array.size_append, Array.size_replicate]
      show _ = n
      omega
def ResIs {P : Program} {fn : Func} {n N0 : Nat} {Y : Type} (X : Cx P fn n N0 Y) (s : St) (A : Asn) : Prop := ∀ η a, Rel X.c s η a → ∃ v, (results X.fn a.tmps).run X.P η.w = .ok v η.w ∧ A.p η v
theorem z18 {P : Program} {fn : Func} {n N0 : Nat} {Y : Type} {X : Cx P fn n N0 Y} {s : St} {t : Nat} (h : fn.results = #[.tmp t]) : ResIs X s (s.sl t) := fun η a hr => ⟨_, results_tmp h _ _ _, hr.slots t⟩
theorem J_ret {P : Program} {fn : Func} {n N0 : Nat} {Y : Type} {X : Cx P fn n N0 Y} {Z : Type} {e : Option Z} {g : Z → Option Y} {k : List Item} {s : St} {A : Asn} {rr : Y → Asn} (hΨ : ∀ z η v H, z2h X.c η H → (rr z).p η v → X.Ψ z η v) (hres : ResIs X s A)
    (hA : ∀ y, e.bind g = some y → A = rr y) : J X e g (.code .ret :: k) s := by
  intro y hy η a hr
  obtain ⟨v, h1, h2⟩ := hres η a hr
  exact Goes.ret X.hf h1 hr.defers ⟨η, rfl, hΨ y η v s.H hr.heap (hA y hy ▸ h2)⟩
end Go.Proofs.YtngimdmkomkeoaaGreat.K
