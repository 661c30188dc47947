import Derived.Test.YtngimdmkomkeoaaGreatCoreC
set_option linter.unusedVariables false
set_option linter.unusedSimpArgs false
namespace Go.Proofs.YtngimdmkomkeoaaGreat.K
open Go.RowKit
structure Ext (η : bA) (I' : Nat → Prop) (w' : World) : Prop where
  size : η.w.heap.size ≤ w'.heap.size
  keep : ∀ b, b < η.w.heap.size → w'.heap[b]? = η.w.heap[b]?
  grow : ∀ b, η.I b → I' b
  new : ∀ b, I' b → η.I b ∨ η.w.heap.size ≤ b
  lt : ∀ b, I' b → b < w'.heap.size
  os : w'.os = η.w.os
  tape : w'.tape = η.w.tape
  output : w'.output = η.w.output
def aB (P : Program) (f : FuncId) (args : List ae) (r : ae) : Prop :=
  (∀ k, ¬ r.keys k) ∧ ∀ (η : bA) (vals : Array Value), (∀ b, η.I b → b < η.w.heap.size) → bw η args vals.toList →
    Calls P f vals η.w fun e w' => ∃ v I', e = .returned v ∧ Ext η I' w' ∧ r.p ⟨w', I', η.ρ⟩ v
def eN (P : Program) (f : FuncId) (R : Value → World → Prop) (k : List Item) (a : Act) (w : World) : Prop :=
  ∀ (b : Frame) (cs : List Frame), b.fn = f → b.kind = .normal → ∃ v w' fr, R v w' ∧ Steps P (lone (b.at a k) cs w) (lone fr cs w') ∧ fr.fn = f ∧ fr.leaving P w' (.returned v)
theorem eN.calls {P : Program} {f : FuncId} {fn : Func} {c : Code} {args : Array Value} {w : World} {R : Value → World → Prop} (hf : P.funcs[f]? = some fn) (hb : fn.body = some c)
    (h : eN P f R [.code c] { tmps := args ++ Array.replicate (fn.ntmps - args.size) undef, defers := [] } w) : Calls P f args w fun e w' => ∃ v, e = .returned v ∧ R v w' := by
  intro cs
  let b : Frame := { (default : Frame) with fn := f, kind := .normal }
  have henter : Frame.enter P f args .normal = b.at { tmps := args ++ Array.replicate (fn.ntmps - args.size) undef, defers := [] } [.code c] := by
    simp [Frame.enter, Frame.at, hf, hb, b]
  obtain ⟨v, w', fr, hR, hs, hfn, hl⟩ := h b cs rfl rfl
  rw [← henter] at hs
  exact ⟨.returned v, w', fr, ⟨v, rfl, hR⟩, hs, hfn, hl⟩
theorem eN.head {P : Program} {f : FuncId} {R : Value → World → Prop} {k k' : List Item} {a : Act} {w : World}
    (hs : ∀ (b : Frame) (cs : List Frame), step P (lone (b.at a k) cs w) = .next (lone (b.at a k') cs w)) (h : eN P f R k' a w) : eN P f R k a w := by
  intro b cs hb hk
  obtain ⟨v, w', fr, hR, hst, hfn, hl⟩ := h b cs hb hk
  exact ⟨v, w', fr, hR, .head (hs b cs) hst, hfn, hl⟩
theorem eN.wp {P : Program} {f : FuncId} {R : Value → World → Prop} {k : List Item} {c : Code} {a : Act} {w : World} (h : c.wp P (fun e a' w' => e = .normal ∧ eN P f R k a' w') a w) :
    eN P f R (.code c :: k) a w := by
  intro b cs hb hk
  obtain ⟨e, a', w', ⟨rfl, hg⟩, harr⟩ := h b k cs
  obtain ⟨v, w'', fr, hR, hst, hfn, hl⟩ := hg b cs hb hk
  exact ⟨v, w'', fr, hR, Steps.trans harr hst, hfn, hl⟩
theorem eN.ret {P : Program} {f : FuncId} {fn : Func} {R : Value → World → Prop} {k : List Item} {a : Act} {w : World} {v : Value} (hf : P.funcs[f]? = some fn) (hr : (results fn a.tmps).run P w = .ok v w) (hd : a.defers = [])
    (hR : R v w) : eN P f R (.code .ret :: k) a w := by
  intro b cs hb hk
  exact ⟨v, w, _, hR, .one step_ret, hb, rfl, hd, hk, fn, by rw [← hf]; exact congrArg (P.funcs[·]?) hb, hr⟩
theorem eN.end {P : Program} {f : FuncId} {fn : Func} {R : Value → World → Prop} {a : Act} {w : World} {v : Value} (hf : P.funcs[f]? = some fn) (hr : (results fn a.tmps).run P w = .ok v w) (hd : a.defers = [])
    (hR : R v w) : eN P f R [] a w := by
  intro b cs hb hk
  exact ⟨v, w, _, hR, .one step_end, hb, rfl, hd, hk, fn, by rw [← hf]; exact congrArg (P.funcs[·]?) hb, hr⟩
structure Cx (P : Program) (fn : Func) (n N0 : Nat) (Y : Type) where
  f : FuncId
  ρ0 : Nat → Value
  w0 : World
  X : Nat → Prop
  I0 : Nat → Prop
  Ψ : Y → bA → Value → Prop
  hf : P.funcs[f]? = some fn
  hm : P.follows .mixedOrders = true
abbrev Cx.P {P : Program} {fn : Func} {n N0 : Nat} {Y : Type} (_ : Cx P fn n N0 Y) : Program := P
abbrev Cx.fn {P : Program} {fn : Func} {n N0 : Nat} {Y : Type} (_ : Cx P fn n N0 Y) : Func := fn
def Cx.c {P : Program} {fn : Func} {n N0 : Nat} {Y : Type} (X : Cx P fn n N0 Y) : cS := ⟨X.w0, X.X, X.I0, n, N0, X.ρ0⟩
def lX {P : Program} {fn : Func} {n N0 : Nat} {Y : Type} (X : Cx P fn n N0 Y) (y : Y) (k : List Item) (s : St) : Prop :=
  ∀ η a, fy X.c s η a → eN X.P X.f (fun v w' => ∃ η', η'.w = w' ∧ X.Ψ y η' v) k a η.w
def J {P : Program} {fn : Func} {n N0 : Nat} {Y Z : Type} (X : Cx P fn n N0 Y) (e : Option Z) (g : Z → Option Y) (k : List Item) (s : St) : Prop := ∀ y, e.bind g = some y → lX X y k s
section
variable {P : Program} {fn : Func} {n N0 : Nat} {Y Z V : Type} {X : Cx P fn n N0 Y} {e e1 e2 : Option Z} {g : Z → Option Y} {k : List Item} {s : St}
theorem zl {x y : Code} (h : J X e g (.code x :: .code y :: k) s) : J X e g (.code (.seq x y) :: k) s := fun r hr η a hrel => (h r hr η a hrel).head fun _ _ => step_seq
theorem aC {id : Nat} {x : Code} (h : J X e g (.code x :: .inBlock id :: k) s) : J X e g (.code (.block id x) :: k) s := fun r hr η a hrel => (h r hr η a hrel).head fun _ _ => step_block
theorem bn {id : Nat} (h : J X e g k s) : J X e g (.inBlock id :: k) s := fun r hr η a hrel => (h r hr η a hrel).head fun _ _ => step_inBlock
theorem ao (h : J X e g k s) : J X e g (.code .skip :: k) s := fun r hr η a hrel => (h r hr η a hrel).head fun _ _ => step_skip
theorem br {id : Nat} {k' : List Item} (hk : exitTo id k = some k') (h : J X e g k' s) : J X e g (.code (.exit id) :: k) s := fun r hr η a hrel => (h r hr η a hrel).head fun _ _ => step_exit hk
theorem bQ {o : Operand} {x y : Code} {b : Bool} (hc : bi s.sl o = aa b) (ht : b = true → J X e1 g (.code x :: k) s) (hf : b = false → J X e2 g (.code y :: k) s) :
    J X (if b = true then e1 else e2) g (.code (.cond o x y) :: k) s := by
  intro r hr η a hrel
  have h1 := l8 (a := a) hrel.slots o
  rw [hc] at h1
  have h2 : a.eval o = .bool b := h1
  cases b with
  | true => exact (ht rfl r (by simpa using hr) η a hrel).head fun _ _ => step_cond h2
  | false => exact (hf rfl r (by simpa using hr) η a hrel).head fun _ _ => step_cond h2
theorem aw {o : Operand} {x y : Code} {p : Prop} [Decidable p] (hc : bi s.sl o = aa (decide p)) (ht : p → J X e1 g (.code x :: k) s) (hf : ¬ p → J X e2 g (.code y :: k) s) :
    J X (if p then e1 else e2) g (.code (.cond o x y) :: k) s := by
  by_cases hp : p
  · rw [if_pos hp]
    intro r hr η a hrel
    have h1 := l8 (a := a) hrel.slots o
    rw [hc] at h1
    have h2 : a.eval o = .bool true := by rw [decide_eq_true hp] at h1; exact h1
    exact (ht hp r hr η a hrel).head fun _ _ => step_cond h2
  · rw [if_neg hp]
    intro r hr η a hrel
    have h1 := l8 (a := a) hrel.slots o
    rw [hc] at h1
    have h2 : a.eval o = .bool false := by rw [decide_eq_false hp] at h1; exact h1
    exact (hf hp r hr η a hrel).head fun _ _ => step_cond h2
theorem Hx {o : Operand} {x y : Code} (hc : bi s.sl o = aa true) (ht : J X e g (.code x :: k) s) : J X e g (.code (.cond o x y) :: k) s := by
  intro r hr η a hrel
  have h1 := l8 (a := a) hrel.slots o
  rw [hc] at h1
  exact (ht r hr η a hrel).head fun _ _ => step_cond (h1 : a.eval o = .bool true)
theorem Hw {o : Operand} {x y : Code} (hc : bi s.sl o = aa false) (ht : J X e g (.code y :: k) s) : J X e g (.code (.cond o x y) :: k) s := by
  intro r hr η a hrel
  have h1 := l8 (a := a) hrel.slots o
  rw [hc] at h1
  exact (ht r hr η a hrel).head fun _ _ => step_cond (h1 : a.eval o = .bool false)
end
def vk (s s' : St) : Prop := ∀ (c : cS) (η : bA) (a : Act), fy c s η a → ∃ η', η'.w = η.w ∧ fy c s' η' a
theorem lX.weak {P : Program} {fn : Func} {n N0 : Nat} {Y : Type} {X : Cx P fn n N0 Y} {y : Y} {k : List Item} {s s' : St} (hw : vk s s') (h : lX X y k s') : lX X y k s := by
  intro η a hr
  obtain ⟨η', e, hr'⟩ := hw X.c η a hr
  rw [← e]
  exact h η' a hr'
theorem Es {P : Program} {fn : Func} {n N0 : Nat} {Y Z : Type} {X : Cx P fn n N0 Y} {e : Option Z} {g : Z → Option Y} {k : List Item} {s s' : St} (hw : vk s s') (h : J X e g k s') : J X e g k s := fun r hr => (h r hr).weak hw
noncomputable def kZ {β : Type} (u : Nat → Option β) : Option β :=
  match u 4096 with
  | some b => some b
  | none => open Classical in if h : ∃ b, ∃ n, u n = some b then some h.choose else none
theorem jE {β : Type} {u : Nat → Option β} {b : β} (h : kZ u = some b) : ∃ n, u n = some b := by
  unfold kZ at h
  split at h
  · rename_i hx; exact ⟨4096, hx.trans h⟩
  · split at h
    · rename_i hx; rw [← Option.some.inj h]; exact hx.choose_spec
    · cases h
theorem B3 {β : Type} {u : Nat → Option β} {n : Nat} {b : β} (h : u n = some b) : ∃ b, kZ u = some b := by
  have hx : ∃ b, ∃ n, u n = some b := ⟨b, n, h⟩
  unfold kZ
  split
  · exact ⟨_, rfl⟩
  · rw [dif_pos hx]; exact ⟨_, rfl⟩
theorem zZ {β : Type} {u : Nat → Option β} (hm : ∀ n b, u n = some b → u (n + 1) = some b) {n : Nat} {b : β} (h : u n = some b) : kZ u = some b := by
  have up : ∀ d n b, u n = some b → u (n + d) = some b := by
    intro d
    induction d with
    | zero => intro n b h; exact h
    | succ d ih => intro n b h; exact hm _ _ (ih n b h)
  obtain ⟨c, hc⟩ := B3 h
  obtain ⟨m, hmm⟩ := jE hc
  have h1 := up m n b h
  have h2 := up n m _ hmm
  rw [Nat.add_comm] at h2
  rw [h1] at h2
  rw [hc, ← h2]
def ew {σ β : Type} (F : σ → Option (σ ⊕ β)) : Nat → σ → Option β
  | 0, _ => none
  | n + 1, x => (F x).bind fun z => match z with | .inl x' => ew F n x' | .inr b => some b
theorem Cw {σ β : Type} {F : σ → Option (σ ⊕ β)} : ∀ (n : Nat) (x : σ) (b : β), ew F n x = some b → ew F (n + 1) x = some b
  | 0, x, b, h => by simp [ew] at h
  | n + 1, x, b, h => by
    rw [ew] at h ⊢
    cases hF : F x with
    | none => rw [hF] at h; simp at h
    | some z =>
      rw [hF] at h
      cases z with
      | inl x' => exact Cw n x' b h
      | inr c => exact h
noncomputable def aE {σ β : Type} (F : σ → Option (σ ⊕ β)) (x : σ) : Option β := kZ fun n => ew F n x
theorem rU {σ β : Type} {F : σ → Option (σ ⊕ β)} {n : Nat} {x : σ} {b : β} (h : ew F n x = some b) : aE F x = some b := zZ (fun n b => Cw n x b) h
theorem kI {σ β : Type} {F : σ → Option (σ ⊕ β)} {x : σ} {b : β} (h : F x = some (.inr b)) : aE F x = some b := rU (n := 1) (by simp [ew, h])
theorem mx {σ β : Type} {F : σ → Option (σ ⊕ β)} {x x' : σ} (h : F x = some (.inl x')) : aE F x = aE F x' := by
  cases hx : aE F x' with
  | some b =>
    obtain ⟨n, hn⟩ := jE hx
    exact rU (n := n + 1) (by simpa [ew, h] using hn)
  | none =>
    cases hy : aE F x with
    | none => rfl
    | some b =>
      obtain ⟨n, hn⟩ := jE hy
      cases n with
      | zero => simp [ew] at hn
      | succ n =>
        simp only [ew, h, Option.bind_some] at hn
        rw [rU hn] at hx; cases hx
theorem Er {P : Program} {fn : Func} {n N0 : Nat} {Y Z σ β : Type} {X : Cx P fn n N0 Y} {F : σ → Option (σ ⊕ β)} {G : β → Option Z} {g : Z → Option Y} {body : Code} {k : List Item} (S : σ → St → Prop)
    (h : ∀ E : σ → Option Z, (∀ x s, S x s → J X (E x) g (.inLoop body :: k) s) → ∀ x s, S x s → J X (F x) (fun z => (match z with | .inl x => E x | .inr b => G b : Option Z).bind g) (.code body :: .inLoop body :: k) s)
    {x0 : σ} {s0 : St} (h0 : S x0 s0) : J X ((aE F x0).bind G) g (.code (.loop body) :: k) s0 := by
  intro y hy η a hr
  have key : ∀ n x, ∀ y, ((ew F n x).bind G).bind g = some y → ∀ s, S x s → lX X y (.code body :: .inLoop body :: k) s := by
    intro n
    induction n with
    | zero => intro x y hy; simp [ew] at hy
    | succ n ih =>
      intro x y hy s hs
      refine h (fun x => (ew F n x).bind G) (fun x s hs y hy η a hr => ?_) x s hs y ?_
      · exact (ih x y hy s hs η a hr).head fun _ _ => step_inLoop
      · rw [ew] at hy
        cases hF : F x with
        | none => rw [hF] at hy; simp at hy
        | some z =>
          rw [hF] at hy
          cases z with
          | inl x' => simpa using hy
          | inr b => simpa using hy
  cases hI : aE F x0 with
  | none => rw [hI] at hy; simp at hy
  | some b =>
    obtain ⟨n, hn⟩ := jE hI
    rw [hI] at hy
    have := key n x0 y (by rw [hn]; exact hy) s0 h0
    exact (this η a hr).head fun _ _ => step_loop
def RT {P : Program} {fn : Func} {n N0 : Nat} {Y Z : Type} (X : Cx P fn n N0 Y) (draw : Bool) (ops l : List Oper) (e : Option Z) (g : Z → Option Y) (rest : List Oper) (acc : List cB) (s : St) (k : List Item) : Prop :=
  ∀ y, e.bind g = some y → ∃ fs s', Tr X.P X.c ops.toArray rest fs s s' ∧ (draw = true → ll n l (acc.reverse ++ fs) = true) ∧ lX X y k s'
section
variable {P : Program} {fn : Func} {n N0 : Nat} {Y Z V : Type} {X : Cx P fn n N0 Y} {e e1 e2 : Option Z} {g : Z → Option Y} {k : List Item} {s : St} {draw : Bool} {ops l rest : List Oper} {acc : List cB} {o : Oper}
theorem BA {id : Nat} (hd : jy n ops = true) (h : RT X false ops ops e g ops [] s k) : J X e g (.code (.region id ops.toArray false) :: k) s := by
  intro y hy η a hr
  obtain ⟨fs, s', ht, _, hg⟩ := h y hy
  exact eN.wp (Ky ht hd hr fun η' a' hr' => ⟨rfl, hg η' a' hr'⟩)
theorem bW {id : Nat} (h : RT X true ops ops e g ops [] s k) : J X e g (.code (.region id ops.toArray true) :: k) s := by
  intro y hy η a hr
  obtain ⟨fs, s', ht, hk, hg⟩ := h y hy
  exact eN.wp (Kx X.hm ht (show ll n ops fs = true by simpa using hk rfl) hr fun η' a' hr' => ⟨rfl, hg η' a' hr'⟩)
theorem zn (hk : draw = true → ll n l acc.reverse = true) (h : J X e g k s) : RT X draw ops l e g [] acc s k := fun y hy => ⟨[], s, .nil, fun hd => by simpa using hk hd, h y hy⟩
theorem eP {need : List (Nat × bB)} {upd : List (Nat × Option bB)} {new : List Nat} {r : ae} {N1 : Nat} (hr : cg X.P X.c o (bi s.sl) need upd new r) (hg : bD ops.toArray s.sl o true)
    (hn : ∀ k x, (k, x) ∈ need → s.H k = some x) (hnew : ∀ k, k ∈ new → s.N ≤ k ∧ k < N1) (hN : s.N ≤ N1)
    (h : RT X draw ops l e g rest (⟨need.map (·.1), upd.map (·.1)⟩ :: acc) ⟨bm s.sl o.dst r, s.H.upds upd, N1⟩ k) : RT X draw ops l e g (o :: rest) acc s k := by
  intro y hy
  obtain ⟨fs, s', ht, hk, hg'⟩ := h y hy
  exact ⟨_, s', .cons (.run hg hr hn hnew hN) ht, fun hd => by simpa using hk hd, hg'⟩
theorem cV {r : ae} (hr : cg X.P X.c o (bi s.sl) [] [] [] r) (hg : bD ops.toArray s.sl o true) (h : RT X draw ops l e g rest (⟨[], []⟩ :: acc) ⟨bm s.sl o.dst r, s.H, s.N⟩ k) :
    RT X draw ops l e g (o :: rest) acc s k :=
  eP (N1 := s.N) hr hg (fun k x h => by simp at h) (fun k h => by simp at h) (Nat.le_refl _) h
theorem vB (hg : bD ops.toArray s.sl o false) (h : RT X draw ops l e g rest (⟨[], []⟩ :: acc) ⟨bm s.sl o.dst dB, s.H, s.N⟩ k) : RT X draw ops l e g (o :: rest) acc s k := by
  intro y hy
  obtain ⟨fs, s', ht, hk, hg'⟩ := h y hy
  exact ⟨_, s', .cons (.skip hg) ht, fun hd => by simpa using hk hd, hg'⟩
theorem aI {u : Option V} {f : V → Option Z} (h : ∀ z, u = some z → RT X draw ops l (f z) g rest acc s k) : RT X draw ops l (u.bind f) g rest acc s k := by
  intro r hr
  cases hu : u with
  | none => rw [hu] at hr; simp at hr
  | some z => rw [hu] at hr; exact h z hu r (by simpa using hr)
theorem aN {p : Prop} [Decidable p] (ht : p → RT X draw ops l e1 g rest acc s k) (hf : ¬ p → RT X draw ops l e2 g rest acc s k) : RT X draw ops l (if p then e1 else e2) g rest acc s k := by
  by_cases hp : p
  · rw [if_pos hp]; exact ht hp
  · rw [if_neg hp]; exact hf hp
theorem A0 : RT X draw ops l none g rest acc s k := fun r hr => by simp at hr
end
def zK (args : List ae) : St := ⟨fun t => args.getD t fA, fun _ => none, 0⟩
theorem bZ.init {η : bA} {n : Nat} (hI : ∀ b, η.I b → b < η.w.heap.size) : bZ ⟨η.w, fun _ => False, η.I, n, 0, η.ρ⟩ η (fun _ => none) where
  holds := fun k x h => by cases h
  own := fun k x b h => by cases h
  apart := fun k k' x x' b h => by cases h
  lt := hI
  new := fun b hb => .inl hb
  old := fun b hb => hb
  size := Nat.le_refl _
  keep := fun _ _ _ => rfl
  os := rfl
  tape := rfl
  output := rfl
theorem aB.of {P : Program} (hm : P.follows .mixedOrders = true) {f : FuncId} {fn : Func} {c : Code} (hf : P.funcs[f]? = some fn) (hb : fn.body = some c) {n : Nat} (hn : fn.ntmps = n) {args : List ae} {Y : Type} {e : Option Y} {y : Y} (rr : Y → ae)
    (ha : ∀ t k, ¬ (args.getD t fA).keys k) (hrk : ∀ k, ¬ (rr y).keys k) (hl : Nat.ble args.length n = true) (he : e = some y)
    (h : ∀ X : Cx P fn n 0 Y, (∀ z η v H, bZ X.c η H → (rr z).p η v → X.Ψ z η v) → J X e some [.code c] (zK args)) : aB P f args (rr y) := by
  refine ⟨hrk, fun η vals hI hv => ?_⟩
  let X : Cx P fn n 0 Y := { f := f, ρ0 := η.ρ, w0 := η.w, X := fun _ => False, I0 := η.I, Ψ := fun z η' v => ∃ H, bZ ⟨η.w, fun _ => False, η.I, n, 0, η.ρ⟩ η' H ∧ (rr z).p η' v, hf := hf, hm := hm }
  have hj := h X (fun z η v H h1 h2 => ⟨H, h1, h2⟩) y (by rw [he]; rfl)
  have hlen := hv.length
  have hln : args.length ≤ n := of_decide_eq_true (by simpa [Nat.ble_eq] using hl)
  have hgo := hj η { tmps := vals ++ Array.replicate (fn.ntmps - vals.size) undef, defers := [] } ?_
  · refine (eN.calls hf hb hgo).mono ?_
    rintro e w' ⟨v, rfl, η', rfl, H, hH, hp⟩
    refine ⟨v, η'.I, rfl, ⟨hH.size, fun b hb => hH.keep b hb id, hH.old, fun b hb => ?_, hH.lt, hH.os, hH.tape, hH.output⟩, ?_⟩
    · rcases hH.new b hb with h | h | h
      · exact .inl h
      · exact .inr h
      · exact h.elim
    · exact (rr y).mono (η := η') ⟨fun _ h => h, fun _ _ => rfl, fun k hk => absurd hk (hrk k)⟩ hp
  · have hsz : args.length = vals.size := by simpa using hlen
    refine ⟨fun t => ?_, bZ.init hI, ⟨fun t k hk => absurd hk (ha t k), fun k x h => (by cases h), fun k x j h => (by cases h)⟩, rfl, ?_, fun k hk => absurd hk (Nat.not_lt_zero k), Nat.zero_le _⟩
    · show (args.getD t fA).p η _
      cases hA : args[t]? with
      | none => simp only [List.getD, hA, Option.getD_none]; trivial
      | some A =>
        obtain ⟨v, h1, h2⟩ := hv.get t A hA
        have hlt : t < vals.size := by have := (List.getElem?_eq_some_iff.1 hA).1; omega
        have : (vals ++ Array.replicate (fn.ntmps - vals.size) undef).getD t undef = v := by
          have h3 : vals[t]? = some v := by simpa using h1
          rw [Array.getD_eq_getD_getElem?, Array.getElem?_append_left hlt, h3]; rfl
        rw [this]
        simp only [List.getD, hA, Option.getD_some]; exact h2
    · simp only [Array.size_append, Array.size_replicate]
      show _ = n
      omega
def jo {P : Program} {fn : Func} {n N0 : Nat} {Y : Type} (X : Cx P fn n N0 Y) (s : St) (A : ae) : Prop := ∀ η a, fy X.c s η a → ∃ v, (results X.fn a.tmps).run X.P η.w = .ok v η.w ∧ A.p η v
theorem w9 {P : Program} {fn : Func} {n N0 : Nat} {Y : Type} {X : Cx P fn n N0 Y} {s : St} {t : Nat} (h : fn.results = #[.tmp t]) : jo X s (s.sl t) := fun η a hr => ⟨_, results_tmp h _ _ _, hr.slots t⟩
theorem J_ret {P : Program} {fn : Func} {n N0 : Nat} {Y : Type} {X : Cx P fn n N0 Y} {Z : Type} {e : Option Z} {g : Z → Option Y} {k : List Item} {s : St} {A : ae} {rr : Y → ae} (hΨ : ∀ z η v H, bZ X.c η H → (rr z).p η v → X.Ψ z η v) (hres : jo X s A)
    (hA : ∀ y, e.bind g = some y → A = rr y) : J X e g (.code .ret :: k) s := by
  intro y hy η a hr
  obtain ⟨v, h1, h2⟩ := hres η a hr
  exact eN.ret X.hf h1 hr.defers ⟨η, rfl, hΨ y η v s.H hr.heap (hA y hy ▸ h2)⟩
end Go.Proofs.YtngimdmkomkeoaaGreat.K
