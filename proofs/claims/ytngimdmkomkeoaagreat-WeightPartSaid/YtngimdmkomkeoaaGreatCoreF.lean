import Derived.Test.YtngimdmkomkeoaaGreatCoreE
set_option linter.unusedVariables false
set_option linter.unusedSimpArgs false
namespace Go.Proofs.YtngimdmkomkeoaaGreat.K
open Go.RowKit
abbrev I_ (n : Int) : ae := aj .i64 n
def cC {α β : Type} (P : Program) (ga : α → List ae) (rt : β → ae) (g : α → Option β) : ae :=
  ⟨fun η v => ∃ f vs caps fn, v = .func (.func f) #[] vs ∧ bw η caps vs.toList ∧ (∀ k, ¬ d7 caps k) ∧ P.funcs[f]? = some fn ∧ (fn.name == "runtime.NumGoroutine") = false ∧ fn.body.isNone = false ∧ ∀ x y, g x = some y → aB P f (ga x ++ caps) (rt y), kv,
   fun hl ⟨f, vs, caps, fn, e, h1, h2, h3, h4, h5, h6⟩ => ⟨f, vs, caps, fn, e, h1.mono ⟨hl.grow, hl.keep, fun k hk => absurd hk (h2 k)⟩, h2, h3, h4, h5, h6⟩⟩
section
variable {P : Program} {c : cS} {lk : Operand → ae} {d : Option Nat} {ty : TypeId} {pos : String} {aft : Array Edge} {gd : Option (Nat × Bool)}
theorem If {α β : Type} {f : FuncId} {cs : List Operand} {caps : List ae} {fn : Func} {ga : α → List ae} {rt : β → ae} {g : α → Option β} (hA : cs.map lk = caps) (hk : ∀ k, ¬ d7 caps k) (hf : P.funcs[f]? = some fn)
    (hn : (fn.name == "runtime.NumGoroutine") = false) (hb : fn.body.isNone = false) (hg : ∀ x y, g x = some y → aB P f (ga x ++ caps) (rt y)) : cg P c ⟨d, .makeFunc (.func f) #[] cs.toArray, ty, pos, aft, gd⟩ lk [] [] [] (cC P ga rt g) :=
  (Cz hA).imp ⟨fun η v ⟨vs, e, h⟩ => ⟨f, vs, caps, fn, e, h, hk, hf, hn, hb, hg⟩, fun k h => h.elim⟩
theorem I8 {α β : Type} {y : Operand} {xs : List Operand} {ts : Array TypeId} {ga : α → List ae} {rt : β → ae} {g : α → Option β} {x : α} {z : β} (hy : lk y = cC P ga rt g) (ha : xs.map lk = ga x) (hg : g x = some z) (hk : ∀ k, ¬ (rt z).keys k) :
    cg P c ⟨d, .call ⟨.value y, xs.toArray, ts⟩, ty, pos, aft, gd⟩ lk [] [] [] (rt z) where
  run := by
    intro η ρo H hH hop _ _ _
    have hv := hop y (by simp [Op.operands, Call.operands])
    rw [hy] at hv
    obtain ⟨f, vs, caps, fn, e, hvs, _, hf, hn, hb, hc⟩ := hv
    have hall : bw η (ga x ++ caps) (xs.toArray.map ρo ++ vs).toList := by
      rw [← ha]
      simpa using (mK (fun x hx => hop x (by simp [Op.operands, Call.operands, hx]))).append hvs
    unfold dJ
    have hrun : (execOp ρo ⟨d, .call ⟨.value y, xs.toArray, ts⟩, ty, pos, aft, gd⟩).run P η.w = .ok (.enter f (xs.toArray.map ρo ++ vs)) η.w := by
      simp only [execOp, resolve, e, Deferred.ofValue, Sem.run_bind, Sem.run_pure, Result.andThen_ok, invoke]
      simpa using pA (args := xs.toArray.map ρo ++ vs) (w := η.w) hf hn hb
    rw [hrun]
    refine ((hc x z hg).2 η _ hH.lt hall).mono ?_
    rintro e w' ⟨v, I', rfl, he, hr⟩
    exact ⟨v, rfl, ⟨w', I', η.ρ⟩, rfl, ⟨he.grow, fun b hb => he.keep b (hH.lt b hb), fun _ _ => rfl⟩, hH.ext he, hr⟩
  keys := fun k h => absurd h (hk k)
  ukeys := fun j x h => by simp at h
  dom := fun j x h => by simp at h
  sel := by intro cs b h; cases h
end
theorem ak {ops : List Oper} {sl : Nat → ae} {dst : Option Nat} {op : Op} {ty : TypeId} {pos : String} {aft : Array Edge} {j d : Nat} {b : Bool} (hd : (ops.toArray[j]?).bind (·.dst) = some d) (h : sl d = aa b) (hb : b = true) : bD ops.toArray sl ⟨dst, op, ty, pos, aft, some (j, true)⟩ true :=
  ⟨d, hd, .inl ⟨b, h, by rw [hb]; rfl⟩⟩
theorem an {ops : List Oper} {sl : Nat → ae} {dst : Option Nat} {op : Op} {ty : TypeId} {pos : String} {aft : Array Edge} {j d : Nat} {b : Bool} (hd : (ops.toArray[j]?).bind (·.dst) = some d) (h : sl d = aa b) (hb : b = false) : bD ops.toArray sl ⟨dst, op, ty, pos, aft, some (j, false)⟩ true :=
  ⟨d, hd, .inl ⟨b, h, by rw [hb]; rfl⟩⟩
theorem g_tn {ops : List Oper} {sl : Nat → ae} {dst : Option Nat} {op : Op} {ty : TypeId} {pos : String} {aft : Array Edge} {j d : Nat} {b : Bool} (hd : (ops.toArray[j]?).bind (·.dst) = some d) (h : sl d = aa b) (hb : b = false) : bD ops.toArray sl ⟨dst, op, ty, pos, aft, some (j, true)⟩ false :=
  ⟨d, hd, .inl ⟨b, h, by rw [hb]; rfl⟩⟩
theorem g_fn {ops : List Oper} {sl : Nat → ae} {dst : Option Nat} {op : Op} {ty : TypeId} {pos : String} {aft : Array Edge} {j d : Nat} {b : Bool} (hd : (ops.toArray[j]?).bind (·.dst) = some d) (h : sl d = aa b) (hb : b = true) : bD ops.toArray sl ⟨dst, op, ty, pos, aft, some (j, false)⟩ false :=
  ⟨d, hd, .inl ⟨b, h, by rw [hb]; rfl⟩⟩
theorem bC {ops : List Oper} {sl : Nat → ae} {dst : Option Nat} {op : Op} {ty : TypeId} {pos : String} {aft : Array Edge} {j d : Nat} {w : Bool} (hd : (ops.toArray[j]?).bind (·.dst) = some d) (h : sl d = dB) : bD ops.toArray sl ⟨dst, op, ty, pos, aft, some (j, w)⟩ false :=
  ⟨d, hd, .inr ⟨h, rfl⟩⟩
theorem dt {p : Prop} [Decidable p] (h : p) : decide p = true := decide_eq_true h
theorem df {p : Prop} [Decidable p] (h : ¬ p) : decide p = false := decide_eq_false h
section
variable {P : Program} {fn : Func} {n N0 : Nat} {Y Z V : Type} {X : Cx P fn n N0 Y} {e e1 e2 : Option Z} {g : Z → Option Y} {k : List Item} {s : St} {draw : Bool} {ops l rest : List Oper} {acc : List cB}
  {d : Option Nat} {ty : TypeId} {pos : String} {aft : Array Edge} {gd : Option (Nat × Bool)} {x y z : Operand} {xt yt : TypeId} {kd : IntKind} {a b m : Int}
theorem Gw (A : ae) (hx : bi s.sl x = A) (hg : bD ops.toArray s.sl ⟨d, .move x, ty, pos, aft, gd⟩ true) (h : RT X draw ops l e g rest (⟨[], []⟩ :: acc) ⟨bm s.sl d A, s.H, s.N⟩ k) :
    RT X draw ops l e g (⟨d, .move x, ty, pos, aft, gd⟩ :: rest) acc s k := by subst hx; exact cV Gq hg h
theorem It (A : ae) (hx : bi s.sl x = A) (hg : bD ops.toArray s.sl ⟨d, .assign x, ty, pos, aft, gd⟩ true) (h : RT X draw ops l e g rest (⟨[], []⟩ :: acc) ⟨bm s.sl d A, s.H, s.N⟩ k) :
    RT X draw ops l e g (⟨d, .assign x, ty, pos, aft, gd⟩ :: rest) acc s k := by subst hx; exact cV I7 hg h
theorem aH (A : ae) {b : Bool} (hc : bi s.sl x = aa b) (hb : b = true) (hx : bi s.sl y = A) (hg : bD ops.toArray s.sl ⟨d, .pick x y z, ty, pos, aft, gd⟩ true) (h : RT X draw ops l e g rest (⟨[], []⟩ :: acc) ⟨bm s.sl d A, s.H, s.N⟩ k) :
    RT X draw ops l e g (⟨d, .pick x y z, ty, pos, aft, gd⟩ :: rest) acc s k := by
  subst hx; subst hb; exact cV (by simpa using AR hc) hg h
theorem ax (A : ae) {b : Bool} (hc : bi s.sl x = aa b) (hb : b = false) (hx : bi s.sl z = A) (hg : bD ops.toArray s.sl ⟨d, .pick x y z, ty, pos, aft, gd⟩ true) (h : RT X draw ops l e g rest (⟨[], []⟩ :: acc) ⟨bm s.sl d A, s.H, s.N⟩ k) :
    RT X draw ops l e g (⟨d, .pick x y z, ty, pos, aft, gd⟩ :: rest) acc s k := by
  subst hx; subst hb; exact cV (by simpa using AR hc) hg h
theorem aR (m : Int) (hx : bi s.sl x = aj kd a) (hy : bi s.sl y = aj kd b) (hm : kd.wrap (a + b) = m) (hg : bD ops.toArray s.sl ⟨d, .binOp .add xt x y yt, ty, pos, aft, gd⟩ true)
    (h : RT X draw ops l e g rest (⟨[], []⟩ :: acc) ⟨bm s.sl d (aj kd m), s.H, s.N⟩ k) : RT X draw ops l e g (⟨d, .binOp .add xt x y yt, ty, pos, aft, gd⟩ :: rest) acc s k := cV (wk (.inl ⟨rfl, hm⟩) hx hy) hg h
theorem dq (m : Int) (hx : bi s.sl x = aj kd a) (hy : bi s.sl y = aj kd b) (hm : kd.wrap (a - b) = m) (hg : bD ops.toArray s.sl ⟨d, .binOp .sub xt x y yt, ty, pos, aft, gd⟩ true)
    (h : RT X draw ops l e g rest (⟨[], []⟩ :: acc) ⟨bm s.sl d (aj kd m), s.H, s.N⟩ k) : RT X draw ops l e g (⟨d, .binOp .sub xt x y yt, ty, pos, aft, gd⟩ :: rest) acc s k := cV (wk (.inr (.inl ⟨rfl, hm⟩)) hx hy) hg h
theorem lc (m : Int) (hx : bi s.sl x = aj kd a) (hy : bi s.sl y = aj kd b) (hm : kd.wrap (a * b) = m) (hg : bD ops.toArray s.sl ⟨d, .binOp .mul xt x y yt, ty, pos, aft, gd⟩ true)
    (h : RT X draw ops l e g rest (⟨[], []⟩ :: acc) ⟨bm s.sl d (aj kd m), s.H, s.N⟩ k) : RT X draw ops l e g (⟨d, .binOp .mul xt x y yt, ty, pos, aft, gd⟩ :: rest) acc s k := cV (wk (.inr (.inr ⟨rfl, hm⟩)) hx hy) hg h
theorem aZ (hx : bi s.sl x = aj kd a) (hy : bi s.sl y = aj kd b) (hg : bD ops.toArray s.sl ⟨d, .binOp .lss xt x y yt, ty, pos, aft, gd⟩ true)
    (h : RT X draw ops l e g rest (⟨[], []⟩ :: acc) ⟨bm s.sl d (aa (decide (a < b))), s.H, s.N⟩ k) : RT X draw ops l e g (⟨d, .binOp .lss xt x y yt, ty, pos, aft, gd⟩ :: rest) acc s k := cV (mb (.inl ⟨rfl, Iff.rfl⟩) hx hy) hg h
theorem dK (hx : bi s.sl x = aj kd a) (hy : bi s.sl y = aj kd b) (hg : bD ops.toArray s.sl ⟨d, .binOp .leq xt x y yt, ty, pos, aft, gd⟩ true)
    (h : RT X draw ops l e g rest (⟨[], []⟩ :: acc) ⟨bm s.sl d (aa (decide (a ≤ b))), s.H, s.N⟩ k) : RT X draw ops l e g (⟨d, .binOp .leq xt x y yt, ty, pos, aft, gd⟩ :: rest) acc s k := cV (mb (.inr (.inl ⟨rfl, Iff.rfl⟩)) hx hy) hg h
theorem cK (hx : bi s.sl x = aj kd a) (hy : bi s.sl y = aj kd b) (hg : bD ops.toArray s.sl ⟨d, .binOp .gtr xt x y yt, ty, pos, aft, gd⟩ true)
    (h : RT X draw ops l e g rest (⟨[], []⟩ :: acc) ⟨bm s.sl d (aa (decide (b < a))), s.H, s.N⟩ k) : RT X draw ops l e g (⟨d, .binOp .gtr xt x y yt, ty, pos, aft, gd⟩ :: rest) acc s k := cV (mb (.inr (.inr (.inl ⟨rfl, Iff.rfl⟩))) hx hy) hg h
theorem cG (hx : bi s.sl x = aj kd a) (hy : bi s.sl y = aj kd b) (hg : bD ops.toArray s.sl ⟨d, .binOp .geq xt x y yt, ty, pos, aft, gd⟩ true)
    (h : RT X draw ops l e g rest (⟨[], []⟩ :: acc) ⟨bm s.sl d (aa (decide (b ≤ a))), s.H, s.N⟩ k) : RT X draw ops l e g (⟨d, .binOp .geq xt x y yt, ty, pos, aft, gd⟩ :: rest) acc s k := cV (mb (.inr (.inr (.inr (.inl ⟨rfl, Iff.rfl⟩)))) hx hy) hg h
theorem bY (hx : bi s.sl x = aj kd a) (hy : bi s.sl y = aj kd b) (hg : bD ops.toArray s.sl ⟨d, .binOp .eql xt x y yt, ty, pos, aft, gd⟩ true)
    (h : RT X draw ops l e g rest (⟨[], []⟩ :: acc) ⟨bm s.sl d (aa (decide (a = b))), s.H, s.N⟩ k) : RT X draw ops l e g (⟨d, .binOp .eql xt x y yt, ty, pos, aft, gd⟩ :: rest) acc s k := cV (mb (.inr (.inr (.inr (.inr (.inl ⟨rfl, Iff.rfl⟩))))) hx hy) hg h
theorem bP (hx : bi s.sl x = aj kd a) (hy : bi s.sl y = aj kd b) (hg : bD ops.toArray s.sl ⟨d, .binOp .neq xt x y yt, ty, pos, aft, gd⟩ true)
    (h : RT X draw ops l e g rest (⟨[], []⟩ :: acc) ⟨bm s.sl d (aa (decide (¬ a = b))), s.H, s.N⟩ k) : RT X draw ops l e g (⟨d, .binOp .neq xt x y yt, ty, pos, aft, gd⟩ :: rest) acc s k := cV (mb (.inr (.inr (.inr (.inr (.inr ⟨rfl, Iff.rfl⟩))))) hx hy) hg h
theorem cd {b : Bool} (hx : bi s.sl x = aa b) (hg : bD ops.toArray s.sl ⟨d, .unOp .not xt x, ty, pos, aft, gd⟩ true) (h : RT X draw ops l e g rest (⟨[], []⟩ :: acc) ⟨bm s.sl d (aa (!b)), s.H, s.N⟩ k) :
    RT X draw ops l e g (⟨d, .unOp .not xt x, ty, pos, aft, gd⟩ :: rest) acc s k := cV (o_not hx) hg h
theorem ag {T : Nat} (A : ae) {As Bs : List ae} (hT : dD P T = true) (hx : bi s.sl x = ap Bs) (hB : Bs = A :: As) (hg : bD ops.toArray s.sl ⟨d, .load T x, ty, pos, aft, gd⟩ true)
    (h : RT X draw ops l e g rest (⟨[], []⟩ :: acc) ⟨bm s.sl d A, s.H, s.N⟩ k) : RT X draw ops l e g (⟨d, .load T x, ty, pos, aft, gd⟩ :: rest) acc s k := by subst hB; exact cV (Gn hT hx) hg h
theorem aK {T m : Nat} {As : List ae} (Bs : List ae) (hT : dz P T = some m) (hx : bi s.sl x = ap As) (hB : As.take m = Bs) (hm : Bs.length = m) (hg : bD ops.toArray s.sl ⟨d, .load T x, ty, pos, aft, gd⟩ true)
    (h : RT X draw ops l e g rest (⟨[], []⟩ :: acc) ⟨bm s.sl d (ac Bs), s.H, s.N⟩ k) : RT X draw ops l e g (⟨d, .load T x, ty, pos, aft, gd⟩ :: rest) acc s k := cV (J6 hT hx hB hm) hg h
theorem aD {α : Type} {T w : Nat} {cc : α → List ae} {xs : List α} (hT : ey P T = true) (hx : bi s.sl x = AL w cc xs) (hg : bD ops.toArray s.sl ⟨d, .call ⟨.builtin .len, #[x], #[T]⟩, ty, pos, aft, gd⟩ true)
    (h : RT X draw ops l e g rest (⟨[], []⟩ :: acc) ⟨bm s.sl d (aj .i64 (xs.length : Int)), s.H, s.N⟩ k) : RT X draw ops l e g (⟨d, .call ⟨.builtin .len, #[x], #[T]⟩, ty, pos, aft, gd⟩ :: rest) acc s k := cV (o_len hT hx (by simp)) hg h
theorem hU {T : Nat} {b : ByteArray} (hT : rl P T = true) (hx : bi s.sl x = am b) (hg : bD ops.toArray s.sl ⟨d, .call ⟨.builtin .len, #[x], #[T]⟩, ty, pos, aft, gd⟩ true)
    (h : RT X draw ops l e g rest (⟨[], []⟩ :: acc) ⟨bm s.sl d (aj .i64 (b.size : Int)), s.H, s.N⟩ k) : RT X draw ops l e g (⟨d, .call ⟨.builtin .len, #[x], #[T]⟩, ty, pos, aft, gd⟩ :: rest) acc s k := cV (Ie hT hx) hg h
theorem aQ {α : Type} [Inhabited α] {T E w : Nat} {cc : α → List ae} {xs : List α} {j : Int} (hT : dG P T = some (E, w)) (hx : bi s.sl x = AL w cc xs) (hy : bi s.sl y = aj kd j) (h0 : 0 ≤ j) (h1 : j < (xs.length : Int))
    (hg : bD ops.toArray s.sl ⟨d, .indexAddr T x y, ty, pos, aft, gd⟩ true) (h : RT X draw ops l e g rest (⟨[], []⟩ :: acc) ⟨bm s.sl d (ap (cc (nth xs j))), s.H, s.N⟩ k) :
    RT X draw ops l e g (⟨d, .indexAddr T x y, ty, pos, aft, gd⟩ :: rest) acc s k := cV (Hc hT hx hy h0 (vz h0 h1)) hg h
theorem r_box {E : TypeId} (As : List ae) (A : ae) (hx : bi s.sl x = A) (hA : kp A As) (hk : ∀ k, d7 As k → A.keys k) (hg : bD ops.toArray s.sl ⟨d, .box E x, ty, pos, aft, gd⟩ true)
    (h : RT X draw ops l e g rest (⟨[], []⟩ :: acc) ⟨bm s.sl d (ap As), s.H, s.N⟩ k) : RT X draw ops l e g (⟨d, .box E x, ty, pos, aft, gd⟩ :: rest) acc s k := cV (o_box (by rw [hx]; exact hA) (by rw [hx]; exact hk)) hg h
theorem bx {i : Nat} {As : List ae} (A : ae) (hx : bi s.sl x = bk As) (hi : As[i]? = some A) (hg : bD ops.toArray s.sl ⟨d, .extract x i, ty, pos, aft, gd⟩ true)
    (h : RT X draw ops l e g rest (⟨[], []⟩ :: acc) ⟨bm s.sl d A, s.H, s.N⟩ k) : RT X draw ops l e g (⟨d, .extract x i, ty, pos, aft, gd⟩ :: rest) acc s k := cV (J5 hx hi) hg h
def aF (P : Program) (f : FuncId) : Prop := ∃ fn, P.funcs[f]? = some fn ∧ (fn.name == "runtime.NumGoroutine") = false ∧ fn.body.isNone = false
theorem dv {f : FuncId} {xs : List Operand} {ts : Array TypeId} (args : List ae) {r : ae} (hF : aF P f) (hc : aB P f args r) (ha : xs.map (bi s.sl) = args) (hg : bD ops.toArray s.sl ⟨d, .call ⟨.value (.func f), xs.toArray, ts⟩, ty, pos, aft, gd⟩ true)
    (h : RT X draw ops l e g rest (⟨[], []⟩ :: acc) ⟨bm s.sl d r, s.H, s.N⟩ k) : RT X draw ops l e g (⟨d, .call ⟨.value (.func f), xs.toArray, ts⟩, ty, pos, aft, gd⟩ :: rest) acc s k := by
  obtain ⟨fn, h1, h2, h3⟩ := hF
  exact cV (JV (caps := []) h1 h2 h3 hc rfl (by simpa using ha)) hg h
theorem iz {α β : Type} {xs : List Operand} {ts : Array TypeId} {ga : α → List ae} {rt : β → ae} {gg : α → Option β} {u : α} {w : β} (hy : bi s.sl y = cC P ga rt gg) (ha : xs.map (bi s.sl) = ga u) (hgg : gg u = some w) (hk : ∀ k, ¬ (rt w).keys k)
    (hg : bD ops.toArray s.sl ⟨d, .call ⟨.value y, xs.toArray, ts⟩, ty, pos, aft, gd⟩ true) (h : RT X draw ops l e g rest (⟨[], []⟩ :: acc) ⟨bm s.sl d (rt w), s.H, s.N⟩ k) :
    RT X draw ops l e g (⟨d, .call ⟨.value y, xs.toArray, ts⟩, ty, pos, aft, gd⟩ :: rest) acc s k := cV (I8 hy ha hgg hk) hg h
end
theorem Ep {P : Program} {fn : Func} {n N0 : Nat} {Y Z : Type} {X : Cx P fn n N0 Y} {e : Option Z} {g : Z → Option Y} {k : List Item} {s : St} (t : Nat) {p : Prop} (hf : ∀ η v, (s.sl t).p η v → p) (h : p → J X e g k s) : J X e g k s :=
  fun r hr η a hrel => h (hf η _ (hrel.slots t)) r hr η a hrel
theorem aG {P : Program} {fn : Func} {n N0 : Nat} {Y Z : Type} {X : Cx P fn n N0 Y} {e : Option Z} {g : Z → Option Y} {k : List Item} {s : St} (t : Nat) {m : Int} (ht : s.sl t = aj .i64 m) (h : -9223372036854775808 ≤ m ∧ m ≤ 9223372036854775807 → J X e g k s) : J X e g k s :=
  Ep t (p := -9223372036854775808 ≤ m ∧ m ≤ 9223372036854775807) (fun η v hv => by rw [ht] at hv; have := hv.2; simpa [IntKind.has, IntKind.min, IntKind.max, IntKind.signed, IntKind.bits] using this) h
theorem bu {m : Int} (h0 : -9223372036854775808 ≤ m) (h1 : m ≤ 9223372036854775807) : IntKind.i64.wrap m = m := IntWalk.i64_in m ⟨h0, h1⟩
theorem K3 {s : St} (sl : Nat → ae) (h : ∀ t, sl t = s.sl t ∨ sl t = fA) : vk s ⟨sl, s.H, s.N⟩ := by
  intro c η a hr
  refine ⟨η, rfl, ⟨fun t => ?_, hr.heap, ⟨fun t k hk => ?_, hr.below.dom, hr.below.cont⟩, hr.defers, hr.size, hr.ref, hr.nle⟩⟩
  · rcases h t with e | e
    · show (sl t).p η _; rw [e]; exact hr.slots t
    · show (sl t).p η _; rw [e]; trivial
  · rcases h t with e | e
    · refine hr.below.sl t k ?_
      have : (sl t).keys k := hk
      rwa [e] at this
    · have : (sl t).keys k := hk
      rw [e] at this; exact this.elim
def fr : List (Nat × ae) → Nat → ae
  | [], _ => fA
  | (i, A) :: r, t => bif Nat.beq t i then A else fr r t
inductive fg (sl : Nat → ae) : List (Nat × ae) → Prop
  | nil : fg sl []
  | cons {i : Nat} {A : ae} {r : List (Nat × ae)} (h : sl i = A) (t : fg sl r) : fg sl ((i, A) :: r)
theorem fg.spec {sl : Nat → ae} {L : List (Nat × ae)} (h : fg sl L) : ∀ t, fr L t = sl t ∨ fr L t = fA := by
  induction h with
  | nil => intro t; exact .inr rfl
  | @cons i A r h _ ih =>
    intro t
    simp only [fr]
    cases hb : Nat.beq t i
    · exact ih t
    · have : t = i := Nat.eq_of_beq_eq_true hb
      subst this; exact .inl h.symm
theorem J_to {P : Program} {fn : Func} {n N0 : Nat} {Y Z : Type} {X : Cx P fn n N0 Y} {e : Option Z} {g : Z → Option Y} {k : List Item} {s : St} (L : List (Nat × ae)) (ha : fg s.sl L) (h : J X e g k ⟨fr L, s.H, s.N⟩) : J X e g k s :=
  Es (K3 (fr L) ha.spec) h
end Go.Proofs.YtngimdmkomkeoaaGreat.K
