/- The rules in the form in which the printed proofs use them. -/
import Derived.Test.YtngimdmkomkeoaaGreatCoreE
set_option linter.unusedVariables false
set_option linter.unusedSimpArgs false
namespace Go.Proofs.YtngimdmkomkeoaaGreat.K
open Go.RowKit
abbrev I_ (n : Int) : Asn := z1z .i64 n
def AFn {α β : Type} (P : Program) (ga : α → List Asn) (rt : β → Asn) (g : α → Option β) : Asn :=
  ⟨fun η v => ∃ f vs caps fn, v = .func (.func f) #[] vs ∧ z5a η caps vs.toList ∧ (∀ k, ¬ z39 caps k) ∧ P.funcs[f]? = some fn ∧ (fn.name == "runtime.NumGoroutine") = false ∧ fn.body.isNone = false ∧ ∀ x y, g x = some y → FnP P f (ga x ++ caps) (rt y), noKeys,
   fun hl ⟨f, vs, caps, fn, e, h1, h2, h3, h4, h5, h6⟩ => ⟨f, vs, caps, fn, e, h1.mono ⟨hl.grow, hl.keep, fun k hk => absurd hk (h2 k)⟩, h2, h3, h4, h5, h6⟩⟩
section
variable {P : Program} {c : Ctx} {lk : Operand → Asn} {d : Option Nat} {ty : TypeId} {pos : String} {aft : Array Edge} {gd : Option (Nat × Bool)}
theorem o_makeFn {α β : Type} {f : FuncId} {cs : List Operand} {caps : List Asn} {fn : Func} {ga : α → List Asn} {rt : β → Asn} {g : α → Option β} (hA : cs.map lk = caps) (hk : ∀ k, ¬ z39 caps k) (hf : P.funcs[f]? = some fn)
    (hn : (fn.name == "runtime.NumGoroutine") = false) (hb : fn.body.isNone = false) (hg : ∀ x y, g x = some y → FnP P f (ga x ++ caps) (rt y)) : z2o P c ⟨d, .makeFunc (.func f) #[] cs.toArray, ty, pos, aft, gd⟩ lk [] [] [] (AFn P ga rt g) :=
  (o_makeFunc hA).imp ⟨fun η v ⟨vs, e, h⟩ => ⟨f, vs, caps, fn, e, h, hk, hf, hn, hb, hg⟩, fun k h => h.elim⟩
theorem o_callFn {α β : Type} {y : Operand} {xs : List Operand} {ts : Array TypeId} {ga : α → List Asn} {rt : β → Asn} {g : α → Option β} {x : α} {z : β} (hy : lk y = AFn P ga rt g) (ha : xs.map lk = ga x) (hg : g x = some z) (hk : ∀ k, ¬ (rt z).keys k) :
    z2o P c ⟨d, .call ⟨.value y, xs.toArray, ts⟩, ty, pos, aft, gd⟩ lk [] [] [] (rt z) where
  run := by
    intro η ρo H hH hop _ _ _
    have hv := hop y (by simp [Op.operands, Call.operands])
    rw [hy] at hv
    obtain ⟨f, vs, caps, fn, e, hvs, _, hf, hn, hb, hc⟩ := hv
    have hall : z5a η (ga x ++ caps) (xs.toArray.map ρo ++ vs).toList := by
      rw [← ha]
      simpa using (map_all2 (fun x hx => hop x (by simp [Op.operands, Call.operands, hx]))).append hvs
    unfold Exec
    have hrun : (execOp ρo ⟨d, .call ⟨.value y, xs.toArray, ts⟩, ty, pos, aft, gd⟩).run P η.w = .ok (.enter f (xs.toArray.map ρo ++ vs)) η.w := by
      simp only [execOp, resolve, e, Deferred.ofValue, Sem.run_bind, Sem.run_pure, Result.andThen_ok, invoke]
      simpa using run_callFunc (args := xs.toArray.map ρo ++ vs) (w := η.w) hf hn hb
    rw [hrun]
    refine ((hc x z hg).2 η _ hH.lt hall).mono ?_
    rintro e w' ⟨v, I', rfl, he, hr⟩
    exact ⟨v, rfl, ⟨w', I', η.ρ⟩, rfl, ⟨he.grow, fun b hb => he.keep b (hH.lt b hb), fun _ _ => rfl⟩, hH.ext he, hr⟩
  keys := fun k h => absurd h (hk k)
  ukeys := fun j x h => by simp at h
  dom := fun j x h => by simp at h
  sel := by intro cs b h; cases h
end
theorem g_t {ops : List Oper} {sl : Nat → Asn} {dst : Option Nat} {op : Op} {ty : TypeId} {pos : String} {aft : Array Edge} {j d : Nat} {b : Bool} (hd : (ops.toArray[j]?).bind (·.dst) = some d) (h : sl d = z00 b) (hb : b = true) : z1k ops.toArray sl ⟨dst, op, ty, pos, aft, some (j, true)⟩ true :=
  ⟨d, hd, .inl ⟨b, h, by rw [hb]; rfl⟩⟩
theorem g_f {ops : List Oper} {sl : Nat → Asn} {dst : Option Nat} {op : Op} {ty : TypeId} {pos : String} {aft : Array Edge} {j d : Nat} {b : Bool} (hd : (ops.toArray[j]?).bind (·.dst) = some d) (h : sl d = z00 b) (hb : b = false) : z1k ops.toArray sl ⟨dst, op, ty, pos, aft, some (j, false)⟩ true :=
  ⟨d, hd, .inl ⟨b, h, by rw [hb]; rfl⟩⟩
theorem z0y {ops : List Oper} {sl : Nat → Asn} {dst : Option Nat} {op : Op} {ty : TypeId} {pos : String} {aft : Array Edge} {j d : Nat} {b : Bool} (hd : (ops.toArray[j]?).bind (·.dst) = some d) (h : sl d = z00 b) (hb : b = false) : z1k ops.toArray sl ⟨dst, op, ty, pos, aft, some (j, true)⟩ false :=
  ⟨d, hd, .inl ⟨b, h, by rw [hb]; rfl⟩⟩
theorem z0v {ops : List Oper} {sl : Nat → Asn} {dst : Option Nat} {op : Op} {ty : TypeId} {pos : String} {aft : Array Edge} {j d : Nat} {b : Bool} (hd : (ops.toArray[j]?).bind (·.dst) = some d) (h : sl d = z00 b) (hb : b = true) : z1k ops.toArray sl ⟨dst, op, ty, pos, aft, some (j, false)⟩ false :=
  ⟨d, hd, .inl ⟨b, h, by rw [hb]; rfl⟩⟩
theorem g_u {ops : List Oper} {sl : Nat → Asn} {dst : Option Nat} {op : Op} {ty : TypeId} {pos : String} {aft : Array Edge} {j d : Nat} {w : Bool} (hd : (ops.toArray[j]?).bind (·.dst) = some d) (h : sl d = AUndef) : z1k ops.toArray sl ⟨dst, op, ty, pos, aft, some (j, w)⟩ false :=
  ⟨d, hd, .inr ⟨h, rfl⟩⟩
theorem dt {p : Prop} [Decidable p] (h : p) : decide p = true := decide_eq_true h
theorem df {p : Prop} [Decidable p] (h : ¬ p) : decide p = false := decide_eq_false h
section
variable {P : Program} {fn : Func} {n N0 : Nat} {Y Z V : Type} {X : Cx P fn n N0 Y} {e e1 e2 : Option Z} {g : Z → Option Y} {k : List Item} {s : St} {draw : Bool} {ops l rest : List Oper} {acc : List Foot}
  {d : Option Nat} {ty : TypeId} {pos : String} {aft : Array Edge} {gd : Option (Nat × Bool)} {x y z : Operand} {xt yt : TypeId} {kd : IntKind} {a b m : Int}
theorem r_move (A : Asn) (hx : lkp s.sl x = A) (hg : z1k ops.toArray s.sl ⟨d, .move x, ty, pos, aft, gd⟩ true) (h : RT X draw ops l e g rest (⟨[], []⟩ :: acc) ⟨z5y s.sl d A, s.H, s.N⟩ k) :
    RT X draw ops l e g (⟨d, .move x, ty, pos, aft, gd⟩ :: rest) acc s k := by subst hx; exact z3f o_move hg h
theorem r_assign (A : Asn) (hx : lkp s.sl x = A) (hg : z1k ops.toArray s.sl ⟨d, .assign x, ty, pos, aft, gd⟩ true) (h : RT X draw ops l e g rest (⟨[], []⟩ :: acc) ⟨z5y s.sl d A, s.H, s.N⟩ k) :
    RT X draw ops l e g (⟨d, .assign x, ty, pos, aft, gd⟩ :: rest) acc s k := by subst hx; exact z3f o_assign hg h
theorem z0k (A : Asn) {b : Bool} (hc : lkp s.sl x = z00 b) (hb : b = true) (hx : lkp s.sl y = A) (hg : z1k ops.toArray s.sl ⟨d, .pick x y z, ty, pos, aft, gd⟩ true) (h : RT X draw ops l e g rest (⟨[], []⟩ :: acc) ⟨z5y s.sl d A, s.H, s.N⟩ k) :
    RT X draw ops l e g (⟨d, .pick x y z, ty, pos, aft, gd⟩ :: rest) acc s k := by
  subst hx; subst hb; exact z3f (by simpa using o_pick hc) hg h
theorem z0h (A : Asn) {b : Bool} (hc : lkp s.sl x = z00 b) (hb : b = false) (hx : lkp s.sl z = A) (hg : z1k ops.toArray s.sl ⟨d, .pick x y z, ty, pos, aft, gd⟩ true) (h : RT X draw ops l e g rest (⟨[], []⟩ :: acc) ⟨z5y s.sl d A, s.H, s.N⟩ k) :
    RT X draw ops l e g (⟨d, .pick x y z, ty, pos, aft, gd⟩ :: rest) acc s k := by
  subst hx; subst hb; exact z3f (by simpa using o_pick hc) hg h
theorem z1l (m : Int) (hx : lkp s.sl x = z1z kd a) (hy : lkp s.sl y = z1z kd b) (hm : kd.wrap (a + b) = m) (hg : z1k ops.toArray s.sl ⟨d, .binOp .add xt x y yt, ty, pos, aft, gd⟩ true)
    (h : RT X draw ops l e g rest (⟨[], []⟩ :: acc) ⟨z5y s.sl d (z1z kd m), s.H, s.N⟩ k) : RT X draw ops l e g (⟨d, .binOp .add xt x y yt, ty, pos, aft, gd⟩ :: rest) acc s k := z3f (o_arith (.inl ⟨rfl, hm⟩) hx hy) hg h
theorem z7z (m : Int) (hx : lkp s.sl x = z1z kd a) (hy : lkp s.sl y = z1z kd b) (hm : kd.wrap (a - b) = m) (hg : z1k ops.toArray s.sl ⟨d, .binOp .sub xt x y yt, ty, pos, aft, gd⟩ true)
    (h : RT X draw ops l e g rest (⟨[], []⟩ :: acc) ⟨z5y s.sl d (z1z kd m), s.H, s.N⟩ k) : RT X draw ops l e g (⟨d, .binOp .sub xt x y yt, ty, pos, aft, gd⟩ :: rest) acc s k := z3f (o_arith (.inr (.inl ⟨rfl, hm⟩)) hx hy) hg h
theorem r_mul (m : Int) (hx : lkp s.sl x = z1z kd a) (hy : lkp s.sl y = z1z kd b) (hm : kd.wrap (a * b) = m) (hg : z1k ops.toArray s.sl ⟨d, .binOp .mul xt x y yt, ty, pos, aft, gd⟩ true)
    (h : RT X draw ops l e g rest (⟨[], []⟩ :: acc) ⟨z5y s.sl d (z1z kd m), s.H, s.N⟩ k) : RT X draw ops l e g (⟨d, .binOp .mul xt x y yt, ty, pos, aft, gd⟩ :: rest) acc s k := z3f (o_arith (.inr (.inr ⟨rfl, hm⟩)) hx hy) hg h
theorem z1o (hx : lkp s.sl x = z1z kd a) (hy : lkp s.sl y = z1z kd b) (hg : z1k ops.toArray s.sl ⟨d, .binOp .lss xt x y yt, ty, pos, aft, gd⟩ true)
    (h : RT X draw ops l e g rest (⟨[], []⟩ :: acc) ⟨z5y s.sl d (z00 (decide (a < b))), s.H, s.N⟩ k) : RT X draw ops l e g (⟨d, .binOp .lss xt x y yt, ty, pos, aft, gd⟩ :: rest) acc s k := z3f (o_cmp (.inl ⟨rfl, Iff.rfl⟩) hx hy) hg h
theorem z8c (hx : lkp s.sl x = z1z kd a) (hy : lkp s.sl y = z1z kd b) (hg : z1k ops.toArray s.sl ⟨d, .binOp .leq xt x y yt, ty, pos, aft, gd⟩ true)
    (h : RT X draw ops l e g rest (⟨[], []⟩ :: acc) ⟨z5y s.sl d (z00 (decide (a ≤ b))), s.H, s.N⟩ k) : RT X draw ops l e g (⟨d, .binOp .leq xt x y yt, ty, pos, aft, gd⟩ :: rest) acc s k := z3f (o_cmp (.inr (.inl ⟨rfl, Iff.rfl⟩)) hx hy) hg h
theorem z3a (hx : lkp s.sl x = z1z kd a) (hy : lkp s.sl y = z1z kd b) (hg : z1k ops.toArray s.sl ⟨d, .binOp .gtr xt x y yt, ty, pos, aft, gd⟩ true)
    (h : RT X draw ops l e g rest (⟨[], []⟩ :: acc) ⟨z5y s.sl d (z00 (decide (b < a))), s.H, s.N⟩ k) : RT X draw ops l e g (⟨d, .binOp .gtr xt x y yt, ty, pos, aft, gd⟩ :: rest) acc s k := z3f (o_cmp (.inr (.inr (.inl ⟨rfl, Iff.rfl⟩))) hx hy) hg h
theorem z3c (hx : lkp s.sl x = z1z kd a) (hy : lkp s.sl y = z1z kd b) (hg : z1k ops.toArray s.sl ⟨d, .binOp .geq xt x y yt, ty, pos, aft, gd⟩ true)
    (h : RT X draw ops l e g rest (⟨[], []⟩ :: acc) ⟨z5y s.sl d (z00 (decide (b ≤ a))), s.H, s.N⟩ k) : RT X draw ops l e g (⟨d, .binOp .geq xt x y yt, ty, pos, aft, gd⟩ :: rest) acc s k := z3f (o_cmp (.inr (.inr (.inr (.inl ⟨rfl, Iff.rfl⟩)))) hx hy) hg h
theorem z2y (hx : lkp s.sl x = z1z kd a) (hy : lkp s.sl y = z1z kd b) (hg : z1k ops.toArray s.sl ⟨d, .binOp .eql xt x y yt, ty, pos, aft, gd⟩ true)
    (h : RT X draw ops l e g rest (⟨[], []⟩ :: acc) ⟨z5y s.sl d (z00 (decide (a = b))), s.H, s.N⟩ k) : RT X draw ops l e g (⟨d, .binOp .eql xt x y yt, ty, pos, aft, gd⟩ :: rest) acc s k := z3f (o_cmp (.inr (.inr (.inr (.inr (.inl ⟨rfl, Iff.rfl⟩))))) hx hy) hg h
theorem z2a (hx : lkp s.sl x = z1z kd a) (hy : lkp s.sl y = z1z kd b) (hg : z1k ops.toArray s.sl ⟨d, .binOp .neq xt x y yt, ty, pos, aft, gd⟩ true)
    (h : RT X draw ops l e g rest (⟨[], []⟩ :: acc) ⟨z5y s.sl d (z00 (decide (¬ a = b))), s.H, s.N⟩ k) : RT X draw ops l e g (⟨d, .binOp .neq xt x y yt, ty, pos, aft, gd⟩ :: rest) acc s k := z3f (o_cmp (.inr (.inr (.inr (.inr (.inr ⟨rfl, Iff.rfl⟩))))) hx hy) hg h
theorem z2x {b : Bool} (hx : lkp s.sl x = z00 b) (hg : z1k ops.toArray s.sl ⟨d, .unOp .not xt x, ty, pos, aft, gd⟩ true) (h : RT X draw ops l e g rest (⟨[], []⟩ :: acc) ⟨z5y s.sl d (z00 (!b)), s.H, s.N⟩ k) :
    RT X draw ops l e g (⟨d, .unOp .not xt x, ty, pos, aft, gd⟩ :: rest) acc s k := z3f (o_not hx) hg h
theorem z11 {T : Nat} (A : Asn) {As Bs : List Asn} (hT : scalT P T = true) (hx : lkp s.sl x = z1r Bs) (hB : Bs = A :: As) (hg : z1k ops.toArray s.sl ⟨d, .load T x, ty, pos, aft, gd⟩ true)
    (h : RT X draw ops l e g rest (⟨[], []⟩ :: acc) ⟨z5y s.sl d A, s.H, s.N⟩ k) : RT X draw ops l e g (⟨d, .load T x, ty, pos, aft, gd⟩ :: rest) acc s k := by subst hB; exact z3f (o_load hT hx) hg h
theorem z14 {T m : Nat} {As : List Asn} (Bs : List Asn) (hT : aggT P T = some m) (hx : lkp s.sl x = z1r As) (hB : As.take m = Bs) (hm : Bs.length = m) (hg : z1k ops.toArray s.sl ⟨d, .load T x, ty, pos, aft, gd⟩ true)
    (h : RT X draw ops l e g rest (⟨[], []⟩ :: acc) ⟨z5y s.sl d (z0w Bs), s.H, s.N⟩ k) : RT X draw ops l e g (⟨d, .load T x, ty, pos, aft, gd⟩ :: rest) acc s k := z3f (o_loadAgg hT hx hB hm) hg h
theorem z1a {α : Type} {T w : Nat} {cc : α → List Asn} {xs : List α} (hT : z6p P T = true) (hx : lkp s.sl x = AL w cc xs) (hg : z1k ops.toArray s.sl ⟨d, .call ⟨.builtin .len, #[x], #[T]⟩, ty, pos, aft, gd⟩ true)
    (h : RT X draw ops l e g rest (⟨[], []⟩ :: acc) ⟨z5y s.sl d (z1z .i64 (xs.length : Int)), s.H, s.N⟩ k) : RT X draw ops l e g (⟨d, .call ⟨.builtin .len, #[x], #[T]⟩, ty, pos, aft, gd⟩ :: rest) acc s k := z3f (o_len hT hx (by simp)) hg h
theorem r_lenS {T : Nat} {b : ByteArray} (hT : isStr P T = true) (hx : lkp s.sl x = z1h b) (hg : z1k ops.toArray s.sl ⟨d, .call ⟨.builtin .len, #[x], #[T]⟩, ty, pos, aft, gd⟩ true)
    (h : RT X draw ops l e g rest (⟨[], []⟩ :: acc) ⟨z5y s.sl d (z1z .i64 (b.size : Int)), s.H, s.N⟩ k) : RT X draw ops l e g (⟨d, .call ⟨.builtin .len, #[x], #[T]⟩, ty, pos, aft, gd⟩ :: rest) acc s k := z3f (o_lenStr hT hx) hg h
theorem z2k {α : Type} [Inhabited α] {T E w : Nat} {cc : α → List Asn} {xs : List α} {j : Int} (hT : elemT P T = some (E, w)) (hx : lkp s.sl x = AL w cc xs) (hy : lkp s.sl y = z1z kd j) (h0 : 0 ≤ j) (h1 : j < (xs.length : Int))
    (hg : z1k ops.toArray s.sl ⟨d, .indexAddr T x y, ty, pos, aft, gd⟩ true) (h : RT X draw ops l e g rest (⟨[], []⟩ :: acc) ⟨z5y s.sl d (z1r (cc (nth xs j))), s.H, s.N⟩ k) :
    RT X draw ops l e g (⟨d, .indexAddr T x y, ty, pos, aft, gd⟩ :: rest) acc s k := z3f (o_index hT hx hy h0 (AL_get h0 h1)) hg h
theorem r_box {E : TypeId} (As : List Asn) (A : Asn) (hx : lkp s.sl x = A) (hA : valAs A As) (hk : ∀ k, z39 As k → A.keys k) (hg : z1k ops.toArray s.sl ⟨d, .box E x, ty, pos, aft, gd⟩ true)
    (h : RT X draw ops l e g rest (⟨[], []⟩ :: acc) ⟨z5y s.sl d (z1r As), s.H, s.N⟩ k) : RT X draw ops l e g (⟨d, .box E x, ty, pos, aft, gd⟩ :: rest) acc s k := z3f (o_box (by rw [hx]; exact hA) (by rw [hx]; exact hk)) hg h
theorem z20 {i : Nat} {As : List Asn} (A : Asn) (hx : lkp s.sl x = z35 As) (hi : As[i]? = some A) (hg : z1k ops.toArray s.sl ⟨d, .extract x i, ty, pos, aft, gd⟩ true)
    (h : RT X draw ops l e g rest (⟨[], []⟩ :: acc) ⟨z5y s.sl d A, s.H, s.N⟩ k) : RT X draw ops l e g (⟨d, .extract x i, ty, pos, aft, gd⟩ :: rest) acc s k := z3f (o_extract hx hi) hg h
def z26 (P : Program) (f : FuncId) : Prop := ∃ fn, P.funcs[f]? = some fn ∧ (fn.name == "runtime.NumGoroutine") = false ∧ fn.body.isNone = false
theorem z0j {f : FuncId} {xs : List Operand} {ts : Array TypeId} (args : List Asn) {r : Asn} (hF : z26 P f) (hc : FnP P f args r) (ha : xs.map (lkp s.sl) = args) (hg : z1k ops.toArray s.sl ⟨d, .call ⟨.value (.func f), xs.toArray, ts⟩, ty, pos, aft, gd⟩ true)
    (h : RT X draw ops l e g rest (⟨[], []⟩ :: acc) ⟨z5y s.sl d r, s.H, s.N⟩ k) : RT X draw ops l e g (⟨d, .call ⟨.value (.func f), xs.toArray, ts⟩, ty, pos, aft, gd⟩ :: rest) acc s k := by
  obtain ⟨fn, h1, h2, h3⟩ := hF
  exact z3f (o_call_gen (caps := []) h1 h2 h3 hc rfl (by simpa using ha)) hg h
theorem za6 {α β : Type} {xs : List Operand} {ts : Array TypeId} {ga : α → List Asn} {rt : β → Asn} {gg : α → Option β} {u : α} {w : β} (hy : lkp s.sl y = AFn P ga rt gg) (ha : xs.map (lkp s.sl) = ga u) (hgg : gg u = some w) (hk : ∀ k, ¬ (rt w).keys k)
    (hg : z1k ops.toArray s.sl ⟨d, .call ⟨.value y, xs.toArray, ts⟩, ty, pos, aft, gd⟩ true) (h : RT X draw ops l e g rest (⟨[], []⟩ :: acc) ⟨z5y s.sl d (rt w), s.H, s.N⟩ k) :
    RT X draw ops l e g (⟨d, .call ⟨.value y, xs.toArray, ts⟩, ty, pos, aft, gd⟩ :: rest) acc s k := z3f (o_callFn hy ha hgg hk) hg h
end
theorem J_fact {P : Program} {fn : Func} {n N0 : Nat} {Y Z : Type} {X : Cx P fn n N0 Y} {e : Option Z} {g : Z → Option Y} {k : List Item} {s : St} (t : Nat) {p : Prop} (hf : ∀ η v, (s.sl t).p η v → p) (h : p → J X e g k s) : J X e g k s :=
  fun r hr η a hrel => h (hf η _ (hrel.slots t)) r hr η a hrel
theorem z0o {P : Program} {fn : Func} {n N0 : Nat} {Y Z : Type} {X : Cx P fn n N0 Y} {e : Option Z} {g : Z → Option Y} {k : List Item} {s : St} (t : Nat) {m : Int} (ht : s.sl t = z1z .i64 m) (h : -9223372036854775808 ≤ m ∧ m ≤ 9223372036854775807 → J X e g k s) : J X e g k s :=
  J_fact t (p := -9223372036854775808 ≤ m ∧ m ≤ 9223372036854775807) (fun η v hv => by rw [ht] at hv; have := hv.2; simpa [IntKind.has, IntKind.min, IntKind.max, IntKind.signed, IntKind.bits] using this) h
theorem z0z {m : Int} (h0 : -9223372036854775808 ≤ m) (h1 : m ≤ 9223372036854775807) : IntKind.i64.wrap m = m := IntWalk.i64_in m ⟨h0, h1⟩
theorem weak_slots {s : St} (sl : Nat → Asn) (h : ∀ t, sl t = s.sl t ∨ sl t = ATop) : Weak s ⟨sl, s.H, s.N⟩ := by
  intro c η a hr
  refine ⟨η, rfl, ⟨fun t => ?_, hr.heap, ⟨fun t k hk => ?_, hr.below.dom, hr.below.cont⟩, hr.defers, hr.size, hr.ref, hr.nle⟩⟩
  · rcases h t with e | e
    · show (sl t).p η _; rw [e]; exact hr.slots t
    · show (sl t).p η _; rw [e]; trivial
  · rcases h t with e | e
    · refine hr.below.sl t k ?_
      have : (sl t).keys k := hk
      rwa [e] at this
    · have : (sl t).keys k := hk
      rw [e] at this; exact this.elim
def fr : List (Nat × Asn) → Nat → Asn
  | [], _ => ATop
  | (i, A) :: r, t => bif Nat.beq t i then A else fr r t
inductive Agrees (sl : Nat → Asn) : List (Nat × Asn) → Prop
  | nil : Agrees sl []
  | cons {i : Nat} {A : Asn} {r : List (Nat × Asn)} (h : sl i = A) (t : Agrees sl r) : Agrees sl ((i, A) :: r)
theorem Agrees.spec {sl : Nat → Asn} {L : List (Nat × Asn)} (h : Agrees sl L) : ∀ t, fr L t = sl t ∨ fr L t = ATop := by
  induction h with
  | nil => intro t; exact .inr rfl
  | @cons i A r h _ ih =>
    intro t
    simp only [fr]
    cases hb : Nat.beq t i
    · exact ih t
    · have : t = i := Nat.eq_of_beq_eq_true hb
      subst this; exact .inl h.symm
theorem J_to {P : Program} {fn : Func} {n N0 : Nat} {Y Z : Type} {X : Cx P fn n N0 Y} {e : Option Z} {g : Z → Option Y} {k : List Item} {s : St} (L : List (Nat × Asn)) (ha : Agrees s.sl L) (h : J X e g k ⟨fr L, s.H, s.N⟩) : J X e g k s :=
  J_weak (weak_slots (fr L) ha.spec) h
end Go.Proofs.YtngimdmkomkeoaaGreat.K
