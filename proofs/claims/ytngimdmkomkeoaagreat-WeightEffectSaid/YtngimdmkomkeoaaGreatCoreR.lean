/- More rules: the length of a nil slice; a call that borrows objects and makes a row of its own. -/
import Derived.Test.YtngimdmkomkeoaaGreatCoreQ
import Derived.Laws.StandIn
set_option linter.unusedVariables false
set_option linter.unusedSimpArgs false
namespace Go.Proofs.YtngimdmkomkeoaaGreat.K
open Go.RowKit

section
variable {P : Program} {c : Ctx} {lk : Operand → Asn} {d : Option Nat} {ty : TypeId} {pos : String} {aft : Array Edge} {gd : Option (Nat × Bool)}
theorem o_lenNil {T : Nat} {x : Operand} (hT : isSlice P T = true) (hx : lk x = ANil) : OpRule P c ⟨d, .call ⟨.builtin .len, #[x], #[T]⟩, ty, pos, aft, gd⟩ lk [] [] [] (AInt .i64 0) := by
  refine mkPure (by intro cs b h; cases h) (fun k h => h.elim) fun η ρo H _ ho => ?_
  have hh := ho x (by simp [Op.operands, Call.operands]); rw [hx] at hh
  have e : ρo x = .slice none 0 0 := hh
  have hsl : ∃ el, P.underlying T = some (.slice el) := by
    unfold isSlice at hT; split at hT
    · exact ⟨_, by assumption⟩
    · cases hT
  obtain ⟨el, hel⟩ := hsl
  exact ⟨.int .i64 0, by simp [execOp, resolve, invoke, builtin, e, Builtin.len_, run_underlying hel, goInt], rfl, by simp [IntKind.has, IntKind.min, IntKind.max, IntKind.signed, IntKind.bits]⟩

def bitXor (k : IntKind) (a b : Int) : Int := k.wrap ((BitVec.ofInt k.bits a ^^^ BitVec.ofInt k.bits b).toNat : Int)
def bitOr (k : IntKind) (a b : Int) : Int := k.wrap ((BitVec.ofInt k.bits a ||| BitVec.ofInt k.bits b).toNat : Int)
theorem o_xor {k : IntKind} {a b : Int} {x y : Operand} {xt yt : TypeId} (hx : lk x = AInt k a) (hy : lk y = AInt k b) : OpRule P c ⟨d, .binOp .xor xt x y yt, ty, pos, aft, gd⟩ lk [] [] [] (AInt k (bitXor k a b)) := by
  refine mkPure (by intro cs b h; cases h) (fun k h => h.elim) fun η ρo H _ ho => ?_
  have h1 := ho x (by simp [Op.operands]); rw [hx] at h1; obtain ⟨h1, h3⟩ := h1
  have h2 := ho y (by simp [Op.operands]); rw [hy] at h2; obtain ⟨h2, _⟩ := h2
  exact ⟨.int k (bitXor k a b), by simp [execOp, h1, h2, eqGuard_at_int, binOp, Op.intBits, bitXor], rfl, has_wrap _ _⟩
theorem o_or {k : IntKind} {a b : Int} {x y : Operand} {xt yt : TypeId} (hx : lk x = AInt k a) (hy : lk y = AInt k b) : OpRule P c ⟨d, .binOp .or xt x y yt, ty, pos, aft, gd⟩ lk [] [] [] (AInt k (bitOr k a b)) := by
  refine mkPure (by intro cs b h; cases h) (fun k h => h.elim) fun η ρo H _ ho => ?_
  have h1 := ho x (by simp [Op.operands]); rw [hx] at h1; obtain ⟨h1, h3⟩ := h1
  have h2 := ho y (by simp [Op.operands]); rw [hy] at h2; obtain ⟨h2, _⟩ := h2
  exact ⟨.int k (bitOr k a b), by simp [execOp, h1, h2, eqGuard_at_int, binOp, Op.intBits, bitOr], rfl, has_wrap _ _⟩
theorem o_shl {k k' : IntKind} {a b m : Int} {x y : Operand} {xt yt : TypeId} (h0 : 0 ≤ b) (hm : k.wrap (a * 2 ^ (min b.toNat k.bits)) = m) (hx : lk x = AInt k a) (hy : lk y = AInt k' b) : OpRule P c ⟨d, .binOp .shl xt x y yt, ty, pos, aft, gd⟩ lk [] [] [] (AInt k m) := by
  refine mkPure (by intro cs b h; cases h) (fun k h => h.elim) fun η ρo H _ ho => ?_
  have h1 := ho x (by simp [Op.operands]); rw [hx] at h1; obtain ⟨h1, h3⟩ := h1
  have h2 := ho y (by simp [Op.operands]); rw [hy] at h2; obtain ⟨h2, _⟩ := h2
  subst hm
  exact ⟨.int k (k.wrap (a * 2 ^ (min b.toNat k.bits))), by simp [execOp, h1, h2, eqGuard_at_int, binOp, Op.shift, Int.not_lt.2 h0], rfl, has_wrap _ _⟩
/-- the first place of a byte in a string, or -1 -/
def byteIx (s : ByteArray) (c : Int) : Int := match (List.range s.size).find? fun i => s[i]! == c.toNat.toUInt8 with
  | some i => (i : Int)
  | none => -1
/-- f is the function without a body that looks for a byte in a string -/
def IsIxByte (P : Program) (f : FuncId) : Prop := ∃ fn, P.funcs[f]? = some fn ∧ (fn.name == "runtime.NumGoroutine") = false ∧ fn.body = none ∧ Extern.findNext fn = none ∧ Extern.find fn = some Extern.BytealgIndexByte.indexByte
theorem o_ixByte {f : FuncId} {x y : Operand} {s : ByteArray} {n : Int} {ts : Array TypeId} (hF : IsIxByte P f) (hx : lk x = AStr s) (hy : lk y = AInt .u8 n) (hf : lk (.func f) = AClo f []) : OpRule P c ⟨d, .call ⟨.value (.func f), #[x, y], ts⟩, ty, pos, aft, gd⟩ lk [] [] [] (AInt .i64 (byteIx s n)) := by
  refine mkPure (by intro cs b h; cases h) (fun k h => h.elim) fun η ρo H _ ho => ?_
  obtain ⟨fn, g1, g2, g3, g4, g5⟩ := hF
  have h1 := ho x (by simp [Op.operands, Call.operands]); rw [hx] at h1; obtain ⟨h1, h3⟩ := h1
  have h2 := ho y (by simp [Op.operands, Call.operands]); rw [hy] at h2; obtain ⟨h2, _⟩ := h2
  have hv := ho (.func f) (by simp [Op.operands, Call.operands]); rw [hf] at hv
  obtain ⟨vs, e, hvs⟩ := hv
  have hvs0 : vs = #[] := by
    have := hvs.length; simp at this; exact Array.eq_empty_of_size_eq_zero this.symm
  subst hvs0
  have hg : fn.name ≠ "runtime.NumGoroutine" := by simpa using g2
  have hrun : (callFunc f #[.string s, .int .u8 n]).run P η.w = .ok (.value (.int .i64 (byteIx s n))) η.w := by
    have e : Extern.BytealgIndexByte.indexByte #[.string s, .int .u8 n] = (match (List.range s.size).find? fun i => s[i]! == n.toNat.toUInt8 with
      | some i => pure (goInt i)
      | none => pure (goInt (-1)) : Sem Value) := rfl
    rw [run_callFunc_indexByte g1 g2 (by rw [g3]; rfl) g4 g5, e]
    unfold byteIx
    split <;> simp [goInt]
  refine ⟨.int .i64 (byteIx s n), ?_, rfl, ?_⟩
  · simp only [execOp, resolve, e, Deferred.ofValue, Sem.run_bind, Sem.run_pure, Result.andThen_ok, invoke]
    simpa [h1, h2] using hrun
  · unfold byteIx
    unfold maxLen at h3
    split
    · rename_i i hi
      have := List.mem_of_find?_eq_some hi
      simp at this
      simp [IntKind.has, IntKind.min, IntKind.max, IntKind.signed, IntKind.bits]; omega
    · simp [IntKind.has, IntKind.min, IntKind.max, IntKind.signed, IntKind.bits]

/-- a call that borrows owned objects and makes one row of scalars -/
theorem o_callKB {f : FuncId} {xs : List Operand} {ts : Array TypeId} {args : List Asn} {need : List (Nat × Cont)} {E n K : Nat} {rows : List (List Asn)} (hF : IsFn P f) (hc : FnK P f 0 [] args [(0, .row E n rows)] (AObj 0)) (hs : ScalL rows.flatten) (hnk : ∀ k, ¬ keysOf rows.flatten k)
    (hn1 : ∀ k x, (k, x) ∈ need → hp need k = some x) (ha : CvL (hp need) (fun k => memB k (need.map (·.1))) id (fun _ => false) (fun _ => true) (xs.map lk) args) (hy : lk (.func f) = AClo f []) :
    OpRule P c ⟨d, .call ⟨.value (.func f), xs.toArray, ts⟩, ty, pos, aft, gd⟩ lk need [(K, some (.row E n rows))] [K] (AObj K) where
  run := by
    intro η ρo H hH hop hn hfr _
    obtain ⟨fn, hf, hnn, hb⟩ := hF
    have hv := hop (.func f) (by simp [Op.operands, Call.operands])
    rw [hy] at hv
    obtain ⟨vs, e, hvs⟩ := hv
    have hvs0 : vs = #[] := by
      have := hvs.length; simp at this; exact Array.eq_empty_of_size_eq_zero this.symm
    subst hvs0
    have hH' : HeapOk c η (hp need) := hH.sub fun k x hk => hn k x (hp_mem hk)
    have hall0 : All2 η (xs.map lk) (xs.map ρo) := map_all2 (fun x hx => hop x (by simp [Op.operands, Call.operands, hx]))
    have hall := ha.all2 hH' hall0
    unfold Exec
    have hrun : (execOp ρo ⟨d, .call ⟨.value (.func f), xs.toArray, ts⟩, ty, pos, aft, gd⟩).run P η.w = .ok (.enter f (xs.toArray.map ρo)) η.w := by
      simp only [execOp, resolve, e, Deferred.ofValue, Sem.run_bind, Sem.run_pure, Result.andThen_ok, invoke]
      simpa using run_callFunc (args := xs.toArray.map ρo) (w := η.w) hf hnn hb
    rw [hrun]
    let η1 := cvE (hp need) (fun k => memB k (need.map (·.1))) id (fun _ => false) η
    have hlt : ∀ b, η1.I b → b < η.w.heap.size := by
      rintro b (hb | ⟨k, x, _, h2, h3⟩)
      · exact hH.lt b hb
      · exact (hH'.own k x b h2 h3).2.1
    have h0 : HeapOk (inC η1 0 0 []) η1 (hp []) := by
      have := HeapOk.init (η := η1) (n := 0) hlt
      exact ⟨fun k x h => (by cases h), fun k x b h => (by cases h), fun k k' x x' b h => (by cases h), hlt, fun b hb => .inl hb, this.old, Nat.le_refl _, fun _ _ _ => rfl, rfl, rfl, rfl⟩
    refine (hc η1 (xs.toArray.map ρo) h0 (by simpa using hall)).mono ?_
    rintro e' w' ⟨v, η2, rfl, rfl, h2, hrv, _⟩
    have keep : ∀ b, b < η.w.heap.size → η2.w.heap[b]? = η.w.heap[b]? := fun b hb => h2.keep b hb fun ⟨k, x, hk, _⟩ => by simp at hk
    have h2s : η.w.heap.size ≤ η2.w.heap.size := h2.size
    have he : Ext η η.I η2.w := ⟨h2s, keep, fun _ h => h, fun _ h => .inl h, fun b hb => Nat.lt_of_lt_of_le (hH.lt b hb) h2s, h2.os, h2.tape, h2.output⟩
    have h3 := hH.ext he
    obtain ⟨rfl, hone⟩ : v = η2.ρ 0 ∧ v.oneCell' = true := hrv
    have hold := h2.holds 0 _ rfl
    have hown : ∀ b, blk (η2.ρ 0) = some b → η.w.heap.size ≤ b ∧ b < η2.w.heap.size := fun b hb => by
      obtain ⟨_, q2, q3⟩ := h2.own 0 _ b rfl hb
      refine ⟨?_, q2⟩
      rcases q3 with q3 | ⟨k, x, hk, _⟩
      · exact q3
      · simp at hk
    have hx : Holds ⟨η2.w, η.I, η.ρ⟩ (η2.ρ 0) (.row E n rows) := by
      obtain ⟨r1, ys, r2, r3⟩ := hold
      exact ⟨r1, ys, r2, hs.sc _ _ _ r3⟩
    have hK := hfr K (List.mem_singleton.2 rfl)
    have h4 := h3.add K (η2.ρ 0) (.row E n rows) hK.1 hK.2 (hnk K) hx (fun b hb => by
      obtain ⟨q1, q2⟩ := hown b hb
      exact ⟨fun hI => (by have := hH.lt b hI; omega), q2, .inl (Nat.le_trans hH.size q1)⟩) (fun b k y hb hk hbk => by
      have := (hH.own k y b hk hbk).2.1
      have := (hown b hb).1
      omega)
    refine ⟨η2.ρ 0, rfl, ⟨η2.w, η.I, fun j => if j = K then η2.ρ 0 else η.ρ j⟩, rfl, ⟨fun _ h => h, fun b hb => keep b (hH.lt b hb), fun k hk => ?_⟩, h4, ?_⟩
    · have : k ≠ K := fun e => hk (by simp [e])
      simp [this]
    · exact ⟨by simp, hone⟩
  keys := fun k h => .inr (.inr (by have : k = K := h; simp [this]))
  ukeys := fun j x h k hk => by
    simp only [List.mem_singleton, Prod.mk.injEq, Option.some.injEq] at h
    obtain ⟨_, rfl⟩ := h
    exact absurd hk (hnk k)
  dom := fun j x h => by
    simp only [List.mem_singleton, Prod.mk.injEq] at h
    exact .inr (by simp [h.1])
  sel := by intro cs b h; cases h
end
section
variable {P : Program} {fn : Func} {n N0 : Nat} {Y Z : Type} {X : Cx P fn n N0 Y} {e : Option Z} {g : Z → Option Y} {k : List Item} {s : St} {draw : Bool} {ops l rest : List Oper} {acc : List Foot} {x : Operand} {d : Option Nat} {ty : TypeId} {pos : String} {aft : Array Edge} {gd : Option (Nat × Bool)}
theorem r_lenN {T : Nat} (hT : isSlice P T = true) (hx : lkp s.sl x = ANil) (hg : GuardIs ops.toArray s.sl ⟨d, .call ⟨.builtin .len, #[x], #[T]⟩, ty, pos, aft, gd⟩ true)
    (h : RT X draw ops l e g rest (⟨[], []⟩ :: acc) ⟨putS s.sl d (AInt .i64 0), s.H, s.N⟩ k) : RT X draw ops l e g (⟨d, .call ⟨.builtin .len, #[x], #[T]⟩, ty, pos, aft, gd⟩ :: rest) acc s k := R_pure (o_lenNil hT hx) hg h
theorem r_xor {kd : IntKind} {a b : Int} {y : Operand} {xt yt : TypeId} (hx : lkp s.sl x = AInt kd a) (hy : lkp s.sl y = AInt kd b) (hg : GuardIs ops.toArray s.sl ⟨d, .binOp .xor xt x y yt, ty, pos, aft, gd⟩ true)
    (h : RT X draw ops l e g rest (⟨[], []⟩ :: acc) ⟨putS s.sl d (AInt kd (bitXor kd a b)), s.H, s.N⟩ k) : RT X draw ops l e g (⟨d, .binOp .xor xt x y yt, ty, pos, aft, gd⟩ :: rest) acc s k := R_pure (o_xor hx hy) hg h
theorem r_or {kd : IntKind} {a b : Int} {y : Operand} {xt yt : TypeId} (hx : lkp s.sl x = AInt kd a) (hy : lkp s.sl y = AInt kd b) (hg : GuardIs ops.toArray s.sl ⟨d, .binOp .or xt x y yt, ty, pos, aft, gd⟩ true)
    (h : RT X draw ops l e g rest (⟨[], []⟩ :: acc) ⟨putS s.sl d (AInt kd (bitOr kd a b)), s.H, s.N⟩ k) : RT X draw ops l e g (⟨d, .binOp .or xt x y yt, ty, pos, aft, gd⟩ :: rest) acc s k := R_pure (o_or hx hy) hg h
theorem r_shl {kd kd' : IntKind} {a b : Int} {y : Operand} {xt yt : TypeId} (m : Int) (hx : lkp s.sl x = AInt kd a) (hy : lkp s.sl y = AInt kd' b) (h0 : 0 ≤ b) (hm : kd.wrap (a * 2 ^ (min b.toNat kd.bits)) = m) (hg : GuardIs ops.toArray s.sl ⟨d, .binOp .shl xt x y yt, ty, pos, aft, gd⟩ true)
    (h : RT X draw ops l e g rest (⟨[], []⟩ :: acc) ⟨putS s.sl d (AInt kd m), s.H, s.N⟩ k) : RT X draw ops l e g (⟨d, .binOp .shl xt x y yt, ty, pos, aft, gd⟩ :: rest) acc s k := R_pure (o_shl h0 hm hx hy) hg h
theorem r_ixByte {f : FuncId} {u : ByteArray} {b : Int} {y : Operand} {ts : Array TypeId} (hF : IsIxByte P f) (hx : lkp s.sl x = AStr u) (hy : lkp s.sl y = AInt .u8 b) (hg : GuardIs ops.toArray s.sl ⟨d, .call ⟨.value (.func f), #[x, y], ts⟩, ty, pos, aft, gd⟩ true)
    (h : RT X draw ops l e g rest (⟨[], []⟩ :: acc) ⟨putS s.sl d (AInt .i64 (byteIx u b)), s.H, s.N⟩ k) : RT X draw ops l e g (⟨d, .call ⟨.value (.func f), #[x, y], ts⟩, ty, pos, aft, gd⟩ :: rest) acc s k := R_pure (o_ixByte hF hx hy rfl) hg h
theorem r_callKB {α : Type} {f : FuncId} {xs : List Operand} {ts : Array TypeId} {args : List Asn} {E w : Nat} {cc : α → List Asn} [hs : ScalC cc] [hk : NKC cc] {zs : List α} (K : Nat) (need : List (Nat × Cont)) (As : List Asn) (hF : IsFn P f) (hc : FnK P f 0 [] args [(0, .row E w (zs.map cc))] (AObj 0)) (hn : NeedIn s.H need) (hAs : xs.map (lkp s.sl) = As)
    (ha : CvL (hp need) (fun k => memB k (need.map (·.1))) id (fun _ => false) (fun _ => true) As args) (hN : Nat.ble s.N K = true)
    (hg : GuardIs ops.toArray s.sl ⟨d, .call ⟨.value (.func f), xs.toArray, ts⟩, ty, pos, aft, gd⟩ true)
    (h : RT X draw ops l e g rest (⟨need.map (·.1), [K]⟩ :: acc) ⟨putS s.sl d (AObj K), s.H.upd K (some (.row E w (zs.map cc))), K + 1⟩ k) :
    RT X draw ops l e g (⟨d, .call ⟨.value (.func f), xs.toArray, ts⟩, ty, pos, aft, gd⟩ :: rest) acc s k :=
  R_run (N1 := K + 1) (o_callKB hF hc ⟨fun η η' vs h => by
    have key : ∀ (l : List α) (us : List Value), All2 η (l.map cc).flatten us → All2 η' (l.map cc).flatten us := by
      intro l
      induction l with
      | nil => intro us h; cases h; exact .nil
      | cons a l ih =>
        intro us h
        simp only [List.map_cons, List.flatten_cons] at h ⊢
        have h1 := (h.take (cc a).length)
        have h2 := (h.drop (cc a).length)
        simp only [List.take_left', List.drop_left'] at h1 h2
        have := ((hs.sc a).sc _ _ _ h1).append (ih _ h2)
        rwa [List.take_append_drop] at this
    exact key zs vs h⟩ (NKC.flat cc zs) hn.self (hAs ▸ ha) rfl) hg hn.spec (fun k hk => by simp only [List.mem_singleton] at hk; subst hk; exact ⟨Nat.le_of_ble_eq_true hN, Nat.lt_succ_self _⟩) (by have := Nat.le_of_ble_eq_true hN; omega) h
end

theorem kbl_nk {N : Nat} {As : List Asn} [h : NKL As] : KBL N As := ⟨fun k hk => absurd hk (h.nk k)⟩

/-! ### append from an owned row -/
section
variable {P : Program} {fn : Func} {n N0 : Nat} {Y Z : Type} {X : Cx P fn n N0 Y} {e : Option Z} {g : Z → Option Y} {k : List Item} {s : St} {draw : Bool} {ops l rest : List Oper} {acc : List Foot} {x y : Operand} {d : Option Nat} {ty : TypeId} {pos : String} {aft : Array Edge} {gd : Option (Nat × Bool)}
theorem r_appOO {α : Type} {T E w by_ : Nat} {cc : α → List Asn} [h1 : OneC cc] {xs ys : List α} {K K2 : Nat} (K' : Nat) (hT : appT P T = some (E, w, by_)) (hx : lkp s.sl x = AObj K) (hy : lkp s.sl y = AObj K2) (hH : s.H K = some (.row E w (xs.map cc))) (hH2 : s.H K2 = some (.row E w (ys.map cc))) (hsz : (xs.length + ys.length) * by_ ≤ 140737488355328) (hN : Nat.ble s.N K' = true) (hne : Nat.beq K K' = false)
    (hg : GuardIs ops.toArray s.sl ⟨d, .call ⟨.builtin .append, #[x, y], #[T, T]⟩, ty, pos, aft, gd⟩ true)
    (h : RT X draw ops l e g rest (⟨[K, K2], [K', K]⟩ :: acc) ⟨putS s.sl d (AObj K'), (s.H.upd K none).upd K' (some (.row E w ((xs ++ ys).map cc))), K' + 1⟩ k) :
    RT X draw ops l e g (⟨d, .call ⟨.builtin .append, #[x, y], #[T, T]⟩, ty, pos, aft, gd⟩ :: rest) acc s k := by
  have hne' : K' ≠ K := fun e => by subst e; simp at hne
  have hr := o_appendOO (P := P) (c := X.c) (lk := lkp s.sl) (d := d) (ty := ty) (pos := pos) (aft := aft) (gd := gd) (rows := xs.map cc) (rows2 := ys.map cc) hT hx hy (OneC.flat cc ys) (by simpa using hsz) hne'
  rw [← List.map_append] at hr
  exact R_run (N1 := K' + 1) hr hg (fun j z hj => by
    rcases List.mem_cons.1 hj with e | hj
    · cases e; exact hH
    · cases List.mem_singleton.1 hj; exact hH2) (one_new hN) (Nat.le_succ_of_le (Nat.le_of_ble_eq_true hN)) h
theorem r_app0O {α : Type} {T E w by_ : Nat} {cc : α → List Asn} [h1 : OneC cc] {ys : List α} {K K2 : Nat} (K' : Nat) (hT : appT P T = some (E, w, by_)) (hx : lkp s.sl x = AObj K) (hy : lkp s.sl y = AObj K2) (hH : s.H K = some (.row E w [])) (hH2 : s.H K2 = some (.row E w (ys.map cc))) (hsz : ys.length * by_ ≤ 140737488355328) (hN : Nat.ble s.N K' = true) (hne : Nat.beq K K' = false)
    (hg : GuardIs ops.toArray s.sl ⟨d, .call ⟨.builtin .append, #[x, y], #[T, T]⟩, ty, pos, aft, gd⟩ true)
    (h : RT X draw ops l e g rest (⟨[K, K2], [K', K]⟩ :: acc) ⟨putS s.sl d (AObj K'), (s.H.upd K none).upd K' (some (.row E w (ys.map cc))), K' + 1⟩ k) :
    RT X draw ops l e g (⟨d, .call ⟨.builtin .append, #[x, y], #[T, T]⟩, ty, pos, aft, gd⟩ :: rest) acc s k :=
  r_appOO (cc := cc) (xs := []) (ys := ys) K' hT hx hy hH hH2 (by simpa using hsz) hN hne hg h
theorem r_appNO {α : Type} {T E w by_ : Nat} {cc : α → List Asn} [h1 : OneC cc] {ys : List α} {K2 : Nat} (K' : Nat) (hT : appT P T = some (E, w, by_)) (hx : lkp s.sl x = ANil) (hy : lkp s.sl y = AObj K2) (hH2 : s.H K2 = some (.row E w (ys.map cc))) (hsz : ys.length * by_ ≤ 140737488355328) (hN : Nat.ble s.N K' = true)
    (hg : GuardIs ops.toArray s.sl ⟨d, .call ⟨.builtin .append, #[x, y], #[T, T]⟩, ty, pos, aft, gd⟩ true)
    (h : RT X draw ops l e g rest (⟨[K2], [K']⟩ :: acc) ⟨putS s.sl d (AObj K'), s.H.upd K' (some (.row E w (ys.map cc))), K' + 1⟩ k) :
    RT X draw ops l e g (⟨d, .call ⟨.builtin .append, #[x, y], #[T, T]⟩, ty, pos, aft, gd⟩ :: rest) acc s k :=
  R_run (N1 := K' + 1) (o_appendNO (rows2 := ys.map cc) hT hx hy (OneC.flat cc ys) (by simpa using hsz)) hg (one_need hH2) (one_new hN) (Nat.le_succ_of_le (Nat.le_of_ble_eq_true hN)) h
end
/-! ### short names, for the printed proofs -/
theorem q.{u} {α : Sort u} {a : α} : a = a := rfl
theorem Jq {P : Program} {fn : Func} {n N0 : Nat} {Y Z : Type} {X : Cx P fn n N0 Y} {e : Option Z} {g : Z → Option Y} {k : List Item} {s : St} {ops : List Oper} {id : Nat} {y : Code} (hd : dstsOk n ops = true) (h : RT X false ops ops e g ops [] s (.code y :: k)) : J X e g (.code (.seq (.region id ops.toArray false) y) :: k) s :=
  J_seq (J_region hd h)
theorem Jt {P : Program} {fn : Func} {n N0 : Nat} {Y Z : Type} {X : Cx P fn n N0 Y} {e : Option Z} {g : Z → Option Y} {k : List Item} {s : St} {A : Asn} {rr : Y → Asn} {z : Y} (hΨ : ∀ z η v H, HeapOk X.c η H → (rr z).p η v → X.Ψ z η v) (hres : ResIs X s A) (hz : e.bind g = some z) (hA : A = rr z) : J X e g (.code .ret :: k) s :=
  J_ret hΨ hres fun y hy => by rw [hz] at hy; cases hy; exact hA
theorem Rt {P : Program} {fn : Func} {n N0 : Nat} {Y Z : Type} {X : Cx P fn n N0 Y} {e : Option Z} {g : Z → Option Y} {k : List Item} {s : St} {ops l : List Oper} {acc : List Foot} {t : Nat} {rr : Y → Asn} {z : Y} (hΨ : ∀ z η v H, HeapOk X.c η H → (rr z).p η v → X.Ψ z η v) (hres : fn.results = #[.tmp t]) (hz : e.bind g = some z) (hA : s.sl t = rr z) : RT X false ops l e g [] acc s (.code .ret :: k) :=
  R_nil0 (Jt hΨ (Res_one hres) hz hA)
section
variable {sl : Nat → Asn} {i1 i2 i3 i4 i5 i6 : Nat} {A1 A2 A3 A4 A5 A6 : Asn} {r : List (Nat × Asn)}
theorem Agrees.c2 (h1 : sl i1 = A1) (h2 : sl i2 = A2) (t : Agrees sl r) : Agrees sl ((i1, A1) :: (i2, A2) :: r) := .cons h1 (.cons h2 t)
theorem Agrees.c3 (h1 : sl i1 = A1) (h2 : sl i2 = A2) (h3 : sl i3 = A3) (t : Agrees sl r) : Agrees sl ((i1, A1) :: (i2, A2) :: (i3, A3) :: r) := .cons h1 (.c2 h2 h3 t)
theorem Agrees.c6 (h1 : sl i1 = A1) (h2 : sl i2 = A2) (h3 : sl i3 = A3) (h4 : sl i4 = A4) (h5 : sl i5 = A5) (h6 : sl i6 = A6) (t : Agrees sl r) : Agrees sl ((i1, A1) :: (i2, A2) :: (i3, A3) :: (i4, A4) :: (i5, A5) :: (i6, A6) :: r) := .c3 h1 h2 h3 (.c3 h4 h5 h6 t)
variable {H : Heap} {F : Nat → Bool} {σ : Nat → Nat} {G Q : Nat → Bool}
theorem SlC.s2 (h1 : sl i1 = A1) (h2 : sl i2 = A2) [NK A1] [NK A2] (t : SlC H F σ G Q sl r) : SlC H F σ G Q sl ((i1, A1) :: (i2, A2) :: r) := .same h1 (.same h2 t)
theorem SlC.s3 (h1 : sl i1 = A1) (h2 : sl i2 = A2) (h3 : sl i3 = A3) [NK A1] [NK A2] [NK A3] (t : SlC H F σ G Q sl r) : SlC H F σ G Q sl ((i1, A1) :: (i2, A2) :: (i3, A3) :: r) := .same h1 (.s2 h2 h3 t)
theorem SlC.s6 (h1 : sl i1 = A1) (h2 : sl i2 = A2) (h3 : sl i3 = A3) (h4 : sl i4 = A4) (h5 : sl i5 = A5) (h6 : sl i6 = A6) [NK A1] [NK A2] [NK A3] [NK A4] [NK A5] [NK A6] (t : SlC H F σ G Q sl r) : SlC H F σ G Q sl ((i1, A1) :: (i2, A2) :: (i3, A3) :: (i4, A4) :: (i5, A5) :: (i6, A6) :: r) := .s3 h1 h2 h3 (.s3 h4 h5 h6 t)
end
section
variable {P : Program} {fn : Func} {n N0 : Nat} {Y Z τ : Type} {X : Cx P fn n N0 Y} {e : Option Z} {g : Z → Option Y} {k : List Item} {s : St} {L : List (Nat × Asn)} {Hs : List (Nat × Cont)} {N : Nat}
theorem Jk (h : J X e g k ⟨fr L, s.H, s.N⟩) (ha : Agrees s.sl L) : J X e g k s := J_to L ha h
theorem Jc (F : List Nat) (σ : List (Nat × Nat)) (G : List Nat) (h : J X e g k ⟨fr L, hp Hs, N⟩) (hs : SlC s.H (memB · F) (ren σ) (memB · G) (Nat.blt · N) s.sl L) (hh : HpC s.H (memB · F) (ren σ) (memB · G) (Nat.blt · N) Hs) (hN : Nat.ble N0 N = true) (hσ : ((List.range N0).all fun k => Nat.beq (ren σ k) k && !(memB k G)) = true) : J X e g k s := J_cv F σ G N L Hs hs hh hN hσ h
theorem Jl {F : τ → Option (τ ⊕ Z)} {body : Code} {x0 : τ} (S : τ → List (Nat × Asn)) (ha : Agrees s.sl (S x0)) (h : ∀ E : τ → Option Z, (∀ x, J X (E x) g (.inLoop body :: k) ⟨fr (S x), s.H, s.N⟩) → ∀ x, J X (F x) (way E g) (.code body :: .inLoop body :: k) ⟨fr (S x), s.H, s.N⟩) : J X (Iter F x0) g (.code (.loop body) :: k) s :=
  J_to (S x0) ha (J_it (fun x => ⟨fr (S x), s.H, s.N⟩) h rfl)
theorem Jn {F : τ → Option (τ ⊕ Z)} {body : Code} {x0 : τ} (S : τ → St) (F' : List Nat) (σ : List (Nat × Nat)) (G : List Nat) (h0 : S x0 = ⟨fr L, hp Hs, N⟩) (hs : SlC s.H (memB · F') (ren σ) (memB · G) (Nat.blt · N) s.sl L) (hh : HpC s.H (memB · F') (ren σ) (memB · G) (Nat.blt · N) Hs) (hN : Nat.ble N0 N = true) (hσ : ((List.range N0).all fun k => Nat.beq (ren σ k) k && !(memB k G)) = true)
    (h : ∀ E : τ → Option Z, (∀ x, J X (E x) g (.inLoop body :: k) (S x)) → ∀ x, J X (F x) (way E g) (.code body :: .inLoop body :: k) (S x)) : J X (Iter F x0) g (.code (.loop body) :: k) s :=
  J_cv F' σ G N L Hs hs hh hN hσ (J_it S h h0.symm)
end
abbrev Js := @J_seq
abbrev Jr := @J_region
abbrev R0 := @R_nil0
abbrev Rk := @R_skip
abbrev Ra := @r_assign
abbrev Rm := @r_move
end Go.Proofs.YtngimdmkomkeoaaGreat.K
