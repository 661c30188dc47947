import Derived.Test.YtngimdmkomkeoaaGreatCoreD
set_option linter.unusedVariables false
set_option linter.unusedSimpArgs false
namespace Go.Proofs.YtngimdmkomkeoaaGreat.K
open Go.RowKit
def bV (P : Program) (S f : Nat) : Option Nat :=
  match P.underlying S with
  | some (.struct fs) => match fs[f]? with
    | some fd => match P.info? fd.type with
      | some i => if i.size = 0 then none else some fd.offset
      | none => none
    | none => none
  | _ => none
def dD (P : Program) (T : Nat) : Bool :=
  match P.underlying T with
  | some (.struct _) | some (.array ..) | none => false
  | _ => true
def dz (P : Program) (T : Nat) : Option Nat :=
  match P.underlying T with
  | some (.struct _) | some (.array ..) => (P.info? T).map (·.size)
  | _ => none
def dG (P : Program) (T : Nat) : Option (Nat × Nat) :=
  match P.underlying T with
  | some (.slice e) => (P.info? e).map fun i => (e, i.size)
  | _ => none
def ey (P : Program) (T : Nat) : Bool := match P.underlying T with | some (.slice _) => true | _ => false
def rl (P : Program) (T : Nat) : Bool := match P.underlying T with | some .string => true | _ => false
theorem xC {P : Program} {S f off : Nat} (h : bV P S f = some off) : ∃ fs fd i, P.underlying S = some (.struct fs) ∧ fs[f]? = some fd ∧ P.info? fd.type = some i ∧ i.size ≠ 0 ∧ fd.offset = off := by
  unfold bV at h
  split at h
  · rename_i fs hu
    split at h
    · rename_i fd hf
      split at h
      · rename_i i hi
        split at h
        · cases h
        · exact ⟨fs, fd, i, hu, hf, hi, by assumption, Option.some.inj h⟩
      · cases h
    · cases h
  · cases h
theorem K0 {P : Program} {T : Nat} (h : dD P T = true) : ∃ d, P.underlying T = some d ∧ (∀ fs, d ≠ .struct fs) ∧ (∀ n e, d ≠ .array n e) := by
  unfold dD at h
  split at h
  · cases h
  · cases h
  · cases h
  · rename_i o h1 h2 h3
    cases hu : P.underlying T with
    | none => exact absurd hu h3
    | some d => exact ⟨d, rfl, fun fs e => h1 fs (by rw [hu, e]), fun n e' e => h2 n e' (by rw [hu, e])⟩
theorem IK {P : Program} {T m : Nat} (h : dz P T = some m) : ∃ i, P.info? T = some i ∧ i.size = m ∧ ((∃ fs, P.underlying T = some (.struct fs)) ∨ ∃ n e, P.underlying T = some (.array n e)) := by
  unfold dz at h
  split at h
  · rename_i fs hu; obtain ⟨i, hi, hm⟩ := Option.map_eq_some_iff.1 h; exact ⟨i, hi, hm, .inl ⟨fs, hu⟩⟩
  · rename_i n e hu; obtain ⟨i, hi, hm⟩ := Option.map_eq_some_iff.1 h; exact ⟨i, hi, hm, .inr ⟨n, e, hu⟩⟩
  · cases h
theorem mT {P : Program} {T e n : Nat} (h : dG P T = some (e, n)) : ∃ i, P.underlying T = some (.slice e) ∧ P.info? e = some i ∧ i.size = n := by
  unfold dG at h
  split at h
  · rename_i e' hu
    obtain ⟨i, hi, hm⟩ := Option.map_eq_some_iff.1 h
    simp only [Prod.mk.injEq] at hm
    obtain ⟨rfl, hn⟩ := hm
    exact ⟨i, hu, hi, hn⟩
  · cases h
abbrev AL {α : Type} (n : Nat) (c : α → List ae) (xs : List α) : ae := dR n (xs.map c)
def nth {α : Type} [Inhabited α] (xs : List α) (i : Int) : α := xs.getD i.toNat default
theorem sI {rows : List (List ae)} {n : Nat} (h : ∀ r ∈ rows, r.length = n) : ∀ (i : Nat) (r : List ae), rows[i]? = some r → (rows.flatten.drop (i * n)).take n = r := by
  induction rows with
  | nil => intro i r hi; simp at hi
  | cons q rows ih =>
    intro i r hi
    have hq : q.length = n := h q (by simp)
    cases i with
    | zero => simp at hi; subst hi; simp [hq]
    | succ i =>
      have := ih (fun r hr => h r (by simp [hr])) i r (by simpa using hi)
      rw [List.flatten_cons, Nat.succ_mul, Nat.add_comm, ← List.drop_drop]
      have h2 : List.drop n (q ++ rows.flatten) = rows.flatten := by rw [← hq]; simp
      rw [h2]; exact this
theorem pi {rows : List (List ae)} {n : Nat} (h : ∀ r ∈ rows, r.length = n) : rows.flatten.length = rows.length * n := by
  induction rows with
  | nil => simp
  | cons q rows ih =>
    rw [List.flatten_cons, List.length_append, h q (by simp), ih (fun r hr => h r (by simp [hr])), List.length_cons, Nat.succ_mul, Nat.add_comm]
section
variable {P : Program} {c : cS} {o : Oper} {lk : Operand → ae} {r : ae}
theorem dE (hs : ∀ cs b, o.op ≠ .select cs b) (hk : ∀ k, r.keys k → ∃ x ∈ o.op.operands.toList, (lk x).keys k)
    (h : ∀ (η : bA) (ρo : Operand → Value) (H : cz), bZ c η H → (∀ x ∈ o.op.operands.toList, (lk x).p η (ρo x)) → ∃ v, (execOp ρo o).run P η.w = .ok (.value v) η.w ∧ r.p η v) : cg P c o lk [] [] [] r where
  run := by
    intro η ρo H hH hop _ _ _
    obtain ⟨v, h1, h2⟩ := h η ρo H hH hop
    unfold dJ
    rw [h1]
    exact ⟨η, rfl, ⟨fun _ h => h, fun _ _ => rfl, fun _ _ => rfl⟩, hH, h2⟩
  keys := fun k h => .inl (hk k h)
  ukeys := fun j x h => by simp at h
  dom := fun j x h => by simp at h
  sel := hs
structure Imp (A B : ae) : Prop where
  p : ∀ η v, A.p η v → B.p η v
  keys : ∀ k, B.keys k → A.keys k
theorem Imp.refl (A : ae) : Imp A A := ⟨fun _ _ h => h, fun _ h => h⟩
theorem cg.imp {need : List (Nat × bB)} {upd : List (Nat × Option bB)} {new : List Nat} {r' : ae} (h : cg P c o lk need upd new r) (hi : Imp r r') : cg P c o lk need upd new r' where
  run := by
    intro η ρo H h1 h2 h3 h4 h5
    have := h.run η ρo H h1 h2 h3 h4 h5
    unfold dJ at this ⊢
    split at this
    · obtain ⟨η', a, b, d, e⟩ := this; exact ⟨η', a, b, d, hi.p _ _ e⟩
    · obtain ⟨η', a, b, d, e⟩ := this; exact ⟨η', a, b, d, hi.p _ _ e⟩
    · refine this.mono ?_
      rintro e w' ⟨v, he, η', a, b, d, e⟩
      exact ⟨v, he, η', a, b, d, hi.p _ _ e⟩
    · exact this
  keys := fun k hk => h.keys k (hi.keys k hk)
  ukeys := h.ukeys
  dom := h.dom
  sel := h.sel
end
section
variable {P : Program} {c : cS} {lk : Operand → ae} {d : Option Nat} {ty : TypeId} {pos : String} {aft : Array Edge} {gd : Option (Nat × Bool)}
theorem Gq {x : Operand} : cg P c ⟨d, .move x, ty, pos, aft, gd⟩ lk [] [] [] (lk x) :=
  dE (by intro cs b h; cases h) (fun k h => ⟨x, by simp [Op.operands], h⟩) fun η ρo H _ hop => ⟨ρo x, rfl, hop x (by simp [Op.operands])⟩
theorem I7 {x : Operand} : cg P c ⟨d, .assign x, ty, pos, aft, gd⟩ lk [] [] [] (lk x) :=
  dE (by intro cs b h; cases h) (fun k h => ⟨x, by simp [Op.operands], h⟩) fun η ρo H _ hop => ⟨ρo x, rfl, hop x (by simp [Op.operands])⟩
theorem AR {x y z : Operand} {b : Bool} (hx : lk x = aa b) : cg P c ⟨d, .pick x y z, ty, pos, aft, gd⟩ lk [] [] [] (if b = true then lk y else lk z) := by
  refine dE (by intro cs b h; cases h) (fun k h => ?_) fun η ρo H _ hop => ?_
  · cases b
    · exact ⟨z, by simp [Op.operands], by simpa using h⟩
    · exact ⟨y, by simp [Op.operands], by simpa using h⟩
  · have h1 : ρo x = .bool b := by have := hop x (by simp [Op.operands]); rw [hx] at this; exact this
    cases b
    · exact ⟨ρo z, by simp [execOp, h1, asBool], by simpa using hop z (by simp [Op.operands])⟩
    · exact ⟨ρo y, by simp [execOp, h1, asBool], by simpa using hop y (by simp [Op.operands])⟩
theorem mJ (k : IntKind) (n : Int) : k.has (k.wrap n) := by
  cases k <;> simp [IntKind.has, IntKind.wrap, IntKind.min, IntKind.max, IntKind.bits, IntKind.signed] <;> (try split) <;> omega
section
variable {x y : Operand} {k : IntKind} {a b : Int} {xt yt : TypeId}
theorem wk {op : BinOp} {n : Int} (hop : (op = .add ∧ k.wrap (a + b) = n) ∨ (op = .sub ∧ k.wrap (a - b) = n) ∨ (op = .mul ∧ k.wrap (a * b) = n)) (hx : lk x = aj k a) (hy : lk y = aj k b) :
    cg P c ⟨d, .binOp op xt x y yt, ty, pos, aft, gd⟩ lk [] [] [] (aj k n) := by
  refine dE (by intro cs b h; cases h) (fun k h => h.elim) fun η ρo H _ ho => ?_
  have h1 := ho x (by simp [Op.operands]); rw [hx] at h1; obtain ⟨h1, _⟩ := h1
  have h2 := ho y (by simp [Op.operands]); rw [hy] at h2; obtain ⟨h2, _⟩ := h2
  rcases hop with ⟨rfl, rfl⟩ | ⟨rfl, rfl⟩ | ⟨rfl, rfl⟩
  · exact ⟨_, by simp [execOp, h1, h2, eqGuard_at_int, binOp_add, Op.intArith], rfl, mJ _ _⟩
  · exact ⟨_, by simp [execOp, h1, h2, eqGuard_at_int, binOp_sub, Op.intArith], rfl, mJ _ _⟩
  · exact ⟨_, by simp [execOp, h1, h2, eqGuard_at_int, binOp_mul, Op.intArith], rfl, mJ _ _⟩
theorem mb {op : BinOp} {p : Prop} [Decidable p] (hop : (op = .lss ∧ (a < b ↔ p)) ∨ (op = .leq ∧ (a ≤ b ↔ p)) ∨ (op = .gtr ∧ (a > b ↔ p)) ∨ (op = .geq ∧ (a ≥ b ↔ p)) ∨ (op = .eql ∧ (a = b ↔ p)) ∨ (op = .neq ∧ (a ≠ b ↔ p)))
    (hx : lk x = aj k a) (hy : lk y = aj k b) : cg P c ⟨d, .binOp op xt x y yt, ty, pos, aft, gd⟩ lk [] [] [] (aa (decide p)) := by
  refine dE (by intro cs b h; cases h) (fun k h => h.elim) fun η ρo H _ ho => ?_
  have h1 := ho x (by simp [Op.operands]); rw [hx] at h1; obtain ⟨h1, _⟩ := h1
  have h2 := ho y (by simp [Op.operands]); rw [hy] at h2; obtain ⟨h2, _⟩ := h2
  rcases hop with ⟨rfl, hp⟩ | ⟨rfl, hp⟩ | ⟨rfl, hp⟩ | ⟨rfl, hp⟩ | ⟨rfl, hp⟩ | ⟨rfl, hp⟩
  · exact ⟨.bool (decide (a < b)), by simp [execOp, h1, h2, eqGuard_at_int, binOp_lss], congrArg Value.bool (decide_eq_decide.2 hp)⟩
  · exact ⟨.bool (decide (a ≤ b)), by simp [execOp, h1, h2, eqGuard_at_int, binOp_leq], congrArg Value.bool (decide_eq_decide.2 hp)⟩
  · exact ⟨.bool (decide (a > b)), by simp [execOp, h1, h2, eqGuard_at_int, binOp_gtr], congrArg Value.bool (decide_eq_decide.2 hp)⟩
  · exact ⟨.bool (decide (a ≥ b)), by simp [execOp, h1, h2, eqGuard_at_int, binOp_geq], congrArg Value.bool (decide_eq_decide.2 hp)⟩
  · refine ⟨.bool (a == b), by simp [execOp, h1, h2, eqGuard_at_int, binOp_eql], congrArg Value.bool ?_⟩
    rw [Bool.eq_iff_iff]; simp [hp]
  · refine ⟨.bool (a != b), by simp [execOp, h1, h2, eqGuard_at_int, binOp_neq], congrArg Value.bool ?_⟩
    rw [Bool.eq_iff_iff]; simp [← hp]
end
theorem o_not {x : Operand} {b : Bool} {xt : TypeId} (hx : lk x = aa b) : cg P c ⟨d, .unOp .not xt x, ty, pos, aft, gd⟩ lk [] [] [] (aa (!b)) := by
  refine dE (by intro cs b h; cases h) (fun k h => h.elim) fun η ρo H _ ho => ?_
  have h1 := ho x (by simp [Op.operands]); rw [hx] at h1
  have h1 : ρo x = .bool b := h1
  exact ⟨.bool !b, by simp [execOp, h1, Op.unary], rfl⟩
theorem Kv {S f off : Nat} {x : Operand} {As Bs : List ae} (hP : bV P S f = some off) (hx : lk x = ap As) (hB : As.drop off = Bs) : cg P c ⟨d, .fieldAddr S x f, ty, pos, aft, gd⟩ lk [] [] [] (ap Bs) := by
  obtain ⟨fs, fd, i, h1, h2, h3, h4, h5⟩ := xC hP
  refine dE (by intro cs b h; cases h) (fun k h => ⟨x, by simp [Op.operands], ?_⟩) fun η ρo H _ ho => ?_
  · rw [hx]; subst hB; exact jJ (fun A hA => List.mem_of_mem_drop hA) h
  · have hh := ho x (by simp [Op.operands]); rw [hx] at hh
    obtain ⟨b, o, e, hc⟩ := hh
    refine ⟨.pointer (some ⟨b, o + off, none⟩), ?_, b, o + off, rfl, hB ▸ hc.drop off⟩
    simp [execOp, e, Instr.fieldAt, run_underlying h1, h2, Instr.sureAddr, fieldPlace, sizeOf, typeInfo, h3, h4, h5, Addr.add_lit]
theorem uD {T : Nat} {ad : Addr} {w : World} {v : Value} (hT : dD P T = true) (hc : w.cell? ad = some v) : (loadVar T ad).run P w = .ok v w := by
  obtain ⟨dd, h1, h2, h3⟩ := K0 hT
  cases dd <;> simp_all [loadVar, isAgg, underlying, hc]
theorem uo {T m : Nat} {b o : Nat} {w : World} {us : List Value} (hT : dz P T = some m) (hm : us.length = m) (hc : ∀ j u, us[j]? = some u → w.cell? ⟨b, o + j, none⟩ = some u) :
    (loadVar T ⟨b, o, none⟩).run P w = .ok (.agg us.toArray) w := by
  obtain ⟨i, h1, h2, h3⟩ := IK hT
  have hag : (isAgg T).run P w = .ok true w := by
    rcases h3 with ⟨fs, h3⟩ | ⟨n, e, h3⟩ <;> simp [isAgg, run_underlying h3]
  have hload : (loadCells ⟨b, o, none⟩ m).run P w = .ok us.toArray w := by
    rw [← hm]
    exact run_loadCells_list w _ us (fun j v hj => by rw [Addr.add_lit]; exact hc j v hj)
  simp [loadVar, hag, sizeOf, typeInfo, h1, h2, hload]
theorem Gn {T : Nat} {x : Operand} {A : ae} {As : List ae} (hT : dD P T = true) (hx : lk x = ap (A :: As)) : cg P c ⟨d, .load T x, ty, pos, aft, gd⟩ lk [] [] [] A := by
  refine dE (by intro cs b h; cases h) (fun k h => ⟨x, by simp [Op.operands], ?_⟩) fun η ρo H _ ho => ?_
  · rw [hx]; exact ⟨A, by simp, h⟩
  · have hh := ho x (by simp [Op.operands]); rw [hx] at hh
    obtain ⟨b, o, e, hI, us, h1, h2⟩ := hh
    obtain ⟨u, hu, hp⟩ := h1.get 0 A rfl
    refine ⟨u, ?_, hp⟩
    have h3 := h2 0 u hu
    simp only [Nat.add_zero] at h3
    simp [execOp, e, Instr.loadAt, Instr.sureAddr, uD hT h3]
theorem J6 {T m : Nat} {x : Operand} {As Bs : List ae} (hT : dz P T = some m) (hx : lk x = ap As) (hB : As.take m = Bs) (hm : Bs.length = m) : cg P c ⟨d, .load T x, ty, pos, aft, gd⟩ lk [] [] [] (ac Bs) := by
  refine dE (by intro cs b h; cases h) (fun k h => ⟨x, by simp [Op.operands], ?_⟩) fun η ρo H _ ho => ?_
  · rw [hx]; subst hB; exact jJ (fun A hA => List.mem_of_mem_take hA) h
  · have hh := ho x (by simp [Op.operands]); rw [hx] at hh
    obtain ⟨b, o, e, hc⟩ := hh
    obtain ⟨hI, us, h1, h2⟩ := hc.take m
    rw [hB] at h1
    have hl := h1.length
    refine ⟨.agg us.toArray, ?_, us.toArray, rfl, by simpa using h1⟩
    simp [execOp, e, Instr.loadAt, Instr.sureAddr, uo hT (by omega) h2]
theorem o_len {T : Nat} {x : Operand} {n : Nat} {rows : List (List ae)} {m : Int} (hT : ey P T = true) (hx : lk x = dR n rows) (hm : (rows.length : Int) = m) :
    cg P c ⟨d, .call ⟨.builtin .len, #[x], #[T]⟩, ty, pos, aft, gd⟩ lk [] [] [] (aj .i64 m) := by
  refine dE (by intro cs b h; cases h) (fun k h => h.elim) fun η ρo H _ ho => ?_
  have hh := ho x (by simp [Op.operands, Call.operands]); rw [hx] at hh
  obtain ⟨a, cp, e, h1, h2, h3, h4⟩ := hh
  have hsl : ∃ el, P.underlying T = some (.slice el) := by
    unfold ey at hT; split at hT
    · exact ⟨_, by assumption⟩
    · cases hT
  obtain ⟨el, hel⟩ := hsl
  refine ⟨.int .i64 rows.length, by simp [execOp, resolve, invoke, builtin, e, Builtin.len_, run_underlying hel, goInt], by rw [hm], ?_⟩
  rw [← hm]
  unfold maxLen at h2
  simp [IntKind.has, IntKind.min, IntKind.max, IntKind.signed, IntKind.bits]; omega
theorem Ie {T : Nat} {x : Operand} {b : ByteArray} (hT : rl P T = true) (hx : lk x = am b) : cg P c ⟨d, .call ⟨.builtin .len, #[x], #[T]⟩, ty, pos, aft, gd⟩ lk [] [] [] (aj .i64 b.size) := by
  refine dE (by intro cs b h; cases h) (fun k h => h.elim) fun η ρo H _ ho => ?_
  have hh := ho x (by simp [Op.operands, Call.operands]); rw [hx] at hh
  obtain ⟨e, h2⟩ := hh
  have hel : P.underlying T = some .string := by
    unfold rl at hT; split at hT
    · assumption
    · cases hT
  refine ⟨.int .i64 b.size, by simp [execOp, resolve, invoke, builtin, e, Builtin.len_, run_underlying hel, goInt], rfl, ?_⟩
  unfold maxLen at h2
  simp [IntKind.has, IntKind.min, IntKind.max, IntKind.signed, IntKind.bits]; omega
theorem Hc {T E n : Nat} {x i : Operand} {rows : List (List ae)} {k : IntKind} {j : Int} {r : List ae} (hT : dG P T = some (E, n)) (hx : lk x = dR n rows) (hi : lk i = aj k j) (h0 : 0 ≤ j) (hr : rows[j.toNat]? = some r) :
    cg P c ⟨d, .indexAddr T x i, ty, pos, aft, gd⟩ lk [] [] [] (ap r) := by
  obtain ⟨inf, t1, t2, t3⟩ := mT hT
  have hlt := (List.getElem?_eq_some_iff.1 hr).1
  refine dE (by intro cs b h; cases h) (fun k h => ⟨x, by simp [Op.operands], ?_⟩) fun η ρo H _ ho => ?_
  · rw [hx]; exact jJ (fun A hA => List.mem_flatten.2 ⟨r, List.mem_of_getElem? hr, hA⟩) h
  · have hh := ho x (by simp [Op.operands]); rw [hx] at hh
    have hj := ho i (by simp [Op.operands]); rw [hi] at hj; obtain ⟨hj, _⟩ := hj
    obtain ⟨a, cp, e, h1, h2, h3, h4⟩ := hh
    rcases h4 with h4 | ⟨b, o, rfl, hc⟩
    · omega
    · refine ⟨.pointer (some ⟨b, o + j.toNat * n, none⟩), ?_, b, o + j.toNat * n, rfl, ?_⟩
      · have hb : 0 ≤ j ∧ j < (rows.length : Int) := by omega
        simp [execOp, e, hj, Instr.indexAt, asIntOf, run_underlying t1, hb, sizeOf, typeInfo, t2, t3, Addr.add_lit]
      · have := (hc.drop (j.toNat * n)).take n
        rwa [sI h3 _ _ hr] at this
theorem vz {α : Type} [Inhabited α] {cc : α → List ae} {xs : List α} {j : Int} (h0 : 0 ≤ j) (h1 : j < (xs.length : Int)) : (xs.map cc)[j.toNat]? = some (cc (nth xs j)) := by
  have hlt : j.toNat < xs.length := by omega
  simp [nth, List.getD, hlt]
theorem bZ.alloc {η : bA} {H : cz} (h : bZ c η H) (ob : Obj) (I' : Nat → Prop) (hI : ∀ b, I' b → η.I b ∨ b = η.w.heap.size) (hg : ∀ b, η.I b → I' b) : bZ c ⟨η.w.alloc ob, I', η.ρ⟩ H := by
  have keep : ∀ b, b < η.w.heap.size → (η.w.alloc ob).heap[b]? = η.w.heap[b]? := fun b hb => Below.heap_alloc _ _ _ hb
  refine ⟨fun k x hk => ?_, fun k x b hk hb => ?_, h.apart, fun b hb => ?_, fun b hb => ?_, fun b hb => hg b (h.old b hb), ?_, fun b hb hx => ?_, h.os, h.tape, h.output⟩
  · refine (h.holds k x hk).mono ⟨hg, fun b hb => keep b (h.lt b hb), fun _ _ => rfl⟩ (fun b hb => keep b ?_)
    exact (h.own k x b hk hb).2.1
  · obtain ⟨h1, h2, h3⟩ := h.own k x b hk hb
    refine ⟨fun hb' => ?_, by simp; omega, h3⟩
    rcases hI b hb' with h4 | h4
    · exact h1 h4
    · omega
  · rcases hI b hb with h4 | h4
    · have := h.lt b h4; simp; omega
    · simp; omega
  · rcases hI b hb with h4 | h4
    · exact h.new b h4
    · exact .inr (.inl (by rw [h4]; exact h.size))
  · have := h.size; simp; omega
  · rw [keep b (by have := h.size; omega)]; exact h.keep b hb hx
theorem C8 {o : Oper} {A : ae} (hs : ∀ cs b, o.op ≠ .select cs b) (hk : ∀ k, A.keys k → ∃ x ∈ o.op.operands.toList, (lk x).keys k)
    (h : ∀ (η : bA) (ρo : Operand → Value) (H : cz), bZ c η H → (∀ x ∈ o.op.operands.toList, (lk x).p η (ρo x)) →
      ∃ v arr E, (execOp ρo o).run P η.w = .ok (.value v) (η.w.alloc (.cells arr E (0, 0))) ∧
        ∀ η' : bA, η'.w = η.w.alloc (.cells arr E (0, 0)) → (∀ b, η.I b → η'.I b) → η'.I η.w.heap.size → (∀ b, η.I b → η'.w.heap[b]? = η.w.heap[b]?) → η'.ρ = η.ρ → A.p η' v) : cg P c o lk [] [] [] A where
  run := by
    intro η ρo H hH hop _ _ _
    obtain ⟨v, arr, E, h1, h2⟩ := h η ρo H hH hop
    unfold dJ
    rw [h1]
    have keep : ∀ b, η.I b → (η.w.alloc (.cells arr E (0, 0))).heap[b]? = η.w.heap[b]? := fun b hb => Below.heap_alloc _ _ _ (hH.lt b hb)
    refine ⟨⟨η.w.alloc (.cells arr E (0, 0)), fun b => η.I b ∨ b = η.w.heap.size, η.ρ⟩, rfl, ⟨fun b hb => .inl hb, keep, fun _ _ => rfl⟩, hH.alloc _ _ (fun b hb => hb) (fun b hb => .inl hb), ?_⟩
    exact h2 _ rfl (fun b hb => .inl hb) (.inr rfl) keep rfl
  keys := fun k h => .inl (hk k h)
  ukeys := fun j x h => by simp at h
  dom := fun j x h => by simp at h
  sel := hs
theorem CJ {η η' : bA} {As : List ae} {arr : Array Value} {E : TypeId} (hw : η'.w = η.w.alloc (.cells arr E (0, 0))) (hI : η'.I η.w.heap.size) (h : bw η' As arr.toList) : gJ η' η.w.heap.size 0 As := by
  refine ⟨hI, arr.toList, h, fun j u hj => ?_⟩
  rw [hw, Nat.zero_add, World.cell?_alloc_new]
  simpa using hj
def kp : ae → List ae → Prop := fun A As => ∀ η v, A.p η v → bw η As v.cells.toList
theorem Jy (As : List ae) : kp (ac As) As := fun η v ⟨vs, e, h⟩ => by subst e; exact h
theorem o_box {E : TypeId} {x : Operand} {As : List ae} (hA : kp (lk x) As) (hk : ∀ k, d7 As k → (lk x).keys k) : cg P c ⟨d, .box E x, ty, pos, aft, gd⟩ lk [] [] [] (ap As) := by
  refine C8 (by intro cs b h; cases h) (fun k h => ⟨x, by simp [Op.operands], hk k h⟩) fun η ρo H hH hop => ?_
  have hp := hop x (by simp [Op.operands])
  refine ⟨.pointer (some ⟨η.w.heap.size, 0, none⟩), (ρo x).cells, E, by simp [execOp, Instr.box, newVar, newRow], fun η' hw hg hI hkeep hρ => ?_⟩
  have hp' : (lk x).p η' (ρo x) := (lk x).mono ⟨hg, hkeep, fun k _ => by rw [hρ]⟩ hp
  exact ⟨_, 0, rfl, CJ hw hI (hA η' _ hp')⟩
theorem J5 {x : Operand} {i : Nat} {As : List ae} {A : ae} (hx : lk x = bk As) (hi : As[i]? = some A) : cg P c ⟨d, .extract x i, ty, pos, aft, gd⟩ lk [] [] [] A := by
  refine dE (by intro cs b h; cases h) (fun k h => ⟨x, by simp [Op.operands], ?_⟩) fun η ρo H _ ho => ?_
  · rw [hx]; exact ⟨A, List.mem_of_getElem? hi, h⟩
  · have hh := ho x (by simp [Op.operands]); rw [hx] at hh
    obtain ⟨vs, e, h1⟩ := hh
    obtain ⟨u, hu, hp⟩ := h1.get i A hi
    have hu' : vs[i]? = some u := by simpa using hu
    exact ⟨u, by simp [execOp, e, Instr.extract, hu'], hp⟩
theorem mK {η : bA} {ρo : Operand → Value} {xs : List Operand} (h : ∀ x ∈ xs, (lk x).p η (ρo x)) : bw η (xs.map lk) (xs.map ρo) := by
  induction xs with
  | nil => exact .nil
  | cons x xs ih => exact .cons (h x (by simp)) (ih fun y hy => h y (by simp [hy]))
theorem Cz {f : FuncId} {cs : List Operand} {As : List ae} (hA : cs.map lk = As) : cg P c ⟨d, .makeFunc (.func f) #[] cs.toArray, ty, pos, aft, gd⟩ lk [] [] [] (bj f As) := by
  subst hA
  refine dE (by intro cs b h; cases h) (fun k h => ?_) fun η ρo H _ ho => ?_
  · obtain ⟨A, hA, hk⟩ := h
    obtain ⟨x, hx, rfl⟩ := List.mem_map.1 hA
    exact ⟨x, by simp [Op.operands, hx], hk⟩
  · refine ⟨.func (.func f) #[] (cs.toArray.map ρo), by simp [execOp, Instr.makeFunc], _, rfl, ?_⟩
    simpa using mK (fun x hx => ho x (by simp [Op.operands, hx]))
theorem J4 {src dst : TypeId} {x : Operand} {k k' : IntKind} {a b : Int} (hs : (P.underlying src).isSome = true) (hd : (P.underlying dst) = some (.int k')) (hx : lk x = aj k a) (hn : k'.wrap a = b) :
    cg P c ⟨d, .convert src dst x, ty, pos, aft, gd⟩ lk [] [] [] (aj k' b) := by
  refine dE (by intro cs b h; cases h) (fun k h => h.elim) fun η ρo H _ ho => ?_
  have h1 := ho x (by simp [Op.operands]); rw [hx] at h1; obtain ⟨h1, _⟩ := h1
  obtain ⟨dd, hdd⟩ := Option.isSome_iff_exists.mp hs
  exact ⟨.int k' b, by simp [execOp, h1, convert, run_underlying hdd, run_underlying hd, Conv.intToInt, hn], rfl, hn ▸ mJ _ _⟩
theorem bZ.ext {η : bA} {H : cz} {I' : Nat → Prop} {w' : World} (h : bZ c η H) (he : Ext η I' w') : bZ c ⟨w', I', η.ρ⟩ H := by
  refine ⟨fun k x hk => ?_, fun k x b hk hb => ?_, h.apart, he.lt, fun b hb => ?_, fun b hb => he.grow b (h.old b hb), Nat.le_trans h.size he.size, fun b hb hx => ?_, he.os.trans h.os, he.tape.trans h.tape, he.output.trans h.output⟩
  · refine (h.holds k x hk).mono ⟨he.grow, fun b hb => he.keep b (h.lt b hb), fun _ _ => rfl⟩ (fun b hb => he.keep b ?_)
    exact (h.own k x b hk hb).2.1
  · obtain ⟨h1, h2, h3⟩ := h.own k x b hk hb
    refine ⟨fun hb' => ?_, Nat.lt_of_lt_of_le h2 he.size, h3⟩
    rcases he.new b hb' with h4 | h4
    · exact h1 h4
    · omega
  · rcases he.new b hb with h4 | h4
    · exact h.new b h4
    · exact .inr (.inl (Nat.le_trans h.size h4))
  · exact (he.keep b (Nat.lt_of_lt_of_le hb h.size)).trans (h.keep b hb hx)
theorem pA {f : FuncId} {fn : Func} {args : Array Value} {w : World} (hf : P.funcs[f]? = some fn) (hn : (fn.name == "runtime.NumGoroutine") = false) (hb : fn.body.isNone = false) :
    (callFunc f args).run P w = .ok (.enter f args) w := by
  have h1 : fn.name ≠ "runtime.NumGoroutine" := by simpa using hn
  have h2 : fn.body ≠ none := by intro e; rw [e] at hb; cases hb
  unfold callFunc
  simp [hf, h1, h2]
theorem JV {y : Operand} {f : FuncId} {xs : List Operand} {ts : Array TypeId} {caps args : List ae} {r : ae} {fn : Func} (hf : P.funcs[f]? = some fn) (hn : (fn.name == "runtime.NumGoroutine") = false) (hb : fn.body.isNone = false)
    (hc : aB P f args r) (hy : lk y = bj f caps) (ha : xs.map lk ++ caps = args) : cg P c ⟨d, .call ⟨.value y, xs.toArray, ts⟩, ty, pos, aft, gd⟩ lk [] [] [] r where
  run := by
    intro η ρo H hH hop _ _ _
    have hv := hop y (by simp [Op.operands, Call.operands])
    rw [hy] at hv
    obtain ⟨vs, e, hvs⟩ := hv
    have hall : bw η args (xs.toArray.map ρo ++ vs).toList := by
      subst ha
      simpa using (mK (fun x hx => hop x (by simp [Op.operands, Call.operands, hx]))).append hvs
    unfold dJ
    have hrun : (execOp ρo ⟨d, .call ⟨.value y, xs.toArray, ts⟩, ty, pos, aft, gd⟩).run P η.w = .ok (.enter f (xs.toArray.map ρo ++ vs)) η.w := by
      simp only [execOp, resolve, e, Deferred.ofValue, Sem.run_bind, Sem.run_pure, Result.andThen_ok, invoke]
      simpa using pA (args := xs.toArray.map ρo ++ vs) (w := η.w) hf hn hb
    rw [hrun]
    refine (hc.2 η _ hH.lt hall).mono ?_
    rintro e w' ⟨v, I', rfl, he, hr⟩
    exact ⟨v, rfl, ⟨w', I', η.ρ⟩, rfl, ⟨he.grow, fun b hb => he.keep b (hH.lt b hb), fun _ _ => rfl⟩, hH.ext he, hr⟩
  keys := fun k h => absurd h (hc.1 k)
  ukeys := fun j x h => by simp at h
  dom := fun j x h => by simp at h
  sel := by intro cs b h; cases h
end
end Go.Proofs.YtngimdmkomkeoaaGreat.K
