import Derived.Test.YtngimdmkomkeoaaGreatCoreL
import Derived.Laws.Strings
import Derived.Laws.Slices
import Derived.Laws.StructEq
import Derived.Laws.Cover3
set_option linter.unusedVariables false
set_option linter.unusedSimpArgs false
namespace Go.Proofs.YtngimdmkomkeoaaGreat.K
open Go.RowKit
section
variable {P : Program} {c : cS} {lk : Operand → ae} {d : Option Nat} {ty : TypeId} {pos : String} {aft : Array Edge} {gd : Option (Nat × Bool)} {x y : Operand} {xt yt : TypeId} {k k' : IntKind} {a b : Int}
theorem AK {k : IntKind} {a m : Int} (h : k.has a) (h0 : (0 ≤ m ∧ m ≤ a) ∨ (a ≤ m ∧ m ≤ 0)) : k.has m := by
  have z : k.min ≤ 0 ∧ 0 ≤ k.max := by cases k <;> decide
  unfold IntKind.has at *
  omega
theorem Lg (a b : Int) : (0 ≤ a.tmod b ∧ a.tmod b ≤ a) ∨ (a ≤ a.tmod b ∧ a.tmod b ≤ 0) := by
  have e := Int.natAbs_tmod a b
  have l := Nat.mod_le a.natAbs b.natAbs
  rcases Int.le_total 0 a with h | h
  · have := Int.tmod_nonneg b h
    omega
  · have h1 : 0 ≤ (-a).tmod b := Int.tmod_nonneg _ (by omega)
    rw [Int.neg_tmod] at h1
    omega
theorem o_quo {m : Int} (hb : b ≠ 0) (hm : k.wrap (a.tdiv b) = m) (hx : lk x = aj k a) (hy : lk y = aj k b) : cg P c ⟨d, .binOp .quo xt x y yt, ty, pos, aft, gd⟩ lk [] [] [] (aj k m) := by
  refine dE (by intro cs b h; cases h) (fun k h => h.elim) fun η ρo H _ ho => ?_
  have h1 := ho x (by simp [Op.operands]); rw [hx] at h1; obtain ⟨h1, _⟩ := h1
  have h2 := ho y (by simp [Op.operands]); rw [hy] at h2; obtain ⟨h2, _⟩ := h2
  subst hm
  exact ⟨_, by simp [execOp, h1, h2, eqGuard_at_int, binOp, Op.intDiv, hb], rfl, mJ _ _⟩
theorem o_rem (hb : b ≠ 0) (hx : lk x = aj k a) (hy : lk y = aj k b) : cg P c ⟨d, .binOp .rem xt x y yt, ty, pos, aft, gd⟩ lk [] [] [] (aj k (a.tmod b)) := by
  refine dE (by intro cs b h; cases h) (fun k h => h.elim) fun η ρo H _ ho => ?_
  have h1 := ho x (by simp [Op.operands]); rw [hx] at h1; obtain ⟨h1, h3⟩ := h1
  have h2 := ho y (by simp [Op.operands]); rw [hy] at h2; obtain ⟨h2, _⟩ := h2
  exact ⟨.int k (a.tmod b), by simp [execOp, h1, h2, eqGuard_at_int, binOp, Op.intDiv, hb], rfl, AK h3 (Lg a b)⟩
def fG (k : IntKind) (a b : Int) : Int := k.wrap ((BitVec.ofInt k.bits a &&& BitVec.ofInt k.bits b).toNat : Int)
theorem o_and (hx : lk x = aj k a) (hy : lk y = aj k b) : cg P c ⟨d, .binOp .and xt x y yt, ty, pos, aft, gd⟩ lk [] [] [] (aj k (fG k a b)) := by
  refine dE (by intro cs b h; cases h) (fun k h => h.elim) fun η ρo H _ ho => ?_
  have h1 := ho x (by simp [Op.operands]); rw [hx] at h1; obtain ⟨h1, h3⟩ := h1
  have h2 := ho y (by simp [Op.operands]); rw [hy] at h2; obtain ⟨h2, _⟩ := h2
  exact ⟨.int k (fG k a b), by simp [execOp, h1, h2, eqGuard_at_int, binOp, Op.intBits, fG], rfl, mJ _ _⟩
theorem CV (a : Int) (n : Nat) : (0 ≤ a → 0 ≤ a.fdiv (2 ^ n) ∧ a.fdiv (2 ^ n) ≤ a) ∧ (a ≤ 0 → a ≤ a.fdiv (2 ^ n) ∧ a.fdiv (2 ^ n) ≤ 0) := by
  have hp : (0 : Int) < 2 ^ n := by exact_mod_cast Nat.two_pow_pos n
  have h1 : (1 : Int) ≤ 2 ^ n := hp
  rw [Int.fdiv_eq_ediv_of_nonneg _ (by omega)]
  refine ⟨fun h => ⟨Int.ediv_nonneg h (by omega), Int.ediv_le_self _ h⟩, fun h => ⟨?_, Int.ediv_nonpos_of_nonpos_of_neg h hp⟩⟩
  rw [Int.le_ediv_iff_mul_le hp]
  have h2 : a * (2 ^ n - 1) ≤ 0 := Int.mul_nonpos_of_nonpos_of_nonneg h (by omega)
  rw [Int.mul_sub, Int.mul_one] at h2
  omega
theorem o_shr {m : Int} (h0 : 0 ≤ b) (hm : a.fdiv (2 ^ (min b.toNat k.bits)) = m) (hx : lk x = aj k a) (hy : lk y = aj k' b) : cg P c ⟨d, .binOp .shr xt x y yt, ty, pos, aft, gd⟩ lk [] [] [] (aj k m) := by
  refine dE (by intro cs b h; cases h) (fun k h => h.elim) fun η ρo H _ ho => ?_
  have h1 := ho x (by simp [Op.operands]); rw [hx] at h1; obtain ⟨h1, h3⟩ := h1
  have h2 := ho y (by simp [Op.operands]); rw [hy] at h2; obtain ⟨h2, _⟩ := h2
  subst hm
  refine ⟨.int k (a.fdiv (2 ^ (min b.toNat k.bits))), by simp [execOp, h1, h2, eqGuard_at_int, binOp, Op.shift, Int.not_lt.2 h0], rfl, AK h3 ?_⟩
  rcases Int.le_total 0 a with h | h
  · exact .inl ((CV a _).1 h)
  · exact .inr ((CV a _).2 h)
theorem o_eqB {b1 b2 : Bool} (hT : P.underlying xt = some .bool) (hx : lk x = aa b1) (hy : lk y = aa b2) : cg P c ⟨d, .binOp .eql xt x y yt, ty, pos, aft, gd⟩ lk [] [] [] (aa (b1 == b2)) := by
  refine dE (by intro cs b h; cases h) (fun k h => h.elim) fun η ρo H _ ho => ?_
  have h1 := ho x (by simp [Op.operands]); rw [hx] at h1; have h1 : ρo x = .bool b1 := h1
  have h2 := ho y (by simp [Op.operands]); rw [hy] at h2; have h2 : ρo y = .bool b2 := h2
  have e : (binOp .eql xt (.bool b1) (.bool b2)).run P η.w = .ok (.bool (b1 == b2)) η.w := by
    show ((Op.equal xt (.bool b1) (.bool b2)) >>= fun r => pure (Value.bool r)).run P η.w = _
    simp [run_equal_bool η.w xt b1 b2 hT]
  refine ⟨.bool (b1 == b2), ?_, rfl⟩
  simp only [execOp, h1, h2, eqGuard_at_bool, Sem.run_bind, Sem.run_pure, Result.andThen_ok, e]
theorem K2 {s t : ByteArray} : s.toList = t.toList ↔ s = t := by
  refine ⟨fun h => ?_, fun h => by rw [h]⟩
  rw [ByteArray.toList_eq, ByteArray.toList_eq] at h
  cases s; cases t; simpa using h
theorem o_eqS {s t : ByteArray} (hx : lk x = am s) (hy : lk y = am t) : cg P c ⟨d, .binOp .eql xt x y yt, ty, pos, aft, gd⟩ lk [] [] [] (aa (decide (s = t))) := by
  refine dE (by intro cs b h; cases h) (fun k h => h.elim) fun η ρo H _ ho => ?_
  have h1 := ho x (by simp [Op.operands]); rw [hx] at h1; obtain ⟨h1, _⟩ := h1
  have h2 := ho y (by simp [Op.operands]); rw [hy] at h2; obtain ⟨h2, _⟩ := h2
  refine ⟨.bool (s.toList == t.toList), by simp [execOp, h1, h2, eqGuard_at_string, binOp_string_eql], congrArg Value.bool ?_⟩
  rw [Bool.eq_iff_iff]; simp [K2]
theorem Gj {s t : ByteArray} (hm : s.size + t.size ≤ 140737488355328) (hx : lk x = am s) (hy : lk y = am t) : cg P c ⟨d, .binOp .add xt x y yt, ty, pos, aft, gd⟩ lk [] [] [] (am (s ++ t)) := by
  refine dE (by intro cs b h; cases h) (fun k h => h.elim) fun η ρo H _ ho => ?_
  have h1 := ho x (by simp [Op.operands]); rw [hx] at h1; obtain ⟨h1, _⟩ := h1
  have h2 := ho y (by simp [Op.operands]); rw [hy] at h2; obtain ⟨h2, _⟩ := h2
  have h3 : ¬ ((s.size : Int) + (t.size : Int) > IntKind.i64.max) := by simp [IntKind.max, IntKind.signed, IntKind.bits]; omega
  refine ⟨.string (s ++ t), by simp [execOp, h1, h2, eqGuard_at_string, binOp_string_add, Op.stringOp]; simpa using h3, rfl, ?_⟩
  rw [ByteArray.size_append]; unfold maxLen; omega
def cq (s : ByteArray) (i : Int) : Int := ((s.data.toList.getD i.toNat 0).toNat : Int)
theorem Ic {s : ByteArray} {j : Int} (hT : P.underlying xt = some .string) (hx : lk x = am s) (hy : lk y = aj k j) (h0 : 0 ≤ j) (h1 : j < (s.size : Int)) : cg P c ⟨d, .index xt x y, ty, pos, aft, gd⟩ lk [] [] [] (aj .u8 (cq s j)) := by
  refine dE (by intro cs b h; cases h) (fun k h => h.elim) fun η ρo H _ ho => ?_
  have hs := ho x (by simp [Op.operands]); rw [hx] at hs; obtain ⟨hs, _⟩ := hs
  have hj := ho y (by simp [Op.operands]); rw [hy] at hj; obtain ⟨hj, _⟩ := hj
  have hlt : j.toNat < s.size := by omega
  have e : ((s[j.toNat]'hlt).toNat : Int) = cq s j := by
    unfold cq
    have : j.toNat < s.data.toList.length := by simpa using hlt
    rw [List.getD_eq_getElem?_getD, List.getElem?_eq_getElem this]
    rfl
  refine ⟨.int .u8 (cq s j), ?_, rfl, ?_⟩
  · rw [← e]
    have := run_index_string (P := P) η.w xt s k j hT
    rw [dif_pos ⟨h0, h1⟩] at this
    simp [execOp, hs, hj, this]
  · rw [← e]
    have := (s[j.toNat]'hlt).toNat_lt
    simp [IntKind.has, IntKind.min, IntKind.max, IntKind.signed, IntKind.bits]; omega
def bT (s : ByteArray) (l h : Int) : ByteArray := s.extract l.toNat h.toNat
theorem IQ {s : ByteArray} {l h : Int} : (bT s l h).size ≤ s.size := by unfold bT; rw [ByteArray.size_extract]; omega
theorem Hb {n E : Nat} {rows : List (List ae)} {o : Operand} {u : ae} (hT : P.underlying xt = some (.slice E)) (hx : lk x = dR n rows) (hy : lk y = af) (hu : u = ⟨fun _ v => ∃ b, v = .bool b ∧ (b = true → rows.length = 0), kv, fun _ h => h⟩) :
    cg P c ⟨d, .binOp .eql xt x y yt, ty, pos, aft, gd⟩ lk [] [] [] u := by
  subst hu
  refine dE (by intro cs b h; cases h) (fun k h => h.elim) fun η ρo H _ ho => ?_
  have h1 := ho x (by simp [Op.operands]); rw [hx] at h1
  obtain ⟨a, cp, h1, _, _, _, h2⟩ := h1
  have h3 := ho y (by simp [Op.operands]); rw [hy] at h3; have h3 : ρo y = .slice none 0 0 := h3
  have e : (binOp .eql xt (.slice a rows.length cp) (.slice none 0 0)).run P η.w = .ok (.bool a.isNone) η.w := by
    show ((Op.equal xt (.slice a rows.length cp) (.slice none 0 0)) >>= fun r => pure (Value.bool r)).run P η.w = _
    simp [run_equal_slice_nil η.w xt E a rows.length cp hT]
  refine ⟨.bool a.isNone, ?_, a.isNone, rfl, fun h => ?_⟩
  · simp only [execOp, h1, h3, eqGuard_at_slice, Sem.run_bind, Sem.run_pure, Result.andThen_ok, e]
  · rcases h2 with h2 | ⟨b, o, rfl, _⟩
    · exact h2
    · cases h
def oj (xs ys : List Value) : Prop := xs.length = ys.length ∧ ∀ (j : Nat) (x y : Value), xs[j]? = some x → ys[j]? = some y → ∃ (k : IntKind) (a b : Int), x = .int k a ∧ y = .int k b
theorem oj.cut {xs ys : List Value} (h : oj xs ys) (o m : Nat) : oj ((xs.drop o).take m) ((ys.drop o).take m) := by
  obtain ⟨h1, h2⟩ := h
  refine ⟨by simp [h1], fun j x y hx hy => ?_⟩
  rw [List.getElem?_take, List.getElem?_drop] at hx hy
  split at hx
  · rename_i hj; rw [if_pos hj] at hy; exact h2 _ x y hx hy
  · cases hx
class iK {α : Type} (cc : α → List ae) : Prop where
  eq : ∀ η x y vs us, bw η (cc x) vs → bw η (cc y) us → oj vs us ∧ (vs = us ↔ x = y)
theorem Ia {src dst : TypeId} (hs : (P.underlying src).isSome = true) (hd : P.underlying dst = some (.int k')) (hx : lk x = aj k a) (hn : k.has a → k'.has a) :
    cg P c ⟨d, .convert src dst x, ty, pos, aft, gd⟩ lk [] [] [] (aj k' a) := by
  refine dE (by intro cs b h; cases h) (fun k h => h.elim) fun η ρo H _ ho => ?_
  have h1 := ho x (by simp [Op.operands]); rw [hx] at h1; obtain ⟨h1, h2⟩ := h1
  obtain ⟨dd, hdd⟩ := Option.isSome_iff_exists.mp hs
  have hw : k'.wrap a = a := by
    have := hn h2
    cases k' <;> simp [IntKind.has, IntKind.min, IntKind.max, IntKind.signed, IntKind.bits, IntKind.wrap] at this ⊢ <;> omega
  exact ⟨.int k' a, by simp [execOp, h1, convert, run_underlying hdd, run_underlying hd, Conv.intToInt, hw], rfl, hn h2⟩
theorem o_max (hx : lk x = aj k a) (hy : lk y = aj k b) {ts : Array TypeId} : cg P c ⟨d, .call ⟨.builtin .max, #[x, y], ts⟩, ty, pos, aft, gd⟩ lk [] [] [] (aj k (if a < b then b else a)) := by
  refine dE (by intro cs b h; cases h) (fun k h => h.elim) fun η ρo H _ ho => ?_
  have h1 := ho x (by simp [Op.operands, Call.operands]); rw [hx] at h1; obtain ⟨h1, h3⟩ := h1
  have h2 := ho y (by simp [Op.operands, Call.operands]); rw [hy] at h2; obtain ⟨h2, h4⟩ := h2
  refine ⟨.int k (if a < b then b else a), by simp [execOp, resolve, invoke, builtin, h1, h2, Builtin.max_, Builtin.max2], rfl, ?_⟩
  split
  · exact h4
  · exact h3
theorem KG {rows : List (List ae)} {n : Nat} (h : ∀ r ∈ rows, r.length = n) : ∀ m, (rows.drop m).flatten = rows.flatten.drop (m * n) := by
  induction rows with
  | nil => intro m; simp
  | cons r rows ih =>
    intro m
    cases m with
    | zero => simp
    | succ m =>
      rw [List.drop_succ_cons, ih (fun r hr => h r (by simp [hr])) m, List.flatten_cons, Nat.succ_mul, Nat.add_comm, ← List.drop_drop]
      congr 1
      have hr : r.length = n := h r (by simp)
      rw [← hr]; simp
theorem KH {rows : List (List ae)} {n : Nat} (h : ∀ r ∈ rows, r.length = n) : ∀ m, (rows.take m).flatten = rows.flatten.take (m * n) := by
  induction rows with
  | nil => intro m; simp
  | cons r rows ih =>
    intro m
    cases m with
    | zero => simp
    | succ m =>
      have hr : r.length = n := h r (by simp)
      rw [List.take_succ_cons, List.flatten_cons, ih (fun r hr => h r (by simp [hr])) m, List.flatten_cons, Nat.succ_mul, Nat.add_comm, List.take_append, List.take_of_length_le (l := r) (by omega)]
      congr 2
      omega
theorem JN {η : bA} {n l h : Nat} {rows : List (List ae)} {a : Option Addr} {cp : Nat} (hp : (dR n rows).p η (.slice a rows.length cp)) (h0 : l ≤ h) (h1 : h ≤ rows.length) :
    (dR n ((rows.drop l).take (h - l))).p η (sliced a l h cp n) := by
  obtain ⟨a', c', e, g1, g2, g3, g4⟩ := hp
  cases e
  have hlen : ((rows.drop l).take (h - l)).length = h - l := by simp; omega
  refine ⟨if cp = l then a else a.map (·.add (l * n)), cp - l, by unfold sliced; rw [hlen], by rw [hlen]; omega, by omega, fun r hr => g3 r (List.mem_of_mem_drop (List.mem_of_mem_take hr)), ?_⟩
  by_cases hl : h = l
  · left; rw [hlen]; omega
  · rcases g4 with g4 | ⟨b, o, rfl, hc⟩
    · omega
    · right
      have hne : cp ≠ l := by omega
      refine ⟨b, o + l * n, by rw [if_neg hne]; simp [Addr.add_lit], ?_⟩
      rw [KH (n := n) (fun r hr => g3 r (List.mem_of_mem_drop hr)), KG g3]
      exact (hc.drop _).take _
end
end Go.Proofs.YtngimdmkomkeoaaGreat.K
