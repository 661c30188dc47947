/- More operations: division, bits, strings, slices of slices, empty rows, comparisons of structs. -/
import Derived.Test.YtngimdmkomkeoaaGreatCoreL
import Derived.Laws.Strings
import Derived.Laws.Slices
import Derived.Laws.StructEq
import Derived.Laws.Cover3
set_option linter.unusedVariables false
set_option linter.unusedSimpArgs false
namespace Go.Proofs.YtngimdmkomkeoaaGreat.K
open Go.RowKit

section
variable {P : Program} {c : Ctx} {lk : Operand → Asn} {d : Option Nat} {ty : TypeId} {pos : String} {aft : Array Edge} {gd : Option (Nat × Bool)} {x y : Operand} {xt yt : TypeId} {k k' : IntKind} {a b : Int}

theorem has_le {k : IntKind} {a m : Int} (h : k.has a) (h0 : (0 ≤ m ∧ m ≤ a) ∨ (a ≤ m ∧ m ≤ 0)) : k.has m := by
  have z : k.min ≤ 0 ∧ 0 ≤ k.max := by cases k <;> decide
  unfold IntKind.has at *
  omega
theorem tmod_between (a b : Int) : (0 ≤ a.tmod b ∧ a.tmod b ≤ a) ∨ (a ≤ a.tmod b ∧ a.tmod b ≤ 0) := by
  have e := Int.natAbs_tmod a b
  have l := Nat.mod_le a.natAbs b.natAbs
  rcases Int.le_total 0 a with h | h
  · have := Int.tmod_nonneg b h
    omega
  · have h1 : 0 ≤ (-a).tmod b := Int.tmod_nonneg _ (by omega)
    rw [Int.neg_tmod] at h1
    omega

theorem o_quo {m : Int} (hb : b ≠ 0) (hm : k.wrap (a.tdiv b) = m) (hx : lk x = AInt k a) (hy : lk y = AInt k b) : OpRule P c ⟨d, .binOp .quo xt x y yt, ty, pos, aft, gd⟩ lk [] [] [] (AInt k m) := by
  refine mkPure (by intro cs b h; cases h) (fun k h => h.elim) fun η ρo H _ ho => ?_
  have h1 := ho x (by simp [Op.operands]); rw [hx] at h1; obtain ⟨h1, _⟩ := h1
  have h2 := ho y (by simp [Op.operands]); rw [hy] at h2; obtain ⟨h2, _⟩ := h2
  subst hm
  exact ⟨_, by simp [execOp, h1, h2, eqGuard_at_int, binOp, Op.intDiv, hb], rfl, has_wrap _ _⟩
theorem o_rem (hb : b ≠ 0) (hx : lk x = AInt k a) (hy : lk y = AInt k b) : OpRule P c ⟨d, .binOp .rem xt x y yt, ty, pos, aft, gd⟩ lk [] [] [] (AInt k (a.tmod b)) := by
  refine mkPure (by intro cs b h; cases h) (fun k h => h.elim) fun η ρo H _ ho => ?_
  have h1 := ho x (by simp [Op.operands]); rw [hx] at h1; obtain ⟨h1, h3⟩ := h1
  have h2 := ho y (by simp [Op.operands]); rw [hy] at h2; obtain ⟨h2, _⟩ := h2
  exact ⟨.int k (a.tmod b), by simp [execOp, h1, h2, eqGuard_at_int, binOp, Op.intDiv, hb], rfl, has_le h3 (tmod_between a b)⟩
/-- bits -/
def bitAnd (k : IntKind) (a b : Int) : Int := k.wrap ((BitVec.ofInt k.bits a &&& BitVec.ofInt k.bits b).toNat : Int)
theorem o_and (hx : lk x = AInt k a) (hy : lk y = AInt k b) : OpRule P c ⟨d, .binOp .and xt x y yt, ty, pos, aft, gd⟩ lk [] [] [] (AInt k (bitAnd k a b)) := by
  refine mkPure (by intro cs b h; cases h) (fun k h => h.elim) fun η ρo H _ ho => ?_
  have h1 := ho x (by simp [Op.operands]); rw [hx] at h1; obtain ⟨h1, h3⟩ := h1
  have h2 := ho y (by simp [Op.operands]); rw [hy] at h2; obtain ⟨h2, _⟩ := h2
  exact ⟨.int k (bitAnd k a b), by simp [execOp, h1, h2, eqGuard_at_int, binOp, Op.intBits, bitAnd], rfl, has_wrap _ _⟩
theorem fdiv_between (a : Int) (n : Nat) : (0 ≤ a → 0 ≤ a.fdiv (2 ^ n) ∧ a.fdiv (2 ^ n) ≤ a) ∧ (a ≤ 0 → a ≤ a.fdiv (2 ^ n) ∧ a.fdiv (2 ^ n) ≤ 0) := by
  have hp : (0 : Int) < 2 ^ n := by exact_mod_cast Nat.two_pow_pos n
  have h1 : (1 : Int) ≤ 2 ^ n := hp
  rw [Int.fdiv_eq_ediv_of_nonneg _ (by omega)]
  refine ⟨fun h => ⟨Int.ediv_nonneg h (by omega), Int.ediv_le_self _ h⟩, fun h => ⟨?_, Int.ediv_nonpos_of_nonpos_of_neg h hp⟩⟩
  rw [Int.le_ediv_iff_mul_le hp]
  have h2 : a * (2 ^ n - 1) ≤ 0 := Int.mul_nonpos_of_nonpos_of_nonneg h (by omega)
  rw [Int.mul_sub, Int.mul_one] at h2
  omega
theorem o_shr {m : Int} (h0 : 0 ≤ b) (hm : a.fdiv (2 ^ (min b.toNat k.bits)) = m) (hx : lk x = AInt k a) (hy : lk y = AInt k' b) : OpRule P c ⟨d, .binOp .shr xt x y yt, ty, pos, aft, gd⟩ lk [] [] [] (AInt k m) := by
  refine mkPure (by intro cs b h; cases h) (fun k h => h.elim) fun η ρo H _ ho => ?_
  have h1 := ho x (by simp [Op.operands]); rw [hx] at h1; obtain ⟨h1, h3⟩ := h1
  have h2 := ho y (by simp [Op.operands]); rw [hy] at h2; obtain ⟨h2, _⟩ := h2
  subst hm
  refine ⟨.int k (a.fdiv (2 ^ (min b.toNat k.bits))), by simp [execOp, h1, h2, eqGuard_at_int, binOp, Op.shift, Int.not_lt.2 h0], rfl, has_le h3 ?_⟩
  rcases Int.le_total 0 a with h | h
  · exact .inl ((fdiv_between a _).1 h)
  · exact .inr ((fdiv_between a _).2 h)

/-- truth values and strings -/
theorem o_eqB {b1 b2 : Bool} (hT : P.underlying xt = some .bool) (hx : lk x = ABool b1) (hy : lk y = ABool b2) : OpRule P c ⟨d, .binOp .eql xt x y yt, ty, pos, aft, gd⟩ lk [] [] [] (ABool (b1 == b2)) := by
  refine mkPure (by intro cs b h; cases h) (fun k h => h.elim) fun η ρo H _ ho => ?_
  have h1 := ho x (by simp [Op.operands]); rw [hx] at h1; have h1 : ρo x = .bool b1 := h1
  have h2 := ho y (by simp [Op.operands]); rw [hy] at h2; have h2 : ρo y = .bool b2 := h2
  have e : (binOp .eql xt (.bool b1) (.bool b2)).run P η.w = .ok (.bool (b1 == b2)) η.w := by
    show ((Op.equal xt (.bool b1) (.bool b2)) >>= fun r => pure (Value.bool r)).run P η.w = _
    simp [run_equal_bool η.w xt b1 b2 hT]
  refine ⟨.bool (b1 == b2), ?_, rfl⟩
  simp only [execOp, h1, h2, eqGuard_at_bool, Sem.run_bind, Sem.run_pure, Result.andThen_ok, e]
theorem toList_inj {s t : ByteArray} : s.toList = t.toList ↔ s = t := by
  refine ⟨fun h => ?_, fun h => by rw [h]⟩
  rw [ByteArray.toList_eq, ByteArray.toList_eq] at h
  cases s; cases t; simpa using h
theorem o_eqS {s t : ByteArray} (hx : lk x = AStr s) (hy : lk y = AStr t) : OpRule P c ⟨d, .binOp .eql xt x y yt, ty, pos, aft, gd⟩ lk [] [] [] (ABool (decide (s = t))) := by
  refine mkPure (by intro cs b h; cases h) (fun k h => h.elim) fun η ρo H _ ho => ?_
  have h1 := ho x (by simp [Op.operands]); rw [hx] at h1; obtain ⟨h1, _⟩ := h1
  have h2 := ho y (by simp [Op.operands]); rw [hy] at h2; obtain ⟨h2, _⟩ := h2
  refine ⟨.bool (s.toList == t.toList), by simp [execOp, h1, h2, eqGuard_at_string, binOp_string_eql], congrArg Value.bool ?_⟩
  rw [Bool.eq_iff_iff]; simp [toList_inj]
theorem o_neS {s t : ByteArray} (hx : lk x = AStr s) (hy : lk y = AStr t) : OpRule P c ⟨d, .binOp .neq xt x y yt, ty, pos, aft, gd⟩ lk [] [] [] (ABool (decide (¬ s = t))) := by
  refine mkPure (by intro cs b h; cases h) (fun k h => h.elim) fun η ρo H _ ho => ?_
  have h1 := ho x (by simp [Op.operands]); rw [hx] at h1; obtain ⟨h1, _⟩ := h1
  have h2 := ho y (by simp [Op.operands]); rw [hy] at h2; obtain ⟨h2, _⟩ := h2
  refine ⟨.bool (!(s.toList == t.toList)), by simp [execOp, h1, h2, eqGuard_at_string, binOp_string_neq], congrArg Value.bool ?_⟩
  rw [Bool.eq_iff_iff]; simp [toList_inj]
theorem o_catS {s t : ByteArray} (hm : s.size + t.size ≤ 140737488355328) (hx : lk x = AStr s) (hy : lk y = AStr t) : OpRule P c ⟨d, .binOp .add xt x y yt, ty, pos, aft, gd⟩ lk [] [] [] (AStr (s ++ t)) := by
  refine mkPure (by intro cs b h; cases h) (fun k h => h.elim) fun η ρo H _ ho => ?_
  have h1 := ho x (by simp [Op.operands]); rw [hx] at h1; obtain ⟨h1, _⟩ := h1
  have h2 := ho y (by simp [Op.operands]); rw [hy] at h2; obtain ⟨h2, _⟩ := h2
  have h3 : ¬ ((s.size : Int) + (t.size : Int) > IntKind.i64.max) := by simp [IntKind.max, IntKind.signed, IntKind.bits]; omega
  refine ⟨.string (s ++ t), by simp [execOp, h1, h2, eqGuard_at_string, binOp_string_add, Op.stringOp]; simpa using h3, rfl, ?_⟩
  rw [ByteArray.size_append]; unfold maxLen; omega
/-- byte i of a string -/
def byteAt (s : ByteArray) (i : Int) : Int := ((s.data.toList.getD i.toNat 0).toNat : Int)
theorem o_indexS {s : ByteArray} {j : Int} (hT : P.underlying xt = some .string) (hx : lk x = AStr s) (hy : lk y = AInt k j) (h0 : 0 ≤ j) (h1 : j < (s.size : Int)) : OpRule P c ⟨d, .index xt x y, ty, pos, aft, gd⟩ lk [] [] [] (AInt .u8 (byteAt s j)) := by
  refine mkPure (by intro cs b h; cases h) (fun k h => h.elim) fun η ρo H _ ho => ?_
  have hs := ho x (by simp [Op.operands]); rw [hx] at hs; obtain ⟨hs, _⟩ := hs
  have hj := ho y (by simp [Op.operands]); rw [hy] at hj; obtain ⟨hj, _⟩ := hj
  have hlt : j.toNat < s.size := by omega
  have e : ((s[j.toNat]'hlt).toNat : Int) = byteAt s j := by
    unfold byteAt
    have : j.toNat < s.data.toList.length := by simpa using hlt
    rw [List.getD_eq_getElem?_getD, List.getElem?_eq_getElem this]
    rfl
  refine ⟨.int .u8 (byteAt s j), ?_, rfl, ?_⟩
  · rw [← e]
    have := run_index_string (P := P) η.w xt s k j hT
    rw [dif_pos ⟨h0, h1⟩] at this
    simp [execOp, hs, hj, this]
  · rw [← e]
    have := (s[j.toNat]'hlt).toNat_lt
    simp [IntKind.has, IntKind.min, IntKind.max, IntKind.signed, IntKind.bits]; omega
/-- a string from l to h -/
def cutS (s : ByteArray) (l h : Int) : ByteArray := s.extract l.toNat h.toNat
theorem cutS_size {s : ByteArray} {l h : Int} : (cutS s l h).size ≤ s.size := by unfold cutS; rw [ByteArray.size_extract]; omega

/-- a slice compared with nil: the answer is told by no pure expression; true only for an empty one -/
theorem o_eqNil {n E : Nat} {rows : List (List Asn)} {o : Operand} {u : Asn} (hT : P.underlying xt = some (.slice E)) (hx : lk x = AList n rows) (hy : lk y = ANil) (hu : u = ⟨fun _ v => ∃ b, v = .bool b ∧ (b = true → rows.length = 0), noKeys, fun _ h => h⟩) :
    OpRule P c ⟨d, .binOp .eql xt x y yt, ty, pos, aft, gd⟩ lk [] [] [] u := by
  subst hu
  refine mkPure (by intro cs b h; cases h) (fun k h => h.elim) fun η ρo H _ ho => ?_
  have h1 := ho x (by simp [Op.operands]); rw [hx] at h1
  obtain ⟨a, cp, h1, _, _, _, h2⟩ := h1
  have h3 := ho y (by simp [Op.operands]); rw [hy] at h3; have h3 : ρo y = .slice none 0 0 := h3
  have e : (binOp .eql xt (.slice a rows.length cp) (.slice none 0 0)).run P η.w = .ok (.bool a.isNone) η.w := by
    show ((Op.equal xt (.slice a rows.length cp) (.slice none 0 0)) >>= fun r => pure (Value.bool r)).run P η.w = _
    simp [run_equal_slice_nil η.w xt E a rows.length cp hT]
  refine ⟨.bool a.isNone, ?_, a.isNone, rfl, fun h => ?_⟩
  · simp only [execOp, h1, h3, eqGuard_at_slice, Sem.run_bind, Sem.run_pure, Result.andThen_ok, e]
  · rcases h2 with h2 | ⟨b, o, rfl, _⟩
    · exact h2
    · cases h

/-! ### structs of numbers -/
def flatF (P : Program) (go : Nat → Option Nat) : List Field → Nat → Option Nat
  | [], off => some off
  | f :: fs, off => if f.name = "_" then none else if f.offset = off then
      match go f.type with
      | some m => if (P.info? f.type).map (·.size) = some m then flatF P go fs (off + m) else none
      | none => none
    else none
def flatI (P : Program) : Nat → Nat → Option Nat
  | 0, _ => none
  | d + 1, T => match P.underlying T with
    | some (.int _) => some 1
    | some (.struct fs) => if P.stoodInHeld T = true then none else flatF P (flatI P d) fs.toList 0
    | _ => none
/-- cells that are numbers of the same kinds -/
def AllI (xs ys : List Value) : Prop := xs.length = ys.length ∧ ∀ (j : Nat) (x y : Value), xs[j]? = some x → ys[j]? = some y → ∃ (k : IntKind) (a b : Int), x = .int k a ∧ y = .int k b
/-- the value of a type that stands in cells -/
def IsAt (P : Program) (T : Nat) (cs : List Value) (v : Value) : Prop := match P.underlying T with
  | some (.struct _) => v = .agg cs.toArray
  | _ => cs = [v]
theorem run_part {T m : Nat} {w : World} {cs : Array Value} {off d : Nat} (hT : flatI P d T = some m) (hs : (P.info? T).map (·.size) = some m) (h : off + m ≤ cs.size) : ∃ v, (part T cs off).run P w = .ok v w ∧ IsAt P T ((cs.toList.drop off).take m) v := by
  cases d with
  | zero => cases hT
  | succ d =>
    simp only [flatI] at hT
    split at hT
    · rename_i k hu
      cases hT
      have hag : (isAgg T).run P w = .ok false w := by simp [isAgg, run_underlying hu]
      have hlt : off < cs.size := by omega
      refine ⟨cs[off], by simp [part, hag, hlt], ?_⟩
      unfold IsAt; rw [hu]
      have hlt' : off < cs.toList.length := by simpa using hlt
      rw [List.drop_eq_getElem_cons hlt']; simp
    · rename_i fs hu
      have hag : (isAgg T).run P w = .ok true w := by simp [isAgg, run_underlying hu]
      obtain ⟨i, hi, him⟩ := Option.map_eq_some_iff.1 hs
      refine ⟨.agg (cs.extract off (off + m)), by simp [part, hag, sizeOf, typeInfo, hi, him], ?_⟩
      unfold IsAt; rw [hu]
      congr 1
      apply Array.ext'
      simp
    · cases hT
theorem AllI.cut {xs ys : List Value} (h : AllI xs ys) (o m : Nat) : AllI ((xs.drop o).take m) ((ys.drop o).take m) := by
  obtain ⟨h1, h2⟩ := h
  refine ⟨by simp [h1], fun j x y hx hy => ?_⟩
  rw [List.getElem?_take, List.getElem?_drop] at hx hy
  split at hx
  · rename_i hj; rw [if_pos hj] at hy; exact h2 _ x y hx hy
  · cases hx
theorem run_eqI {D : Nat} {w : World} : ∀ (d : Nat), d ≤ D → ∀ (T m : Nat), flatI P d T = some m → ∀ (xs ys : List Value) (vx vy : Value), xs.length = m → AllI xs ys → IsAt P T xs vx → IsAt P T ys vy →
    ∃ r, (Op.equalIn (D + 1) T vx vy).run P w = .ok r w ∧ (r = true ↔ xs = ys) := by
  induction D with
  | zero =>
    intro d hd T m hT
    obtain rfl : d = 0 := by omega
    cases hT
  | succ D ihD =>
    intro d hd T m hT xs ys vx vy hm hI hx hy
    cases d with
    | zero => cases hT
    | succ d =>
      simp only [flatI] at hT
      split at hT
      · rename_i k hu
        cases hT
        unfold IsAt at hx hy
        rw [hu] at hx hy
        have hx : xs = [vx] := hx
        have hy : ys = [vy] := hy
        subst hx; subst hy
        obtain ⟨k', a, b, rfl, rfl⟩ := hI.2 0 vx vy rfl rfl
        exact ⟨a == b, by rw [run_equalIn_int w _ T k' k a b hu], by simp⟩
      · rename_i fs hu
        split at hT
        · cases hT
        · rename_i hst
          have hst : P.stoodInHeld T = false := by simpa using hst
          unfold IsAt at hx hy
          rw [hu] at hx hy
          have hx : vx = .agg xs.toArray := hx
          have hy : vy = .agg ys.toArray := hy
          subst hx; subst hy
          have hf : P.fieldsOf T = fs := by simp [Program.fieldsOf, hu]
          rw [run_equalIn_struct w (D + 1) T xs.toArray ys.toArray (by rw [hf]; exact hu) hst, hf]
          have key : ∀ (l : List Field) (off : Nat), flatF P (flatI P d) l off = some m → off ≤ m ∧ ∃ r, (Op.eqFields (D + 1) xs.toArray ys.toArray l).run P w = .ok r w ∧ (r = true ↔ xs.drop off = ys.drop off) := by
            intro l
            induction l with
            | nil =>
              intro off h
              have : off = m := Option.some.inj h
              subst this
              refine ⟨Nat.le_refl _, true, rfl, ?_⟩
              rw [List.drop_of_length_le (by omega), List.drop_of_length_le (by rw [← hI.1]; omega)]; simp
            | cons f l ih =>
              intro off h
              simp only [flatF] at h
              split at h
              · cases h
              · rename_i hname
                split at h
                · rename_i hoff
                  split at h
                  · rename_i q hq
                    split at h
                    · rename_i hsz
                      obtain ⟨hle, r2, hr2, hr2'⟩ := ih (off + q) h
                      obtain ⟨va, h1, h1'⟩ := run_part (w := w) (cs := xs.toArray) (off := off) hq hsz (by simp; omega)
                      obtain ⟨vb, h2, h2'⟩ := run_part (w := w) (cs := ys.toArray) (off := off) hq hsz (by simp [← hI.1]; omega)
                      simp only [List.toList_toArray] at h1' h2'
                      obtain ⟨r1, hr1, hr1'⟩ := ihD d (by omega) f.type q hq _ _ va vb (by simp; omega) (hI.cut off q) h1' h2'
                      refine ⟨by omega, r1 && r2, ?_, ?_⟩
                      · simp only [Op.eqFields, hoff, if_pos hname, Sem.run_bind, h1, h2, Result.andThen_ok, hr1]
                        cases r1
                        · simp
                        · simp [hr2]
                      · rw [Bool.and_eq_true, hr1', hr2']
                        constructor
                        · rintro ⟨e1, e2⟩
                          rw [← List.take_append_drop q (xs.drop off), ← List.take_append_drop q (ys.drop off), e1, List.drop_drop, List.drop_drop, e2]
                        · intro e
                          refine ⟨by rw [e], ?_⟩
                          rw [← List.drop_drop, ← List.drop_drop, e]
                    · cases h
                  · cases h
                · cases h
          obtain ⟨_, r, hr, hr'⟩ := key fs.toList 0 hT
          exact ⟨r, hr, by simpa using hr'⟩
      · cases hT
/-- an encoder all of whose cells are numbers, and that tells its values apart -/
class NumC {α : Type} (cc : α → List Asn) : Prop where
  eq : ∀ η x y vs us, All2 η (cc x) vs → All2 η (cc y) us → AllI vs us ∧ (vs = us ↔ x = y)
def isStructT (P : Program) (T : Nat) : Bool := match P.underlying T with | some (.struct _) => true | _ => false
theorem run_cmpStruct {T m : Nat} {w : World} {xs ys : List Value} (hT : flatI P 9 T = some m) (hs : isStructT P T = true) (hl : xs.length = m) (hI : AllI xs ys) :
    ∃ r, (Op.equalIn 10000 T (.agg xs.toArray) (.agg ys.toArray)).run P w = .ok r w ∧ (r = true ↔ xs = ys) := by
  have hA : ∀ zs : List Value, IsAt P T zs (.agg zs.toArray) := fun zs => by
    unfold isStructT at hs
    unfold IsAt
    split at hs
    · rfl
    · cases hs
  exact run_eqI (D := 9999) 9 (by omega) T m hT xs ys _ _ hl hI (hA xs) (hA ys)
theorem o_eqT {α : Type} [DecidableEq α] {cc : α → List Asn} [hN : NumC cc] {u v : α} {m : Nat} (hT : flatI P 9 xt = some m) (hs : isStructT P xt = true) (hg : P.eqGuardType P.depth xt = false) (hlen : (cc u).length = m) (hx : lk x = AAgg (cc u)) (hy : lk y = AAgg (cc v)) :
    OpRule P c ⟨d, .binOp .eql xt x y yt, ty, pos, aft, gd⟩ lk [] [] [] (ABool (decide (u = v))) := by
  refine mkPure (by intro cs b h; cases h) (fun k h => h.elim) fun η ρo H _ ho => ?_
  have h1 := ho x (by simp [Op.operands]); rw [hx] at h1; obtain ⟨vs, e1, h1⟩ := h1
  have h2 := ho y (by simp [Op.operands]); rw [hy] at h2; obtain ⟨us, e2, h2⟩ := h2
  obtain ⟨h3, h4⟩ := hN.eq η u v _ _ h1 h2
  obtain ⟨r, h5, h6⟩ := run_cmpStruct (w := η.w) hT hs (by rw [← h1.length]; exact hlen) h3
  refine ⟨.bool r, ?_, congrArg Value.bool ?_⟩
  · have hgt := run_eqGuard_agg (P := P) η.w .eql xt x y vs us hg
    have h7 := run_eql_struct (P := P) η.w xt vs us
    simp only [Array.toArray_toList] at h5
    rw [h5] at h7
    simp only [Result.andThen_ok] at h7
    simp only [execOp, e1, e2, Sem.run_bind, hgt, Result.andThen_ok, h7, Sem.run_pure]
  · rw [Bool.eq_iff_iff, h6, h4]; simp
theorem o_neT {α : Type} [DecidableEq α] {cc : α → List Asn} [hN : NumC cc] {u v : α} {m : Nat} (hT : flatI P 9 xt = some m) (hs : isStructT P xt = true) (hg : P.eqGuardType P.depth xt = false) (hlen : (cc u).length = m) (hx : lk x = AAgg (cc u)) (hy : lk y = AAgg (cc v)) :
    OpRule P c ⟨d, .binOp .neq xt x y yt, ty, pos, aft, gd⟩ lk [] [] [] (ABool (decide (¬ u = v))) := by
  refine mkPure (by intro cs b h; cases h) (fun k h => h.elim) fun η ρo H _ ho => ?_
  have h1 := ho x (by simp [Op.operands]); rw [hx] at h1; obtain ⟨vs, e1, h1⟩ := h1
  have h2 := ho y (by simp [Op.operands]); rw [hy] at h2; obtain ⟨us, e2, h2⟩ := h2
  obtain ⟨h3, h4⟩ := hN.eq η u v _ _ h1 h2
  obtain ⟨r, h5, h6⟩ := run_cmpStruct (w := η.w) hT hs (by rw [← h1.length]; exact hlen) h3
  refine ⟨.bool (!r), ?_, congrArg Value.bool ?_⟩
  · have hgt := run_eqGuard_agg (P := P) η.w .neq xt x y vs us hg
    have h7 := run_neq_struct (P := P) η.w xt vs us
    simp only [Array.toArray_toList] at h5
    rw [h5] at h7
    simp only [Result.andThen_ok] at h7
    simp only [execOp, e1, e2, Sem.run_bind, hgt, Result.andThen_ok, h7, Sem.run_pure]
  · have h8 : r = decide (u = v) := by rw [Bool.eq_iff_iff, h6, h4]; simp
    rw [h8]; simp
/-- conversions that keep the number -/
theorem o_convIn {src dst : TypeId} (hs : (P.underlying src).isSome = true) (hd : P.underlying dst = some (.int k')) (hx : lk x = AInt k a) (hn : k.has a → k'.has a) :
    OpRule P c ⟨d, .convert src dst x, ty, pos, aft, gd⟩ lk [] [] [] (AInt k' a) := by
  refine mkPure (by intro cs b h; cases h) (fun k h => h.elim) fun η ρo H _ ho => ?_
  have h1 := ho x (by simp [Op.operands]); rw [hx] at h1; obtain ⟨h1, h2⟩ := h1
  obtain ⟨dd, hdd⟩ := Option.isSome_iff_exists.mp hs
  have hw : k'.wrap a = a := by
    have := hn h2
    cases k' <;> simp [IntKind.has, IntKind.min, IntKind.max, IntKind.signed, IntKind.bits, IntKind.wrap] at this ⊢ <;> omega
  exact ⟨.int k' a, by simp [execOp, h1, convert, run_underlying hdd, run_underlying hd, Conv.intToInt, hw], rfl, hn h2⟩

theorem o_max (hx : lk x = AInt k a) (hy : lk y = AInt k b) {ts : Array TypeId} : OpRule P c ⟨d, .call ⟨.builtin .max, #[x, y], ts⟩, ty, pos, aft, gd⟩ lk [] [] [] (AInt k (if a < b then b else a)) := by
  refine mkPure (by intro cs b h; cases h) (fun k h => h.elim) fun η ρo H _ ho => ?_
  have h1 := ho x (by simp [Op.operands, Call.operands]); rw [hx] at h1; obtain ⟨h1, h3⟩ := h1
  have h2 := ho y (by simp [Op.operands, Call.operands]); rw [hy] at h2; obtain ⟨h2, h4⟩ := h2
  refine ⟨.int k (if a < b then b else a), by simp [execOp, resolve, invoke, builtin, h1, h2, Builtin.max_, Builtin.max2], rfl, ?_⟩
  split
  · exact h4
  · exact h3

/-! ### slices of slices -/
theorem flatten_drop {rows : List (List Asn)} {n : Nat} (h : ∀ r ∈ rows, r.length = n) : ∀ m, (rows.drop m).flatten = rows.flatten.drop (m * n) := by
  induction rows with
  | nil => intro m; simp
  | cons r rows ih =>
    intro m
    cases m with
    | zero => simp
    | succ m =>
      rw [List.drop_succ_cons, ih (fun r hr => h r (by simp [hr])) m, List.flatten_cons, Nat.succ_mul, Nat.add_comm, ← List.drop_drop]
      congr 1
      have hr : r.length = n := h r (by simp)
      rw [← hr]; simp
theorem flatten_take {rows : List (List Asn)} {n : Nat} (h : ∀ r ∈ rows, r.length = n) : ∀ m, (rows.take m).flatten = rows.flatten.take (m * n) := by
  induction rows with
  | nil => intro m; simp
  | cons r rows ih =>
    intro m
    cases m with
    | zero => simp
    | succ m =>
      have hr : r.length = n := h r (by simp)
      rw [List.take_succ_cons, List.flatten_cons, ih (fun r hr => h r (by simp [hr])) m, List.flatten_cons, Nat.succ_mul, Nat.add_comm, List.take_append, List.take_of_length_le (l := r) (by omega)]
      congr 2
      omega
theorem list_slice {η : Env} {n l h : Nat} {rows : List (List Asn)} {a : Option Addr} {cp : Nat} (hp : (AList n rows).p η (.slice a rows.length cp)) (h0 : l ≤ h) (h1 : h ≤ rows.length) :
    (AList n ((rows.drop l).take (h - l))).p η (sliced a l h cp n) := by
  obtain ⟨a', c', e, g1, g2, g3, g4⟩ := hp
  cases e
  have hlen : ((rows.drop l).take (h - l)).length = h - l := by simp; omega
  refine ⟨if cp = l then a else a.map (·.add (l * n)), cp - l, by unfold sliced; rw [hlen], by rw [hlen]; omega, by omega, fun r hr => g3 r (List.mem_of_mem_drop (List.mem_of_mem_take hr)), ?_⟩
  by_cases hl : h = l
  · left; rw [hlen]; omega
  · rcases g4 with g4 | ⟨b, o, rfl, hc⟩
    · omega
    · right
      have hne : cp ≠ l := by omega
      refine ⟨b, o + l * n, by rw [if_neg hne]; simp [Addr.add_lit], ?_⟩
      rw [flatten_take (n := n) (fun r hr => g3 r (List.mem_of_mem_drop hr)), flatten_drop g3]
      exact (hc.drop _).take _
end

end Go.Proofs.YtngimdmkomkeoaaGreat.K
