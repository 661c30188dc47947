/- More rules: the length of a nil slice; a call that borrows objects and makes a row of its own. -/
import Derived.Test.YtngimdmkomkeoaaGreatCoreQ
import Derived.Laws.StandIn
set_option linter.unusedVariables false
set_option linter.unusedSimpArgs false
namespace Go.Proofs.YtngimdmkomkeoaaGreat.K
open Go.RowKit
section
variable {P : Program} {c : Ctx} {lk : Operand → Asn} {d : Option Nat} {ty : TypeId} {pos : String} {aft : Array Edge} {gd : Option (Nat × Bool)}
def byteIx (s : ByteArray) (c : Int) : Int := match (List.range s.size).find? fun i => s[i]! == c.toNat.toUInt8 with
  | some i => (i : Int)
  | none => -1
def IsIxByte (P : Program) (f : FuncId) : Prop := ∃ fn, P.funcs[f]? = some fn ∧ (fn.name == "runtime.NumGoroutine") = false ∧ fn.body = none ∧ Extern.findNext fn = none ∧ Extern.find fn = some Extern.BytealgIndexByte.indexByte
theorem o_ixByte {f : FuncId} {x y : Operand} {s : ByteArray} {n : Int} {ts : Array TypeId} (hF : IsIxByte P f) (hx : lk x = z1h s) (hy : lk y = z1z .u8 n) (hf : lk (.func f) = z3n f []) : z2o P c ⟨d, .call ⟨.value (.func f), #[x, y], ts⟩, ty, pos, aft, gd⟩ lk [] [] [] (z1z .i64 (byteIx s n)) := by
  refine z58 (by intro cs b h; cases h) (fun k h => h.elim) fun η ρo H _ ho => ?_
  obtain ⟨fn, g1, g2, g3, g4, g5⟩ := hF
  have h1 := ho x (by simp [Op.operands, Call.operands]); rw [hx] at h1; obtain ⟨h1, h3⟩ := h1
  have h2 := ho y (by simp [Op.operands, Call.operands]); rw [hy] at h2; obtain ⟨h2, _⟩ := h2
  have hv := ho (.func f) (by simp [Op.operands, Call.operands]); rw [hf] at hv
  obtain ⟨vs, e, hvs⟩ := hv
  have hvs0 : vs = #[] := by
    have := hvs.length; simp at this; exact Array.eq_empty_of_size_eq_zero this.symm
  subst hvs0
  have hg : fn.name ≠ "runtime.NumGoroutine" := by simpa using g2
  have hrun : (callFunc f #[.string s, .int .u8 n]).run P η.w = .ok (.value (.int .i64 (byteIx s n))) η.w := by
    have e : Extern.BytealgIndexByte.indexByte #[.string s, .int .u8 n] = (match (List.range s.size).find? fun i => s[i]! == n.toNat.toUInt8 with
      | some i => pure (goInt i)
      | none => pure (goInt (-1)) : Sem Value) := rfl
    rw [run_callFunc_indexByte g1 g2 (by rw [g3]; rfl) g4 g5, e]
    unfold byteIx
    split <;> simp [goInt]
  refine ⟨.int .i64 (byteIx s n), ?_, rfl, ?_⟩
  · simp only [execOp, resolve, e, Deferred.ofValue, Sem.run_bind, Sem.run_pure, Result.andThen_ok, invoke]
    simpa [h1, h2] using hrun
  · unfold byteIx
    unfold maxLen at h3
    split
    · rename_i i hi
      have := List.mem_of_find?_eq_some hi
      simp at this
      simp [IntKind.has, IntKind.min, IntKind.max, IntKind.signed, IntKind.bits]; omega
    · simp [IntKind.has, IntKind.min, IntKind.max, IntKind.signed, IntKind.bits]
end
section
variable {P : Program} {fn : Func} {n N0 : Nat} {Y Z : Type} {X : Cx P fn n N0 Y} {e : Option Z} {g : Z → Option Y} {k : List Item} {s : St} {draw : Bool} {ops l rest : List Oper} {acc : List Foot} {x : Operand} {d : Option Nat} {ty : TypeId} {pos : String} {aft : Array Edge} {gd : Option (Nat × Bool)}
theorem r_ixByte {f : FuncId} {u : ByteArray} {b : Int} {y : Operand} {ts : Array TypeId} (hF : IsIxByte P f) (hx : lkp s.sl x = z1h u) (hy : lkp s.sl y = z1z .u8 b) (hg : z1k ops.toArray s.sl ⟨d, .call ⟨.value (.func f), #[x, y], ts⟩, ty, pos, aft, gd⟩ true)
    (h : RT X draw ops l e g rest (⟨[], []⟩ :: acc) ⟨z5y s.sl d (z1z .i64 (byteIx u b)), s.H, s.N⟩ k) : RT X draw ops l e g (⟨d, .call ⟨.value (.func f), #[x, y], ts⟩, ty, pos, aft, gd⟩ :: rest) acc s k := z3f (o_ixByte hF hx hy rfl) hg h
end
theorem kbl_nk {N : Nat} {As : List Asn} [h : NKL As] : KBL N As := ⟨fun k hk => absurd hk (h.nk k)⟩
section
variable {P : Program} {fn : Func} {n N0 : Nat} {Y Z : Type} {X : Cx P fn n N0 Y} {e : Option Z} {g : Z → Option Y} {k : List Item} {s : St} {draw : Bool} {ops l rest : List Oper} {acc : List Foot} {x y : Operand} {d : Option Nat} {ty : TypeId} {pos : String} {aft : Array Edge} {gd : Option (Nat × Bool)}
end
theorem q.{u} {α : Sort u} {a : α} : a = a := rfl
theorem Jq {P : Program} {fn : Func} {n N0 : Nat} {Y Z : Type} {X : Cx P fn n N0 Y} {e : Option Z} {g : Z → Option Y} {k : List Item} {s : St} {ops : List Oper} {id : Nat} {y : Code} (hd : dstsOk n ops = true) (h : RT X false ops ops e g ops [] s (.code y :: k)) : J X e g (.code (.seq (.region id ops.toArray false) y) :: k) s :=
  J_seq (J_region hd h)
theorem Jt {P : Program} {fn : Func} {n N0 : Nat} {Y Z : Type} {X : Cx P fn n N0 Y} {e : Option Z} {g : Z → Option Y} {k : List Item} {s : St} {A : Asn} {rr : Y → Asn} {z : Y} (hΨ : ∀ z η v H, z2h X.c η H → (rr z).p η v → X.Ψ z η v) (hres : ResIs X s A) (hz : e.bind g = some z) (hA : A = rr z) : J X e g (.code .ret :: k) s :=
  J_ret hΨ hres fun y hy => by rw [hz] at hy; cases hy; exact hA
theorem Rt {P : Program} {fn : Func} {n N0 : Nat} {Y Z : Type} {X : Cx P fn n N0 Y} {e : Option Z} {g : Z → Option Y} {k : List Item} {s : St} {ops l : List Oper} {acc : List Foot} {t : Nat} {rr : Y → Asn} {z : Y} (hΨ : ∀ z η v H, z2h X.c η H → (rr z).p η v → X.Ψ z η v) (hres : fn.results = #[.tmp t]) (hz : e.bind g = some z) (hA : s.sl t = rr z) : RT X false ops l e g [] acc s (.code .ret :: k) :=
  R_nil0 (Jt hΨ (z18 hres) hz hA)
section
variable {sl : Nat → Asn} {i1 i2 i3 i4 i5 i6 : Nat} {A1 A2 A3 A4 A5 A6 : Asn} {r : List (Nat × Asn)}
theorem Agrees.c2 (h1 : sl i1 = A1) (h2 : sl i2 = A2) (t : Agrees sl r) : Agrees sl ((i1, A1) :: (i2, A2) :: r) := .cons h1 (.cons h2 t)
theorem Agrees.c3 (h1 : sl i1 = A1) (h2 : sl i2 = A2) (h3 : sl i3 = A3) (t : Agrees sl r) : Agrees sl ((i1, A1) :: (i2, A2) :: (i3, A3) :: r) := .cons h1 (.c2 h2 h3 t)
theorem Agrees.c6 (h1 : sl i1 = A1) (h2 : sl i2 = A2) (h3 : sl i3 = A3) (h4 : sl i4 = A4) (h5 : sl i5 = A5) (h6 : sl i6 = A6) (t : Agrees sl r) : Agrees sl ((i1, A1) :: (i2, A2) :: (i3, A3) :: (i4, A4) :: (i5, A5) :: (i6, A6) :: r) := .c3 h1 h2 h3 (.c3 h4 h5 h6 t)
variable {H : Heap} {F : Nat → Bool} {σ : Nat → Nat} {G Q : Nat → Bool}
theorem SlC.s2 (h1 : sl i1 = A1) (h2 : sl i2 = A2) [NK A1] [NK A2] (t : SlC H F σ G Q sl r) : SlC H F σ G Q sl ((i1, A1) :: (i2, A2) :: r) := .same h1 (.same h2 t)
theorem SlC.s3 (h1 : sl i1 = A1) (h2 : sl i2 = A2) (h3 : sl i3 = A3) [NK A1] [NK A2] [NK A3] (t : SlC H F σ G Q sl r) : SlC H F σ G Q sl ((i1, A1) :: (i2, A2) :: (i3, A3) :: r) := .same h1 (.s2 h2 h3 t)
theorem SlC.s6 (h1 : sl i1 = A1) (h2 : sl i2 = A2) (h3 : sl i3 = A3) (h4 : sl i4 = A4) (h5 : sl i5 = A5) (h6 : sl i6 = A6) [NK A1] [NK A2] [NK A3] [NK A4] [NK A5] [NK A6] (t : SlC H F σ G Q sl r) : SlC H F σ G Q sl ((i1, A1) :: (i2, A2) :: (i3, A3) :: (i4, A4) :: (i5, A5) :: (i6, A6) :: r) := .s3 h1 h2 h3 (.s3 h4 h5 h6 t)
end
section
variable {P : Program} {fn : Func} {n N0 : Nat} {Y Z τ : Type} {X : Cx P fn n N0 Y} {e : Option Z} {g : Z → Option Y} {k : List Item} {s : St} {L : List (Nat × Asn)} {Hs : List (Nat × z5b)} {N : Nat}
theorem Jk (h : J X e g k ⟨fr L, s.H, s.N⟩) (ha : Agrees s.sl L) : J X e g k s := J_to L ha h
theorem Jc (F : List Nat) (σ : List (Nat × Nat)) (G : List Nat) (h : J X e g k ⟨fr L, hp Hs, N⟩) (hs : SlC s.H (z5g · F) (ren σ) (z5g · G) (Nat.blt · N) s.sl L) (hh : HpC s.H (z5g · F) (ren σ) (z5g · G) (Nat.blt · N) Hs) (hN : Nat.ble N0 N = true) (hσ : ((List.range N0).all fun k => Nat.beq (ren σ k) k && !(z5g k G)) = true) : J X e g k s := J_cv F σ G N L Hs hs hh hN hσ h
theorem Jl {F : τ → Option (τ ⊕ Z)} {body : Code} {x0 : τ} (S : τ → List (Nat × Asn)) (ha : Agrees s.sl (S x0)) (h : ∀ E : τ → Option Z, (∀ x, J X (E x) g (.inLoop body :: k) ⟨fr (S x), s.H, s.N⟩) → ∀ x, J X (F x) (way E g) (.code body :: .inLoop body :: k) ⟨fr (S x), s.H, s.N⟩) : J X (z2l F x0) g (.code (.loop body) :: k) s :=
  J_to (S x0) ha (J_it (fun x => ⟨fr (S x), s.H, s.N⟩) h rfl)
theorem Jn {F : τ → Option (τ ⊕ Z)} {body : Code} {x0 : τ} (S : τ → St) (F' : List Nat) (σ : List (Nat × Nat)) (G : List Nat) (h0 : S x0 = ⟨fr L, hp Hs, N⟩) (hs : SlC s.H (z5g · F') (ren σ) (z5g · G) (Nat.blt · N) s.sl L) (hh : HpC s.H (z5g · F') (ren σ) (z5g · G) (Nat.blt · N) Hs) (hN : Nat.ble N0 N = true) (hσ : ((List.range N0).all fun k => Nat.beq (ren σ k) k && !(z5g k G)) = true)
    (h : ∀ E : τ → Option Z, (∀ x, J X (E x) g (.inLoop body :: k) (S x)) → ∀ x, J X (F x) (way E g) (.code body :: .inLoop body :: k) (S x)) : J X (z2l F x0) g (.code (.loop body) :: k) s :=
  J_cv F' σ G N L Hs hs hh hN hσ (J_it S h h0.symm)
end
abbrev Js := @J_seq
abbrev Jr := @J_region
abbrev R0 := @R_nil0
abbrev Rk := @R_skip
abbrev Ra := @r_assign
abbrev Rm := @r_move
end Go.Proofs.YtngimdmkomkeoaaGreat.K
