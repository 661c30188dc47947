/- What the printed proofs use besides; encoders of plain values. -/
import Derived.Test.YtngimdmkomkeoaaGreatCoreO
set_option linter.unusedVariables false
set_option linter.unusedSimpArgs false
namespace Go.Proofs.YtngimdmkomkeoaaGreat.K
open Go.RowKit
theorem bf {b : Bool} (h : ¬ b = true) : b = false := Bool.eq_false_iff.2 h
theorem nk_args {args : List Asn} [h : NKL args] : ∀ t k, ¬ (args.getD t ATop).keys k := fun t k hk => by
  cases hA : args[t]? with
  | none => simp only [List.getD, hA, Option.getD_none] at hk; exact hk
  | some A => simp only [List.getD, hA, Option.getD_some] at hk; exact h.nk k ⟨A, List.mem_of_getElem? hA, hk⟩
abbrev w64 (x : Int) : Int := IntKind.i64.wrap x
def z01 (n : Int) : List Asn := [z1z .i64 n]
def c_i8 (n : Int) : List Asn := [z1z .i8 n]
def c_u8 (n : Int) : List Asn := [z1z .u8 n]
def c_u64 (n : Int) : List Asn := [z1z .u64 n]
def z9e (b : Bool) : List Asn := [z00 b]
def z23 (b : ByteArray) : List Asn := [z1h b]
def cL {α : Type} (n : Nat) (cc : α → List Asn) (xs : List α) : List Asn := [AL n cc xs]
class ScalC {α : Type} (cc : α → List Asn) : Prop where
  sc : ∀ x, ScalL (cc x)
instance {α : Type} {cc : α → List Asn} {x : α} [h : ScalC cc] : ScalL (cc x) := h.sc x
instance : NKC z01 := ⟨fun x => (inferInstance : NKL [z1z .i64 x])⟩
instance : OneC z01 := ⟨fun x => (inferInstance : OneL [z1z .i64 x])⟩
instance : LenC z01 1 := ⟨fun x => rfl⟩
instance : ScalC z01 := ⟨fun x => (inferInstance : ScalL [z1z .i64 x])⟩
instance : NKC c_i8 := ⟨fun x => (inferInstance : NKL [z1z .i8 x])⟩
instance : OneC c_i8 := ⟨fun x => (inferInstance : OneL [z1z .i8 x])⟩
instance : LenC c_i8 1 := ⟨fun x => rfl⟩
instance : ScalC c_i8 := ⟨fun x => (inferInstance : ScalL [z1z .i8 x])⟩
instance : NKC c_u8 := ⟨fun x => (inferInstance : NKL [z1z .u8 x])⟩
instance : OneC c_u8 := ⟨fun x => (inferInstance : OneL [z1z .u8 x])⟩
instance : LenC c_u8 1 := ⟨fun x => rfl⟩
instance : ScalC c_u8 := ⟨fun x => (inferInstance : ScalL [z1z .u8 x])⟩
instance : NKC c_u64 := ⟨fun x => (inferInstance : NKL [z1z .u64 x])⟩
instance : OneC c_u64 := ⟨fun x => (inferInstance : OneL [z1z .u64 x])⟩
instance : LenC c_u64 1 := ⟨fun x => rfl⟩
instance : ScalC c_u64 := ⟨fun x => (inferInstance : ScalL [z1z .u64 x])⟩
instance : NKC z9e := ⟨fun x => (inferInstance : NKL [z00 x])⟩
instance : OneC z9e := ⟨fun x => (inferInstance : OneL [z00 x])⟩
instance : LenC z9e 1 := ⟨fun x => rfl⟩
instance : ScalC z9e := ⟨fun x => (inferInstance : ScalL [z00 x])⟩
instance : NKC z23 := ⟨fun x => (inferInstance : NKL [z1h x])⟩
instance : OneC z23 := ⟨fun x => (inferInstance : OneL [z1h x])⟩
instance : LenC z23 1 := ⟨fun x => rfl⟩
instance : ScalC z23 := ⟨fun x => (inferInstance : ScalL [z1h x])⟩
instance {α : Type} {n : Nat} {cc : α → List Asn} [NKC cc] : NKC (cL n cc) := ⟨fun x => (inferInstance : NKL [AL n cc x])⟩
instance {α : Type} {n : Nat} {cc : α → List Asn} : OneC (cL n cc) := ⟨fun x => (inferInstance : OneL [AL n cc x])⟩
instance {α : Type} {n : Nat} {cc : α → List Asn} : LenC (cL n cc) 1 := ⟨fun x => rfl⟩
section
variable {P : Program} {fn : Func} {n N0 : Nat} {Y Z V : Type} {X : Cx P fn n N0 Y} {e e1 e2 : Option Z} {g : Z → Option Y} {k : List Item} {s : St} {draw : Bool} {ops l rest : List Oper} {acc : List Foot}
  {d : Option Nat} {ty : TypeId} {pos : String} {aft : Array Edge} {gd : Option (Nat × Bool)} {x : Operand}
theorem z1d {o : Operand} {x y : Code} {b : Bool} (hc : lkp s.sl o = z00 b) (hb : b = true) (ht : J X e g (.code x :: k) s) : J X e g (.code (.cond o x y) :: k) s := by subst hb; exact J_cond_t hc ht
theorem J_cond_F {o : Operand} {x y : Code} {b : Bool} (hc : lkp s.sl o = z00 b) (hb : b = false) (hf : J X e g (.code y :: k) s) : J X e g (.code (.cond o x y) :: k) s := by subst hb; exact J_cond_f hc hf
theorem z2w {k' ks : List Item} (S : V → St) (f : V → Option Z) (h1 : (∀ v, J X (f v) g k' (S v)) → J X e g ks s) (h2 : ∀ v, J X (f v) g k' (S v)) : J X e g ks s := h1 h2
theorem R_nil0 (h : J X e g k s) : RT X false ops l e g [] acc s k := R_nil (by intro h; cases h) h
theorem z1y (hk : drawOk n l acc.reverse = true) (h : J X e g k s) : RT X draw ops l e g [] acc s k := R_nil (fun _ => hk) h
theorem z17 {E : TypeId} (A : Asn) {As : List Asn} (hx : lkp s.sl x = A) [hv : VA A As] (hg : z1k ops.toArray s.sl ⟨d, .box E x, ty, pos, aft, gd⟩ true) (h : RT X draw ops l e g rest (⟨[], []⟩ :: acc) ⟨z5y s.sl d (z1r As), s.H, s.N⟩ k) :
    RT X draw ops l e g (⟨d, .box E x, ty, pos, aft, gd⟩ :: rest) acc s k := r_box As A hx hv.va hv.ks hg h
end
theorem Cv.cloFn {H : Heap} {F : Nat → Bool} {σ : Nat → Nat} {G Q : Nat → Bool} {α β : Type} {P : Program} {f : FuncId} {ga : α → List Asn} {rt : β → Asn} {gg : α → Option β} (hF : z26 P f) (hc : ∀ x y, gg x = some y → FnP P f (ga x) (rt y)) : Cv H F σ G Q (z3n f []) (AFn P ga rt gg) := by
  refine ⟨fun c η _ v ⟨vs, e, h⟩ => ?_, fun k h => h.elim⟩
  obtain ⟨fn, h1, h2, h3⟩ := hF
  have h' : z5a (cvE H F σ G η) [] vs.toList := by
    generalize vs.toList = l at h ⊢
    cases h; exact .nil
  exact ⟨f, vs, [], fn, e, h', z4g, h1, h2, h3, fun x y hx => (by rw [List.append_nil]; exact hc x y hx)⟩
inductive ImpL : List Asn → List Asn → Prop
  | nil : ImpL [] []
  | same {A : Asn} {As Bs : List Asn} (t : ImpL As Bs) : ImpL (A :: As) (A :: Bs)
  | nl {n : Nat} {As Bs : List Asn} (t : ImpL As Bs) : ImpL (z1m :: As) (zal n [] :: Bs)
theorem ImpL.all2 {As Bs : List Asn} (h : ImpL As Bs) {η : Env} : ∀ {vs : List Value}, z5a η As vs → z5a η Bs vs := by
  induction h with
  | nil => intro vs h; exact h
  | same _ ih => intro vs h; cases h with | cons a b => exact .cons a (ih b)
  | nl _ ih => intro vs h; cases h with | cons a b => exact .cons (by have : _ = Value.slice none 0 0 := a; subst this; exact nil_list _ η) (ih b)
theorem ImpL.keys {As Bs : List Asn} (h : ImpL As Bs) {k : Nat} : z39 Bs k → z39 As k := by
  induction h with
  | nil => exact id
  | same _ ih =>
    rintro ⟨A, hA, hk⟩
    rcases List.mem_cons.1 hA with rfl | hA
    · exact ⟨A, by simp, hk⟩
    · obtain ⟨B, hB, hk⟩ := ih ⟨A, hA, hk⟩; exact ⟨B, by simp [hB], hk⟩
  | nl _ ih =>
    rintro ⟨A, hA, hk⟩
    rcases List.mem_cons.1 hA with rfl | hA
    · exact absurd hk (z4g k)
    · obtain ⟨B, hB, hk⟩ := ih ⟨A, hA, hk⟩; exact ⟨B, by simp [hB], hk⟩
theorem z4p {P : Program} {fn : Func} {n N0 : Nat} {Y Z : Type} {X : Cx P fn n N0 Y} {e : Option Z} {g : Z → Option Y} {k : List Item} {s : St} {draw : Bool} {ops l rest : List Oper} {acc : List Foot} {d : Option Nat} {ty : TypeId} {pos : String} {aft : Array Edge} {gd : Option (Nat × Bool)}
    {T : Nat} {parts : List (Nat × Operand)} {As Cs : List Asn} {ps : List (Nat × List Asn)} (Bs : List Asn) (hT : (z6o P T).isSome = true) (hz : zA P T = some As) (hp : PartsV (lkp s.sl) (z2z P T) As.length parts ps) (hB : fillA As ps = Cs) (hI : ImpL Cs Bs) (hg : z1k ops.toArray s.sl ⟨d, .build T parts.toArray, ty, pos, aft, gd⟩ true)
    (h : RT X draw ops l e g rest (⟨[], []⟩ :: acc) ⟨z5y s.sl d (z0w Bs), s.H, s.N⟩ k) : RT X draw ops l e g (⟨d, .build T parts.toArray, ty, pos, aft, gd⟩ :: rest) acc s k := by
  obtain ⟨zs, h1, h2⟩ := zA_spec hz
  obtain ⟨pl, hpl⟩ := Option.isSome_iff_exists.1 hT
  have hi : Imp (z0w Cs) (z0w Bs) := ⟨fun η v ⟨vs, e, hv⟩ => ⟨vs, e, hI.all2 hv⟩, fun k => hI.keys⟩
  exact z3f ((o_build hpl h1 h2 (hp.place hpl).parts hB).imp hi) hg h
end Go.Proofs.YtngimdmkomkeoaaGreat.K
