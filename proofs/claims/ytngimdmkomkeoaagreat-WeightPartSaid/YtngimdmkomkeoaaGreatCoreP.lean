import Derived.Test.YtngimdmkomkeoaaGreatCoreO
set_option linter.unusedVariables false
set_option linter.unusedSimpArgs false
namespace Go.Proofs.YtngimdmkomkeoaaGreat.K
open Go.RowKit
theorem bf {b : Bool} (h : ¬ b = true) : b = false := Bool.eq_false_iff.2 h
theorem GT {args : List ae} [h : cT args] : ∀ t k, ¬ (args.getD t fA).keys k := fun t k hk => by
  cases hA : args[t]? with
  | none => simp only [List.getD, hA, Option.getD_none] at hk; exact hk
  | some A => simp only [List.getD, hA, Option.getD_some] at hk; exact h.nk k ⟨A, List.mem_of_getElem? hA, hk⟩
abbrev bb (x : Int) : Int := IntKind.i64.wrap x
def ab (n : Int) : List ae := [aj .i64 n]
def k8 (n : Int) : List ae := [aj .i8 n]
def cj (n : Int) : List ae := [aj .u8 n]
def ov (n : Int) : List ae := [aj .u64 n]
def cf (b : Bool) : List ae := [aa b]
def bq (b : ByteArray) : List ae := [am b]
def cL {α : Type} (n : Nat) (cc : α → List ae) (xs : List α) : List ae := [AL n cc xs]
class fa {α : Type} (cc : α → List ae) : Prop where
  sc : ∀ x, ee (cc x)
instance {α : Type} {cc : α → List ae} {x : α} [h : fa cc] : ee (cc x) := h.sc x
instance : ah ab := ⟨fun x => (inferInstance : cT [aj .i64 x])⟩
instance : dm ab := ⟨fun x => (inferInstance : cQ [aj .i64 x])⟩
instance : cP ab 1 := ⟨fun x => rfl⟩
instance : fa ab := ⟨fun x => (inferInstance : ee [aj .i64 x])⟩
instance : ah k8 := ⟨fun x => (inferInstance : cT [aj .i8 x])⟩
instance : dm k8 := ⟨fun x => (inferInstance : cQ [aj .i8 x])⟩
instance : cP k8 1 := ⟨fun x => rfl⟩
instance : fa k8 := ⟨fun x => (inferInstance : ee [aj .i8 x])⟩
instance : ah cj := ⟨fun x => (inferInstance : cT [aj .u8 x])⟩
instance : dm cj := ⟨fun x => (inferInstance : cQ [aj .u8 x])⟩
instance : cP cj 1 := ⟨fun x => rfl⟩
instance : fa cj := ⟨fun x => (inferInstance : ee [aj .u8 x])⟩
instance : ah ov := ⟨fun x => (inferInstance : cT [aj .u64 x])⟩
instance : dm ov := ⟨fun x => (inferInstance : cQ [aj .u64 x])⟩
instance : cP ov 1 := ⟨fun x => rfl⟩
instance : fa ov := ⟨fun x => (inferInstance : ee [aj .u64 x])⟩
instance : ah cf := ⟨fun x => (inferInstance : cT [aa x])⟩
instance : dm cf := ⟨fun x => (inferInstance : cQ [aa x])⟩
instance : cP cf 1 := ⟨fun x => rfl⟩
instance : fa cf := ⟨fun x => (inferInstance : ee [aa x])⟩
instance : ah bq := ⟨fun x => (inferInstance : cT [am x])⟩
instance : dm bq := ⟨fun x => (inferInstance : cQ [am x])⟩
instance : cP bq 1 := ⟨fun x => rfl⟩
instance : fa bq := ⟨fun x => (inferInstance : ee [am x])⟩
instance {α : Type} {n : Nat} {cc : α → List ae} [ah cc] : ah (cL n cc) := ⟨fun x => (inferInstance : cT [AL n cc x])⟩
instance {α : Type} {n : Nat} {cc : α → List ae} : dm (cL n cc) := ⟨fun x => (inferInstance : cQ [AL n cc x])⟩
instance {α : Type} {n : Nat} {cc : α → List ae} : cP (cL n cc) 1 := ⟨fun x => rfl⟩
section
variable {P : Program} {fn : Func} {n N0 : Nat} {Y Z V : Type} {X : Cx P fn n N0 Y} {e e1 e2 : Option Z} {g : Z → Option Y} {k : List Item} {s : St} {draw : Bool} {ops l rest : List Oper} {acc : List cB}
  {d : Option Nat} {ty : TypeId} {pos : String} {aft : Array Edge} {gd : Option (Nat × Bool)} {x : Operand}
theorem cJ {o : Operand} {x y : Code} {b : Bool} (hc : bi s.sl o = aa b) (hb : b = true) (ht : J X e g (.code x :: k) s) : J X e g (.code (.cond o x y) :: k) s := by subst hb; exact Hx hc ht
theorem dX {o : Operand} {x y : Code} {b : Bool} (hc : bi s.sl o = aa b) (hb : b = false) (hf : J X e g (.code y :: k) s) : J X e g (.code (.cond o x y) :: k) s := by subst hb; exact Hw hc hf
theorem ch {k' ks : List Item} (S : V → St) (f : V → Option Z) (h1 : (∀ v, J X (f v) g k' (S v)) → J X e g ks s) (h2 : ∀ v, J X (f v) g k' (S v)) : J X e g ks s := h1 h2
theorem vA (h : J X e g k s) : RT X false ops l e g [] acc s k := zn (by intro h; cases h) h
theorem bK (hk : ll n l acc.reverse = true) (h : J X e g k s) : RT X draw ops l e g [] acc s k := zn (fun _ => hk) h
theorem aV {E : TypeId} (A : ae) {As : List ae} (hx : bi s.sl x = A) [hv : VA A As] (hg : bD ops.toArray s.sl ⟨d, .box E x, ty, pos, aft, gd⟩ true) (h : RT X draw ops l e g rest (⟨[], []⟩ :: acc) ⟨bm s.sl d (ap As), s.H, s.N⟩ k) :
    RT X draw ops l e g (⟨d, .box E x, ty, pos, aft, gd⟩ :: rest) acc s k := r_box As A hx hv.va hv.ks hg h
end
theorem Cv.cloFn {H : cz} {F : Nat → Bool} {σ : Nat → Nat} {G Q : Nat → Bool} {α β : Type} {P : Program} {f : FuncId} {ga : α → List ae} {rt : β → ae} {gg : α → Option β} (hF : aF P f) (hc : ∀ x y, gg x = some y → aB P f (ga x) (rt y)) : Cv H F σ G Q (bj f []) (cC P ga rt gg) := by
  refine ⟨fun c η _ v ⟨vs, e, h⟩ => ?_, fun k h => h.elim⟩
  obtain ⟨fn, h1, h2, h3⟩ := hF
  have h' : bw (eE H F σ G η) [] vs.toList := by
    generalize vs.toList = l at h ⊢
    cases h; exact .nil
  exact ⟨f, vs, [], fn, e, h', gu, h1, h2, h3, fun x y hx => (by rw [List.append_nil]; exact hc x y hx)⟩
inductive iJ : List ae → List ae → Prop
  | nil : iJ [] []
  | same {A : ae} {As Bs : List ae} (t : iJ As Bs) : iJ (A :: As) (A :: Bs)
  | nl {n : Nat} {As Bs : List ae} (t : iJ As Bs) : iJ (af :: As) (dR n [] :: Bs)
theorem iJ.all2 {As Bs : List ae} (h : iJ As Bs) {η : bA} : ∀ {vs : List Value}, bw η As vs → bw η Bs vs := by
  induction h with
  | nil => intro vs h; exact h
  | same _ ih => intro vs h; cases h with | cons a b => exact .cons a (ih b)
  | nl _ ih => intro vs h; cases h with | cons a b => exact .cons (by have : _ = Value.slice none 0 0 := a; subst this; exact wC _ η) (ih b)
theorem iJ.keys {As Bs : List ae} (h : iJ As Bs) {k : Nat} : d7 Bs k → d7 As k := by
  induction h with
  | nil => exact id
  | same _ ih =>
    rintro ⟨A, hA, hk⟩
    rcases List.mem_cons.1 hA with rfl | hA
    · exact ⟨A, by simp, hk⟩
    · obtain ⟨B, hB, hk⟩ := ih ⟨A, hA, hk⟩; exact ⟨B, by simp [hB], hk⟩
  | nl _ ih =>
    rintro ⟨A, hA, hk⟩
    rcases List.mem_cons.1 hA with rfl | hA
    · exact absurd hk (gu k)
    · obtain ⟨B, hB, hk⟩ := ih ⟨A, hA, hk⟩; exact ⟨B, by simp [hB], hk⟩
theorem dH {P : Program} {fn : Func} {n N0 : Nat} {Y Z : Type} {X : Cx P fn n N0 Y} {e : Option Z} {g : Z → Option Y} {k : List Item} {s : St} {draw : Bool} {ops l rest : List Oper} {acc : List cB} {d : Option Nat} {ty : TypeId} {pos : String} {aft : Array Edge} {gd : Option (Nat × Bool)}
    {T : Nat} {parts : List (Nat × Operand)} {As Cs : List ae} {ps : List (Nat × List ae)} (Bs : List ae) (hT : (eC P T).isSome = true) (hz : zA P T = some As) (hp : hO (bi s.sl) (cI P T) As.length parts ps) (hB : io As ps = Cs) (hI : iJ Cs Bs) (hg : bD ops.toArray s.sl ⟨d, .build T parts.toArray, ty, pos, aft, gd⟩ true)
    (h : RT X draw ops l e g rest (⟨[], []⟩ :: acc) ⟨bm s.sl d (ac Bs), s.H, s.N⟩ k) : RT X draw ops l e g (⟨d, .build T parts.toArray, ty, pos, aft, gd⟩ :: rest) acc s k := by
  obtain ⟨zs, h1, h2⟩ := s9 hz
  obtain ⟨pl, hpl⟩ := Option.isSome_iff_exists.1 hT
  have hi : Imp (ac Cs) (ac Bs) := ⟨fun η v ⟨vs, e, hv⟩ => ⟨vs, e, hI.all2 hv⟩, fun k => hI.keys⟩
  exact cV ((Be hpl h1 h2 (hp.place hpl).parts hB).imp hi) hg h
end Go.Proofs.YtngimdmkomkeoaaGreat.K
