import Derived.Test.YtngimdmkomkeoaaGreatCoreT
set_option linter.unusedVariables false
set_option linter.unusedSimpArgs false
namespace Go.Proofs.YtngimdmkomkeoaaGreat.K
open Go.RowKit Go.Proofs
structure aW where
  Name : ByteArray
  Low : Int
  High : Int
  Names : (List ByteArray)
instance : Inhabited aW := ⟨(aW.mk (ByteArray.mk #[]) 0 0 [])⟩
def aL (x : aW) : List ae := [am x.Name, I_ x.Low, I_ x.High, AL 1 bq x.Names]
instance : ah aL := ⟨fun x => (inferInstance : cT [am x.Name, I_ x.Low, I_ x.High, AL 1 bq x.Names])⟩
instance : dm aL := ⟨fun x => (inferInstance : cQ [am x.Name, I_ x.Low, I_ x.High, AL 1 bq x.Names])⟩
instance : cP aL 4 := ⟨fun x => rfl⟩
structure bR where
  Name : ByteArray
  Parent : Int
  Abstract : Bool
  Attrs : (List aW)
instance : Inhabited bR := ⟨(bR.mk (ByteArray.mk #[]) 0 false [])⟩
def aM (x : bR) : List ae := [am x.Name, I_ x.Parent, aa x.Abstract, AL 4 aL x.Attrs]
instance : ah aM := ⟨fun x => (inferInstance : cT [am x.Name, I_ x.Parent, aa x.Abstract, AL 4 aL x.Attrs])⟩
instance : dm aM := ⟨fun x => (inferInstance : cQ [am x.Name, I_ x.Parent, aa x.Abstract, AL 4 aL x.Attrs])⟩
instance : cP aM 4 := ⟨fun x => rfl⟩
structure db where
  Name : ByteArray
  From : Int
  To : Int
  OutLow : Int
  OutHigh : Int
  InLow : Int
  InHigh : Int
instance : Inhabited db := ⟨(db.mk (ByteArray.mk #[]) 0 0 0 0 0 0)⟩
def aY (x : db) : List ae := [am x.Name, I_ x.From, I_ x.To, I_ x.OutLow, I_ x.OutHigh, I_ x.InLow, I_ x.InHigh]
instance : ah aY := ⟨fun x => (inferInstance : cT [am x.Name, I_ x.From, I_ x.To, I_ x.OutLow, I_ x.OutHigh, I_ x.InLow, I_ x.InHigh])⟩
instance : dm aY := ⟨fun x => (inferInstance : cQ [am x.Name, I_ x.From, I_ x.To, I_ x.OutLow, I_ x.OutHigh, I_ x.InLow, I_ x.InHigh])⟩
instance : cP aY 7 := ⟨fun x => rfl⟩
instance : fa aY := ⟨fun x => (inferInstance : ee [am x.Name, I_ x.From, I_ x.To, I_ x.OutLow, I_ x.OutHigh, I_ x.InLow, I_ x.InHigh])⟩
structure aq where
  Nodes : (List bR)
  Edges : (List db)
instance : Inhabited aq := ⟨(aq.mk [] [])⟩
def au (x : aq) : List ae := [AL 4 aM x.Nodes, AL 7 aY x.Edges]
instance : ah au := ⟨fun x => (inferInstance : cT [AL 4 aM x.Nodes, AL 7 aY x.Edges])⟩
instance : dm au := ⟨fun x => (inferInstance : cQ [AL 4 aM x.Nodes, AL 7 aY x.Edges])⟩
instance : cP au 2 := ⟨fun x => rfl⟩
structure ba where
  Type_ : Int
  From : Int
  To : Int
instance : Inhabited ba := ⟨(ba.mk 0 0 0)⟩
def av (x : ba) : List ae := [I_ x.Type_, I_ x.From, I_ x.To]
instance : ah av := ⟨fun x => (inferInstance : cT [I_ x.Type_, I_ x.From, I_ x.To])⟩
instance : dm av := ⟨fun x => (inferInstance : cQ [I_ x.Type_, I_ x.From, I_ x.To])⟩
instance : cP av 3 := ⟨fun x => rfl⟩
instance : fa av := ⟨fun x => (inferInstance : ee [I_ x.Type_, I_ x.From, I_ x.To])⟩
instance : DecidableEq ba := fun a b => decidable_of_iff (a.Type_ = b.Type_ ∧ a.From = b.From ∧ a.To = b.To) (by
  constructor
  · intro h
    obtain ⟨p1, p2, p3⟩ := a
    obtain ⟨q1, q2, q3⟩ := b
    simp at h
    simp [h]
  · intro h; subst h; simp)
instance : iK av := jD [.i64, .i64, .i64] (fun x => [x.Type_, x.From, x.To]) (fun x => rfl) (fun x => rfl) (fun x y h => by simp at h; cases x; cases y; simp at h; simp [h])
structure ar where
  Nodes : (List Int)
  Edges : (List ba)
instance : Inhabited ar := ⟨(ar.mk [] [])⟩
def aA (x : ar) : List ae := [AL 1 ab x.Nodes, AL 3 av x.Edges]
instance : ah aA := ⟨fun x => (inferInstance : cT [AL 1 ab x.Nodes, AL 3 av x.Edges])⟩
instance : dm aA := ⟨fun x => (inferInstance : cQ [AL 1 ab x.Nodes, AL 3 av x.Edges])⟩
instance : cP aA 2 := ⟨fun x => rfl⟩
structure cH where
  Var : Int
  Add : Int
instance : Inhabited cH := ⟨(cH.mk 0 0)⟩
def ep (x : cH) : List ae := [I_ x.Var, I_ x.Add]
instance : ah ep := ⟨fun x => (inferInstance : cT [I_ x.Var, I_ x.Add])⟩
instance : dm ep := ⟨fun x => (inferInstance : cQ [I_ x.Var, I_ x.Add])⟩
instance : cP ep 2 := ⟨fun x => rfl⟩
instance : fa ep := ⟨fun x => (inferInstance : ee [I_ x.Var, I_ x.Add])⟩
instance : DecidableEq cH := fun a b => decidable_of_iff (a.Var = b.Var ∧ a.Add = b.Add) (by
  constructor
  · intro h
    obtain ⟨p1, p2⟩ := a
    obtain ⟨q1, q2⟩ := b
    simp at h
    simp [h]
  · intro h; subst h; simp)
instance : iK ep := jD [.i64, .i64] (fun x => [x.Var, x.Add]) (fun x => rfl) (fun x => rfl) (fun x y h => by simp at h; cases x; cases y; simp at h; simp [h])
structure bU where
  Node : Int
  Attr : Int
  Term : cH
instance : Inhabited bU := ⟨(bU.mk 0 0 (cH.mk 0 0))⟩
def b0 (x : bU) : List ae := [I_ x.Node, I_ x.Attr, I_ x.Term.Var, I_ x.Term.Add]
instance : ah b0 := ⟨fun x => (inferInstance : cT [I_ x.Node, I_ x.Attr, I_ x.Term.Var, I_ x.Term.Add])⟩
instance : dm b0 := ⟨fun x => (inferInstance : cQ [I_ x.Node, I_ x.Attr, I_ x.Term.Var, I_ x.Term.Add])⟩
instance : cP b0 4 := ⟨fun x => rfl⟩
instance : fa b0 := ⟨fun x => (inferInstance : ee [I_ x.Node, I_ x.Attr, I_ x.Term.Var, I_ x.Term.Add])⟩
instance : DecidableEq bU := fun a b => decidable_of_iff (a.Node = b.Node ∧ a.Attr = b.Attr ∧ a.Term.Var = b.Term.Var ∧ a.Term.Add = b.Term.Add) (by
  constructor
  · intro h
    obtain ⟨p1, p2, ⟨p3, p4⟩⟩ := a
    obtain ⟨q1, q2, ⟨q3, q4⟩⟩ := b
    simp at h
    simp [h]
  · intro h; subst h; simp)
instance : iK b0 := jD [.i64, .i64, .i64, .i64] (fun x => [x.Node, x.Attr, x.Term.Var, x.Term.Add]) (fun x => rfl) (fun x => rfl) (fun x y h => by simp at h; obtain ⟨a1, a2, ⟨a3, a4⟩⟩ := x; obtain ⟨b1, b2, ⟨b3, b4⟩⟩ := y; simp at h; simp [h])
structure dP where
  Kind : Int
  Left : cH
  Right : cH
instance : Inhabited dP := ⟨(dP.mk 0 (cH.mk 0 0) (cH.mk 0 0))⟩
def bX (x : dP) : List ae := [I_ x.Kind, I_ x.Left.Var, I_ x.Left.Add, I_ x.Right.Var, I_ x.Right.Add]
instance : ah bX := ⟨fun x => (inferInstance : cT [I_ x.Kind, I_ x.Left.Var, I_ x.Left.Add, I_ x.Right.Var, I_ x.Right.Add])⟩
instance : dm bX := ⟨fun x => (inferInstance : cQ [I_ x.Kind, I_ x.Left.Var, I_ x.Left.Add, I_ x.Right.Var, I_ x.Right.Add])⟩
instance : cP bX 5 := ⟨fun x => rfl⟩
instance : fa bX := ⟨fun x => (inferInstance : ee [I_ x.Kind, I_ x.Left.Var, I_ x.Left.Add, I_ x.Right.Var, I_ x.Right.Add])⟩
instance : DecidableEq dP := fun a b => decidable_of_iff (a.Kind = b.Kind ∧ a.Left.Var = b.Left.Var ∧ a.Left.Add = b.Left.Add ∧ a.Right.Var = b.Right.Var ∧ a.Right.Add = b.Right.Add) (by
  constructor
  · intro h
    obtain ⟨p1, ⟨p2, p3⟩, ⟨p4, p5⟩⟩ := a
    obtain ⟨q1, ⟨q2, q3⟩, ⟨q4, q5⟩⟩ := b
    simp at h
    simp [h]
  · intro h; subst h; simp)
instance : iK bX := jD [.i64, .i64, .i64, .i64, .i64] (fun x => [x.Kind, x.Left.Var, x.Left.Add, x.Right.Var, x.Right.Add]) (fun x => rfl) (fun x => rfl) (fun x y h => by simp at h; obtain ⟨a1, ⟨a2, a3⟩, ⟨a4, a5⟩⟩ := x; obtain ⟨b1, ⟨b2, b3⟩, ⟨b4, b5⟩⟩ := y; simp at h; simp [h])
structure aJ where
  Graph : ar
  Slots : (List bU)
  Vars : Int
  Tests : (List dP)
instance : Inhabited aJ := ⟨(aJ.mk (ar.mk [] []) [] 0 [])⟩
def bz (x : aJ) : List ae := [AL 1 ab x.Graph.Nodes, AL 3 av x.Graph.Edges, AL 4 b0 x.Slots, I_ x.Vars, AL 5 bX x.Tests]
instance : ah bz := ⟨fun x => (inferInstance : cT [AL 1 ab x.Graph.Nodes, AL 3 av x.Graph.Edges, AL 4 b0 x.Slots, I_ x.Vars, AL 5 bX x.Tests])⟩
instance : dm bz := ⟨fun x => (inferInstance : cQ [AL 1 ab x.Graph.Nodes, AL 3 av x.Graph.Edges, AL 4 b0 x.Slots, I_ x.Vars, AL 5 bX x.Tests])⟩
instance : cP bz 5 := ⟨fun x => rfl⟩
structure cM where
  Nodes : (List Int)
  Edges : (List Int)
instance : Inhabited cM := ⟨(cM.mk [] [])⟩
def cE (x : cM) : List ae := [AL 1 ab x.Nodes, AL 1 ab x.Edges]
instance : ah cE := ⟨fun x => (inferInstance : cT [AL 1 ab x.Nodes, AL 1 ab x.Edges])⟩
instance : dm cE := ⟨fun x => (inferInstance : cQ [AL 1 ab x.Nodes, AL 1 ab x.Edges])⟩
instance : cP cE 2 := ⟨fun x => rfl⟩
structure aS where
  Nodes : (List Int)
  Edges : (List Int)
instance : Inhabited aS := ⟨(aS.mk [] [])⟩
def bM (x : aS) : List ae := [AL 1 ab x.Nodes, AL 1 ab x.Edges]
instance : ah bM := ⟨fun x => (inferInstance : cT [AL 1 ab x.Nodes, AL 1 ab x.Edges])⟩
instance : dm bM := ⟨fun x => (inferInstance : cQ [AL 1 ab x.Nodes, AL 1 ab x.Edges])⟩
instance : cP bM 2 := ⟨fun x => rfl⟩
inductive az where
  | mk (Kind : Int) (Kids : (List az)) (Map : aS) (Pattern : aJ)
def az.Kind : az → Int
  | .mk x _ _ _ => x
def az.Kids : az → (List az)
  | .mk _ x _ _ => x
def az.Map : az → aS
  | .mk _ _ x _ => x
def az.Pattern : az → aJ
  | .mk _ _ _ x => x
instance : Inhabited az := ⟨(az.mk 0 [] (aS.mk [] []) (aJ.mk (ar.mk [] []) [] 0 []))⟩
mutual
def yz : az → List ae
  | .mk x0 x1 x2 x3 => [I_ x0, dR 9 (gh x1), AL 1 ab x2.Nodes, AL 1 ab x2.Edges, AL 1 ab x3.Graph.Nodes, AL 3 av x3.Graph.Edges, AL 4 b0 x3.Slots, I_ x3.Vars, AL 5 bX x3.Tests]
def gh : List az → List (List ae)
  | [] => []
  | x :: xs => yz x :: gh xs
end
def aU (x : az) : List ae := [I_ x.Kind, dR 9 (gh x.Kids), AL 1 ab x.Map.Nodes, AL 1 ab x.Map.Edges, AL 1 ab x.Pattern.Graph.Nodes, AL 3 av x.Pattern.Graph.Edges, AL 4 b0 x.Pattern.Slots, I_ x.Pattern.Vars, AL 5 bX x.Pattern.Tests]
theorem MF (x : az) : yz x = aU x := by cases x; simp only [yz]; rfl
theorem uT (xs : List az) : gh xs = xs.map aU := by
  induction xs with
  | nil => simp only [gh]; rfl
  | cons x xs ih => simp only [gh, MF, ih]; rfl
def kT (xs : List az) : List ae := [dR 9 (gh xs)]
theorem nW (xs : List az) : kT xs = [AL 9 aU xs] := by unfold kT; rw [uT]
theorem kW (x : az) : aU x = [I_ x.Kind, AL 9 aU x.Kids, AL 1 ab x.Map.Nodes, AL 1 ab x.Map.Edges, AL 1 ab x.Pattern.Graph.Nodes, AL 3 av x.Pattern.Graph.Edges, AL 4 b0 x.Pattern.Slots, I_ x.Pattern.Vars, AL 5 bX x.Pattern.Tests] := by show [I_ x.Kind, dR 9 (gh x.Kids), AL 1 ab x.Map.Nodes, AL 1 ab x.Map.Edges, AL 1 ab x.Pattern.Graph.Nodes, AL 3 av x.Pattern.Graph.Edges, AL 4 b0 x.Pattern.Slots, I_ x.Pattern.Vars, AL 5 bX x.Pattern.Tests] = _; rw [uT]
theorem M9 : ∀ x : az, cT (aU x) := by
  have key : ∀ m : Nat, ∀ x : az, SizeOf.sizeOf x < m → cT (aU x) := by
    intro m
    induction m with
    | zero => intro x h; omega
    | succ m ih =>
      intro x h
      haveI : NK (dR 9 (gh x.Kids)) := by
        rw [uT]
        refine ⟨fun k hk => ?_⟩
        obtain ⟨A, hA, hk⟩ := hk
        obtain ⟨r, hr, hA⟩ := List.mem_flatten.1 hA
        obtain ⟨y, hy, rfl⟩ := List.mem_map.1 hr
        have h1 : SizeOf.sizeOf y < m := by
          have h2 := List.sizeOf_lt_of_mem hy
          have h3 : SizeOf.sizeOf x.Kids < SizeOf.sizeOf x := by cases x; simp [az.Kids]; omega
          omega
        exact (ih y h1).nk k ⟨A, hA, hk⟩
      exact (inferInstance : cT [I_ x.Kind, dR 9 (gh x.Kids), AL 1 ab x.Map.Nodes, AL 1 ab x.Map.Edges, AL 1 ab x.Pattern.Graph.Nodes, AL 3 av x.Pattern.Graph.Edges, AL 4 b0 x.Pattern.Slots, I_ x.Pattern.Vars, AL 5 bX x.Pattern.Tests])
  exact fun x => key (SizeOf.sizeOf x + 1) x (by omega)
instance : ah aU := ⟨M9⟩
instance : dm aU := ⟨fun x => (inferInstance : cQ [I_ x.Kind, dR 9 (gh x.Kids), AL 1 ab x.Map.Nodes, AL 1 ab x.Map.Edges, AL 1 ab x.Pattern.Graph.Nodes, AL 3 av x.Pattern.Graph.Edges, AL 4 b0 x.Pattern.Slots, I_ x.Pattern.Vars, AL 5 bX x.Pattern.Tests])⟩
instance {xs : List az} : NK (dR 9 (gh xs)) := by rw [uT]; infer_instance
instance : cP aU 9 := ⟨fun x => rfl⟩
structure be where
  Name : ByteArray
  Left : aJ
  Right : aJ
  Keep : cM
  Into : aS
  Injective : Bool
  Condition : az
instance : Inhabited be := ⟨(be.mk (ByteArray.mk #[]) (aJ.mk (ar.mk [] []) [] 0 []) (aJ.mk (ar.mk [] []) [] 0 []) (cM.mk [] []) (aS.mk [] []) false (az.mk 0 [] (aS.mk [] []) (aJ.mk (ar.mk [] []) [] 0 [])))⟩
def aP (x : be) : List ae := [am x.Name, AL 1 ab x.Left.Graph.Nodes, AL 3 av x.Left.Graph.Edges, AL 4 b0 x.Left.Slots, I_ x.Left.Vars, AL 5 bX x.Left.Tests, AL 1 ab x.Right.Graph.Nodes, AL 3 av x.Right.Graph.Edges, AL 4 b0 x.Right.Slots, I_ x.Right.Vars, AL 5 bX x.Right.Tests, AL 1 ab x.Keep.Nodes, AL 1 ab x.Keep.Edges, AL 1 ab x.Into.Nodes, AL 1 ab x.Into.Edges, aa x.Injective, I_ x.Condition.Kind, dR 9 (gh x.Condition.Kids), AL 1 ab x.Condition.Map.Nodes, AL 1 ab x.Condition.Map.Edges, AL 1 ab x.Condition.Pattern.Graph.Nodes, AL 3 av x.Condition.Pattern.Graph.Edges, AL 4 b0 x.Condition.Pattern.Slots, I_ x.Condition.Pattern.Vars, AL 5 bX x.Condition.Pattern.Tests]
instance : ah aP := ⟨fun x => (inferInstance : cT [am x.Name, AL 1 ab x.Left.Graph.Nodes, AL 3 av x.Left.Graph.Edges, AL 4 b0 x.Left.Slots, I_ x.Left.Vars, AL 5 bX x.Left.Tests, AL 1 ab x.Right.Graph.Nodes, AL 3 av x.Right.Graph.Edges, AL 4 b0 x.Right.Slots, I_ x.Right.Vars, AL 5 bX x.Right.Tests, AL 1 ab x.Keep.Nodes, AL 1 ab x.Keep.Edges, AL 1 ab x.Into.Nodes, AL 1 ab x.Into.Edges, aa x.Injective, I_ x.Condition.Kind, dR 9 (gh x.Condition.Kids), AL 1 ab x.Condition.Map.Nodes, AL 1 ab x.Condition.Map.Edges, AL 1 ab x.Condition.Pattern.Graph.Nodes, AL 3 av x.Condition.Pattern.Graph.Edges, AL 4 b0 x.Condition.Pattern.Slots, I_ x.Condition.Pattern.Vars, AL 5 bX x.Condition.Pattern.Tests])⟩
instance : dm aP := ⟨fun x => (inferInstance : cQ [am x.Name, AL 1 ab x.Left.Graph.Nodes, AL 3 av x.Left.Graph.Edges, AL 4 b0 x.Left.Slots, I_ x.Left.Vars, AL 5 bX x.Left.Tests, AL 1 ab x.Right.Graph.Nodes, AL 3 av x.Right.Graph.Edges, AL 4 b0 x.Right.Slots, I_ x.Right.Vars, AL 5 bX x.Right.Tests, AL 1 ab x.Keep.Nodes, AL 1 ab x.Keep.Edges, AL 1 ab x.Into.Nodes, AL 1 ab x.Into.Edges, aa x.Injective, I_ x.Condition.Kind, dR 9 (gh x.Condition.Kids), AL 1 ab x.Condition.Map.Nodes, AL 1 ab x.Condition.Map.Edges, AL 1 ab x.Condition.Pattern.Graph.Nodes, AL 3 av x.Condition.Pattern.Graph.Edges, AL 4 b0 x.Condition.Pattern.Slots, I_ x.Condition.Pattern.Vars, AL 5 bX x.Condition.Pattern.Tests])⟩
instance : cP aP 25 := ⟨fun x => rfl⟩
structure tB where
  e0 : (List Int)
  e1 : (List Int)
instance : Inhabited tB := ⟨(tB.mk [] [])⟩
def ym (x : tB) : List ae := [AL 1 ab x.e0, AL 1 ab x.e1]
instance : ah ym := ⟨fun x => (inferInstance : cT [AL 1 ab x.e0, AL 1 ab x.e1])⟩
instance : dm ym := ⟨fun x => (inferInstance : cQ [AL 1 ab x.e0, AL 1 ab x.e1])⟩
instance : cP ym 2 := ⟨fun x => rfl⟩
structure dY where
  e0 : Int
  e1 : Int
instance : Inhabited dY := ⟨(dY.mk 0 0)⟩
def cw (x : dY) : List ae := [aj .u8 x.e0, aj .u8 x.e1]
instance : ah cw := ⟨fun x => (inferInstance : cT [aj .u8 x.e0, aj .u8 x.e1])⟩
instance : dm cw := ⟨fun x => (inferInstance : cQ [aj .u8 x.e0, aj .u8 x.e1])⟩
instance : cP cw 2 := ⟨fun x => rfl⟩
instance : fa cw := ⟨fun x => (inferInstance : ee [aj .u8 x.e0, aj .u8 x.e1])⟩
instance : DecidableEq dY := fun a b => decidable_of_iff (a.e0 = b.e0 ∧ a.e1 = b.e1) (by
  constructor
  · intro h
    obtain ⟨p1, p2⟩ := a
    obtain ⟨q1, q2⟩ := b
    simp at h
    simp [h]
  · intro h; subst h; simp)
instance : iK cw := jD [.u8, .u8] (fun x => [x.e0, x.e1]) (fun x => rfl) (fun x => rfl) (fun x y h => by simp at h; cases x; cases y; simp at h; simp [h])
structure f5 where
  e0 : Int
  e1 : Int
  e2 : Int
instance : Inhabited f5 := ⟨(f5.mk 0 0 0)⟩
def bJ (x : f5) : List ae := [aj .u8 x.e0, aj .u8 x.e1, aj .u8 x.e2]
instance : ah bJ := ⟨fun x => (inferInstance : cT [aj .u8 x.e0, aj .u8 x.e1, aj .u8 x.e2])⟩
instance : dm bJ := ⟨fun x => (inferInstance : cQ [aj .u8 x.e0, aj .u8 x.e1, aj .u8 x.e2])⟩
instance : cP bJ 3 := ⟨fun x => rfl⟩
instance : fa bJ := ⟨fun x => (inferInstance : ee [aj .u8 x.e0, aj .u8 x.e1, aj .u8 x.e2])⟩
instance : DecidableEq f5 := fun a b => decidable_of_iff (a.e0 = b.e0 ∧ a.e1 = b.e1 ∧ a.e2 = b.e2) (by
  constructor
  · intro h
    obtain ⟨p1, p2, p3⟩ := a
    obtain ⟨q1, q2, q3⟩ := b
    simp at h
    simp [h]
  · intro h; subst h; simp)
instance : iK bJ := jD [.u8, .u8, .u8] (fun x => [x.e0, x.e1, x.e2]) (fun x => rfl) (fun x => rfl) (fun x y h => by simp at h; cases x; cases y; simp at h; simp [h])
structure g9 where
  Nodes : (List Int)
  Edges : (List f5)
instance : Inhabited g9 := ⟨(g9.mk [] [])⟩
def fK (x : g9) : List ae := [AL 1 cj x.Nodes, AL 3 bJ x.Edges]
instance : ah fK := ⟨fun x => (inferInstance : cT [AL 1 cj x.Nodes, AL 3 bJ x.Edges])⟩
instance : dm fK := ⟨fun x => (inferInstance : cQ [AL 1 cj x.Nodes, AL 3 bJ x.Edges])⟩
instance : cP fK 2 := ⟨fun x => rfl⟩
structure iX where
  e0 : Int
  e1 : Int
  e2 : Int
  e3 : Int
instance : Inhabited iX := ⟨(iX.mk 0 0 0 0)⟩
def eK (x : iX) : List ae := [aj .i8 x.e0, aj .i8 x.e1, aj .i8 x.e2, aj .i8 x.e3]
instance : ah eK := ⟨fun x => (inferInstance : cT [aj .i8 x.e0, aj .i8 x.e1, aj .i8 x.e2, aj .i8 x.e3])⟩
instance : dm eK := ⟨fun x => (inferInstance : cQ [aj .i8 x.e0, aj .i8 x.e1, aj .i8 x.e2, aj .i8 x.e3])⟩
instance : cP eK 4 := ⟨fun x => rfl⟩
instance : fa eK := ⟨fun x => (inferInstance : ee [aj .i8 x.e0, aj .i8 x.e1, aj .i8 x.e2, aj .i8 x.e3])⟩
instance : DecidableEq iX := fun a b => decidable_of_iff (a.e0 = b.e0 ∧ a.e1 = b.e1 ∧ a.e2 = b.e2 ∧ a.e3 = b.e3) (by
  constructor
  · intro h
    obtain ⟨p1, p2, p3, p4⟩ := a
    obtain ⟨q1, q2, q3, q4⟩ := b
    simp at h
    simp [h]
  · intro h; subst h; simp)
instance : iK eK := jD [.i8, .i8, .i8, .i8] (fun x => [x.e0, x.e1, x.e2, x.e3]) (fun x => rfl) (fun x => rfl) (fun x y h => by simp at h; cases x; cases y; simp at h; simp [h])
structure gv where
  Graph : g9
  Slots : (List f5)
  Tests : (List iX)
instance : Inhabited gv := ⟨(gv.mk (g9.mk [] []) [] [])⟩
def gf (x : gv) : List ae := [AL 1 cj x.Graph.Nodes, AL 3 bJ x.Graph.Edges, AL 3 bJ x.Slots, AL 4 eK x.Tests]
instance : ah gf := ⟨fun x => (inferInstance : cT [AL 1 cj x.Graph.Nodes, AL 3 bJ x.Graph.Edges, AL 3 bJ x.Slots, AL 4 eK x.Tests])⟩
instance : dm gf := ⟨fun x => (inferInstance : cQ [AL 1 cj x.Graph.Nodes, AL 3 bJ x.Graph.Edges, AL 3 bJ x.Slots, AL 4 eK x.Tests])⟩
instance : cP gf 4 := ⟨fun x => rfl⟩
structure iB where
  e0 : Int
  e1 : Int
  e2 : Int
  e3 : Int
instance : Inhabited iB := ⟨(iB.mk 0 0 0 0)⟩
def j4 (x : iB) : List ae := [aj .u8 x.e0, aj .u8 x.e1, aj .u8 x.e2, aj .u8 x.e3]
instance : ah j4 := ⟨fun x => (inferInstance : cT [aj .u8 x.e0, aj .u8 x.e1, aj .u8 x.e2, aj .u8 x.e3])⟩
instance : dm j4 := ⟨fun x => (inferInstance : cQ [aj .u8 x.e0, aj .u8 x.e1, aj .u8 x.e2, aj .u8 x.e3])⟩
instance : cP j4 4 := ⟨fun x => rfl⟩
instance : fa j4 := ⟨fun x => (inferInstance : ee [aj .u8 x.e0, aj .u8 x.e1, aj .u8 x.e2, aj .u8 x.e3])⟩
instance : DecidableEq iB := fun a b => decidable_of_iff (a.e0 = b.e0 ∧ a.e1 = b.e1 ∧ a.e2 = b.e2 ∧ a.e3 = b.e3) (by
  constructor
  · intro h
    obtain ⟨p1, p2, p3, p4⟩ := a
    obtain ⟨q1, q2, q3, q4⟩ := b
    simp at h
    simp [h]
  · intro h; subst h; simp)
instance : iK j4 := jD [.u8, .u8, .u8, .u8] (fun x => [x.e0, x.e1, x.e2, x.e3]) (fun x => rfl) (fun x => rfl) (fun x y h => by simp at h; cases x; cases y; simp at h; simp [h])
structure f6 where
  Left : gv
  Keep : Int
  Nodes : (List Int)
  Edges : (List f5)
  Slots : (List f5)
  Plain : Bool
  Injective : Bool
  Forbid : iB
  Order : (List Int)
instance : Inhabited f6 := ⟨(f6.mk (gv.mk (g9.mk [] []) [] []) 0 [] [] [] false false (iB.mk 0 0 0 0) [])⟩
def dI (x : f6) : List ae := [AL 1 cj x.Left.Graph.Nodes, AL 3 bJ x.Left.Graph.Edges, AL 3 bJ x.Left.Slots, AL 4 eK x.Left.Tests, aj .u64 x.Keep, AL 1 cj x.Nodes, AL 3 bJ x.Edges, AL 3 bJ x.Slots, aa x.Plain, aa x.Injective, aj .u8 x.Forbid.e0, aj .u8 x.Forbid.e1, aj .u8 x.Forbid.e2, aj .u8 x.Forbid.e3, AL 1 cj x.Order]
instance : ah dI := ⟨fun x => (inferInstance : cT [AL 1 cj x.Left.Graph.Nodes, AL 3 bJ x.Left.Graph.Edges, AL 3 bJ x.Left.Slots, AL 4 eK x.Left.Tests, aj .u64 x.Keep, AL 1 cj x.Nodes, AL 3 bJ x.Edges, AL 3 bJ x.Slots, aa x.Plain, aa x.Injective, aj .u8 x.Forbid.e0, aj .u8 x.Forbid.e1, aj .u8 x.Forbid.e2, aj .u8 x.Forbid.e3, AL 1 cj x.Order])⟩
instance : dm dI := ⟨fun x => (inferInstance : cQ [AL 1 cj x.Left.Graph.Nodes, AL 3 bJ x.Left.Graph.Edges, AL 3 bJ x.Left.Slots, AL 4 eK x.Left.Tests, aj .u64 x.Keep, AL 1 cj x.Nodes, AL 3 bJ x.Edges, AL 3 bJ x.Slots, aa x.Plain, aa x.Injective, aj .u8 x.Forbid.e0, aj .u8 x.Forbid.e1, aj .u8 x.Forbid.e2, aj .u8 x.Forbid.e3, AL 1 cj x.Order])⟩
instance : cP dI 15 := ⟨fun x => rfl⟩
structure jP where
  Nodes : (List dY)
  Edges : (List dY)
  Rules : (List f6)
instance : Inhabited jP := ⟨(jP.mk [] [] [])⟩
def jc (x : jP) : List ae := [AL 2 cw x.Nodes, AL 2 cw x.Edges, AL 15 dI x.Rules]
instance : ah jc := ⟨fun x => (inferInstance : cT [AL 2 cw x.Nodes, AL 2 cw x.Edges, AL 15 dI x.Rules])⟩
instance : dm jc := ⟨fun x => (inferInstance : cQ [AL 2 cw x.Nodes, AL 2 cw x.Edges, AL 15 dI x.Rules])⟩
instance : cP jc 3 := ⟨fun x => rfl⟩
structure cm where
  Kind : Int
  Text : ByteArray
  Line : Int
instance : Inhabited cm := ⟨(cm.mk 0 (ByteArray.mk #[]) 0)⟩
def cA (x : cm) : List ae := [I_ x.Kind, am x.Text, I_ x.Line]
instance : ah cA := ⟨fun x => (inferInstance : cT [I_ x.Kind, am x.Text, I_ x.Line])⟩
instance : dm cA := ⟨fun x => (inferInstance : cQ [I_ x.Kind, am x.Text, I_ x.Line])⟩
instance : cP cA 3 := ⟨fun x => rfl⟩
instance : fa cA := ⟨fun x => (inferInstance : ee [I_ x.Kind, am x.Text, I_ x.Line])⟩
structure fl where
  e0 : Int
  e1 : Int
instance : Inhabited fl := ⟨(fl.mk 0 0)⟩
def eU (x : fl) : List ae := [I_ x.e0, I_ x.e1]
instance : ah eU := ⟨fun x => (inferInstance : cT [I_ x.e0, I_ x.e1])⟩
instance : dm eU := ⟨fun x => (inferInstance : cQ [I_ x.e0, I_ x.e1])⟩
instance : cP eU 2 := ⟨fun x => rfl⟩
instance : fa eU := ⟨fun x => (inferInstance : ee [I_ x.e0, I_ x.e1])⟩
instance : DecidableEq fl := fun a b => decidable_of_iff (a.e0 = b.e0 ∧ a.e1 = b.e1) (by
  constructor
  · intro h
    obtain ⟨p1, p2⟩ := a
    obtain ⟨q1, q2⟩ := b
    simp at h
    simp [h]
  · intro h; subst h; simp)
instance : iK eU := jD [.i64, .i64] (fun x => [x.e0, x.e1]) (fun x => rfl) (fun x => rfl) (fun x y h => by simp at h; cases x; cases y; simp at h; simp [h])
end Go.Proofs.YtngimdmkomkeoaaGreat.K
