/- The types of the program's values, and how they lie in cells. -/
import Derived.Test.YtngimdmkomkeoaaGreatCoreT
set_option linter.unusedVariables false
set_option linter.unusedSimpArgs false
namespace Go.Proofs.YtngimdmkomkeoaaGreat.K
open Go.RowKit Go.Proofs
structure z0r where
  Name : ByteArray
  Low : Int
  High : Int
  Names : (List ByteArray)
instance : Inhabited z0r := ⟨(z0r.mk (ByteArray.mk #[]) 0 0 [])⟩
def z08 (x : z0r) : List Asn := [z1h x.Name, I_ x.Low, I_ x.High, AL 1 z23 x.Names]
instance : NKC z08 := ⟨fun x => (inferInstance : NKL [z1h x.Name, I_ x.Low, I_ x.High, AL 1 z23 x.Names])⟩
instance : OneC z08 := ⟨fun x => (inferInstance : OneL [z1h x.Name, I_ x.Low, I_ x.High, AL 1 z23 x.Names])⟩
instance : LenC z08 4 := ⟨fun x => rfl⟩
structure z15 where
  Name : ByteArray
  Parent : Int
  Abstract : Bool
  Attrs : (List z0r)
instance : Inhabited z15 := ⟨(z15.mk (ByteArray.mk #[]) 0 false [])⟩
def z03 (x : z15) : List Asn := [z1h x.Name, I_ x.Parent, z00 x.Abstract, AL 4 z08 x.Attrs]
instance : NKC z03 := ⟨fun x => (inferInstance : NKL [z1h x.Name, I_ x.Parent, z00 x.Abstract, AL 4 z08 x.Attrs])⟩
instance : OneC z03 := ⟨fun x => (inferInstance : OneL [z1h x.Name, I_ x.Parent, z00 x.Abstract, AL 4 z08 x.Attrs])⟩
instance : LenC z03 4 := ⟨fun x => rfl⟩
structure z1g where
  Name : ByteArray
  From : Int
  To : Int
  OutLow : Int
  OutHigh : Int
  InLow : Int
  InHigh : Int
instance : Inhabited z1g := ⟨(z1g.mk (ByteArray.mk #[]) 0 0 0 0 0 0)⟩
def z0c (x : z1g) : List Asn := [z1h x.Name, I_ x.From, I_ x.To, I_ x.OutLow, I_ x.OutHigh, I_ x.InLow, I_ x.InHigh]
instance : NKC z0c := ⟨fun x => (inferInstance : NKL [z1h x.Name, I_ x.From, I_ x.To, I_ x.OutLow, I_ x.OutHigh, I_ x.InLow, I_ x.InHigh])⟩
instance : OneC z0c := ⟨fun x => (inferInstance : OneL [z1h x.Name, I_ x.From, I_ x.To, I_ x.OutLow, I_ x.OutHigh, I_ x.InLow, I_ x.InHigh])⟩
instance : LenC z0c 7 := ⟨fun x => rfl⟩
instance : ScalC z0c := ⟨fun x => (inferInstance : ScalL [z1h x.Name, I_ x.From, I_ x.To, I_ x.OutLow, I_ x.OutHigh, I_ x.InLow, I_ x.InHigh])⟩
structure z06 where
  Nodes : (List z15)
  Edges : (List z1g)
instance : Inhabited z06 := ⟨(z06.mk [] [])⟩
def z02 (x : z06) : List Asn := [AL 4 z03 x.Nodes, AL 7 z0c x.Edges]
instance : NKC z02 := ⟨fun x => (inferInstance : NKL [AL 4 z03 x.Nodes, AL 7 z0c x.Edges])⟩
instance : OneC z02 := ⟨fun x => (inferInstance : OneL [AL 4 z03 x.Nodes, AL 7 z0c x.Edges])⟩
instance : LenC z02 2 := ⟨fun x => rfl⟩
structure z1e where
  Type_ : Int
  From : Int
  To : Int
instance : Inhabited z1e := ⟨(z1e.mk 0 0 0)⟩
def z0b (x : z1e) : List Asn := [I_ x.Type_, I_ x.From, I_ x.To]
instance : NKC z0b := ⟨fun x => (inferInstance : NKL [I_ x.Type_, I_ x.From, I_ x.To])⟩
instance : OneC z0b := ⟨fun x => (inferInstance : OneL [I_ x.Type_, I_ x.From, I_ x.To])⟩
instance : LenC z0b 3 := ⟨fun x => rfl⟩
instance : ScalC z0b := ⟨fun x => (inferInstance : ScalL [I_ x.Type_, I_ x.From, I_ x.To])⟩
instance : DecidableEq z1e := fun a b => decidable_of_iff (a.Type_ = b.Type_ ∧ a.From = b.From ∧ a.To = b.To) (by
  constructor
  · intro h
    obtain ⟨p1, p2, p3⟩ := a
    obtain ⟨q1, q2, q3⟩ := b
    simp at h
    simp [h]
  · intro h; subst h; simp)
instance : NumC z0b := numC_of [.i64, .i64, .i64] (fun x => [x.Type_, x.From, x.To]) (fun x => rfl) (fun x => rfl) (fun x y h => by simp at h; cases x; cases y; simp at h; simp [h])
structure z0p where
  Nodes : (List Int)
  Edges : (List z1e)
instance : Inhabited z0p := ⟨(z0p.mk [] [])⟩
def z07 (x : z0p) : List Asn := [AL 1 z01 x.Nodes, AL 3 z0b x.Edges]
instance : NKC z07 := ⟨fun x => (inferInstance : NKL [AL 1 z01 x.Nodes, AL 3 z0b x.Edges])⟩
instance : OneC z07 := ⟨fun x => (inferInstance : OneL [AL 1 z01 x.Nodes, AL 3 z0b x.Edges])⟩
instance : LenC z07 2 := ⟨fun x => rfl⟩
structure z4i where
  Var : Int
  Add : Int
instance : Inhabited z4i := ⟨(z4i.mk 0 0)⟩
def z2s (x : z4i) : List Asn := [I_ x.Var, I_ x.Add]
instance : NKC z2s := ⟨fun x => (inferInstance : NKL [I_ x.Var, I_ x.Add])⟩
instance : OneC z2s := ⟨fun x => (inferInstance : OneL [I_ x.Var, I_ x.Add])⟩
instance : LenC z2s 2 := ⟨fun x => rfl⟩
instance : ScalC z2s := ⟨fun x => (inferInstance : ScalL [I_ x.Var, I_ x.Add])⟩
instance : DecidableEq z4i := fun a b => decidable_of_iff (a.Var = b.Var ∧ a.Add = b.Add) (by
  constructor
  · intro h
    obtain ⟨p1, p2⟩ := a
    obtain ⟨q1, q2⟩ := b
    simp at h
    simp [h]
  · intro h; subst h; simp)
instance : NumC z2s := numC_of [.i64, .i64] (fun x => [x.Var, x.Add]) (fun x => rfl) (fun x => rfl) (fun x y h => by simp at h; cases x; cases y; simp at h; simp [h])
structure z38 where
  Node : Int
  Attr : Int
  Term : z4i
instance : Inhabited z38 := ⟨(z38.mk 0 0 (z4i.mk 0 0))⟩
def z0l (x : z38) : List Asn := [I_ x.Node, I_ x.Attr, I_ x.Term.Var, I_ x.Term.Add]
instance : NKC z0l := ⟨fun x => (inferInstance : NKL [I_ x.Node, I_ x.Attr, I_ x.Term.Var, I_ x.Term.Add])⟩
instance : OneC z0l := ⟨fun x => (inferInstance : OneL [I_ x.Node, I_ x.Attr, I_ x.Term.Var, I_ x.Term.Add])⟩
instance : LenC z0l 4 := ⟨fun x => rfl⟩
instance : ScalC z0l := ⟨fun x => (inferInstance : ScalL [I_ x.Node, I_ x.Attr, I_ x.Term.Var, I_ x.Term.Add])⟩
instance : DecidableEq z38 := fun a b => decidable_of_iff (a.Node = b.Node ∧ a.Attr = b.Attr ∧ a.Term.Var = b.Term.Var ∧ a.Term.Add = b.Term.Add) (by
  constructor
  · intro h
    obtain ⟨p1, p2, ⟨p3, p4⟩⟩ := a
    obtain ⟨q1, q2, ⟨q3, q4⟩⟩ := b
    simp at h
    simp [h]
  · intro h; subst h; simp)
instance : NumC z0l := numC_of [.i64, .i64, .i64, .i64] (fun x => [x.Node, x.Attr, x.Term.Var, x.Term.Add]) (fun x => rfl) (fun x => rfl) (fun x y h => by simp at h; obtain ⟨a1, a2, ⟨a3, a4⟩⟩ := x; obtain ⟨b1, b2, ⟨b3, b4⟩⟩ := y; simp at h; simp [h])
structure z3x where
  Kind : Int
  Left : z4i
  Right : z4i
instance : Inhabited z3x := ⟨(z3x.mk 0 (z4i.mk 0 0) (z4i.mk 0 0))⟩
def z13 (x : z3x) : List Asn := [I_ x.Kind, I_ x.Left.Var, I_ x.Left.Add, I_ x.Right.Var, I_ x.Right.Add]
instance : NKC z13 := ⟨fun x => (inferInstance : NKL [I_ x.Kind, I_ x.Left.Var, I_ x.Left.Add, I_ x.Right.Var, I_ x.Right.Add])⟩
instance : OneC z13 := ⟨fun x => (inferInstance : OneL [I_ x.Kind, I_ x.Left.Var, I_ x.Left.Add, I_ x.Right.Var, I_ x.Right.Add])⟩
instance : LenC z13 5 := ⟨fun x => rfl⟩
instance : ScalC z13 := ⟨fun x => (inferInstance : ScalL [I_ x.Kind, I_ x.Left.Var, I_ x.Left.Add, I_ x.Right.Var, I_ x.Right.Add])⟩
instance : DecidableEq z3x := fun a b => decidable_of_iff (a.Kind = b.Kind ∧ a.Left.Var = b.Left.Var ∧ a.Left.Add = b.Left.Add ∧ a.Right.Var = b.Right.Var ∧ a.Right.Add = b.Right.Add) (by
  constructor
  · intro h
    obtain ⟨p1, ⟨p2, p3⟩, ⟨p4, p5⟩⟩ := a
    obtain ⟨q1, ⟨q2, q3⟩, ⟨q4, q5⟩⟩ := b
    simp at h
    simp [h]
  · intro h; subst h; simp)
instance : NumC z13 := numC_of [.i64, .i64, .i64, .i64, .i64] (fun x => [x.Kind, x.Left.Var, x.Left.Add, x.Right.Var, x.Right.Add]) (fun x => rfl) (fun x => rfl) (fun x y h => by simp at h; obtain ⟨a1, ⟨a2, a3⟩, ⟨a4, a5⟩⟩ := x; obtain ⟨b1, ⟨b2, b3⟩, ⟨b4, b5⟩⟩ := y; simp at h; simp [h])
structure z0q where
  Graph : z0p
  Slots : (List z38)
  Vars : Int
  Tests : (List z3x)
instance : Inhabited z0q := ⟨(z0q.mk (z0p.mk [] []) [] 0 [])⟩
def z0a (x : z0q) : List Asn := [AL 1 z01 x.Graph.Nodes, AL 3 z0b x.Graph.Edges, AL 4 z0l x.Slots, I_ x.Vars, AL 5 z13 x.Tests]
instance : NKC z0a := ⟨fun x => (inferInstance : NKL [AL 1 z01 x.Graph.Nodes, AL 3 z0b x.Graph.Edges, AL 4 z0l x.Slots, I_ x.Vars, AL 5 z13 x.Tests])⟩
instance : OneC z0a := ⟨fun x => (inferInstance : OneL [AL 1 z01 x.Graph.Nodes, AL 3 z0b x.Graph.Edges, AL 4 z0l x.Slots, I_ x.Vars, AL 5 z13 x.Tests])⟩
instance : LenC z0a 5 := ⟨fun x => rfl⟩
structure z2d where
  Nodes : (List Int)
  Edges : (List Int)
instance : Inhabited z2d := ⟨(z2d.mk [] [])⟩
def z1i (x : z2d) : List Asn := [AL 1 z01 x.Nodes, AL 1 z01 x.Edges]
instance : NKC z1i := ⟨fun x => (inferInstance : NKL [AL 1 z01 x.Nodes, AL 1 z01 x.Edges])⟩
instance : OneC z1i := ⟨fun x => (inferInstance : OneL [AL 1 z01 x.Nodes, AL 1 z01 x.Edges])⟩
instance : LenC z1i 2 := ⟨fun x => rfl⟩
structure z0t where
  Nodes : (List Int)
  Edges : (List Int)
instance : Inhabited z0t := ⟨(z0t.mk [] [])⟩
def z0m (x : z0t) : List Asn := [AL 1 z01 x.Nodes, AL 1 z01 x.Edges]
instance : NKC z0m := ⟨fun x => (inferInstance : NKL [AL 1 z01 x.Nodes, AL 1 z01 x.Edges])⟩
instance : OneC z0m := ⟨fun x => (inferInstance : OneL [AL 1 z01 x.Nodes, AL 1 z01 x.Edges])⟩
instance : LenC z0m 2 := ⟨fun x => rfl⟩
inductive z05 where
  | mk (Kind : Int) (Kids : (List z05)) (Map : z0t) (Pattern : z0q)
def z05.Kind : z05 → Int
  | .mk x _ _ _ => x
def z05.Kids : z05 → (List z05)
  | .mk _ x _ _ => x
def z05.Map : z05 → z0t
  | .mk _ _ x _ => x
def z05.Pattern : z05 → z0q
  | .mk _ _ _ x => x
instance : Inhabited z05 := ⟨(z05.mk 0 [] (z0t.mk [] []) (z0q.mk (z0p.mk [] []) [] 0 []))⟩
mutual
def cc_api_Condition : z05 → List Asn
  | .mk x0 x1 x2 x3 => [I_ x0, zal 9 (z2f x1), AL 1 z01 x2.Nodes, AL 1 z01 x2.Edges, AL 1 z01 x3.Graph.Nodes, AL 3 z0b x3.Graph.Edges, AL 4 z0l x3.Slots, I_ x3.Vars, AL 5 z13 x3.Tests]
def z2f : List z05 → List (List Asn)
  | [] => []
  | x :: xs => cc_api_Condition x :: z2f xs
end
def z04 (x : z05) : List Asn := [I_ x.Kind, zal 9 (z2f x.Kids), AL 1 z01 x.Map.Nodes, AL 1 z01 x.Map.Edges, AL 1 z01 x.Pattern.Graph.Nodes, AL 3 z0b x.Pattern.Graph.Edges, AL 4 z0l x.Pattern.Slots, I_ x.Pattern.Vars, AL 5 z13 x.Pattern.Tests]
theorem cc_api_Condition_eq (x : z05) : cc_api_Condition x = z04 x := by cases x; simp only [cc_api_Condition]; rfl
theorem z69 (xs : List z05) : z2f xs = xs.map z04 := by
  induction xs with
  | nil => simp only [z2f]; rfl
  | cons x xs ih => simp only [z2f, cc_api_Condition_eq, ih]; rfl
def z25 (xs : List z05) : List Asn := [zal 9 (z2f xs)]
theorem z21 (xs : List z05) : z25 xs = [AL 9 z04 xs] := by unfold z25; rw [z69]
theorem c_api_Condition_def (x : z05) : z04 x = [I_ x.Kind, AL 9 z04 x.Kids, AL 1 z01 x.Map.Nodes, AL 1 z01 x.Map.Edges, AL 1 z01 x.Pattern.Graph.Nodes, AL 3 z0b x.Pattern.Graph.Edges, AL 4 z0l x.Pattern.Slots, I_ x.Pattern.Vars, AL 5 z13 x.Pattern.Tests] := by show [I_ x.Kind, zal 9 (z2f x.Kids), AL 1 z01 x.Map.Nodes, AL 1 z01 x.Map.Edges, AL 1 z01 x.Pattern.Graph.Nodes, AL 3 z0b x.Pattern.Graph.Edges, AL 4 z0l x.Pattern.Slots, I_ x.Pattern.Vars, AL 5 z13 x.Pattern.Tests] = _; rw [z69]
theorem api_Condition_nk : ∀ x : z05, NKL (z04 x) := by
  have key : ∀ m : Nat, ∀ x : z05, SizeOf.sizeOf x < m → NKL (z04 x) := by
    intro m
    induction m with
    | zero => intro x h; omega
    | succ m ih =>
      intro x h
      haveI : NK (zal 9 (z2f x.Kids)) := by
        rw [z69]
        refine ⟨fun k hk => ?_⟩
        obtain ⟨A, hA, hk⟩ := hk
        obtain ⟨r, hr, hA⟩ := List.mem_flatten.1 hA
        obtain ⟨y, hy, rfl⟩ := List.mem_map.1 hr
        have h1 : SizeOf.sizeOf y < m := by
          have h2 := List.sizeOf_lt_of_mem hy
          have h3 : SizeOf.sizeOf x.Kids < SizeOf.sizeOf x := by cases x; simp [z05.Kids]; omega
          omega
        exact (ih y h1).nk k ⟨A, hA, hk⟩
      exact (inferInstance : NKL [I_ x.Kind, zal 9 (z2f x.Kids), AL 1 z01 x.Map.Nodes, AL 1 z01 x.Map.Edges, AL 1 z01 x.Pattern.Graph.Nodes, AL 3 z0b x.Pattern.Graph.Edges, AL 4 z0l x.Pattern.Slots, I_ x.Pattern.Vars, AL 5 z13 x.Pattern.Tests])
  exact fun x => key (SizeOf.sizeOf x + 1) x (by omega)
instance : NKC z04 := ⟨api_Condition_nk⟩
instance : OneC z04 := ⟨fun x => (inferInstance : OneL [I_ x.Kind, zal 9 (z2f x.Kids), AL 1 z01 x.Map.Nodes, AL 1 z01 x.Map.Edges, AL 1 z01 x.Pattern.Graph.Nodes, AL 3 z0b x.Pattern.Graph.Edges, AL 4 z0l x.Pattern.Slots, I_ x.Pattern.Vars, AL 5 z13 x.Pattern.Tests])⟩
instance {xs : List z05} : NK (zal 9 (z2f xs)) := by rw [z69]; infer_instance
instance : LenC z04 9 := ⟨fun x => rfl⟩
structure z10 where
  Name : ByteArray
  Left : z0q
  Right : z0q
  Keep : z2d
  Into : z0t
  Injective : Bool
  Condition : z05
instance : Inhabited z10 := ⟨(z10.mk (ByteArray.mk #[]) (z0q.mk (z0p.mk [] []) [] 0 []) (z0q.mk (z0p.mk [] []) [] 0 []) (z2d.mk [] []) (z0t.mk [] []) false (z05.mk 0 [] (z0t.mk [] []) (z0q.mk (z0p.mk [] []) [] 0 [])))⟩
def z0g (x : z10) : List Asn := [z1h x.Name, AL 1 z01 x.Left.Graph.Nodes, AL 3 z0b x.Left.Graph.Edges, AL 4 z0l x.Left.Slots, I_ x.Left.Vars, AL 5 z13 x.Left.Tests, AL 1 z01 x.Right.Graph.Nodes, AL 3 z0b x.Right.Graph.Edges, AL 4 z0l x.Right.Slots, I_ x.Right.Vars, AL 5 z13 x.Right.Tests, AL 1 z01 x.Keep.Nodes, AL 1 z01 x.Keep.Edges, AL 1 z01 x.Into.Nodes, AL 1 z01 x.Into.Edges, z00 x.Injective, I_ x.Condition.Kind, zal 9 (z2f x.Condition.Kids), AL 1 z01 x.Condition.Map.Nodes, AL 1 z01 x.Condition.Map.Edges, AL 1 z01 x.Condition.Pattern.Graph.Nodes, AL 3 z0b x.Condition.Pattern.Graph.Edges, AL 4 z0l x.Condition.Pattern.Slots, I_ x.Condition.Pattern.Vars, AL 5 z13 x.Condition.Pattern.Tests]
instance : NKC z0g := ⟨fun x => (inferInstance : NKL [z1h x.Name, AL 1 z01 x.Left.Graph.Nodes, AL 3 z0b x.Left.Graph.Edges, AL 4 z0l x.Left.Slots, I_ x.Left.Vars, AL 5 z13 x.Left.Tests, AL 1 z01 x.Right.Graph.Nodes, AL 3 z0b x.Right.Graph.Edges, AL 4 z0l x.Right.Slots, I_ x.Right.Vars, AL 5 z13 x.Right.Tests, AL 1 z01 x.Keep.Nodes, AL 1 z01 x.Keep.Edges, AL 1 z01 x.Into.Nodes, AL 1 z01 x.Into.Edges, z00 x.Injective, I_ x.Condition.Kind, zal 9 (z2f x.Condition.Kids), AL 1 z01 x.Condition.Map.Nodes, AL 1 z01 x.Condition.Map.Edges, AL 1 z01 x.Condition.Pattern.Graph.Nodes, AL 3 z0b x.Condition.Pattern.Graph.Edges, AL 4 z0l x.Condition.Pattern.Slots, I_ x.Condition.Pattern.Vars, AL 5 z13 x.Condition.Pattern.Tests])⟩
instance : OneC z0g := ⟨fun x => (inferInstance : OneL [z1h x.Name, AL 1 z01 x.Left.Graph.Nodes, AL 3 z0b x.Left.Graph.Edges, AL 4 z0l x.Left.Slots, I_ x.Left.Vars, AL 5 z13 x.Left.Tests, AL 1 z01 x.Right.Graph.Nodes, AL 3 z0b x.Right.Graph.Edges, AL 4 z0l x.Right.Slots, I_ x.Right.Vars, AL 5 z13 x.Right.Tests, AL 1 z01 x.Keep.Nodes, AL 1 z01 x.Keep.Edges, AL 1 z01 x.Into.Nodes, AL 1 z01 x.Into.Edges, z00 x.Injective, I_ x.Condition.Kind, zal 9 (z2f x.Condition.Kids), AL 1 z01 x.Condition.Map.Nodes, AL 1 z01 x.Condition.Map.Edges, AL 1 z01 x.Condition.Pattern.Graph.Nodes, AL 3 z0b x.Condition.Pattern.Graph.Edges, AL 4 z0l x.Condition.Pattern.Slots, I_ x.Condition.Pattern.Vars, AL 5 z13 x.Condition.Pattern.Tests])⟩
instance : LenC z0g 25 := ⟨fun x => rfl⟩
structure z4s where
  e0 : (List Int)
  e1 : (List Int)
instance : Inhabited z4s := ⟨(z4s.mk [] [])⟩
def z5t (x : z4s) : List Asn := [AL 1 z01 x.e0, AL 1 z01 x.e1]
instance : NKC z5t := ⟨fun x => (inferInstance : NKL [AL 1 z01 x.e0, AL 1 z01 x.e1])⟩
instance : OneC z5t := ⟨fun x => (inferInstance : OneL [AL 1 z01 x.e0, AL 1 z01 x.e1])⟩
instance : LenC z5t 2 := ⟨fun x => rfl⟩
structure z1c where
  Kind : Int
  Text : ByteArray
  Line : Int
instance : Inhabited z1c := ⟨(z1c.mk 0 (ByteArray.mk #[]) 0)⟩
def z19 (x : z1c) : List Asn := [I_ x.Kind, z1h x.Text, I_ x.Line]
instance : NKC z19 := ⟨fun x => (inferInstance : NKL [I_ x.Kind, z1h x.Text, I_ x.Line])⟩
instance : OneC z19 := ⟨fun x => (inferInstance : OneL [I_ x.Kind, z1h x.Text, I_ x.Line])⟩
instance : LenC z19 3 := ⟨fun x => rfl⟩
instance : ScalC z19 := ⟨fun x => (inferInstance : ScalL [I_ x.Kind, z1h x.Text, I_ x.Line])⟩
end Go.Proofs.YtngimdmkomkeoaaGreat.K
