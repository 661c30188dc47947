/- The types of the program's values, and how they lie in cells. -/
import Derived.Test.YtngimdmkomkeoaaGreatCoreT
set_option linter.unusedVariables false
set_option linter.unusedSimpArgs false
namespace Go.Proofs.YtngimdmkomkeoaaGreat.K
open Go.RowKit Go.Proofs
structure api_Attr where
  Name : ByteArray
  Low : Int
  High : Int
  Names : (List ByteArray)
instance : Inhabited api_Attr := ⟨(api_Attr.mk (ByteArray.mk #[]) 0 0 [])⟩
def c_api_Attr (x : api_Attr) : List Asn := [AStr x.Name, I_ x.Low, I_ x.High, AL 1 c_str x.Names]
instance : NKC c_api_Attr := ⟨fun x => (inferInstance : NKL [AStr x.Name, I_ x.Low, I_ x.High, AL 1 c_str x.Names])⟩
instance : OneC c_api_Attr := ⟨fun x => (inferInstance : OneL [AStr x.Name, I_ x.Low, I_ x.High, AL 1 c_str x.Names])⟩
instance : LenC c_api_Attr 4 := ⟨fun x => rfl⟩
structure api_NodeType where
  Name : ByteArray
  Parent : Int
  Abstract : Bool
  Attrs : (List api_Attr)
instance : Inhabited api_NodeType := ⟨(api_NodeType.mk (ByteArray.mk #[]) 0 false [])⟩
def c_api_NodeType (x : api_NodeType) : List Asn := [AStr x.Name, I_ x.Parent, ABool x.Abstract, AL 4 c_api_Attr x.Attrs]
instance : NKC c_api_NodeType := ⟨fun x => (inferInstance : NKL [AStr x.Name, I_ x.Parent, ABool x.Abstract, AL 4 c_api_Attr x.Attrs])⟩
instance : OneC c_api_NodeType := ⟨fun x => (inferInstance : OneL [AStr x.Name, I_ x.Parent, ABool x.Abstract, AL 4 c_api_Attr x.Attrs])⟩
instance : LenC c_api_NodeType 4 := ⟨fun x => rfl⟩
structure api_EdgeType where
  Name : ByteArray
  From : Int
  To : Int
  OutLow : Int
  OutHigh : Int
  InLow : Int
  InHigh : Int
instance : Inhabited api_EdgeType := ⟨(api_EdgeType.mk (ByteArray.mk #[]) 0 0 0 0 0 0)⟩
def c_api_EdgeType (x : api_EdgeType) : List Asn := [AStr x.Name, I_ x.From, I_ x.To, I_ x.OutLow, I_ x.OutHigh, I_ x.InLow, I_ x.InHigh]
instance : NKC c_api_EdgeType := ⟨fun x => (inferInstance : NKL [AStr x.Name, I_ x.From, I_ x.To, I_ x.OutLow, I_ x.OutHigh, I_ x.InLow, I_ x.InHigh])⟩
instance : OneC c_api_EdgeType := ⟨fun x => (inferInstance : OneL [AStr x.Name, I_ x.From, I_ x.To, I_ x.OutLow, I_ x.OutHigh, I_ x.InLow, I_ x.InHigh])⟩
instance : LenC c_api_EdgeType 7 := ⟨fun x => rfl⟩
instance : ScalC c_api_EdgeType := ⟨fun x => (inferInstance : ScalL [AStr x.Name, I_ x.From, I_ x.To, I_ x.OutLow, I_ x.OutHigh, I_ x.InLow, I_ x.InHigh])⟩
structure api_Types where
  Nodes : (List api_NodeType)
  Edges : (List api_EdgeType)
instance : Inhabited api_Types := ⟨(api_Types.mk [] [])⟩
def c_api_Types (x : api_Types) : List Asn := [AL 4 c_api_NodeType x.Nodes, AL 7 c_api_EdgeType x.Edges]
instance : NKC c_api_Types := ⟨fun x => (inferInstance : NKL [AL 4 c_api_NodeType x.Nodes, AL 7 c_api_EdgeType x.Edges])⟩
instance : OneC c_api_Types := ⟨fun x => (inferInstance : OneL [AL 4 c_api_NodeType x.Nodes, AL 7 c_api_EdgeType x.Edges])⟩
instance : LenC c_api_Types 2 := ⟨fun x => rfl⟩
structure api_Edge where
  Type_ : Int
  From : Int
  To : Int
instance : Inhabited api_Edge := ⟨(api_Edge.mk 0 0 0)⟩
def c_api_Edge (x : api_Edge) : List Asn := [I_ x.Type_, I_ x.From, I_ x.To]
instance : NKC c_api_Edge := ⟨fun x => (inferInstance : NKL [I_ x.Type_, I_ x.From, I_ x.To])⟩
instance : OneC c_api_Edge := ⟨fun x => (inferInstance : OneL [I_ x.Type_, I_ x.From, I_ x.To])⟩
instance : LenC c_api_Edge 3 := ⟨fun x => rfl⟩
instance : ScalC c_api_Edge := ⟨fun x => (inferInstance : ScalL [I_ x.Type_, I_ x.From, I_ x.To])⟩
instance : DecidableEq api_Edge := fun a b => decidable_of_iff (a.Type_ = b.Type_ ∧ a.From = b.From ∧ a.To = b.To) (by
  constructor
  · intro h
    obtain ⟨p1, p2, p3⟩ := a
    obtain ⟨q1, q2, q3⟩ := b
    simp at h
    simp [h]
  · intro h; subst h; simp)
instance : NumC c_api_Edge := numC_of [.i64, .i64, .i64] (fun x => [x.Type_, x.From, x.To]) (fun x => rfl) (fun x => rfl) (fun x y h => by simp at h; cases x; cases y; simp at h; simp [h])
structure api_Graph where
  Nodes : (List Int)
  Edges : (List api_Edge)
instance : Inhabited api_Graph := ⟨(api_Graph.mk [] [])⟩
def c_api_Graph (x : api_Graph) : List Asn := [AL 1 c_i64 x.Nodes, AL 3 c_api_Edge x.Edges]
instance : NKC c_api_Graph := ⟨fun x => (inferInstance : NKL [AL 1 c_i64 x.Nodes, AL 3 c_api_Edge x.Edges])⟩
instance : OneC c_api_Graph := ⟨fun x => (inferInstance : OneL [AL 1 c_i64 x.Nodes, AL 3 c_api_Edge x.Edges])⟩
instance : LenC c_api_Graph 2 := ⟨fun x => rfl⟩
structure api_Term where
  Var : Int
  Add : Int
instance : Inhabited api_Term := ⟨(api_Term.mk 0 0)⟩
def c_api_Term (x : api_Term) : List Asn := [I_ x.Var, I_ x.Add]
instance : NKC c_api_Term := ⟨fun x => (inferInstance : NKL [I_ x.Var, I_ x.Add])⟩
instance : OneC c_api_Term := ⟨fun x => (inferInstance : OneL [I_ x.Var, I_ x.Add])⟩
instance : LenC c_api_Term 2 := ⟨fun x => rfl⟩
instance : ScalC c_api_Term := ⟨fun x => (inferInstance : ScalL [I_ x.Var, I_ x.Add])⟩
instance : DecidableEq api_Term := fun a b => decidable_of_iff (a.Var = b.Var ∧ a.Add = b.Add) (by
  constructor
  · intro h
    obtain ⟨p1, p2⟩ := a
    obtain ⟨q1, q2⟩ := b
    simp at h
    simp [h]
  · intro h; subst h; simp)
instance : NumC c_api_Term := numC_of [.i64, .i64] (fun x => [x.Var, x.Add]) (fun x => rfl) (fun x => rfl) (fun x y h => by simp at h; cases x; cases y; simp at h; simp [h])
structure api_Slot where
  Node : Int
  Attr : Int
  Term : api_Term
instance : Inhabited api_Slot := ⟨(api_Slot.mk 0 0 (api_Term.mk 0 0))⟩
def c_api_Slot (x : api_Slot) : List Asn := [I_ x.Node, I_ x.Attr, I_ x.Term.Var, I_ x.Term.Add]
instance : NKC c_api_Slot := ⟨fun x => (inferInstance : NKL [I_ x.Node, I_ x.Attr, I_ x.Term.Var, I_ x.Term.Add])⟩
instance : OneC c_api_Slot := ⟨fun x => (inferInstance : OneL [I_ x.Node, I_ x.Attr, I_ x.Term.Var, I_ x.Term.Add])⟩
instance : LenC c_api_Slot 4 := ⟨fun x => rfl⟩
instance : ScalC c_api_Slot := ⟨fun x => (inferInstance : ScalL [I_ x.Node, I_ x.Attr, I_ x.Term.Var, I_ x.Term.Add])⟩
instance : DecidableEq api_Slot := fun a b => decidable_of_iff (a.Node = b.Node ∧ a.Attr = b.Attr ∧ a.Term.Var = b.Term.Var ∧ a.Term.Add = b.Term.Add) (by
  constructor
  · intro h
    obtain ⟨p1, p2, ⟨p3, p4⟩⟩ := a
    obtain ⟨q1, q2, ⟨q3, q4⟩⟩ := b
    simp at h
    simp [h]
  · intro h; subst h; simp)
instance : NumC c_api_Slot := numC_of [.i64, .i64, .i64, .i64] (fun x => [x.Node, x.Attr, x.Term.Var, x.Term.Add]) (fun x => rfl) (fun x => rfl) (fun x y h => by simp at h; obtain ⟨a1, a2, ⟨a3, a4⟩⟩ := x; obtain ⟨b1, b2, ⟨b3, b4⟩⟩ := y; simp at h; simp [h])
structure api_Test where
  Kind : Int
  Left : api_Term
  Right : api_Term
instance : Inhabited api_Test := ⟨(api_Test.mk 0 (api_Term.mk 0 0) (api_Term.mk 0 0))⟩
def c_api_Test (x : api_Test) : List Asn := [I_ x.Kind, I_ x.Left.Var, I_ x.Left.Add, I_ x.Right.Var, I_ x.Right.Add]
instance : NKC c_api_Test := ⟨fun x => (inferInstance : NKL [I_ x.Kind, I_ x.Left.Var, I_ x.Left.Add, I_ x.Right.Var, I_ x.Right.Add])⟩
instance : OneC c_api_Test := ⟨fun x => (inferInstance : OneL [I_ x.Kind, I_ x.Left.Var, I_ x.Left.Add, I_ x.Right.Var, I_ x.Right.Add])⟩
instance : LenC c_api_Test 5 := ⟨fun x => rfl⟩
instance : ScalC c_api_Test := ⟨fun x => (inferInstance : ScalL [I_ x.Kind, I_ x.Left.Var, I_ x.Left.Add, I_ x.Right.Var, I_ x.Right.Add])⟩
instance : DecidableEq api_Test := fun a b => decidable_of_iff (a.Kind = b.Kind ∧ a.Left.Var = b.Left.Var ∧ a.Left.Add = b.Left.Add ∧ a.Right.Var = b.Right.Var ∧ a.Right.Add = b.Right.Add) (by
  constructor
  · intro h
    obtain ⟨p1, ⟨p2, p3⟩, ⟨p4, p5⟩⟩ := a
    obtain ⟨q1, ⟨q2, q3⟩, ⟨q4, q5⟩⟩ := b
    simp at h
    simp [h]
  · intro h; subst h; simp)
instance : NumC c_api_Test := numC_of [.i64, .i64, .i64, .i64, .i64] (fun x => [x.Kind, x.Left.Var, x.Left.Add, x.Right.Var, x.Right.Add]) (fun x => rfl) (fun x => rfl) (fun x y h => by simp at h; obtain ⟨a1, ⟨a2, a3⟩, ⟨a4, a5⟩⟩ := x; obtain ⟨b1, ⟨b2, b3⟩, ⟨b4, b5⟩⟩ := y; simp at h; simp [h])
structure api_Pattern where
  Graph : api_Graph
  Slots : (List api_Slot)
  Vars : Int
  Tests : (List api_Test)
instance : Inhabited api_Pattern := ⟨(api_Pattern.mk (api_Graph.mk [] []) [] 0 [])⟩
def c_api_Pattern (x : api_Pattern) : List Asn := [AL 1 c_i64 x.Graph.Nodes, AL 3 c_api_Edge x.Graph.Edges, AL 4 c_api_Slot x.Slots, I_ x.Vars, AL 5 c_api_Test x.Tests]
instance : NKC c_api_Pattern := ⟨fun x => (inferInstance : NKL [AL 1 c_i64 x.Graph.Nodes, AL 3 c_api_Edge x.Graph.Edges, AL 4 c_api_Slot x.Slots, I_ x.Vars, AL 5 c_api_Test x.Tests])⟩
instance : OneC c_api_Pattern := ⟨fun x => (inferInstance : OneL [AL 1 c_i64 x.Graph.Nodes, AL 3 c_api_Edge x.Graph.Edges, AL 4 c_api_Slot x.Slots, I_ x.Vars, AL 5 c_api_Test x.Tests])⟩
instance : LenC c_api_Pattern 5 := ⟨fun x => rfl⟩
structure api_Part where
  Nodes : (List Int)
  Edges : (List Int)
instance : Inhabited api_Part := ⟨(api_Part.mk [] [])⟩
def c_api_Part (x : api_Part) : List Asn := [AL 1 c_i64 x.Nodes, AL 1 c_i64 x.Edges]
instance : NKC c_api_Part := ⟨fun x => (inferInstance : NKL [AL 1 c_i64 x.Nodes, AL 1 c_i64 x.Edges])⟩
instance : OneC c_api_Part := ⟨fun x => (inferInstance : OneL [AL 1 c_i64 x.Nodes, AL 1 c_i64 x.Edges])⟩
instance : LenC c_api_Part 2 := ⟨fun x => rfl⟩
structure api_Morphism where
  Nodes : (List Int)
  Edges : (List Int)
instance : Inhabited api_Morphism := ⟨(api_Morphism.mk [] [])⟩
def c_api_Morphism (x : api_Morphism) : List Asn := [AL 1 c_i64 x.Nodes, AL 1 c_i64 x.Edges]
instance : NKC c_api_Morphism := ⟨fun x => (inferInstance : NKL [AL 1 c_i64 x.Nodes, AL 1 c_i64 x.Edges])⟩
instance : OneC c_api_Morphism := ⟨fun x => (inferInstance : OneL [AL 1 c_i64 x.Nodes, AL 1 c_i64 x.Edges])⟩
instance : LenC c_api_Morphism 2 := ⟨fun x => rfl⟩
inductive api_Condition where
  | mk (Kind : Int) (Kids : (List api_Condition)) (Map : api_Morphism) (Pattern : api_Pattern)
def api_Condition.Kind : api_Condition → Int
  | .mk x _ _ _ => x
def api_Condition.Kids : api_Condition → (List api_Condition)
  | .mk _ x _ _ => x
def api_Condition.Map : api_Condition → api_Morphism
  | .mk _ _ x _ => x
def api_Condition.Pattern : api_Condition → api_Pattern
  | .mk _ _ _ x => x
instance : Inhabited api_Condition := ⟨(api_Condition.mk 0 [] (api_Morphism.mk [] []) (api_Pattern.mk (api_Graph.mk [] []) [] 0 []))⟩
mutual
def cc_api_Condition : api_Condition → List Asn
  | .mk x0 x1 x2 x3 => [I_ x0, AList 9 (kk_api_Condition x1), AL 1 c_i64 x2.Nodes, AL 1 c_i64 x2.Edges, AL 1 c_i64 x3.Graph.Nodes, AL 3 c_api_Edge x3.Graph.Edges, AL 4 c_api_Slot x3.Slots, I_ x3.Vars, AL 5 c_api_Test x3.Tests]
def kk_api_Condition : List api_Condition → List (List Asn)
  | [] => []
  | x :: xs => cc_api_Condition x :: kk_api_Condition xs
end
def c_api_Condition (x : api_Condition) : List Asn := [I_ x.Kind, AList 9 (kk_api_Condition x.Kids), AL 1 c_i64 x.Map.Nodes, AL 1 c_i64 x.Map.Edges, AL 1 c_i64 x.Pattern.Graph.Nodes, AL 3 c_api_Edge x.Pattern.Graph.Edges, AL 4 c_api_Slot x.Pattern.Slots, I_ x.Pattern.Vars, AL 5 c_api_Test x.Pattern.Tests]
theorem cc_api_Condition_eq (x : api_Condition) : cc_api_Condition x = c_api_Condition x := by cases x; simp only [cc_api_Condition]; rfl
theorem kk_api_Condition_eq (xs : List api_Condition) : kk_api_Condition xs = xs.map c_api_Condition := by
  induction xs with
  | nil => simp only [kk_api_Condition]; rfl
  | cons x xs ih => simp only [kk_api_Condition, cc_api_Condition_eq, ih]; rfl
def k_api_Condition (xs : List api_Condition) : List Asn := [AList 9 (kk_api_Condition xs)]
theorem kid_api_Condition (xs : List api_Condition) : k_api_Condition xs = [AL 9 c_api_Condition xs] := by unfold k_api_Condition; rw [kk_api_Condition_eq]
theorem c_api_Condition_def (x : api_Condition) : c_api_Condition x = [I_ x.Kind, AL 9 c_api_Condition x.Kids, AL 1 c_i64 x.Map.Nodes, AL 1 c_i64 x.Map.Edges, AL 1 c_i64 x.Pattern.Graph.Nodes, AL 3 c_api_Edge x.Pattern.Graph.Edges, AL 4 c_api_Slot x.Pattern.Slots, I_ x.Pattern.Vars, AL 5 c_api_Test x.Pattern.Tests] := by show [I_ x.Kind, AList 9 (kk_api_Condition x.Kids), AL 1 c_i64 x.Map.Nodes, AL 1 c_i64 x.Map.Edges, AL 1 c_i64 x.Pattern.Graph.Nodes, AL 3 c_api_Edge x.Pattern.Graph.Edges, AL 4 c_api_Slot x.Pattern.Slots, I_ x.Pattern.Vars, AL 5 c_api_Test x.Pattern.Tests] = _; rw [kk_api_Condition_eq]
theorem api_Condition_nk : ∀ x : api_Condition, NKL (c_api_Condition x) := by
  have key : ∀ m : Nat, ∀ x : api_Condition, SizeOf.sizeOf x < m → NKL (c_api_Condition x) := by
    intro m
    induction m with
    | zero => intro x h; omega
    | succ m ih =>
      intro x h
      haveI : NK (AList 9 (kk_api_Condition x.Kids)) := by
        rw [kk_api_Condition_eq]
        refine ⟨fun k hk => ?_⟩
        obtain ⟨A, hA, hk⟩ := hk
        obtain ⟨r, hr, hA⟩ := List.mem_flatten.1 hA
        obtain ⟨y, hy, rfl⟩ := List.mem_map.1 hr
        have h1 : SizeOf.sizeOf y < m := by
          have h2 := List.sizeOf_lt_of_mem hy
          have h3 : SizeOf.sizeOf x.Kids < SizeOf.sizeOf x := by cases x; simp [api_Condition.Kids]; omega
          omega
        exact (ih y h1).nk k ⟨A, hA, hk⟩
      exact (inferInstance : NKL [I_ x.Kind, AList 9 (kk_api_Condition x.Kids), AL 1 c_i64 x.Map.Nodes, AL 1 c_i64 x.Map.Edges, AL 1 c_i64 x.Pattern.Graph.Nodes, AL 3 c_api_Edge x.Pattern.Graph.Edges, AL 4 c_api_Slot x.Pattern.Slots, I_ x.Pattern.Vars, AL 5 c_api_Test x.Pattern.Tests])
  exact fun x => key (SizeOf.sizeOf x + 1) x (by omega)
instance : NKC c_api_Condition := ⟨api_Condition_nk⟩
instance : OneC c_api_Condition := ⟨fun x => (inferInstance : OneL [I_ x.Kind, AList 9 (kk_api_Condition x.Kids), AL 1 c_i64 x.Map.Nodes, AL 1 c_i64 x.Map.Edges, AL 1 c_i64 x.Pattern.Graph.Nodes, AL 3 c_api_Edge x.Pattern.Graph.Edges, AL 4 c_api_Slot x.Pattern.Slots, I_ x.Pattern.Vars, AL 5 c_api_Test x.Pattern.Tests])⟩
instance {xs : List api_Condition} : NK (AList 9 (kk_api_Condition xs)) := by rw [kk_api_Condition_eq]; infer_instance
instance : LenC c_api_Condition 9 := ⟨fun x => rfl⟩
structure api_Rule where
  Name : ByteArray
  Left : api_Pattern
  Right : api_Pattern
  Keep : api_Part
  Into : api_Morphism
  Injective : Bool
  Condition : api_Condition
instance : Inhabited api_Rule := ⟨(api_Rule.mk (ByteArray.mk #[]) (api_Pattern.mk (api_Graph.mk [] []) [] 0 []) (api_Pattern.mk (api_Graph.mk [] []) [] 0 []) (api_Part.mk [] []) (api_Morphism.mk [] []) false (api_Condition.mk 0 [] (api_Morphism.mk [] []) (api_Pattern.mk (api_Graph.mk [] []) [] 0 [])))⟩
def c_api_Rule (x : api_Rule) : List Asn := [AStr x.Name, AL 1 c_i64 x.Left.Graph.Nodes, AL 3 c_api_Edge x.Left.Graph.Edges, AL 4 c_api_Slot x.Left.Slots, I_ x.Left.Vars, AL 5 c_api_Test x.Left.Tests, AL 1 c_i64 x.Right.Graph.Nodes, AL 3 c_api_Edge x.Right.Graph.Edges, AL 4 c_api_Slot x.Right.Slots, I_ x.Right.Vars, AL 5 c_api_Test x.Right.Tests, AL 1 c_i64 x.Keep.Nodes, AL 1 c_i64 x.Keep.Edges, AL 1 c_i64 x.Into.Nodes, AL 1 c_i64 x.Into.Edges, ABool x.Injective, I_ x.Condition.Kind, AList 9 (kk_api_Condition x.Condition.Kids), AL 1 c_i64 x.Condition.Map.Nodes, AL 1 c_i64 x.Condition.Map.Edges, AL 1 c_i64 x.Condition.Pattern.Graph.Nodes, AL 3 c_api_Edge x.Condition.Pattern.Graph.Edges, AL 4 c_api_Slot x.Condition.Pattern.Slots, I_ x.Condition.Pattern.Vars, AL 5 c_api_Test x.Condition.Pattern.Tests]
instance : NKC c_api_Rule := ⟨fun x => (inferInstance : NKL [AStr x.Name, AL 1 c_i64 x.Left.Graph.Nodes, AL 3 c_api_Edge x.Left.Graph.Edges, AL 4 c_api_Slot x.Left.Slots, I_ x.Left.Vars, AL 5 c_api_Test x.Left.Tests, AL 1 c_i64 x.Right.Graph.Nodes, AL 3 c_api_Edge x.Right.Graph.Edges, AL 4 c_api_Slot x.Right.Slots, I_ x.Right.Vars, AL 5 c_api_Test x.Right.Tests, AL 1 c_i64 x.Keep.Nodes, AL 1 c_i64 x.Keep.Edges, AL 1 c_i64 x.Into.Nodes, AL 1 c_i64 x.Into.Edges, ABool x.Injective, I_ x.Condition.Kind, AList 9 (kk_api_Condition x.Condition.Kids), AL 1 c_i64 x.Condition.Map.Nodes, AL 1 c_i64 x.Condition.Map.Edges, AL 1 c_i64 x.Condition.Pattern.Graph.Nodes, AL 3 c_api_Edge x.Condition.Pattern.Graph.Edges, AL 4 c_api_Slot x.Condition.Pattern.Slots, I_ x.Condition.Pattern.Vars, AL 5 c_api_Test x.Condition.Pattern.Tests])⟩
instance : OneC c_api_Rule := ⟨fun x => (inferInstance : OneL [AStr x.Name, AL 1 c_i64 x.Left.Graph.Nodes, AL 3 c_api_Edge x.Left.Graph.Edges, AL 4 c_api_Slot x.Left.Slots, I_ x.Left.Vars, AL 5 c_api_Test x.Left.Tests, AL 1 c_i64 x.Right.Graph.Nodes, AL 3 c_api_Edge x.Right.Graph.Edges, AL 4 c_api_Slot x.Right.Slots, I_ x.Right.Vars, AL 5 c_api_Test x.Right.Tests, AL 1 c_i64 x.Keep.Nodes, AL 1 c_i64 x.Keep.Edges, AL 1 c_i64 x.Into.Nodes, AL 1 c_i64 x.Into.Edges, ABool x.Injective, I_ x.Condition.Kind, AList 9 (kk_api_Condition x.Condition.Kids), AL 1 c_i64 x.Condition.Map.Nodes, AL 1 c_i64 x.Condition.Map.Edges, AL 1 c_i64 x.Condition.Pattern.Graph.Nodes, AL 3 c_api_Edge x.Condition.Pattern.Graph.Edges, AL 4 c_api_Slot x.Condition.Pattern.Slots, I_ x.Condition.Pattern.Vars, AL 5 c_api_Test x.Condition.Pattern.Tests])⟩
instance : LenC c_api_Rule 25 := ⟨fun x => rfl⟩
structure api_Token where
  Kind : Int
  Text : ByteArray
  Line : Int
instance : Inhabited api_Token := ⟨(api_Token.mk 0 (ByteArray.mk #[]) 0)⟩
def c_api_Token (x : api_Token) : List Asn := [I_ x.Kind, AStr x.Text, I_ x.Line]
instance : NKC c_api_Token := ⟨fun x => (inferInstance : NKL [I_ x.Kind, AStr x.Text, I_ x.Line])⟩
instance : OneC c_api_Token := ⟨fun x => (inferInstance : OneL [I_ x.Kind, AStr x.Text, I_ x.Line])⟩
instance : LenC c_api_Token 3 := ⟨fun x => rfl⟩
instance : ScalC c_api_Token := ⟨fun x => (inferInstance : ScalL [I_ x.Kind, AStr x.Text, I_ x.Line])⟩
end Go.Proofs.YtngimdmkomkeoaaGreat.K
