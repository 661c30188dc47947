/- What the program's functions compute, told in plain Lean. -/
import Derived.Test.YtpnfoacmgfklaaaGreatTypes
set_option linter.unusedVariables false
set_option linter.unusedSimpArgs false
namespace Go.Proofs.YtpnfoacmgfklaaaGreat.K
open Go.RowKit Go.Proofs
noncomputable def slices_Clone_int (t0 : (List Int)) : Option ((List Int)) :=
  if t0.length * 8 ≤ 140737488355328 then some t0 else none
noncomputable def slices_Clone_api_Edge (t0 : (List api_Edge)) : Option ((List api_Edge)) :=
  if t0.length * 24 ≤ 140737488355328 then some t0 else none
noncomputable def rule_copied (t0 : api_Graph) : Option (api_Graph) :=
  (slices_Clone_int t0.Nodes).bind fun b1 => (slices_Clone_api_Edge t0.Edges).bind fun b3 => some (api_Graph.mk b1 b3)
noncomputable def rule_plain (t0 : api_Rule) : Option (api_Rule) :=
  (rule_copied t0.Left.Graph).bind fun b1 => (rule_copied t0.Right.Graph).bind fun b3 => (slices_Clone_int t0.Keep.Nodes).bind fun b5 => (slices_Clone_int t0.Keep.Edges).bind fun b7 => (slices_Clone_int t0.Into.Nodes).bind fun b9 => (slices_Clone_int t0.Into.Edges).bind fun b11 => some (api_Rule.mk t0.Name (api_Pattern.mk b1 [] 0 []) (api_Pattern.mk b3 [] 0 []) (api_Part.mk b5 b7) (api_Morphism.mk b9 b11) t0.Injective (api_Condition.mk 1 [] (api_Morphism.mk [] []) (api_Pattern.mk (api_Graph.mk [] []) [] 0 [])))
noncomputable def slices_IndexFunc_int_l1 (t0 : (List Int)) (t1 : (Int → Option Bool)) (x1 : Int) : Option (Int ⊕ Int) :=
  if x1 < (t0.length : Int) then if 0 ≤ x1 ∧ x1 < (t0.length : Int) then (t1 (nth t0 x1)).bind fun b10 => if b10 = true then some (.inr x1) else some (.inl (x1 + 1)) else none else some (.inr (-1))
noncomputable def slices_IndexFunc_int (t0 : (List Int)) (t1 : (Int → Option Bool)) : Option (Int) :=
  Iter (slices_IndexFunc_int_l1 t0 t1) 0
noncomputable def slices_ContainsFunc_int (t0 : (List Int)) (t1 : (Int → Option Bool)) : Option (Bool) :=
  (slices_IndexFunc_int t0 t1).bind fun b1 => some (decide (0 ≤ b1))
noncomputable def rule_makable_1 (t0 : Int) (t1 : api_Types) (t2 : api_Graph) : Option (Bool) :=
  if 0 ≤ t0 ∧ t0 < (t2.Nodes.length : Int) then if 0 ≤ (nth t2.Nodes t0) ∧ (nth t2.Nodes t0) < (t1.Nodes.length : Int) then some ((nth t1.Nodes (nth t2.Nodes t0)).Abstract) else none else none
noncomputable def token_letter (t0 : Int) : Option (Bool) :=
  if 97 ≤ t0 then if t0 ≤ 122 then some true else if 65 ≤ t0 then some (decide (t0 ≤ 90)) else some false else if 65 ≤ t0 then some (decide (t0 ≤ 90)) else some false
noncomputable def token_run_j17 (x1 : Int) (v17 : Unit) : Option (Int ⊕ Int) :=
  some (.inr x1)
noncomputable def token_run_l1 (t0 : ByteArray) (t1 : (Int → Option Bool)) (x1 : Int) : Option (Int ⊕ Int) :=
  if x1 < (t0.size : Int) then if 0 ≤ x1 ∧ x1 < (t0.size : Int) then (t1 (byteAt t0 x1)).bind fun b12 => if b12 = true then some (.inl (x1 + 1)) else token_run_j17 x1 () else none else token_run_j17 x1 ()
noncomputable def token_run (t0 : ByteArray) (t1 : (Int → Option Bool)) : Option (Int) :=
  Iter (token_run_l1 t0 t1) 0
noncomputable def token_digit (t0 : Int) : Option (Bool) :=
  if 48 ≤ t0 then some (decide (t0 ≤ 57)) else some false
noncomputable def token_part (t0 : Int) : Option (Bool) :=
  (token_letter t0).bind fun b1 => if b1 = true then some true else (token_digit t0).bind fun b4 => if b4 = true then some true else some (decide (t0 = 95))
noncomputable def token_next (t0 : ByteArray) : Option (Int × Int × Int) :=
  if 0 ≤ (0 : Int) ∧ (0 : Int) < (t0.size : Int) then (token_letter (byteAt t0 0)).bind fun b2 => if b2 = true then (token_run t0 token_part).bind fun b5 => if 20 < b5 then some (0, 0, 3) else some (1, b5, 0) else (token_digit (byteAt t0 0)).bind fun b8 => if b8 = true then (token_run t0 token_digit).bind fun b11 => if 9 < b11 then some (0, 0, 3) else some (2, b11, 0) else if byteAt t0 0 = 34 then none else none else none
noncomputable def token_whole_j9 (t0 : api_Token) (v9 : ByteArray) : Option (ByteArray × Bool) :=
  if v9 = (ByteArray.mk #[]) then some ((ByteArray.mk #[]), false) else (token_next v9).bind fun b11 => if b11.2.2 = 0 then if b11.1 = t0.Kind then some (v9, (decide (b11.2.1 = (v9.size : Int)))) else some (v9, false) else some (v9, false)
noncomputable def token_whole (t0 : api_Token) : Option (ByteArray × Bool) :=
  if t0.Kind = 3 then if (ByteArray.mk #[34]).size + t0.Text.size ≤ 140737488355328 then if ((ByteArray.mk #[34]) ++ t0.Text).size + (ByteArray.mk #[34]).size ≤ 140737488355328 then token_whole_j9 t0 (((ByteArray.mk #[34]) ++ t0.Text) ++ (ByteArray.mk #[34])) else none else none else token_whole_j9 t0 t0.Text
noncomputable def token_IsName (t0 : ByteArray) : Option (Bool) :=
  (token_whole (api_Token.mk 1 t0 0)).bind fun b1 => some b1.2
noncomputable def slices_IndexFunc_api_NodeType_l1 (t0 : (List api_NodeType)) (t1 : (api_NodeType → Option Bool)) (x1 : Int) : Option (Int ⊕ Int) :=
  if x1 < (t0.length : Int) then if 0 ≤ x1 ∧ x1 < (t0.length : Int) then (t1 (nth t0 x1)).bind fun b10 => if b10 = true then some (.inr x1) else some (.inl (x1 + 1)) else none else some (.inr (-1))
noncomputable def slices_IndexFunc_api_NodeType (t0 : (List api_NodeType)) (t1 : (api_NodeType → Option Bool)) : Option (Int) :=
  Iter (slices_IndexFunc_api_NodeType_l1 t0 t1) 0
noncomputable def slices_ContainsFunc_api_NodeType (t0 : (List api_NodeType)) (t1 : (api_NodeType → Option Bool)) : Option (Bool) :=
  (slices_IndexFunc_api_NodeType t0 t1).bind fun b1 => some (decide (0 ≤ b1))
noncomputable def types_node_1 (t0 : api_NodeType) (t1 : api_NodeType) : Option (Bool) :=
  some (decide (t0.Name = t1.Name))
noncomputable def types_attrs_j6 (t0 : api_Types) (t1 : Int) (v6 : (List api_Attr)) : Option (List api_Attr) :=
  if (v6.length + ((nth t0.Nodes t1).Attrs).length) * 56 ≤ 140737488355328 then some (v6 ++ (nth t0.Nodes t1).Attrs) else none
noncomputable def types_attrs_b (q_types_attrs : api_Types → Int → Option (List api_Attr)) (t0 : api_Types) (t1 : Int) : Option ((List api_Attr)) :=
  if 0 ≤ t1 ∧ t1 < (t0.Nodes.length : Int) then if 0 ≤ (nth t0.Nodes t1).Parent then (q_types_attrs t0 ((nth t0.Nodes t1).Parent)).bind fun b3 => types_attrs_j6 t0 t1 b3 else types_attrs_j6 t0 t1 [] else none
noncomputable def types_attrs_n : Nat → (api_Types → Int → Option (List api_Attr))
  | 0 => (fun _ _ => none)
  | n + 1 => (fun t0 t1 => types_attrs_b (types_attrs_n n) t0 t1)
noncomputable def types_attrs (t0 : api_Types) (t1 : Int) : Option ((List api_Attr)) := Ev fun n => (types_attrs_n n) t0 t1
noncomputable def slices_IndexFunc_api_Attr_l1 (t0 : (List api_Attr)) (t1 : (api_Attr → Option Bool)) (x1 : Int) : Option (Int ⊕ Int) :=
  if x1 < (t0.length : Int) then if 0 ≤ x1 ∧ x1 < (t0.length : Int) then (t1 (nth t0 x1)).bind fun b10 => if b10 = true then some (.inr x1) else some (.inl (x1 + 1)) else none else some (.inr (-1))
noncomputable def slices_IndexFunc_api_Attr (t0 : (List api_Attr)) (t1 : (api_Attr → Option Bool)) : Option (Int) :=
  Iter (slices_IndexFunc_api_Attr_l1 t0 t1) 0
noncomputable def slices_ContainsFunc_api_Attr (t0 : (List api_Attr)) (t1 : (api_Attr → Option Bool)) : Option (Bool) :=
  (slices_IndexFunc_api_Attr t0 t1).bind fun b1 => some (decide (0 ≤ b1))
noncomputable def types_attribute_1 (t0 : api_Attr) (t1 : api_Attr) : Option (Bool) :=
  some (decide (t0.Name = t1.Name))
noncomputable def slices_Index_string_l1 (t0 : (List ByteArray)) (t1 : ByteArray) (x1 : Int) : Option (Int ⊕ Int) :=
  if x1 < (t0.length : Int) then if 0 ≤ x1 ∧ x1 < (t0.length : Int) then if t1 = (nth t0 x1) then some (.inr x1) else some (.inl (x1 + 1)) else none else some (.inr (-1))
noncomputable def slices_Index_string (t0 : (List ByteArray)) (t1 : ByteArray) : Option (Int) :=
  Iter (slices_Index_string_l1 t0 t1) 0
noncomputable def slices_Contains_string (t0 : (List ByteArray)) (t1 : ByteArray) : Option (Bool) :=
  (slices_Index_string t0 t1).bind fun b1 => some (decide (0 ≤ b1))
noncomputable def types_names_l2 (t0 : (List ByteArray)) (x2 : Int) : Option (Int ⊕ Int) :=
  if x2 < (t0.length : Int) then if 0 ≤ x2 ∧ x2 < (t0.length : Int) then (token_IsName (nth t0 x2)).bind fun b15 => if (!b15) = true then some (.inr 2) else if 0 ≤ (0 : Int) ∧ (0 : Int) ≤ x2 ∧ x2 ≤ (t0.length : Int) then (slices_Contains_string (cut t0 0 x2) (nth t0 x2)).bind fun b19 => if b19 = true then some (.inr 5) else some (.inl (x2 + 1)) else none else none else some (.inr 0)
noncomputable def types_names (t0 : (List ByteArray)) : Option (Int) :=
  if 20 < (t0.length : Int) then some 3 else Iter (types_names_l2 t0) 0
noncomputable def types_attribute_j28  (v28 : Bool) : Option Int :=
  if (!v28) = true then some 6 else some 0
noncomputable def types_attribute_j25  (v25 : Bool) : Option Int :=
  types_attribute_j28 v25
noncomputable def types_attribute_j21 (t0 : api_Attr) (v21 : Bool) : Option Int :=
  if 0 < (t0.Names.length : Int) then if t0.Low = 0 then types_attribute_j25 (decide (t0.High = (t0.Names.length : Int) - 1)) else types_attribute_j25 false else types_attribute_j28 v21
noncomputable def types_attribute (t0 : api_Attr) (t1 : (List api_Attr)) : Option (Int) :=
  (token_IsName t0.Name).bind fun b1 => if (!b1) = true then some 2 else (slices_ContainsFunc_api_Attr t1 (fun x => types_attribute_1 x t0)).bind fun b4 => if b4 = true then some 5 else (types_names t0.Names).bind fun b7 => if ¬ (b7 = 0) then some b7 else if (-1000000) ≤ t0.Low then if t0.Low ≤ t0.High then types_attribute_j21 t0 (decide (t0.High ≤ 1000000)) else types_attribute_j21 t0 false else types_attribute_j21 t0 false
noncomputable def types_node_l18 (b13 : (List api_Attr)) (x18 : Int) : Option (Int ⊕ Int) :=
  if x18 < (b13.length : Int) then if 0 ≤ x18 ∧ x18 < (b13.length : Int) then if 0 ≤ (0 : Int) ∧ (0 : Int) ≤ x18 ∧ x18 ≤ (b13.length : Int) then (types_attribute (nth b13 x18) (cut b13 0 x18)).bind fun b31 => if ¬ (b31 = 0) then some (.inr b31) else some (.inl (x18 + 1)) else none else none else some (.inr 0)
noncomputable def types_node (t0 : api_Types) (t1 : Int) : Option (Int) :=
  if 0 ≤ t1 ∧ t1 < (t0.Nodes.length : Int) then (token_IsName ((nth t0.Nodes t1).Name)).bind fun b2 => if (!b2) = true then some 2 else if 0 ≤ (0 : Int) ∧ (0 : Int) ≤ t1 ∧ t1 ≤ (t0.Nodes.length : Int) then (slices_ContainsFunc_api_NodeType (cut t0.Nodes 0 t1) (fun x => types_node_1 x (nth t0.Nodes t1))).bind fun b7 => if b7 = true then some 5 else if (nth t0.Nodes t1).Parent < (-1) then some 6 else if t1 ≤ (nth t0.Nodes t1).Parent then some 6 else if 4 < (((nth t0.Nodes t1).Attrs).length : Int) then some 3 else (types_attrs t0 t1).bind fun b13 => if 8 < (b13.length : Int) then some 3 else (some (w64 ((b13.length : Int) - (((nth t0.Nodes t1).Attrs).length : Int)))).bind fun b16 => Iter (types_node_l18 b13) b16 else none else none
noncomputable def types_edge_1 (t0 : Int) (t1 : api_Types) : Option (Bool) :=
  if 0 ≤ t0 then some (decide (t0 < (t1.Nodes.length : Int))) else some false
noncomputable def slices_IndexFunc_api_EdgeType_l1 (t0 : (List api_EdgeType)) (t1 : (api_EdgeType → Option Bool)) (x1 : Int) : Option (Int ⊕ Int) :=
  if x1 < (t0.length : Int) then if 0 ≤ x1 ∧ x1 < (t0.length : Int) then (t1 (nth t0 x1)).bind fun b10 => if b10 = true then some (.inr x1) else some (.inl (x1 + 1)) else none else some (.inr (-1))
noncomputable def slices_IndexFunc_api_EdgeType (t0 : (List api_EdgeType)) (t1 : (api_EdgeType → Option Bool)) : Option (Int) :=
  Iter (slices_IndexFunc_api_EdgeType_l1 t0 t1) 0
noncomputable def slices_ContainsFunc_api_EdgeType (t0 : (List api_EdgeType)) (t1 : (api_EdgeType → Option Bool)) : Option (Bool) :=
  (slices_IndexFunc_api_EdgeType t0 t1).bind fun b1 => some (decide (0 ≤ b1))
noncomputable def types_edge_2 (t0 : api_EdgeType) (t1 : api_EdgeType) : Option (Bool) :=
  some (decide (t0.Name = t1.Name))
noncomputable def types_bounded (t0 : Int) (t1 : Int) : Option (Bool) :=
  if 0 ≤ t0 then if t0 ≤ 40 then if t1 = (-1) then some true else if t0 ≤ t1 then some (decide (t1 ≤ 40)) else some false else some false else some false
noncomputable def types_edge_j26  (v26 : Bool) : Option Int :=
  if v26 = true then some 6 else some 0
noncomputable def types_edge_j16  (v16 : Bool) : Option Int :=
  types_edge_j26 v16
noncomputable def types_edge_j23  (v23 : Bool) : Option Int :=
  types_edge_j26 v23
noncomputable def types_edge (t0 : api_Types) (t1 : Int) : Option (Int) :=
  if 0 ≤ t1 ∧ t1 < (t0.Edges.length : Int) then (token_IsName ((nth t0.Edges t1).Name)).bind fun b2 => if (!b2) = true then some 2 else if 0 ≤ (0 : Int) ∧ (0 : Int) ≤ t1 ∧ t1 ≤ (t0.Edges.length : Int) then (slices_ContainsFunc_api_EdgeType (cut t0.Edges 0 t1) (fun x => types_edge_2 x (nth t0.Edges t1))).bind fun b7 => if b7 = true then some 5 else ((fun x => types_edge_1 x t0) ((nth t0.Edges t1).From)).bind fun b10 => if (!b10) = true then types_edge_j16 true else ((fun x => types_edge_1 x t0) ((nth t0.Edges t1).To)).bind fun b13 => if (!b13) = true then types_edge_j16 (!b13) else (types_bounded ((nth t0.Edges t1).OutLow) ((nth t0.Edges t1).OutHigh)).bind fun b18 => if (!b18) = true then types_edge_j23 true else (types_bounded ((nth t0.Edges t1).InLow) ((nth t0.Edges t1).InHigh)).bind fun b21 => types_edge_j23 (!b21) else none else none
noncomputable def types_Valid_l18 (t0 : api_Types) (x18 : Int) : Option (Int ⊕ (ByteArray × Int)) :=
  if x18 < (t0.Edges.length : Int) then if 0 ≤ x18 ∧ x18 < (t0.Edges.length : Int) then (types_edge t0 x18).bind fun b27 => if ¬ (b27 = 0) then some (.inr ((nth t0.Edges x18).Name, b27)) else some (.inl (x18 + 1)) else none else some (.inr ((ByteArray.mk #[]), 0))
noncomputable def types_Valid_l4 (t0 : api_Types) (x4 : Int) : Option (Int ⊕ (ByteArray × Int)) :=
  if x4 < (t0.Nodes.length : Int) then if 0 ≤ x4 ∧ x4 < (t0.Nodes.length : Int) then (types_node t0 x4).bind fun b13 => if ¬ (b13 = 0) then some (.inr ((nth t0.Nodes x4).Name, b13)) else some (.inl (x4 + 1)) else none else (Iter (types_Valid_l18 t0) 0).map .inr
noncomputable def types_Valid (t0 : api_Types) : Option (ByteArray × Int) :=
  if (t0.Nodes.length : Int) = 0 then some ((ByteArray.mk #[]), 7) else if 12 < (t0.Nodes.length : Int) then some ((ByteArray.mk #[]), 3) else if 20 < (t0.Edges.length : Int) then some ((ByteArray.mk #[]), 3) else Iter (types_Valid_l4 t0) 0
noncomputable def types_given_1 (t0 : Int) (t1 : api_Types) : Option (Bool) :=
  if t0 < 0 then some true else some (decide ((t1.Nodes.length : Int) ≤ t0))
noncomputable def types_given (t0 : api_Types) (t1 : (List Int)) : Option (Int) :=
  (types_Valid t0).bind fun b1 => if ¬ (b1.2 = 0) then some b1.2 else (slices_ContainsFunc_int t1 (fun x => types_given_1 x t0)).bind fun b4 => if b4 = true then some 6 else some 0
noncomputable def slices_Index_int_l1 (t0 : (List Int)) (t1 : Int) (x1 : Int) : Option (Int ⊕ Int) :=
  if x1 < (t0.length : Int) then if 0 ≤ x1 ∧ x1 < (t0.length : Int) then if t1 = (nth t0 x1) then some (.inr x1) else some (.inl (x1 + 1)) else none else some (.inr (-1))
noncomputable def slices_Index_int (t0 : (List Int)) (t1 : Int) : Option (Int) :=
  Iter (slices_Index_int_l1 t0 t1) 0
noncomputable def slices_Contains_int (t0 : (List Int)) (t1 : Int) : Option (Bool) :=
  (slices_Index_int t0 t1).bind fun b1 => some (decide (0 ≤ b1))
noncomputable def slices_Reverse_int_l3  (x3 : (List Int) × Int × Int) : Option (((List Int) × Int × Int) ⊕ (List Int)) :=
  if x3.2.1 < x3.2.2 then if 0 ≤ x3.2.2 ∧ x3.2.2 < (x3.1.length : Int) then if 0 ≤ x3.2.1 ∧ x3.2.1 < (x3.1.length : Int) then if 0 ≤ x3.2.2 ∧ x3.2.2 < ((x3.1.set x3.2.1.toNat (nth x3.1 x3.2.2)).length : Int) then some (.inl (((x3.1.set x3.2.1.toNat (nth x3.1 x3.2.2)).set x3.2.2.toNat (nth x3.1 x3.2.1)), x3.2.1 + 1, x3.2.2 - 1)) else none else none else none else some (.inr x3.1)
noncomputable def slices_Reverse_int (t0 : (List Int)) : Option ((List Int)) :=
  (some (w64 ((t0.length : Int) - 1))).bind fun b1 => Iter slices_Reverse_int_l3 (t0, 0, b1)
noncomputable def types_line_l1 (t0 : api_Types) (x1 : Int × (List Int)) : Option ((Int × (List Int)) ⊕ (List Int)) :=
  if 0 ≤ x1.1 then if (x1.2.length + 1) * 8 ≤ 140737488355328 then if 0 ≤ x1.1 ∧ x1.1 < (t0.Nodes.length : Int) then some (.inl ((nth t0.Nodes x1.1).Parent, (x1.2 ++ [x1.1]))) else none else none else ((slices_Reverse_int x1.2).bind fun b8 => some b8).map .inr
noncomputable def types_line (t0 : api_Types) (t1 : Int) : Option ((List Int)) :=
  Iter (types_line_l1 t0) (t1, [])
noncomputable def types_is (t0 : api_Types) (t1 : Int) (t2 : Int) : Option (Bool) :=
  (types_line t0 t1).bind fun b1 => (slices_Contains_int b1 t2).bind fun b3 => some b3
noncomputable def types_Fits (t0 : api_Types) (t1 : Int) (t2 : Int) (t3 : Int) : Option (Bool) :=
  (types_given t0 [t2, t3]).bind fun b1 => if ¬ (b1 = 0) then some false else if t1 < 0 then some false else if (t0.Edges.length : Int) ≤ t1 then some false else if 0 ≤ t1 ∧ t1 < (t0.Edges.length : Int) then (types_is t0 t2 ((nth t0.Edges t1).From)).bind fun b7 => if b7 = true then (types_is t0 t3 ((nth t0.Edges t1).To)).bind fun b10 => some b10 else some false else none
noncomputable def rule_makable_2 (t0 : Int) (t1 : api_Graph) (t2 : api_Types) : Option (Bool) :=
  if 0 ≤ t0 ∧ t0 < (t1.Edges.length : Int) then if 0 ≤ (nth t1.Edges t0).From ∧ (nth t1.Edges t0).From < (t1.Nodes.length : Int) then if 0 ≤ (nth t1.Edges t0).To ∧ (nth t1.Edges t0).To < (t1.Nodes.length : Int) then (types_Fits t2 ((nth t1.Edges t0).Type_) (nth t1.Nodes ((nth t1.Edges t0).From)) (nth t1.Nodes ((nth t1.Edges t0).To))).bind fun b4 => some (!b4) else none else none else none
noncomputable def rule_makable (t0 : api_Types) (t1 : api_Graph) (t2 : (List Int)) (t3 : (List Int)) : Option (Bool) :=
  (slices_ContainsFunc_int t2 (fun x => rule_makable_1 x t0 t1)).bind fun b1 => if (!b1) = true then (slices_ContainsFunc_int t3 (fun x => rule_makable_2 x t1 t0)).bind fun b4 => some (!b4) else some false
noncomputable def rule_others_j14 (x1 : (List Int) × Int) (v14 : (List Int)) : Option (((List Int) × Int) ⊕ (List Int)) :=
  some (.inl (v14, x1.2 + 1))
noncomputable def rule_others_l1 (t0 : (List Int)) (t1 : Int) (x1 : (List Int) × Int) : Option (((List Int) × Int) ⊕ (List Int)) :=
  if x1.2 < t1 then (slices_Contains_int t0 x1.2).bind fun b10 => if (!b10) = true then if (x1.1.length + 1) * 8 ≤ 140737488355328 then rule_others_j14 x1 (x1.1 ++ [x1.2]) else none else rule_others_j14 x1 x1.1 else some (.inr x1.1)
noncomputable def rule_others (t0 : (List Int)) (t1 : Int) : Option ((List Int)) :=
  Iter (rule_others_l1 t0 t1) ([], 0)
noncomputable def rule_created (t0 : api_Rule) : Option ((List Int) × (List Int)) :=
  (rule_others t0.Into.Nodes (t0.Right.Graph.Nodes.length : Int)).bind fun b1 => (rule_others t0.Into.Edges (t0.Right.Graph.Edges.length : Int)).bind fun b3 => some (b1, b3)
noncomputable def graph_within (t0 : Int) (t1 : Int) : Option (Bool) :=
  if 0 ≤ t0 then some (decide (t0 ≤ t1)) else some false
noncomputable def graph_Valid_1 (t0 : Int) : Option (Bool) :=
  (graph_within t0 99).bind fun b1 => some (!b1)
noncomputable def slices_IndexFunc_api_Edge_l1 (t0 : (List api_Edge)) (t1 : (api_Edge → Option Bool)) (x1 : Int) : Option (Int ⊕ Int) :=
  if x1 < (t0.length : Int) then if 0 ≤ x1 ∧ x1 < (t0.length : Int) then (t1 (nth t0 x1)).bind fun b10 => if b10 = true then some (.inr x1) else some (.inl (x1 + 1)) else none else some (.inr (-1))
noncomputable def slices_IndexFunc_api_Edge (t0 : (List api_Edge)) (t1 : (api_Edge → Option Bool)) : Option (Int) :=
  Iter (slices_IndexFunc_api_Edge_l1 t0 t1) 0
noncomputable def slices_ContainsFunc_api_Edge (t0 : (List api_Edge)) (t1 : (api_Edge → Option Bool)) : Option (Bool) :=
  (slices_IndexFunc_api_Edge t0 t1).bind fun b1 => some (decide (0 ≤ b1))
noncomputable def graph_fits (t0 : api_Edge) (t1 : Int) : Option (Bool) :=
  (graph_within t0.Type_ 99).bind fun b1 => if b1 = true then (some (w64 (t1 - 1))).bind fun b4 => (graph_within t0.From b4).bind fun b6 => if b6 = true then (some (w64 (t1 - 1))).bind fun b9 => (graph_within t0.To b9).bind fun b11 => some b11 else some false else some false
noncomputable def graph_Valid_2 (t0 : api_Edge) (t1 : api_Graph) : Option (Bool) :=
  (graph_fits t0 (t1.Nodes.length : Int)).bind fun b1 => some (!b1)
noncomputable def graph_Valid (t0 : api_Graph) : Option (Int) :=
  if 40 < (t0.Nodes.length : Int) then some 3 else if 80 < (t0.Edges.length : Int) then some 3 else (slices_ContainsFunc_int t0.Nodes graph_Valid_1).bind fun b3 => if b3 = true then some 6 else (slices_ContainsFunc_api_Edge t0.Edges (fun x => graph_Valid_2 x t0)).bind fun b6 => if b6 = true then some 6 else some 0
noncomputable def attribute_Valid_1 (t0 : Int) (t1 : api_Types) : Option (Bool) :=
  some (decide ((t1.Nodes.length : Int) ≤ t0))
noncomputable def attribute_Valid_2 (t0 : api_Edge) (t1 : api_Types) : Option (Bool) :=
  some (decide ((t1.Edges.length : Int) ≤ t0.Type_))
noncomputable def attribute_within (t0 : Int) (t1 : Int) (t2 : Int) : Option (Bool) :=
  if t1 ≤ t0 then some (decide (t0 ≤ t2)) else some false
noncomputable def difference_Valid_l4 (t1 : (List api_Test)) (x4 : Unit) : Option (Unit ⊕ Int) :=
  if 0 < (t1.length : Int) then if 0 ≤ (0 : Int) ∧ (0 : Int) < (t1.length : Int) then none else none else some (.inr 0)
noncomputable def difference_Valid (t0 : Int) (t1 : (List api_Test)) : Option (Int) :=
  if t0 < 0 then some 6 else if 12 < t0 then some 6 else if 40 < (t1.length : Int) then some 3 else Iter (difference_Valid_l4 t1) ()
noncomputable def slices_Index_bool_l1 (t0 : (List Bool)) (t1 : Bool) (x1 : Int) : Option (Int ⊕ Int) :=
  if x1 < (t0.length : Int) then if 0 ≤ x1 ∧ x1 < (t0.length : Int) then if (t1 == (nth t0 x1)) = true then some (.inr x1) else some (.inl (x1 + 1)) else none else some (.inr (-1))
noncomputable def slices_Index_bool (t0 : (List Bool)) (t1 : Bool) : Option (Int) :=
  Iter (slices_Index_bool_l1 t0 t1) 0
noncomputable def slices_Contains_bool (t0 : (List Bool)) (t1 : Bool) : Option (Bool) :=
  (slices_Index_bool t0 t1).bind fun b1 => some (decide (0 ≤ b1))
noncomputable def attribute_Valid_l19 (t1 : api_Pattern) (x19 : Unit) : Option (Unit ⊕ Int) :=
  if 0 < (t1.Slots.length : Int) then if 0 ≤ (0 : Int) ∧ (0 : Int) < (t1.Slots.length : Int) then none else none else ((difference_Valid t1.Vars t1.Tests).bind fun b23 => if ¬ (b23 = 0) then some b23 else (slices_Contains_bool (List.replicate t1.Vars.toNat false) false).bind fun b26 => if b26 = true then some 9 else some 0).map .inr
noncomputable def attribute_Valid (t0 : api_Types) (t1 : api_Pattern) : Option (Int) :=
  (types_Valid t0).bind fun b1 => if ¬ (b1.2 = 0) then some b1.2 else (graph_Valid t1.Graph).bind fun b4 => if ¬ (b4 = 0) then some b4 else (slices_ContainsFunc_int t1.Graph.Nodes (fun x => attribute_Valid_1 x t0)).bind fun b7 => if b7 = true then some 13 else (slices_ContainsFunc_api_Edge t1.Graph.Edges (fun x => attribute_Valid_2 x t0)).bind fun b10 => if b10 = true then some 13 else (attribute_within t1.Vars 0 12).bind fun b13 => if (!b13) = true then some 6 else if 10 < (t1.Slots.length : Int) then some 3 else if 10 < (t1.Tests.length : Int) then some 3 else if 0 ≤ t1.Vars ∧ t1.Vars * 1 ≤ 140737488355328 then Iter (attribute_Valid_l19 t1) () else none
noncomputable def rule_typed_1 (t0 : Int) (t1 : api_Types) : Option (Bool) :=
  some (decide ((t1.Nodes.length : Int) ≤ t0))
noncomputable def rule_typed_2 (t0 : api_Edge) (t1 : api_Types) : Option (Bool) :=
  some (decide ((t1.Edges.length : Int) ≤ t0.Type_))
noncomputable def rule_typed (t0 : api_Types) (t1 : api_Graph) : Option (Bool) :=
  (slices_ContainsFunc_int t1.Nodes (fun x => rule_typed_1 x t0)).bind fun b1 => if (!b1) = true then (slices_ContainsFunc_api_Edge t1.Edges (fun x => rule_typed_2 x t0)).bind fun b4 => some (!b4) else some false
noncomputable def rule_right_l10 (t1 : api_Rule) (x10 : Unit) : Option (Unit ⊕ Int) :=
  if 0 < (t1.Right.Slots.length : Int) then none else some (.inr 0)
noncomputable def rule_right (t0 : api_Types) (t1 : api_Rule) : Option (Int) :=
  (graph_Valid t1.Right.Graph).bind fun b1 => if ¬ (b1 = 0) then some b1 else (rule_typed t0 t1.Right.Graph).bind fun b4 => if (!b4) = true then some 13 else if ¬ (t1.Right.Vars = t1.Left.Vars) then some 1 else if 0 < (t1.Right.Tests.length : Int) then some 1 else if 10 < (t1.Right.Slots.length : Int) then some 3 else Iter (rule_right_l10 t1) ()
noncomputable def subgraph_list_j20 (x1 : Int) (v20 : Unit) : Option (Int ⊕ Int) :=
  some (.inl (x1 + 1))
noncomputable def subgraph_list_l1 (t0 : (List Int)) (t1 : Int) (x1 : Int) : Option (Int ⊕ Int) :=
  if x1 < (t0.length : Int) then if 0 ≤ x1 ∧ x1 < (t0.length : Int) then if (nth t0 x1) < 0 then some (.inr 6) else if t1 ≤ (nth t0 x1) then some (.inr 6) else if 0 < x1 then if 0 ≤ x1 - 1 ∧ x1 - 1 < (t0.length : Int) then if (nth t0 x1) ≤ (nth t0 (x1 - 1)) then some (.inr 12) else subgraph_list_j20 x1 () else none else subgraph_list_j20 x1 () else none else some (.inr 0)
noncomputable def subgraph_list (t0 : (List Int)) (t1 : Int) : Option (Int) :=
  Iter (subgraph_list_l1 t0 t1) 0
noncomputable def cmp_isNaN_int (t0 : Int) : Option (Bool) :=
  some (decide (¬ (t0 = t0)))
noncomputable def cmp_Less_int (t0 : Int) (t1 : Int) : Option (Bool) :=
  (cmp_isNaN_int t0).bind fun b1 => if b1 = true then (cmp_isNaN_int t1).bind fun b4 => if (!b4) = true then some true else some (decide (t0 < t1)) else some (decide (t0 < t1))
noncomputable def slices_isNaN_int (t0 : Int) : Option (Bool) :=
  some (decide (¬ (t0 = t0)))
noncomputable def slices_BinarySearch_int_j35  (v35 : Int × Int) : Option ((Int × Int) ⊕ (Int × Bool)) :=
  some (.inl (v35.1, v35.2))
noncomputable def slices_BinarySearch_int_l1 (t0 : (List Int)) (t1 : Int) (x1 : Int × Int) : Option ((Int × Int) ⊕ (Int × Bool)) :=
  if x1.1 < x1.2 then (some (w64 (x1.1 + x1.2))).bind fun b21 => (some (IntKind.wrap .u64 b21)).bind fun b23 => (some ((b23).fdiv (2 ^ (min (1 : Int).toNat (IntKind.bits .u64))))).bind fun b25 => (some (IntKind.wrap .i64 b25)).bind fun b27 => if 0 ≤ b27 ∧ b27 < (t0.length : Int) then (cmp_Less_int (nth t0 b27) t1).bind fun b30 => if b30 = true then (some (w64 (b27 + 1))).bind fun b33 => slices_BinarySearch_int_j35 (b33, x1.2) else slices_BinarySearch_int_j35 (x1.1, b27) else none else (if x1.1 < (t0.length : Int) then if 0 ≤ x1.1 ∧ x1.1 < (t0.length : Int) then if (nth t0 x1.1) = t1 then some (x1.1, true) else (slices_isNaN_int (nth t0 x1.1)).bind fun b40 => if b40 = true then (slices_isNaN_int t1).bind fun b43 => some (x1.1, b43) else some (x1.1, false) else none else some (x1.1, false)).map .inr
noncomputable def slices_BinarySearch_int (t0 : (List Int)) (t1 : Int) : Option (Int × Bool) :=
  Iter (slices_BinarySearch_int_l1 t0 t1) (0, (t0.length : Int))
noncomputable def subgraph_has (t0 : (List Int)) (t1 : Int) : Option (Bool) :=
  (slices_BinarySearch_int t0 t1).bind fun b1 => some b1.2
noncomputable def subgraph_part_l7 (t0 : api_Graph) (t1 : api_Part) (x7 : Int) : Option (Int ⊕ Int) :=
  if x7 < (t1.Edges.length : Int) then if 0 ≤ x7 ∧ x7 < (t1.Edges.length : Int) then if 0 ≤ (nth t1.Edges x7) ∧ (nth t1.Edges x7) < (t0.Edges.length : Int) then (subgraph_has t1.Nodes ((nth t0.Edges (nth t1.Edges x7)).From)).bind fun b21 => if (!b21) = true then some (.inr 14) else (subgraph_has t1.Nodes ((nth t0.Edges (nth t1.Edges x7)).To)).bind fun b24 => if (!b24) = true then some (.inr 14) else some (.inl (x7 + 1)) else none else none else some (.inr 0)
noncomputable def subgraph_part (t0 : api_Graph) (t1 : api_Part) : Option (Int) :=
  (subgraph_list t1.Nodes (t0.Nodes.length : Int)).bind fun b1 => if ¬ (b1 = 0) then some b1 else (subgraph_list t1.Edges (t0.Edges.length : Int)).bind fun b4 => if ¬ (b4 = 0) then some b4 else Iter (subgraph_part_l7 t0 t1) 0
noncomputable def subgraph_Valid (t0 : api_Graph) (t1 : api_Part) : Option (Int) :=
  (graph_Valid t0).bind fun b1 => if ¬ (b1 = 0) then some b1 else (subgraph_part t0 t1).bind fun b4 => some b4
noncomputable def subgraph_Extract_l15 (t0 : api_Graph) (t1 : api_Part) (x4 : (List Int) × Int) (x15 : (List api_Edge) × Int) : Option (((List api_Edge) × Int) ⊕ (api_Graph × api_Morphism × Int)) :=
  if x15.2 < (t1.Edges.length : Int) then if 0 ≤ x15.2 ∧ x15.2 < (t1.Edges.length : Int) then if 0 ≤ (nth t1.Edges x15.2) ∧ (nth t1.Edges x15.2) < (t0.Edges.length : Int) then (slices_BinarySearch_int t1.Nodes ((nth t0.Edges (nth t1.Edges x15.2)).From)).bind fun b27 => (slices_BinarySearch_int t1.Nodes ((nth t0.Edges (nth t1.Edges x15.2)).To)).bind fun b29 => if (x15.1.length + 1) * 24 ≤ 140737488355328 then some (.inl ((x15.1 ++ [(api_Edge.mk ((nth t0.Edges (nth t1.Edges x15.2)).Type_) b27.1 b29.1)]), x15.2 + 1)) else none else none else none else ((slices_Clone_int t1.Nodes).bind fun b34 => (slices_Clone_int t1.Edges).bind fun b36 => some ((api_Graph.mk x4.1 x15.1), (api_Morphism.mk b34 b36), 0)).map .inr
noncomputable def subgraph_Extract_l4 (t0 : api_Graph) (t1 : api_Part) (x4 : (List Int) × Int) : Option (((List Int) × Int) ⊕ (api_Graph × api_Morphism × Int)) :=
  if x4.2 < (t1.Nodes.length : Int) then if 0 ≤ x4.2 ∧ x4.2 < (t1.Nodes.length : Int) then if 0 ≤ (nth t1.Nodes x4.2) ∧ (nth t1.Nodes x4.2) < (t0.Nodes.length : Int) then if (x4.1.length + 1) * 8 ≤ 140737488355328 then some (.inl ((x4.1 ++ [(nth t0.Nodes (nth t1.Nodes x4.2))]), x4.2 + 1)) else none else none else none else (Iter (subgraph_Extract_l15 t0 t1 x4) ([], 0)).map .inr
noncomputable def subgraph_Extract (t0 : api_Graph) (t1 : api_Part) : Option (api_Graph × api_Morphism × Int) :=
  (subgraph_Valid t0 t1).bind fun b1 => if ¬ (b1 = 0) then some ((api_Graph.mk [] []), (api_Morphism.mk [] []), b1) else Iter (subgraph_Extract_l4 t0 t1) ([], 0)
noncomputable def morphism_Valid_l27 (t0 : api_Graph) (t1 : api_Graph) (t2 : api_Morphism) (x27 : Int) : Option (Int ⊕ Int) :=
  if x27 < (t2.Edges.length : Int) then if 0 ≤ x27 ∧ x27 < (t2.Edges.length : Int) then if (nth t2.Edges x27) < 0 then some (.inr 6) else if (t1.Edges.length : Int) ≤ (nth t2.Edges x27) then some (.inr 6) else if 0 ≤ x27 ∧ x27 < (t0.Edges.length : Int) then if 0 ≤ (nth t2.Edges x27) ∧ (nth t2.Edges x27) < (t1.Edges.length : Int) then if ¬ ((nth t0.Edges x27).Type_ = (nth t1.Edges (nth t2.Edges x27)).Type_) then some (.inr 13) else if 0 ≤ (nth t0.Edges x27).From ∧ (nth t0.Edges x27).From < (t2.Nodes.length : Int) then if ¬ ((nth t2.Nodes ((nth t0.Edges x27).From)) = (nth t1.Edges (nth t2.Edges x27)).From) then some (.inr 11) else if 0 ≤ (nth t0.Edges x27).To ∧ (nth t0.Edges x27).To < (t2.Nodes.length : Int) then if ¬ ((nth t2.Nodes ((nth t0.Edges x27).To)) = (nth t1.Edges (nth t2.Edges x27)).To) then some (.inr 11) else some (.inl (x27 + 1)) else none else none else none else none else none else some (.inr 0)
noncomputable def morphism_Valid_l9 (t0 : api_Graph) (t1 : api_Graph) (t2 : api_Morphism) (x9 : Int) : Option (Int ⊕ Int) :=
  if x9 < (t2.Nodes.length : Int) then if 0 ≤ x9 ∧ x9 < (t2.Nodes.length : Int) then if (nth t2.Nodes x9) < 0 then some (.inr 6) else if (t1.Nodes.length : Int) ≤ (nth t2.Nodes x9) then some (.inr 6) else if 0 ≤ (nth t2.Nodes x9) ∧ (nth t2.Nodes x9) < (t1.Nodes.length : Int) then if 0 ≤ x9 ∧ x9 < (t0.Nodes.length : Int) then if ¬ ((nth t1.Nodes (nth t2.Nodes x9)) = (nth t0.Nodes x9)) then some (.inr 13) else some (.inl (x9 + 1)) else none else none else none else (Iter (morphism_Valid_l27 t0 t1 t2) 0).map .inr
noncomputable def morphism_Valid (t0 : api_Graph) (t1 : api_Graph) (t2 : api_Morphism) : Option (Int) :=
  (graph_Valid t0).bind fun b1 => if ¬ (b1 = 0) then some b1 else (graph_Valid t1).bind fun b4 => if ¬ (b4 = 0) then some b4 else if ¬ ((t2.Nodes.length : Int) = (t0.Nodes.length : Int)) then some 20 else if ¬ ((t2.Edges.length : Int) = (t0.Edges.length : Int)) then some 20 else Iter (morphism_Valid_l9 t0 t1 t2) 0
noncomputable def slices_insertionSortOrdered_int_j71 (x3 : (List Int) × Int) (x41 : (List Int) × Int) (v71 : Unit) : Option (((List Int) × Int) ⊕ (((List Int) × Int) ⊕ (List Int))) :=
  some (.inr (.inl (x41.1, x3.2 + 1)))
noncomputable def slices_insertionSortOrdered_int_l41 (t1 : Int) (x3 : (List Int) × Int) (x41 : (List Int) × Int) : Option (((List Int) × Int) ⊕ (((List Int) × Int) ⊕ (List Int))) :=
  if t1 < x41.2 then if 0 ≤ x41.2 ∧ x41.2 < (x41.1.length : Int) then if 0 ≤ x41.2 - 1 ∧ x41.2 - 1 < (x41.1.length : Int) then (cmp_Less_int (nth x41.1 x41.2) (nth x41.1 (x41.2 - 1))).bind fun b63 => if b63 = true then if 0 ≤ x41.2 - 1 ∧ x41.2 - 1 < ((x41.1.set x41.2.toNat (nth x41.1 (x41.2 - 1))).length : Int) then some (.inl (((x41.1.set x41.2.toNat (nth x41.1 (x41.2 - 1))).set (x41.2 - 1).toNat (nth x41.1 x41.2)), x41.2 - 1)) else none else slices_insertionSortOrdered_int_j71 x3 x41 () else none else none else slices_insertionSortOrdered_int_j71 x3 x41 ()
noncomputable def slices_insertionSortOrdered_int_l3 (t1 : Int) (t2 : Int) (x3 : (List Int) × Int) : Option (((List Int) × Int) ⊕ (List Int)) :=
  if x3.2 < t2 then Iter (slices_insertionSortOrdered_int_l41 t1 x3) (x3.1, x3.2) else some (.inr x3.1)
noncomputable def slices_insertionSortOrdered_int (t0 : (List Int)) (t1 : Int) (t2 : Int) : Option ((List Int)) :=
  (some (w64 (t1 + 1))).bind fun b1 => Iter (slices_insertionSortOrdered_int_l3 t1 t2) (t0, b1)
noncomputable def slices_pdqsortOrdered_int_l1 (t0 : (List Int)) (t1 : Int) (t2 : Int) (t3 : Int) (x1 : Unit) : Option (Unit ⊕ (List Int)) :=
  (some (w64 (t2 - t1))).bind fun b3 => if b3 ≤ 12 then (slices_insertionSortOrdered_int t0 t1 t2).bind fun b6 => some (.inr b6) else if t3 = 0 then none else none
noncomputable def slices_pdqsortOrdered_int_b (q_slices_pdqsortOrdered_int : (List Int) → Int → Int → Int → Option (List Int)) (t0 : (List Int)) (t1 : Int) (t2 : Int) (t3 : Int) : Option ((List Int)) :=
  Iter (slices_pdqsortOrdered_int_l1 t0 t1 t2 t3) ()
noncomputable def slices_pdqsortOrdered_int_n : Nat → ((List Int) → Int → Int → Int → Option (List Int))
  | 0 => (fun _ _ _ _ => none)
  | n + 1 => (fun t0 t1 t2 t3 => slices_pdqsortOrdered_int_b (slices_pdqsortOrdered_int_n n) t0 t1 t2 t3)
noncomputable def slices_pdqsortOrdered_int (t0 : (List Int)) (t1 : Int) (t2 : Int) (t3 : Int) : Option ((List Int)) := Ev fun n => (slices_pdqsortOrdered_int_n n) t0 t1 t2 t3
noncomputable def bits_Len64_j75  (v75 : Int × Int) : Option Int :=
  (some (IntKind.wrap .u8 v75.1)).bind fun b76 => if 0 ≤ b76 ∧ b76 < ((ByteArray.mk #[0, 1, 2, 2, 3, 3, 3, 3, 4, 4, 4, 4, 4, 4, 4, 4, 5, 5, 5, 5, 5, 5, 5, 5, 5, 5, 5, 5, 5, 5, 5, 5, 6, 6, 6, 6, 6, 6, 6, 6, 6, 6, 6, 6, 6, 6, 6, 6, 6, 6, 6, 6, 6, 6, 6, 6, 6, 6, 6, 6, 6, 6, 6, 6, 7, 7, 7, 7, 7, 7, 7, 7, 7, 7, 7, 7, 7, 7, 7, 7, 7, 7, 7, 7, 7, 7, 7, 7, 7, 7, 7, 7, 7, 7, 7, 7, 7, 7, 7, 7, 7, 7, 7, 7, 7, 7, 7, 7, 7, 7, 7, 7, 7, 7, 7, 7, 7, 7, 7, 7, 7, 7, 7, 7, 7, 7, 7, 7, 8, 8, 8, 8, 8, 8, 8, 8, 8, 8, 8, 8, 8, 8, 8, 8, 8, 8, 8, 8, 8, 8, 8, 8, 8, 8, 8, 8, 8, 8, 8, 8, 8, 8, 8, 8, 8, 8, 8, 8, 8, 8, 8, 8, 8, 8, 8, 8, 8, 8, 8, 8, 8, 8, 8, 8, 8, 8, 8, 8, 8, 8, 8, 8, 8, 8, 8, 8, 8, 8, 8, 8, 8, 8, 8, 8, 8, 8, 8, 8, 8, 8, 8, 8, 8, 8, 8, 8, 8, 8, 8, 8, 8, 8, 8, 8, 8, 8, 8, 8, 8, 8, 8, 8, 8, 8, 8, 8, 8, 8, 8, 8, 8, 8, 8, 8, 8, 8, 8, 8, 8, 8, 8, 8, 8, 8, 8, 8]).size : Int) then (some (w64 (v75.2 + (byteAt (ByteArray.mk #[0, 1, 2, 2, 3, 3, 3, 3, 4, 4, 4, 4, 4, 4, 4, 4, 5, 5, 5, 5, 5, 5, 5, 5, 5, 5, 5, 5, 5, 5, 5, 5, 6, 6, 6, 6, 6, 6, 6, 6, 6, 6, 6, 6, 6, 6, 6, 6, 6, 6, 6, 6, 6, 6, 6, 6, 6, 6, 6, 6, 6, 6, 6, 6, 7, 7, 7, 7, 7, 7, 7, 7, 7, 7, 7, 7, 7, 7, 7, 7, 7, 7, 7, 7, 7, 7, 7, 7, 7, 7, 7, 7, 7, 7, 7, 7, 7, 7, 7, 7, 7, 7, 7, 7, 7, 7, 7, 7, 7, 7, 7, 7, 7, 7, 7, 7, 7, 7, 7, 7, 7, 7, 7, 7, 7, 7, 7, 7, 8, 8, 8, 8, 8, 8, 8, 8, 8, 8, 8, 8, 8, 8, 8, 8, 8, 8, 8, 8, 8, 8, 8, 8, 8, 8, 8, 8, 8, 8, 8, 8, 8, 8, 8, 8, 8, 8, 8, 8, 8, 8, 8, 8, 8, 8, 8, 8, 8, 8, 8, 8, 8, 8, 8, 8, 8, 8, 8, 8, 8, 8, 8, 8, 8, 8, 8, 8, 8, 8, 8, 8, 8, 8, 8, 8, 8, 8, 8, 8, 8, 8, 8, 8, 8, 8, 8, 8, 8, 8, 8, 8, 8, 8, 8, 8, 8, 8, 8, 8, 8, 8, 8, 8, 8, 8, 8, 8, 8, 8, 8, 8, 8, 8, 8, 8, 8, 8, 8, 8, 8, 8, 8, 8, 8, 8, 8, 8]) b76)))).bind fun b79 => some b79 else none
noncomputable def bits_Len64_j64  (v64 : Int × Int) : Option Int :=
  if 256 ≤ v64.1 then (some ((v64.1).fdiv (2 ^ (min (8 : Int).toNat (IntKind.bits .u64))))).bind fun b66 => (some (w64 (v64.2 + 8))).bind fun b68 => bits_Len64_j75 (b66, b68) else bits_Len64_j75 (v64.1, v64.2)
noncomputable def bits_Len64_j41  (v41 : Int × Int) : Option Int :=
  if 65536 ≤ v41.1 then (some ((v41.1).fdiv (2 ^ (min (16 : Int).toNat (IntKind.bits .u64))))).bind fun b43 => (some (w64 (v41.2 + 16))).bind fun b45 => bits_Len64_j64 (b43, b45) else bits_Len64_j64 (v41.1, v41.2)
noncomputable def bits_Len64 (t0 : Int) : Option (Int) :=
  if 4294967296 ≤ t0 then (some ((t0).fdiv (2 ^ (min (32 : Int).toNat (IntKind.bits .u64))))).bind fun b2 => bits_Len64_j41 (b2, 32) else bits_Len64_j41 (t0, 0)
noncomputable def bits_Len (t0 : Int) : Option (Int) :=
  (bits_Len64 t0).bind fun b1 => some b1
noncomputable def slices_Sort_int (t0 : (List Int)) : Option ((List Int)) :=
  (some (IntKind.wrap .u64 (t0.length : Int))).bind fun b1 => (bits_Len b1).bind fun b3 => (slices_pdqsortOrdered_int t0 0 (t0.length : Int) b3).bind fun b5 => some b5
noncomputable def slices_Compact_int_l30 (t0 : (List Int)) (x2 : Int) (x30 : Int) : Option (Int ⊕ (Int ⊕ (List Int))) :=
  if x30 < ((cut t0 x2 (t0.length : Int)).length : Int) then if 0 ≤ x30 ∧ x30 < ((cut t0 x2 (t0.length : Int)).length : Int) then (some (w64 (x30 - 1))).bind fun b38 => if 0 ≤ b38 ∧ b38 < ((cut t0 x2 (t0.length : Int)).length : Int) then if ¬ ((nth (cut t0 x2 (t0.length : Int)) x30) = (nth (cut t0 x2 (t0.length : Int)) b38)) then none else some (.inl (x30 + 1)) else none else none else none
noncomputable def slices_Compact_int_l2 (t0 : (List Int)) (x2 : Int) : Option (Int ⊕ (List Int)) :=
  if x2 < (t0.length : Int) then if 0 ≤ x2 ∧ x2 < (t0.length : Int) then (some (w64 (x2 - 1))).bind fun b25 => if 0 ≤ b25 ∧ b25 < (t0.length : Int) then if (nth t0 x2) = (nth t0 b25) then if 0 ≤ x2 ∧ x2 ≤ (t0.length : Int) ∧ (t0.length : Int) ≤ (t0.length : Int) then Iter (slices_Compact_int_l30 t0 x2) 1 else none else some (.inl (x2 + 1)) else none else none else some (.inr t0)
noncomputable def slices_Compact_int (t0 : (List Int)) : Option ((List Int)) :=
  if (t0.length : Int) < 2 then some t0 else Iter (slices_Compact_int_l2 t0) 1
noncomputable def morphism_images (t0 : (List Int)) : Option (Int) :=
  (slices_Clone_int t0).bind fun b1 => (slices_Sort_int b1).bind fun b3 => (slices_Compact_int b3).bind fun b7 => some (b7.length : Int)
noncomputable def morphism_Injective (t0 : api_Graph) (t1 : api_Graph) (t2 : api_Morphism) : Option (Bool) :=
  (morphism_Valid t0 t1 t2).bind fun b1 => if b1 = 0 then (morphism_images t2.Nodes).bind fun b4 => if b4 = (t2.Nodes.length : Int) then (morphism_images t2.Edges).bind fun b7 => some (decide (b7 = (t2.Edges.length : Int))) else some false else some false
noncomputable def rule_kept (t0 : api_Rule) : Option (Int) :=
  (subgraph_Extract t0.Left.Graph t0.Keep).bind fun b1 => if ¬ (b1.2.2 = 0) then some b1.2.2 else (morphism_Valid b1.1 t0.Right.Graph t0.Into).bind fun b4 => if ¬ (b4 = 0) then some b4 else (morphism_Injective b1.1 t0.Right.Graph t0.Into).bind fun b7 => if (!b7) = true then some 11 else some 0
noncomputable def condition_bare (t0 : api_Condition) : Option (Bool) :=
  (some (w64 ((t0.Map.Nodes.length : Int) + (t0.Map.Edges.length : Int)))).bind fun b1 => (some (w64 (b1 + (t0.Pattern.Graph.Nodes.length : Int)))).bind fun b3 => (some (w64 (b3 + (t0.Pattern.Graph.Edges.length : Int)))).bind fun b5 => (some (w64 (b5 + (t0.Pattern.Slots.length : Int)))).bind fun b7 => (some (w64 (b7 + (t0.Pattern.Tests.length : Int)))).bind fun b9 => if b9 = 0 then some (decide (t0.Pattern.Vars = 0)) else some false
noncomputable def slices_IndexFunc_api_Condition_l1 (t0 : (List api_Condition)) (t1 : (api_Condition → Option Bool)) (x1 : Int) : Option (Int ⊕ Int) :=
  if x1 < (t0.length : Int) then if 0 ≤ x1 ∧ x1 < (t0.length : Int) then (t1 (nth t0 x1)).bind fun b10 => if b10 = true then some (.inr x1) else some (.inl (x1 + 1)) else none else some (.inr (-1))
noncomputable def slices_IndexFunc_api_Condition (t0 : (List api_Condition)) (t1 : (api_Condition → Option Bool)) : Option (Int) :=
  Iter (slices_IndexFunc_api_Condition_l1 t0 t1) 0
noncomputable def slices_ContainsFunc_api_Condition (t0 : (List api_Condition)) (t1 : (api_Condition → Option Bool)) : Option (Bool) :=
  (slices_IndexFunc_api_Condition t0 t1).bind fun b1 => some (decide (0 ≤ b1))
noncomputable def condition_wellFormed_j34 (q_condition_wellFormed_1 : api_Condition → Option Bool) (t0 : api_Condition) (v34 : Bool) : Option Bool :=
  if v34 = true then (slices_ContainsFunc_api_Condition t0.Kids q_condition_wellFormed_1).bind fun b37 => some (!b37) else some false
noncomputable def condition_wellFormed_j5 (q_condition_wellFormed_1 : api_Condition → Option Bool) (t0 : api_Condition) (v5 : Bool) : Option Bool :=
  condition_wellFormed_j34 q_condition_wellFormed_1 t0 v5
noncomputable def condition_wellFormed_j32 (q_condition_wellFormed_1 : api_Condition → Option Bool) (t0 : api_Condition) (v32 : Bool) : Option Bool :=
  condition_wellFormed_j34 q_condition_wellFormed_1 t0 v32
noncomputable def condition_wellFormed_j11 (q_condition_wellFormed_1 : api_Condition → Option Bool) (t0 : api_Condition) (v11 : Bool) : Option Bool :=
  condition_wellFormed_j32 q_condition_wellFormed_1 t0 v11
noncomputable def condition_wellFormed_j29 (q_condition_wellFormed_1 : api_Condition → Option Bool) (t0 : api_Condition) (v29 : Bool) : Option Bool :=
  condition_wellFormed_j32 q_condition_wellFormed_1 t0 v29
noncomputable def condition_wellFormed_j24 (q_condition_wellFormed_1 : api_Condition → Option Bool) (t0 : api_Condition) (v24 : Bool) : Option Bool :=
  condition_wellFormed_j29 q_condition_wellFormed_1 t0 v24
noncomputable def condition_wellFormed_j27 (q_condition_wellFormed_1 : api_Condition → Option Bool) (t0 : api_Condition) (v27 : Bool) : Option Bool :=
  condition_wellFormed_j29 q_condition_wellFormed_1 t0 v27
noncomputable def condition_wellFormed_j19 (q_condition_wellFormed_1 : api_Condition → Option Bool) (t0 : api_Condition) (v19 : Bool) : Option Bool :=
  if v19 = true then if 1 ≤ (t0.Kids.length : Int) then (condition_bare t0).bind fun b22 => condition_wellFormed_j24 q_condition_wellFormed_1 t0 b22 else condition_wellFormed_j24 q_condition_wellFormed_1 t0 false else if t0.Kind = 5 then condition_wellFormed_j27 q_condition_wellFormed_1 t0 (decide ((t0.Kids.length : Int) = 1)) else condition_wellFormed_j27 q_condition_wellFormed_1 t0 false
noncomputable def condition_wellFormed_b (q_condition_wellFormed : api_Condition → Option Bool) (q_condition_wellFormed_1 : api_Condition → Option Bool) (t0 : api_Condition) : Option (Bool) :=
  if t0.Kind = 1 then if (t0.Kids.length : Int) = 0 then (condition_bare t0).bind fun b3 => condition_wellFormed_j5 q_condition_wellFormed_1 t0 b3 else condition_wellFormed_j5 q_condition_wellFormed_1 t0 false else if t0.Kind = 2 then if (t0.Kids.length : Int) = 1 then (condition_bare t0).bind fun b9 => condition_wellFormed_j11 q_condition_wellFormed_1 t0 b9 else condition_wellFormed_j11 q_condition_wellFormed_1 t0 false else if t0.Kind = 3 then condition_wellFormed_j19 q_condition_wellFormed_1 t0 (decide (t0.Kind = 3)) else condition_wellFormed_j19 q_condition_wellFormed_1 t0 (decide (t0.Kind = 4))
noncomputable def condition_wellFormed_1_b (q_condition_wellFormed : api_Condition → Option Bool) (q_condition_wellFormed_1 : api_Condition → Option Bool) (t0 : api_Condition) : Option (Bool) :=
  (q_condition_wellFormed t0).bind fun b1 => some (!b1)
noncomputable def condition_wellFormed_n : Nat → (api_Condition → Option Bool) × (api_Condition → Option Bool)
  | 0 => ((fun _ => none), (fun _ => none))
  | n + 1 => ((fun t0 => condition_wellFormed_b (condition_wellFormed_n n).1 (condition_wellFormed_n n).2 t0), (fun t0 => condition_wellFormed_1_b (condition_wellFormed_n n).1 (condition_wellFormed_n n).2 t0))
noncomputable def condition_wellFormed (t0 : api_Condition) : Option (Bool) := Ev fun n => (condition_wellFormed_n n).1 t0
noncomputable def condition_wellFormed_1 (t0 : api_Condition) : Option (Bool) := Ev fun n => (condition_wellFormed_n n).2 t0
noncomputable def condition_measure_j20 (x1 : Int × Int × Int) (v20 : Int) : Option (Int × Int) :=
  some (x1.1, v20)
noncomputable def condition_measure_l1 (q_condition_measure : api_Condition → Option (Int × Int)) (t0 : api_Condition) (x1 : Int × Int × Int) : Option ((Int × Int × Int) ⊕ (Int × Int)) :=
  if x1.2.2 < (t0.Kids.length : Int) then if 0 ≤ x1.2.2 ∧ x1.2.2 < (t0.Kids.length : Int) then (q_condition_measure (nth t0.Kids x1.2.2)).bind fun b11 => (some (w64 (x1.1 + b11.1))).bind fun b13 => some (.inl (b13, (if x1.2.1 < b11.2 then b11.2 else x1.2.1), x1.2.2 + 1)) else none else (if t0.Kind = 5 then (some (w64 (x1.2.1 + 1))).bind fun b18 => condition_measure_j20 x1 b18 else condition_measure_j20 x1 x1.2.1).map .inr
noncomputable def condition_measure_b (q_condition_measure : api_Condition → Option (Int × Int)) (t0 : api_Condition) : Option (Int × Int) :=
  Iter (condition_measure_l1 q_condition_measure t0) (1, 0, 0)
noncomputable def condition_measure_n : Nat → (api_Condition → Option (Int × Int))
  | 0 => (fun _ => none)
  | n + 1 => (fun t0 => condition_measure_b (condition_measure_n n) t0)
noncomputable def condition_measure (t0 : api_Condition) : Option (Int × Int) := Ev fun n => (condition_measure_n n) t0
noncomputable def condition_shape (t0 : api_Condition) : Option (Int) :=
  (condition_wellFormed t0).bind fun b1 => if (!b1) = true then some 1 else (condition_measure t0).bind fun b4 => if 12 < b4.1 then some 3 else if 3 < b4.2 then some 3 else some 0
noncomputable def condition_inside_l3 (q_condition_inside : api_Types → api_Pattern → api_Condition → Option Int) (t0 : api_Types) (t1 : api_Pattern) (t2 : api_Condition) (x3 : Int) : Option (Int ⊕ Int) :=
  if x3 < (t2.Kids.length : Int) then if 0 ≤ x3 ∧ x3 < (t2.Kids.length : Int) then (q_condition_inside t0 t1 (nth t2.Kids x3)).bind fun b12 => if ¬ (b12 = 0) then some (.inr b12) else some (.inl (x3 + 1)) else none else some (.inr 0)
noncomputable def condition_inside_b (q_condition_inside : api_Types → api_Pattern → api_Condition → Option Int) (t0 : api_Types) (t1 : api_Pattern) (t2 : api_Condition) : Option (Int) :=
  if t2.Kind = 5 then if t2.Pattern.Vars < t1.Vars then some 20 else none else Iter (condition_inside_l3 q_condition_inside t0 t1 t2) 0
noncomputable def condition_inside_n : Nat → (api_Types → api_Pattern → api_Condition → Option Int)
  | 0 => (fun _ _ _ => none)
  | n + 1 => (fun t0 t1 t2 => condition_inside_b (condition_inside_n n) t0 t1 t2)
noncomputable def condition_inside (t0 : api_Types) (t1 : api_Pattern) (t2 : api_Condition) : Option (Int) := Ev fun n => (condition_inside_n n) t0 t1 t2
noncomputable def condition_Valid (t0 : api_Types) (t1 : api_Pattern) (t2 : api_Condition) : Option (Int) :=
  (attribute_Valid t0 t1).bind fun b1 => if ¬ (b1 = 0) then some b1 else (condition_shape t2).bind fun b4 => if ¬ (b4 = 0) then some b4 else (condition_inside t0 t1 t2).bind fun b7 => some b7
noncomputable def rule_Valid (t0 : api_Types) (t1 : api_Rule) : Option (Int) :=
  (types_Valid t0).bind fun b1 => if ¬ (b1.2 = 0) then some b1.2 else (token_IsName t1.Name).bind fun b4 => if (!b4) = true then some 2 else (attribute_Valid t0 t1.Left).bind fun b7 => if ¬ (b7 = 0) then some b7 else (rule_right t0 t1).bind fun b10 => if ¬ (b10 = 0) then some b10 else (rule_kept t1).bind fun b13 => if ¬ (b13 = 0) then some b13 else (rule_created t1).bind fun b16 => (rule_makable t0 t1.Right.Graph b16.1 b16.2).bind fun b18 => if (!b18) = true then some 13 else (condition_Valid t0 t1.Left t1.Condition).bind fun b21 => some b21
noncomputable def rule_simple (t0 : api_Rule) : Option (Bool) :=
  if t0.Left.Vars = 0 then (some (w64 ((t0.Left.Slots.length : Int) + (t0.Left.Tests.length : Int)))).bind fun b2 => (some (w64 (b2 + (t0.Right.Slots.length : Int)))).bind fun b4 => if b4 = 0 then some (decide (t0.Condition.Kind = 1)) else some false else some false
noncomputable def rule_given (t0 : api_Types) (t1 : api_Rule) : Option (Int) :=
  (rule_Valid t0 t1).bind fun b1 => if ¬ (b1 = 0) then some b1 else (rule_simple t1).bind fun b4 => if (!b4) = true then some 8 else some 0
noncomputable def rule_deleted (t0 : api_Rule) : Option ((List Int) × (List Int)) :=
  (rule_others t0.Keep.Nodes (t0.Left.Graph.Nodes.length : Int)).bind fun b1 => (rule_others t0.Keep.Edges (t0.Left.Graph.Edges.length : Int)).bind fun b3 => some (b1, b3)
noncomputable def rule_turned_l5 (b3 : (List Int)) (t0 : (List Int)) (t1 : (List Int)) (x5 : (List Int) × Int) : Option (((List Int) × Int) ⊕ ((List Int) × (List Int))) :=
  if x5.2 < (b3.length : Int) then if 0 ≤ x5.2 ∧ x5.2 < (b3.length : Int) then (slices_Index_int t1 (nth b3 x5.2)).bind fun b14 => if 0 ≤ b14 ∧ b14 < (t0.length : Int) then if (x5.1.length + 1) * 8 ≤ 140737488355328 then some (.inl ((x5.1 ++ [(nth t0 b14)]), x5.2 + 1)) else none else none else none else some (.inr (b3, x5.1))
noncomputable def rule_turned (t0 : (List Int)) (t1 : (List Int)) : Option ((List Int) × (List Int)) :=
  (slices_Clone_int t1).bind fun b1 => (slices_Sort_int b1).bind fun b3 => Iter (rule_turned_l5 b3 t0 t1) ([], 0)
noncomputable def rule_Inverse (t0 : api_Types) (t1 : api_Rule) : Option (api_Rule × Int) :=
  (rule_given t0 t1).bind fun b1 => if ¬ (b1 = 0) then some ((api_Rule.mk (ByteArray.mk #[]) (api_Pattern.mk (api_Graph.mk [] []) [] 0 []) (api_Pattern.mk (api_Graph.mk [] []) [] 0 []) (api_Part.mk [] []) (api_Morphism.mk [] []) false (api_Condition.mk 0 [] (api_Morphism.mk [] []) (api_Pattern.mk (api_Graph.mk [] []) [] 0 []))), b1) else (rule_deleted t1).bind fun b4 => (rule_makable t0 t1.Left.Graph b4.1 b4.2).bind fun b6 => if (!b6) = true then some ((api_Rule.mk (ByteArray.mk #[]) (api_Pattern.mk (api_Graph.mk [] []) [] 0 []) (api_Pattern.mk (api_Graph.mk [] []) [] 0 []) (api_Part.mk [] []) (api_Morphism.mk [] []) false (api_Condition.mk 0 [] (api_Morphism.mk [] []) (api_Pattern.mk (api_Graph.mk [] []) [] 0 []))), 13) else (rule_plain t1).bind fun b9 => (rule_turned t1.Keep.Nodes t1.Into.Nodes).bind fun b11 => (rule_turned t1.Keep.Edges t1.Into.Edges).bind fun b13 => some ((api_Rule.mk b9.Name b9.Right b9.Left (api_Part.mk b11.1 b13.1) (api_Morphism.mk b11.2 b13.2) b9.Injective b9.Condition), 0)
noncomputable def rule_Deleted (t0 : api_Types) (t1 : api_Rule) : Option ((List Int) × (List Int) × Int) :=
  (rule_Valid t0 t1).bind fun b1 => if ¬ (b1 = 0) then some ([], [], b1) else (rule_deleted t1).bind fun b4 => some (b4.1, b4.2, 0)
noncomputable def rule_Created (t0 : api_Types) (t1 : api_Rule) : Option ((List Int) × (List Int) × Int) :=
  (rule_Valid t0 t1).bind fun b1 => if ¬ (b1 = 0) then some ([], [], b1) else (rule_created t1).bind fun b4 => some (b4.1, b4.2, 0)
noncomputable def slices_Equal_int_l2 (t0 : (List Int)) (t1 : (List Int)) (x2 : Int) : Option (Int ⊕ Bool) :=
  if x2 < (t0.length : Int) then if 0 ≤ x2 ∧ x2 < (t0.length : Int) then if 0 ≤ x2 ∧ x2 < (t1.length : Int) then if ¬ ((nth t0 x2) = (nth t1 x2)) then some (.inr false) else some (.inl (x2 + 1)) else none else none else some (.inr true)
noncomputable def slices_Equal_int (t0 : (List Int)) (t1 : (List Int)) : Option (Bool) :=
  if ¬ ((t0.length : Int) = (t1.length : Int)) then some false else Iter (slices_Equal_int_l2 t0 t1) 0
noncomputable def ref04_Example  : Option (api_Types) :=
  some (api_Types.mk [(api_NodeType.mk (ByteArray.mk #[65, 99, 99, 111, 117, 110, 116]) (-1) true [(api_Attr.mk (ByteArray.mk #[98, 97, 108, 97, 110, 99, 101]) (-1000) 1000 [])]), (api_NodeType.mk (ByteArray.mk #[67, 97, 115, 104]) 0 false []), (api_NodeType.mk (ByteArray.mk #[76, 111, 97, 110]) 0 false [(api_Attr.mk (ByteArray.mk #[115, 116, 97, 116, 101]) 0 1 [(ByteArray.mk #[111, 112, 101, 110]), (ByteArray.mk #[99, 108, 111, 115, 101, 100])])]), (api_NodeType.mk (ByteArray.mk #[80, 101, 114, 115, 111, 110]) (-1) false [])] [(api_EdgeType.mk (ByteArray.mk #[111, 119, 110, 115]) 3 0 0 (-1) 1 1), (api_EdgeType.mk (ByteArray.mk #[112, 97, 121, 115]) 1 1 0 (-1) 0 (-1))])
noncomputable def law24_example  : Option (api_Rule) :=
  some (api_Rule.mk (ByteArray.mk #[112, 97, 121]) (api_Pattern.mk (api_Graph.mk [3, 1] [(api_Edge.mk 0 0 1)]) [] 0 []) (api_Pattern.mk (api_Graph.mk [3, 1, 1] [(api_Edge.mk 0 0 1), (api_Edge.mk 0 0 2)]) [] 0 []) (api_Part.mk [0, 1] [0]) (api_Morphism.mk [0, 1] [0]) false (api_Condition.mk 1 [] (api_Morphism.mk [] []) (api_Pattern.mk (api_Graph.mk [] []) [] 0 [])))
noncomputable def law24_awake  : Option (Bool) :=
  (ref04_Example).bind fun b1 => (law24_example).bind fun b3 => (rule_Deleted b1 b3).bind fun b5 => (law24_example).bind fun b7 => (rule_Created b1 b7).bind fun b9 => (law24_example).bind fun b11 => (rule_Inverse b1 b11).bind fun b13 => (rule_Deleted b1 b13.1).bind fun b15 => if b5.2.2 = 0 then (some (w64 ((b5.1.length : Int) + (b5.2.1.length : Int)))).bind fun b18 => if b18 = 0 then if b9.2.2 = 0 then (slices_Equal_int b9.1 [2]).bind fun b22 => if b22 = true then (slices_Equal_int b9.2.1 [1]).bind fun b25 => if b25 = true then if b13.2 = 0 then if b15.2.2 = 0 then (slices_Equal_int b15.1 [2]).bind fun b30 => if b30 = true then (slices_Equal_int b15.2.1 [1]).bind fun b33 => some b33 else some false else some false else some false else some false else some false else some false else some false else some false
noncomputable def rule_Plain (t0 : api_Rule) : Option (api_Rule × Int) :=
  (graph_Valid t0.Left.Graph).bind fun b1 => if ¬ (b1 = 0) then some ((api_Rule.mk (ByteArray.mk #[]) (api_Pattern.mk (api_Graph.mk [] []) [] 0 []) (api_Pattern.mk (api_Graph.mk [] []) [] 0 []) (api_Part.mk [] []) (api_Morphism.mk [] []) false (api_Condition.mk 0 [] (api_Morphism.mk [] []) (api_Pattern.mk (api_Graph.mk [] []) [] 0 []))), b1) else (graph_Valid t0.Right.Graph).bind fun b4 => if ¬ (b4 = 0) then some ((api_Rule.mk (ByteArray.mk #[]) (api_Pattern.mk (api_Graph.mk [] []) [] 0 []) (api_Pattern.mk (api_Graph.mk [] []) [] 0 []) (api_Part.mk [] []) (api_Morphism.mk [] []) false (api_Condition.mk 0 [] (api_Morphism.mk [] []) (api_Pattern.mk (api_Graph.mk [] []) [] 0 []))), b4) else (subgraph_Extract t0.Left.Graph t0.Keep).bind fun b7 => if ¬ (b7.2.2 = 0) then some ((api_Rule.mk (ByteArray.mk #[]) (api_Pattern.mk (api_Graph.mk [] []) [] 0 []) (api_Pattern.mk (api_Graph.mk [] []) [] 0 []) (api_Part.mk [] []) (api_Morphism.mk [] []) false (api_Condition.mk 0 [] (api_Morphism.mk [] []) (api_Pattern.mk (api_Graph.mk [] []) [] 0 []))), b7.2.2) else (morphism_Valid b7.1 t0.Right.Graph t0.Into).bind fun b10 => if ¬ (b10 = 0) then some ((api_Rule.mk (ByteArray.mk #[]) (api_Pattern.mk (api_Graph.mk [] []) [] 0 []) (api_Pattern.mk (api_Graph.mk [] []) [] 0 []) (api_Part.mk [] []) (api_Morphism.mk [] []) false (api_Condition.mk 0 [] (api_Morphism.mk [] []) (api_Pattern.mk (api_Graph.mk [] []) [] 0 []))), b10) else (rule_plain t0).bind fun b13 => some (b13, 0)
noncomputable def slices_Equal_api_Edge_l2 (t0 : (List api_Edge)) (t1 : (List api_Edge)) (x2 : Int) : Option (Int ⊕ Bool) :=
  if x2 < (t0.length : Int) then if 0 ≤ x2 ∧ x2 < (t0.length : Int) then if 0 ≤ x2 ∧ x2 < (t1.length : Int) then if ¬ ((nth t0 x2) = (nth t1 x2)) then some (.inr false) else some (.inl (x2 + 1)) else none else none else some (.inr true)
noncomputable def slices_Equal_api_Edge (t0 : (List api_Edge)) (t1 : (List api_Edge)) : Option (Bool) :=
  if ¬ ((t0.length : Int) = (t1.length : Int)) then some false else Iter (slices_Equal_api_Edge_l2 t0 t1) 0
noncomputable def graph_Same (t0 : api_Graph) (t1 : api_Graph) : Option (Bool) :=
  (slices_Equal_int t0.Nodes t1.Nodes).bind fun b1 => if b1 = true then (slices_Equal_api_Edge t0.Edges t1.Edges).bind fun b4 => some b4 else some false
noncomputable def slices_Equal_api_Slot_l2 (t0 : (List api_Slot)) (t1 : (List api_Slot)) (x2 : Int) : Option (Int ⊕ Bool) :=
  if x2 < (t0.length : Int) then if 0 ≤ x2 ∧ x2 < (t0.length : Int) then if 0 ≤ x2 ∧ x2 < (t1.length : Int) then if ¬ ((nth t0 x2) = (nth t1 x2)) then some (.inr false) else some (.inl (x2 + 1)) else none else none else some (.inr true)
noncomputable def slices_Equal_api_Slot (t0 : (List api_Slot)) (t1 : (List api_Slot)) : Option (Bool) :=
  if ¬ ((t0.length : Int) = (t1.length : Int)) then some false else Iter (slices_Equal_api_Slot_l2 t0 t1) 0
noncomputable def slices_Equal_api_Test_l2 (t0 : (List api_Test)) (t1 : (List api_Test)) (x2 : Int) : Option (Int ⊕ Bool) :=
  if x2 < (t0.length : Int) then if 0 ≤ x2 ∧ x2 < (t0.length : Int) then if 0 ≤ x2 ∧ x2 < (t1.length : Int) then if ¬ ((nth t0 x2) = (nth t1 x2)) then some (.inr false) else some (.inl (x2 + 1)) else none else none else some (.inr true)
noncomputable def slices_Equal_api_Test (t0 : (List api_Test)) (t1 : (List api_Test)) : Option (Bool) :=
  if ¬ ((t0.length : Int) = (t1.length : Int)) then some false else Iter (slices_Equal_api_Test_l2 t0 t1) 0
noncomputable def rule_samePattern (t0 : api_Pattern) (t1 : api_Pattern) : Option (Bool) :=
  (graph_Same t0.Graph t1.Graph).bind fun b1 => if b1 = true then if t0.Vars = t1.Vars then (slices_Equal_api_Slot t0.Slots t1.Slots).bind fun b5 => if b5 = true then (slices_Equal_api_Test t0.Tests t1.Tests).bind fun b8 => some b8 else some false else some false else some false
noncomputable def morphism_Same (t0 : api_Morphism) (t1 : api_Morphism) : Option (Bool) :=
  (slices_Equal_int t0.Nodes t1.Nodes).bind fun b1 => if b1 = true then (slices_Equal_int t0.Edges t1.Edges).bind fun b4 => some b4 else some false
noncomputable def slices_EqualFunc_api_Condition_l2 (t0 : (List api_Condition)) (t1 : (List api_Condition)) (t2 : ((api_Condition × api_Condition) → Option Bool)) (x2 : Int) : Option (Int ⊕ Bool) :=
  if x2 < (t0.length : Int) then if 0 ≤ x2 ∧ x2 < (t0.length : Int) then if 0 ≤ x2 ∧ x2 < (t1.length : Int) then (t2 ((nth t0 x2), (nth t1 x2))).bind fun b13 => if (!b13) = true then some (.inr false) else some (.inl (x2 + 1)) else none else none else some (.inr true)
noncomputable def slices_EqualFunc_api_Condition (t0 : (List api_Condition)) (t1 : (List api_Condition)) (t2 : ((api_Condition × api_Condition) → Option Bool)) : Option (Bool) :=
  if ¬ ((t0.length : Int) = (t1.length : Int)) then some false else Iter (slices_EqualFunc_api_Condition_l2 t0 t1 t2) 0
noncomputable def condition_Same_b (q_condition_Same : api_Condition → api_Condition → Option Bool) (t0 : api_Condition) (t1 : api_Condition) : Option (Bool) :=
  if ¬ (t0.Kind = t1.Kind) then some false else (morphism_Same t0.Map t1.Map).bind fun b2 => if (!b2) = true then some false else if ¬ (t0.Pattern.Vars = t1.Pattern.Vars) then some false else (slices_Equal_int t0.Pattern.Graph.Nodes t1.Pattern.Graph.Nodes).bind fun b6 => if (!b6) = true then some false else (slices_Equal_api_Edge t0.Pattern.Graph.Edges t1.Pattern.Graph.Edges).bind fun b9 => if (!b9) = true then some false else (slices_Equal_api_Slot t0.Pattern.Slots t1.Pattern.Slots).bind fun b12 => if b12 = true then (slices_Equal_api_Test t0.Pattern.Tests t1.Pattern.Tests).bind fun b15 => if b15 = true then (slices_EqualFunc_api_Condition t0.Kids t1.Kids (fun x => q_condition_Same x.1 x.2)).bind fun b18 => some b18 else some false else some false
noncomputable def condition_Same_n : Nat → (api_Condition → api_Condition → Option Bool)
  | 0 => (fun _ _ => none)
  | n + 1 => (fun t0 t1 => condition_Same_b (condition_Same_n n) t0 t1)
noncomputable def condition_Same (t0 : api_Condition) (t1 : api_Condition) : Option (Bool) := Ev fun n => (condition_Same_n n) t0 t1
noncomputable def rule_Same (t0 : api_Rule) (t1 : api_Rule) : Option (Bool) :=
  if t0.Name = t1.Name then if (t0.Injective == t1.Injective) = true then (rule_samePattern t0.Left t1.Left).bind fun b3 => if b3 = true then (rule_samePattern t0.Right t1.Right).bind fun b6 => if b6 = true then (slices_Equal_int t0.Keep.Nodes t1.Keep.Nodes).bind fun b9 => if b9 = true then (slices_Equal_int t0.Keep.Edges t1.Keep.Edges).bind fun b12 => if b12 = true then (morphism_Same t0.Into t1.Into).bind fun b15 => if b15 = true then (condition_Same t0.Condition t1.Condition).bind fun b18 => some b18 else some false else some false else some false else some false else some false else some false else some false
noncomputable def ref04_Made_j213 (x1 : (List api_NodeType) × Int) (x193 : (List api_EdgeType) × Int) (v213 : Unit) : Option (((List api_EdgeType) × Int) ⊕ api_Types) :=
  some (.inr (api_Types.mk x1.1 x193.1))
noncomputable def ref04_Made_l193 (t1 : (List Arr2_c_u8)) (x1 : (List api_NodeType) × Int) (x193 : (List api_EdgeType) × Int) : Option (((List api_EdgeType) × Int) ⊕ api_Types) :=
  if x193.2 < (t1.length : Int) then if x193.2 < 5 then if 0 ≤ x193.2 ∧ x193.2 ≤ x193.2 + 1 ∧ x193.2 + 1 ≤ ((ByteArray.mk #[101, 102, 103, 104, 105]).size : Int) then if 0 ≤ x193.2 ∧ x193.2 < (t1.length : Int) then if (x1.1.length : Int) ≠ 0 then if (x193.1.length + [(api_EdgeType.mk (cutS (ByteArray.mk #[101, 102, 103, 104, 105]) x193.2 (x193.2 + 1)) (((nth t1 x193.2).e0).tmod (x1.1.length : Int)) (((nth t1 x193.2).e1).tmod (x1.1.length : Int)) 0 (-1) 0 (-1))].length) * 64 ≤ 140737488355328 then some (.inl ((x193.1 ++ [(api_EdgeType.mk (cutS (ByteArray.mk #[101, 102, 103, 104, 105]) x193.2 (x193.2 + 1)) (((nth t1 x193.2).e0).tmod (x1.1.length : Int)) (((nth t1 x193.2).e1).tmod (x1.1.length : Int)) 0 (-1) 0 (-1))]), x193.2 + 1)) else none else none else none else none else ref04_Made_j213 x1 x193 () else ref04_Made_j213 x1 x193 ()
noncomputable def ref04_Made_j191 (t1 : (List Arr2_c_u8)) (x1 : (List api_NodeType) × Int) (v191 : Unit) : Option (((List api_NodeType) × Int) ⊕ api_Types) :=
  (Iter (ref04_Made_l193 t1 x1) ([], 0)).map .inr
noncomputable def ref04_Made_j184 (x1 : (List api_NodeType) × Int) (v184 : api_NodeType) : Option (((List api_NodeType) × Int) ⊕ api_Types) :=
  if (x1.1.length + 1) * 56 ≤ 140737488355328 then (some (w64 (x1.2 + 1))).bind fun b188 => some (.inl ((x1.1 ++ [v184]), b188)) else none
noncomputable def ref04_Made_j182 (x1 : (List api_NodeType) × Int) (v182 : api_NodeType) : Option (((List api_NodeType) × Int) ⊕ api_Types) :=
  ref04_Made_j184 x1 v182
noncomputable def ref04_Made_j162 (x1 : (List api_NodeType) × Int) (v162 : Arr2_c_u8) : Option (((List api_NodeType) × Int) ⊕ api_Types) :=
  (some (w64 (x1.2 + 1))).bind fun b163 => if 0 ≤ x1.2 ∧ x1.2 ≤ b163 ∧ b163 ≤ ((ByteArray.mk #[65, 66, 67, 68, 69, 70]).size : Int) then (some (w64 (x1.2 + 1))).bind fun b166 => if b166 ≠ 0 then (some (w64 (((v162.e0).tmod b166) - 1))).bind fun b169 => (some (IntKind.wrap .u8 ((v162.e0).tdiv 16))).bind fun b171 => (some (w64 (x1.2 + 1))).bind fun b173 => if 0 ≤ x1.2 ∧ x1.2 ≤ b173 ∧ b173 ≤ ((ByteArray.mk #[117, 118, 119, 120, 121, 122]).size : Int) then if (v162.e1).tmod 4 = 1 then (some (IntKind.wrap .u8 ((v162.e1).tdiv 4))).bind fun b177 => (some (w64 (3 + ((b177).tmod 9)))).bind fun b179 => ref04_Made_j184 x1 (api_NodeType.mk (cutS (ByteArray.mk #[65, 66, 67, 68, 69, 70]) x1.2 b163) b169 (decide ((b171).tmod 4 = 3)) [(api_Attr.mk (cutS (ByteArray.mk #[117, 118, 119, 120, 121, 122]) x1.2 b173) (-3) b179 [])]) else if (v162.e1).tmod 4 = 2 then ref04_Made_j182 x1 (api_NodeType.mk (cutS (ByteArray.mk #[65, 66, 67, 68, 69, 70]) x1.2 b163) b169 (decide ((b171).tmod 4 = 3)) [(api_Attr.mk (cutS (ByteArray.mk #[117, 118, 119, 120, 121, 122]) x1.2 b173) 0 1 [(ByteArray.mk #[111, 102, 102]), (ByteArray.mk #[111, 110])])]) else ref04_Made_j182 x1 (api_NodeType.mk (cutS (ByteArray.mk #[65, 66, 67, 68, 69, 70]) x1.2 b163) b169 (decide ((b171).tmod 4 = 3)) []) else none else none else none
noncomputable def ref04_Made_j137 (t0 : (List Arr2_c_u8)) (x1 : (List api_NodeType) × Int) (v137 : Unit) : Option (((List api_NodeType) × Int) ⊕ api_Types) :=
  if x1.2 < (t0.length : Int) then if 0 ≤ x1.2 ∧ x1.2 < (t0.length : Int) then ref04_Made_j162 x1 (nth t0 x1.2) else none else ref04_Made_j162 x1 (Arr2_c_u8.mk 0 0)
noncomputable def ref04_Made_l1 (t0 : (List Arr2_c_u8)) (t1 : (List Arr2_c_u8)) (x1 : (List api_NodeType) × Int) : Option (((List api_NodeType) × Int) ⊕ api_Types) :=
  if x1.2 = 0 then ref04_Made_j137 t0 x1 () else if x1.2 < (t0.length : Int) then if x1.2 < 6 then ref04_Made_j137 t0 x1 () else ref04_Made_j191 t1 x1 () else ref04_Made_j191 t1 x1 ()
noncomputable def ref04_Made (t0 : (List Arr2_c_u8)) (t1 : (List Arr2_c_u8)) : Option (api_Types) :=
  Iter (ref04_Made_l1 t0 t1) ([], 0)
noncomputable def ref05_Copied (t0 : api_Graph) : Option (api_Graph) :=
  if t0.Nodes.length * 8 ≤ 140737488355328 then if t0.Edges.length * 24 ≤ 140737488355328 then some t0 else none else none
noncomputable def ref24_plain (t0 : api_Rule) : Option (api_Rule) :=
  (ref05_Copied t0.Left.Graph).bind fun b1 => (ref05_Copied t0.Right.Graph).bind fun b3 => if t0.Keep.Nodes.length * 8 ≤ 140737488355328 then if t0.Keep.Edges.length * 8 ≤ 140737488355328 then if t0.Into.Nodes.length * 8 ≤ 140737488355328 then if t0.Into.Edges.length * 8 ≤ 140737488355328 then some (api_Rule.mk t0.Name (api_Pattern.mk b1 [] 0 []) (api_Pattern.mk b3 [] 0 []) t0.Keep t0.Into t0.Injective (api_Condition.mk 1 [] (api_Morphism.mk [] []) (api_Pattern.mk (api_Graph.mk [] []) [] 0 []))) else none else none else none else none
noncomputable def ref04_Below1_b (q_ref04_Below1 : api_Types → Int → Int → Option Bool) (t0 : api_Types) (t1 : Int) (t2 : Int) : Option (Bool) :=
  if t1 = t2 then some true else if 0 ≤ t1 then if 0 ≤ t1 ∧ t1 < (t0.Nodes.length : Int) then (q_ref04_Below1 t0 ((nth t0.Nodes t1).Parent) t2).bind fun b4 => some b4 else none else some false
noncomputable def ref04_Below1_n : Nat → (api_Types → Int → Int → Option Bool)
  | 0 => (fun _ _ _ => none)
  | n + 1 => (fun t0 t1 t2 => ref04_Below1_b (ref04_Below1_n n) t0 t1 t2)
noncomputable def ref04_Below1 (t0 : api_Types) (t1 : Int) (t2 : Int) : Option (Bool) := Ev fun n => (ref04_Below1_n n) t0 t1 t2
noncomputable def ref17_among_j16 (x1 : (List Int) × Int) (v16 : (List Int)) : Option (((List Int) × Int) ⊕ (List Int)) :=
  some (.inl (v16, x1.2 + 1))
noncomputable def ref17_among_l1 (t0 : api_Types) (t1 : api_Graph) (t2 : Int) (x1 : (List Int) × Int) : Option (((List Int) × Int) ⊕ (List Int)) :=
  if x1.2 < (t1.Nodes.length : Int) then if 0 ≤ x1.2 ∧ x1.2 < (t1.Nodes.length : Int) then (ref04_Below1 t0 (nth t1.Nodes x1.2) t2).bind fun b12 => if b12 = true then if (x1.1.length + 1) * 8 ≤ 140737488355328 then ref17_among_j16 x1 (x1.1 ++ [x1.2]) else none else ref17_among_j16 x1 x1.1 else none else some (.inr x1.1)
noncomputable def ref17_among (t0 : api_Types) (t1 : api_Graph) (t2 : Int) : Option ((List Int)) :=
  Iter (ref17_among_l1 t0 t1 t2) ([], 0)
noncomputable def ref17_Made_j19 (x1 : (List Int) × Int) (v19 : (List Int)) : Option (((List Int) × Int) ⊕ api_Graph) :=
  some (.inl (v19, x1.2 + 1))
noncomputable def ref17_Made_j16 (x1 : (List Int) × Int) (v16 : Unit) : Option (((List Int) × Int) ⊕ api_Graph) :=
  if (x1.1.length + 1) * 8 ≤ 140737488355328 then ref17_Made_j19 x1 (x1.1 ++ [x1.2]) else none
noncomputable def ref17_Made_j91 (x23 : (List Int) × Int) (x44 : (List api_Edge) × Int) (v91 : Unit) : Option (((List api_Edge) × Int) ⊕ api_Graph) :=
  some (.inr (api_Graph.mk x23.1 x44.1))
noncomputable def ref17_Made_j87 (x44 : (List api_Edge) × Int) (v87 : (List api_Edge)) : Option (((List api_Edge) × Int) ⊕ api_Graph) :=
  some (.inl (v87, x44.2 + 1))
noncomputable def ref17_Made_j85 (x44 : (List api_Edge) × Int) (v85 : Unit) : Option (((List api_Edge) × Int) ⊕ api_Graph) :=
  ref17_Made_j87 x44 x44.1
noncomputable def ref17_Made_l44 (t0 : api_Types) (t1 : ref05_Draft) (x23 : (List Int) × Int) (x44 : (List api_Edge) × Int) : Option (((List api_Edge) × Int) ⊕ api_Graph) :=
  if x44.2 < (t1.Edges.length : Int) then if x44.2 < 10 then if 0 < (t0.Edges.length : Int) then if 0 ≤ x44.2 ∧ x44.2 < (t1.Edges.length : Int) then if (t0.Edges.length : Int) ≠ 0 then if 0 ≤ ((nth t1.Edges x44.2).e0).tmod (t0.Edges.length : Int) ∧ ((nth t1.Edges x44.2).e0).tmod (t0.Edges.length : Int) < (t0.Edges.length : Int) then (ref17_among t0 (api_Graph.mk x23.1 x44.1) ((nth t0.Edges (((nth t1.Edges x44.2).e0).tmod (t0.Edges.length : Int))).From)).bind fun b74 => (ref17_among t0 (api_Graph.mk x23.1 x44.1) ((nth t0.Edges (((nth t1.Edges x44.2).e0).tmod (t0.Edges.length : Int))).To)).bind fun b76 => if 0 < (b74.length : Int) then if 0 < (b76.length : Int) then if (b74.length : Int) ≠ 0 then if 0 ≤ ((nth t1.Edges x44.2).e1).tmod (b74.length : Int) ∧ ((nth t1.Edges x44.2).e1).tmod (b74.length : Int) < (b74.length : Int) then if (b76.length : Int) ≠ 0 then if 0 ≤ ((nth t1.Edges x44.2).e2).tmod (b76.length : Int) ∧ ((nth t1.Edges x44.2).e2).tmod (b76.length : Int) < (b76.length : Int) then if (x44.1.length + 1) * 24 ≤ 140737488355328 then ref17_Made_j87 x44 (x44.1 ++ [(api_Edge.mk (((nth t1.Edges x44.2).e0).tmod (t0.Edges.length : Int)) (nth b74 (((nth t1.Edges x44.2).e1).tmod (b74.length : Int))) (nth b76 (((nth t1.Edges x44.2).e2).tmod (b76.length : Int))))]) else none else none else none else none else none else ref17_Made_j85 x44 () else ref17_Made_j85 x44 () else none else none else none else ref17_Made_j91 x23 x44 () else ref17_Made_j91 x23 x44 () else ref17_Made_j91 x23 x44 ()
noncomputable def ref17_Made_j42 (t0 : api_Types) (t1 : ref05_Draft) (x23 : (List Int) × Int) (v42 : Unit) : Option (((List Int) × Int) ⊕ api_Graph) :=
  (Iter (ref17_Made_l44 t0 t1 x23) ([], 0)).map .inr
noncomputable def ref17_Made_l23 (t0 : api_Types) (t1 : ref05_Draft) (x1 : (List Int) × Int) (x23 : (List Int) × Int) : Option (((List Int) × Int) ⊕ api_Graph) :=
  if x23.2 < (t1.Nodes.length : Int) then if x23.2 < 8 then if 0 < (x1.1.length : Int) then if 0 ≤ x23.2 ∧ x23.2 < (t1.Nodes.length : Int) then if (x1.1.length : Int) ≠ 0 then if 0 ≤ ((nth t1.Nodes x23.2)).tmod (x1.1.length : Int) ∧ ((nth t1.Nodes x23.2)).tmod (x1.1.length : Int) < (x1.1.length : Int) then if (x23.1.length + 1) * 8 ≤ 140737488355328 then some (.inl ((x23.1 ++ [(nth x1.1 (((nth t1.Nodes x23.2)).tmod (x1.1.length : Int)))]), x23.2 + 1)) else none else none else none else none else ref17_Made_j42 t0 t1 x23 () else ref17_Made_j42 t0 t1 x23 () else ref17_Made_j42 t0 t1 x23 ()
noncomputable def ref17_Made_l1 (t0 : api_Types) (t1 : ref05_Draft) (t2 : Bool) (x1 : (List Int) × Int) : Option (((List Int) × Int) ⊕ api_Graph) :=
  if x1.2 < (t0.Nodes.length : Int) then if t2 = true then ref17_Made_j16 x1 () else if 0 ≤ x1.2 ∧ x1.2 < (t0.Nodes.length : Int) then if (!((nth t0.Nodes x1.2).Abstract)) = true then ref17_Made_j16 x1 () else ref17_Made_j19 x1 x1.1 else none else (Iter (ref17_Made_l23 t0 t1 x1) ([], 0)).map .inr
noncomputable def ref17_Made (t0 : api_Types) (t1 : ref05_Draft) (t2 : Bool) : Option (api_Graph) :=
  Iter (ref17_Made_l1 t0 t1 t2) ([], 0)
noncomputable def ref04_attrs_b (q_ref04_attrs : api_Types → Int → Option (List api_Attr)) (t0 : api_Types) (t1 : Int) : Option ((List api_Attr)) :=
  if t1 < 0 then some [] else if 0 ≤ t1 ∧ t1 < (t0.Nodes.length : Int) then (q_ref04_attrs t0 ((nth t0.Nodes t1).Parent)).bind fun b3 => if b3.length * 56 ≤ 140737488355328 then if (b3.length + ((nth t0.Nodes t1).Attrs).length) * 56 ≤ 140737488355328 then some (b3 ++ (nth t0.Nodes t1).Attrs) else none else none else none
noncomputable def ref04_attrs_n : Nat → (api_Types → Int → Option (List api_Attr))
  | 0 => (fun _ _ => none)
  | n + 1 => (fun t0 t1 => ref04_attrs_b (ref04_attrs_n n) t0 t1)
noncomputable def ref04_attrs (t0 : api_Types) (t1 : Int) : Option ((List api_Attr)) := Ev fun n => (ref04_attrs_n n) t0 t1
noncomputable def ref04_in (t0 : Int) (t1 : Int) (t2 : Int) : Option (Bool) :=
  if t1 ≤ t0 then some (decide (t0 ≤ t2)) else some false
noncomputable def ref01_text (t0 : api_Token) : Option (ByteArray) :=
  if t0.Kind = 3 then if (ByteArray.mk #[34]).size + t0.Text.size ≤ 140737488355328 then if ((ByteArray.mk #[34]) ++ t0.Text).size + (ByteArray.mk #[34]).size ≤ 140737488355328 then some (((ByteArray.mk #[34]) ++ t0.Text) ++ (ByteArray.mk #[34])) else none else none else some t0.Text
noncomputable def ref01_letter (t0 : Int) : Option (Bool) :=
  if 97 ≤ t0 then if t0 ≤ 122 then some true else if 65 ≤ t0 then some (decide (t0 ≤ 90)) else some false else if 65 ≤ t0 then some (decide (t0 ≤ 90)) else some false
noncomputable def ref01_digit (t0 : Int) : Option (Bool) :=
  if 48 ≤ t0 then some (decide (t0 ≤ 57)) else some false
noncomputable def ref01_run_j53 (x1 : Int) (v53 : Unit) : Option (Int ⊕ Int) :=
  some (.inr x1)
noncomputable def ref01_run_j49 (x1 : Int) (v49 : Unit) : Option (Int ⊕ Int) :=
  (some (w64 (x1 + 1))).bind fun b50 => some (.inl b50)
noncomputable def ref01_run_l1 (t0 : ByteArray) (t1 : Int) (t2 : Bool) (x1 : Int) : Option (Int ⊕ Int) :=
  (some (w64 (t1 + x1))).bind fun b27 => if b27 < (t0.size : Int) then (some (w64 (t1 + x1))).bind fun b30 => if 0 ≤ b30 ∧ b30 < (t0.size : Int) then (ref01_digit (byteAt t0 b30)).bind fun b33 => if b33 = true then ref01_run_j49 x1 () else if (!t2) = true then (some (w64 (t1 + x1))).bind fun b37 => if 0 ≤ b37 ∧ b37 < (t0.size : Int) then (ref01_letter (byteAt t0 b37)).bind fun b40 => if b40 = true then ref01_run_j49 x1 () else (some (w64 (t1 + x1))).bind fun b43 => if 0 ≤ b43 ∧ b43 < (t0.size : Int) then if byteAt t0 b43 = 95 then ref01_run_j49 x1 () else ref01_run_j53 x1 () else none else none else ref01_run_j53 x1 () else none else ref01_run_j53 x1 ()
noncomputable def ref01_run (t0 : ByteArray) (t1 : Int) (t2 : Bool) : Option (Int) :=
  Iter (ref01_run_l1 t0 t1 t2) 0
noncomputable def ref01_one_j37 (b28 : Int) (t0 : ByteArray) (t1 : Int) (v37 : Int × Int) : Option (api_Token × Int × Int) :=
  if v37.2 < b28 then some ((api_Token.mk 0 (ByteArray.mk #[]) 0), 0, 3) else (some (w64 (t1 + b28))).bind fun b39 => if 0 ≤ t1 ∧ t1 ≤ b39 ∧ b39 ≤ (t0.size : Int) then some ((api_Token.mk v37.1 (cutS t0 t1 b39) 0), b28, 0) else none
noncomputable def ref01_one_j25 (t0 : ByteArray) (t1 : Int) (v25 : Unit) : Option (api_Token × Int × Int) :=
  (ref01_digit (byteAt t0 t1)).bind fun b26 => (ref01_run t0 t1 b26).bind fun b28 => (ref01_digit (byteAt t0 t1)).bind fun b30 => if b30 = true then ref01_one_j37 b28 t0 t1 (2, 9) else ref01_one_j37 b28 t0 t1 (1, 20)
noncomputable def ref01_one (t0 : ByteArray) (t1 : Int) : Option (api_Token × Int × Int) :=
  if 0 ≤ t1 ∧ t1 < (t0.size : Int) then (ref01_letter (byteAt t0 t1)).bind fun b2 => if b2 = true then ref01_one_j25 t0 t1 () else (ref01_digit (byteAt t0 t1)).bind fun b5 => if b5 = true then ref01_one_j25 t0 t1 () else if byteAt t0 t1 = 34 then none else none else none
noncomputable def ref01_Right (t0 : api_Token) : Option (Bool) :=
  (ref01_text t0).bind fun b1 => if b1 = (ByteArray.mk #[]) then some false else (ref01_one b1 0).bind fun b4 => if b4.2.2 = 0 then if b4.2.1 = (b1.size : Int) then some (decide (b4.1.Kind = t0.Kind)) else some false else some false
noncomputable def ref01_IsName (t0 : ByteArray) : Option (Bool) :=
  (ref01_Right (api_Token.mk 1 t0 0)).bind fun b1 => some b1
noncomputable def ref04_names_l22 (t0 : (List ByteArray)) (x2 : Int) (x22 : Int) : Option (Int ⊕ (Int ⊕ Int)) :=
  if x22 < x2 then if 0 ≤ x22 ∧ x22 < (t0.length : Int) then if (nth t0 x22) = (nth t0 x2) then some (.inr (.inr 5)) else some (.inl (x22 + 1)) else none else some (.inr (.inl (x2 + 1)))
noncomputable def ref04_names_l2 (t0 : (List ByteArray)) (x2 : Int) : Option (Int ⊕ Int) :=
  if x2 < (t0.length : Int) then if 0 ≤ x2 ∧ x2 < (t0.length : Int) then (ref01_IsName (nth t0 x2)).bind fun b19 => if (!b19) = true then some (.inr 2) else Iter (ref04_names_l22 t0 x2) 0 else none else some (.inr 0)
noncomputable def ref04_names (t0 : (List ByteArray)) : Option (Int) :=
  if 20 < (t0.length : Int) then some 3 else Iter (ref04_names_l2 t0) 0
noncomputable def ref04_attribute (t0 : api_Attr) : Option (Int) :=
  if (t0.Names.length : Int) = 0 then (ref04_in t0.Low (-1000000) 1000000).bind fun b2 => if (!b2) = true then some 6 else (ref04_in t0.High t0.Low 1000000).bind fun b5 => if (!b5) = true then some 6 else some 0 else (ref04_names t0.Names).bind fun b8 => if ¬ (b8 = 0) then some b8 else if ¬ (t0.Low = 0) then some 6 else if ¬ (t0.High = (t0.Names.length : Int) - 1) then some 6 else some 0
noncomputable def ref04_node_l53 (b20 : (List api_Attr)) (x26 : Int) (x53 : Int) : Option (Int ⊕ (Int ⊕ Int)) :=
  if x53 < x26 then if 0 ≤ x53 ∧ x53 < (b20.length : Int) then if (nth b20 x53).Name = (nth b20 x26).Name then some (.inr (.inr 5)) else some (.inl (x53 + 1)) else none else ((ref04_attribute (nth b20 x26)).bind fun b63 => if ¬ (b63 = 0) then some (.inr b63) else some (.inl (x26 + 1))).map .inr
noncomputable def ref04_node_l26 (b20 : (List api_Attr)) (x26 : Int) : Option (Int ⊕ Int) :=
  if x26 < (b20.length : Int) then if 0 ≤ x26 ∧ x26 < (b20.length : Int) then (ref01_IsName ((nth b20 x26).Name)).bind fun b50 => if (!b50) = true then some (.inr 2) else Iter (ref04_node_l53 b20 x26) 0 else none else some (.inr 0)
noncomputable def ref04_node_l5 (t0 : api_Types) (t1 : Int) (x5 : Int) : Option (Int ⊕ Int) :=
  if x5 < t1 then if 0 ≤ x5 ∧ x5 < (t0.Nodes.length : Int) then if (nth t0.Nodes x5).Name = (nth t0.Nodes t1).Name then some (.inr 5) else some (.inl (x5 + 1)) else none else ((some (w64 (t1 - 1))).bind fun b15 => (ref04_in ((nth t0.Nodes t1).Parent) (-1) b15).bind fun b17 => if (!b17) = true then some 6 else (ref04_attrs t0 t1).bind fun b20 => if 4 < (((nth t0.Nodes t1).Attrs).length : Int) then some 3 else if 8 < (b20.length : Int) then some 3 else (some (w64 ((b20.length : Int) - (((nth t0.Nodes t1).Attrs).length : Int)))).bind fun b24 => Iter (ref04_node_l26 b20) b24).map .inr
noncomputable def ref04_node (t0 : api_Types) (t1 : Int) : Option (Int) :=
  if 0 ≤ t1 ∧ t1 < (t0.Nodes.length : Int) then (ref01_IsName ((nth t0.Nodes t1).Name)).bind fun b2 => if (!b2) = true then some 2 else Iter (ref04_node_l5 t0 t1) 0 else none
noncomputable def ref04_bound (t0 : Int) (t1 : Int) : Option (Bool) :=
  (ref04_in t0 0 40).bind fun b1 => if b1 = true then if t1 = (-1) then some true else (ref04_in t1 t0 40).bind fun b5 => some b5 else some false
noncomputable def ref04_edge_l5 (t0 : api_Types) (t1 : Int) (x5 : Int) : Option (Int ⊕ Int) :=
  if x5 < t1 then if 0 ≤ x5 ∧ x5 < (t0.Edges.length : Int) then if (nth t0.Edges x5).Name = (nth t0.Edges t1).Name then some (.inr 5) else some (.inl (x5 + 1)) else none else ((some (w64 ((t0.Nodes.length : Int) - 1))).bind fun b15 => (ref04_in ((nth t0.Edges t1).From) 0 b15).bind fun b17 => if (!b17) = true then some 6 else (ref04_in ((nth t0.Edges t1).To) 0 b15).bind fun b20 => if (!b20) = true then some 6 else (ref04_bound ((nth t0.Edges t1).OutLow) ((nth t0.Edges t1).OutHigh)).bind fun b23 => if (!b23) = true then some 6 else (ref04_bound ((nth t0.Edges t1).InLow) ((nth t0.Edges t1).InHigh)).bind fun b26 => if (!b26) = true then some 6 else some 0).map .inr
noncomputable def ref04_edge (t0 : api_Types) (t1 : Int) : Option (Int) :=
  if 0 ≤ t1 ∧ t1 < (t0.Edges.length : Int) then (ref01_IsName ((nth t0.Edges t1).Name)).bind fun b2 => if (!b2) = true then some 2 else Iter (ref04_edge_l5 t0 t1) 0 else none
noncomputable def ref04_Valid_l18 (t0 : api_Types) (x18 : Int) : Option (Int ⊕ (ByteArray × Int)) :=
  if x18 < (t0.Edges.length : Int) then (ref04_edge t0 x18).bind fun b26 => if ¬ (b26 = 0) then if 0 ≤ x18 ∧ x18 < (t0.Edges.length : Int) then some (.inr ((nth t0.Edges x18).Name, b26)) else none else some (.inl (x18 + 1)) else some (.inr ((ByteArray.mk #[]), 0))
noncomputable def ref04_Valid_l4 (t0 : api_Types) (x4 : Int) : Option (Int ⊕ (ByteArray × Int)) :=
  if x4 < (t0.Nodes.length : Int) then (ref04_node t0 x4).bind fun b12 => if ¬ (b12 = 0) then if 0 ≤ x4 ∧ x4 < (t0.Nodes.length : Int) then some (.inr ((nth t0.Nodes x4).Name, b12)) else none else some (.inl (x4 + 1)) else (Iter (ref04_Valid_l18 t0) 0).map .inr
noncomputable def ref04_Valid (t0 : api_Types) : Option (ByteArray × Int) :=
  if (t0.Nodes.length : Int) = 0 then some ((ByteArray.mk #[]), 7) else if 12 < (t0.Nodes.length : Int) then some ((ByteArray.mk #[]), 3) else if 20 < (t0.Edges.length : Int) then some ((ByteArray.mk #[]), 3) else Iter (ref04_Valid_l4 t0) 0
noncomputable def ref04_given (t0 : api_Types) (t1 : Int) (t2 : Int) : Option (Int) :=
  (ref04_Valid t0).bind fun b1 => if ¬ (b1.2 = 0) then some b1.2 else (some (w64 ((t0.Nodes.length : Int) - 1))).bind fun b4 => (ref04_in t1 0 b4).bind fun b6 => if (!b6) = true then some 6 else (some (w64 ((t0.Nodes.length : Int) - 1))).bind fun b9 => (ref04_in t2 0 b9).bind fun b11 => if (!b11) = true then some 6 else some 0
noncomputable def ref04_Attrs_l6 (b4 : (List api_Attr)) (x6 : (List api_Attr) × Int) : Option (((List api_Attr) × Int) ⊕ ((List api_Attr) × Int)) :=
  if x6.2 < (b4.length : Int) then if 0 ≤ x6.2 ∧ x6.2 < (b4.length : Int) then if ((nth b4 x6.2).Names).length * 16 ≤ 140737488355328 then if (x6.1.length + 1) * 56 ≤ 140737488355328 then some (.inl ((x6.1 ++ [(api_Attr.mk ((nth b4 x6.2).Name) ((nth b4 x6.2).Low) ((nth b4 x6.2).High) ((nth b4 x6.2).Names))]), x6.2 + 1)) else none else none else none else some (.inr (x6.1, 0))
noncomputable def ref04_Attrs (t0 : api_Types) (t1 : Int) : Option ((List api_Attr) × Int) :=
  (ref04_given t0 t1 t1).bind fun b1 => if ¬ (b1 = 0) then some ([], b1) else (ref04_attrs t0 t1).bind fun b4 => Iter (ref04_Attrs_l6 b4) ([], 0)
noncomputable def ref03_remainder (t0 : Int) (t1 : Int) : Option (Int) :=
  if t1 ≠ 0 then (some (w64 ((t0).tmod t1 + t1))).bind fun b2 => some ((b2).tmod t1) else none
noncomputable def ref03_Made (t0 : Int) (t1 : Arr4_c_i8) : Option (api_Test) :=
  (ref03_remainder t1.e0 4).bind fun b1 => (some (IntKind.wrap .i64 ((b1).tdiv 3))).bind fun b3 => (some (w64 (1 + b3))).bind fun b5 => (some (w64 (t0 + 1))).bind fun b7 => (ref03_remainder t1.e1 b7).bind fun b9 => (some (w64 (b9 - 1))).bind fun b11 => (some (w64 (t0 + 1))).bind fun b13 => (ref03_remainder t1.e2 b13).bind fun b15 => (some (w64 (b15 - 1))).bind fun b17 => some (api_Test.mk b5 (api_Term.mk b11 0) (api_Term.mk b17 ((t1.e3).tmod 12)))
noncomputable def ref21_Made_l20 (b18 : (List api_Attr) × Int) (x3 : (List Arr2_c_i64) × Int) (x20 : (List Arr2_c_i64) × Int) : Option (((List Arr2_c_i64) × Int) ⊕ (((List Arr2_c_i64) × Int) ⊕ api_Pattern)) :=
  if x20.2 < (b18.1.length : Int) then if (x20.1.length + 1) * 16 ≤ 140737488355328 then some (.inl ((x20.1 ++ [(Arr2_c_i64.mk x3.2 x20.2)]), x20.2 + 1)) else none else some (.inr (.inl (x20.1, x3.2 + 1)))
noncomputable def ref21_Made_j99 (b1 : api_Graph) (x30 : (List api_Slot) × Int × Int) (x82 : (List api_Test) × Int) (v99 : Unit) : Option (((List api_Test) × Int) ⊕ api_Pattern) :=
  some (.inr (api_Pattern.mk b1 x30.1 x30.2.1 x82.1))
noncomputable def ref21_Made_l82 (b1 : api_Graph) (t1 : ref21_Draft) (x30 : (List api_Slot) × Int × Int) (x82 : (List api_Test) × Int) : Option (((List api_Test) × Int) ⊕ api_Pattern) :=
  if x82.2 < (t1.Tests.length : Int) then if x82.2 < 3 then if 0 ≤ x82.2 ∧ x82.2 < (t1.Tests.length : Int) then (ref03_Made x30.2.1 (nth t1.Tests x82.2)).bind fun b94 => if (x82.1.length + 1) * 40 ≤ 140737488355328 then some (.inl ((x82.1 ++ [b94]), x82.2 + 1)) else none else none else ref21_Made_j99 b1 x30 x82 () else ref21_Made_j99 b1 x30 x82 ()
noncomputable def ref21_Made_j80 (b1 : api_Graph) (t1 : ref21_Draft) (x30 : (List api_Slot) × Int × Int) (v80 : Unit) : Option (((List api_Slot) × Int × Int) ⊕ api_Pattern) :=
  (Iter (ref21_Made_l82 b1 t1 x30) ([], 0)).map .inr
noncomputable def ref21_Made_j74 (x30 : (List api_Slot) × Int × Int) (v74 : Int × api_Slot) : Option (((List api_Slot) × Int × Int) ⊕ api_Pattern) :=
  if (x30.1.length + 1) * 32 ≤ 140737488355328 then some (.inl ((x30.1 ++ [v74.2]), v74.1, x30.2.2 + 1)) else none
noncomputable def ref21_Made_j71 (x30 : (List api_Slot) × Int × Int) (v71 : Int × api_Slot) : Option (((List api_Slot) × Int × Int) ⊕ api_Pattern) :=
  if 3 < v71.1 then ref21_Made_j74 x30 (3, (api_Slot.mk v71.2.Node v71.2.Attr (api_Term.mk 0 v71.2.Term.Add))) else ref21_Made_j74 x30 (v71.1, v71.2)
noncomputable def ref21_Made_l30 (b1 : api_Graph) (t1 : ref21_Draft) (x3 : (List Arr2_c_i64) × Int) (x30 : (List api_Slot) × Int × Int) : Option (((List api_Slot) × Int × Int) ⊕ api_Pattern) :=
  if x30.2.2 < (t1.Slots.length : Int) then if x30.2.2 < 4 then if 0 < (x3.1.length : Int) then if 0 ≤ x30.2.2 ∧ x30.2.2 < (t1.Slots.length : Int) then if (x3.1.length : Int) ≠ 0 then if 0 ≤ ((nth t1.Slots x30.2.2).e0).tmod (x3.1.length : Int) ∧ ((nth t1.Slots x30.2.2).e0).tmod (x3.1.length : Int) < (x3.1.length : Int) then (some (w64 ((((nth t1.Slots x30.2.2).e1).tmod 5) - 1))).bind fun b59 => (some (w64 ((((nth t1.Slots x30.2.2).e2).tmod 5) - 2))).bind fun b61 => if x30.2.1 ≤ b59 then (some (w64 (x30.2.1 + 1))).bind fun b64 => ref21_Made_j71 x30 (b64, (api_Slot.mk ((nth x3.1 (((nth t1.Slots x30.2.2).e0).tmod (x3.1.length : Int))).e0) ((nth x3.1 (((nth t1.Slots x30.2.2).e0).tmod (x3.1.length : Int))).e1) (api_Term.mk x30.2.1 0))) else ref21_Made_j71 x30 (x30.2.1, (api_Slot.mk ((nth x3.1 (((nth t1.Slots x30.2.2).e0).tmod (x3.1.length : Int))).e0) ((nth x3.1 (((nth t1.Slots x30.2.2).e0).tmod (x3.1.length : Int))).e1) (api_Term.mk b59 b61))) else none else none else none else ref21_Made_j80 b1 t1 x30 () else ref21_Made_j80 b1 t1 x30 () else ref21_Made_j80 b1 t1 x30 ()
noncomputable def ref21_Made_l3 (b1 : api_Graph) (t0 : api_Types) (t1 : ref21_Draft) (x3 : (List Arr2_c_i64) × Int) : Option (((List Arr2_c_i64) × Int) ⊕ api_Pattern) :=
  if x3.2 < (b1.Nodes.length : Int) then if 0 ≤ x3.2 ∧ x3.2 < (b1.Nodes.length : Int) then (ref04_Attrs t0 (nth b1.Nodes x3.2)).bind fun b18 => Iter (ref21_Made_l20 b18 x3) (x3.1, 0) else none else (Iter (ref21_Made_l30 b1 t1 x3) ([], 0, 0)).map .inr
noncomputable def ref21_Made (t0 : api_Types) (t1 : ref21_Draft) : Option (api_Pattern) :=
  (ref17_Made t0 t1.Graph true).bind fun b1 => Iter (ref21_Made_l3 b1 t0 t1) ([], 0)
noncomputable def ref07_marked_j12 (x1 : (List Int) × Int) (v12 : (List Int)) : Option (((List Int) × Int) ⊕ (List Int)) :=
  some (.inl (v12, x1.2 + 1))
noncomputable def ref07_marked_l1 (t0 : (List Bool)) (x1 : (List Int) × Int) : Option (((List Int) × Int) ⊕ (List Int)) :=
  if x1.2 < (t0.length : Int) then if 0 ≤ x1.2 ∧ x1.2 < (t0.length : Int) then if (nth t0 x1.2) = true then if (x1.1.length + 1) * 8 ≤ 140737488355328 then ref07_marked_j12 x1 (x1.1 ++ [x1.2]) else none else ref07_marked_j12 x1 x1.1 else none else some (.inr x1.1)
noncomputable def ref07_marked (t0 : (List Bool)) : Option ((List Int)) :=
  Iter (ref07_marked_l1 t0) ([], 0)
noncomputable def ref07_Least_j18 (x2 : (List Bool) × Int) (v18 : (List Bool)) : Option (((List Bool) × Int) ⊕ api_Part) :=
  some (.inl (v18, x2.2 + 1))
noncomputable def ref07_Least_l2 (t0 : api_Graph) (t2 : (List Bool)) (x2 : (List Bool) × Int) : Option (((List Bool) × Int) ⊕ api_Part) :=
  if x2.2 < (t2.length : Int) then if 0 ≤ x2.2 ∧ x2.2 < (t2.length : Int) then if (nth t2 x2.2) = true then if 0 ≤ x2.2 ∧ x2.2 < (t0.Edges.length : Int) then if 0 ≤ (nth t0.Edges x2.2).From ∧ (nth t0.Edges x2.2).From < (x2.1.length : Int) then if 0 ≤ (nth t0.Edges x2.2).To ∧ (nth t0.Edges x2.2).To < ((x2.1.set ((nth t0.Edges x2.2).From).toNat true).length : Int) then ref07_Least_j18 x2 ((x2.1.set ((nth t0.Edges x2.2).From).toNat true).set ((nth t0.Edges x2.2).To).toNat true) else none else none else none else ref07_Least_j18 x2 x2.1 else none else ((ref07_marked x2.1).bind fun b24 => (ref07_marked t2).bind fun b26 => some (api_Part.mk b24 b26)).map .inr
noncomputable def ref07_Least (t0 : api_Graph) (t1 : (List Bool)) (t2 : (List Bool)) : Option (api_Part) :=
  if t1.length * 1 ≤ 140737488355328 then Iter (ref07_Least_l2 t0 t2) (t1, 0) else none
noncomputable def ref07_Made_l17 (t0 : api_Graph) (t1 : Int) (x3 : (List Bool) × Int) (x17 : (List Bool) × Int) : Option (((List Bool) × Int) ⊕ api_Part) :=
  if x17.2 < (x17.1.length : Int) then (some (w64 ((x3.1.length : Int) + x17.2))).bind fun b27 => if 0 ≤ (b27).tmod 64 then (some ((t1).fdiv (2 ^ (min ((b27).tmod 64).toNat (IntKind.bits .u64))))).bind fun b30 => if 0 ≤ x17.2 ∧ x17.2 < (x17.1.length : Int) then some (.inl ((x17.1.set x17.2.toNat (decide (bitAnd .u64 b30 1 = 1))), x17.2 + 1)) else none else none else ((ref07_Least t0 x3.1 x17.1).bind fun b37 => some b37).map .inr
noncomputable def ref07_Made_l3 (t0 : api_Graph) (t1 : Int) (x3 : (List Bool) × Int) : Option (((List Bool) × Int) ⊕ api_Part) :=
  if x3.2 < (x3.1.length : Int) then if 0 ≤ (x3.2).tmod 64 then (some ((t1).fdiv (2 ^ (min ((x3.2).tmod 64).toNat (IntKind.bits .u64))))).bind fun b12 => if 0 ≤ x3.2 ∧ x3.2 < (x3.1.length : Int) then some (.inl ((x3.1.set x3.2.toNat (decide (bitAnd .u64 b12 1 = 1))), x3.2 + 1)) else none else none else (Iter (ref07_Made_l17 t0 t1 x3) ((List.replicate (t0.Edges.length : Int).toNat false), 0)).map .inr
noncomputable def ref07_Made (t0 : api_Graph) (t1 : Int) : Option (api_Part) :=
  if 0 ≤ (t0.Nodes.length : Int) ∧ (t0.Nodes.length : Int) * 1 ≤ 140737488355328 then if 0 ≤ (t0.Edges.length : Int) ∧ (t0.Edges.length : Int) * 1 ≤ 140737488355328 then Iter (ref07_Made_l3 t0 t1) ((List.replicate (t0.Nodes.length : Int).toNat false), 0) else none else none
noncomputable def ref05_kind (t0 : Int) : Option (Bool) :=
  if 0 ≤ t0 then some (decide (t0 ≤ 99)) else some false
noncomputable def ref05_right (t0 : api_Edge) (t1 : Int) : Option (Bool) :=
  (ref05_kind t0.Type_).bind fun b1 => if b1 = true then if 0 ≤ t0.From then if t0.From < t1 then if 0 ≤ t0.To then some (decide (t0.To < t1)) else some false else some false else some false else some false
noncomputable def ref05_Valid_l17 (t0 : api_Graph) (x17 : Int) : Option (Int ⊕ Int) :=
  if x17 < (t0.Edges.length : Int) then if 0 ≤ x17 ∧ x17 < (t0.Edges.length : Int) then (ref05_right (nth t0.Edges x17) (t0.Nodes.length : Int)).bind fun b26 => if (!b26) = true then some (.inr 6) else some (.inl (x17 + 1)) else none else some (.inr 0)
noncomputable def ref05_Valid_l3 (t0 : api_Graph) (x3 : Int) : Option (Int ⊕ Int) :=
  if x3 < (t0.Nodes.length : Int) then if 0 ≤ x3 ∧ x3 < (t0.Nodes.length : Int) then (ref05_kind (nth t0.Nodes x3)).bind fun b12 => if (!b12) = true then some (.inr 6) else some (.inl (x3 + 1)) else none else (Iter (ref05_Valid_l17 t0) 0).map .inr
noncomputable def ref05_Valid (t0 : api_Graph) : Option (Int) :=
  if 40 < (t0.Nodes.length : Int) then some 3 else if 80 < (t0.Edges.length : Int) then some 3 else Iter (ref05_Valid_l3 t0) 0
noncomputable def ref07_ascending_j20 (x1 : Int) (v20 : Unit) : Option (Int ⊕ Int) :=
  some (.inl (x1 + 1))
noncomputable def ref07_ascending_l1 (t0 : (List Int)) (t1 : Int) (x1 : Int) : Option (Int ⊕ Int) :=
  if x1 < (t0.length : Int) then if 0 ≤ x1 ∧ x1 < (t0.length : Int) then if (nth t0 x1) < 0 then some (.inr 6) else if t1 ≤ (nth t0 x1) then some (.inr 6) else if 0 < x1 then if 0 ≤ x1 - 1 ∧ x1 - 1 < (t0.length : Int) then if (nth t0 x1) ≤ (nth t0 (x1 - 1)) then some (.inr 12) else ref07_ascending_j20 x1 () else none else ref07_ascending_j20 x1 () else none else some (.inr 0)
noncomputable def ref07_ascending (t0 : (List Int)) (t1 : Int) : Option (Int) :=
  Iter (ref07_ascending_l1 t0 t1) 0
noncomputable def ref07_has_l1 (t0 : (List Int)) (t1 : Int) (x1 : Int) : Option (Int ⊕ Bool) :=
  if x1 < (t0.length : Int) then if 0 ≤ x1 ∧ x1 < (t0.length : Int) then if (nth t0 x1) = t1 then some (.inr true) else some (.inl (x1 + 1)) else none else some (.inr false)
noncomputable def ref07_has (t0 : (List Int)) (t1 : Int) : Option (Bool) :=
  Iter (ref07_has_l1 t0 t1) 0
noncomputable def ref07_Right_l7 (t0 : api_Graph) (t1 : api_Part) (x7 : Int) : Option (Int ⊕ Int) :=
  if x7 < (t1.Edges.length : Int) then if 0 ≤ x7 ∧ x7 < (t1.Edges.length : Int) then if 0 ≤ (nth t1.Edges x7) ∧ (nth t1.Edges x7) < (t0.Edges.length : Int) then (ref07_has t1.Nodes ((nth t0.Edges (nth t1.Edges x7)).From)).bind fun b21 => if (!b21) = true then some (.inr 14) else (ref07_has t1.Nodes ((nth t0.Edges (nth t1.Edges x7)).To)).bind fun b24 => if (!b24) = true then some (.inr 14) else some (.inl (x7 + 1)) else none else none else some (.inr 0)
noncomputable def ref07_Right (t0 : api_Graph) (t1 : api_Part) : Option (Int) :=
  (ref07_ascending t1.Nodes (t0.Nodes.length : Int)).bind fun b1 => if ¬ (b1 = 0) then some b1 else (ref07_ascending t1.Edges (t0.Edges.length : Int)).bind fun b4 => if ¬ (b4 = 0) then some b4 else Iter (ref07_Right_l7 t0 t1) 0
noncomputable def ref07_Valid (t0 : api_Graph) (t1 : api_Part) : Option (Int) :=
  (ref05_Valid t0).bind fun b1 => if ¬ (b1 = 0) then some b1 else (ref07_Right t0 t1).bind fun b4 => some b4
noncomputable def ref07_index_l1 (t0 : (List Int)) (t1 : Int) (x1 : Int) : Option (Int ⊕ Int) :=
  if x1 < (t0.length : Int) then if 0 ≤ x1 ∧ x1 < (t0.length : Int) then if (nth t0 x1) = t1 then some (.inr x1) else some (.inl (x1 + 1)) else none else some (.inr (-1))
noncomputable def ref07_index (t0 : (List Int)) (t1 : Int) : Option (Int) :=
  Iter (ref07_index_l1 t0 t1) 0
noncomputable def ref07_Extract_l15 (t0 : api_Graph) (t1 : api_Part) (x4 : (List Int) × Int) (x15 : (List api_Edge) × Int) : Option (((List api_Edge) × Int) ⊕ (api_Graph × api_Morphism × Int)) :=
  if x15.2 < (t1.Edges.length : Int) then if 0 ≤ x15.2 ∧ x15.2 < (t1.Edges.length : Int) then if 0 ≤ (nth t1.Edges x15.2) ∧ (nth t1.Edges x15.2) < (t0.Edges.length : Int) then (ref07_index t1.Nodes ((nth t0.Edges (nth t1.Edges x15.2)).From)).bind fun b27 => (ref07_index t1.Nodes ((nth t0.Edges (nth t1.Edges x15.2)).To)).bind fun b29 => if (x15.1.length + 1) * 24 ≤ 140737488355328 then some (.inl ((x15.1 ++ [(api_Edge.mk ((nth t0.Edges (nth t1.Edges x15.2)).Type_) b27 b29)]), x15.2 + 1)) else none else none else none else (if t1.Nodes.length * 8 ≤ 140737488355328 then if t1.Edges.length * 8 ≤ 140737488355328 then some ((api_Graph.mk x4.1 x15.1), (api_Morphism.mk t1.Nodes t1.Edges), 0) else none else none).map .inr
noncomputable def ref07_Extract_l4 (t0 : api_Graph) (t1 : api_Part) (x4 : (List Int) × Int) : Option (((List Int) × Int) ⊕ (api_Graph × api_Morphism × Int)) :=
  if x4.2 < (t1.Nodes.length : Int) then if 0 ≤ x4.2 ∧ x4.2 < (t1.Nodes.length : Int) then if 0 ≤ (nth t1.Nodes x4.2) ∧ (nth t1.Nodes x4.2) < (t0.Nodes.length : Int) then if (x4.1.length + 1) * 8 ≤ 140737488355328 then some (.inl ((x4.1 ++ [(nth t0.Nodes (nth t1.Nodes x4.2))]), x4.2 + 1)) else none else none else none else (Iter (ref07_Extract_l15 t0 t1 x4) ([], 0)).map .inr
noncomputable def ref07_Extract (t0 : api_Graph) (t1 : api_Part) : Option (api_Graph × api_Morphism × Int) :=
  (ref07_Valid t0 t1).bind fun b1 => if ¬ (b1 = 0) then some ((api_Graph.mk [] []), (api_Morphism.mk [] []), b1) else Iter (ref07_Extract_l4 t0 t1) ([], 0)
noncomputable def ref24_concrete_j12 (x1 : (List Int) × Int) (v12 : (List Int)) : Option (((List Int) × Int) ⊕ (List Int)) :=
  some (.inl (v12, x1.2 + 1))
noncomputable def ref24_concrete_l1 (t0 : api_Types) (x1 : (List Int) × Int) : Option (((List Int) × Int) ⊕ (List Int)) :=
  if x1.2 < (t0.Nodes.length : Int) then if 0 ≤ x1.2 ∧ x1.2 < (t0.Nodes.length : Int) then if (!((nth t0.Nodes x1.2).Abstract)) = true then if (x1.1.length + 1) * 8 ≤ 140737488355328 then ref24_concrete_j12 x1 (x1.1 ++ [x1.2]) else none else ref24_concrete_j12 x1 x1.1 else none else some (.inr x1.1)
noncomputable def ref24_concrete (t0 : api_Types) : Option ((List Int)) :=
  Iter (ref24_concrete_l1 t0) ([], 0)
noncomputable def ref04_Fits (t0 : api_Types) (t1 : Int) (t2 : Int) (t3 : Int) : Option (Bool) :=
  (ref04_given t0 t2 t3).bind fun b1 => if ¬ (b1 = 0) then some false else (some (w64 ((t0.Edges.length : Int) - 1))).bind fun b4 => (ref04_in t1 0 b4).bind fun b6 => if (!b6) = true then some false else if 0 ≤ t1 ∧ t1 < (t0.Edges.length : Int) then (ref04_Below1 t0 t2 ((nth t0.Edges t1).From)).bind fun b10 => if b10 = true then (ref04_Below1 t0 t3 ((nth t0.Edges t1).To)).bind fun b13 => some b13 else some false else none
noncomputable def ref24_grown_j63 (x5 : (List Int) × Int) (x27 : (List api_Edge) × Int) (v63 : Unit) : Option (((List api_Edge) × Int) ⊕ api_Graph) :=
  some (.inr (api_Graph.mk x5.1 x27.1))
noncomputable def ref24_grown_j59 (x27 : (List api_Edge) × Int) (v59 : (List api_Edge)) : Option (((List api_Edge) × Int) ⊕ api_Graph) :=
  some (.inl (v59, x27.2 + 1))
noncomputable def ref24_grown_l27 (t0 : api_Types) (t2 : ref24_Draft) (x5 : (List Int) × Int) (x27 : (List api_Edge) × Int) : Option (((List api_Edge) × Int) ⊕ api_Graph) :=
  if x27.2 < (t2.Edges.length : Int) then if x27.2 < 2 then if 0 < (x5.1.length : Int) then if 0 < (t0.Edges.length : Int) then if 0 ≤ x27.2 ∧ x27.2 < (t2.Edges.length : Int) then if (t0.Edges.length : Int) ≠ 0 then if (x5.1.length : Int) ≠ 0 then if 0 ≤ (((nth t2.Edges x27.2).e1).tmod (x5.1.length : Int)) ∧ (((nth t2.Edges x27.2).e1).tmod (x5.1.length : Int)) < (x5.1.length : Int) then if 0 ≤ (((nth t2.Edges x27.2).e2).tmod (x5.1.length : Int)) ∧ (((nth t2.Edges x27.2).e2).tmod (x5.1.length : Int)) < (x5.1.length : Int) then (ref04_Fits t0 (((nth t2.Edges x27.2).e0).tmod (t0.Edges.length : Int)) (nth x5.1 (((nth t2.Edges x27.2).e1).tmod (x5.1.length : Int))) (nth x5.1 (((nth t2.Edges x27.2).e2).tmod (x5.1.length : Int)))).bind fun b55 => if b55 = true then if (x27.1.length + 1) * 24 ≤ 140737488355328 then ref24_grown_j59 x27 (x27.1 ++ [(api_Edge.mk (((nth t2.Edges x27.2).e0).tmod (t0.Edges.length : Int)) (((nth t2.Edges x27.2).e1).tmod (x5.1.length : Int)) (((nth t2.Edges x27.2).e2).tmod (x5.1.length : Int)))]) else none else ref24_grown_j59 x27 x27.1 else none else none else none else none else none else ref24_grown_j63 x5 x27 () else ref24_grown_j63 x5 x27 () else ref24_grown_j63 x5 x27 () else ref24_grown_j63 x5 x27 ()
noncomputable def ref24_grown_j25 (b1 : api_Graph) (t0 : api_Types) (t2 : ref24_Draft) (x5 : (List Int) × Int) (v25 : Unit) : Option (((List Int) × Int) ⊕ api_Graph) :=
  (Iter (ref24_grown_l27 t0 t2 x5) (b1.Edges, 0)).map .inr
noncomputable def ref24_grown_l5 (b1 : api_Graph) (b3 : (List Int)) (t0 : api_Types) (t2 : ref24_Draft) (x5 : (List Int) × Int) : Option (((List Int) × Int) ⊕ api_Graph) :=
  if x5.2 < (t2.Nodes.length : Int) then if x5.2 < 2 then if 0 < (b3.length : Int) then if 0 ≤ x5.2 ∧ x5.2 < (t2.Nodes.length : Int) then if (b3.length : Int) ≠ 0 then if 0 ≤ ((nth t2.Nodes x5.2)).tmod (b3.length : Int) ∧ ((nth t2.Nodes x5.2)).tmod (b3.length : Int) < (b3.length : Int) then if (x5.1.length + 1) * 8 ≤ 140737488355328 then some (.inl ((x5.1 ++ [(nth b3 (((nth t2.Nodes x5.2)).tmod (b3.length : Int)))]), x5.2 + 1)) else none else none else none else none else ref24_grown_j25 b1 t0 t2 x5 () else ref24_grown_j25 b1 t0 t2 x5 () else ref24_grown_j25 b1 t0 t2 x5 ()
noncomputable def ref24_grown (t0 : api_Types) (t1 : api_Graph) (t2 : ref24_Draft) : Option (api_Graph) :=
  (ref05_Copied t1).bind fun b1 => (ref24_concrete t0).bind fun b3 => Iter (ref24_grown_l5 b1 b3 t0 t2) (b1.Nodes, 0)
noncomputable def ref05_Numbers_l1 (t0 : Int) (t1 : Int) (x1 : (List Int) × Int) : Option (((List Int) × Int) ⊕ (List Int)) :=
  if x1.2 < t1 then (some (w64 (t0 + x1.2))).bind fun b7 => if (x1.1.length + 1) * 8 ≤ 140737488355328 then some (.inl ((x1.1 ++ [b7]), x1.2 + 1)) else none else some (.inr x1.1)
noncomputable def ref05_Numbers (t0 : Int) (t1 : Int) : Option ((List Int)) :=
  Iter (ref05_Numbers_l1 t0 t1) ([], 0)
noncomputable def ref05_Shuffle_j31 (x3 : (List Int) × Int) (v31 : Unit) : Option (((List Int) × Int) ⊕ (List Int)) :=
  some (.inr x3.1)
noncomputable def ref05_Shuffle_l3 (t0 : Int) (t1 : (List Int)) (x3 : (List Int) × Int) : Option (((List Int) × Int) ⊕ (List Int)) :=
  if x3.2 < t0 then if x3.2 < (t1.length : Int) then if 0 ≤ x3.2 ∧ x3.2 < (t1.length : Int) then (some (w64 (t0 - x3.2))).bind fun b21 => if b21 ≠ 0 then (some (w64 (x3.2 + (((nth t1 x3.2)).tmod b21)))).bind fun b24 => if 0 ≤ b24 ∧ b24 < (x3.1.length : Int) then if 0 ≤ x3.2 ∧ x3.2 < (x3.1.length : Int) then if 0 ≤ b24 ∧ b24 < ((x3.1.set x3.2.toNat (nth x3.1 b24)).length : Int) then some (.inl (((x3.1.set x3.2.toNat (nth x3.1 b24)).set b24.toNat (nth x3.1 x3.2)), x3.2 + 1)) else none else none else none else none else none else ref05_Shuffle_j31 x3 () else ref05_Shuffle_j31 x3 ()
noncomputable def ref05_Shuffle (t0 : Int) (t1 : (List Int)) : Option ((List Int)) :=
  (ref05_Numbers 0 t0).bind fun b1 => Iter (ref05_Shuffle_l3 t0 t1) (b1, 0)
noncomputable def ref05_permutation_l27 (t0 : (List Int)) (x13 : Int) (x27 : Int) : Option (Int ⊕ (Int ⊕ Int)) :=
  if x27 < x13 then if 0 ≤ x13 ∧ x13 < (t0.length : Int) then if 0 ≤ x27 ∧ x27 < (t0.length : Int) then if (nth t0 x13) = (nth t0 x27) then some (.inr (.inr 5)) else some (.inl (x27 + 1)) else none else none else some (.inr (.inl (x13 + 1)))
noncomputable def ref05_permutation_l13 (t0 : (List Int)) (x13 : Int) : Option (Int ⊕ Int) :=
  if x13 < (t0.length : Int) then Iter (ref05_permutation_l27 t0 x13) 0 else some (.inr 0)
noncomputable def ref05_permutation_l1 (t0 : (List Int)) (x1 : Int) : Option (Int ⊕ Int) :=
  if x1 < (t0.length : Int) then if 0 ≤ x1 ∧ x1 < (t0.length : Int) then if (nth t0 x1) < 0 then some (.inr 6) else if (t0.length : Int) ≤ (nth t0 x1) then some (.inr 6) else some (.inl (x1 + 1)) else none else (Iter (ref05_permutation_l13 t0) 0).map .inr
noncomputable def ref05_permutation (t0 : (List Int)) : Option (Int) :=
  Iter (ref05_permutation_l1 t0) 0
noncomputable def ref05_Reorder_l26 (t0 : api_Graph) (t1 : api_Morphism) (x14 : (List Int) × Int) (x26 : (List api_Edge) × Int) : Option (((List api_Edge) × Int) ⊕ (api_Graph × Int)) :=
  if x26.2 < (t0.Edges.length : Int) then if 0 ≤ x26.2 ∧ x26.2 < (t0.Edges.length : Int) then if 0 ≤ x26.2 ∧ x26.2 < (t1.Edges.length : Int) then if 0 ≤ (nth t0.Edges x26.2).From ∧ (nth t0.Edges x26.2).From < (t1.Nodes.length : Int) then if 0 ≤ (nth t0.Edges x26.2).To ∧ (nth t0.Edges x26.2).To < (t1.Nodes.length : Int) then if 0 ≤ (nth t1.Edges x26.2) ∧ (nth t1.Edges x26.2) < (x26.1.length : Int) then some (.inl ((x26.1.set (nth t1.Edges x26.2).toNat (api_Edge.mk ((nth t0.Edges x26.2).Type_) (nth t1.Nodes ((nth t0.Edges x26.2).From)) (nth t1.Nodes ((nth t0.Edges x26.2).To)))), x26.2 + 1)) else none else none else none else none else none else some (.inr ((api_Graph.mk x14.1 x26.1), 0))
noncomputable def ref05_Reorder_l14 (b12 : api_Graph) (t0 : api_Graph) (t1 : api_Morphism) (x14 : (List Int) × Int) : Option (((List Int) × Int) ⊕ (api_Graph × Int)) :=
  if x14.2 < (t0.Nodes.length : Int) then if 0 ≤ x14.2 ∧ x14.2 < (t1.Nodes.length : Int) then if 0 ≤ x14.2 ∧ x14.2 < (t0.Nodes.length : Int) then if 0 ≤ (nth t1.Nodes x14.2) ∧ (nth t1.Nodes x14.2) < (x14.1.length : Int) then some (.inl ((x14.1.set (nth t1.Nodes x14.2).toNat (nth t0.Nodes x14.2)), x14.2 + 1)) else none else none else none else (Iter (ref05_Reorder_l26 t0 t1 x14) (b12.Edges, 0)).map .inr
noncomputable def ref05_Reorder (t0 : api_Graph) (t1 : api_Morphism) : Option (api_Graph × Int) :=
  (ref05_Valid t0).bind fun b1 => if ¬ (b1 = 0) then some ((api_Graph.mk [] []), b1) else if ¬ ((t1.Nodes.length : Int) = (t0.Nodes.length : Int)) then some ((api_Graph.mk [] []), 20) else if ¬ ((t1.Edges.length : Int) = (t0.Edges.length : Int)) then some ((api_Graph.mk [] []), 20) else (ref05_permutation t1.Nodes).bind fun b6 => if ¬ (b6 = 0) then some ((api_Graph.mk [] []), b6) else (ref05_permutation t1.Edges).bind fun b9 => if ¬ (b9 = 0) then some ((api_Graph.mk [] []), b9) else (ref05_Copied t0).bind fun b12 => Iter (ref05_Reorder_l14 b12 t0 t1) (b12.Nodes, 0)
noncomputable def ref24_slots_j69 (x1 : (List api_Slot) × Int) (v69 : Unit) : Option (((List api_Slot) × Int) ⊕ (List api_Slot)) :=
  some (.inr x1.1)
noncomputable def ref24_slots_j65 (x1 : (List api_Slot) × Int) (v65 : (List api_Slot)) : Option (((List api_Slot) × Int) ⊕ (List api_Slot)) :=
  some (.inl (v65, x1.2 + 1))
noncomputable def ref24_slots_j55 (x44 : Bool × Int) (v55 : Bool) : Option ((Bool × Int) ⊕ (((List api_Slot) × Int) ⊕ (List api_Slot))) :=
  some (.inl (v55, x44.2 + 1))
noncomputable def ref24_slots_j61 (x1 : (List api_Slot) × Int) (v61 : (List api_Slot)) : Option (((List api_Slot) × Int) ⊕ (List api_Slot)) :=
  ref24_slots_j65 x1 v61
noncomputable def ref24_slots_l44 (b33 : (List api_Attr) × Int) (b42 : Int) (t1 : api_Graph) (t3 : (List Arr3_c_u8)) (x1 : (List api_Slot) × Int) (x44 : Bool × Int) : Option ((Bool × Int) ⊕ (((List api_Slot) × Int) ⊕ (List api_Slot))) :=
  if x44.2 < (x1.1.length : Int) then if x44.1 = true then ref24_slots_j55 x44 true else if 0 ≤ x44.2 ∧ x44.2 < (x1.1.length : Int) then if (nth x1.1 x44.2).Node = (((nth t3 x1.2).e0).tmod (t1.Nodes.length : Int)) then ref24_slots_j55 x44 (decide ((nth x1.1 x44.2).Attr = (((nth t3 x1.2).e1).tmod (b33.1.length : Int)))) else ref24_slots_j55 x44 false else none else (if (!x44.1) = true then if (x1.1.length + 1) * 32 ≤ 140737488355328 then ref24_slots_j61 x1 (x1.1 ++ [(api_Slot.mk (((nth t3 x1.2).e0).tmod (t1.Nodes.length : Int)) (((nth t3 x1.2).e1).tmod (b33.1.length : Int)) (api_Term.mk b42 (((nth t3 x1.2).e2).tmod 3)))]) else none else ref24_slots_j61 x1 x1.1).map .inr
noncomputable def ref24_slots_l1 (t0 : api_Types) (t1 : api_Graph) (t2 : Int) (t3 : (List Arr3_c_u8)) (x1 : (List api_Slot) × Int) : Option (((List api_Slot) × Int) ⊕ (List api_Slot)) :=
  if x1.2 < (t3.length : Int) then if x1.2 < 3 then if 0 < (t1.Nodes.length : Int) then if 0 ≤ x1.2 ∧ x1.2 < (t3.length : Int) then if (t1.Nodes.length : Int) ≠ 0 then if 0 ≤ ((nth t3 x1.2).e0).tmod (t1.Nodes.length : Int) ∧ ((nth t3 x1.2).e0).tmod (t1.Nodes.length : Int) < (t1.Nodes.length : Int) then (ref04_Attrs t0 (nth t1.Nodes (((nth t3 x1.2).e0).tmod (t1.Nodes.length : Int)))).bind fun b33 => if (b33.1.length : Int) = 0 then ref24_slots_j65 x1 x1.1 else if (b33.1.length : Int) ≠ 0 then (some (IntKind.wrap .u8 (((nth t3 x1.2).e1).tdiv 16))).bind fun b37 => (some (w64 (t2 + 1))).bind fun b39 => if b39 ≠ 0 then (some (w64 (((b37).tmod b39) - 1))).bind fun b42 => Iter (ref24_slots_l44 b33 b42 t1 t3 x1) (false, 0) else none else none else none else none else none else ref24_slots_j69 x1 () else ref24_slots_j69 x1 () else ref24_slots_j69 x1 ()
noncomputable def ref24_slots (t0 : api_Types) (t1 : api_Graph) (t2 : Int) (t3 : (List Arr3_c_u8)) : Option ((List api_Slot)) :=
  Iter (ref24_slots_l1 t0 t1 t2 t3) ([], 0)
noncomputable def ref02_Finest_l1 (t0 : Int) (x1 : (List Int) × Int) : Option (((List Int) × Int) ⊕ (List Int)) :=
  if x1.2 < t0 then if (x1.1.length + 1) * 8 ≤ 140737488355328 then some (.inl ((x1.1 ++ [x1.2]), x1.2 + 1)) else none else some (.inr x1.1)
noncomputable def ref02_Finest (t0 : Int) : Option ((List Int)) :=
  Iter (ref02_Finest_l1 t0) ([], 0)
noncomputable def ref06_Of (t0 : api_Graph) : Option (api_Morphism) :=
  (ref02_Finest (t0.Nodes.length : Int)).bind fun b1 => (ref02_Finest (t0.Edges.length : Int)).bind fun b3 => some (api_Morphism.mk b1 b3)
noncomputable def ref24_forbid_j12 (t1 : api_Pattern) (v12 : (List Int) × (List api_Edge)) : Option api_Condition :=
  (ref06_Of t1.Graph).bind fun b14 => some (api_Condition.mk 2 [(api_Condition.mk 5 [(api_Condition.mk 1 [] (api_Morphism.mk [] []) (api_Pattern.mk (api_Graph.mk [] []) [] 0 []))] b14 (api_Pattern.mk (api_Graph.mk v12.1 v12.2) [] t1.Vars []))] (api_Morphism.mk [] []) (api_Pattern.mk (api_Graph.mk [] []) [] 0 []))
noncomputable def ref24_forbid (t0 : api_Types) (t1 : api_Pattern) (t2 : Arr4_c_u8) : Option (api_Condition) :=
  (ref05_Copied t1.Graph).bind fun b1 => if (t2.e0).tmod 4 = 1 then if (t0.Nodes.length : Int) ≠ 0 then if (b1.Nodes.length + 1) * 8 ≤ 140737488355328 then ref24_forbid_j12 t1 ((b1.Nodes ++ [(t2.e1).tmod (t0.Nodes.length : Int)]), b1.Edges) else none else none else if (t2.e0).tmod 4 = 2 then if (b1.Nodes.length : Int) = 0 then some (api_Condition.mk 1 [] (api_Morphism.mk [] []) (api_Pattern.mk (api_Graph.mk [] []) [] 0 [])) else if (t0.Edges.length : Int) = 0 then some (api_Condition.mk 1 [] (api_Morphism.mk [] []) (api_Pattern.mk (api_Graph.mk [] []) [] 0 [])) else if (t0.Edges.length : Int) ≠ 0 then if (b1.Nodes.length : Int) ≠ 0 then if (b1.Edges.length + 1) * 24 ≤ 140737488355328 then ref24_forbid_j12 t1 (b1.Nodes, (b1.Edges ++ [(api_Edge.mk ((t2.e1).tmod (t0.Edges.length : Int)) ((t2.e2).tmod (b1.Nodes.length : Int)) ((t2.e3).tmod (b1.Nodes.length : Int)))])) else none else none else none else some (api_Condition.mk 1 [] (api_Morphism.mk [] []) (api_Pattern.mk (api_Graph.mk [] []) [] 0 []))
noncomputable def ref24_Made (t0 : api_Types) (t1 : ref24_Draft) : Option (api_Rule) :=
  (ref21_Made t0 t1.Left).bind fun b1 => (ref07_Made b1.Graph t1.Keep).bind fun b3 => (ref07_Extract b1.Graph b3).bind fun b5 => (ref24_grown t0 b5.1 t1).bind fun b7 => (ref05_Shuffle (b7.Nodes.length : Int) t1.Order).bind fun b9 => (ref05_Shuffle (b7.Edges.length : Int) t1.Order).bind fun b11 => (ref05_Reorder b7 (api_Morphism.mk b9 b11)).bind fun b13 => if 0 ≤ (0 : Int) ∧ (0 : Int) ≤ (b5.1.Nodes.length : Int) ∧ (b5.1.Nodes.length : Int) ≤ (b9.length : Int) then if 0 ≤ (0 : Int) ∧ (0 : Int) ≤ (b5.1.Edges.length : Int) ∧ (b5.1.Edges.length : Int) ≤ (b11.length : Int) then (ref24_slots t0 b13.1 b1.Vars t1.Slots).bind fun b17 => (ref24_forbid t0 b1 t1.Forbid).bind fun b19 => if t1.Plain = true then (ref24_plain (api_Rule.mk (ByteArray.mk #[114]) b1 (api_Pattern.mk b13.1 b17 b1.Vars []) b3 (api_Morphism.mk (cut b9 0 (b5.1.Nodes.length : Int)) (cut b11 0 (b5.1.Edges.length : Int))) t1.Injective b19)).bind fun b22 => some b22 else some (api_Rule.mk (ByteArray.mk #[114]) b1 (api_Pattern.mk b13.1 b17 b1.Vars []) b3 (api_Morphism.mk (cut b9 0 (b5.1.Nodes.length : Int)) (cut b11 0 (b5.1.Edges.length : Int))) t1.Injective b19) else none else none
noncomputable def law24_RuleTwice (t0 : (List Arr2_c_u8)) (t1 : (List Arr2_c_u8)) (t2 : ref24_Draft) : Option (Bool) :=
  (law24_awake).bind fun b1 => if (!b1) = true then some false else (ref04_Made t0 t1).bind fun b4 => (ref24_Made b4 t2).bind fun b6 => (rule_Plain b6).bind fun b8 => if ¬ (b8.2 = 0) then some false else (rule_Inverse b4 b8.1).bind fun b11 => if ¬ (b11.2 = 0) then some (decide (b11.2 = 13)) else (rule_Inverse b4 b11.1).bind fun b14 => (rule_Deleted b4 b11.1).bind fun b16 => (rule_Created b4 b8.1).bind fun b18 => (rule_Created b4 b11.1).bind fun b20 => (rule_Deleted b4 b8.1).bind fun b22 => if ¬ (b14.2 = 0) then some false else if ¬ (b16.2.2 = 0) then some false else if ¬ (b18.2.2 = 0) then some false else if ¬ (b20.2.2 = 0) then some false else if ¬ (b22.2.2 = 0) then some false else (rule_Same b14.1 b8.1).bind fun b29 => if b29 = true then (slices_Equal_int b16.1 b18.1).bind fun b32 => if b32 = true then (slices_Equal_int b16.2.1 b18.2.1).bind fun b35 => if b35 = true then (slices_Equal_int b20.1 b22.1).bind fun b38 => if b38 = true then (slices_Equal_int b20.2.1 b22.2.1).bind fun b41 => some b41 else some false else some false else some false else some false
end Go.Proofs.YtpnfoacmgfklaaaGreat.K
