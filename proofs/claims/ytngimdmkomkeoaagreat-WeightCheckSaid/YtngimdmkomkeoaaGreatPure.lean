/- What the program's functions compute, told in plain Lean. -/
import Derived.Test.YtngimdmkomkeoaaGreatTypes
set_option linter.unusedVariables false
set_option linter.unusedSimpArgs false
namespace Go.Proofs.YtngimdmkomkeoaaGreat.K
open Go.RowKit Go.Proofs
noncomputable def z98 (t0 : Int) : Option (Bool) :=
  if 97 ≤ t0 then if t0 ≤ 122 then some true else if 65 ≤ t0 then some (decide (t0 ≤ 90)) else some false else if 65 ≤ t0 then some (decide (t0 ≤ 90)) else some false
noncomputable def z9p (x1 : Int) (v17 : Unit) : Option (Int ⊕ Int) :=
  some (.inr x1)
noncomputable def token_run_l1 (t0 : ByteArray) (t1 : (Int → Option Bool)) (x1 : Int) : Option (Int ⊕ Int) :=
  if x1 < (t0.size : Int) then if 0 ≤ x1 ∧ x1 < (t0.size : Int) then (t1 (z2c t0 x1)).bind fun b12 => if b12 = true then some (.inl (x1 + 1)) else z9p x1 () else none else z9p x1 ()
noncomputable def token_run (t0 : ByteArray) (t1 : (Int → Option Bool)) : Option (Int) :=
  z2l (token_run_l1 t0 t1) 0
noncomputable def z8x (t0 : Int) : Option (Bool) :=
  if 48 ≤ t0 then some (decide (t0 ≤ 57)) else some false
noncomputable def token_part (t0 : Int) : Option (Bool) :=
  (z98 t0).bind fun b1 => if b1 = true then some true else (z8x t0).bind fun b4 => if b4 = true then some true else some (decide (t0 = 95))
noncomputable def token_quoted_1 (t0 : Int) : Option (Bool) :=
  if 32 ≤ t0 then if t0 ≤ 126 then some (decide (¬ (t0 = 34))) else some false else some false
noncomputable def token_quoted (t0 : ByteArray) : Option (Int × Int) :=
  if 0 ≤ (1 : Int) ∧ (1 : Int) ≤ (t0.size : Int) ∧ (t0.size : Int) ≤ (t0.size : Int) then (token_run (cutS t0 1 (t0.size : Int)) token_quoted_1).bind fun b2 => (some (w64 (1 + b2))).bind fun b4 => if b4 = (t0.size : Int) then some (0, 2) else (some (w64 (1 + b2))).bind fun b7 => if 0 ≤ b7 ∧ b7 < (t0.size : Int) then if ¬ (z2c t0 b7 = 34) then some (0, 2) else if 60 < b2 then some (0, 3) else (some (w64 (b2 + 2))).bind fun b12 => some (b12, 0) else none else none
noncomputable def z6n (t0 : (List ByteArray)) (t1 : ByteArray) (x1 : Int) : Option (Int ⊕ Int) :=
  if x1 < (t0.length : Int) then if 0 ≤ x1 ∧ x1 < (t0.length : Int) then if t1 = (nth t0 x1) then some (.inr x1) else some (.inl (x1 + 1)) else none else some (.inr (-1))
noncomputable def z64 (t0 : (List ByteArray)) (t1 : ByteArray) : Option (Int) :=
  z2l (z6n t0 t1) 0
noncomputable def z3y (t0 : (List ByteArray)) (t1 : ByteArray) : Option (Bool) :=
  (z64 t0 t1).bind fun b1 => some (decide (0 ≤ b1))
noncomputable def token_pair (t0 : ByteArray) : Option (Bool) :=
  if 2 ≤ (t0.size : Int) then if 0 ≤ (0 : Int) ∧ (0 : Int) ≤ (2 : Int) ∧ (2 : Int) ≤ (t0.size : Int) then (z3y [(ByteArray.mk #[45, 62]), (ByteArray.mk #[60, 61]), (ByteArray.mk #[62, 61]), (ByteArray.mk #[61, 61]), (ByteArray.mk #[33, 61])] (cutS t0 0 2)).bind fun b3 => some b3 else none else some false
noncomputable def z6y (t0 : ByteArray) (t1 : Int) : Option (Int) :=
  some (byteIx t0 t1)
noncomputable def strings_IndexByte (t0 : ByteArray) (t1 : Int) : Option (Int) :=
  (z6y t0 t1).bind fun b1 => some b1
noncomputable def token_next (t0 : ByteArray) : Option (Int × Int × Int) :=
  if 0 ≤ (0 : Int) ∧ (0 : Int) < (t0.size : Int) then (z98 (z2c t0 0)).bind fun b2 => if b2 = true then (token_run t0 token_part).bind fun b5 => if 20 < b5 then some (0, 0, 3) else some (1, b5, 0) else (z8x (z2c t0 0)).bind fun b8 => if b8 = true then (token_run t0 z8x).bind fun b11 => if 9 < b11 then some (0, 0, 3) else some (2, b11, 0) else if z2c t0 0 = 34 then (token_quoted t0).bind fun b15 => some (3, b15.1, b15.2) else (token_pair t0).bind fun b17 => if b17 = true then some (4, 2, 0) else (strings_IndexByte (ByteArray.mk #[123, 125, 40, 41, 91, 93, 44, 59, 58, 61, 43, 45, 42, 60, 62, 33, 38, 124, 46, 63]) (z2c t0 0)).bind fun b20 => if 0 ≤ b20 then some (4, 1, 0) else some (0, 0, 2) else none
noncomputable def token_whole_j9 (t0 : z1c) (v9 : ByteArray) : Option (ByteArray × Bool) :=
  if v9 = (ByteArray.mk #[]) then some ((ByteArray.mk #[]), false) else (token_next v9).bind fun b11 => if b11.2.2 = 0 then if b11.1 = t0.Kind then some (v9, (decide (b11.2.1 = (v9.size : Int)))) else some (v9, false) else some (v9, false)
noncomputable def token_whole (t0 : z1c) : Option (ByteArray × Bool) :=
  if t0.Kind = 3 then if (ByteArray.mk #[34]).size + t0.Text.size ≤ 140737488355328 then if ((ByteArray.mk #[34]) ++ t0.Text).size + (ByteArray.mk #[34]).size ≤ 140737488355328 then token_whole_j9 t0 (((ByteArray.mk #[34]) ++ t0.Text) ++ (ByteArray.mk #[34])) else none else none else token_whole_j9 t0 t0.Text
noncomputable def z4u (t0 : ByteArray) : Option (Bool) :=
  (token_whole (z1c.mk 1 t0 0)).bind fun b1 => some b1.2
noncomputable def slices_IndexFunc_api_NodeType_l1 (t0 : (List z15)) (t1 : (z15 → Option Bool)) (x1 : Int) : Option (Int ⊕ Int) :=
  if x1 < (t0.length : Int) then if 0 ≤ x1 ∧ x1 < (t0.length : Int) then (t1 (nth t0 x1)).bind fun b10 => if b10 = true then some (.inr x1) else some (.inl (x1 + 1)) else none else some (.inr (-1))
noncomputable def z6g (t0 : (List z15)) (t1 : (z15 → Option Bool)) : Option (Int) :=
  z2l (slices_IndexFunc_api_NodeType_l1 t0 t1) 0
noncomputable def z3u (t0 : (List z15)) (t1 : (z15 → Option Bool)) : Option (Bool) :=
  (z6g t0 t1).bind fun b1 => some (decide (0 ≤ b1))
noncomputable def types_node_1 (t0 : z15) (t1 : z15) : Option (Bool) :=
  some (decide (t0.Name = t1.Name))
noncomputable def types_attrs_j6 (t0 : z06) (t1 : Int) (v6 : (List z0r)) : Option (List z0r) :=
  if (v6.length + ((nth t0.Nodes t1).Attrs).length) * 56 ≤ 140737488355328 then some (v6 ++ (nth t0.Nodes t1).Attrs) else none
noncomputable def z9n (q_types_attrs : z06 → Int → Option (List z0r)) (t0 : z06) (t1 : Int) : Option ((List z0r)) :=
  if 0 ≤ t1 ∧ t1 < (t0.Nodes.length : Int) then if 0 ≤ (nth t0.Nodes t1).Parent then (q_types_attrs t0 ((nth t0.Nodes t1).Parent)).bind fun b3 => types_attrs_j6 t0 t1 b3 else types_attrs_j6 t0 t1 [] else none
noncomputable def z42 : Nat → (z06 → Int → Option (List z0r))
  | 0 => (fun _ _ => none)
  | n + 1 => (fun t0 t1 => z9n (z42 n) t0 t1)
noncomputable def types_attrs (t0 : z06) (t1 : Int) : Option ((List z0r)) := Ev fun n => (z42 n) t0 t1
noncomputable def slices_IndexFunc_api_Attr_l1 (t0 : (List z0r)) (t1 : (z0r → Option Bool)) (x1 : Int) : Option (Int ⊕ Int) :=
  if x1 < (t0.length : Int) then if 0 ≤ x1 ∧ x1 < (t0.length : Int) then (t1 (nth t0 x1)).bind fun b10 => if b10 = true then some (.inr x1) else some (.inl (x1 + 1)) else none else some (.inr (-1))
noncomputable def z88 (t0 : (List z0r)) (t1 : (z0r → Option Bool)) : Option (Int) :=
  z2l (slices_IndexFunc_api_Attr_l1 t0 t1) 0
noncomputable def z4o (t0 : (List z0r)) (t1 : (z0r → Option Bool)) : Option (Bool) :=
  (z88 t0 t1).bind fun b1 => some (decide (0 ≤ b1))
noncomputable def z5n (t0 : z0r) (t1 : z0r) : Option (Bool) :=
  some (decide (t0.Name = t1.Name))
noncomputable def types_names_l2 (t0 : (List ByteArray)) (x2 : Int) : Option (Int ⊕ Int) :=
  if x2 < (t0.length : Int) then if 0 ≤ x2 ∧ x2 < (t0.length : Int) then (z4u (nth t0 x2)).bind fun b15 => if (!b15) = true then some (.inr 2) else if 0 ≤ (0 : Int) ∧ (0 : Int) ≤ x2 ∧ x2 ≤ (t0.length : Int) then (z3y (cut t0 0 x2) (nth t0 x2)).bind fun b19 => if b19 = true then some (.inr 5) else some (.inl (x2 + 1)) else none else none else some (.inr 0)
noncomputable def z8w (t0 : (List ByteArray)) : Option (Int) :=
  if 20 < (t0.length : Int) then some 3 else z2l (types_names_l2 t0) 0
noncomputable def z61  (v28 : Bool) : Option Int :=
  if (!v28) = true then some 6 else some 0
noncomputable def z62  (v25 : Bool) : Option Int :=
  z61 v25
noncomputable def z4w (t0 : z0r) (v21 : Bool) : Option Int :=
  if 0 < (t0.Names.length : Int) then if t0.Low = 0 then z62 (decide (t0.High = (t0.Names.length : Int) - 1)) else z62 false else z61 v21
noncomputable def z4x (t0 : z0r) (t1 : (List z0r)) : Option (Int) :=
  (z4u t0.Name).bind fun b1 => if (!b1) = true then some 2 else (z4o t1 (fun x => z5n x t0)).bind fun b4 => if b4 = true then some 5 else (z8w t0.Names).bind fun b7 => if ¬ (b7 = 0) then some b7 else if (-1000000) ≤ t0.Low then if t0.Low ≤ t0.High then z4w t0 (decide (t0.High ≤ 1000000)) else z4w t0 false else z4w t0 false
noncomputable def types_node_l18 (b13 : (List z0r)) (x18 : Int) : Option (Int ⊕ Int) :=
  if x18 < (b13.length : Int) then if 0 ≤ x18 ∧ x18 < (b13.length : Int) then if 0 ≤ (0 : Int) ∧ (0 : Int) ≤ x18 ∧ x18 ≤ (b13.length : Int) then (z4x (nth b13 x18) (cut b13 0 x18)).bind fun b31 => if ¬ (b31 = 0) then some (.inr b31) else some (.inl (x18 + 1)) else none else none else some (.inr 0)
noncomputable def types_node (t0 : z06) (t1 : Int) : Option (Int) :=
  if 0 ≤ t1 ∧ t1 < (t0.Nodes.length : Int) then (z4u ((nth t0.Nodes t1).Name)).bind fun b2 => if (!b2) = true then some 2 else if 0 ≤ (0 : Int) ∧ (0 : Int) ≤ t1 ∧ t1 ≤ (t0.Nodes.length : Int) then (z3u (cut t0.Nodes 0 t1) (fun x => types_node_1 x (nth t0.Nodes t1))).bind fun b7 => if b7 = true then some 5 else if (nth t0.Nodes t1).Parent < (-1) then some 6 else if t1 ≤ (nth t0.Nodes t1).Parent then some 6 else if 4 < (((nth t0.Nodes t1).Attrs).length : Int) then some 3 else (types_attrs t0 t1).bind fun b13 => if 8 < (b13.length : Int) then some 3 else (some (w64 ((b13.length : Int) - (((nth t0.Nodes t1).Attrs).length : Int)))).bind fun b16 => z2l (types_node_l18 b13) b16 else none else none
noncomputable def z3s (t0 : Int) (t1 : z06) : Option (Bool) :=
  if 0 ≤ t0 then some (decide (t0 < (t1.Nodes.length : Int))) else some false
noncomputable def slices_IndexFunc_api_EdgeType_l1 (t0 : (List z1g)) (t1 : (z1g → Option Bool)) (x1 : Int) : Option (Int ⊕ Int) :=
  if x1 < (t0.length : Int) then if 0 ≤ x1 ∧ x1 < (t0.length : Int) then (t1 (nth t0 x1)).bind fun b10 => if b10 = true then some (.inr x1) else some (.inl (x1 + 1)) else none else some (.inr (-1))
noncomputable def z6h (t0 : (List z1g)) (t1 : (z1g → Option Bool)) : Option (Int) :=
  z2l (slices_IndexFunc_api_EdgeType_l1 t0 t1) 0
noncomputable def z3v (t0 : (List z1g)) (t1 : (z1g → Option Bool)) : Option (Bool) :=
  (z6h t0 t1).bind fun b1 => some (decide (0 ≤ b1))
noncomputable def types_edge_2 (t0 : z1g) (t1 : z1g) : Option (Bool) :=
  some (decide (t0.Name = t1.Name))
noncomputable def z9m (t0 : Int) (t1 : Int) : Option (Bool) :=
  if 0 ≤ t0 then if t0 ≤ 40 then if t1 = (-1) then some true else if t0 ≤ t1 then some (decide (t1 ≤ 40)) else some false else some false else some false
noncomputable def types_edge_j26  (v26 : Bool) : Option Int :=
  if v26 = true then some 6 else some 0
noncomputable def types_edge_j16  (v16 : Bool) : Option Int :=
  types_edge_j26 v16
noncomputable def types_edge_j23  (v23 : Bool) : Option Int :=
  types_edge_j26 v23
noncomputable def types_edge (t0 : z06) (t1 : Int) : Option (Int) :=
  if 0 ≤ t1 ∧ t1 < (t0.Edges.length : Int) then (z4u ((nth t0.Edges t1).Name)).bind fun b2 => if (!b2) = true then some 2 else if 0 ≤ (0 : Int) ∧ (0 : Int) ≤ t1 ∧ t1 ≤ (t0.Edges.length : Int) then (z3v (cut t0.Edges 0 t1) (fun x => types_edge_2 x (nth t0.Edges t1))).bind fun b7 => if b7 = true then some 5 else ((fun x => z3s x t0) ((nth t0.Edges t1).From)).bind fun b10 => if (!b10) = true then types_edge_j16 true else ((fun x => z3s x t0) ((nth t0.Edges t1).To)).bind fun b13 => if (!b13) = true then types_edge_j16 (!b13) else (z9m ((nth t0.Edges t1).OutLow) ((nth t0.Edges t1).OutHigh)).bind fun b18 => if (!b18) = true then types_edge_j23 true else (z9m ((nth t0.Edges t1).InLow) ((nth t0.Edges t1).InHigh)).bind fun b21 => types_edge_j23 (!b21) else none else none
noncomputable def types_Valid_l18 (t0 : z06) (x18 : Int) : Option (Int ⊕ (ByteArray × Int)) :=
  if x18 < (t0.Edges.length : Int) then if 0 ≤ x18 ∧ x18 < (t0.Edges.length : Int) then (types_edge t0 x18).bind fun b27 => if ¬ (b27 = 0) then some (.inr ((nth t0.Edges x18).Name, b27)) else some (.inl (x18 + 1)) else none else some (.inr ((ByteArray.mk #[]), 0))
noncomputable def types_Valid_l4 (t0 : z06) (x4 : Int) : Option (Int ⊕ (ByteArray × Int)) :=
  if x4 < (t0.Nodes.length : Int) then if 0 ≤ x4 ∧ x4 < (t0.Nodes.length : Int) then (types_node t0 x4).bind fun b13 => if ¬ (b13 = 0) then some (.inr ((nth t0.Nodes x4).Name, b13)) else some (.inl (x4 + 1)) else none else (z2l (types_Valid_l18 t0) 0).map .inr
noncomputable def z5c (t0 : z06) : Option (ByteArray × Int) :=
  if (t0.Nodes.length : Int) = 0 then some ((ByteArray.mk #[]), 7) else if 12 < (t0.Nodes.length : Int) then some ((ByteArray.mk #[]), 3) else if 20 < (t0.Edges.length : Int) then some ((ByteArray.mk #[]), 3) else z2l (types_Valid_l4 t0) 0
noncomputable def z8y (t0 : (List Int)) (t1 : Int) (x1 : Int) : Option (Int ⊕ Int) :=
  if x1 < (t0.length : Int) then if 0 ≤ x1 ∧ x1 < (t0.length : Int) then if t1 = (nth t0 x1) then some (.inr x1) else some (.inl (x1 + 1)) else none else some (.inr (-1))
noncomputable def z6f (t0 : (List Int)) (t1 : Int) : Option (Int) :=
  z2l (z8y t0 t1) 0
noncomputable def z3z (t0 : (List Int)) (t1 : Int) : Option (Bool) :=
  (z6f t0 t1).bind fun b1 => some (decide (0 ≤ b1))
noncomputable def z9q (x1 : (List Int) × Int) (v14 : (List Int)) : Option (((List Int) × Int) ⊕ (List Int)) :=
  some (.inl (v14, x1.2 + 1))
noncomputable def rule_others_l1 (t0 : (List Int)) (t1 : Int) (x1 : (List Int) × Int) : Option (((List Int) × Int) ⊕ (List Int)) :=
  if x1.2 < t1 then (z3z t0 x1.2).bind fun b10 => if (!b10) = true then if (x1.1.length + 1) * 8 ≤ 140737488355328 then z9q x1 (x1.1 ++ [x1.2]) else none else z9q x1 x1.1 else some (.inr x1.1)
noncomputable def z8z (t0 : (List Int)) (t1 : Int) : Option ((List Int)) :=
  z2l (rule_others_l1 t0 t1) ([], 0)
noncomputable def rule_created (t0 : z10) : Option ((List Int) × (List Int)) :=
  (z8z t0.Into.Nodes (t0.Right.Graph.Nodes.length : Int)).bind fun b1 => (z8z t0.Into.Edges (t0.Right.Graph.Edges.length : Int)).bind fun b3 => some (b1, b3)
noncomputable def z65 (t0 : (List Int)) (t1 : (Int → Option Bool)) (x1 : Int) : Option (Int ⊕ Int) :=
  if x1 < (t0.length : Int) then if 0 ≤ x1 ∧ x1 < (t0.length : Int) then (t1 (nth t0 x1)).bind fun b10 => if b10 = true then some (.inr x1) else some (.inl (x1 + 1)) else none else some (.inr (-1))
noncomputable def z5i (t0 : (List Int)) (t1 : (Int → Option Bool)) : Option (Int) :=
  z2l (z65 t0 t1) 0
noncomputable def z1p (t0 : (List Int)) (t1 : (Int → Option Bool)) : Option (Bool) :=
  (z5i t0 t1).bind fun b1 => some (decide (0 ≤ b1))
noncomputable def z75 (t0 : Int) (t1 : Int) : Option (Bool) :=
  if 0 ≤ t0 then some (decide (t0 ≤ t1)) else some false
noncomputable def graph_Valid_1 (t0 : Int) : Option (Bool) :=
  (z75 t0 99).bind fun b1 => some (!b1)
noncomputable def z4n (t0 : (List z1e)) (t1 : (z1e → Option Bool)) (x1 : Int) : Option (Int ⊕ Int) :=
  if x1 < (t0.length : Int) then if 0 ≤ x1 ∧ x1 < (t0.length : Int) then (t1 (nth t0 x1)).bind fun b10 => if b10 = true then some (.inr x1) else some (.inl (x1 + 1)) else none else some (.inr (-1))
noncomputable def z43 (t0 : (List z1e)) (t1 : (z1e → Option Bool)) : Option (Int) :=
  z2l (z4n t0 t1) 0
noncomputable def z1u (t0 : (List z1e)) (t1 : (z1e → Option Bool)) : Option (Bool) :=
  (z43 t0 t1).bind fun b1 => some (decide (0 ≤ b1))
noncomputable def graph_fits (t0 : z1e) (t1 : Int) : Option (Bool) :=
  (z75 t0.Type_ 99).bind fun b1 => if b1 = true then (some (w64 (t1 - 1))).bind fun b4 => (z75 t0.From b4).bind fun b6 => if b6 = true then (some (w64 (t1 - 1))).bind fun b9 => (z75 t0.To b9).bind fun b11 => some b11 else some false else some false
noncomputable def zad (t0 : z1e) (t1 : z0p) : Option (Bool) :=
  (graph_fits t0 (t1.Nodes.length : Int)).bind fun b1 => some (!b1)
noncomputable def z76 (t0 : z0p) : Option (Int) :=
  if 40 < (t0.Nodes.length : Int) then some 3 else if 80 < (t0.Edges.length : Int) then some 3 else (z1p t0.Nodes graph_Valid_1).bind fun b3 => if b3 = true then some 6 else (z1u t0.Edges (fun x => zad x t0)).bind fun b6 => if b6 = true then some 6 else some 0
noncomputable def z5v (t0 : Int) (t1 : z06) : Option (Bool) :=
  some (decide ((t1.Nodes.length : Int) ≤ t0))
noncomputable def z5u (t0 : z1e) (t1 : z06) : Option (Bool) :=
  some (decide ((t1.Edges.length : Int) ≤ t0.Type_))
noncomputable def z3t (t0 : Int) (t1 : Int) (t2 : Int) : Option (Bool) :=
  if t1 ≤ t0 then some (decide (t0 ≤ t2)) else some false
noncomputable def z9l (t0 : Int) (t1 : z06) : Option (Bool) :=
  if t0 < 0 then some true else some (decide ((t1.Nodes.length : Int) ≤ t0))
noncomputable def types_given (t0 : z06) (t1 : (List Int)) : Option (Int) :=
  (z5c t0).bind fun b1 => if ¬ (b1.2 = 0) then some b1.2 else (z1p t1 (fun x => z9l x t0)).bind fun b4 => if b4 = true then some 6 else some 0
noncomputable def z66 (t0 : (List ByteArray)) : Option ((List ByteArray)) :=
  if t0.length * 16 ≤ 140737488355328 then some t0 else none
noncomputable def types_Attrs_l6 (b4 : (List z0r)) (x6 : (List z0r) × Int) : Option (((List z0r) × Int) ⊕ ((List z0r) × Int)) :=
  if x6.2 < (b4.length : Int) then if 0 ≤ x6.2 ∧ x6.2 < (x6.1.length : Int) then (z66 ((nth x6.1 x6.2).Names)).bind fun b14 => some (.inl ((x6.1.set x6.2.toNat (z0r.mk ((nth x6.1 x6.2).Name) ((nth x6.1 x6.2).Low) ((nth x6.1 x6.2).High) b14)), x6.2 + 1)) else none else some (.inr (x6.1, 0))
noncomputable def types_Attrs (t0 : z06) (t1 : Int) : Option ((List z0r) × Int) :=
  (types_given t0 [t1]).bind fun b1 => if ¬ (b1 = 0) then some ([], b1) else (types_attrs t0 t1).bind fun b4 => z2l (types_Attrs_l6 b4) (b4, 0)
noncomputable def attribute_attr (t0 : z06) (t1 : z0q) (t2 : z38) : Option (z0r × Bool) :=
  (some (w64 ((t1.Graph.Nodes.length : Int) - 1))).bind fun b1 => (z3t t2.Node 0 b1).bind fun b3 => if (!b3) = true then some ((z0r.mk (ByteArray.mk #[]) 0 0 []), false) else if 0 ≤ t2.Node ∧ t2.Node < (t1.Graph.Nodes.length : Int) then (types_Attrs t0 (nth t1.Graph.Nodes t2.Node)).bind fun b7 => (some (w64 ((b7.1.length : Int) - 1))).bind fun b9 => (z3t t2.Attr 0 b9).bind fun b11 => if (!b11) = true then some ((z0r.mk (ByteArray.mk #[]) 0 0 []), false) else if 0 ≤ t2.Attr ∧ t2.Attr < (b7.1.length : Int) then some ((nth b7.1 t2.Attr), true) else none else none
noncomputable def z78 (t0 : Int) (t1 : z4i) : Option (Bool) :=
  if (-1) ≤ t1.Var then if t1.Var < t0 then if (-1000000) ≤ t1.Add then some (decide (t1.Add ≤ 1000000)) else some false else some false else some false
noncomputable def z5s (t0 : Int) (t1 : z3x) (v9 : Unit) : Option Int :=
  (z78 t0 t1.Left).bind fun b10 => if (!b10) = true then some 6 else (z78 t0 t1.Right).bind fun b13 => if (!b13) = true then some 6 else some 0
noncomputable def difference_one (t0 : Int) (t1 : z3x) : Option (Int) :=
  if ¬ (t1.Kind = 1) then if ¬ (t1.Kind = 2) then some 1 else z5s t0 t1 () else z5s t0 t1 ()
noncomputable def z93 (t0 : Int) (t1 : (List z3x)) (x4 : Int) : Option (Int ⊕ Int) :=
  if x4 < (t1.length : Int) then if 0 ≤ x4 ∧ x4 < (t1.length : Int) then (difference_one t0 (nth t1 x4)).bind fun b13 => if ¬ (b13 = 0) then some (.inr b13) else some (.inl (x4 + 1)) else none else some (.inr 0)
noncomputable def z8t (t0 : Int) (t1 : (List z3x)) : Option (Int) :=
  if t0 < 0 then some 6 else if 12 < t0 then some 6 else if 40 < (t1.length : Int) then some 3 else z2l (z93 t0 t1) 0
noncomputable def z7y (t0 : (List Bool)) (t1 : Bool) (x1 : Int) : Option (Int ⊕ Int) :=
  if x1 < (t0.length : Int) then if 0 ≤ x1 ∧ x1 < (t0.length : Int) then if (t1 == (nth t0 x1)) = true then some (.inr x1) else some (.inl (x1 + 1)) else none else some (.inr (-1))
noncomputable def z7g (t0 : (List Bool)) (t1 : Bool) : Option (Int) :=
  z2l (z7y t0 t1) 0
noncomputable def z5j (t0 : (List Bool)) (t1 : Bool) : Option (Bool) :=
  (z7g t0 t1).bind fun b1 => some (decide (0 ≤ b1))
noncomputable def z6e (x19 : (List Bool) × Int) (v53 : (List Bool)) : Option (((List Bool) × Int) ⊕ Int) :=
  some (.inl (v53, x19.2 + 1))
noncomputable def z95 (t0 : z06) (t1 : z0q) (x19 : (List Bool) × Int) : Option (((List Bool) × Int) ⊕ Int) :=
  if x19.2 < (t1.Slots.length : Int) then if 0 ≤ x19.2 ∧ x19.2 < (t1.Slots.length : Int) then (attribute_attr t0 t1 (nth t1.Slots x19.2)).bind fun b40 => if (!b40.2) = true then some (.inr 6) else (some (w64 (t1.Vars - 1))).bind fun b43 => (z3t (((nth t1.Slots x19.2).Term).Var) (-1) b43).bind fun b45 => if (!b45) = true then some (.inr 6) else (z3t (((nth t1.Slots x19.2).Term).Add) (-1000000) 1000000).bind fun b48 => if (!b48) = true then some (.inr 6) else if 0 ≤ ((nth t1.Slots x19.2).Term).Var then if 0 ≤ ((nth t1.Slots x19.2).Term).Var ∧ ((nth t1.Slots x19.2).Term).Var < (x19.1.length : Int) then z6e x19 (x19.1.set (((nth t1.Slots x19.2).Term).Var).toNat true) else none else z6e x19 x19.1 else none else ((z8t t1.Vars t1.Tests).bind fun b57 => if ¬ (b57 = 0) then some b57 else (z5j x19.1 false).bind fun b60 => if b60 = true then some 9 else some 0).map .inr
noncomputable def z5w (t0 : z06) (t1 : z0q) : Option (Int) :=
  (z5c t0).bind fun b1 => if ¬ (b1.2 = 0) then some b1.2 else (z76 t1.Graph).bind fun b4 => if ¬ (b4 = 0) then some b4 else (z1p t1.Graph.Nodes (fun x => z5v x t0)).bind fun b7 => if b7 = true then some 13 else (z1u t1.Graph.Edges (fun x => z5u x t0)).bind fun b10 => if b10 = true then some 13 else (z3t t1.Vars 0 12).bind fun b13 => if (!b13) = true then some 6 else if 10 < (t1.Slots.length : Int) then some 3 else if 10 < (t1.Tests.length : Int) then some 3 else if 0 ≤ t1.Vars ∧ t1.Vars * 1 ≤ 140737488355328 then z2l (z95 t0 t1) ((List.replicate t1.Vars.toNat false), 0) else none
noncomputable def rule_typed_1 (t0 : Int) (t1 : z06) : Option (Bool) :=
  some (decide ((t1.Nodes.length : Int) ≤ t0))
noncomputable def rule_typed_2 (t0 : z1e) (t1 : z06) : Option (Bool) :=
  some (decide ((t1.Edges.length : Int) ≤ t0.Type_))
noncomputable def rule_typed (t0 : z06) (t1 : z0p) : Option (Bool) :=
  (z1p t1.Nodes (fun x => rule_typed_1 x t0)).bind fun b1 => if (!b1) = true then (z1u t1.Edges (fun x => rule_typed_2 x t0)).bind fun b4 => some (!b4) else some false
noncomputable def slices_IndexFunc_api_Slot_l1 (t0 : (List z38)) (t1 : (z38 → Option Bool)) (x1 : Int) : Option (Int ⊕ Int) :=
  if x1 < (t0.length : Int) then if 0 ≤ x1 ∧ x1 < (t0.length : Int) then (t1 (nth t0 x1)).bind fun b10 => if b10 = true then some (.inr x1) else some (.inl (x1 + 1)) else none else some (.inr (-1))
noncomputable def z87 (t0 : (List z38)) (t1 : (z38 → Option Bool)) : Option (Int) :=
  z2l (slices_IndexFunc_api_Slot_l1 t0 t1) 0
noncomputable def z3m (t0 : (List z38)) (t1 : (z38 → Option Bool)) : Option (Bool) :=
  (z87 t0 t1).bind fun b1 => some (decide (0 ≤ b1))
noncomputable def rule_slot_1 (t0 : z38) (t1 : z38) : Option (Bool) :=
  if t0.Node = t1.Node then some (decide (t0.Attr = t1.Attr)) else some false
noncomputable def rule_slot (t0 : z06) (t1 : z10) (t2 : Int) : Option (Int) :=
  if 0 ≤ t2 ∧ t2 < (t1.Right.Slots.length : Int) then if (nth t1.Right.Slots t2).Node < 0 then some 6 else if (t1.Right.Graph.Nodes.length : Int) ≤ (nth t1.Right.Slots t2).Node then some 6 else if 0 ≤ (nth t1.Right.Slots t2).Node ∧ (nth t1.Right.Slots t2).Node < (t1.Right.Graph.Nodes.length : Int) then (types_Attrs t0 (nth t1.Right.Graph.Nodes ((nth t1.Right.Slots t2).Node))).bind fun b5 => if (nth t1.Right.Slots t2).Attr < 0 then some 6 else if (b5.1.length : Int) ≤ (nth t1.Right.Slots t2).Attr then some 6 else if ((nth t1.Right.Slots t2).Term).Var < (-1) then some 6 else if t1.Right.Vars ≤ ((nth t1.Right.Slots t2).Term).Var then some 6 else if ((nth t1.Right.Slots t2).Term).Add < (-1000000) then some 6 else if 1000000 < ((nth t1.Right.Slots t2).Term).Add then some 6 else if 0 ≤ (0 : Int) ∧ (0 : Int) ≤ t2 ∧ t2 ≤ (t1.Right.Slots.length : Int) then (z3m (cut t1.Right.Slots 0 t2) (fun x => rule_slot_1 x (nth t1.Right.Slots t2))).bind fun b15 => if b15 = true then some 5 else some 0 else none else none else none
noncomputable def rule_right_l10 (t0 : z06) (t1 : z10) (x10 : Int) : Option (Int ⊕ Int) :=
  if x10 < (t1.Right.Slots.length : Int) then (rule_slot t0 t1 x10).bind fun b17 => if ¬ (b17 = 0) then some (.inr b17) else some (.inl (x10 + 1)) else some (.inr 0)
noncomputable def rule_right (t0 : z06) (t1 : z10) : Option (Int) :=
  (z76 t1.Right.Graph).bind fun b1 => if ¬ (b1 = 0) then some b1 else (rule_typed t0 t1.Right.Graph).bind fun b4 => if (!b4) = true then some 13 else if ¬ (t1.Right.Vars = t1.Left.Vars) then some 1 else if 0 < (t1.Right.Tests.length : Int) then some 1 else if 10 < (t1.Right.Slots.length : Int) then some 3 else z2l (rule_right_l10 t0 t1) 0
noncomputable def z36 (t0 : (List Int)) : Option ((List Int)) :=
  if t0.length * 8 ≤ 140737488355328 then some t0 else none
noncomputable def subgraph_list_j20 (x1 : Int) (v20 : Unit) : Option (Int ⊕ Int) :=
  some (.inl (x1 + 1))
noncomputable def subgraph_list_l1 (t0 : (List Int)) (t1 : Int) (x1 : Int) : Option (Int ⊕ Int) :=
  if x1 < (t0.length : Int) then if 0 ≤ x1 ∧ x1 < (t0.length : Int) then if (nth t0 x1) < 0 then some (.inr 6) else if t1 ≤ (nth t0 x1) then some (.inr 6) else if 0 < x1 then if 0 ≤ x1 - 1 ∧ x1 - 1 < (t0.length : Int) then if (nth t0 x1) ≤ (nth t0 (x1 - 1)) then some (.inr 12) else subgraph_list_j20 x1 () else none else subgraph_list_j20 x1 () else none else some (.inr 0)
noncomputable def z7f (t0 : (List Int)) (t1 : Int) : Option (Int) :=
  z2l (subgraph_list_l1 t0 t1) 0
noncomputable def cmp_isNaN_int (t0 : Int) : Option (Bool) :=
  some (decide (¬ (t0 = t0)))
noncomputable def cmp_Less_int (t0 : Int) (t1 : Int) : Option (Bool) :=
  (cmp_isNaN_int t0).bind fun b1 => if b1 = true then (cmp_isNaN_int t1).bind fun b4 => if (!b4) = true then some true else some (decide (t0 < t1)) else some (decide (t0 < t1))
noncomputable def z8i (t0 : Int) : Option (Bool) :=
  some (decide (¬ (t0 = t0)))
noncomputable def z4y  (v35 : Int × Int) : Option ((Int × Int) ⊕ (Int × Bool)) :=
  some (.inl (v35.1, v35.2))
noncomputable def z7x (t0 : (List Int)) (t1 : Int) (x1 : Int × Int) : Option ((Int × Int) ⊕ (Int × Bool)) :=
  if x1.1 < x1.2 then (some (w64 (x1.1 + x1.2))).bind fun b21 => (some (IntKind.wrap .u64 b21)).bind fun b23 => (some ((b23).fdiv (2 ^ (min (1 : Int).toNat (IntKind.bits .u64))))).bind fun b25 => (some (IntKind.wrap .i64 b25)).bind fun b27 => if 0 ≤ b27 ∧ b27 < (t0.length : Int) then (cmp_Less_int (nth t0 b27) t1).bind fun b30 => if b30 = true then (some (w64 (b27 + 1))).bind fun b33 => z4y (b33, x1.2) else z4y (x1.1, b27) else none else (if x1.1 < (t0.length : Int) then if 0 ≤ x1.1 ∧ x1.1 < (t0.length : Int) then if (nth t0 x1.1) = t1 then some (x1.1, true) else (z8i (nth t0 x1.1)).bind fun b40 => if b40 = true then (z8i t1).bind fun b43 => some (x1.1, b43) else some (x1.1, false) else none else some (x1.1, false)).map .inr
noncomputable def z37 (t0 : (List Int)) (t1 : Int) : Option (Int × Bool) :=
  z2l (z7x t0 t1) (0, (t0.length : Int))
noncomputable def subgraph_has (t0 : (List Int)) (t1 : Int) : Option (Bool) :=
  (z37 t0 t1).bind fun b1 => some b1.2
noncomputable def subgraph_part_l7 (t0 : z0p) (t1 : z2d) (x7 : Int) : Option (Int ⊕ Int) :=
  if x7 < (t1.Edges.length : Int) then if 0 ≤ x7 ∧ x7 < (t1.Edges.length : Int) then if 0 ≤ (nth t1.Edges x7) ∧ (nth t1.Edges x7) < (t0.Edges.length : Int) then (subgraph_has t1.Nodes ((nth t0.Edges (nth t1.Edges x7)).From)).bind fun b21 => if (!b21) = true then some (.inr 14) else (subgraph_has t1.Nodes ((nth t0.Edges (nth t1.Edges x7)).To)).bind fun b24 => if (!b24) = true then some (.inr 14) else some (.inl (x7 + 1)) else none else none else some (.inr 0)
noncomputable def subgraph_part (t0 : z0p) (t1 : z2d) : Option (Int) :=
  (z7f t1.Nodes (t0.Nodes.length : Int)).bind fun b1 => if ¬ (b1 = 0) then some b1 else (z7f t1.Edges (t0.Edges.length : Int)).bind fun b4 => if ¬ (b4 = 0) then some b4 else z2l (subgraph_part_l7 t0 t1) 0
noncomputable def subgraph_Valid (t0 : z0p) (t1 : z2d) : Option (Int) :=
  (z76 t0).bind fun b1 => if ¬ (b1 = 0) then some b1 else (subgraph_part t0 t1).bind fun b4 => some b4
noncomputable def z5h (t0 : z0p) (t1 : z2d) (x4 : (List Int) × Int) (x15 : (List z1e) × Int) : Option (((List z1e) × Int) ⊕ (z0p × z0t × Int)) :=
  if x15.2 < (t1.Edges.length : Int) then if 0 ≤ x15.2 ∧ x15.2 < (t1.Edges.length : Int) then if 0 ≤ (nth t1.Edges x15.2) ∧ (nth t1.Edges x15.2) < (t0.Edges.length : Int) then (z37 t1.Nodes ((nth t0.Edges (nth t1.Edges x15.2)).From)).bind fun b27 => (z37 t1.Nodes ((nth t0.Edges (nth t1.Edges x15.2)).To)).bind fun b29 => if (x15.1.length + 1) * 24 ≤ 140737488355328 then some (.inl ((x15.1 ++ [(z1e.mk ((nth t0.Edges (nth t1.Edges x15.2)).Type_) b27.1 b29.1)]), x15.2 + 1)) else none else none else none else ((z36 t1.Nodes).bind fun b34 => (z36 t1.Edges).bind fun b36 => some ((z0p.mk x4.1 x15.1), (z0t.mk b34 b36), 0)).map .inr
noncomputable def z63 (t0 : z0p) (t1 : z2d) (x4 : (List Int) × Int) : Option (((List Int) × Int) ⊕ (z0p × z0t × Int)) :=
  if x4.2 < (t1.Nodes.length : Int) then if 0 ≤ x4.2 ∧ x4.2 < (t1.Nodes.length : Int) then if 0 ≤ (nth t1.Nodes x4.2) ∧ (nth t1.Nodes x4.2) < (t0.Nodes.length : Int) then if (x4.1.length + 1) * 8 ≤ 140737488355328 then some (.inl ((x4.1 ++ [(nth t0.Nodes (nth t1.Nodes x4.2))]), x4.2 + 1)) else none else none else none else (z2l (z5h t0 t1 x4) ([], 0)).map .inr
noncomputable def z8h (t0 : z0p) (t1 : z2d) : Option (z0p × z0t × Int) :=
  (subgraph_Valid t0 t1).bind fun b1 => if ¬ (b1 = 0) then some ((z0p.mk [] []), (z0t.mk [] []), b1) else z2l (z63 t0 t1) ([], 0)
noncomputable def z6x (t0 : z0p) (t1 : z0p) (t2 : z0t) (x27 : Int) : Option (Int ⊕ Int) :=
  if x27 < (t2.Edges.length : Int) then if 0 ≤ x27 ∧ x27 < (t2.Edges.length : Int) then if (nth t2.Edges x27) < 0 then some (.inr 6) else if (t1.Edges.length : Int) ≤ (nth t2.Edges x27) then some (.inr 6) else if 0 ≤ x27 ∧ x27 < (t0.Edges.length : Int) then if 0 ≤ (nth t2.Edges x27) ∧ (nth t2.Edges x27) < (t1.Edges.length : Int) then if ¬ ((nth t0.Edges x27).Type_ = (nth t1.Edges (nth t2.Edges x27)).Type_) then some (.inr 13) else if 0 ≤ (nth t0.Edges x27).From ∧ (nth t0.Edges x27).From < (t2.Nodes.length : Int) then if ¬ ((nth t2.Nodes ((nth t0.Edges x27).From)) = (nth t1.Edges (nth t2.Edges x27)).From) then some (.inr 11) else if 0 ≤ (nth t0.Edges x27).To ∧ (nth t0.Edges x27).To < (t2.Nodes.length : Int) then if ¬ ((nth t2.Nodes ((nth t0.Edges x27).To)) = (nth t1.Edges (nth t2.Edges x27)).To) then some (.inr 11) else some (.inl (x27 + 1)) else none else none else none else none else none else some (.inr 0)
noncomputable def z7q (t0 : z0p) (t1 : z0p) (t2 : z0t) (x9 : Int) : Option (Int ⊕ Int) :=
  if x9 < (t2.Nodes.length : Int) then if 0 ≤ x9 ∧ x9 < (t2.Nodes.length : Int) then if (nth t2.Nodes x9) < 0 then some (.inr 6) else if (t1.Nodes.length : Int) ≤ (nth t2.Nodes x9) then some (.inr 6) else if 0 ≤ (nth t2.Nodes x9) ∧ (nth t2.Nodes x9) < (t1.Nodes.length : Int) then if 0 ≤ x9 ∧ x9 < (t0.Nodes.length : Int) then if ¬ ((nth t1.Nodes (nth t2.Nodes x9)) = (nth t0.Nodes x9)) then some (.inr 13) else some (.inl (x9 + 1)) else none else none else none else (z2l (z6x t0 t1 t2) 0).map .inr
noncomputable def z47 (t0 : z0p) (t1 : z0p) (t2 : z0t) : Option (Int) :=
  (z76 t0).bind fun b1 => if ¬ (b1 = 0) then some b1 else (z76 t1).bind fun b4 => if ¬ (b4 = 0) then some b4 else if ¬ ((t2.Nodes.length : Int) = (t0.Nodes.length : Int)) then some 20 else if ¬ ((t2.Edges.length : Int) = (t0.Edges.length : Int)) then some 20 else z2l (z7q t0 t1 t2) 0
noncomputable def slices_Sort_int (t0 : (List Int)) : Option ((List Int)) := sortI t0
noncomputable def slices_Compact_int (t0 : (List Int)) : Option ((List Int)) := compI t0
noncomputable def z73 (t0 : (List Int)) : Option (Int) :=
  (z36 t0).bind fun b1 => (slices_Sort_int b1).bind fun b3 => (slices_Compact_int b3).bind fun b5 => some (b5.length : Int)
noncomputable def z4f (t0 : z0p) (t1 : z0p) (t2 : z0t) : Option (Bool) :=
  (z47 t0 t1 t2).bind fun b1 => if b1 = 0 then (z73 t2.Nodes).bind fun b4 => if b4 = (t2.Nodes.length : Int) then (z73 t2.Edges).bind fun b7 => some (decide (b7 = (t2.Edges.length : Int))) else some false else some false
noncomputable def rule_kept (t0 : z10) : Option (Int) :=
  (z8h t0.Left.Graph t0.Keep).bind fun b1 => if ¬ (b1.2.2 = 0) then some b1.2.2 else (z47 b1.1 t0.Right.Graph t0.Into).bind fun b4 => if ¬ (b4 = 0) then some b4 else (z4f b1.1 t0.Right.Graph t0.Into).bind fun b7 => if (!b7) = true then some 11 else some 0
noncomputable def z8a (t0 : Int) (t1 : z06) (t2 : z0p) : Option (Bool) :=
  if 0 ≤ t0 ∧ t0 < (t2.Nodes.length : Int) then if 0 ≤ (nth t2.Nodes t0) ∧ (nth t2.Nodes t0) < (t1.Nodes.length : Int) then some ((nth t1.Nodes (nth t2.Nodes t0)).Abstract) else none else none
noncomputable def z6z  (x3 : (List Int) × Int × Int) : Option (((List Int) × Int × Int) ⊕ (List Int)) :=
  if x3.2.1 < x3.2.2 then if 0 ≤ x3.2.2 ∧ x3.2.2 < (x3.1.length : Int) then if 0 ≤ x3.2.1 ∧ x3.2.1 < (x3.1.length : Int) then if 0 ≤ x3.2.2 ∧ x3.2.2 < ((x3.1.set x3.2.1.toNat (nth x3.1 x3.2.2)).length : Int) then some (.inl (((x3.1.set x3.2.1.toNat (nth x3.1 x3.2.2)).set x3.2.2.toNat (nth x3.1 x3.2.1)), x3.2.1 + 1, x3.2.2 - 1)) else none else none else none else some (.inr x3.1)
noncomputable def z6w (t0 : (List Int)) : Option ((List Int)) :=
  (some (w64 ((t0.length : Int) - 1))).bind fun b1 => z2l z6z (t0, 0, b1)
noncomputable def types_line_l1 (t0 : z06) (x1 : Int × (List Int)) : Option ((Int × (List Int)) ⊕ (List Int)) :=
  if 0 ≤ x1.1 then if (x1.2.length + 1) * 8 ≤ 140737488355328 then if 0 ≤ x1.1 ∧ x1.1 < (t0.Nodes.length : Int) then some (.inl ((nth t0.Nodes x1.1).Parent, (x1.2 ++ [x1.1]))) else none else none else ((z6w x1.2).bind fun b8 => some b8).map .inr
noncomputable def types_line (t0 : z06) (t1 : Int) : Option ((List Int)) :=
  z2l (types_line_l1 t0) (t1, [])
noncomputable def types_is (t0 : z06) (t1 : Int) (t2 : Int) : Option (Bool) :=
  (types_line t0 t1).bind fun b1 => (z3z b1 t2).bind fun b3 => some b3
noncomputable def z97 (t0 : z06) (t1 : Int) (t2 : Int) (t3 : Int) : Option (Bool) :=
  (types_given t0 [t2, t3]).bind fun b1 => if ¬ (b1 = 0) then some false else if t1 < 0 then some false else if (t0.Edges.length : Int) ≤ t1 then some false else if 0 ≤ t1 ∧ t1 < (t0.Edges.length : Int) then (types_is t0 t2 ((nth t0.Edges t1).From)).bind fun b7 => if b7 = true then (types_is t0 t3 ((nth t0.Edges t1).To)).bind fun b10 => some b10 else some false else none
noncomputable def z89 (t0 : Int) (t1 : z0p) (t2 : z06) : Option (Bool) :=
  if 0 ≤ t0 ∧ t0 < (t1.Edges.length : Int) then if 0 ≤ (nth t1.Edges t0).From ∧ (nth t1.Edges t0).From < (t1.Nodes.length : Int) then if 0 ≤ (nth t1.Edges t0).To ∧ (nth t1.Edges t0).To < (t1.Nodes.length : Int) then (z97 t2 ((nth t1.Edges t0).Type_) (nth t1.Nodes ((nth t1.Edges t0).From)) (nth t1.Nodes ((nth t1.Edges t0).To))).bind fun b4 => some (!b4) else none else none else none
noncomputable def rule_makable (t0 : z06) (t1 : z0p) (t2 : (List Int)) (t3 : (List Int)) : Option (Bool) :=
  (z1p t2 (fun x => z8a x t0 t1)).bind fun b1 => if (!b1) = true then (z1p t3 (fun x => z89 x t1 t0)).bind fun b4 => some (!b4) else some false
noncomputable def z6m (t0 : z05) : Option (Bool) :=
  (some (w64 ((t0.Map.Nodes.length : Int) + (t0.Map.Edges.length : Int)))).bind fun b1 => (some (w64 (b1 + (t0.Pattern.Graph.Nodes.length : Int)))).bind fun b3 => (some (w64 (b3 + (t0.Pattern.Graph.Edges.length : Int)))).bind fun b5 => (some (w64 (b5 + (t0.Pattern.Slots.length : Int)))).bind fun b7 => (some (w64 (b7 + (t0.Pattern.Tests.length : Int)))).bind fun b9 => if b9 = 0 then some (decide (t0.Pattern.Vars = 0)) else some false
noncomputable def z57 (t0 : (List z05)) (t1 : (z05 → Option Bool)) (x1 : Int) : Option (Int ⊕ Int) :=
  if x1 < (t0.length : Int) then if 0 ≤ x1 ∧ x1 < (t0.length : Int) then (t1 (nth t0 x1)).bind fun b10 => if b10 = true then some (.inr x1) else some (.inl (x1 + 1)) else none else some (.inr (-1))
noncomputable def z48 (t0 : (List z05)) (t1 : (z05 → Option Bool)) : Option (Int) :=
  z2l (z57 t0 t1) 0
noncomputable def z31 (t0 : (List z05)) (t1 : (z05 → Option Bool)) : Option (Bool) :=
  (z48 t0 t1).bind fun b1 => some (decide (0 ≤ b1))
noncomputable def z32 (q_condition_wellFormed_1 : z05 → Option Bool) (t0 : z05) (v34 : Bool) : Option Bool :=
  if v34 = true then (z31 t0.Kids q_condition_wellFormed_1).bind fun b37 => some (!b37) else some false
noncomputable def z3p (q_condition_wellFormed_1 : z05 → Option Bool) (t0 : z05) (v5 : Bool) : Option Bool :=
  z32 q_condition_wellFormed_1 t0 v5
noncomputable def z33 (q_condition_wellFormed_1 : z05 → Option Bool) (t0 : z05) (v32 : Bool) : Option Bool :=
  z32 q_condition_wellFormed_1 t0 v32
noncomputable def z3l (q_condition_wellFormed_1 : z05 → Option Bool) (t0 : z05) (v11 : Bool) : Option Bool :=
  z33 q_condition_wellFormed_1 t0 v11
noncomputable def z3h (q_condition_wellFormed_1 : z05 → Option Bool) (t0 : z05) (v29 : Bool) : Option Bool :=
  z33 q_condition_wellFormed_1 t0 v29
noncomputable def z3j (q_condition_wellFormed_1 : z05 → Option Bool) (t0 : z05) (v24 : Bool) : Option Bool :=
  z3h q_condition_wellFormed_1 t0 v24
noncomputable def z3i (q_condition_wellFormed_1 : z05 → Option Bool) (t0 : z05) (v27 : Bool) : Option Bool :=
  z3h q_condition_wellFormed_1 t0 v27
noncomputable def z3k (q_condition_wellFormed_1 : z05 → Option Bool) (t0 : z05) (v19 : Bool) : Option Bool :=
  if v19 = true then if 1 ≤ (t0.Kids.length : Int) then (z6m t0).bind fun b22 => z3j q_condition_wellFormed_1 t0 b22 else z3j q_condition_wellFormed_1 t0 false else if t0.Kind = 5 then z3i q_condition_wellFormed_1 t0 (decide ((t0.Kids.length : Int) = 1)) else z3i q_condition_wellFormed_1 t0 false
noncomputable def z30 (q_condition_wellFormed : z05 → Option Bool) (q_condition_wellFormed_1 : z05 → Option Bool) (t0 : z05) : Option (Bool) :=
  if t0.Kind = 1 then if (t0.Kids.length : Int) = 0 then (z6m t0).bind fun b3 => z3p q_condition_wellFormed_1 t0 b3 else z3p q_condition_wellFormed_1 t0 false else if t0.Kind = 2 then if (t0.Kids.length : Int) = 1 then (z6m t0).bind fun b9 => z3l q_condition_wellFormed_1 t0 b9 else z3l q_condition_wellFormed_1 t0 false else if t0.Kind = 3 then z3k q_condition_wellFormed_1 t0 (decide (t0.Kind = 3)) else z3k q_condition_wellFormed_1 t0 (decide (t0.Kind = 4))
noncomputable def z2v (q_condition_wellFormed : z05 → Option Bool) (q_condition_wellFormed_1 : z05 → Option Bool) (t0 : z05) : Option (Bool) :=
  (q_condition_wellFormed t0).bind fun b1 => some (!b1)
noncomputable def z12 : Nat → (z05 → Option Bool) × (z05 → Option Bool)
  | 0 => ((fun _ => none), (fun _ => none))
  | n + 1 => ((fun t0 => z30 (z12 n).1 (z12 n).2 t0), (fun t0 => z2v (z12 n).1 (z12 n).2 t0))
noncomputable def z82 (t0 : z05) : Option (Bool) := Ev fun n => (z12 n).1 t0
noncomputable def z79 (x1 : Int × Int × Int) (v20 : Int) : Option (Int × Int) :=
  some (x1.1, v20)
noncomputable def condition_measure_l1 (q_condition_measure : z05 → Option (Int × Int)) (t0 : z05) (x1 : Int × Int × Int) : Option ((Int × Int × Int) ⊕ (Int × Int)) :=
  if x1.2.2 < (t0.Kids.length : Int) then if 0 ≤ x1.2.2 ∧ x1.2.2 < (t0.Kids.length : Int) then (q_condition_measure (nth t0.Kids x1.2.2)).bind fun b11 => (some (w64 (x1.1 + b11.1))).bind fun b13 => some (.inl (b13, (if x1.2.1 < b11.2 then b11.2 else x1.2.1), x1.2.2 + 1)) else none else (if t0.Kind = 5 then (some (w64 (x1.2.1 + 1))).bind fun b18 => z79 x1 b18 else z79 x1 x1.2.1).map .inr
noncomputable def z94 (q_condition_measure : z05 → Option (Int × Int)) (t0 : z05) : Option (Int × Int) :=
  z2l (condition_measure_l1 q_condition_measure t0) (1, 0, 0)
noncomputable def z40 : Nat → (z05 → Option (Int × Int))
  | 0 => (fun _ => none)
  | n + 1 => (fun t0 => z94 (z40 n) t0)
noncomputable def z7v (t0 : z05) : Option (Int × Int) := Ev fun n => (z40 n) t0
noncomputable def zah (t0 : z05) : Option (Int) :=
  (z82 t0).bind fun b1 => if (!b1) = true then some 1 else (z7v t0).bind fun b4 => if 12 < b4.1 then some 3 else if 3 < b4.2 then some 3 else some 0
noncomputable def z6d (t0 : z38) (t1 : Int) : Option (Bool) :=
  some (decide (t0.Term.Var = t1))
noncomputable def z83 (b1 : Int) (t1 : z0q) (x4 : Int) : Option (Int ⊕ Int) :=
  if x4 < t1.Vars then (z3m t1.Slots (fun x => z6d x x4)).bind fun b13 => if (!b13) = true then some (.inr b1) else some (.inl (x4 + 1)) else some (.inr 0)
noncomputable def z7u (t0 : z06) (t1 : z0q) (t2 : Int) : Option (Int) :=
  (z5w t0 t1).bind fun b1 => if ¬ (b1 = 9) then some b1 else z2l (z83 b1 t1) t2
noncomputable def z5m (q_condition_inside : z06 → z0q → z05 → Option Int) (t0 : z06) (t2 : z05) (v26 : z0q) (x27 : Int) : Option (Int ⊕ Int) :=
  if x27 < (t2.Kids.length : Int) then if 0 ≤ x27 ∧ x27 < (t2.Kids.length : Int) then (q_condition_inside t0 v26 (nth t2.Kids x27)).bind fun b36 => if ¬ (b36 = 0) then some (.inr b36) else some (.inl (x27 + 1)) else none else some (.inr 0)
noncomputable def z3r (q_condition_inside : z06 → z0q → z05 → Option Int) (t0 : z06) (t2 : z05) (v26 : z0q) : Option Int :=
  z2l (z5m q_condition_inside t0 t2 v26) 0
noncomputable def z3q (q_condition_inside : z06 → z0q → z05 → Option Int) (t0 : z06) (t1 : z0q) (t2 : z05) : Option (Int) :=
  if t2.Kind = 5 then if t2.Pattern.Vars < t1.Vars then some 20 else (z7u t0 t2.Pattern t1.Vars).bind fun b3 => if ¬ (b3 = 0) then some b3 else (z47 t1.Graph t2.Pattern.Graph t2.Map).bind fun b6 => if ¬ (b6 = 0) then some b6 else (z4f t1.Graph t2.Pattern.Graph t2.Map).bind fun b9 => if (!b9) = true then some 1 else z3r q_condition_inside t0 t2 t2.Pattern else z3r q_condition_inside t0 t2 t1
noncomputable def z2n : Nat → (z06 → z0q → z05 → Option Int)
  | 0 => (fun _ _ _ => none)
  | n + 1 => (fun t0 t1 t2 => z3q (z2n n) t0 t1 t2)
noncomputable def condition_inside (t0 : z06) (t1 : z0q) (t2 : z05) : Option (Int) := Ev fun n => (z2n n) t0 t1 t2
noncomputable def zai (t0 : z06) (t1 : z0q) (t2 : z05) : Option (Int) :=
  (z5w t0 t1).bind fun b1 => if ¬ (b1 = 0) then some b1 else (zah t2).bind fun b4 => if ¬ (b4 = 0) then some b4 else (condition_inside t0 t1 t2).bind fun b7 => some b7
noncomputable def rule_Valid (t0 : z06) (t1 : z10) : Option (Int) :=
  (z5c t0).bind fun b1 => if ¬ (b1.2 = 0) then some b1.2 else (z4u t1.Name).bind fun b4 => if (!b4) = true then some 2 else (z5w t0 t1.Left).bind fun b7 => if ¬ (b7 = 0) then some b7 else (rule_right t0 t1).bind fun b10 => if ¬ (b10 = 0) then some b10 else (rule_kept t1).bind fun b13 => if ¬ (b13 = 0) then some b13 else (rule_created t1).bind fun b16 => (rule_makable t0 t1.Right.Graph b16.1 b16.2).bind fun b18 => if (!b18) = true then some 13 else (zai t0 t1.Left t1.Condition).bind fun b21 => some b21
noncomputable def rule_deleted (t0 : z10) : Option ((List Int) × (List Int)) :=
  (z8z t0.Keep.Nodes (t0.Left.Graph.Nodes.length : Int)).bind fun b1 => (z8z t0.Keep.Edges (t0.Left.Graph.Edges.length : Int)).bind fun b3 => some (b1, b3)
noncomputable def rule_Deleted (t0 : z06) (t1 : z10) : Option ((List Int) × (List Int) × Int) :=
  (rule_Valid t0 t1).bind fun b1 => if ¬ (b1 = 0) then some ([], [], b1) else (rule_deleted t1).bind fun b4 => some (b4.1, b4.2, 0)
noncomputable def rule_Created (t0 : z06) (t1 : z10) : Option ((List Int) × (List Int) × Int) :=
  (rule_Valid t0 t1).bind fun b1 => if ¬ (b1 = 0) then some ([], [], b1) else (rule_created t1).bind fun b4 => some (b4.1, b4.2, 0)
noncomputable def z9o (x4 : (List Int) × Int) (v17 : (List Int)) : Option (((List Int) × Int) ⊕ ((List Int) × Int)) :=
  some (.inl (v17, x4.2 + 1))
noncomputable def types_Below_l4 (t0 : z06) (t1 : Int) (x4 : (List Int) × Int) : Option (((List Int) × Int) ⊕ ((List Int) × Int)) :=
  if x4.2 < (t0.Nodes.length : Int) then (types_is t0 x4.2 t1).bind fun b13 => if b13 = true then if (x4.1.length + 1) * 8 ≤ 140737488355328 then z9o x4 (x4.1 ++ [x4.2]) else none else z9o x4 x4.1 else some (.inr (x4.1, 0))
noncomputable def types_Below (t0 : z06) (t1 : Int) : Option ((List Int) × Int) :=
  (types_given t0 [t1]).bind fun b1 => if ¬ (b1 = 0) then some ([], b1) else z2l (types_Below_l4 t0 t1) ([], 0)
noncomputable def z7c (b4 : (List Int) × (List Int) × Int) (t0 : z06) (t1 : z10) (x68 : (List Int) × Int) : Option (((List Int) × Int) ⊕ ((List Int) × Int)) :=
  if x68.2 < (b4.2.1.length : Int) then if 0 ≤ x68.2 ∧ x68.2 < (b4.2.1.length : Int) then if 0 ≤ (nth b4.2.1 x68.2) ∧ (nth b4.2.1 x68.2) < (t1.Right.Graph.Edges.length : Int) then (some (w64 ((t0.Nodes.length : Int) + ((nth t1.Right.Graph.Edges (nth b4.2.1 x68.2)).Type_)))).bind fun b81 => if 0 ≤ b81 ∧ b81 < (x68.1.length : Int) then (some (w64 ((nth x68.1 b81) + 1))).bind fun b84 => some (.inl ((x68.1.set b81.toNat b84), x68.2 + 1)) else none else none else none else some (.inr (x68.1, 0))
noncomputable def z7d (b4 : (List Int) × (List Int) × Int) (t0 : z06) (t1 : z10) (x52 : (List Int) × Int) : Option (((List Int) × Int) ⊕ ((List Int) × Int)) :=
  if x52.2 < (b4.1.length : Int) then if 0 ≤ x52.2 ∧ x52.2 < (b4.1.length : Int) then if 0 ≤ (nth b4.1 x52.2) ∧ (nth b4.1 x52.2) < (t1.Right.Graph.Nodes.length : Int) then if 0 ≤ (nth t1.Right.Graph.Nodes (nth b4.1 x52.2)) ∧ (nth t1.Right.Graph.Nodes (nth b4.1 x52.2)) < (x52.1.length : Int) then (some (w64 ((nth x52.1 (nth t1.Right.Graph.Nodes (nth b4.1 x52.2))) + 1))).bind fun b64 => some (.inl ((x52.1.set (nth t1.Right.Graph.Nodes (nth b4.1 x52.2)).toNat b64), x52.2 + 1)) else none else none else none else (z2l (z7c b4 t0 t1) (x52.1, 0)).map .inr
noncomputable def z7e (b1 : (List Int) × (List Int) × Int) (b4 : (List Int) × (List Int) × Int) (t0 : z06) (t1 : z10) (x32 : (List Int) × Int) : Option (((List Int) × Int) ⊕ ((List Int) × Int)) :=
  if x32.2 < (b1.2.1.length : Int) then if 0 ≤ x32.2 ∧ x32.2 < (b1.2.1.length : Int) then if 0 ≤ (nth b1.2.1 x32.2) ∧ (nth b1.2.1 x32.2) < (t1.Left.Graph.Edges.length : Int) then (some (w64 ((t0.Nodes.length : Int) + ((nth t1.Left.Graph.Edges (nth b1.2.1 x32.2)).Type_)))).bind fun b45 => if 0 ≤ b45 ∧ b45 < (x32.1.length : Int) then (some (w64 ((nth x32.1 b45) - 1))).bind fun b48 => some (.inl ((x32.1.set b45.toNat b48), x32.2 + 1)) else none else none else none else (z2l (z7d b4 t0 t1) (x32.1, 0)).map .inr
noncomputable def weight_effect_l10 (b1 : (List Int) × (List Int) × Int) (b4 : (List Int) × (List Int) × Int) (t0 : z06) (t1 : z10) (x10 : (List Int) × Int) : Option (((List Int) × Int) ⊕ ((List Int) × Int)) :=
  if x10.2 < (b1.1.length : Int) then if 0 ≤ x10.2 ∧ x10.2 < (b1.1.length : Int) then if 0 ≤ (nth b1.1 x10.2) ∧ (nth b1.1 x10.2) < (t1.Left.Graph.Nodes.length : Int) then (types_Below t0 (nth t1.Left.Graph.Nodes (nth b1.1 x10.2))).bind fun b24 => if 1 < (b24.1.length : Int) then some (.inr ([], 13)) else if 0 ≤ (nth t1.Left.Graph.Nodes (nth b1.1 x10.2)) ∧ (nth t1.Left.Graph.Nodes (nth b1.1 x10.2)) < (x10.1.length : Int) then (some (w64 ((nth x10.1 (nth t1.Left.Graph.Nodes (nth b1.1 x10.2))) - 1))).bind fun b28 => some (.inl ((x10.1.set (nth t1.Left.Graph.Nodes (nth b1.1 x10.2)).toNat b28), x10.2 + 1)) else none else none else none else (z2l (z7e b1 b4 t0 t1) (x10.1, 0)).map .inr
noncomputable def z60 (t0 : z06) (t1 : z10) : Option ((List Int) × Int) :=
  (rule_Deleted t0 t1).bind fun b1 => if ¬ (b1.2.2 = 0) then some ([], b1.2.2) else (rule_Created t0 t1).bind fun b4 => if ¬ (b4.2.2 = 0) then some ([], b4.2.2) else (some (w64 ((t0.Nodes.length : Int) + (t0.Edges.length : Int)))).bind fun b7 => if 0 ≤ b7 ∧ b7 * 8 ≤ 140737488355328 then z2l (weight_effect_l10 b1 b4 t0 t1) ((List.replicate b7.toNat 0), 0) else none
noncomputable def weight_Effect (t0 : z06) (t1 : z10) : Option ((List Int) × Int) :=
  (z5c t0).bind fun b1 => if ¬ (b1.2 = 0) then some ([], b1.2) else (z60 t0 t1).bind fun b4 => some (b4.1, b4.2)
noncomputable def slices_Equal_int_l2 (t0 : (List Int)) (t1 : (List Int)) (x2 : Int) : Option (Int ⊕ Bool) :=
  if x2 < (t0.length : Int) then if 0 ≤ x2 ∧ x2 < (t0.length : Int) then if 0 ≤ x2 ∧ x2 < (t1.length : Int) then if ¬ ((nth t0 x2) = (nth t1 x2)) then some (.inr false) else some (.inl (x2 + 1)) else none else none else some (.inr true)
noncomputable def z8j (t0 : (List Int)) (t1 : (List Int)) : Option (Bool) :=
  if ¬ ((t0.length : Int) = (t1.length : Int)) then some false else z2l (slices_Equal_int_l2 t0 t1) 0
noncomputable def slices_IndexFunc___int_l1 (t0 : (List (List Int))) (t1 : ((List Int) → Option Bool)) (x1 : Int) : Option (Int ⊕ Int) :=
  if x1 < (t0.length : Int) then if 0 ≤ x1 ∧ x1 < (t0.length : Int) then (t1 (nth t0 x1)).bind fun b10 => if b10 = true then some (.inr x1) else some (.inl (x1 + 1)) else none else some (.inr (-1))
noncomputable def slices_IndexFunc___int (t0 : (List (List Int))) (t1 : ((List Int) → Option Bool)) : Option (Int) :=
  z2l (slices_IndexFunc___int_l1 t0 t1) 0
noncomputable def z3d (t0 : (List (List Int))) (t1 : ((List Int) → Option Bool)) : Option (Bool) :=
  (slices_IndexFunc___int t0 t1).bind fun b1 => some (decide (0 ≤ b1))
noncomputable def z56 (t0 : (List Int)) (t1 : Int) : Option (Bool) :=
  if 0 ≤ t1 ∧ t1 < (t0.length : Int) then some (decide (¬ ((nth t0 t1) = 0))) else none
noncomputable def z6u (x22 : (List Int) × Int) (v35 : (List Int)) : Option (((List Int) × Int) ⊕ ((List (List Int)) × (List Int) × Int)) :=
  some (.inl (v35, x22.2 + 1))
noncomputable def z6t (b20 : Int) (x5 : (List (List Int)) × Int) (x22 : (List Int) × Int) : Option (((List Int) × Int) ⊕ ((List (List Int)) × (List Int) × Int)) :=
  if x22.2 < b20 then (z3d x5.1 (fun x => z56 x x22.2)).bind fun b31 => if b31 = true then if (x22.1.length + 1) * 8 ≤ 140737488355328 then z6u x22 (x22.1 ++ [x22.2]) else none else z6u x22 x22.1 else (if 6 < (x22.1.length : Int) then some ([], [], 3) else some (x5.1, x22.1, 0)).map .inr
noncomputable def weight_effects_l5 (t0 : z06) (t1 : (List z10)) (x5 : (List (List Int)) × Int) : Option (((List (List Int)) × Int) ⊕ ((List (List Int)) × (List Int) × Int)) :=
  if x5.2 < (t1.length : Int) then if 0 ≤ x5.2 ∧ x5.2 < (t1.length : Int) then (z60 t0 (nth t1 x5.2)).bind fun b14 => if ¬ (b14.2 = 0) then some (.inr ([], [], b14.2)) else if (x5.1.length + 1) * 24 ≤ 140737488355328 then some (.inl ((x5.1 ++ [b14.1]), x5.2 + 1)) else none else none else ((some (w64 ((t0.Nodes.length : Int) + (t0.Edges.length : Int)))).bind fun b20 => z2l (z6t b20 x5) ([], 0)).map .inr
noncomputable def z4t (t0 : z06) (t1 : (List z10)) : Option ((List (List Int)) × (List Int) × Int) :=
  (z5c t0).bind fun b1 => if ¬ (b1.2 = 0) then some ([], [], b1.2) else if 6 < (t1.length : Int) then some ([], [], 3) else z2l (weight_effects_l5 t0 t1) ([], 0)
noncomputable def weight_product_l1 (t0 : (List Int)) (t1 : (List Int)) (x1 : Int × Int) : Option ((Int × Int) ⊕ Int) :=
  if x1.2 < (t0.length : Int) then if 0 ≤ x1.2 ∧ x1.2 < (t0.length : Int) then if 0 ≤ x1.2 ∧ x1.2 < (t1.length : Int) then (some (w64 ((nth t0 x1.2) * (nth t1 x1.2)))).bind fun b13 => (some (w64 (x1.1 + b13))).bind fun b15 => some (.inl (b15, x1.2 + 1)) else none else none else some (.inr x1.1)
noncomputable def z85 (t0 : (List Int)) (t1 : (List Int)) : Option (Int) :=
  z2l (weight_product_l1 t0 t1) (0, 0)
noncomputable def z9i (t0 : (List Int)) (t1 : (List Int)) : Option (Bool) :=
  (z85 t0 t1).bind fun b1 => some (decide ((-1) < b1))
noncomputable def z9j (t0 : (List (List Int))) (t1 : (List Int)) : Option (Bool) :=
  (z3d t0 (fun x => z9i x t1)).bind fun b1 => some (!b1)
noncomputable def weight_Find_1_s2_l1 (t0 : (List Int)) (t1 : (List Int)) (t3 : (List (List Int))) (x1 : (List Int) × Int) : Option (((List Int) × Int) ⊕ (Bool × (List Int) × (List Int))) :=
  if x1.2 < (t1.length : Int) then if 0 ≤ x1.2 ∧ x1.2 < (t1.length : Int) then if 0 ≤ x1.2 ∧ x1.2 < (t0.length : Int) then if 0 ≤ (nth t1 x1.2) ∧ (nth t1 x1.2) < (x1.1.length : Int) then some (.inl ((x1.1.set (nth t1 x1.2).toNat (nth t0 x1.2)), x1.2 + 1)) else none else none else none else ((z9j t3 x1.1).bind fun b13 => some (b13, t0, x1.1)).map .inr
noncomputable def weight_Find_1_s2 (t0 : (List Int)) (t1 : (List Int)) (t2 : (List Int)) (t3 : (List (List Int))) : Option (Bool × (List Int) × (List Int)) :=
  z2l (weight_Find_1_s2_l1 t0 t1 t3) (t2, 0)
noncomputable def weight_least_1_s1_l13 (q_weight_least_1_s1 : Int → Int → Int → (List Int) → (List Int) → (List (List Int)) → (List Int) → Int → Option (Bool × (List Int) × (List Int))) (t0 : Int) (t1 : Int) (t3 : (List Int)) (t5 : (List (List Int))) (t7 : Int) (x13 : (List Int) × (List Int) × Int) : Option (((List Int) × (List Int) × Int) ⊕ (Bool × (List Int) × (List Int))) :=
  if x13.2.2 ≤ (if 6 < t1 then 6 else t1) then if 0 ≤ t0 ∧ t0 < (x13.2.1.length : Int) then (some (w64 (t0 + 1))).bind fun b28 => (some (w64 (t1 - x13.2.2))).bind fun b30 => (q_weight_least_1_s1 b28 b30 t7 t3 x13.1 t5 (x13.2.1.set t0.toNat x13.2.2) t7).bind fun b32 => if b32.1 = true then some (.inr (true, b32.2.1, b32.2.2)) else (some (w64 (x13.2.2 + 1))).bind fun b35 => some (.inl (b32.2.1, b32.2.2, b35)) else none else some (.inr (false, x13.1, x13.2.1))
noncomputable def weight_least_1_s1_b (q_weight_least_1_s1 : Int → Int → Int → (List Int) → (List Int) → (List (List Int)) → (List Int) → Int → Option (Bool × (List Int) × (List Int))) (t0 : Int) (t1 : Int) (t2 : Int) (t3 : (List Int)) (t4 : (List Int)) (t5 : (List (List Int))) (t6 : (List Int)) (t7 : Int) : Option (Bool × (List Int) × (List Int)) :=
  if t0 = t2 then if t1 = 0 then (weight_Find_1_s2 t6 t3 t4 t5).bind fun b3 => some (b3.1, b3.2.2, b3.2.1) else some (false, t4, t6) else (some (w64 (t2 - t0))).bind fun b5 => (some (w64 (b5 - 1))).bind fun b7 => (some (w64 (6 * b7))).bind fun b9 => (some (w64 (t1 - b9))).bind fun b11 => z2l (weight_least_1_s1_l13 q_weight_least_1_s1 t0 t1 t3 t5 t7) (t4, t6, (if 0 < b11 then b11 else 0))
noncomputable def z8v : Nat → (Int → Int → Int → (List Int) → (List Int) → (List (List Int)) → (List Int) → Int → Option (Bool × (List Int) × (List Int)))
  | 0 => (fun _ _ _ _ _ _ _ _ => none)
  | n + 1 => (fun t0 t1 t2 t3 t4 t5 t6 t7 => weight_least_1_s1_b (z8v n) t0 t1 t2 t3 t4 t5 t6 t7)
noncomputable def weight_least_1_s1 (t0 : Int) (t1 : Int) (t2 : Int) (t3 : (List Int)) (t4 : (List Int)) (t5 : (List (List Int))) (t6 : (List Int)) (t7 : Int) : Option (Bool × (List Int) × (List Int)) := Ev fun n => (z8v n) t0 t1 t2 t3 t4 t5 t6 t7
noncomputable def weight_least_s0_l6 (b4 : Int) (t0 : Int) (t1 : (List Int)) (t3 : (List (List Int))) (x6 : (List Int) × (List Int) × Int) : Option (((List Int) × (List Int) × Int) ⊕ ((List Int) × Bool × (List Int))) :=
  if x6.2.2 < b4 then (weight_least_1_s1 0 x6.2.2 t0 t1 x6.1 t3 x6.2.1 t0).bind fun b13 => if b13.1 = true then some (.inr (b13.2.2, true, b13.2.1)) else some (.inl (b13.2.1, b13.2.2, x6.2.2 + 1)) else some (.inr ([], false, x6.1))
noncomputable def weight_least_s0 (t0 : Int) (t1 : (List Int)) (t2 : (List Int)) (t3 : (List (List Int))) : Option ((List Int) × Bool × (List Int)) :=
  if 0 ≤ t0 ∧ t0 * 8 ≤ 140737488355328 then (some (w64 (6 * t0))).bind fun b2 => (some (w64 (b2 + 1))).bind fun b4 => z2l (weight_least_s0_l6 b4 t0 t1 t3) (t2, (List.replicate t0.toNat 0), 0) else none
noncomputable def weight_Find (t0 : z06) (t1 : (List z10)) : Option ((List Int) × Int) :=
  (z4t t0 t1).bind fun b1 => if ¬ (b1.2.2 = 0) then some ([], b1.2.2) else (some (w64 ((t0.Nodes.length : Int) + (t0.Edges.length : Int)))).bind fun b4 => if 0 ≤ b4 ∧ b4 * 8 ≤ 140737488355328 then (weight_least_s0 (b1.2.1.length : Int) b1.2.1 (List.replicate b4.toNat 0) b1.1).bind fun b7 => if (!b7.2.1) = true then some ([], 10) else some (b7.2.2, 0) else none
noncomputable def slices_Max_int_l3 (t0 : (List Int)) (x3 : Int × Int) : Option ((Int × Int) ⊕ Int) :=
  if x3.2 < (t0.length : Int) then if 0 ≤ x3.2 ∧ x3.2 < (t0.length : Int) then some (.inl ((if x3.1 < (nth t0 x3.2) then (nth t0 x3.2) else x3.1), x3.2 + 1)) else none else some (.inr x3.1)
noncomputable def slices_Max_int (t0 : (List Int)) : Option (Int) :=
  if (t0.length : Int) < 1 then none else if 0 ≤ (0 : Int) ∧ (0 : Int) < (t0.length : Int) then z2l (slices_Max_int_l3 t0) ((nth t0 0), 1) else none
noncomputable def z6s (t0 : (List (List Int))) (t1 : (List Int)) (x6 : Int) (x30 : Int × Int) : Option ((Int × Int) ⊕ (Int ⊕ Bool)) :=
  if x30.2 < (t0.length : Int) then if 0 ≤ x30.2 ∧ x30.2 < (t1.length : Int) then if 0 ≤ x30.2 ∧ x30.2 < (t0.length : Int) then if 0 ≤ x6 ∧ x6 < ((nth t0 x30.2).length : Int) then (some (w64 ((nth t1 x30.2) * (nth (nth t0 x30.2) x6)))).bind fun b43 => (some (w64 (x30.1 + b43))).bind fun b45 => some (.inl (b45, x30.2 + 1)) else none else none else none else (if x30.1 < 0 then some (.inr false) else some (.inl (x6 + 1))).map .inr
noncomputable def z7b (t0 : (List (List Int))) (t1 : (List Int)) (x6 : Int) : Option (Int ⊕ Bool) :=
  if x6 < ((nth t0 0).length : Int) then z2l (z6s t0 t1 x6) (0, 0) else some (.inr true)
noncomputable def z84 (t0 : (List (List Int))) (t1 : (List Int)) : Option (Bool) :=
  if ([0].length + t1.length) * 8 ≤ 140737488355328 then (slices_Max_int ([0] ++ t1)).bind fun b2 => if b2 = 0 then some false else if 0 ≤ (0 : Int) ∧ (0 : Int) < (t0.length : Int) then z2l (z7b t0 t1) 0 else none else none
noncomputable def weight_Refute_1_s5 (t0 : (List Int)) (t1 : (List (List Int))) : Option (Bool × (List Int)) :=
  if 0 < (t0.length : Int) then (z84 t1 t0).bind fun b2 => some (b2, t0) else some (false, t0)
noncomputable def weight_least_1_s4_l13 (q_weight_least_1_s4 : Int → Int → Int → (List (List Int)) → (List Int) → Int → Option (Bool × (List Int))) (t0 : Int) (t1 : Int) (t3 : (List (List Int))) (t5 : Int) (x13 : (List Int) × Int) : Option (((List Int) × Int) ⊕ (Bool × (List Int))) :=
  if x13.2 ≤ (if 6 < t1 then 6 else t1) then if 0 ≤ t0 ∧ t0 < (x13.1.length : Int) then (some (w64 (t0 + 1))).bind fun b28 => (some (w64 (t1 - x13.2))).bind fun b30 => (q_weight_least_1_s4 b28 b30 t5 t3 (x13.1.set t0.toNat x13.2) t5).bind fun b32 => if b32.1 = true then some (.inr (true, b32.2)) else (some (w64 (x13.2 + 1))).bind fun b35 => some (.inl (b32.2, b35)) else none else some (.inr (false, x13.1))
noncomputable def weight_least_1_s4_b (q_weight_least_1_s4 : Int → Int → Int → (List (List Int)) → (List Int) → Int → Option (Bool × (List Int))) (t0 : Int) (t1 : Int) (t2 : Int) (t3 : (List (List Int))) (t4 : (List Int)) (t5 : Int) : Option (Bool × (List Int)) :=
  if t0 = t2 then if t1 = 0 then (weight_Refute_1_s5 t4 t3).bind fun b3 => some (b3.1, b3.2) else some (false, t4) else (some (w64 (t2 - t0))).bind fun b5 => (some (w64 (b5 - 1))).bind fun b7 => (some (w64 (6 * b7))).bind fun b9 => (some (w64 (t1 - b9))).bind fun b11 => z2l (weight_least_1_s4_l13 q_weight_least_1_s4 t0 t1 t3 t5) (t4, (if 0 < b11 then b11 else 0))
noncomputable def z8u : Nat → (Int → Int → Int → (List (List Int)) → (List Int) → Int → Option (Bool × (List Int)))
  | 0 => (fun _ _ _ _ _ _ => none)
  | n + 1 => (fun t0 t1 t2 t3 t4 t5 => weight_least_1_s4_b (z8u n) t0 t1 t2 t3 t4 t5)
noncomputable def weight_least_1_s4 (t0 : Int) (t1 : Int) (t2 : Int) (t3 : (List (List Int))) (t4 : (List Int)) (t5 : Int) : Option (Bool × (List Int)) := Ev fun n => (z8u n) t0 t1 t2 t3 t4 t5
noncomputable def weight_least_s3_l6 (b4 : Int) (t0 : Int) (t1 : (List (List Int))) (x6 : (List Int) × Int) : Option (((List Int) × Int) ⊕ ((List Int) × Bool)) :=
  if x6.2 < b4 then (weight_least_1_s4 0 x6.2 t0 t1 x6.1 t0).bind fun b13 => if b13.1 = true then some (.inr (b13.2, true)) else some (.inl (b13.2, x6.2 + 1)) else some (.inr ([], false))
noncomputable def weight_least_s3 (t0 : Int) (t1 : (List (List Int))) : Option ((List Int) × Bool) :=
  if 0 ≤ t0 ∧ t0 * 8 ≤ 140737488355328 then (some (w64 (6 * t0))).bind fun b2 => (some (w64 (b2 + 1))).bind fun b4 => z2l (weight_least_s3_l6 b4 t0 t1) ((List.replicate t0.toNat 0), 0) else none
noncomputable def weight_Refute (t0 : z06) (t1 : (List z10)) : Option ((List Int) × Int) :=
  (z4t t0 t1).bind fun b1 => if ¬ (b1.2.2 = 0) then some ([], b1.2.2) else (weight_least_s3 (t1.length : Int) b1.1).bind fun b4 => if (!b4.2) = true then some ([], 10) else (z36 b4.1).bind fun b7 => some (b7, 0)
noncomputable def ref04_Example  : Option (z06) :=
  some (z06.mk [(z15.mk (ByteArray.mk #[65, 99, 99, 111, 117, 110, 116]) (-1) true [(z0r.mk (ByteArray.mk #[98, 97, 108, 97, 110, 99, 101]) (-1000) 1000 [])]), (z15.mk (ByteArray.mk #[67, 97, 115, 104]) 0 false []), (z15.mk (ByteArray.mk #[76, 111, 97, 110]) 0 false [(z0r.mk (ByteArray.mk #[115, 116, 97, 116, 101]) 0 1 [(ByteArray.mk #[111, 112, 101, 110]), (ByteArray.mk #[99, 108, 111, 115, 101, 100])])]), (z15.mk (ByteArray.mk #[80, 101, 114, 115, 111, 110]) (-1) false [])] [(z1g.mk (ByteArray.mk #[111, 119, 110, 115]) 3 0 0 (-1) 1 1), (z1g.mk (ByteArray.mk #[112, 97, 121, 115]) 1 1 0 (-1) 0 (-1))])
noncomputable def law39_plain (t0 : z0p) (t1 : z0p) (t2 : z2d) (t3 : z0t) : Option (z10) :=
  some (z10.mk (ByteArray.mk #[114]) (z0q.mk t0 [] 0 []) (z0q.mk t1 [] 0 []) t2 t3 true (z05.mk 1 [] (z0t.mk [] []) (z0q.mk (z0p.mk [] []) [] 0 [])))
noncomputable def law39_example  : Option ((List z10)) :=
  (law39_plain (z0p.mk [3, 1, 1] [(z1e.mk 1 1 2)]) (z0p.mk [3, 1, 1, 2] [(z1e.mk 0 0 3)]) (z2d.mk [0, 1, 2] []) (z0t.mk [0, 1, 2] [])).bind fun b1 => (law39_plain (z0p.mk [3, 1, 1, 2] [(z1e.mk 0 0 3)]) (z0p.mk [3, 1, 1] [(z1e.mk 1 1 2)]) (z2d.mk [0, 1, 2] []) (z0t.mk [0, 1, 2] [])).bind fun b3 => some [b1, b3]
noncomputable def z68  : Option (Bool) :=
  (ref04_Example).bind fun b1 => (law39_example).bind fun b3 => if 0 ≤ (0 : Int) ∧ (0 : Int) < (b3.length : Int) then (weight_Effect b1 (nth b3 0)).bind fun b6 => if 0 ≤ (0 : Int) ∧ (0 : Int) ≤ (1 : Int) ∧ (1 : Int) ≤ (b3.length : Int) then (weight_Find b1 (cut b3 0 1)).bind fun b9 => (weight_Refute b1 b3).bind fun b11 => if b6.2 = 0 then if b9.2 = 0 then if b11.2 = 0 then (z8j b6.1 [0, 0, 1, 0, 1, (-1)]).bind fun b16 => if b16 = true then (z8j b9.1 [0, 0, 0, 0, 0, 1]).bind fun b19 => if b19 = true then (z8j b11.1 [1, 1]).bind fun b22 => some b22 else some false else some false else some false else some false else some false else none else none
noncomputable def ref04_Few_l69 (t0 : z06) (x3 : Int × Int) (x49 : Int) (x69 : Int) : Option (Int ⊕ (Int ⊕ ((Int × Int) ⊕ Bool))) :=
  if x69 < (((nth ((nth t0.Nodes x3.2).Attrs) x49).Names).length : Int) then if 0 ≤ x69 ∧ x69 < (((nth ((nth t0.Nodes x3.2).Attrs) x49).Names).length : Int) then if 40 < ((nth ((nth ((nth t0.Nodes x3.2).Attrs) x49).Names) x69).size : Int) then some (.inr (.inr (.inr false))) else some (.inl (x69 + 1)) else none else some (.inr (.inl (x49 + 1)))
noncomputable def ref04_Few_l49 (b45 : Int) (t0 : z06) (x3 : Int × Int) (x49 : Int) : Option (Int ⊕ ((Int × Int) ⊕ Bool)) :=
  if x49 < (((nth t0.Nodes x3.2).Attrs).length : Int) then if 0 ≤ x49 ∧ x49 < (((nth t0.Nodes x3.2).Attrs).length : Int) then if 40 < (((nth ((nth t0.Nodes x3.2).Attrs) x49).Name).size : Int) then some (.inr (.inr false)) else if 25 < (((nth ((nth t0.Nodes x3.2).Attrs) x49).Names).length : Int) then some (.inr (.inr false)) else z2l (ref04_Few_l69 t0 x3 x49) 0 else none else some (.inr (.inl (b45, x3.2 + 1)))
noncomputable def ref04_Few_l83 (t0 : z06) (x83 : Int) : Option (Int ⊕ Bool) :=
  if x83 < (t0.Edges.length : Int) then if 0 ≤ x83 ∧ x83 < (t0.Edges.length : Int) then if 40 < (((nth t0.Edges x83).Name).size : Int) then some (.inr false) else some (.inl (x83 + 1)) else none else some (.inr true)
noncomputable def ref04_Few_l3 (t0 : z06) (x3 : Int × Int) : Option ((Int × Int) ⊕ Bool) :=
  if x3.2 < (t0.Nodes.length : Int) then if 0 ≤ x3.2 ∧ x3.2 < (t0.Nodes.length : Int) then (some (w64 (x3.1 + (((nth t0.Nodes x3.2).Attrs).length : Int)))).bind fun b45 => if 30 < b45 then some (.inr false) else if 40 < (((nth t0.Nodes x3.2).Name).size : Int) then some (.inr false) else z2l (ref04_Few_l49 b45 t0 x3) 0 else none else (z2l (ref04_Few_l83 t0) 0).map .inr
noncomputable def ref04_Few (t0 : z06) : Option (Bool) :=
  if 20 < (t0.Nodes.length : Int) then some false else if 30 < (t0.Edges.length : Int) then some false else z2l (ref04_Few_l3 t0) (0, 0)
noncomputable def ref05_Few (t0 : z0p) : Option (Bool) :=
  if (t0.Nodes.length : Int) ≤ 45 then some (decide ((t0.Edges.length : Int) ≤ 90)) else some false
noncomputable def ref21_Few (t0 : z0q) : Option (Bool) :=
  (ref05_Few t0.Graph).bind fun b1 => if b1 = true then if (t0.Slots.length : Int) ≤ 15 then some (decide ((t0.Tests.length : Int) ≤ 15)) else some false else some false
noncomputable def ref07_Few (t0 : z2d) (t1 : Int) : Option (Bool) :=
  (some (w64 ((t0.Nodes.length : Int) + (t0.Edges.length : Int)))).bind fun b1 => some (decide (b1 ≤ t1))
noncomputable def ref06_Few (t0 : z0t) (t1 : Int) : Option (Bool) :=
  (some (w64 ((t0.Nodes.length : Int) + (t0.Edges.length : Int)))).bind fun b1 => some (decide (b1 ≤ t1))
noncomputable def ref22_left_j25 (x9 : Int × Int) (v25 : Unit) : Option ((Int × Int) ⊕ Int) :=
  some (.inr x9.1)
noncomputable def z9v (q_ref22_left : z05 → Int → Option Int) (t0 : z05) (x9 : Int × Int) : Option ((Int × Int) ⊕ Int) :=
  if x9.2 < (t0.Kids.length : Int) then if 0 ≤ x9.1 then if 0 ≤ x9.2 ∧ x9.2 < (t0.Kids.length : Int) then (q_ref22_left (nth t0.Kids x9.2) x9.1).bind fun b21 => some (.inl (b21, x9.2 + 1)) else none else ref22_left_j25 x9 () else ref22_left_j25 x9 ()
noncomputable def z9a (q_ref22_left : z05 → Int → Option Int) (t0 : z05) (t1 : Int) : Option (Int) :=
  (some (w64 (t1 - 1))).bind fun b1 => (ref21_Few t0.Pattern).bind fun b3 => if (!b3) = true then some (-1) else (ref06_Few t0.Map 140).bind fun b6 => if (!b6) = true then some (-1) else z2l (z9v q_ref22_left t0) (b1, 0)
noncomputable def z4v : Nat → (z05 → Int → Option Int)
  | 0 => (fun _ _ => none)
  | n + 1 => (fun t0 t1 => z9a (z4v n) t0 t1)
noncomputable def ref22_left (t0 : z05) (t1 : Int) : Option (Int) := Ev fun n => (z4v n) t0 t1
noncomputable def ref22_Few (t0 : z05) : Option (Bool) :=
  (ref22_left t0 40).bind fun b1 => some (decide (0 ≤ b1))
noncomputable def ref24_Few (t0 : z10) : Option (Bool) :=
  if (t0.Name.size : Int) ≤ 60 then (ref21_Few t0.Left).bind fun b2 => if b2 = true then (ref21_Few t0.Right).bind fun b5 => if b5 = true then (ref07_Few t0.Keep 140).bind fun b8 => if b8 = true then (ref06_Few t0.Into 140).bind fun b11 => if b11 = true then (ref22_Few t0.Condition).bind fun b14 => some b14 else some false else some false else some false else some false else some false
noncomputable def ref39_Few_l2 (t0 : (List z10)) (x2 : Int) : Option (Int ⊕ Bool) :=
  if x2 < (t0.length : Int) then if 0 ≤ x2 ∧ x2 < (t0.length : Int) then (ref24_Few (nth t0 x2)).bind fun b11 => if (!b11) = true then some (.inr false) else some (.inl (x2 + 1)) else none else some (.inr true)
noncomputable def ref39_Few (t0 : (List z10)) : Option (Bool) :=
  if 8 < (t0.length : Int) then some false else z2l (ref39_Few_l2 t0) 0
noncomputable def law39_small (t0 : z06) (t1 : (List z10)) : Option (Bool) :=
  (ref04_Few t0).bind fun b1 => if b1 = true then (ref39_Few t1).bind fun b4 => some b4 else some false
noncomputable def ref01_text (t0 : z1c) : Option (ByteArray) :=
  if t0.Kind = 3 then if (ByteArray.mk #[34]).size + t0.Text.size ≤ 140737488355328 then if ((ByteArray.mk #[34]) ++ t0.Text).size + (ByteArray.mk #[34]).size ≤ 140737488355328 then some (((ByteArray.mk #[34]) ++ t0.Text) ++ (ByteArray.mk #[34])) else none else none else some t0.Text
noncomputable def ref01_letter (t0 : Int) : Option (Bool) :=
  if 97 ≤ t0 then if t0 ≤ 122 then some true else if 65 ≤ t0 then some (decide (t0 ≤ 90)) else some false else if 65 ≤ t0 then some (decide (t0 ≤ 90)) else some false
noncomputable def ref01_digit (t0 : Int) : Option (Bool) :=
  if 48 ≤ t0 then some (decide (t0 ≤ 57)) else some false
noncomputable def z7o (x1 : Int) (v53 : Unit) : Option (Int ⊕ Int) :=
  some (.inr x1)
noncomputable def za4 (x1 : Int) (v49 : Unit) : Option (Int ⊕ Int) :=
  (some (w64 (x1 + 1))).bind fun b50 => some (.inl b50)
noncomputable def ref01_run_l1 (t0 : ByteArray) (t1 : Int) (t2 : Bool) (x1 : Int) : Option (Int ⊕ Int) :=
  (some (w64 (t1 + x1))).bind fun b27 => if b27 < (t0.size : Int) then (some (w64 (t1 + x1))).bind fun b30 => if 0 ≤ b30 ∧ b30 < (t0.size : Int) then (ref01_digit (z2c t0 b30)).bind fun b33 => if b33 = true then za4 x1 () else if (!t2) = true then (some (w64 (t1 + x1))).bind fun b37 => if 0 ≤ b37 ∧ b37 < (t0.size : Int) then (ref01_letter (z2c t0 b37)).bind fun b40 => if b40 = true then za4 x1 () else (some (w64 (t1 + x1))).bind fun b43 => if 0 ≤ b43 ∧ b43 < (t0.size : Int) then if z2c t0 b43 = 95 then za4 x1 () else z7o x1 () else none else none else z7o x1 () else none else z7o x1 ()
noncomputable def ref01_run (t0 : ByteArray) (t1 : Int) (t2 : Bool) : Option (Int) :=
  z2l (ref01_run_l1 t0 t1 t2) 0
noncomputable def ref01_quoted_l1 (t0 : ByteArray) (t1 : Int) (x1 : Int) : Option (Int ⊕ Int) :=
  (some (w64 (t1 + x1))).bind fun b12 => if b12 < (t0.size : Int) then (some (w64 (t1 + x1))).bind fun b15 => if 0 ≤ b15 ∧ b15 < (t0.size : Int) then if z2c t0 b15 = 34 then (some (w64 (x1 + 1))).bind fun b19 => some (.inr b19) else if z2c t0 b15 < 32 then some (.inr 0) else if 126 < z2c t0 b15 then some (.inr 0) else (some (w64 (x1 + 1))).bind fun b23 => some (.inl b23) else none else some (.inr 0)
noncomputable def ref01_quoted (t0 : ByteArray) (t1 : Int) : Option (Int) :=
  z2l (ref01_quoted_l1 t0 t1) 1
noncomputable def ref01_signs  : Option ((List ByteArray)) :=
  some [(ByteArray.mk #[45, 62]), (ByteArray.mk #[60, 61]), (ByteArray.mk #[62, 61]), (ByteArray.mk #[61, 61]), (ByteArray.mk #[33, 61]), (ByteArray.mk #[123]), (ByteArray.mk #[125]), (ByteArray.mk #[40]), (ByteArray.mk #[41]), (ByteArray.mk #[91]), (ByteArray.mk #[93]), (ByteArray.mk #[44]), (ByteArray.mk #[59]), (ByteArray.mk #[58]), (ByteArray.mk #[61]), (ByteArray.mk #[43]), (ByteArray.mk #[45]), (ByteArray.mk #[42]), (ByteArray.mk #[60]), (ByteArray.mk #[62]), (ByteArray.mk #[33]), (ByteArray.mk #[38]), (ByteArray.mk #[124]), (ByteArray.mk #[46]), (ByteArray.mk #[63])]
noncomputable def z7p (b28 : Int) (t0 : ByteArray) (t1 : Int) (v37 : Int × Int) : Option (z1c × Int × Int) :=
  if v37.2 < b28 then some ((z1c.mk 0 (ByteArray.mk #[]) 0), 0, 3) else (some (w64 (t1 + b28))).bind fun b39 => if 0 ≤ t1 ∧ t1 ≤ b39 ∧ b39 ≤ (t0.size : Int) then some ((z1c.mk v37.1 (cutS t0 t1 b39) 0), b28, 0) else none
noncomputable def za5 (t0 : ByteArray) (t1 : Int) (v25 : Unit) : Option (z1c × Int × Int) :=
  (ref01_digit (z2c t0 t1)).bind fun b26 => (ref01_run t0 t1 b26).bind fun b28 => (ref01_digit (z2c t0 t1)).bind fun b30 => if b30 = true then z7p b28 t0 t1 (2, 9) else z7p b28 t0 t1 (1, 20)
noncomputable def ref01_one_j82 (x60 : Int) (v82 : Unit) : Option (Int ⊕ (z1c × Int × Int)) :=
  some (.inl (x60 + 1))
noncomputable def ref01_one_l60 (b58 : (List ByteArray)) (t0 : ByteArray) (t1 : Int) (x60 : Int) : Option (Int ⊕ (z1c × Int × Int)) :=
  if x60 < (b58.length : Int) then if 0 ≤ x60 ∧ x60 < (b58.length : Int) then (some (w64 (t1 + ((nth b58 x60).size : Int)))).bind fun b75 => if b75 ≤ (t0.size : Int) then (some (w64 (t1 + ((nth b58 x60).size : Int)))).bind fun b78 => if 0 ≤ t1 ∧ t1 ≤ b78 ∧ b78 ≤ (t0.size : Int) then if cutS t0 t1 b78 = (nth b58 x60) then some (.inr ((z1c.mk 4 (nth b58 x60) 0), ((nth b58 x60).size : Int), 0)) else ref01_one_j82 x60 () else none else ref01_one_j82 x60 () else none else some (.inr ((z1c.mk 0 (ByteArray.mk #[]) 0), 0, 2))
noncomputable def ref01_one (t0 : ByteArray) (t1 : Int) : Option (z1c × Int × Int) :=
  if 0 ≤ t1 ∧ t1 < (t0.size : Int) then (ref01_letter (z2c t0 t1)).bind fun b2 => if b2 = true then za5 t0 t1 () else (ref01_digit (z2c t0 t1)).bind fun b5 => if b5 = true then za5 t0 t1 () else if z2c t0 t1 = 34 then (ref01_quoted t0 t1).bind fun b45 => if b45 = 0 then some ((z1c.mk 0 (ByteArray.mk #[]) 0), 0, 2) else (some (w64 (b45 - 2))).bind fun b48 => if 60 < b48 then some ((z1c.mk 0 (ByteArray.mk #[]) 0), 0, 3) else (some (w64 (t1 + 1))).bind fun b51 => (some (w64 (t1 + b45))).bind fun b53 => (some (w64 (b53 - 1))).bind fun b55 => if 0 ≤ b51 ∧ b51 ≤ b55 ∧ b55 ≤ (t0.size : Int) then some ((z1c.mk 3 (cutS t0 b51 b55) 0), b45, 0) else none else (ref01_signs).bind fun b58 => z2l (ref01_one_l60 b58 t0 t1) 0 else none
noncomputable def ref01_Right (t0 : z1c) : Option (Bool) :=
  (ref01_text t0).bind fun b1 => if b1 = (ByteArray.mk #[]) then some false else (ref01_one b1 0).bind fun b4 => if b4.2.2 = 0 then if b4.2.1 = (b1.size : Int) then some (decide (b4.1.Kind = t0.Kind)) else some false else some false
noncomputable def z5x (t0 : ByteArray) : Option (Bool) :=
  (ref01_Right (z1c.mk 1 t0 0)).bind fun b1 => some b1
noncomputable def z5k (t0 : Int) (t1 : Int) (t2 : Int) : Option (Bool) :=
  if t1 ≤ t0 then some (decide (t0 ≤ t2)) else some false
noncomputable def za3 (q_ref04_attrs : z06 → Int → Option (List z0r)) (t0 : z06) (t1 : Int) : Option ((List z0r)) :=
  if t1 < 0 then some [] else if 0 ≤ t1 ∧ t1 < (t0.Nodes.length : Int) then (q_ref04_attrs t0 ((nth t0.Nodes t1).Parent)).bind fun b3 => if b3.length * 56 ≤ 140737488355328 then if (b3.length + ((nth t0.Nodes t1).Attrs).length) * 56 ≤ 140737488355328 then some (b3 ++ (nth t0.Nodes t1).Attrs) else none else none else none
noncomputable def z44 : Nat → (z06 → Int → Option (List z0r))
  | 0 => (fun _ _ => none)
  | n + 1 => (fun t0 t1 => za3 (z44 n) t0 t1)
noncomputable def ref04_attrs (t0 : z06) (t1 : Int) : Option ((List z0r)) := Ev fun n => (z44 n) t0 t1
noncomputable def za2 (t0 : (List ByteArray)) (x2 : Int) (x22 : Int) : Option (Int ⊕ (Int ⊕ Int)) :=
  if x22 < x2 then if 0 ≤ x22 ∧ x22 < (t0.length : Int) then if (nth t0 x22) = (nth t0 x2) then some (.inr (.inr 5)) else some (.inl (x22 + 1)) else none else some (.inr (.inl (x2 + 1)))
noncomputable def ref04_names_l2 (t0 : (List ByteArray)) (x2 : Int) : Option (Int ⊕ Int) :=
  if x2 < (t0.length : Int) then if 0 ≤ x2 ∧ x2 < (t0.length : Int) then (z5x (nth t0 x2)).bind fun b19 => if (!b19) = true then some (.inr 2) else z2l (za2 t0 x2) 0 else none else some (.inr 0)
noncomputable def ref04_names (t0 : (List ByteArray)) : Option (Int) :=
  if 20 < (t0.length : Int) then some 3 else z2l (ref04_names_l2 t0) 0
noncomputable def z3o (t0 : z0r) : Option (Int) :=
  if (t0.Names.length : Int) = 0 then (z5k t0.Low (-1000000) 1000000).bind fun b2 => if (!b2) = true then some 6 else (z5k t0.High t0.Low 1000000).bind fun b5 => if (!b5) = true then some 6 else some 0 else (ref04_names t0.Names).bind fun b8 => if ¬ (b8 = 0) then some b8 else if ¬ (t0.Low = 0) then some 6 else if ¬ (t0.High = (t0.Names.length : Int) - 1) then some 6 else some 0
noncomputable def ref04_node_l53 (b20 : (List z0r)) (x26 : Int) (x53 : Int) : Option (Int ⊕ (Int ⊕ Int)) :=
  if x53 < x26 then if 0 ≤ x53 ∧ x53 < (b20.length : Int) then if (nth b20 x53).Name = (nth b20 x26).Name then some (.inr (.inr 5)) else some (.inl (x53 + 1)) else none else ((z3o (nth b20 x26)).bind fun b63 => if ¬ (b63 = 0) then some (.inr b63) else some (.inl (x26 + 1))).map .inr
noncomputable def ref04_node_l26 (b20 : (List z0r)) (x26 : Int) : Option (Int ⊕ Int) :=
  if x26 < (b20.length : Int) then if 0 ≤ x26 ∧ x26 < (b20.length : Int) then (z5x ((nth b20 x26).Name)).bind fun b50 => if (!b50) = true then some (.inr 2) else z2l (ref04_node_l53 b20 x26) 0 else none else some (.inr 0)
noncomputable def ref04_node_l5 (t0 : z06) (t1 : Int) (x5 : Int) : Option (Int ⊕ Int) :=
  if x5 < t1 then if 0 ≤ x5 ∧ x5 < (t0.Nodes.length : Int) then if (nth t0.Nodes x5).Name = (nth t0.Nodes t1).Name then some (.inr 5) else some (.inl (x5 + 1)) else none else ((some (w64 (t1 - 1))).bind fun b15 => (z5k ((nth t0.Nodes t1).Parent) (-1) b15).bind fun b17 => if (!b17) = true then some 6 else (ref04_attrs t0 t1).bind fun b20 => if 4 < (((nth t0.Nodes t1).Attrs).length : Int) then some 3 else if 8 < (b20.length : Int) then some 3 else (some (w64 ((b20.length : Int) - (((nth t0.Nodes t1).Attrs).length : Int)))).bind fun b24 => z2l (ref04_node_l26 b20) b24).map .inr
noncomputable def ref04_node (t0 : z06) (t1 : Int) : Option (Int) :=
  if 0 ≤ t1 ∧ t1 < (t0.Nodes.length : Int) then (z5x ((nth t0.Nodes t1).Name)).bind fun b2 => if (!b2) = true then some 2 else z2l (ref04_node_l5 t0 t1) 0 else none
noncomputable def z67 (t0 : Int) (t1 : Int) : Option (Bool) :=
  (z5k t0 0 40).bind fun b1 => if b1 = true then if t1 = (-1) then some true else (z5k t1 t0 40).bind fun b5 => some b5 else some false
noncomputable def ref04_edge_l5 (t0 : z06) (t1 : Int) (x5 : Int) : Option (Int ⊕ Int) :=
  if x5 < t1 then if 0 ≤ x5 ∧ x5 < (t0.Edges.length : Int) then if (nth t0.Edges x5).Name = (nth t0.Edges t1).Name then some (.inr 5) else some (.inl (x5 + 1)) else none else ((some (w64 ((t0.Nodes.length : Int) - 1))).bind fun b15 => (z5k ((nth t0.Edges t1).From) 0 b15).bind fun b17 => if (!b17) = true then some 6 else (z5k ((nth t0.Edges t1).To) 0 b15).bind fun b20 => if (!b20) = true then some 6 else (z67 ((nth t0.Edges t1).OutLow) ((nth t0.Edges t1).OutHigh)).bind fun b23 => if (!b23) = true then some 6 else (z67 ((nth t0.Edges t1).InLow) ((nth t0.Edges t1).InHigh)).bind fun b26 => if (!b26) = true then some 6 else some 0).map .inr
noncomputable def ref04_edge (t0 : z06) (t1 : Int) : Option (Int) :=
  if 0 ≤ t1 ∧ t1 < (t0.Edges.length : Int) then (z5x ((nth t0.Edges t1).Name)).bind fun b2 => if (!b2) = true then some 2 else z2l (ref04_edge_l5 t0 t1) 0 else none
noncomputable def ref04_Valid_l18 (t0 : z06) (x18 : Int) : Option (Int ⊕ (ByteArray × Int)) :=
  if x18 < (t0.Edges.length : Int) then (ref04_edge t0 x18).bind fun b26 => if ¬ (b26 = 0) then if 0 ≤ x18 ∧ x18 < (t0.Edges.length : Int) then some (.inr ((nth t0.Edges x18).Name, b26)) else none else some (.inl (x18 + 1)) else some (.inr ((ByteArray.mk #[]), 0))
noncomputable def ref04_Valid_l4 (t0 : z06) (x4 : Int) : Option (Int ⊕ (ByteArray × Int)) :=
  if x4 < (t0.Nodes.length : Int) then (ref04_node t0 x4).bind fun b12 => if ¬ (b12 = 0) then if 0 ≤ x4 ∧ x4 < (t0.Nodes.length : Int) then some (.inr ((nth t0.Nodes x4).Name, b12)) else none else some (.inl (x4 + 1)) else (z2l (ref04_Valid_l18 t0) 0).map .inr
noncomputable def z5e (t0 : z06) : Option (ByteArray × Int) :=
  if (t0.Nodes.length : Int) = 0 then some ((ByteArray.mk #[]), 7) else if 12 < (t0.Nodes.length : Int) then some ((ByteArray.mk #[]), 3) else if 20 < (t0.Edges.length : Int) then some ((ByteArray.mk #[]), 3) else z2l (ref04_Valid_l4 t0) 0
noncomputable def ref05_kind (t0 : Int) : Option (Bool) :=
  if 0 ≤ t0 then some (decide (t0 ≤ 99)) else some false
noncomputable def ref05_right (t0 : z1e) (t1 : Int) : Option (Bool) :=
  (ref05_kind t0.Type_).bind fun b1 => if b1 = true then if 0 ≤ t0.From then if t0.From < t1 then if 0 ≤ t0.To then some (decide (t0.To < t1)) else some false else some false else some false else some false
noncomputable def z5r (t0 : z0p) (x17 : Int) : Option (Int ⊕ Int) :=
  if x17 < (t0.Edges.length : Int) then if 0 ≤ x17 ∧ x17 < (t0.Edges.length : Int) then (ref05_right (nth t0.Edges x17) (t0.Nodes.length : Int)).bind fun b26 => if (!b26) = true then some (.inr 6) else some (.inl (x17 + 1)) else none else some (.inr 0)
noncomputable def ref05_Valid_l3 (t0 : z0p) (x3 : Int) : Option (Int ⊕ Int) :=
  if x3 < (t0.Nodes.length : Int) then if 0 ≤ x3 ∧ x3 < (t0.Nodes.length : Int) then (ref05_kind (nth t0.Nodes x3)).bind fun b12 => if (!b12) = true then some (.inr 6) else some (.inl (x3 + 1)) else none else (z2l (z5r t0) 0).map .inr
noncomputable def z72 (t0 : z0p) : Option (Int) :=
  if 40 < (t0.Nodes.length : Int) then some 3 else if 80 < (t0.Edges.length : Int) then some 3 else z2l (ref05_Valid_l3 t0) 0
noncomputable def z5q (t0 : z06) (t1 : z0p) (x13 : Int) : Option (Int ⊕ Bool) :=
  if x13 < (t1.Edges.length : Int) then if 0 ≤ x13 ∧ x13 < (t1.Edges.length : Int) then if (nth t1.Edges x13).Type_ < 0 then some (.inr false) else if (t0.Edges.length : Int) ≤ (nth t1.Edges x13).Type_ then some (.inr false) else some (.inl (x13 + 1)) else none else some (.inr true)
noncomputable def ref17_Typed_l1 (t0 : z06) (t1 : z0p) (x1 : Int) : Option (Int ⊕ Bool) :=
  if x1 < (t1.Nodes.length : Int) then if 0 ≤ x1 ∧ x1 < (t1.Nodes.length : Int) then if (nth t1.Nodes x1) < 0 then some (.inr false) else if (t0.Nodes.length : Int) ≤ (nth t1.Nodes x1) then some (.inr false) else some (.inl (x1 + 1)) else none else (z2l (z5q t0 t1) 0).map .inr
noncomputable def ref17_Typed (t0 : z06) (t1 : z0p) : Option (Bool) :=
  z2l (ref17_Typed_l1 t0 t1) 0
noncomputable def ref04_given (t0 : z06) (t1 : Int) (t2 : Int) : Option (Int) :=
  (z5e t0).bind fun b1 => if ¬ (b1.2 = 0) then some b1.2 else (some (w64 ((t0.Nodes.length : Int) - 1))).bind fun b4 => (z5k t1 0 b4).bind fun b6 => if (!b6) = true then some 6 else (some (w64 ((t0.Nodes.length : Int) - 1))).bind fun b9 => (z5k t2 0 b9).bind fun b11 => if (!b11) = true then some 6 else some 0
noncomputable def ref04_Attrs_l6 (b4 : (List z0r)) (x6 : (List z0r) × Int) : Option (((List z0r) × Int) ⊕ ((List z0r) × Int)) :=
  if x6.2 < (b4.length : Int) then if 0 ≤ x6.2 ∧ x6.2 < (b4.length : Int) then if ((nth b4 x6.2).Names).length * 16 ≤ 140737488355328 then if (x6.1.length + 1) * 56 ≤ 140737488355328 then some (.inl ((x6.1 ++ [(z0r.mk ((nth b4 x6.2).Name) ((nth b4 x6.2).Low) ((nth b4 x6.2).High) ((nth b4 x6.2).Names))]), x6.2 + 1)) else none else none else none else some (.inr (x6.1, 0))
noncomputable def ref04_Attrs (t0 : z06) (t1 : Int) : Option ((List z0r) × Int) :=
  (ref04_given t0 t1 t1).bind fun b1 => if ¬ (b1 = 0) then some ([], b1) else (ref04_attrs t0 t1).bind fun b4 => z2l (ref04_Attrs_l6 b4) ([], 0)
noncomputable def ref21_attr (t0 : z06) (t1 : z0q) (t2 : Int) (t3 : Int) : Option (z0r × Bool) :=
  if t2 < 0 then some ((z0r.mk (ByteArray.mk #[]) 0 0 []), false) else if (t1.Graph.Nodes.length : Int) ≤ t2 then some ((z0r.mk (ByteArray.mk #[]) 0 0 []), false) else if 0 ≤ t2 ∧ t2 < (t1.Graph.Nodes.length : Int) then (ref04_Attrs t0 (nth t1.Graph.Nodes t2)).bind fun b4 => if ¬ (b4.2 = 0) then some ((z0r.mk (ByteArray.mk #[]) 0 0 []), false) else if t3 < 0 then some ((z0r.mk (ByteArray.mk #[]) 0 0 []), false) else if (b4.1.length : Int) ≤ t3 then some ((z0r.mk (ByteArray.mk #[]) 0 0 []), false) else if 0 ≤ t3 ∧ t3 < (b4.1.length : Int) then some ((nth b4.1 t3), true) else none else none
noncomputable def ref21_bounded (t0 : Int) : Option (Bool) :=
  if (-1000000) ≤ t0 then some (decide (t0 ≤ 1000000)) else some false
noncomputable def ref03_within (t0 : Int) (t1 : z4i) : Option (Int) :=
  if t1.Var < (-1) then some 6 else if t0 ≤ t1.Var then some 6 else if t1.Add < (-1000000) then some 6 else if 1000000 < t1.Add then some 6 else some 0
noncomputable def ref03_One_j8 (t0 : Int) (t1 : z3x) (v8 : Unit) : Option Int :=
  (ref03_within t0 t1.Left).bind fun b9 => if ¬ (b9 = 0) then some b9 else (ref03_within t0 t1.Right).bind fun b12 => some b12
noncomputable def ref03_One (t0 : Int) (t1 : z3x) : Option (Int) :=
  if ¬ (t1.Kind = 1) then if ¬ (t1.Kind = 2) then some 1 else ref03_One_j8 t0 t1 () else ref03_One_j8 t0 t1 ()
noncomputable def ref03_Valid_l4 (t0 : Int) (t1 : (List z3x)) (x4 : Int) : Option (Int ⊕ Int) :=
  if x4 < (t1.length : Int) then if 0 ≤ x4 ∧ x4 < (t1.length : Int) then (ref03_One t0 (nth t1 x4)).bind fun b13 => if ¬ (b13 = 0) then some (.inr b13) else some (.inl (x4 + 1)) else none else some (.inr 0)
noncomputable def ref03_Valid (t0 : Int) (t1 : (List z3x)) : Option (Int) :=
  if t0 < 0 then some 6 else if 12 < t0 then some 6 else if 40 < (t1.length : Int) then some 3 else z2l (ref03_Valid_l4 t0 t1) 0
noncomputable def z9w (t0 : z0q) (t1 : Int) (x1 : Int) : Option (Int ⊕ Bool) :=
  if x1 < (t0.Slots.length : Int) then if 0 ≤ x1 ∧ x1 < (t0.Slots.length : Int) then if ((nth t0.Slots x1).Term).Var = t1 then some (.inr true) else some (.inl (x1 + 1)) else none else some (.inr false)
noncomputable def ref21_occurs (t0 : z0q) (t1 : Int) : Option (Bool) :=
  z2l (z9w t0 t1) 0
noncomputable def z9x (t1 : z0q) (x41 : Int) : Option (Int ⊕ Int) :=
  if x41 < t1.Vars then (ref21_occurs t1 x41).bind fun b48 => if (!b48) = true then some (.inr 9) else some (.inl (x41 + 1)) else some (.inr 0)
noncomputable def ref21_Valid_l14 (t0 : z06) (t1 : z0q) (x14 : Int) : Option (Int ⊕ Int) :=
  if x14 < (t1.Slots.length : Int) then if 0 ≤ x14 ∧ x14 < (t1.Slots.length : Int) then (ref21_attr t0 t1 ((nth t1.Slots x14).Node) ((nth t1.Slots x14).Attr)).bind fun b28 => if (!b28.2) = true then some (.inr 6) else if ((nth t1.Slots x14).Term).Var < (-1) then some (.inr 6) else if t1.Vars ≤ ((nth t1.Slots x14).Term).Var then some (.inr 6) else (ref21_bounded (((nth t1.Slots x14).Term).Add)).bind fun b33 => if (!b33) = true then some (.inr 6) else some (.inl (x14 + 1)) else none else ((ref03_Valid t1.Vars t1.Tests).bind fun b38 => if ¬ (b38 = 0) then some b38 else z2l (z9x t1) 0).map .inr
noncomputable def ref21_Valid (t0 : z06) (t1 : z0q) : Option (Int) :=
  (z5e t0).bind fun b1 => if ¬ (b1.2 = 0) then some b1.2 else (z72 t1.Graph).bind fun b4 => if ¬ (b4 = 0) then some b4 else (ref17_Typed t0 t1.Graph).bind fun b7 => if (!b7) = true then some 13 else if t1.Vars < 0 then some 6 else if 12 < t1.Vars then some 6 else if 10 < (t1.Slots.length : Int) then some 3 else if 10 < (t1.Tests.length : Int) then some 3 else z2l (ref21_Valid_l14 t0 t1) 0
noncomputable def ref24_slot_j25 (x13 : Int) (v25 : Unit) : Option (Int ⊕ Int) :=
  some (.inl (x13 + 1))
noncomputable def ref24_slot_l13 (t1 : z0q) (t2 : Int) (x13 : Int) : Option (Int ⊕ Int) :=
  if x13 < t2 then if 0 ≤ x13 ∧ x13 < (t1.Slots.length : Int) then if (nth t1.Slots x13).Node = (nth t1.Slots t2).Node then if (nth t1.Slots x13).Attr = (nth t1.Slots t2).Attr then some (.inr 5) else ref24_slot_j25 x13 () else ref24_slot_j25 x13 () else none else some (.inr 0)
noncomputable def ref24_slot (t0 : z06) (t1 : z0q) (t2 : Int) : Option (Int) :=
  if 0 ≤ t2 ∧ t2 < (t1.Slots.length : Int) then if (nth t1.Slots t2).Node < 0 then some 6 else if (t1.Graph.Nodes.length : Int) ≤ (nth t1.Slots t2).Node then some 6 else if 0 ≤ (nth t1.Slots t2).Node ∧ (nth t1.Slots t2).Node < (t1.Graph.Nodes.length : Int) then (ref04_Attrs t0 (nth t1.Graph.Nodes ((nth t1.Slots t2).Node))).bind fun b5 => if (nth t1.Slots t2).Attr < 0 then some 6 else if (b5.1.length : Int) ≤ (nth t1.Slots t2).Attr then some 6 else if ((nth t1.Slots t2).Term).Var < (-1) then some 6 else if t1.Vars ≤ ((nth t1.Slots t2).Term).Var then some 6 else if ((nth t1.Slots t2).Term).Add < (-1000000) then some 6 else if 1000000 < ((nth t1.Slots t2).Term).Add then some 6 else z2l (ref24_slot_l13 t1 t2) 0 else none else none
noncomputable def ref24_right_l10 (t0 : z06) (t1 : z10) (x10 : Int) : Option (Int ⊕ Int) :=
  if x10 < (t1.Right.Slots.length : Int) then (ref24_slot t0 t1.Right x10).bind fun b17 => if ¬ (b17 = 0) then some (.inr b17) else some (.inl (x10 + 1)) else some (.inr 0)
noncomputable def ref24_right (t0 : z06) (t1 : z10) : Option (Int) :=
  (z72 t1.Right.Graph).bind fun b1 => if ¬ (b1 = 0) then some b1 else (ref17_Typed t0 t1.Right.Graph).bind fun b4 => if (!b4) = true then some 13 else if ¬ (t1.Right.Vars = t1.Left.Vars) then some 1 else if 0 < (t1.Right.Tests.length : Int) then some 1 else if 10 < (t1.Right.Slots.length : Int) then some 3 else z2l (ref24_right_l10 t0 t1) 0
noncomputable def z90 (x1 : Int) (v20 : Unit) : Option (Int ⊕ Int) :=
  some (.inl (x1 + 1))
noncomputable def ref07_ascending_l1 (t0 : (List Int)) (t1 : Int) (x1 : Int) : Option (Int ⊕ Int) :=
  if x1 < (t0.length : Int) then if 0 ≤ x1 ∧ x1 < (t0.length : Int) then if (nth t0 x1) < 0 then some (.inr 6) else if t1 ≤ (nth t0 x1) then some (.inr 6) else if 0 < x1 then if 0 ≤ x1 - 1 ∧ x1 - 1 < (t0.length : Int) then if (nth t0 x1) ≤ (nth t0 (x1 - 1)) then some (.inr 12) else z90 x1 () else none else z90 x1 () else none else some (.inr 0)
noncomputable def z9y (t0 : (List Int)) (t1 : Int) : Option (Int) :=
  z2l (ref07_ascending_l1 t0 t1) 0
noncomputable def ref07_has_l1 (t0 : (List Int)) (t1 : Int) (x1 : Int) : Option (Int ⊕ Bool) :=
  if x1 < (t0.length : Int) then if 0 ≤ x1 ∧ x1 < (t0.length : Int) then if (nth t0 x1) = t1 then some (.inr true) else some (.inl (x1 + 1)) else none else some (.inr false)
noncomputable def ref07_has (t0 : (List Int)) (t1 : Int) : Option (Bool) :=
  z2l (ref07_has_l1 t0 t1) 0
noncomputable def ref07_Right_l7 (t0 : z0p) (t1 : z2d) (x7 : Int) : Option (Int ⊕ Int) :=
  if x7 < (t1.Edges.length : Int) then if 0 ≤ x7 ∧ x7 < (t1.Edges.length : Int) then if 0 ≤ (nth t1.Edges x7) ∧ (nth t1.Edges x7) < (t0.Edges.length : Int) then (ref07_has t1.Nodes ((nth t0.Edges (nth t1.Edges x7)).From)).bind fun b21 => if (!b21) = true then some (.inr 14) else (ref07_has t1.Nodes ((nth t0.Edges (nth t1.Edges x7)).To)).bind fun b24 => if (!b24) = true then some (.inr 14) else some (.inl (x7 + 1)) else none else none else some (.inr 0)
noncomputable def ref07_Right (t0 : z0p) (t1 : z2d) : Option (Int) :=
  (z9y t1.Nodes (t0.Nodes.length : Int)).bind fun b1 => if ¬ (b1 = 0) then some b1 else (z9y t1.Edges (t0.Edges.length : Int)).bind fun b4 => if ¬ (b4 = 0) then some b4 else z2l (ref07_Right_l7 t0 t1) 0
noncomputable def ref07_Valid (t0 : z0p) (t1 : z2d) : Option (Int) :=
  (z72 t0).bind fun b1 => if ¬ (b1 = 0) then some b1 else (ref07_Right t0 t1).bind fun b4 => some b4
noncomputable def ref07_index_l1 (t0 : (List Int)) (t1 : Int) (x1 : Int) : Option (Int ⊕ Int) :=
  if x1 < (t0.length : Int) then if 0 ≤ x1 ∧ x1 < (t0.length : Int) then if (nth t0 x1) = t1 then some (.inr x1) else some (.inl (x1 + 1)) else none else some (.inr (-1))
noncomputable def ref07_index (t0 : (List Int)) (t1 : Int) : Option (Int) :=
  z2l (ref07_index_l1 t0 t1) 0
noncomputable def z7n (t0 : z0p) (t1 : z2d) (x4 : (List Int) × Int) (x15 : (List z1e) × Int) : Option (((List z1e) × Int) ⊕ (z0p × z0t × Int)) :=
  if x15.2 < (t1.Edges.length : Int) then if 0 ≤ x15.2 ∧ x15.2 < (t1.Edges.length : Int) then if 0 ≤ (nth t1.Edges x15.2) ∧ (nth t1.Edges x15.2) < (t0.Edges.length : Int) then (ref07_index t1.Nodes ((nth t0.Edges (nth t1.Edges x15.2)).From)).bind fun b27 => (ref07_index t1.Nodes ((nth t0.Edges (nth t1.Edges x15.2)).To)).bind fun b29 => if (x15.1.length + 1) * 24 ≤ 140737488355328 then some (.inl ((x15.1 ++ [(z1e.mk ((nth t0.Edges (nth t1.Edges x15.2)).Type_) b27 b29)]), x15.2 + 1)) else none else none else none else (if t1.Nodes.length * 8 ≤ 140737488355328 then if t1.Edges.length * 8 ≤ 140737488355328 then some ((z0p.mk x4.1 x15.1), (z0t.mk t1.Nodes t1.Edges), 0) else none else none).map .inr
noncomputable def z8q (t0 : z0p) (t1 : z2d) (x4 : (List Int) × Int) : Option (((List Int) × Int) ⊕ (z0p × z0t × Int)) :=
  if x4.2 < (t1.Nodes.length : Int) then if 0 ≤ x4.2 ∧ x4.2 < (t1.Nodes.length : Int) then if 0 ≤ (nth t1.Nodes x4.2) ∧ (nth t1.Nodes x4.2) < (t0.Nodes.length : Int) then if (x4.1.length + 1) * 8 ≤ 140737488355328 then some (.inl ((x4.1 ++ [(nth t0.Nodes (nth t1.Nodes x4.2))]), x4.2 + 1)) else none else none else none else (z2l (z7n t0 t1 x4) ([], 0)).map .inr
noncomputable def ref07_Extract (t0 : z0p) (t1 : z2d) : Option (z0p × z0t × Int) :=
  (ref07_Valid t0 t1).bind fun b1 => if ¬ (b1 = 0) then some ((z0p.mk [] []), (z0t.mk [] []), b1) else z2l (z8q t0 t1) ([], 0)
noncomputable def z9z (t0 : z0p) (t1 : z0p) (t2 : z0t) (x27 : Int) : Option (Int ⊕ Int) :=
  if x27 < (t0.Edges.length : Int) then if 0 ≤ x27 ∧ x27 < (t2.Edges.length : Int) then if (nth t2.Edges x27) < 0 then some (.inr 6) else if (t1.Edges.length : Int) ≤ (nth t2.Edges x27) then some (.inr 6) else if 0 ≤ x27 ∧ x27 < (t0.Edges.length : Int) then if 0 ≤ (nth t2.Edges x27) ∧ (nth t2.Edges x27) < (t1.Edges.length : Int) then if ¬ ((nth t0.Edges x27).Type_ = (nth t1.Edges (nth t2.Edges x27)).Type_) then some (.inr 13) else if 0 ≤ (nth t0.Edges x27).From ∧ (nth t0.Edges x27).From < (t2.Nodes.length : Int) then if ¬ ((nth t2.Nodes ((nth t0.Edges x27).From)) = (nth t1.Edges (nth t2.Edges x27)).From) then some (.inr 11) else if 0 ≤ (nth t0.Edges x27).To ∧ (nth t0.Edges x27).To < (t2.Nodes.length : Int) then if ¬ ((nth t2.Nodes ((nth t0.Edges x27).To)) = (nth t1.Edges (nth t2.Edges x27)).To) then some (.inr 11) else some (.inl (x27 + 1)) else none else none else none else none else none else some (.inr 0)
noncomputable def ref06_Valid_l9 (t0 : z0p) (t1 : z0p) (t2 : z0t) (x9 : Int) : Option (Int ⊕ Int) :=
  if x9 < (t0.Nodes.length : Int) then if 0 ≤ x9 ∧ x9 < (t2.Nodes.length : Int) then if (nth t2.Nodes x9) < 0 then some (.inr 6) else if (t1.Nodes.length : Int) ≤ (nth t2.Nodes x9) then some (.inr 6) else if 0 ≤ (nth t2.Nodes x9) ∧ (nth t2.Nodes x9) < (t1.Nodes.length : Int) then if 0 ≤ x9 ∧ x9 < (t0.Nodes.length : Int) then if ¬ ((nth t1.Nodes (nth t2.Nodes x9)) = (nth t0.Nodes x9)) then some (.inr 13) else some (.inl (x9 + 1)) else none else none else none else (z2l (z9z t0 t1 t2) 0).map .inr
noncomputable def ref06_Valid (t0 : z0p) (t1 : z0p) (t2 : z0t) : Option (Int) :=
  (z72 t0).bind fun b1 => if ¬ (b1 = 0) then some b1 else (z72 t1).bind fun b4 => if ¬ (b4 = 0) then some b4 else if ¬ ((t2.Nodes.length : Int) = (t0.Nodes.length : Int)) then some 20 else if ¬ ((t2.Edges.length : Int) = (t0.Edges.length : Int)) then some 20 else z2l (ref06_Valid_l9 t0 t1 t2) 0
noncomputable def ref24_span (t0 : z10) : Option (Int) :=
  (ref07_Valid t0.Left.Graph t0.Keep).bind fun b1 => if ¬ (b1 = 0) then some b1 else (ref07_Extract t0.Left.Graph t0.Keep).bind fun b4 => (ref06_Valid b4.1 t0.Right.Graph t0.Into).bind fun b6 => some b6
noncomputable def za1 (t0 : (List Int)) (x1 : Int) (x15 : Int) : Option (Int ⊕ (Int ⊕ Bool)) :=
  if x15 < x1 then if 0 ≤ x1 ∧ x1 < (t0.length : Int) then if 0 ≤ x15 ∧ x15 < (t0.length : Int) then if (nth t0 x1) = (nth t0 x15) then some (.inr (.inr false)) else some (.inl (x15 + 1)) else none else none else some (.inr (.inl (x1 + 1)))
noncomputable def ref06_Distinct_l1 (t0 : (List Int)) (x1 : Int) : Option (Int ⊕ Bool) :=
  if x1 < (t0.length : Int) then z2l (za1 t0 x1) 0 else some (.inr true)
noncomputable def z5d (t0 : (List Int)) : Option (Bool) :=
  z2l (ref06_Distinct_l1 t0) 0
noncomputable def ref24_has_l1 (t0 : (List Int)) (t1 : Int) (x1 : Int) : Option (Int ⊕ Bool) :=
  if x1 < (t0.length : Int) then if 0 ≤ x1 ∧ x1 < (t0.length : Int) then if (nth t0 x1) = t1 then some (.inr true) else some (.inl (x1 + 1)) else none else some (.inr false)
noncomputable def ref24_has (t0 : (List Int)) (t1 : Int) : Option (Bool) :=
  z2l (ref24_has_l1 t0 t1) 0
noncomputable def ref24_rest_j14 (x1 : (List Int) × Int) (v14 : (List Int)) : Option (((List Int) × Int) ⊕ (List Int)) :=
  some (.inl (v14, x1.2 + 1))
noncomputable def ref24_rest_l1 (t0 : Int) (t1 : (List Int)) (x1 : (List Int) × Int) : Option (((List Int) × Int) ⊕ (List Int)) :=
  if x1.2 < t0 then (ref24_has t1 x1.2).bind fun b10 => if (!b10) = true then if (x1.1.length + 1) * 8 ≤ 140737488355328 then ref24_rest_j14 x1 (x1.1 ++ [x1.2]) else none else ref24_rest_j14 x1 x1.1 else some (.inr x1.1)
noncomputable def ref24_rest (t0 : Int) (t1 : (List Int)) : Option ((List Int)) :=
  z2l (ref24_rest_l1 t0 t1) ([], 0)
noncomputable def z9t (t0 : z10) : Option ((List Int) × (List Int)) :=
  (ref24_rest (t0.Right.Graph.Nodes.length : Int) t0.Into.Nodes).bind fun b1 => (ref24_rest (t0.Right.Graph.Edges.length : Int) t0.Into.Edges).bind fun b3 => some (b1, b3)
noncomputable def z8b (q_ref04_Below1 : z06 → Int → Int → Option Bool) (t0 : z06) (t1 : Int) (t2 : Int) : Option (Bool) :=
  if t1 = t2 then some true else if 0 ≤ t1 then if 0 ≤ t1 ∧ t1 < (t0.Nodes.length : Int) then (q_ref04_Below1 t0 ((nth t0.Nodes t1).Parent) t2).bind fun b4 => some b4 else none else some false
noncomputable def z45 : Nat → (z06 → Int → Int → Option Bool)
  | 0 => (fun _ _ _ => none)
  | n + 1 => (fun t0 t1 t2 => z8b (z45 n) t0 t1 t2)
noncomputable def ref04_Below1 (t0 : z06) (t1 : Int) (t2 : Int) : Option (Bool) := Ev fun n => (z45 n) t0 t1 t2
noncomputable def ref04_Fits (t0 : z06) (t1 : Int) (t2 : Int) (t3 : Int) : Option (Bool) :=
  (ref04_given t0 t2 t3).bind fun b1 => if ¬ (b1 = 0) then some false else (some (w64 ((t0.Edges.length : Int) - 1))).bind fun b4 => (z5k t1 0 b4).bind fun b6 => if (!b6) = true then some false else if 0 ≤ t1 ∧ t1 < (t0.Edges.length : Int) then (ref04_Below1 t0 t2 ((nth t0.Edges t1).From)).bind fun b10 => if b10 = true then (ref04_Below1 t0 t3 ((nth t0.Edges t1).To)).bind fun b13 => some b13 else some false else none
noncomputable def z6i (t0 : z06) (t1 : z0p) (t3 : (List Int)) (x15 : Int) : Option (Int ⊕ Bool) :=
  if x15 < (t3.length : Int) then if 0 ≤ x15 ∧ x15 < (t3.length : Int) then if 0 ≤ (nth t3 x15) ∧ (nth t3 x15) < (t1.Edges.length : Int) then if 0 ≤ (nth t1.Edges (nth t3 x15)).From ∧ (nth t1.Edges (nth t3 x15)).From < (t1.Nodes.length : Int) then if 0 ≤ (nth t1.Edges (nth t3 x15)).To ∧ (nth t1.Edges (nth t3 x15)).To < (t1.Nodes.length : Int) then (ref04_Fits t0 ((nth t1.Edges (nth t3 x15)).Type_) (nth t1.Nodes ((nth t1.Edges (nth t3 x15)).From)) (nth t1.Nodes ((nth t1.Edges (nth t3 x15)).To))).bind fun b30 => if (!b30) = true then some (.inr false) else some (.inl (x15 + 1)) else none else none else none else none else some (.inr true)
noncomputable def z9s (t0 : z06) (t1 : z0p) (t2 : (List Int)) (t3 : (List Int)) (x1 : Int) : Option (Int ⊕ Bool) :=
  if x1 < (t2.length : Int) then if 0 ≤ x1 ∧ x1 < (t2.length : Int) then if 0 ≤ (nth t2 x1) ∧ (nth t2 x1) < (t1.Nodes.length : Int) then if 0 ≤ (nth t1.Nodes (nth t2 x1)) ∧ (nth t1.Nodes (nth t2 x1)) < (t0.Nodes.length : Int) then if ((nth t0.Nodes (nth t1.Nodes (nth t2 x1))).Abstract) = true then some (.inr false) else some (.inl (x1 + 1)) else none else none else none else (z2l (z6i t0 t1 t3) 0).map .inr
noncomputable def ref24_proper (t0 : z06) (t1 : z0p) (t2 : (List Int)) (t3 : (List Int)) : Option (Bool) :=
  z2l (z9s t0 t1 t2 t3) 0
noncomputable def z99 (t0 : z05) : Option (Bool) :=
  (some (w64 ((t0.Map.Nodes.length : Int) + (t0.Map.Edges.length : Int)))).bind fun b1 => (some (w64 (b1 + (t0.Pattern.Graph.Nodes.length : Int)))).bind fun b3 => (some (w64 (b3 + (t0.Pattern.Graph.Edges.length : Int)))).bind fun b5 => if b5 = 0 then (some (w64 ((t0.Pattern.Slots.length : Int) + (t0.Pattern.Tests.length : Int)))).bind fun b8 => if b8 = 0 then some (decide (t0.Pattern.Vars = 0)) else some false else some false
noncomputable def z9u (t0 : z05) (v13 : Bool) : Option Bool :=
  if v13 = true then if 0 < (t0.Kids.length : Int) then (z99 t0).bind fun b16 => some b16 else some false else if t0.Kind = 5 then some (decide ((t0.Kids.length : Int) = 1)) else some false
noncomputable def ref22_right (t0 : z05) : Option (Bool) :=
  if t0.Kind = 1 then if (t0.Kids.length : Int) = 0 then (z99 t0).bind fun b3 => some b3 else some false else if t0.Kind = 2 then if (t0.Kids.length : Int) = 1 then (z99 t0).bind fun b7 => some b7 else some false else if t0.Kind = 3 then z9u t0 (decide (t0.Kind = 3)) else z9u t0 (decide (t0.Kind = 4))
noncomputable def z5p (q_ref22_allRight : z05 → Option Bool) (t0 : z05) (x4 : Int) : Option (Int ⊕ Bool) :=
  if x4 < (t0.Kids.length : Int) then if 0 ≤ x4 ∧ x4 < (t0.Kids.length : Int) then (q_ref22_allRight (nth t0.Kids x4)).bind fun b13 => if (!b13) = true then some (.inr false) else some (.inl (x4 + 1)) else none else some (.inr true)
noncomputable def z4k (q_ref22_allRight : z05 → Option Bool) (t0 : z05) : Option (Bool) :=
  (ref22_right t0).bind fun b1 => if (!b1) = true then some false else z2l (z5p q_ref22_allRight t0) 0
noncomputable def z2e : Nat → (z05 → Option Bool)
  | 0 => (fun _ => none)
  | n + 1 => (fun t0 => z4k (z2e n) t0)
noncomputable def ref22_allRight (t0 : z05) : Option (Bool) := Ev fun n => (z2e n) t0
noncomputable def ref22_Measure_j20 (x1 : Int × Int × Int) (v20 : Int) : Option (Int × Int) :=
  some (x1.1, v20)
noncomputable def z8p (q_ref22_Measure : z05 → Option (Int × Int)) (t0 : z05) (x1 : Int × Int × Int) : Option ((Int × Int × Int) ⊕ (Int × Int)) :=
  if x1.2.2 < (t0.Kids.length : Int) then if 0 ≤ x1.2.2 ∧ x1.2.2 < (t0.Kids.length : Int) then (q_ref22_Measure (nth t0.Kids x1.2.2)).bind fun b11 => (some (w64 (x1.1 + b11.1))).bind fun b13 => some (.inl (b13, (if x1.2.1 < b11.2 then b11.2 else x1.2.1), x1.2.2 + 1)) else none else (if t0.Kind = 5 then (some (w64 (x1.2.1 + 1))).bind fun b18 => ref22_Measure_j20 x1 b18 else ref22_Measure_j20 x1 x1.2.1).map .inr
noncomputable def z4a (q_ref22_Measure : z05 → Option (Int × Int)) (t0 : z05) : Option (Int × Int) :=
  z2l (z8p q_ref22_Measure t0) (1, 0, 0)
noncomputable def z2t : Nat → (z05 → Option (Int × Int))
  | 0 => (fun _ => none)
  | n + 1 => (fun t0 => z4a (z2t n) t0)
noncomputable def ref22_Measure (t0 : z05) : Option (Int × Int) := Ev fun n => (z2t n) t0
noncomputable def ref22_Shape (t0 : z05) : Option (Int) :=
  (ref22_allRight t0).bind fun b1 => if (!b1) = true then some 1 else (ref22_Measure t0).bind fun b4 => if 12 < b4.1 then some 3 else if 3 < b4.2 then some 3 else some 0
noncomputable def ref22_occurs_l1 (t0 : z0q) (t1 : Int) (x1 : Int) : Option (Int ⊕ Bool) :=
  if x1 < (t0.Slots.length : Int) then if 0 ≤ x1 ∧ x1 < (t0.Slots.length : Int) then if ((nth t0.Slots x1).Term).Var = t1 then some (.inr true) else some (.inl (x1 + 1)) else none else some (.inr false)
noncomputable def ref22_occurs (t0 : z0q) (t1 : Int) : Option (Bool) :=
  z2l (ref22_occurs_l1 t0 t1) 0
noncomputable def ref22_inner_l5 (b2 : Int) (t2 : z0q) (x5 : Int) : Option (Int ⊕ Int) :=
  if x5 < t2.Vars then (ref22_occurs t2 x5).bind fun b14 => if (!b14) = true then some (.inr b2) else some (.inl (x5 + 1)) else some (.inr 0)
noncomputable def ref22_inner (t0 : z06) (t1 : Int) (t2 : z0q) : Option (Int) :=
  if t2.Vars < t1 then some 20 else (ref21_Valid t0 t2).bind fun b2 => if ¬ (b2 = 9) then some b2 else z2l (ref22_inner_l5 b2 t2) t1
noncomputable def za0 (t0 : z0p) (t1 : z0p) (t2 : z0t) : Option (Bool) :=
  (ref06_Valid t0 t1 t2).bind fun b1 => if b1 = 0 then (z5d t2.Nodes).bind fun b4 => if b4 = true then (z5d t2.Edges).bind fun b7 => some b7 else some false else some false
noncomputable def ref22_over_l26 (q_ref22_over : z06 → z0q → z05 → Option Int) (t0 : z06) (t2 : z05) (v25 : z0q) (x26 : Int) : Option (Int ⊕ Int) :=
  if x26 < (t2.Kids.length : Int) then if 0 ≤ x26 ∧ x26 < (t2.Kids.length : Int) then (q_ref22_over t0 v25 (nth t2.Kids x26)).bind fun b35 => if ¬ (b35 = 0) then some (.inr b35) else some (.inl (x26 + 1)) else none else some (.inr 0)
noncomputable def z6k (q_ref22_over : z06 → z0q → z05 → Option Int) (t0 : z06) (t2 : z05) (v25 : z0q) : Option Int :=
  z2l (ref22_over_l26 q_ref22_over t0 t2 v25) 0
noncomputable def z71 (q_ref22_over : z06 → z0q → z05 → Option Int) (t0 : z06) (t1 : z0q) (t2 : z05) : Option (Int) :=
  if t2.Kind = 5 then (ref22_inner t0 t1.Vars t2.Pattern).bind fun b2 => if ¬ (b2 = 0) then some b2 else (ref06_Valid t1.Graph t2.Pattern.Graph t2.Map).bind fun b5 => if ¬ (b5 = 0) then some b5 else (za0 t1.Graph t2.Pattern.Graph t2.Map).bind fun b8 => if (!b8) = true then some 1 else z6k q_ref22_over t0 t2 t2.Pattern else z6k q_ref22_over t0 t2 t1
noncomputable def z49 : Nat → (z06 → z0q → z05 → Option Int)
  | 0 => (fun _ _ _ => none)
  | n + 1 => (fun t0 t1 t2 => z71 (z49 n) t0 t1 t2)
noncomputable def ref22_over (t0 : z06) (t1 : z0q) (t2 : z05) : Option (Int) := Ev fun n => (z49 n) t0 t1 t2
noncomputable def ref22_Valid (t0 : z06) (t1 : z0q) (t2 : z05) : Option (Int) :=
  (ref21_Valid t0 t1).bind fun b1 => if ¬ (b1 = 0) then some b1 else (ref22_Shape t2).bind fun b4 => if ¬ (b4 = 0) then some b4 else (ref22_over t0 t1 t2).bind fun b7 => some b7
noncomputable def ref24_Valid (t0 : z06) (t1 : z10) : Option (Int) :=
  (z5e t0).bind fun b1 => if ¬ (b1.2 = 0) then some b1.2 else (z5x t1.Name).bind fun b4 => if (!b4) = true then some 2 else (ref21_Valid t0 t1.Left).bind fun b7 => if ¬ (b7 = 0) then some b7 else (ref24_right t0 t1).bind fun b10 => if ¬ (b10 = 0) then some b10 else (ref24_span t1).bind fun b13 => if ¬ (b13 = 0) then some b13 else (z5d t1.Into.Nodes).bind fun b16 => if (!b16) = true then some 11 else (z5d t1.Into.Edges).bind fun b19 => if (!b19) = true then some 11 else (z9t t1).bind fun b22 => (ref24_proper t0 t1.Right.Graph b22.1 b22.2).bind fun b24 => if (!b24) = true then some 13 else (ref22_Valid t0 t1.Left t1.Condition).bind fun b27 => some b27
noncomputable def ref24_deleted (t0 : z10) : Option ((List Int) × (List Int)) :=
  (ref24_rest (t0.Left.Graph.Nodes.length : Int) t0.Keep.Nodes).bind fun b1 => (ref24_rest (t0.Left.Graph.Edges.length : Int) t0.Keep.Edges).bind fun b3 => some (b1, b3)
noncomputable def ref24_Deleted (t0 : z06) (t1 : z10) : Option ((List Int) × (List Int) × Int) :=
  (ref24_Valid t0 t1).bind fun b1 => if ¬ (b1 = 0) then some ([], [], b1) else (ref24_deleted t1).bind fun b4 => some (b4.1, b4.2, 0)
noncomputable def ref39_leaf_l1 (t0 : z06) (t1 : Int) (x1 : Int) : Option (Int ⊕ Bool) :=
  if x1 < (t0.Nodes.length : Int) then if 0 ≤ x1 ∧ x1 < (t0.Nodes.length : Int) then if (nth t0.Nodes x1).Parent = t1 then some (.inr false) else some (.inl (x1 + 1)) else none else some (.inr true)
noncomputable def ref39_leaf (t0 : z06) (t1 : Int) : Option (Bool) :=
  z2l (ref39_leaf_l1 t0 t1) 0
noncomputable def ref24_Created (t0 : z06) (t1 : z10) : Option ((List Int) × (List Int) × Int) :=
  (ref24_Valid t0 t1).bind fun b1 => if ¬ (b1 = 0) then some ([], [], b1) else (z9t t1).bind fun b4 => some (b4.1, b4.2, 0)
noncomputable def z8m (b54 : (List Int) × (List Int) × Int) (t0 : z06) (t1 : z10) (x72 : (List Int) × Int) : Option (((List Int) × Int) ⊕ ((List Int) × Int)) :=
  if x72.2 < (b54.2.1.length : Int) then if 0 ≤ x72.2 ∧ x72.2 < (b54.2.1.length : Int) then if 0 ≤ (nth b54.2.1 x72.2) ∧ (nth b54.2.1 x72.2) < (t1.Right.Graph.Edges.length : Int) then (some (w64 ((t0.Nodes.length : Int) + ((nth t1.Right.Graph.Edges (nth b54.2.1 x72.2)).Type_)))).bind fun b85 => if 0 ≤ b85 ∧ b85 < (x72.1.length : Int) then (some (w64 ((nth x72.1 b85) + 1))).bind fun b88 => some (.inl ((x72.1.set b85.toNat b88), x72.2 + 1)) else none else none else none else some (.inr (x72.1, 0))
noncomputable def z8n (b54 : (List Int) × (List Int) × Int) (t0 : z06) (t1 : z10) (x56 : (List Int) × Int) : Option (((List Int) × Int) ⊕ ((List Int) × Int)) :=
  if x56.2 < (b54.1.length : Int) then if 0 ≤ x56.2 ∧ x56.2 < (b54.1.length : Int) then if 0 ≤ (nth b54.1 x56.2) ∧ (nth b54.1 x56.2) < (t1.Right.Graph.Nodes.length : Int) then if 0 ≤ (nth t1.Right.Graph.Nodes (nth b54.1 x56.2)) ∧ (nth t1.Right.Graph.Nodes (nth b54.1 x56.2)) < (x56.1.length : Int) then (some (w64 ((nth x56.1 (nth t1.Right.Graph.Nodes (nth b54.1 x56.2))) + 1))).bind fun b68 => some (.inl ((x56.1.set (nth t1.Right.Graph.Nodes (nth b54.1 x56.2)).toNat b68), x56.2 + 1)) else none else none else none else (z2l (z8m b54 t0 t1) (x56.1, 0)).map .inr
noncomputable def z8o (b10 : (List Int) × (List Int) × Int) (t0 : z06) (t1 : z10) (x34 : (List Int) × Int) : Option (((List Int) × Int) ⊕ ((List Int) × Int)) :=
  if x34.2 < (b10.2.1.length : Int) then if 0 ≤ x34.2 ∧ x34.2 < (b10.2.1.length : Int) then if 0 ≤ (nth b10.2.1 x34.2) ∧ (nth b10.2.1 x34.2) < (t1.Left.Graph.Edges.length : Int) then (some (w64 ((t0.Nodes.length : Int) + ((nth t1.Left.Graph.Edges (nth b10.2.1 x34.2)).Type_)))).bind fun b47 => if 0 ≤ b47 ∧ b47 < (x34.1.length : Int) then (some (w64 ((nth x34.1 b47) - 1))).bind fun b50 => some (.inl ((x34.1.set b47.toNat b50), x34.2 + 1)) else none else none else none else ((ref24_Created t0 t1).bind fun b54 => z2l (z8n b54 t0 t1) (x34.1, 0)).map .inr
noncomputable def ref39_Effect_l12 (b10 : (List Int) × (List Int) × Int) (t0 : z06) (t1 : z10) (x12 : (List Int) × Int) : Option (((List Int) × Int) ⊕ ((List Int) × Int)) :=
  if x12.2 < (b10.1.length : Int) then if 0 ≤ x12.2 ∧ x12.2 < (b10.1.length : Int) then if 0 ≤ (nth b10.1 x12.2) ∧ (nth b10.1 x12.2) < (t1.Left.Graph.Nodes.length : Int) then (ref39_leaf t0 (nth t1.Left.Graph.Nodes (nth b10.1 x12.2))).bind fun b26 => if (!b26) = true then some (.inr ([], 13)) else if 0 ≤ (nth t1.Left.Graph.Nodes (nth b10.1 x12.2)) ∧ (nth t1.Left.Graph.Nodes (nth b10.1 x12.2)) < (x12.1.length : Int) then (some (w64 ((nth x12.1 (nth t1.Left.Graph.Nodes (nth b10.1 x12.2))) - 1))).bind fun b30 => some (.inl ((x12.1.set (nth t1.Left.Graph.Nodes (nth b10.1 x12.2)).toNat b30), x12.2 + 1)) else none else none else none else (z2l (z8o b10 t0 t1) (x12.1, 0)).map .inr
noncomputable def ref39_Effect (t0 : z06) (t1 : z10) : Option ((List Int) × Int) :=
  (z5e t0).bind fun b1 => if ¬ (b1.2 = 0) then some ([], b1.2) else (ref24_Valid t0 t1).bind fun b4 => if ¬ (b4 = 0) then some ([], b4) else (some (w64 ((t0.Nodes.length : Int) + (t0.Edges.length : Int)))).bind fun b7 => if 0 ≤ b7 ∧ b7 * 8 ≤ 140737488355328 then (ref24_Deleted t0 t1).bind fun b10 => z2l (ref39_Effect_l12 b10 t0 t1) ((List.replicate b7.toNat 0), 0) else none
noncomputable def z7j (x21 : Bool × Int) (v30 : Bool) : Option ((Bool × Int) ⊕ (((List Int) × Int) ⊕ (List Int))) :=
  some (.inl (v30, x21.2 + 1))
noncomputable def z7i (x1 : (List Int) × Int) (v36 : (List Int)) : Option (((List Int) × Int) ⊕ (List Int)) :=
  some (.inl (v36, x1.2 + 1))
noncomputable def z7h (t1 : (List (List Int))) (x1 : (List Int) × Int) (x21 : Bool × Int) : Option ((Bool × Int) ⊕ (((List Int) × Int) ⊕ (List Int))) :=
  if x21.2 < (t1.length : Int) then if x21.1 = true then z7j x21 true else if 0 ≤ x21.2 ∧ x21.2 < (t1.length : Int) then if 0 ≤ x1.2 ∧ x1.2 < ((nth t1 x21.2).length : Int) then z7j x21 (decide (¬ ((nth (nth t1 x21.2) x1.2) = 0))) else none else none else (if x21.1 = true then if (x1.1.length + 1) * 8 ≤ 140737488355328 then z7i x1 (x1.1 ++ [x1.2]) else none else z7i x1 x1.1).map .inr
noncomputable def ref39_touched_l1 (t0 : Int) (t1 : (List (List Int))) (x1 : (List Int) × Int) : Option (((List Int) × Int) ⊕ (List Int)) :=
  if x1.2 < t0 then z2l (z7h t1 x1) (false, 0) else some (.inr x1.1)
noncomputable def ref39_touched (t0 : Int) (t1 : (List (List Int))) : Option ((List Int)) :=
  z2l (ref39_touched_l1 t0 t1) ([], 0)
noncomputable def ref39_Effects_l5 (t0 : z06) (t1 : (List z10)) (x5 : (List (List Int)) × Int) : Option (((List (List Int)) × Int) ⊕ ((List (List Int)) × Int)) :=
  if x5.2 < (t1.length : Int) then if 0 ≤ x5.2 ∧ x5.2 < (t1.length : Int) then (ref39_Effect t0 (nth t1 x5.2)).bind fun b14 => if ¬ (b14.2 = 0) then some (.inr ([], b14.2)) else if (x5.1.length + 1) * 24 ≤ 140737488355328 then some (.inl ((x5.1 ++ [b14.1]), x5.2 + 1)) else none else none else ((some (w64 ((t0.Nodes.length : Int) + (t0.Edges.length : Int)))).bind fun b24 => (ref39_touched b24 x5.1).bind fun b26 => if 6 < (b26.length : Int) then some ([], 3) else some (x5.1, 0)).map .inr
noncomputable def z7l (t0 : z06) (t1 : (List z10)) : Option ((List (List Int)) × Int) :=
  (z5e t0).bind fun b1 => if ¬ (b1.2 = 0) then some ([], b1.2) else if 6 < (t1.length : Int) then some ([], 3) else z2l (ref39_Effects_l5 t0 t1) ([], 0)
noncomputable def ref39_total_l1 (t0 : (List Int)) (x1 : Int × Int) : Option ((Int × Int) ⊕ Int) :=
  if x1.2 < (t0.length : Int) then if 0 ≤ x1.2 ∧ x1.2 < (t0.length : Int) then (some (w64 (x1.1 + (nth t0 x1.2)))).bind fun b9 => some (.inl (b9, x1.2 + 1)) else none else some (.inr x1.1)
noncomputable def ref39_total (t0 : (List Int)) : Option (Int) :=
  z2l (ref39_total_l1 t0) (0, 0)
noncomputable def ref39_Product_l1 (t0 : (List Int)) (t1 : (List Int)) (x1 : Int × Int) : Option ((Int × Int) ⊕ Int) :=
  if x1.2 < (t0.length : Int) then if 0 ≤ x1.2 ∧ x1.2 < (t0.length : Int) then if 0 ≤ x1.2 ∧ x1.2 < (t1.length : Int) then (some (w64 ((nth t0 x1.2) * (nth t1 x1.2)))).bind fun b13 => (some (w64 (x1.1 + b13))).bind fun b15 => some (.inl (b15, x1.2 + 1)) else none else none else some (.inr x1.1)
noncomputable def ref39_Product (t0 : (List Int)) (t1 : (List Int)) : Option (Int) :=
  z2l (ref39_Product_l1 t0 t1) (0, 0)
noncomputable def ref39_lowers_l1 (t0 : (List Int)) (t1 : (List (List Int))) (x1 : Int) : Option (Int ⊕ Bool) :=
  if x1 < (t1.length : Int) then if 0 ≤ x1 ∧ x1 < (t1.length : Int) then (ref39_Product t0 (nth t1 x1)).bind fun b10 => if (-1) < b10 then some (.inr false) else some (.inl (x1 + 1)) else none else some (.inr true)
noncomputable def ref39_lowers (t0 : (List Int)) (t1 : (List (List Int))) : Option (Bool) :=
  z2l (ref39_lowers_l1 t0 t1) 0
noncomputable def weight_natural_1 (t0 : Int) : Option (Bool) :=
  if t0 < 0 then some true else some (decide (1000 < t0))
noncomputable def z86 (t0 : (List Int)) (t1 : Int) : Option (Bool) :=
  if (t0.length : Int) = t1 then (z1p t0 weight_natural_1).bind fun b2 => some (!b2) else some false
noncomputable def weight_Check (t0 : z06) (t1 : (List z10)) (t2 : (List Int)) : Option (Bool) :=
  (z4t t0 t1).bind fun b1 => if b1.2.2 = 0 then (some (w64 ((t0.Nodes.length : Int) + (t0.Edges.length : Int)))).bind fun b4 => (z86 t2 b4).bind fun b6 => if b6 = true then (z9j b1.1 t2).bind fun b9 => some b9 else some false else some false
noncomputable def z7k (t0 : (List Int)) (t1 : (List (List Int))) (x4 : Int) (x30 : Int × Int) : Option ((Int × Int) ⊕ (Int ⊕ Bool)) :=
  if x30.2 < (t0.length : Int) then if 0 ≤ x30.2 ∧ x30.2 < (t0.length : Int) then if 0 ≤ x30.2 ∧ x30.2 < (t1.length : Int) then if 0 ≤ x4 ∧ x4 < ((nth t1 x30.2).length : Int) then (some (w64 ((nth t0 x30.2) * (nth (nth t1 x30.2) x4)))).bind fun b43 => (some (w64 (x30.1 + b43))).bind fun b45 => some (.inl (b45, x30.2 + 1)) else none else none else none else (if x30.1 < 0 then some (.inr false) else some (.inl (x4 + 1))).map .inr
noncomputable def z8l (t0 : (List Int)) (t1 : (List (List Int))) (x4 : Int) : Option (Int ⊕ Bool) :=
  if 0 ≤ (0 : Int) ∧ (0 : Int) < (t1.length : Int) then if x4 < ((nth t1 0).length : Int) then z2l (z7k t0 t1 x4) (0, 0) else some (.inr true) else none
noncomputable def ref39_refutes (t0 : (List Int)) (t1 : (List (List Int))) : Option (Bool) :=
  (ref39_total t0).bind fun b1 => if b1 = 0 then some false else z2l (z8l t0 t1) 0
noncomputable def z6v (t0 : z06) (t1 : (List z10)) (t2 : (List Int)) : Option (Bool) :=
  (z4t t0 t1).bind fun b1 => if b1.2.2 = 0 then (z86 t2 (t1.length : Int)).bind fun b4 => if b4 = true then if 0 < (t2.length : Int) then (z84 b1.1 t2).bind fun b8 => some b8 else some false else some false else some false
noncomputable def ref39_natural_l2 (t0 : (List Int)) (t1 : Int) (x2 : Int) : Option (Int ⊕ Bool) :=
  if x2 < t1 then if 0 ≤ x2 ∧ x2 < (t0.length : Int) then if (nth t0 x2) < 0 then some (.inr false) else if 1000 < (nth t0 x2) then some (.inr false) else some (.inl (x2 + 1)) else none else some (.inr true)
noncomputable def z9r (t0 : (List Int)) (t1 : Int) : Option (Bool) :=
  if ¬ ((t0.length : Int) = t1) then some false else z2l (ref39_natural_l2 t0 t1) 0
noncomputable def ref39_Check (t0 : z06) (t1 : (List z10)) (t2 : (List Int)) : Option (Bool) :=
  (z7l t0 t1).bind fun b1 => if b1.2 = 0 then (some (w64 ((t0.Nodes.length : Int) + (t0.Edges.length : Int)))).bind fun b4 => (z9r t2 b4).bind fun b6 => if b6 = true then (ref39_lowers t2 b1.1).bind fun b9 => some b9 else some false else some false
noncomputable def z7m (t0 : z06) (t1 : (List z10)) (t2 : (List Int)) : Option (Bool) :=
  (z7l t0 t1).bind fun b1 => if b1.2 = 0 then (z9r t2 (t1.length : Int)).bind fun b4 => if b4 = true then if 0 < (t1.length : Int) then (ref39_refutes t2 b1.1).bind fun b8 => some b8 else some false else some false else some false
noncomputable def z7r (t0 : z06) (t1 : (List z10)) (t2 : z4s) : Option (Bool) :=
  (z68).bind fun b1 => if (!b1) = true then (z68).bind fun b9 => some b9 else (law39_small t0 t1).bind fun b4 => if (!b4) = true then (z68).bind fun b11 => some b11 else if 60 < (t2.e0.length : Int) then (z68).bind fun b13 => some b13 else if 60 < (t2.e1.length : Int) then (z68).bind fun b15 => some b15 else (z36 t2.e0).bind fun b17 => (weight_Check t0 t1 b17).bind fun b19 => (ref39_Check t0 t1 t2.e0).bind fun b21 => if (b19 == b21) = true then (z36 t2.e1).bind fun b24 => (z6v t0 t1 b24).bind fun b26 => (z7m t0 t1 t2.e1).bind fun b28 => some (b26 == b28) else some false
end Go.Proofs.YtngimdmkomkeoaaGreat.K
