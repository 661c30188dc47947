import Derived.Test.YtngimdmkomkeoaaGreatTypes
set_option linter.unusedVariables false
set_option linter.unusedSimpArgs false
namespace Go.Proofs.YtngimdmkomkeoaaGreat.K
open Go.RowKit Go.Proofs
noncomputable def nv (t0 : Int) : Option (Bool) :=
  if 97 ≤ t0 then if t0 ≤ 122 then some true else if 65 ≤ t0 then some (decide (t0 ≤ 90)) else some false else if 65 ≤ t0 then some (decide (t0 ≤ 90)) else some false
noncomputable def pL (x1 : Int) (v17 : Unit) : Option (Int ⊕ Int) :=
  some (.inr x1)
noncomputable def xB (t0 : ByteArray) (t1 : (Int → Option Bool)) (x1 : Int) : Option (Int ⊕ Int) :=
  if x1 < (t0.size : Int) then if 0 ≤ x1 ∧ x1 < (t0.size : Int) then (t1 (cq t0 x1)).bind fun b12 => if b12 = true then some (.inl (x1 + 1)) else pL x1 () else none else pL x1 ()
noncomputable def mR (t0 : ByteArray) (t1 : (Int → Option Bool)) : Option (Int) :=
  aE (xB t0 t1) 0
noncomputable def lG (t0 : Int) : Option (Bool) :=
  if 48 ≤ t0 then some (decide (t0 ≤ 57)) else some false
noncomputable def sV (t0 : Int) : Option (Bool) :=
  (nv t0).bind fun b1 => if b1 = true then some true else (lG t0).bind fun b4 => if b4 = true then some true else some (decide (t0 = 95))
noncomputable def yj (t0 : Int) : Option (Bool) :=
  if 32 ≤ t0 then if t0 ≤ 126 then some (decide (¬ (t0 = 34))) else some false else some false
noncomputable def tx (t0 : ByteArray) : Option (Int × Int) :=
  if 0 ≤ (1 : Int) ∧ (1 : Int) ≤ (t0.size : Int) ∧ (t0.size : Int) ≤ (t0.size : Int) then (mR (bT t0 1 (t0.size : Int)) yj).bind fun b2 => (some (bb (1 + b2))).bind fun b4 => if b4 = (t0.size : Int) then some (0, 2) else (some (bb (1 + b2))).bind fun b7 => if 0 ≤ b7 ∧ b7 < (t0.size : Int) then if ¬ (cq t0 b7 = 34) then some (0, 2) else if 60 < b2 then some (0, 3) else (some (bb (b2 + 2))).bind fun b12 => some (b12, 0) else none else none
noncomputable def zb (t0 : (List ByteArray)) (t1 : ByteArray) (x1 : Int) : Option (Int ⊕ Int) :=
  if x1 < (t0.length : Int) then if 0 ≤ x1 ∧ x1 < (t0.length : Int) then if t1 = (nth t0 x1) then some (.inr x1) else some (.inl (x1 + 1)) else none else some (.inr (-1))
noncomputable def uV (t0 : (List ByteArray)) (t1 : ByteArray) : Option (Int) :=
  aE (zb t0 t1) 0
noncomputable def qP (t0 : (List ByteArray)) (t1 : ByteArray) : Option (Bool) :=
  (uV t0 t1).bind fun b1 => some (decide (0 ≤ b1))
noncomputable def sU (t0 : ByteArray) : Option (Bool) :=
  if 2 ≤ (t0.size : Int) then if 0 ≤ (0 : Int) ∧ (0 : Int) ≤ (2 : Int) ∧ (2 : Int) ≤ (t0.size : Int) then (qP [(ByteArray.mk #[45, 62]), (ByteArray.mk #[60, 61]), (ByteArray.mk #[62, 61]), (ByteArray.mk #[61, 61]), (ByteArray.mk #[33, 61])] (bT t0 0 2)).bind fun b3 => some b3 else none else some false
noncomputable def za (t0 : ByteArray) (t1 : Int) : Option (Int) :=
  some (kt t0 t1)
noncomputable def yN (t0 : ByteArray) (t1 : Int) : Option (Int) :=
  (za t0 t1).bind fun b1 => some b1
noncomputable def mZ (t0 : ByteArray) : Option (Int × Int × Int) :=
  if 0 ≤ (0 : Int) ∧ (0 : Int) < (t0.size : Int) then (nv (cq t0 0)).bind fun b2 => if b2 = true then (mR t0 sV).bind fun b5 => if 20 < b5 then some (0, 0, 3) else some (1, b5, 0) else (lG (cq t0 0)).bind fun b8 => if b8 = true then (mR t0 lG).bind fun b11 => if 9 < b11 then some (0, 0, 3) else some (2, b11, 0) else if cq t0 0 = 34 then (tx t0).bind fun b15 => some (3, b15.1, b15.2) else (sU t0).bind fun b17 => if b17 = true then some (4, 2, 0) else (yN (ByteArray.mk #[123, 125, 40, 41, 91, 93, 44, 59, 58, 61, 43, 45, 42, 60, 62, 33, 38, 124, 46, 63]) (cq t0 0)).bind fun b20 => if 0 ≤ b20 then some (4, 1, 0) else some (0, 0, 2) else none
noncomputable def u7 (t0 : cm) (v9 : ByteArray) : Option (ByteArray × Bool) :=
  if v9 = (ByteArray.mk #[]) then some ((ByteArray.mk #[]), false) else (mZ v9).bind fun b11 => if b11.2.2 = 0 then if b11.1 = t0.Kind then some (v9, (decide (b11.2.1 = (v9.size : Int)))) else some (v9, false) else some (v9, false)
noncomputable def xr (t0 : cm) : Option (ByteArray × Bool) :=
  if t0.Kind = 3 then if (ByteArray.mk #[34]).size + t0.Text.size ≤ 140737488355328 then if ((ByteArray.mk #[34]) ++ t0.Text).size + (ByteArray.mk #[34]).size ≤ 140737488355328 then u7 t0 (((ByteArray.mk #[34]) ++ t0.Text) ++ (ByteArray.mk #[34])) else none else none else u7 t0 t0.Text
noncomputable def gc (t0 : ByteArray) : Option (Bool) :=
  (xr (cm.mk 1 t0 0)).bind fun b1 => some b1.2
noncomputable def Ns (t0 : (List bR)) (t1 : (bR → Option Bool)) (x1 : Int) : Option (Int ⊕ Int) :=
  if x1 < (t0.length : Int) then if 0 ≤ x1 ∧ x1 < (t0.length : Int) then (t1 (nth t0 x1)).bind fun b10 => if b10 = true then some (.inr x1) else some (.inl (x1 + 1)) else none else some (.inr (-1))
noncomputable def El (t0 : (List bR)) (t1 : (bR → Option Bool)) : Option (Int) :=
  aE (Ns t0 t1) 0
noncomputable def zk (t0 : (List bR)) (t1 : (bR → Option Bool)) : Option (Bool) :=
  (El t0 t1).bind fun b1 => some (decide (0 ≤ b1))
noncomputable def tA (t0 : bR) (t1 : bR) : Option (Bool) :=
  some (decide (t0.Name = t1.Name))
noncomputable def u9 (t0 : aq) (t1 : Int) (v6 : (List aW)) : Option (List aW) :=
  if (v6.length + ((nth t0.Nodes t1).Attrs).length) * 56 ≤ 140737488355328 then some (v6 ++ (nth t0.Nodes t1).Attrs) else none
noncomputable def pM (q_types_attrs : aq → Int → Option (List aW)) (t0 : aq) (t1 : Int) : Option ((List aW)) :=
  if 0 ≤ t1 ∧ t1 < (t0.Nodes.length : Int) then if 0 ≤ (nth t0.Nodes t1).Parent then (q_types_attrs t0 ((nth t0.Nodes t1).Parent)).bind fun b3 => u9 t0 t1 b3 else u9 t0 t1 [] else none
noncomputable def jb : Nat → (aq → Int → Option (List aW))
  | 0 => (fun _ _ => none)
  | n + 1 => (fun t0 t1 => pM (jb n) t0 t1)
noncomputable def tf (t0 : aq) (t1 : Int) : Option ((List aW)) := Ev fun n => (jb n) t0 t1
noncomputable def Nl (t0 : (List aW)) (t1 : (aW → Option Bool)) (x1 : Int) : Option (Int ⊕ Int) :=
  if x1 < (t0.length : Int) then if 0 ≤ x1 ∧ x1 < (t0.length : Int) then (t1 (nth t0 x1)).bind fun b10 => if b10 = true then some (.inr x1) else some (.inl (x1 + 1)) else none else some (.inr (-1))
noncomputable def Eg (t0 : (List aW)) (t1 : (aW → Option Bool)) : Option (Int) :=
  aE (Nl t0 t1) 0
noncomputable def zf (t0 : (List aW)) (t1 : (aW → Option Bool)) : Option (Bool) :=
  (Eg t0 t1).bind fun b1 => some (decide (0 ≤ b1))
noncomputable def qC (t0 : aW) (t1 : aW) : Option (Bool) :=
  some (decide (t0.Name = t1.Name))
noncomputable def nI (t0 : (List ByteArray)) (x2 : Int) : Option (Int ⊕ Int) :=
  if x2 < (t0.length : Int) then if 0 ≤ x2 ∧ x2 < (t0.length : Int) then (gc (nth t0 x2)).bind fun b15 => if (!b15) = true then some (.inr 2) else if 0 ≤ (0 : Int) ∧ (0 : Int) ≤ x2 ∧ x2 ≤ (t0.length : Int) then (qP (cut t0 0 x2) (nth t0 x2)).bind fun b19 => if b19 = true then some (.inr 5) else some (.inl (x2 + 1)) else none else none else some (.inr 0)
noncomputable def j7 (t0 : (List ByteArray)) : Option (Int) :=
  if 20 < (t0.length : Int) then some 3 else aE (nI t0) 0
noncomputable def qN  (v28 : Bool) : Option Int :=
  if (!v28) = true then some 6 else some 0
noncomputable def qM  (v25 : Bool) : Option Int :=
  qN v25
noncomputable def od (t0 : aW) (v21 : Bool) : Option Int :=
  if 0 < (t0.Names.length : Int) then if t0.Low = 0 then qM (decide (t0.High = (t0.Names.length : Int) - 1)) else qM false else qN v21
noncomputable def jR (t0 : aW) (t1 : (List aW)) : Option (Int) :=
  (gc t0.Name).bind fun b1 => if (!b1) = true then some 2 else (zf t1 (fun x => qC x t0)).bind fun b4 => if b4 = true then some 5 else (j7 t0.Names).bind fun b7 => if ¬ (b7 = 0) then some b7 else if (-1000000) ≤ t0.Low then if t0.Low ≤ t0.High then od t0 (decide (t0.High ≤ 1000000)) else od t0 false else od t0 false
noncomputable def qg (b13 : (List aW)) (x18 : Int) : Option (Int ⊕ Int) :=
  if x18 < (b13.length : Int) then if 0 ≤ x18 ∧ x18 < (b13.length : Int) then if 0 ≤ (0 : Int) ∧ (0 : Int) ≤ x18 ∧ x18 ≤ (b13.length : Int) then (jR (nth b13 x18) (cut b13 0 x18)).bind fun b31 => if ¬ (b31 = 0) then some (.inr b31) else some (.inl (x18 + 1)) else none else none else some (.inr 0)
noncomputable def nf (t0 : aq) (t1 : Int) : Option (Int) :=
  if 0 ≤ t1 ∧ t1 < (t0.Nodes.length : Int) then (gc ((nth t0.Nodes t1).Name)).bind fun b2 => if (!b2) = true then some 2 else if 0 ≤ (0 : Int) ∧ (0 : Int) ≤ t1 ∧ t1 ≤ (t0.Nodes.length : Int) then (zk (cut t0.Nodes 0 t1) (fun x => tA x (nth t0.Nodes t1))).bind fun b7 => if b7 = true then some 5 else if (nth t0.Nodes t1).Parent < (-1) then some 6 else if t1 ≤ (nth t0.Nodes t1).Parent then some 6 else if 4 < (((nth t0.Nodes t1).Attrs).length : Int) then some 3 else (tf t0 t1).bind fun b13 => if 8 < (b13.length : Int) then some 3 else (some (bb ((b13.length : Int) - (((nth t0.Nodes t1).Attrs).length : Int)))).bind fun b16 => aE (qg b13) b16 else none else none
noncomputable def ia (t0 : Int) (t1 : aq) : Option (Bool) :=
  if 0 ≤ t0 then some (decide (t0 < (t1.Nodes.length : Int))) else some false
noncomputable def Nr (t0 : (List db)) (t1 : (db → Option Bool)) (x1 : Int) : Option (Int ⊕ Int) :=
  if x1 < (t0.length : Int) then if 0 ≤ x1 ∧ x1 < (t0.length : Int) then (t1 (nth t0 x1)).bind fun b10 => if b10 = true then some (.inr x1) else some (.inl (x1 + 1)) else none else some (.inr (-1))
noncomputable def Ek (t0 : (List db)) (t1 : (db → Option Bool)) : Option (Int) :=
  aE (Nr t0 t1) 0
noncomputable def zj (t0 : (List db)) (t1 : (db → Option Bool)) : Option (Bool) :=
  (Ek t0 t1).bind fun b1 => some (decide (0 ≤ b1))
noncomputable def tz (t0 : db) (t1 : db) : Option (Bool) :=
  some (decide (t0.Name = t1.Name))
noncomputable def pN (t0 : Int) (t1 : Int) : Option (Bool) :=
  if 0 ≤ t0 then if t0 ≤ 40 then if t1 = (-1) then some true else if t0 ≤ t1 then some (decide (t1 ≤ 40)) else some false else some false else some false
noncomputable def qf  (v26 : Bool) : Option Int :=
  if v26 = true then some 6 else some 0
noncomputable def qd  (v16 : Bool) : Option Int :=
  qf v16
noncomputable def qe  (v23 : Bool) : Option Int :=
  qf v23
noncomputable def nc (t0 : aq) (t1 : Int) : Option (Int) :=
  if 0 ≤ t1 ∧ t1 < (t0.Edges.length : Int) then (gc ((nth t0.Edges t1).Name)).bind fun b2 => if (!b2) = true then some 2 else if 0 ≤ (0 : Int) ∧ (0 : Int) ≤ t1 ∧ t1 ≤ (t0.Edges.length : Int) then (zj (cut t0.Edges 0 t1) (fun x => tz x (nth t0.Edges t1))).bind fun b7 => if b7 = true then some 5 else ((fun x => ia x t0) ((nth t0.Edges t1).From)).bind fun b10 => if (!b10) = true then qd true else ((fun x => ia x t0) ((nth t0.Edges t1).To)).bind fun b13 => if (!b13) = true then qd (!b13) else (pN ((nth t0.Edges t1).OutLow) ((nth t0.Edges t1).OutHigh)).bind fun b18 => if (!b18) = true then qe true else (pN ((nth t0.Edges t1).InLow) ((nth t0.Edges t1).InHigh)).bind fun b21 => qe (!b21) else none else none
noncomputable def qt (t0 : aq) (x18 : Int) : Option (Int ⊕ (ByteArray × Int)) :=
  if x18 < (t0.Edges.length : Int) then if 0 ≤ x18 ∧ x18 < (t0.Edges.length : Int) then (nc t0 x18).bind fun b27 => if ¬ (b27 = 0) then some (.inr ((nth t0.Edges x18).Name, b27)) else some (.inl (x18 + 1)) else none else some (.inr ((ByteArray.mk #[]), 0))
noncomputable def qc (t0 : aq) (x4 : Int) : Option (Int ⊕ (ByteArray × Int)) :=
  if x4 < (t0.Nodes.length : Int) then if 0 ≤ x4 ∧ x4 < (t0.Nodes.length : Int) then (nf t0 x4).bind fun b13 => if ¬ (b13 = 0) then some (.inr ((nth t0.Nodes x4).Name, b13)) else some (.inl (x4 + 1)) else none else (aE (qt t0) 0).map .inr
noncomputable def gO (t0 : aq) : Option (ByteArray × Int) :=
  if (t0.Nodes.length : Int) = 0 then some ((ByteArray.mk #[]), 7) else if 12 < (t0.Nodes.length : Int) then some ((ByteArray.mk #[]), 3) else if 20 < (t0.Edges.length : Int) then some ((ByteArray.mk #[]), 3) else aE (qc t0) 0
noncomputable def yX (t0 : (List Int)) (t1 : Int) (x1 : Int) : Option (Int ⊕ Int) :=
  if x1 < (t0.length : Int) then if 0 ≤ x1 ∧ x1 < (t0.length : Int) then if t1 = (nth t0 x1) then some (.inr x1) else some (.inl (x1 + 1)) else none else some (.inr (-1))
noncomputable def qx (t0 : (List Int)) (t1 : Int) : Option (Int) :=
  aE (yX t0 t1) 0
noncomputable def oc (t0 : (List Int)) (t1 : Int) : Option (Bool) :=
  (qx t0 t1).bind fun b1 => some (decide (0 ≤ b1))
noncomputable def un (x1 : (List Int) × Int) (v14 : (List Int)) : Option (((List Int) × Int) ⊕ (List Int)) :=
  some (.inl (v14, x1.2 + 1))
noncomputable def yi (t0 : (List Int)) (t1 : Int) (x1 : (List Int) × Int) : Option (((List Int) × Int) ⊕ (List Int)) :=
  if x1.2 < t1 then (oc t0 x1.2).bind fun b10 => if (!b10) = true then if (x1.1.length + 1) * 8 ≤ 140737488355328 then un x1 (x1.1 ++ [x1.2]) else none else un x1 x1.1 else some (.inr x1.1)
noncomputable def lF (t0 : (List Int)) (t1 : Int) : Option ((List Int)) :=
  aE (yi t0 t1) ([], 0)
noncomputable def pz (t0 : be) : Option ((List Int) × (List Int)) :=
  (lF t0.Into.Nodes (t0.Right.Graph.Nodes.length : Int)).bind fun b1 => (lF t0.Into.Edges (t0.Right.Graph.Edges.length : Int)).bind fun b3 => some (b1, b3)
noncomputable def zc (t0 : (List Int)) (t1 : (Int → Option Bool)) (x1 : Int) : Option (Int ⊕ Int) :=
  if x1 < (t0.length : Int) then if 0 ≤ x1 ∧ x1 < (t0.length : Int) then (t1 (nth t0 x1)).bind fun b10 => if b10 = true then some (.inr x1) else some (.inl (x1 + 1)) else none else some (.inr (-1))
noncomputable def vc (t0 : (List Int)) (t1 : (Int → Option Bool)) : Option (Int) :=
  aE (zc t0 t1) 0
noncomputable def gx (t0 : (List Int)) (t1 : (Int → Option Bool)) : Option (Bool) :=
  (vc t0 t1).bind fun b1 => some (decide (0 ≤ b1))
noncomputable def lH (t0 : Int) (t1 : Int) : Option (Bool) :=
  if 0 ≤ t0 then some (decide (t0 ≤ t1)) else some false
noncomputable def tD (t0 : Int) : Option (Bool) :=
  (lH t0 99).bind fun b1 => some (!b1)
noncomputable def zg (t0 : (List ba)) (t1 : (ba → Option Bool)) (x1 : Int) : Option (Int ⊕ Int) :=
  if x1 < (t0.length : Int) then if 0 ≤ x1 ∧ x1 < (t0.length : Int) then (t1 (nth t0 x1)).bind fun b10 => if b10 = true then some (.inr x1) else some (.inl (x1 + 1)) else none else some (.inr (-1))
noncomputable def vg (t0 : (List ba)) (t1 : (ba → Option Bool)) : Option (Int) :=
  aE (zg t0 t1) 0
noncomputable def jd (t0 : (List ba)) (t1 : (ba → Option Bool)) : Option (Bool) :=
  (vg t0 t1).bind fun b1 => some (decide (0 ≤ b1))
noncomputable def sJ (t0 : ba) (t1 : Int) : Option (Bool) :=
  (lH t0.Type_ 99).bind fun b1 => if b1 = true then (some (bb (t1 - 1))).bind fun b4 => (lH t0.From b4).bind fun b6 => if b6 = true then (some (bb (t1 - 1))).bind fun b9 => (lH t0.To b9).bind fun b11 => some b11 else some false else some false
noncomputable def pD (t0 : ba) (t1 : ar) : Option (Bool) :=
  (sJ t0 (t1.Nodes.length : Int)).bind fun b1 => some (!b1)
noncomputable def j5 (t0 : ar) : Option (Int) :=
  if 40 < (t0.Nodes.length : Int) then some 3 else if 80 < (t0.Edges.length : Int) then some 3 else (gx t0.Nodes tD).bind fun b3 => if b3 = true then some 6 else (jd t0.Edges (fun x => pD x t0)).bind fun b6 => if b6 = true then some 6 else some 0
noncomputable def qy (t0 : Int) (t1 : aq) : Option (Bool) :=
  some (decide ((t1.Nodes.length : Int) ≤ t0))
noncomputable def qz (t0 : ba) (t1 : aq) : Option (Bool) :=
  some (decide ((t1.Edges.length : Int) ≤ t0.Type_))
noncomputable def kU (t0 : Int) (t1 : Int) (t2 : Int) : Option (Bool) :=
  if t1 ≤ t0 then some (decide (t0 ≤ t2)) else some false
noncomputable def pO (t0 : Int) (t1 : aq) : Option (Bool) :=
  if t0 < 0 then some true else some (decide ((t1.Nodes.length : Int) ≤ t0))
noncomputable def np (t0 : aq) (t1 : (List Int)) : Option (Int) :=
  (gO t0).bind fun b1 => if ¬ (b1.2 = 0) then some b1.2 else (gx t1 (fun x => pO x t0)).bind fun b4 => if b4 = true then some 6 else some 0
noncomputable def uU (t0 : (List ByteArray)) : Option ((List ByteArray)) :=
  if t0.length * 16 ≤ 140737488355328 then some t0 else none
noncomputable def yk (b4 : (List aW)) (x6 : (List aW) × Int) : Option (((List aW) × Int) ⊕ ((List aW) × Int)) :=
  if x6.2 < (b4.length : Int) then if 0 ≤ x6.2 ∧ x6.2 < (x6.1.length : Int) then (uU ((nth x6.1 x6.2).Names)).bind fun b14 => some (.inl ((x6.1.set x6.2.toNat (aW.mk ((nth x6.1 x6.2).Name) ((nth x6.1 x6.2).Low) ((nth x6.1 x6.2).High) b14)), x6.2 + 1)) else none else some (.inr (x6.1, 0))
noncomputable def pt (t0 : aq) (t1 : Int) : Option ((List aW) × Int) :=
  (np t0 [t1]).bind fun b1 => if ¬ (b1 = 0) then some ([], b1) else (tf t0 t1).bind fun b4 => aE (yk b4) (b4, 0)
noncomputable def tL (t0 : aq) (t1 : aJ) (t2 : bU) : Option (aW × Bool) :=
  (some (bb ((t1.Graph.Nodes.length : Int) - 1))).bind fun b1 => (kU t2.Node 0 b1).bind fun b3 => if (!b3) = true then some ((aW.mk (ByteArray.mk #[]) 0 0 []), false) else if 0 ≤ t2.Node ∧ t2.Node < (t1.Graph.Nodes.length : Int) then (pt t0 (nth t1.Graph.Nodes t2.Node)).bind fun b7 => (some (bb ((b7.1.length : Int) - 1))).bind fun b9 => (kU t2.Attr 0 b9).bind fun b11 => if (!b11) = true then some ((aW.mk (ByteArray.mk #[]) 0 0 []), false) else if 0 ≤ t2.Attr ∧ t2.Attr < (b7.1.length : Int) then some ((nth b7.1 t2.Attr), true) else none else none
noncomputable def qj (t0 : Int) (t1 : cH) : Option (Bool) :=
  if (-1) ≤ t1.Var then if t1.Var < t0 then if (-1000000) ≤ t1.Add then some (decide (t1.Add ≤ 1000000)) else some false else some false else some false
noncomputable def nV (t0 : Int) (t1 : dP) (v9 : Unit) : Option Int :=
  (qj t0 t1.Left).bind fun b10 => if (!b10) = true then some 6 else (qj t0 t1.Right).bind fun b13 => if (!b13) = true then some 6 else some 0
noncomputable def nB (t0 : Int) (t1 : dP) : Option (Int) :=
  if ¬ (t1.Kind = 1) then if ¬ (t1.Kind = 2) then some 1 else nV t0 t1 () else nV t0 t1 ()
noncomputable def qL (t0 : Int) (t1 : (List dP)) (x4 : Int) : Option (Int ⊕ Int) :=
  if x4 < (t1.length : Int) then if 0 ≤ x4 ∧ x4 < (t1.length : Int) then (nB t0 (nth t1 x4)).bind fun b13 => if ¬ (b13 = 0) then some (.inr b13) else some (.inl (x4 + 1)) else none else some (.inr 0)
noncomputable def nR (t0 : Int) (t1 : (List dP)) : Option (Int) :=
  if t0 < 0 then some 6 else if 12 < t0 then some 6 else if 40 < (t1.length : Int) then some 3 else aE (qL t0 t1) 0
noncomputable def z2 (t0 : (List Bool)) (t1 : Bool) (x1 : Int) : Option (Int ⊕ Int) :=
  if x1 < (t0.length : Int) then if 0 ≤ x1 ∧ x1 < (t0.length : Int) then if (t1 == (nth t0 x1)) = true then some (.inr x1) else some (.inl (x1 + 1)) else none else some (.inr (-1))
noncomputable def uL (t0 : (List Bool)) (t1 : Bool) : Option (Int) :=
  aE (z2 t0 t1) 0
noncomputable def vb (t0 : (List Bool)) (t1 : Bool) : Option (Bool) :=
  (uL t0 t1).bind fun b1 => some (decide (0 ≤ b1))
noncomputable def qJ (x19 : (List Bool) × Int) (v53 : (List Bool)) : Option (((List Bool) × Int) ⊕ Int) :=
  some (.inl (v53, x19.2 + 1))
noncomputable def qK (t0 : aq) (t1 : aJ) (x19 : (List Bool) × Int) : Option (((List Bool) × Int) ⊕ Int) :=
  if x19.2 < (t1.Slots.length : Int) then if 0 ≤ x19.2 ∧ x19.2 < (t1.Slots.length : Int) then (tL t0 t1 (nth t1.Slots x19.2)).bind fun b40 => if (!b40.2) = true then some (.inr 6) else (some (bb (t1.Vars - 1))).bind fun b43 => (kU (((nth t1.Slots x19.2).Term).Var) (-1) b43).bind fun b45 => if (!b45) = true then some (.inr 6) else (kU (((nth t1.Slots x19.2).Term).Add) (-1000000) 1000000).bind fun b48 => if (!b48) = true then some (.inr 6) else if 0 ≤ ((nth t1.Slots x19.2).Term).Var then if 0 ≤ ((nth t1.Slots x19.2).Term).Var ∧ ((nth t1.Slots x19.2).Term).Var < (x19.1.length : Int) then qJ x19 (x19.1.set (((nth t1.Slots x19.2).Term).Var).toNat true) else none else qJ x19 x19.1 else none else ((nR t1.Vars t1.Tests).bind fun b57 => if ¬ (b57 = 0) then some b57 else (vb x19.1 false).bind fun b60 => if b60 = true then some 9 else some 0).map .inr
noncomputable def kS (t0 : aq) (t1 : aJ) : Option (Int) :=
  (gO t0).bind fun b1 => if ¬ (b1.2 = 0) then some b1.2 else (j5 t1.Graph).bind fun b4 => if ¬ (b4 = 0) then some b4 else (gx t1.Graph.Nodes (fun x => qy x t0)).bind fun b7 => if b7 = true then some 13 else (jd t1.Graph.Edges (fun x => qz x t0)).bind fun b10 => if b10 = true then some 13 else (kU t1.Vars 0 12).bind fun b13 => if (!b13) = true then some 6 else if 10 < (t1.Slots.length : Int) then some 3 else if 10 < (t1.Tests.length : Int) then some 3 else if 0 ≤ t1.Vars ∧ t1.Vars * 1 ≤ 140737488355328 then aE (qK t0 t1) ((List.replicate t1.Vars.toNat false), 0) else none
noncomputable def tu (t0 : Int) (t1 : aq) : Option (Bool) :=
  some (decide ((t1.Nodes.length : Int) ≤ t0))
noncomputable def tw (t0 : ba) (t1 : aq) : Option (Bool) :=
  some (decide ((t1.Edges.length : Int) ≤ t0.Type_))
noncomputable def sT (t0 : aq) (t1 : ar) : Option (Bool) :=
  (gx t1.Nodes (fun x => tu x t0)).bind fun b1 => if (!b1) = true then (jd t1.Edges (fun x => tw x t0)).bind fun b4 => some (!b4) else some false
noncomputable def Nm (t0 : (List bU)) (t1 : (bU → Option Bool)) (x1 : Int) : Option (Int ⊕ Int) :=
  if x1 < (t0.length : Int) then if 0 ≤ x1 ∧ x1 < (t0.length : Int) then (t1 (nth t0 x1)).bind fun b10 => if b10 = true then some (.inr x1) else some (.inl (x1 + 1)) else none else some (.inr (-1))
noncomputable def Eh (t0 : (List bU)) (t1 : (bU → Option Bool)) : Option (Int) :=
  aE (Nm t0 t1) 0
noncomputable def vh (t0 : (List bU)) (t1 : (bU → Option Bool)) : Option (Bool) :=
  (Eh t0 t1).bind fun b1 => some (decide (0 ≤ b1))
noncomputable def pr (t0 : bU) (t1 : bU) : Option (Bool) :=
  if t0.Node = t1.Node then some (decide (t0.Attr = t1.Attr)) else some false
noncomputable def mQ (t0 : aq) (t1 : be) (t2 : Int) : Option (Int) :=
  if 0 ≤ t2 ∧ t2 < (t1.Right.Slots.length : Int) then if (nth t1.Right.Slots t2).Node < 0 then some 6 else if (t1.Right.Graph.Nodes.length : Int) ≤ (nth t1.Right.Slots t2).Node then some 6 else if 0 ≤ (nth t1.Right.Slots t2).Node ∧ (nth t1.Right.Slots t2).Node < (t1.Right.Graph.Nodes.length : Int) then (pt t0 (nth t1.Right.Graph.Nodes ((nth t1.Right.Slots t2).Node))).bind fun b5 => if (nth t1.Right.Slots t2).Attr < 0 then some 6 else if (b5.1.length : Int) ≤ (nth t1.Right.Slots t2).Attr then some 6 else if ((nth t1.Right.Slots t2).Term).Var < (-1) then some 6 else if t1.Right.Vars ≤ ((nth t1.Right.Slots t2).Term).Var then some 6 else if ((nth t1.Right.Slots t2).Term).Add < (-1000000) then some 6 else if 1000000 < ((nth t1.Right.Slots t2).Term).Add then some 6 else if 0 ≤ (0 : Int) ∧ (0 : Int) ≤ t2 ∧ t2 ≤ (t1.Right.Slots.length : Int) then (vh (cut t1.Right.Slots 0 t2) (fun x => pr x (nth t1.Right.Slots t2))).bind fun b15 => if b15 = true then some 5 else some 0 else none else none else none
noncomputable def qb (t0 : aq) (t1 : be) (x10 : Int) : Option (Int ⊕ Int) :=
  if x10 < (t1.Right.Slots.length : Int) then (mQ t0 t1 x10).bind fun b17 => if ¬ (b17 = 0) then some (.inr b17) else some (.inl (x10 + 1)) else some (.inr 0)
noncomputable def mY (t0 : aq) (t1 : be) : Option (Int) :=
  (j5 t1.Right.Graph).bind fun b1 => if ¬ (b1 = 0) then some b1 else (sT t0 t1.Right.Graph).bind fun b4 => if (!b4) = true then some 13 else if ¬ (t1.Right.Vars = t1.Left.Vars) then some 1 else if 0 < (t1.Right.Tests.length : Int) then some 1 else if 10 < (t1.Right.Slots.length : Int) then some 3 else aE (qb t0 t1) 0
noncomputable def jS (t0 : (List Int)) : Option ((List Int)) :=
  if t0.length * 8 ≤ 140737488355328 then some t0 else none
noncomputable def uM (x1 : Int) (v20 : Unit) : Option (Int ⊕ Int) :=
  some (.inl (x1 + 1))
noncomputable def lP (t0 : (List Int)) (t1 : Int) (x1 : Int) : Option (Int ⊕ Int) :=
  if x1 < (t0.length : Int) then if 0 ≤ x1 ∧ x1 < (t0.length : Int) then if (nth t0 x1) < 0 then some (.inr 6) else if t1 ≤ (nth t0 x1) then some (.inr 6) else if 0 < x1 then if 0 ≤ x1 - 1 ∧ x1 - 1 < (t0.length : Int) then if (nth t0 x1) ≤ (nth t0 (x1 - 1)) then some (.inr 12) else uM x1 () else none else uM x1 () else none else some (.inr 0)
noncomputable def ja (t0 : (List Int)) (t1 : Int) : Option (Int) :=
  aE (lP t0 t1) 0
noncomputable def tC (t0 : Int) : Option (Bool) :=
  some (decide (¬ (t0 = t0)))
noncomputable def tg (t0 : Int) (t1 : Int) : Option (Bool) :=
  (tC t0).bind fun b1 => if b1 = true then (tC t1).bind fun b4 => if (!b4) = true then some true else some (decide (t0 < t1)) else some (decide (t0 < t1))
noncomputable def uF (t0 : Int) : Option (Bool) :=
  some (decide (¬ (t0 = t0)))
noncomputable def ze  (v35 : Int × Int) : Option ((Int × Int) ⊕ (Int × Bool)) :=
  some (.inl (v35.1, v35.2))
noncomputable def Ei (t0 : (List Int)) (t1 : Int) (x1 : Int × Int) : Option ((Int × Int) ⊕ (Int × Bool)) :=
  if x1.1 < x1.2 then (some (bb (x1.1 + x1.2))).bind fun b21 => (some (IntKind.wrap .u64 b21)).bind fun b23 => (some ((b23).fdiv (2 ^ (min (1 : Int).toNat (IntKind.bits .u64))))).bind fun b25 => (some (IntKind.wrap .i64 b25)).bind fun b27 => if 0 ≤ b27 ∧ b27 < (t0.length : Int) then (tg (nth t0 b27) t1).bind fun b30 => if b30 = true then (some (bb (b27 + 1))).bind fun b33 => ze (b33, x1.2) else ze (x1.1, b27) else none else (if x1.1 < (t0.length : Int) then if 0 ≤ x1.1 ∧ x1.1 < (t0.length : Int) then if (nth t0 x1.1) = t1 then some (x1.1, true) else (uF (nth t0 x1.1)).bind fun b40 => if b40 = true then (uF t1).bind fun b43 => some (x1.1, b43) else some (x1.1, false) else none else some (x1.1, false)).map .inr
noncomputable def og (t0 : (List Int)) (t1 : Int) : Option (Int × Bool) :=
  aE (Ei t0 t1) (0, (t0.length : Int))
noncomputable def pC (t0 : (List Int)) (t1 : Int) : Option (Bool) :=
  (og t0 t1).bind fun b1 => some b1.2
noncomputable def lQ (t0 : ar) (t1 : cM) (x7 : Int) : Option (Int ⊕ Int) :=
  if x7 < (t1.Edges.length : Int) then if 0 ≤ x7 ∧ x7 < (t1.Edges.length : Int) then if 0 ≤ (nth t1.Edges x7) ∧ (nth t1.Edges x7) < (t0.Edges.length : Int) then (pC t1.Nodes ((nth t0.Edges (nth t1.Edges x7)).From)).bind fun b21 => if (!b21) = true then some (.inr 14) else (pC t1.Nodes ((nth t0.Edges (nth t1.Edges x7)).To)).bind fun b24 => if (!b24) = true then some (.inr 14) else some (.inl (x7 + 1)) else none else none else some (.inr 0)
noncomputable def kQ (t0 : ar) (t1 : cM) : Option (Int) :=
  (ja t1.Nodes (t0.Nodes.length : Int)).bind fun b1 => if ¬ (b1 = 0) then some b1 else (ja t1.Edges (t0.Edges.length : Int)).bind fun b4 => if ¬ (b4 = 0) then some b4 else aE (lQ t0 t1) 0
noncomputable def nH (t0 : ar) (t1 : cM) : Option (Int) :=
  (j5 t0).bind fun b1 => if ¬ (b1 = 0) then some b1 else (kQ t0 t1).bind fun b4 => some b4
noncomputable def jX (t0 : ar) (t1 : cM) (x4 : (List Int) × Int) (x15 : (List ba) × Int) : Option (((List ba) × Int) ⊕ (ar × aS × Int)) :=
  if x15.2 < (t1.Edges.length : Int) then if 0 ≤ x15.2 ∧ x15.2 < (t1.Edges.length : Int) then if 0 ≤ (nth t1.Edges x15.2) ∧ (nth t1.Edges x15.2) < (t0.Edges.length : Int) then (og t1.Nodes ((nth t0.Edges (nth t1.Edges x15.2)).From)).bind fun b27 => (og t1.Nodes ((nth t0.Edges (nth t1.Edges x15.2)).To)).bind fun b29 => if (x15.1.length + 1) * 24 ≤ 140737488355328 then some (.inl ((x15.1 ++ [(ba.mk ((nth t0.Edges (nth t1.Edges x15.2)).Type_) b27.1 b29.1)]), x15.2 + 1)) else none else none else none else ((jS t1.Nodes).bind fun b34 => (jS t1.Edges).bind fun b36 => some ((ar.mk x4.1 x15.1), (aS.mk b34 b36), 0)).map .inr
noncomputable def jU (t0 : ar) (t1 : cM) (x4 : (List Int) × Int) : Option (((List Int) × Int) ⊕ (ar × aS × Int)) :=
  if x4.2 < (t1.Nodes.length : Int) then if 0 ≤ x4.2 ∧ x4.2 < (t1.Nodes.length : Int) then if 0 ≤ (nth t1.Nodes x4.2) ∧ (nth t1.Nodes x4.2) < (t0.Nodes.length : Int) then if (x4.1.length + 1) * 8 ≤ 140737488355328 then some (.inl ((x4.1 ++ [(nth t0.Nodes (nth t1.Nodes x4.2))]), x4.2 + 1)) else none else none else none else (aE (jX t0 t1 x4) ([], 0)).map .inr
noncomputable def kV (t0 : ar) (t1 : cM) : Option (ar × aS × Int) :=
  (nH t0 t1).bind fun b1 => if ¬ (b1 = 0) then some ((ar.mk [] []), (aS.mk [] []), b1) else aE (jU t0 t1) ([], 0)
noncomputable def o7 (t0 : ar) (t1 : ar) (t2 : aS) (x27 : Int) : Option (Int ⊕ Int) :=
  if x27 < (t2.Edges.length : Int) then if 0 ≤ x27 ∧ x27 < (t2.Edges.length : Int) then if (nth t2.Edges x27) < 0 then some (.inr 6) else if (t1.Edges.length : Int) ≤ (nth t2.Edges x27) then some (.inr 6) else if 0 ≤ x27 ∧ x27 < (t0.Edges.length : Int) then if 0 ≤ (nth t2.Edges x27) ∧ (nth t2.Edges x27) < (t1.Edges.length : Int) then if ¬ ((nth t0.Edges x27).Type_ = (nth t1.Edges (nth t2.Edges x27)).Type_) then some (.inr 13) else if 0 ≤ (nth t0.Edges x27).From ∧ (nth t0.Edges x27).From < (t2.Nodes.length : Int) then if ¬ ((nth t2.Nodes ((nth t0.Edges x27).From)) = (nth t1.Edges (nth t2.Edges x27)).From) then some (.inr 11) else if 0 ≤ (nth t0.Edges x27).To ∧ (nth t0.Edges x27).To < (t2.Nodes.length : Int) then if ¬ ((nth t2.Nodes ((nth t0.Edges x27).To)) = (nth t1.Edges (nth t2.Edges x27)).To) then some (.inr 11) else some (.inl (x27 + 1)) else none else none else none else none else none else some (.inr 0)
noncomputable def nX (t0 : ar) (t1 : ar) (t2 : aS) (x9 : Int) : Option (Int ⊕ Int) :=
  if x9 < (t2.Nodes.length : Int) then if 0 ≤ x9 ∧ x9 < (t2.Nodes.length : Int) then if (nth t2.Nodes x9) < 0 then some (.inr 6) else if (t1.Nodes.length : Int) ≤ (nth t2.Nodes x9) then some (.inr 6) else if 0 ≤ (nth t2.Nodes x9) ∧ (nth t2.Nodes x9) < (t1.Nodes.length : Int) then if 0 ≤ x9 ∧ x9 < (t0.Nodes.length : Int) then if ¬ ((nth t1.Nodes (nth t2.Nodes x9)) = (nth t0.Nodes x9)) then some (.inr 13) else some (.inl (x9 + 1)) else none else none else none else (aE (o7 t0 t1 t2) 0).map .inr
noncomputable def iE (t0 : ar) (t1 : ar) (t2 : aS) : Option (Int) :=
  (j5 t0).bind fun b1 => if ¬ (b1 = 0) then some b1 else (j5 t1).bind fun b4 => if ¬ (b4 = 0) then some b4 else if ¬ ((t2.Nodes.length : Int) = (t0.Nodes.length : Int)) then some 20 else if ¬ ((t2.Edges.length : Int) = (t0.Edges.length : Int)) then some 20 else aE (nX t0 t1 t2) 0
noncomputable def slices_Sort_int (t0 : (List Int)) : Option ((List Int)) := rx t0
noncomputable def slices_Compact_int (t0 : (List Int)) : Option ((List Int)) := re t0
noncomputable def qk (t0 : (List Int)) : Option (Int) :=
  (jS t0).bind fun b1 => (slices_Sort_int b1).bind fun b3 => (slices_Compact_int b3).bind fun b5 => some (b5.length : Int)
noncomputable def o6 (t0 : ar) (t1 : ar) (t2 : aS) : Option (Bool) :=
  (iE t0 t1 t2).bind fun b1 => if b1 = 0 then (qk t2.Nodes).bind fun b4 => if b4 = (t2.Nodes.length : Int) then (qk t2.Edges).bind fun b7 => some (decide (b7 = (t2.Edges.length : Int))) else some false else some false
noncomputable def pe (t0 : be) : Option (Int) :=
  (kV t0.Left.Graph t0.Keep).bind fun b1 => if ¬ (b1.2.2 = 0) then some b1.2.2 else (iE b1.1 t0.Right.Graph t0.Into).bind fun b4 => if ¬ (b4 = 0) then some b4 else (o6 b1.1 t0.Right.Graph t0.Into).bind fun b7 => if (!b7) = true then some 11 else some 0
noncomputable def pZ (t0 : Int) (t1 : aq) (t2 : ar) : Option (Bool) :=
  if 0 ≤ t0 ∧ t0 < (t2.Nodes.length : Int) then if 0 ≤ (nth t2.Nodes t0) ∧ (nth t2.Nodes t0) < (t1.Nodes.length : Int) then some ((nth t1.Nodes (nth t2.Nodes t0)).Abstract) else none else none
noncomputable def z8  (x3 : (List Int) × Int × Int) : Option (((List Int) × Int × Int) ⊕ (List Int)) :=
  if x3.2.1 < x3.2.2 then if 0 ≤ x3.2.2 ∧ x3.2.2 < (x3.1.length : Int) then if 0 ≤ x3.2.1 ∧ x3.2.1 < (x3.1.length : Int) then if 0 ≤ x3.2.2 ∧ x3.2.2 < ((x3.1.set x3.2.1.toNat (nth x3.1 x3.2.2)).length : Int) then some (.inl (((x3.1.set x3.2.1.toNat (nth x3.1 x3.2.2)).set x3.2.2.toNat (nth x3.1 x3.2.1)), x3.2.1 + 1, x3.2.2 - 1)) else none else none else none else some (.inr x3.1)
noncomputable def uP (t0 : (List Int)) : Option ((List Int)) :=
  (some (bb ((t0.length : Int) - 1))).bind fun b1 => aE z8 (t0, 0, b1)
noncomputable def xS (t0 : aq) (x1 : Int × (List Int)) : Option ((Int × (List Int)) ⊕ (List Int)) :=
  if 0 ≤ x1.1 then if (x1.2.length + 1) * 8 ≤ 140737488355328 then if 0 ≤ x1.1 ∧ x1.1 < (t0.Nodes.length : Int) then some (.inl ((nth t0.Nodes x1.1).Parent, (x1.2 ++ [x1.1]))) else none else none else ((uP x1.2).bind fun b8 => some b8).map .inr
noncomputable def xg (t0 : aq) (t1 : Int) : Option ((List Int)) :=
  aE (xS t0) (t1, [])
noncomputable def lB (t0 : aq) (t1 : Int) (t2 : Int) : Option (Bool) :=
  (xg t0 t1).bind fun b1 => (oc b1 t2).bind fun b3 => some b3
noncomputable def kN (t0 : aq) (t1 : Int) (t2 : Int) (t3 : Int) : Option (Bool) :=
  (np t0 [t2, t3]).bind fun b1 => if ¬ (b1 = 0) then some false else if t1 < 0 then some false else if (t0.Edges.length : Int) ≤ t1 then some false else if 0 ≤ t1 ∧ t1 < (t0.Edges.length : Int) then (lB t0 t2 ((nth t0.Edges t1).From)).bind fun b7 => if b7 = true then (lB t0 t3 ((nth t0.Edges t1).To)).bind fun b10 => some b10 else some false else none
noncomputable def qa (t0 : Int) (t1 : ar) (t2 : aq) : Option (Bool) :=
  if 0 ≤ t0 ∧ t0 < (t1.Edges.length : Int) then if 0 ≤ (nth t1.Edges t0).From ∧ (nth t1.Edges t0).From < (t1.Nodes.length : Int) then if 0 ≤ (nth t1.Edges t0).To ∧ (nth t1.Edges t0).To < (t1.Nodes.length : Int) then (kN t2 ((nth t1.Edges t0).Type_) (nth t1.Nodes ((nth t1.Edges t0).From)) (nth t1.Nodes ((nth t1.Edges t0).To))).bind fun b4 => some (!b4) else none else none else none
noncomputable def tt (t0 : aq) (t1 : ar) (t2 : (List Int)) (t3 : (List Int)) : Option (Bool) :=
  (gx t2 (fun x => pZ x t0 t1)).bind fun b1 => if (!b1) = true then (gx t3 (fun x => qa x t1 t0)).bind fun b4 => some (!b4) else some false
noncomputable def nA (t0 : az) : Option (Bool) :=
  (some (bb ((t0.Map.Nodes.length : Int) + (t0.Map.Edges.length : Int)))).bind fun b1 => (some (bb (b1 + (t0.Pattern.Graph.Nodes.length : Int)))).bind fun b3 => (some (bb (b3 + (t0.Pattern.Graph.Edges.length : Int)))).bind fun b5 => (some (bb (b5 + (t0.Pattern.Slots.length : Int)))).bind fun b7 => (some (bb (b7 + (t0.Pattern.Tests.length : Int)))).bind fun b9 => if b9 = 0 then some (decide (t0.Pattern.Vars = 0)) else some false
noncomputable def En (t0 : (List az)) (t1 : (az → Option Bool)) (x1 : Int) : Option (Int ⊕ Int) :=
  if x1 < (t0.length : Int) then if 0 ≤ x1 ∧ x1 < (t0.length : Int) then (t1 (nth t0 x1)).bind fun b10 => if b10 = true then some (.inr x1) else some (.inl (x1 + 1)) else none else some (.inr (-1))
noncomputable def zi (t0 : (List az)) (t1 : (az → Option Bool)) : Option (Int) :=
  aE (En t0 t1) 0
noncomputable def vi (t0 : (List az)) (t1 : (az → Option Bool)) : Option (Bool) :=
  (zi t0 t1).bind fun b1 => some (decide (0 ≤ b1))
noncomputable def oi (q_condition_wellFormed_1 : az → Option Bool) (t0 : az) (v34 : Bool) : Option Bool :=
  if v34 = true then (vi t0.Kids q_condition_wellFormed_1).bind fun b37 => some (!b37) else some false
noncomputable def qQ (q_condition_wellFormed_1 : az → Option Bool) (t0 : az) (v5 : Bool) : Option Bool :=
  oi q_condition_wellFormed_1 t0 v5
noncomputable def oh (q_condition_wellFormed_1 : az → Option Bool) (t0 : az) (v32 : Bool) : Option Bool :=
  oi q_condition_wellFormed_1 t0 v32
noncomputable def qR (q_condition_wellFormed_1 : az → Option Bool) (t0 : az) (v11 : Bool) : Option Bool :=
  oh q_condition_wellFormed_1 t0 v11
noncomputable def qV (q_condition_wellFormed_1 : az → Option Bool) (t0 : az) (v29 : Bool) : Option Bool :=
  oh q_condition_wellFormed_1 t0 v29
noncomputable def qT (q_condition_wellFormed_1 : az → Option Bool) (t0 : az) (v24 : Bool) : Option Bool :=
  qV q_condition_wellFormed_1 t0 v24
noncomputable def qU (q_condition_wellFormed_1 : az → Option Bool) (t0 : az) (v27 : Bool) : Option Bool :=
  qV q_condition_wellFormed_1 t0 v27
noncomputable def qS (q_condition_wellFormed_1 : az → Option Bool) (t0 : az) (v19 : Bool) : Option Bool :=
  if v19 = true then if 1 ≤ (t0.Kids.length : Int) then (nA t0).bind fun b22 => qT q_condition_wellFormed_1 t0 b22 else qT q_condition_wellFormed_1 t0 false else if t0.Kind = 5 then qU q_condition_wellFormed_1 t0 (decide ((t0.Kids.length : Int) = 1)) else qU q_condition_wellFormed_1 t0 false
noncomputable def lT (q_condition_wellFormed : az → Option Bool) (q_condition_wellFormed_1 : az → Option Bool) (t0 : az) : Option (Bool) :=
  if t0.Kind = 1 then if (t0.Kids.length : Int) = 0 then (nA t0).bind fun b3 => qQ q_condition_wellFormed_1 t0 b3 else qQ q_condition_wellFormed_1 t0 false else if t0.Kind = 2 then if (t0.Kids.length : Int) = 1 then (nA t0).bind fun b9 => qR q_condition_wellFormed_1 t0 b9 else qR q_condition_wellFormed_1 t0 false else if t0.Kind = 3 then qS q_condition_wellFormed_1 t0 (decide (t0.Kind = 3)) else qS q_condition_wellFormed_1 t0 (decide (t0.Kind = 4))
noncomputable def lU (q_condition_wellFormed : az → Option Bool) (q_condition_wellFormed_1 : az → Option Bool) (t0 : az) : Option (Bool) :=
  (q_condition_wellFormed t0).bind fun b1 => some (!b1)
noncomputable def dZ : Nat → (az → Option Bool) × (az → Option Bool)
  | 0 => ((fun _ => none), (fun _ => none))
  | n + 1 => ((fun t0 => lT (dZ n).1 (dZ n).2 t0), (fun t0 => lU (dZ n).1 (dZ n).2 t0))
noncomputable def yZ (t0 : az) : Option (Bool) := Ev fun n => (dZ n).1 t0
noncomputable def z6 (x1 : Int × Int × Int) (v20 : Int) : Option (Int × Int) :=
  some (x1.1, v20)
noncomputable def MQ (q_condition_measure : az → Option (Int × Int)) (t0 : az) (x1 : Int × Int × Int) : Option ((Int × Int × Int) ⊕ (Int × Int)) :=
  if x1.2.2 < (t0.Kids.length : Int) then if 0 ≤ x1.2.2 ∧ x1.2.2 < (t0.Kids.length : Int) then (q_condition_measure (nth t0.Kids x1.2.2)).bind fun b11 => (some (bb (x1.1 + b11.1))).bind fun b13 => some (.inl (b13, (if x1.2.1 < b11.2 then b11.2 else x1.2.1), x1.2.2 + 1)) else none else (if t0.Kind = 5 then (some (bb (x1.2.1 + 1))).bind fun b18 => z6 x1 b18 else z6 x1 x1.2.1).map .inr
noncomputable def yV (q_condition_measure : az → Option (Int × Int)) (t0 : az) : Option (Int × Int) :=
  aE (MQ q_condition_measure t0) (1, 0, 0)
noncomputable def oa : Nat → (az → Option (Int × Int))
  | 0 => (fun _ => none)
  | n + 1 => (fun t0 => yV (oa n) t0)
noncomputable def uH (t0 : az) : Option (Int × Int) := Ev fun n => (oa n) t0
noncomputable def nK (t0 : az) : Option (Int) :=
  (yZ t0).bind fun b1 => if (!b1) = true then some 1 else (uH t0).bind fun b4 => if 12 < b4.1 then some 3 else if 3 < b4.2 then some 3 else some 0
noncomputable def uS (t0 : bU) (t1 : Int) : Option (Bool) :=
  some (decide (t0.Term.Var = t1))
noncomputable def qO (b1 : Int) (t1 : aJ) (x4 : Int) : Option (Int ⊕ Int) :=
  if x4 < t1.Vars then (vh t1.Slots (fun x => uS x x4)).bind fun b13 => if (!b13) = true then some (.inr b1) else some (.inl (x4 + 1)) else some (.inr 0)
noncomputable def nU (t0 : aq) (t1 : aJ) (t2 : Int) : Option (Int) :=
  (kS t0 t1).bind fun b1 => if ¬ (b1 = 9) then some b1 else aE (qO b1 t1) t2
noncomputable def oe (q_condition_inside : aq → aJ → az → Option Int) (t0 : aq) (t2 : az) (v26 : aJ) (x27 : Int) : Option (Int ⊕ Int) :=
  if x27 < (t2.Kids.length : Int) then if 0 ≤ x27 ∧ x27 < (t2.Kids.length : Int) then (q_condition_inside t0 v26 (nth t2.Kids x27)).bind fun b36 => if ¬ (b36 = 0) then some (.inr b36) else some (.inl (x27 + 1)) else none else some (.inr 0)
noncomputable def lS (q_condition_inside : aq → aJ → az → Option Int) (t0 : aq) (t2 : az) (v26 : aJ) : Option Int :=
  aE (oe q_condition_inside t0 t2 v26) 0
noncomputable def jT (q_condition_inside : aq → aJ → az → Option Int) (t0 : aq) (t1 : aJ) (t2 : az) : Option (Int) :=
  if t2.Kind = 5 then if t2.Pattern.Vars < t1.Vars then some 20 else (nU t0 t2.Pattern t1.Vars).bind fun b3 => if ¬ (b3 = 0) then some b3 else (iE t1.Graph t2.Pattern.Graph t2.Map).bind fun b6 => if ¬ (b6 = 0) then some b6 else (o6 t1.Graph t2.Pattern.Graph t2.Map).bind fun b9 => if (!b9) = true then some 1 else lS q_condition_inside t0 t2 t2.Pattern else lS q_condition_inside t0 t2 t1
noncomputable def gQ : Nat → (aq → aJ → az → Option Int)
  | 0 => (fun _ _ _ => none)
  | n + 1 => (fun t0 t1 t2 => jT (gQ n) t0 t1 t2)
noncomputable def qu (t0 : aq) (t1 : aJ) (t2 : az) : Option (Int) := Ev fun n => (gQ n) t0 t1 t2
noncomputable def nJ (t0 : aq) (t1 : aJ) (t2 : az) : Option (Int) :=
  (kS t0 t1).bind fun b1 => if ¬ (b1 = 0) then some b1 else (nK t2).bind fun b4 => if ¬ (b4 = 0) then some b4 else (qu t0 t1 t2).bind fun b7 => some b7
noncomputable def kL (t0 : aq) (t1 : be) : Option (Int) :=
  (gO t0).bind fun b1 => if ¬ (b1.2 = 0) then some b1.2 else (gc t1.Name).bind fun b4 => if (!b4) = true then some 2 else (kS t0 t1.Left).bind fun b7 => if ¬ (b7 = 0) then some b7 else (mY t0 t1).bind fun b10 => if ¬ (b10 = 0) then some b10 else (pe t1).bind fun b13 => if ¬ (b13 = 0) then some b13 else (pz t1).bind fun b16 => (tt t0 t1.Right.Graph b16.1 b16.2).bind fun b18 => if (!b18) = true then some 13 else (nJ t0 t1.Left t1.Condition).bind fun b21 => some b21
noncomputable def tq (t0 : be) : Option ((List Int) × (List Int)) :=
  (lF t0.Keep.Nodes (t0.Left.Graph.Nodes.length : Int)).bind fun b1 => (lF t0.Keep.Edges (t0.Left.Graph.Edges.length : Int)).bind fun b3 => some (b1, b3)
noncomputable def py (t0 : aq) (t1 : be) : Option ((List Int) × (List Int) × Int) :=
  (kL t0 t1).bind fun b1 => if ¬ (b1 = 0) then some ([], [], b1) else (tq t1).bind fun b4 => some (b4.1, b4.2, 0)
noncomputable def px (t0 : aq) (t1 : be) : Option ((List Int) × (List Int) × Int) :=
  (kL t0 t1).bind fun b1 => if ¬ (b1 = 0) then some ([], [], b1) else (pz t1).bind fun b4 => some (b4.1, b4.2, 0)
noncomputable def uq (x4 : (List Int) × Int) (v17 : (List Int)) : Option (((List Int) × Int) ⊕ ((List Int) × Int)) :=
  some (.inl (v17, x4.2 + 1))
noncomputable def yl (t0 : aq) (t1 : Int) (x4 : (List Int) × Int) : Option (((List Int) × Int) ⊕ ((List Int) × Int)) :=
  if x4.2 < (t0.Nodes.length : Int) then (lB t0 x4.2 t1).bind fun b13 => if b13 = true then if (x4.1.length + 1) * 8 ≤ 140737488355328 then uq x4 (x4.1 ++ [x4.2]) else none else uq x4 x4.1 else some (.inr (x4.1, 0))
noncomputable def te (t0 : aq) (t1 : Int) : Option ((List Int) × Int) :=
  (np t0 [t1]).bind fun b1 => if ¬ (b1 = 0) then some ([], b1) else aE (yl t0 t1) ([], 0)
noncomputable def o0 (b4 : (List Int) × (List Int) × Int) (t0 : aq) (t1 : be) (x68 : (List Int) × Int) : Option (((List Int) × Int) ⊕ ((List Int) × Int)) :=
  if x68.2 < (b4.2.1.length : Int) then if 0 ≤ x68.2 ∧ x68.2 < (b4.2.1.length : Int) then if 0 ≤ (nth b4.2.1 x68.2) ∧ (nth b4.2.1 x68.2) < (t1.Right.Graph.Edges.length : Int) then (some (bb ((t0.Nodes.length : Int) + ((nth t1.Right.Graph.Edges (nth b4.2.1 x68.2)).Type_)))).bind fun b81 => if 0 ≤ b81 ∧ b81 < (x68.1.length : Int) then (some (bb ((nth x68.1 b81) + 1))).bind fun b84 => some (.inl ((x68.1.set b81.toNat b84), x68.2 + 1)) else none else none else none else some (.inr (x68.1, 0))
noncomputable def nZ (b4 : (List Int) × (List Int) × Int) (t0 : aq) (t1 : be) (x52 : (List Int) × Int) : Option (((List Int) × Int) ⊕ ((List Int) × Int)) :=
  if x52.2 < (b4.1.length : Int) then if 0 ≤ x52.2 ∧ x52.2 < (b4.1.length : Int) then if 0 ≤ (nth b4.1 x52.2) ∧ (nth b4.1 x52.2) < (t1.Right.Graph.Nodes.length : Int) then if 0 ≤ (nth t1.Right.Graph.Nodes (nth b4.1 x52.2)) ∧ (nth t1.Right.Graph.Nodes (nth b4.1 x52.2)) < (x52.1.length : Int) then (some (bb ((nth x52.1 (nth t1.Right.Graph.Nodes (nth b4.1 x52.2))) + 1))).bind fun b64 => some (.inl ((x52.1.set (nth t1.Right.Graph.Nodes (nth b4.1 x52.2)).toNat b64), x52.2 + 1)) else none else none else none else (aE (o0 b4 t0 t1) (x52.1, 0)).map .inr
noncomputable def nY (b1 : (List Int) × (List Int) × Int) (b4 : (List Int) × (List Int) × Int) (t0 : aq) (t1 : be) (x32 : (List Int) × Int) : Option (((List Int) × Int) ⊕ ((List Int) × Int)) :=
  if x32.2 < (b1.2.1.length : Int) then if 0 ≤ x32.2 ∧ x32.2 < (b1.2.1.length : Int) then if 0 ≤ (nth b1.2.1 x32.2) ∧ (nth b1.2.1 x32.2) < (t1.Left.Graph.Edges.length : Int) then (some (bb ((t0.Nodes.length : Int) + ((nth t1.Left.Graph.Edges (nth b1.2.1 x32.2)).Type_)))).bind fun b45 => if 0 ≤ b45 ∧ b45 < (x32.1.length : Int) then (some (bb ((nth x32.1 b45) - 1))).bind fun b48 => some (.inl ((x32.1.set b45.toNat b48), x32.2 + 1)) else none else none else none else (aE (nZ b4 t0 t1) (x32.1, 0)).map .inr
noncomputable def qD (b1 : (List Int) × (List Int) × Int) (b4 : (List Int) × (List Int) × Int) (t0 : aq) (t1 : be) (x10 : (List Int) × Int) : Option (((List Int) × Int) ⊕ ((List Int) × Int)) :=
  if x10.2 < (b1.1.length : Int) then if 0 ≤ x10.2 ∧ x10.2 < (b1.1.length : Int) then if 0 ≤ (nth b1.1 x10.2) ∧ (nth b1.1 x10.2) < (t1.Left.Graph.Nodes.length : Int) then (te t0 (nth t1.Left.Graph.Nodes (nth b1.1 x10.2))).bind fun b24 => if 1 < (b24.1.length : Int) then some (.inr ([], 13)) else if 0 ≤ (nth t1.Left.Graph.Nodes (nth b1.1 x10.2)) ∧ (nth t1.Left.Graph.Nodes (nth b1.1 x10.2)) < (x10.1.length : Int) then (some (bb ((nth x10.1 (nth t1.Left.Graph.Nodes (nth b1.1 x10.2))) - 1))).bind fun b28 => some (.inl ((x10.1.set (nth t1.Left.Graph.Nodes (nth b1.1 x10.2)).toNat b28), x10.2 + 1)) else none else none else none else (aE (nY b1 b4 t0 t1) (x10.1, 0)).map .inr
noncomputable def jQ (t0 : aq) (t1 : be) : Option ((List Int) × Int) :=
  (py t0 t1).bind fun b1 => if ¬ (b1.2.2 = 0) then some ([], b1.2.2) else (px t0 t1).bind fun b4 => if ¬ (b4.2.2 = 0) then some ([], b4.2.2) else (some (bb ((t0.Nodes.length : Int) + (t0.Edges.length : Int)))).bind fun b7 => if 0 ≤ b7 ∧ b7 * 8 ≤ 140737488355328 then aE (qD b1 b4 t0 t1) ((List.replicate b7.toNat 0), 0) else none
noncomputable def Dp (t0 : aq) (t1 : be) : Option ((List Int) × Int) :=
  (gO t0).bind fun b1 => if ¬ (b1.2 = 0) then some ([], b1.2) else (jQ t0 t1).bind fun b4 => some (b4.1, b4.2)
noncomputable def MP (t0 : (List Int)) (t1 : (List Int)) (x2 : Int) : Option (Int ⊕ Bool) :=
  if x2 < (t0.length : Int) then if 0 ≤ x2 ∧ x2 < (t0.length : Int) then if 0 ≤ x2 ∧ x2 < (t1.length : Int) then if ¬ ((nth t0 x2) = (nth t1 x2)) then some (.inr false) else some (.inl (x2 + 1)) else none else none else some (.inr true)
noncomputable def uE (t0 : (List Int)) (t1 : (List Int)) : Option (Bool) :=
  if ¬ ((t0.length : Int) = (t1.length : Int)) then some false else aE (MP t0 t1) 0
noncomputable def Ng (t0 : (List (List Int))) (t1 : ((List Int) → Option Bool)) (x1 : Int) : Option (Int ⊕ Int) :=
  if x1 < (t0.length : Int) then if 0 ≤ x1 ∧ x1 < (t0.length : Int) then (t1 (nth t0 x1)).bind fun b10 => if b10 = true then some (.inr x1) else some (.inl (x1 + 1)) else none else some (.inr (-1))
noncomputable def Ee (t0 : (List (List Int))) (t1 : ((List Int) → Option Bool)) : Option (Int) :=
  aE (Ng t0 t1) 0
noncomputable def qW (t0 : (List (List Int))) (t1 : ((List Int) → Option Bool)) : Option (Bool) :=
  (Ee t0 t1).bind fun b1 => some (decide (0 ≤ b1))
noncomputable def nT (t0 : (List Int)) (t1 : Int) : Option (Bool) :=
  if 0 ≤ t1 ∧ t1 < (t0.length : Int) then some (decide (¬ ((nth t0 t1) = 0))) else none
noncomputable def qI (x22 : (List Int) × Int) (v35 : (List Int)) : Option (((List Int) × Int) ⊕ ((List (List Int)) × (List Int) × Int)) :=
  some (.inl (v35, x22.2 + 1))
noncomputable def o9 (b20 : Int) (x5 : (List (List Int)) × Int) (x22 : (List Int) × Int) : Option (((List Int) × Int) ⊕ ((List (List Int)) × (List Int) × Int)) :=
  if x22.2 < b20 then (qW x5.1 (fun x => nT x x22.2)).bind fun b31 => if b31 = true then if (x22.1.length + 1) * 8 ≤ 140737488355328 then qI x22 (x22.1 ++ [x22.2]) else none else qI x22 x22.1 else (if 6 < (x22.1.length : Int) then some ([], [], 3) else some (x5.1, x22.1, 0)).map .inr
noncomputable def qE (t0 : aq) (t1 : (List be)) (x5 : (List (List Int)) × Int) : Option (((List (List Int)) × Int) ⊕ ((List (List Int)) × (List Int) × Int)) :=
  if x5.2 < (t1.length : Int) then if 0 ≤ x5.2 ∧ x5.2 < (t1.length : Int) then (jQ t0 (nth t1 x5.2)).bind fun b14 => if ¬ (b14.2 = 0) then some (.inr ([], [], b14.2)) else if (x5.1.length + 1) * 24 ≤ 140737488355328 then some (.inl ((x5.1 ++ [b14.1]), x5.2 + 1)) else none else none else ((some (bb ((t0.Nodes.length : Int) + (t0.Edges.length : Int)))).bind fun b20 => aE (o9 b20 x5) ([], 0)).map .inr
noncomputable def fS (t0 : aq) (t1 : (List be)) : Option ((List (List Int)) × (List Int) × Int) :=
  (gO t0).bind fun b1 => if ¬ (b1.2 = 0) then some ([], [], b1.2) else if 6 < (t1.length : Int) then some ([], [], 3) else aE (qE t0 t1) ([], 0)
noncomputable def yQ (t0 : (List Int)) (t1 : (List Int)) (x1 : Int × Int) : Option ((Int × Int) ⊕ Int) :=
  if x1.2 < (t0.length : Int) then if 0 ≤ x1.2 ∧ x1.2 < (t0.length : Int) then if 0 ≤ x1.2 ∧ x1.2 < (t1.length : Int) then (some (bb ((nth t0 x1.2) * (nth t1 x1.2)))).bind fun b13 => (some (bb (x1.1 + b13))).bind fun b15 => some (.inl (b15, x1.2 + 1)) else none else none else some (.inr x1.1)
noncomputable def ua (t0 : (List Int)) (t1 : (List Int)) : Option (Int) :=
  aE (yQ t0 t1) (0, 0)
noncomputable def uu (t0 : (List Int)) (t1 : (List Int)) : Option (Bool) :=
  (ua t0 t1).bind fun b1 => some (decide ((-1) < b1))
noncomputable def pQ (t0 : (List (List Int))) (t1 : (List Int)) : Option (Bool) :=
  (qW t0 (fun x => uu x t1)).bind fun b1 => some (!b1)
noncomputable def yY (t0 : (List Int)) (t1 : (List Int)) (t3 : (List (List Int))) (x1 : (List Int) × Int) : Option (((List Int) × Int) ⊕ (Bool × (List Int) × (List Int))) :=
  if x1.2 < (t1.length : Int) then if 0 ≤ x1.2 ∧ x1.2 < (t1.length : Int) then if 0 ≤ x1.2 ∧ x1.2 < (t0.length : Int) then if 0 ≤ (nth t1 x1.2) ∧ (nth t1 x1.2) < (x1.1.length : Int) then some (.inl ((x1.1.set (nth t1 x1.2).toNat (nth t0 x1.2)), x1.2 + 1)) else none else none else none else ((pQ t3 x1.1).bind fun b13 => some (b13, t0, x1.1)).map .inr
noncomputable def uG (t0 : (List Int)) (t1 : (List Int)) (t2 : (List Int)) (t3 : (List (List Int))) : Option (Bool × (List Int) × (List Int)) :=
  aE (yY t0 t1 t3) (t2, 0)
noncomputable def ve (q_weight_least_1_s1 : Int → Int → Int → (List Int) → (List Int) → (List (List Int)) → (List Int) → Int → Option (Bool × (List Int) × (List Int))) (t0 : Int) (t1 : Int) (t3 : (List Int)) (t5 : (List (List Int))) (t7 : Int) (x13 : (List Int) × (List Int) × Int) : Option (((List Int) × (List Int) × Int) ⊕ (Bool × (List Int) × (List Int))) :=
  if x13.2.2 ≤ (if 6 < t1 then 6 else t1) then if 0 ≤ t0 ∧ t0 < (x13.2.1.length : Int) then (some (bb (t0 + 1))).bind fun b28 => (some (bb (t1 - x13.2.2))).bind fun b30 => (q_weight_least_1_s1 b28 b30 t7 t3 x13.1 t5 (x13.2.1.set t0.toNat x13.2.2) t7).bind fun b32 => if b32.1 = true then some (.inr (true, b32.2.1, b32.2.2)) else (some (bb (x13.2.2 + 1))).bind fun b35 => some (.inl (b32.2.1, b32.2.2, b35)) else none else some (.inr (false, x13.1, x13.2.1))
noncomputable def jV (q_weight_least_1_s1 : Int → Int → Int → (List Int) → (List Int) → (List (List Int)) → (List Int) → Int → Option (Bool × (List Int) × (List Int))) (t0 : Int) (t1 : Int) (t2 : Int) (t3 : (List Int)) (t4 : (List Int)) (t5 : (List (List Int))) (t6 : (List Int)) (t7 : Int) : Option (Bool × (List Int) × (List Int)) :=
  if t0 = t2 then if t1 = 0 then (uG t6 t3 t4 t5).bind fun b3 => some (b3.1, b3.2.2, b3.2.1) else some (false, t4, t6) else (some (bb (t2 - t0))).bind fun b5 => (some (bb (b5 - 1))).bind fun b7 => (some (bb (6 * b7))).bind fun b9 => (some (bb (t1 - b9))).bind fun b11 => aE (ve q_weight_least_1_s1 t0 t1 t3 t5 t7) (t4, t6, (if 0 < b11 then b11 else 0))
noncomputable def iF : Nat → (Int → Int → Int → (List Int) → (List Int) → (List (List Int)) → (List Int) → Int → Option (Bool × (List Int) × (List Int)))
  | 0 => (fun _ _ _ _ _ _ _ _ => none)
  | n + 1 => (fun t0 t1 t2 t3 t4 t5 t6 t7 => jV (iF n) t0 t1 t2 t3 t4 t5 t6 t7)
noncomputable def yO (t0 : Int) (t1 : Int) (t2 : Int) (t3 : (List Int)) (t4 : (List Int)) (t5 : (List (List Int))) (t6 : (List Int)) (t7 : Int) : Option (Bool × (List Int) × (List Int)) := Ev fun n => (iF n) t0 t1 t2 t3 t4 t5 t6 t7
noncomputable def yT (b4 : Int) (t0 : Int) (t1 : (List Int)) (t3 : (List (List Int))) (x6 : (List Int) × (List Int) × Int) : Option (((List Int) × (List Int) × Int) ⊕ ((List Int) × Bool × (List Int))) :=
  if x6.2.2 < b4 then (yO 0 x6.2.2 t0 t1 x6.1 t3 x6.2.1 t0).bind fun b13 => if b13.1 = true then some (.inr (b13.2.2, true, b13.2.1)) else some (.inl (b13.2.1, b13.2.2, x6.2.2 + 1)) else some (.inr ([], false, x6.1))
noncomputable def ur (t0 : Int) (t1 : (List Int)) (t2 : (List Int)) (t3 : (List (List Int))) : Option ((List Int) × Bool × (List Int)) :=
  if 0 ≤ t0 ∧ t0 * 8 ≤ 140737488355328 then (some (bb (6 * t0))).bind fun b2 => (some (bb (b2 + 1))).bind fun b4 => aE (yT b4 t0 t1 t3) (t2, (List.replicate t0.toNat 0), 0) else none
noncomputable def jO (t0 : aq) (t1 : (List be)) : Option ((List Int) × Int) :=
  (fS t0 t1).bind fun b1 => if ¬ (b1.2.2 = 0) then some ([], b1.2.2) else (some (bb ((t0.Nodes.length : Int) + (t0.Edges.length : Int)))).bind fun b4 => if 0 ≤ b4 ∧ b4 * 8 ≤ 140737488355328 then (ur (b1.2.1.length : Int) b1.2.1 (List.replicate b4.toNat 0) b1.1).bind fun b7 => if (!b7.2.1) = true then some ([], 10) else some (b7.2.2, 0) else none
noncomputable def yM (t0 : (List Int)) (x3 : Int × Int) : Option ((Int × Int) ⊕ Int) :=
  if x3.2 < (t0.length : Int) then if 0 ≤ x3.2 ∧ x3.2 < (t0.length : Int) then some (.inl ((if x3.1 < (nth t0 x3.2) then (nth t0 x3.2) else x3.1), x3.2 + 1)) else none else some (.inr x3.1)
noncomputable def u5 (t0 : (List Int)) : Option (Int) :=
  if (t0.length : Int) < 1 then none else if 0 ≤ (0 : Int) ∧ (0 : Int) < (t0.length : Int) then aE (yM t0) ((nth t0 0), 1) else none
noncomputable def uR (t0 : (List (List Int))) (t1 : (List Int)) (x6 : Int) (x30 : Int × Int) : Option ((Int × Int) ⊕ (Int ⊕ Bool)) :=
  if x30.2 < (t0.length : Int) then if 0 ≤ x30.2 ∧ x30.2 < (t1.length : Int) then if 0 ≤ x30.2 ∧ x30.2 < (t0.length : Int) then if 0 ≤ x6 ∧ x6 < ((nth t0 x30.2).length : Int) then (some (bb ((nth t1 x30.2) * (nth (nth t0 x30.2) x6)))).bind fun b43 => (some (bb (x30.1 + b43))).bind fun b45 => some (.inl (b45, x30.2 + 1)) else none else none else none else (if x30.1 < 0 then some (.inr false) else some (.inl (x6 + 1))).map .inr
noncomputable def uN (t0 : (List (List Int))) (t1 : (List Int)) (x6 : Int) : Option (Int ⊕ Bool) :=
  if x6 < ((nth t0 0).length : Int) then aE (uR t0 t1 x6) (0, 0) else some (.inr true)
noncomputable def qi (t0 : (List (List Int))) (t1 : (List Int)) : Option (Bool) :=
  if ([0].length + t1.length) * 8 ≤ 140737488355328 then (u5 ([0] ++ t1)).bind fun b2 => if b2 = 0 then some false else if 0 ≤ (0 : Int) ∧ (0 : Int) < (t0.length : Int) then aE (uN t0 t1) 0 else none else none
noncomputable def uQ (t0 : (List Int)) (t1 : (List (List Int))) : Option (Bool × (List Int)) :=
  if 0 < (t0.length : Int) then (qi t1 t0).bind fun b2 => some (b2, t0) else some (false, t0)
noncomputable def vf (q_weight_least_1_s4 : Int → Int → Int → (List (List Int)) → (List Int) → Int → Option (Bool × (List Int))) (t0 : Int) (t1 : Int) (t3 : (List (List Int))) (t5 : Int) (x13 : (List Int) × Int) : Option (((List Int) × Int) ⊕ (Bool × (List Int))) :=
  if x13.2 ≤ (if 6 < t1 then 6 else t1) then if 0 ≤ t0 ∧ t0 < (x13.1.length : Int) then (some (bb (t0 + 1))).bind fun b28 => (some (bb (t1 - x13.2))).bind fun b30 => (q_weight_least_1_s4 b28 b30 t5 t3 (x13.1.set t0.toNat x13.2) t5).bind fun b32 => if b32.1 = true then some (.inr (true, b32.2)) else (some (bb (x13.2 + 1))).bind fun b35 => some (.inl (b32.2, b35)) else none else some (.inr (false, x13.1))
noncomputable def jW (q_weight_least_1_s4 : Int → Int → Int → (List (List Int)) → (List Int) → Int → Option (Bool × (List Int))) (t0 : Int) (t1 : Int) (t2 : Int) (t3 : (List (List Int))) (t4 : (List Int)) (t5 : Int) : Option (Bool × (List Int)) :=
  if t0 = t2 then if t1 = 0 then (uQ t4 t3).bind fun b3 => some (b3.1, b3.2) else some (false, t4) else (some (bb (t2 - t0))).bind fun b5 => (some (bb (b5 - 1))).bind fun b7 => (some (bb (6 * b7))).bind fun b9 => (some (bb (t1 - b9))).bind fun b11 => aE (vf q_weight_least_1_s4 t0 t1 t3 t5) (t4, (if 0 < b11 then b11 else 0))
noncomputable def iG : Nat → (Int → Int → Int → (List (List Int)) → (List Int) → Int → Option (Bool × (List Int)))
  | 0 => (fun _ _ _ _ _ _ => none)
  | n + 1 => (fun t0 t1 t2 t3 t4 t5 => jW (iG n) t0 t1 t2 t3 t4 t5)
noncomputable def yP (t0 : Int) (t1 : Int) (t2 : Int) (t3 : (List (List Int))) (t4 : (List Int)) (t5 : Int) : Option (Bool × (List Int)) := Ev fun n => (iG n) t0 t1 t2 t3 t4 t5
noncomputable def yU (b4 : Int) (t0 : Int) (t1 : (List (List Int))) (x6 : (List Int) × Int) : Option (((List Int) × Int) ⊕ ((List Int) × Bool)) :=
  if x6.2 < b4 then (yP 0 x6.2 t0 t1 x6.1 t0).bind fun b13 => if b13.1 = true then some (.inr (b13.2, true)) else some (.inl (b13.2, x6.2 + 1)) else some (.inr ([], false))
noncomputable def ut (t0 : Int) (t1 : (List (List Int))) : Option ((List Int) × Bool) :=
  if 0 ≤ t0 ∧ t0 * 8 ≤ 140737488355328 then (some (bb (6 * t0))).bind fun b2 => (some (bb (b2 + 1))).bind fun b4 => aE (yU b4 t0 t1) ((List.replicate t0.toNat 0), 0) else none
noncomputable def pP (t0 : aq) (t1 : (List be)) : Option ((List Int) × Int) :=
  (fS t0 t1).bind fun b1 => if ¬ (b1.2.2 = 0) then some ([], b1.2.2) else (ut (t1.length : Int) b1.1).bind fun b4 => if (!b4.2) = true then some ([], 10) else (jS b4.1).bind fun b7 => some (b7, 0)
noncomputable def Dk  : Option (aq) :=
  some (aq.mk [(bR.mk (ByteArray.mk #[65, 99, 99, 111, 117, 110, 116]) (-1) true [(aW.mk (ByteArray.mk #[98, 97, 108, 97, 110, 99, 101]) (-1000) 1000 [])]), (bR.mk (ByteArray.mk #[67, 97, 115, 104]) 0 false []), (bR.mk (ByteArray.mk #[76, 111, 97, 110]) 0 false [(aW.mk (ByteArray.mk #[115, 116, 97, 116, 101]) 0 1 [(ByteArray.mk #[111, 112, 101, 110]), (ByteArray.mk #[99, 108, 111, 115, 101, 100])])]), (bR.mk (ByteArray.mk #[80, 101, 114, 115, 111, 110]) (-1) false [])] [(db.mk (ByteArray.mk #[111, 119, 110, 115]) 3 0 0 (-1) 1 1), (db.mk (ByteArray.mk #[112, 97, 121, 115]) 1 1 0 (-1) 0 (-1))])
noncomputable def xj (t0 : ar) (t1 : ar) (t2 : cM) (t3 : aS) : Option (be) :=
  some (be.mk (ByteArray.mk #[114]) (aJ.mk t0 [] 0 []) (aJ.mk t1 [] 0 []) t2 t3 true (az.mk 1 [] (aS.mk [] []) (aJ.mk (ar.mk [] []) [] 0 [])))
noncomputable def De  : Option ((List be)) :=
  (xj (ar.mk [3, 1, 1] [(ba.mk 1 1 2)]) (ar.mk [3, 1, 1, 2] [(ba.mk 0 0 3)]) (cM.mk [0, 1, 2] []) (aS.mk [0, 1, 2] [])).bind fun b1 => (xj (ar.mk [3, 1, 1, 2] [(ba.mk 0 0 3)]) (ar.mk [3, 1, 1] [(ba.mk 1 1 2)]) (cM.mk [0, 1, 2] []) (aS.mk [0, 1, 2] [])).bind fun b3 => some [b1, b3]
noncomputable def lC  : Option (Bool) :=
  (Dk).bind fun b1 => (De).bind fun b3 => if 0 ≤ (0 : Int) ∧ (0 : Int) < (b3.length : Int) then (Dp b1 (nth b3 0)).bind fun b6 => if 0 ≤ (0 : Int) ∧ (0 : Int) ≤ (1 : Int) ∧ (1 : Int) ≤ (b3.length : Int) then (jO b1 (cut b3 0 1)).bind fun b9 => (pP b1 b3).bind fun b11 => if b6.2 = 0 then if b9.2 = 0 then if b11.2 = 0 then (uE b6.1 [0, 0, 1, 0, 1, (-1)]).bind fun b16 => if b16 = true then (uE b9.1 [0, 0, 0, 0, 0, 1]).bind fun b19 => if b19 = true then (uE b11.1 [1, 1]).bind fun b22 => some b22 else some false else some false else some false else some false else some false else none else none
noncomputable def sC (t0 : ar) : Option (Bool) :=
  if (t0.Nodes.length : Int) ≤ 45 then some (decide ((t0.Edges.length : Int) ≤ 90)) else some false
noncomputable def mP (t0 : aJ) : Option (Bool) :=
  (sC t0.Graph).bind fun b1 => if b1 = true then if (t0.Slots.length : Int) ≤ 15 then some (decide ((t0.Tests.length : Int) ≤ 15)) else some false else some false
noncomputable def wT (t0 : cM) (t1 : Int) : Option (Bool) :=
  (some (bb ((t0.Nodes.length : Int) + (t0.Edges.length : Int)))).bind fun b1 => some (decide (b1 ≤ t1))
noncomputable def mO (t0 : aS) (t1 : Int) : Option (Bool) :=
  (some (bb ((t0.Nodes.length : Int) + (t0.Edges.length : Int)))).bind fun b1 => some (decide (b1 ≤ t1))
noncomputable def tW (x9 : Int × Int) (v25 : Unit) : Option ((Int × Int) ⊕ Int) :=
  some (.inr x9.1)
noncomputable def pK (q_ref22_left : az → Int → Option Int) (t0 : az) (x9 : Int × Int) : Option ((Int × Int) ⊕ Int) :=
  if x9.2 < (t0.Kids.length : Int) then if 0 ≤ x9.1 then if 0 ≤ x9.2 ∧ x9.2 < (t0.Kids.length : Int) then (q_ref22_left (nth t0.Kids x9.2) x9.1).bind fun b21 => some (.inl (b21, x9.2 + 1)) else none else tW x9 () else tW x9 ()
noncomputable def nt (q_ref22_left : az → Int → Option Int) (t0 : az) (t1 : Int) : Option (Int) :=
  (some (bb (t1 - 1))).bind fun b1 => (mP t0.Pattern).bind fun b3 => if (!b3) = true then some (-1) else (mO t0.Map 140).bind fun b6 => if (!b6) = true then some (-1) else aE (pK q_ref22_left t0) (b1, 0)
noncomputable def j8 : Nat → (az → Int → Option Int)
  | 0 => (fun _ _ => none)
  | n + 1 => (fun t0 t1 => nt (j8 n) t0 t1)
noncomputable def xb (t0 : az) (t1 : Int) : Option (Int) := Ev fun n => (j8 n) t0 t1
noncomputable def sD (t0 : az) : Option (Bool) :=
  (xb t0 40).bind fun b1 => some (decide (0 ≤ b1))
noncomputable def sE (t0 : be) : Option (Bool) :=
  if (t0.Name.size : Int) ≤ 60 then (mP t0.Left).bind fun b2 => if b2 = true then (mP t0.Right).bind fun b5 => if b5 = true then (wT t0.Keep 140).bind fun b8 => if b8 = true then (mO t0.Into 140).bind fun b11 => if b11 = true then (sD t0.Condition).bind fun b14 => some b14 else some false else some false else some false else some false else some false
noncomputable def xz (t0 : (List be)) (x2 : Int) : Option (Int ⊕ Bool) :=
  if x2 < (t0.length : Int) then if 0 ≤ x2 ∧ x2 < (t0.length : Int) then (sE (nth t0 x2)).bind fun b11 => if (!b11) = true then some (.inr false) else some (.inl (x2 + 1)) else none else some (.inr true)
noncomputable def sF (t0 : (List be)) : Option (Bool) :=
  if 8 < (t0.length : Int) then some false else aE (xz t0) 0
noncomputable def x8 (t0 : cm) : Option (ByteArray) :=
  if t0.Kind = 3 then if (ByteArray.mk #[34]).size + t0.Text.size ≤ 140737488355328 then if ((ByteArray.mk #[34]) ++ t0.Text).size + (ByteArray.mk #[34]).size ≤ 140737488355328 then some (((ByteArray.mk #[34]) ++ t0.Text) ++ (ByteArray.mk #[34])) else none else none else some t0.Text
noncomputable def tj (t0 : Int) : Option (Bool) :=
  if 97 ≤ t0 then if t0 ≤ 122 then some true else if 65 ≤ t0 then some (decide (t0 ≤ 90)) else some false else if 65 ≤ t0 then some (decide (t0 ≤ 90)) else some false
noncomputable def ng (t0 : Int) : Option (Bool) :=
  if 48 ≤ t0 then some (decide (t0 ≤ 57)) else some false
noncomputable def nx (x1 : Int) (v53 : Unit) : Option (Int ⊕ Int) :=
  some (.inr x1)
noncomputable def pI (x1 : Int) (v49 : Unit) : Option (Int ⊕ Int) :=
  (some (bb (x1 + 1))).bind fun b50 => some (.inl b50)
noncomputable def xw (t0 : ByteArray) (t1 : Int) (t2 : Bool) (x1 : Int) : Option (Int ⊕ Int) :=
  (some (bb (t1 + x1))).bind fun b27 => if b27 < (t0.size : Int) then (some (bb (t1 + x1))).bind fun b30 => if 0 ≤ b30 ∧ b30 < (t0.size : Int) then (ng (cq t0 b30)).bind fun b33 => if b33 = true then pI x1 () else if (!t2) = true then (some (bb (t1 + x1))).bind fun b37 => if 0 ≤ b37 ∧ b37 < (t0.size : Int) then (tj (cq t0 b37)).bind fun b40 => if b40 = true then pI x1 () else (some (bb (t1 + x1))).bind fun b43 => if 0 ≤ b43 ∧ b43 < (t0.size : Int) then if cq t0 b43 = 95 then pI x1 () else nx x1 () else none else none else nx x1 () else none else nx x1 ()
noncomputable def sB (t0 : ByteArray) (t1 : Int) (t2 : Bool) : Option (Int) :=
  aE (xw t0 t1 t2) 0
noncomputable def DM (t0 : ByteArray) (t1 : Int) (x1 : Int) : Option (Int ⊕ Int) :=
  (some (bb (t1 + x1))).bind fun b12 => if b12 < (t0.size : Int) then (some (bb (t1 + x1))).bind fun b15 => if 0 ≤ b15 ∧ b15 < (t0.size : Int) then if cq t0 b15 = 34 then (some (bb (x1 + 1))).bind fun b19 => some (.inr b19) else if cq t0 b15 < 32 then some (.inr 0) else if 126 < cq t0 b15 then some (.inr 0) else (some (bb (x1 + 1))).bind fun b23 => some (.inl b23) else none else some (.inr 0)
noncomputable def tk (t0 : ByteArray) (t1 : Int) : Option (Int) :=
  aE (DM t0 t1) 1
noncomputable def xl  : Option ((List ByteArray)) :=
  some [(ByteArray.mk #[45, 62]), (ByteArray.mk #[60, 61]), (ByteArray.mk #[62, 61]), (ByteArray.mk #[61, 61]), (ByteArray.mk #[33, 61]), (ByteArray.mk #[123]), (ByteArray.mk #[125]), (ByteArray.mk #[40]), (ByteArray.mk #[41]), (ByteArray.mk #[91]), (ByteArray.mk #[93]), (ByteArray.mk #[44]), (ByteArray.mk #[59]), (ByteArray.mk #[58]), (ByteArray.mk #[61]), (ByteArray.mk #[43]), (ByteArray.mk #[45]), (ByteArray.mk #[42]), (ByteArray.mk #[60]), (ByteArray.mk #[62]), (ByteArray.mk #[33]), (ByteArray.mk #[38]), (ByteArray.mk #[124]), (ByteArray.mk #[46]), (ByteArray.mk #[63])]
noncomputable def nw (b28 : Int) (t0 : ByteArray) (t1 : Int) (v37 : Int × Int) : Option (cm × Int × Int) :=
  if v37.2 < b28 then some ((cm.mk 0 (ByteArray.mk #[]) 0), 0, 3) else (some (bb (t1 + b28))).bind fun b39 => if 0 ≤ t1 ∧ t1 ≤ b39 ∧ b39 ≤ (t0.size : Int) then some ((cm.mk v37.1 (bT t0 t1 b39) 0), b28, 0) else none
noncomputable def pH (t0 : ByteArray) (t1 : Int) (v25 : Unit) : Option (cm × Int × Int) :=
  (ng (cq t0 t1)).bind fun b26 => (sB t0 t1 b26).bind fun b28 => (ng (cq t0 t1)).bind fun b30 => if b30 = true then nw b28 t0 t1 (2, 9) else nw b28 t0 t1 (1, 20)
noncomputable def tH (x60 : Int) (v82 : Unit) : Option (Int ⊕ (cm × Int × Int)) :=
  some (.inl (x60 + 1))
noncomputable def xG (b58 : (List ByteArray)) (t0 : ByteArray) (t1 : Int) (x60 : Int) : Option (Int ⊕ (cm × Int × Int)) :=
  if x60 < (b58.length : Int) then if 0 ≤ x60 ∧ x60 < (b58.length : Int) then (some (bb (t1 + ((nth b58 x60).size : Int)))).bind fun b75 => if b75 ≤ (t0.size : Int) then (some (bb (t1 + ((nth b58 x60).size : Int)))).bind fun b78 => if 0 ≤ t1 ∧ t1 ≤ b78 ∧ b78 ≤ (t0.size : Int) then if bT t0 t1 b78 = (nth b58 x60) then some (.inr ((cm.mk 4 (nth b58 x60) 0), ((nth b58 x60).size : Int), 0)) else tH x60 () else none else tH x60 () else none else some (.inr ((cm.mk 0 (ByteArray.mk #[]) 0), 0, 2))
noncomputable def mN (t0 : ByteArray) (t1 : Int) : Option (cm × Int × Int) :=
  if 0 ≤ t1 ∧ t1 < (t0.size : Int) then (tj (cq t0 t1)).bind fun b2 => if b2 = true then pH t0 t1 () else (ng (cq t0 t1)).bind fun b5 => if b5 = true then pH t0 t1 () else if cq t0 t1 = 34 then (tk t0 t1).bind fun b45 => if b45 = 0 then some ((cm.mk 0 (ByteArray.mk #[]) 0), 0, 2) else (some (bb (b45 - 2))).bind fun b48 => if 60 < b48 then some ((cm.mk 0 (ByteArray.mk #[]) 0), 0, 3) else (some (bb (t1 + 1))).bind fun b51 => (some (bb (t1 + b45))).bind fun b53 => (some (bb (b53 - 1))).bind fun b55 => if 0 ≤ b51 ∧ b51 ≤ b55 ∧ b55 ≤ (t0.size : Int) then some ((cm.mk 3 (bT t0 b51 b55) 0), b45, 0) else none else (xl).bind fun b58 => aE (xG b58 t0 t1) 0 else none
noncomputable def xk (t0 : cm) : Option (Bool) :=
  (x8 t0).bind fun b1 => if b1 = (ByteArray.mk #[]) then some false else (mN b1 0).bind fun b4 => if b4.2.2 = 0 then if b4.2.1 = (b1.size : Int) then some (decide (b4.1.Kind = t0.Kind)) else some false else some false
noncomputable def gP (t0 : ByteArray) : Option (Bool) :=
  (xk (cm.mk 1 t0 0)).bind fun b1 => some b1
noncomputable def fk (t0 : Int) (t1 : Int) (t2 : Int) : Option (Bool) :=
  if t1 ≤ t0 then some (decide (t0 ≤ t2)) else some false
noncomputable def kP (q_ref04_attrs : aq → Int → Option (List aW)) (t0 : aq) (t1 : Int) : Option ((List aW)) :=
  if t1 < 0 then some [] else if 0 ≤ t1 ∧ t1 < (t0.Nodes.length : Int) then (q_ref04_attrs t0 ((nth t0.Nodes t1).Parent)).bind fun b3 => if b3.length * 56 ≤ 140737488355328 then if (b3.length + ((nth t0.Nodes t1).Attrs).length) * 56 ≤ 140737488355328 then some (b3 ++ (nth t0.Nodes t1).Attrs) else none else none else none
noncomputable def fL : Nat → (aq → Int → Option (List aW))
  | 0 => (fun _ _ => none)
  | n + 1 => (fun t0 t1 => kP (fL n) t0 t1)
noncomputable def nh (t0 : aq) (t1 : Int) : Option ((List aW)) := Ev fun n => (fL n) t0 t1
noncomputable def ud (t0 : (List ByteArray)) (x2 : Int) (x22 : Int) : Option (Int ⊕ (Int ⊕ Int)) :=
  if x22 < x2 then if 0 ≤ x22 ∧ x22 < (t0.length : Int) then if (nth t0 x22) = (nth t0 x2) then some (.inr (.inr 5)) else some (.inl (x22 + 1)) else none else some (.inr (.inl (x2 + 1)))
noncomputable def xW (t0 : (List ByteArray)) (x2 : Int) : Option (Int ⊕ Int) :=
  if x2 < (t0.length : Int) then if 0 ≤ x2 ∧ x2 < (t0.length : Int) then (gP (nth t0 x2)).bind fun b19 => if (!b19) = true then some (.inr 2) else aE (ud t0 x2) 0 else none else some (.inr 0)
noncomputable def pj (t0 : (List ByteArray)) : Option (Int) :=
  if 20 < (t0.length : Int) then some 3 else aE (xW t0) 0
noncomputable def ic (t0 : aW) : Option (Int) :=
  if (t0.Names.length : Int) = 0 then (fk t0.Low (-1000000) 1000000).bind fun b2 => if (!b2) = true then some 6 else (fk t0.High t0.Low 1000000).bind fun b5 => if (!b5) = true then some 6 else some 0 else (pj t0.Names).bind fun b8 => if ¬ (b8 = 0) then some b8 else if ¬ (t0.Low = 0) then some 6 else if ¬ (t0.High = (t0.Names.length : Int) - 1) then some 6 else some 0
noncomputable def nD (b20 : (List aW)) (x26 : Int) (x53 : Int) : Option (Int ⊕ (Int ⊕ Int)) :=
  if x53 < x26 then if 0 ≤ x53 ∧ x53 < (b20.length : Int) then if (nth b20 x53).Name = (nth b20 x26).Name then some (.inr (.inr 5)) else some (.inl (x53 + 1)) else none else ((ic (nth b20 x26)).bind fun b63 => if ¬ (b63 = 0) then some (.inr b63) else some (.inl (x26 + 1))).map .inr
noncomputable def lL (b20 : (List aW)) (x26 : Int) : Option (Int ⊕ Int) :=
  if x26 < (b20.length : Int) then if 0 ≤ x26 ∧ x26 < (b20.length : Int) then (gP ((nth b20 x26).Name)).bind fun b50 => if (!b50) = true then some (.inr 2) else aE (nD b20 x26) 0 else none else some (.inr 0)
noncomputable def nz (t0 : aq) (t1 : Int) (x5 : Int) : Option (Int ⊕ Int) :=
  if x5 < t1 then if 0 ≤ x5 ∧ x5 < (t0.Nodes.length : Int) then if (nth t0.Nodes x5).Name = (nth t0.Nodes t1).Name then some (.inr 5) else some (.inl (x5 + 1)) else none else ((some (bb (t1 - 1))).bind fun b15 => (fk ((nth t0.Nodes t1).Parent) (-1) b15).bind fun b17 => if (!b17) = true then some 6 else (nh t0 t1).bind fun b20 => if 4 < (((nth t0.Nodes t1).Attrs).length : Int) then some 3 else if 8 < (b20.length : Int) then some 3 else (some (bb ((b20.length : Int) - (((nth t0.Nodes t1).Attrs).length : Int)))).bind fun b24 => aE (lL b20) b24).map .inr
noncomputable def mW (t0 : aq) (t1 : Int) : Option (Int) :=
  if 0 ≤ t1 ∧ t1 < (t0.Nodes.length : Int) then (gP ((nth t0.Nodes t1).Name)).bind fun b2 => if (!b2) = true then some 2 else aE (nz t0 t1) 0 else none
noncomputable def j6 (t0 : Int) (t1 : Int) : Option (Bool) :=
  (fk t0 0 40).bind fun b1 => if b1 = true then if t1 = (-1) then some true else (fk t1 t0 40).bind fun b5 => some b5 else some false
noncomputable def ny (t0 : aq) (t1 : Int) (x5 : Int) : Option (Int ⊕ Int) :=
  if x5 < t1 then if 0 ≤ x5 ∧ x5 < (t0.Edges.length : Int) then if (nth t0.Edges x5).Name = (nth t0.Edges t1).Name then some (.inr 5) else some (.inl (x5 + 1)) else none else ((some (bb ((t0.Nodes.length : Int) - 1))).bind fun b15 => (fk ((nth t0.Edges t1).From) 0 b15).bind fun b17 => if (!b17) = true then some 6 else (fk ((nth t0.Edges t1).To) 0 b15).bind fun b20 => if (!b20) = true then some 6 else (j6 ((nth t0.Edges t1).OutLow) ((nth t0.Edges t1).OutHigh)).bind fun b23 => if (!b23) = true then some 6 else (j6 ((nth t0.Edges t1).InLow) ((nth t0.Edges t1).InHigh)).bind fun b26 => if (!b26) = true then some 6 else some 0).map .inr
noncomputable def mV (t0 : aq) (t1 : Int) : Option (Int) :=
  if 0 ≤ t1 ∧ t1 < (t0.Edges.length : Int) then (gP ((nth t0.Edges t1).Name)).bind fun b2 => if (!b2) = true then some 2 else aE (ny t0 t1) 0 else none
noncomputable def nM (t0 : aq) (x18 : Int) : Option (Int ⊕ (ByteArray × Int)) :=
  if x18 < (t0.Edges.length : Int) then (mV t0 x18).bind fun b26 => if ¬ (b26 = 0) then if 0 ≤ x18 ∧ x18 < (t0.Edges.length : Int) then some (.inr ((nth t0.Edges x18).Name, b26)) else none else some (.inl (x18 + 1)) else some (.inr ((ByteArray.mk #[]), 0))
noncomputable def pU (t0 : aq) (x4 : Int) : Option (Int ⊕ (ByteArray × Int)) :=
  if x4 < (t0.Nodes.length : Int) then (mW t0 x4).bind fun b12 => if ¬ (b12 = 0) then if 0 ≤ x4 ∧ x4 < (t0.Nodes.length : Int) then some (.inr ((nth t0.Nodes x4).Name, b12)) else none else some (.inl (x4 + 1)) else (aE (nM t0) 0).map .inr
noncomputable def iD (t0 : aq) : Option (ByteArray × Int) :=
  if (t0.Nodes.length : Int) = 0 then some ((ByteArray.mk #[]), 7) else if 12 < (t0.Nodes.length : Int) then some ((ByteArray.mk #[]), 3) else if 20 < (t0.Edges.length : Int) then some ((ByteArray.mk #[]), 3) else aE (pU t0) 0
noncomputable def pg (t0 : Int) : Option (Bool) :=
  if 0 ≤ t0 then some (decide (t0 ≤ 99)) else some false
noncomputable def sX (t0 : ba) (t1 : Int) : Option (Bool) :=
  (pg t0.Type_).bind fun b1 => if b1 = true then if 0 ≤ t0.From then if t0.From < t1 then if 0 ≤ t0.To then some (decide (t0.To < t1)) else some false else some false else some false else some false
noncomputable def nN (t0 : ar) (x17 : Int) : Option (Int ⊕ Int) :=
  if x17 < (t0.Edges.length : Int) then if 0 ≤ x17 ∧ x17 < (t0.Edges.length : Int) then (sX (nth t0.Edges x17) (t0.Nodes.length : Int)).bind fun b26 => if (!b26) = true then some (.inr 6) else some (.inl (x17 + 1)) else none else some (.inr 0)
noncomputable def tO (t0 : ar) (x3 : Int) : Option (Int ⊕ Int) :=
  if x3 < (t0.Nodes.length : Int) then if 0 ≤ x3 ∧ x3 < (t0.Nodes.length : Int) then (pg (nth t0.Nodes x3)).bind fun b12 => if (!b12) = true then some (.inr 6) else some (.inl (x3 + 1)) else none else (aE (nN t0) 0).map .inr
noncomputable def jM (t0 : ar) : Option (Int) :=
  if 40 < (t0.Nodes.length : Int) then some 3 else if 80 < (t0.Edges.length : Int) then some 3 else aE (tO t0) 0
noncomputable def nO (t0 : aq) (t1 : ar) (x13 : Int) : Option (Int ⊕ Bool) :=
  if x13 < (t1.Edges.length : Int) then if 0 ≤ x13 ∧ x13 < (t1.Edges.length : Int) then if (nth t1.Edges x13).Type_ < 0 then some (.inr false) else if (t0.Edges.length : Int) ≤ (nth t1.Edges x13).Type_ then some (.inr false) else some (.inl (x13 + 1)) else none else some (.inr true)
noncomputable def y7 (t0 : aq) (t1 : ar) (x1 : Int) : Option (Int ⊕ Bool) :=
  if x1 < (t1.Nodes.length : Int) then if 0 ≤ x1 ∧ x1 < (t1.Nodes.length : Int) then if (nth t1.Nodes x1) < 0 then some (.inr false) else if (t0.Nodes.length : Int) ≤ (nth t1.Nodes x1) then some (.inr false) else some (.inl (x1 + 1)) else none else (aE (nO t0 t1) 0).map .inr
noncomputable def pn (t0 : aq) (t1 : ar) : Option (Bool) :=
  aE (y7 t0 t1) 0
noncomputable def lD (t0 : aq) (t1 : Int) (t2 : Int) : Option (Int) :=
  (iD t0).bind fun b1 => if ¬ (b1.2 = 0) then some b1.2 else (some (bb ((t0.Nodes.length : Int) - 1))).bind fun b4 => (fk t1 0 b4).bind fun b6 => if (!b6) = true then some 6 else (some (bb ((t0.Nodes.length : Int) - 1))).bind fun b9 => (fk t2 0 b9).bind fun b11 => if (!b11) = true then some 6 else some 0
noncomputable def pT (b4 : (List aW)) (x6 : (List aW) × Int) : Option (((List aW) × Int) ⊕ ((List aW) × Int)) :=
  if x6.2 < (b4.length : Int) then if 0 ≤ x6.2 ∧ x6.2 < (b4.length : Int) then if ((nth b4 x6.2).Names).length * 16 ≤ 140737488355328 then if (x6.1.length + 1) * 56 ≤ 140737488355328 then some (.inl ((x6.1 ++ [(aW.mk ((nth b4 x6.2).Name) ((nth b4 x6.2).Low) ((nth b4 x6.2).High) ((nth b4 x6.2).Names))]), x6.2 + 1)) else none else none else none else some (.inr (x6.1, 0))
noncomputable def jL (t0 : aq) (t1 : Int) : Option ((List aW) × Int) :=
  (lD t0 t1 t1).bind fun b1 => if ¬ (b1 = 0) then some ([], b1) else (nh t0 t1).bind fun b4 => aE (pT b4) ([], 0)
noncomputable def xa (t0 : aq) (t1 : aJ) (t2 : Int) (t3 : Int) : Option (aW × Bool) :=
  if t2 < 0 then some ((aW.mk (ByteArray.mk #[]) 0 0 []), false) else if (t1.Graph.Nodes.length : Int) ≤ t2 then some ((aW.mk (ByteArray.mk #[]) 0 0 []), false) else if 0 ≤ t2 ∧ t2 < (t1.Graph.Nodes.length : Int) then (jL t0 (nth t1.Graph.Nodes t2)).bind fun b4 => if ¬ (b4.2 = 0) then some ((aW.mk (ByteArray.mk #[]) 0 0 []), false) else if t3 < 0 then some ((aW.mk (ByteArray.mk #[]) 0 0 []), false) else if (b4.1.length : Int) ≤ t3 then some ((aW.mk (ByteArray.mk #[]) 0 0 []), false) else if 0 ≤ t3 ∧ t3 < (b4.1.length : Int) then some ((nth b4.1 t3), true) else none else none
noncomputable def Dl (t0 : Int) : Option (Bool) :=
  if (-1000000) ≤ t0 then some (decide (t0 ≤ 1000000)) else some false
noncomputable def tm (t0 : Int) (t1 : cH) : Option (Int) :=
  if t1.Var < (-1) then some 6 else if t0 ≤ t1.Var then some 6 else if t1.Add < (-1000000) then some 6 else if 1000000 < t1.Add then some 6 else some 0
noncomputable def tl (t0 : Int) (t1 : dP) (v8 : Unit) : Option Int :=
  (tm t0 t1.Left).bind fun b9 => if ¬ (b9 = 0) then some b9 else (tm t0 t1.Right).bind fun b12 => some b12
noncomputable def wS (t0 : Int) (t1 : dP) : Option (Int) :=
  if ¬ (t1.Kind = 1) then if ¬ (t1.Kind = 2) then some 1 else tl t0 t1 () else tl t0 t1 ()
noncomputable def xV (t0 : Int) (t1 : (List dP)) (x4 : Int) : Option (Int ⊕ Int) :=
  if x4 < (t1.length : Int) then if 0 ≤ x4 ∧ x4 < (t1.length : Int) then (wS t0 (nth t1 x4)).bind fun b13 => if ¬ (b13 = 0) then some (.inr b13) else some (.inl (x4 + 1)) else none else some (.inr 0)
noncomputable def xm (t0 : Int) (t1 : (List dP)) : Option (Int) :=
  if t0 < 0 then some 6 else if 12 < t0 then some 6 else if 40 < (t1.length : Int) then some 3 else aE (xV t0 t1) 0
noncomputable def uj (t0 : aJ) (t1 : Int) (x1 : Int) : Option (Int ⊕ Bool) :=
  if x1 < (t0.Slots.length : Int) then if 0 ≤ x1 ∧ x1 < (t0.Slots.length : Int) then if ((nth t0.Slots x1).Term).Var = t1 then some (.inr true) else some (.inl (x1 + 1)) else none else some (.inr false)
noncomputable def tn (t0 : aJ) (t1 : Int) : Option (Bool) :=
  aE (uj t0 t1) 0
noncomputable def ui (t1 : aJ) (x41 : Int) : Option (Int ⊕ Int) :=
  if x41 < t1.Vars then (tn t1 x41).bind fun b48 => if (!b48) = true then some (.inr 9) else some (.inl (x41 + 1)) else some (.inr 0)
noncomputable def yr (t0 : aq) (t1 : aJ) (x14 : Int) : Option (Int ⊕ Int) :=
  if x14 < (t1.Slots.length : Int) then if 0 ≤ x14 ∧ x14 < (t1.Slots.length : Int) then (xa t0 t1 ((nth t1.Slots x14).Node) ((nth t1.Slots x14).Attr)).bind fun b28 => if (!b28.2) = true then some (.inr 6) else if ((nth t1.Slots x14).Term).Var < (-1) then some (.inr 6) else if t1.Vars ≤ ((nth t1.Slots x14).Term).Var then some (.inr 6) else (Dl (((nth t1.Slots x14).Term).Add)).bind fun b33 => if (!b33) = true then some (.inr 6) else some (.inl (x14 + 1)) else none else ((xm t1.Vars t1.Tests).bind fun b38 => if ¬ (b38 = 0) then some b38 else aE (ui t1) 0).map .inr
noncomputable def pp (t0 : aq) (t1 : aJ) : Option (Int) :=
  (iD t0).bind fun b1 => if ¬ (b1.2 = 0) then some b1.2 else (jM t1.Graph).bind fun b4 => if ¬ (b4 = 0) then some b4 else (pn t0 t1.Graph).bind fun b7 => if (!b7) = true then some 13 else if t1.Vars < 0 then some 6 else if 12 < t1.Vars then some 6 else if 10 < (t1.Slots.length : Int) then some 3 else if 10 < (t1.Tests.length : Int) then some 3 else aE (yr t0 t1) 0
noncomputable def yf (x13 : Int) (v25 : Unit) : Option (Int ⊕ Int) :=
  some (.inl (x13 + 1))
noncomputable def tZ (t1 : aJ) (t2 : Int) (x13 : Int) : Option (Int ⊕ Int) :=
  if x13 < t2 then if 0 ≤ x13 ∧ x13 < (t1.Slots.length : Int) then if (nth t1.Slots x13).Node = (nth t1.Slots t2).Node then if (nth t1.Slots x13).Attr = (nth t1.Slots t2).Attr then some (.inr 5) else yf x13 () else yf x13 () else none else some (.inr 0)
noncomputable def xc (t0 : aq) (t1 : aJ) (t2 : Int) : Option (Int) :=
  if 0 ≤ t2 ∧ t2 < (t1.Slots.length : Int) then if (nth t1.Slots t2).Node < 0 then some 6 else if (t1.Graph.Nodes.length : Int) ≤ (nth t1.Slots t2).Node then some 6 else if 0 ≤ (nth t1.Slots t2).Node ∧ (nth t1.Slots t2).Node < (t1.Graph.Nodes.length : Int) then (jL t0 (nth t1.Graph.Nodes ((nth t1.Slots t2).Node))).bind fun b5 => if (nth t1.Slots t2).Attr < 0 then some 6 else if (b5.1.length : Int) ≤ (nth t1.Slots t2).Attr then some 6 else if ((nth t1.Slots t2).Term).Var < (-1) then some 6 else if t1.Vars ≤ ((nth t1.Slots t2).Term).Var then some 6 else if ((nth t1.Slots t2).Term).Add < (-1000000) then some 6 else if 1000000 < ((nth t1.Slots t2).Term).Add then some 6 else aE (tZ t1 t2) 0 else none else none
noncomputable def yw (t0 : aq) (t1 : be) (x10 : Int) : Option (Int ⊕ Int) :=
  if x10 < (t1.Right.Slots.length : Int) then (xc t0 t1.Right x10).bind fun b17 => if ¬ (b17 = 0) then some (.inr b17) else some (.inl (x10 + 1)) else some (.inr 0)
noncomputable def xp (t0 : aq) (t1 : be) : Option (Int) :=
  (jM t1.Right.Graph).bind fun b1 => if ¬ (b1 = 0) then some b1 else (pn t0 t1.Right.Graph).bind fun b4 => if (!b4) = true then some 13 else if ¬ (t1.Right.Vars = t1.Left.Vars) then some 1 else if 0 < (t1.Right.Tests.length : Int) then some 1 else if 10 < (t1.Right.Slots.length : Int) then some 3 else aE (yw t0 t1) 0
noncomputable def yW (x1 : Int) (v20 : Unit) : Option (Int ⊕ Int) :=
  some (.inl (x1 + 1))
noncomputable def ME (t0 : (List Int)) (t1 : Int) (x1 : Int) : Option (Int ⊕ Int) :=
  if x1 < (t0.length : Int) then if 0 ≤ x1 ∧ x1 < (t0.length : Int) then if (nth t0 x1) < 0 then some (.inr 6) else if t1 ≤ (nth t0 x1) then some (.inr 6) else if 0 < x1 then if 0 ≤ x1 - 1 ∧ x1 - 1 < (t0.length : Int) then if (nth t0 x1) ≤ (nth t0 (x1 - 1)) then some (.inr 12) else yW x1 () else none else yW x1 () else none else some (.inr 0)
noncomputable def ug (t0 : (List Int)) (t1 : Int) : Option (Int) :=
  aE (ME t0 t1) 0
noncomputable def xx (t0 : (List Int)) (t1 : Int) (x1 : Int) : Option (Int ⊕ Bool) :=
  if x1 < (t0.length : Int) then if 0 ≤ x1 ∧ x1 < (t0.length : Int) then if (nth t0 x1) = t1 then some (.inr true) else some (.inl (x1 + 1)) else none else some (.inr false)
noncomputable def kJ (t0 : (List Int)) (t1 : Int) : Option (Bool) :=
  aE (xx t0 t1) 0
noncomputable def pV (t0 : ar) (t1 : cM) (x7 : Int) : Option (Int ⊕ Int) :=
  if x7 < (t1.Edges.length : Int) then if 0 ≤ x7 ∧ x7 < (t1.Edges.length : Int) then if 0 ≤ (nth t1.Edges x7) ∧ (nth t1.Edges x7) < (t0.Edges.length : Int) then (kJ t1.Nodes ((nth t0.Edges (nth t1.Edges x7)).From)).bind fun b21 => if (!b21) = true then some (.inr 14) else (kJ t1.Nodes ((nth t0.Edges (nth t1.Edges x7)).To)).bind fun b24 => if (!b24) = true then some (.inr 14) else some (.inl (x7 + 1)) else none else none else some (.inr 0)
noncomputable def ni (t0 : ar) (t1 : cM) : Option (Int) :=
  (ug t1.Nodes (t0.Nodes.length : Int)).bind fun b1 => if ¬ (b1 = 0) then some b1 else (ug t1.Edges (t0.Edges.length : Int)).bind fun b4 => if ¬ (b4 = 0) then some b4 else aE (pV t0 t1) 0
noncomputable def nj (t0 : ar) (t1 : cM) : Option (Int) :=
  (jM t0).bind fun b1 => if ¬ (b1 = 0) then some b1 else (ni t0 t1).bind fun b4 => some b4
noncomputable def xZ (t0 : (List Int)) (t1 : Int) (x1 : Int) : Option (Int ⊕ Int) :=
  if x1 < (t0.length : Int) then if 0 ≤ x1 ∧ x1 < (t0.length : Int) then if (nth t0 x1) = t1 then some (.inr x1) else some (.inl (x1 + 1)) else none else some (.inr (-1))
noncomputable def pm (t0 : (List Int)) (t1 : Int) : Option (Int) :=
  aE (xZ t0 t1) 0
noncomputable def lR (t0 : ar) (t1 : cM) (x4 : (List Int) × Int) (x15 : (List ba) × Int) : Option (((List ba) × Int) ⊕ (ar × aS × Int)) :=
  if x15.2 < (t1.Edges.length : Int) then if 0 ≤ x15.2 ∧ x15.2 < (t1.Edges.length : Int) then if 0 ≤ (nth t1.Edges x15.2) ∧ (nth t1.Edges x15.2) < (t0.Edges.length : Int) then (pm t1.Nodes ((nth t0.Edges (nth t1.Edges x15.2)).From)).bind fun b27 => (pm t1.Nodes ((nth t0.Edges (nth t1.Edges x15.2)).To)).bind fun b29 => if (x15.1.length + 1) * 24 ≤ 140737488355328 then some (.inl ((x15.1 ++ [(ba.mk ((nth t0.Edges (nth t1.Edges x15.2)).Type_) b27 b29)]), x15.2 + 1)) else none else none else none else (if t1.Nodes.length * 8 ≤ 140737488355328 then if t1.Edges.length * 8 ≤ 140737488355328 then some ((ar.mk x4.1 x15.1), (aS.mk t1.Nodes t1.Edges), 0) else none else none).map .inr
noncomputable def lO (t0 : ar) (t1 : cM) (x4 : (List Int) × Int) : Option (((List Int) × Int) ⊕ (ar × aS × Int)) :=
  if x4.2 < (t1.Nodes.length : Int) then if 0 ≤ x4.2 ∧ x4.2 < (t1.Nodes.length : Int) then if 0 ≤ (nth t1.Nodes x4.2) ∧ (nth t1.Nodes x4.2) < (t0.Nodes.length : Int) then if (x4.1.length + 1) * 8 ≤ 140737488355328 then some (.inl ((x4.1 ++ [(nth t0.Nodes (nth t1.Nodes x4.2))]), x4.2 + 1)) else none else none else none else (aE (lR t0 t1 x4) ([], 0)).map .inr
noncomputable def lJ (t0 : ar) (t1 : cM) : Option (ar × aS × Int) :=
  (nj t0 t1).bind fun b1 => if ¬ (b1 = 0) then some ((ar.mk [] []), (aS.mk [] []), b1) else aE (lO t0 t1) ([], 0)
noncomputable def ue (t0 : ar) (t1 : ar) (t2 : aS) (x27 : Int) : Option (Int ⊕ Int) :=
  if x27 < (t0.Edges.length : Int) then if 0 ≤ x27 ∧ x27 < (t2.Edges.length : Int) then if (nth t2.Edges x27) < 0 then some (.inr 6) else if (t1.Edges.length : Int) ≤ (nth t2.Edges x27) then some (.inr 6) else if 0 ≤ x27 ∧ x27 < (t0.Edges.length : Int) then if 0 ≤ (nth t2.Edges x27) ∧ (nth t2.Edges x27) < (t1.Edges.length : Int) then if ¬ ((nth t0.Edges x27).Type_ = (nth t1.Edges (nth t2.Edges x27)).Type_) then some (.inr 13) else if 0 ≤ (nth t0.Edges x27).From ∧ (nth t0.Edges x27).From < (t2.Nodes.length : Int) then if ¬ ((nth t2.Nodes ((nth t0.Edges x27).From)) = (nth t1.Edges (nth t2.Edges x27)).From) then some (.inr 11) else if 0 ≤ (nth t0.Edges x27).To ∧ (nth t0.Edges x27).To < (t2.Nodes.length : Int) then if ¬ ((nth t2.Nodes ((nth t0.Edges x27).To)) = (nth t1.Edges (nth t2.Edges x27)).To) then some (.inr 11) else some (.inl (x27 + 1)) else none else none else none else none else none else some (.inr 0)
noncomputable def tP (t0 : ar) (t1 : ar) (t2 : aS) (x9 : Int) : Option (Int ⊕ Int) :=
  if x9 < (t0.Nodes.length : Int) then if 0 ≤ x9 ∧ x9 < (t2.Nodes.length : Int) then if (nth t2.Nodes x9) < 0 then some (.inr 6) else if (t1.Nodes.length : Int) ≤ (nth t2.Nodes x9) then some (.inr 6) else if 0 ≤ (nth t2.Nodes x9) ∧ (nth t2.Nodes x9) < (t1.Nodes.length : Int) then if 0 ≤ x9 ∧ x9 < (t0.Nodes.length : Int) then if ¬ ((nth t1.Nodes (nth t2.Nodes x9)) = (nth t0.Nodes x9)) then some (.inr 13) else some (.inl (x9 + 1)) else none else none else none else (aE (ue t0 t1 t2) 0).map .inr
noncomputable def pk (t0 : ar) (t1 : ar) (t2 : aS) : Option (Int) :=
  (jM t0).bind fun b1 => if ¬ (b1 = 0) then some b1 else (jM t1).bind fun b4 => if ¬ (b4 = 0) then some b4 else if ¬ ((t2.Nodes.length : Int) = (t0.Nodes.length : Int)) then some 20 else if ¬ ((t2.Edges.length : Int) = (t0.Edges.length : Int)) then some 20 else aE (tP t0 t1 t2) 0
noncomputable def CF (t0 : be) : Option (Int) :=
  (nj t0.Left.Graph t0.Keep).bind fun b1 => if ¬ (b1 = 0) then some b1 else (lJ t0.Left.Graph t0.Keep).bind fun b4 => (pk b4.1 t0.Right.Graph t0.Into).bind fun b6 => some b6
noncomputable def yS (t0 : (List Int)) (x1 : Int) (x15 : Int) : Option (Int ⊕ (Int ⊕ Bool)) :=
  if x15 < x1 then if 0 ≤ x1 ∧ x1 < (t0.length : Int) then if 0 ≤ x15 ∧ x15 < (t0.length : Int) then if (nth t0 x1) = (nth t0 x15) then some (.inr (.inr false)) else some (.inl (x15 + 1)) else none else none else some (.inr (.inl (x1 + 1)))
noncomputable def yK (t0 : (List Int)) (x1 : Int) : Option (Int ⊕ Bool) :=
  if x1 < (t0.length : Int) then aE (yS t0 x1) 0 else some (.inr true)
noncomputable def nE (t0 : (List Int)) : Option (Bool) :=
  aE (yK t0) 0
noncomputable def Lf (t0 : (List Int)) (t1 : Int) (x1 : Int) : Option (Int ⊕ Bool) :=
  if x1 < (t0.length : Int) then if 0 ≤ x1 ∧ x1 < (t0.length : Int) then if (nth t0 x1) = t1 then some (.inr true) else some (.inl (x1 + 1)) else none else some (.inr false)
noncomputable def wU (t0 : (List Int)) (t1 : Int) : Option (Bool) :=
  aE (Lf t0 t1) 0
noncomputable def ye (x1 : (List Int) × Int) (v14 : (List Int)) : Option (((List Int) × Int) ⊕ (List Int)) :=
  some (.inl (v14, x1.2 + 1))
noncomputable def xP (t0 : Int) (t1 : (List Int)) (x1 : (List Int) × Int) : Option (((List Int) × Int) ⊕ (List Int)) :=
  if x1.2 < t0 then (wU t1 x1.2).bind fun b10 => if (!b10) = true then if (x1.1.length + 1) * 8 ≤ 140737488355328 then ye x1 (x1.1 ++ [x1.2]) else none else ye x1 x1.1 else some (.inr x1.1)
noncomputable def mX (t0 : Int) (t1 : (List Int)) : Option ((List Int)) :=
  aE (xP t0 t1) ([], 0)
noncomputable def tK (t0 : be) : Option ((List Int) × (List Int)) :=
  (mX (t0.Right.Graph.Nodes.length : Int) t0.Into.Nodes).bind fun b1 => (mX (t0.Right.Graph.Edges.length : Int) t0.Into.Edges).bind fun b3 => some (b1, b3)
noncomputable def lK (q_ref04_Below1 : aq → Int → Int → Option Bool) (t0 : aq) (t1 : Int) (t2 : Int) : Option (Bool) :=
  if t1 = t2 then some true else if 0 ≤ t1 then if 0 ≤ t1 ∧ t1 < (t0.Nodes.length : Int) then (q_ref04_Below1 t0 ((nth t0.Nodes t1).Parent) t2).bind fun b4 => some b4 else none else some false
noncomputable def ib : Nat → (aq → Int → Int → Option Bool)
  | 0 => (fun _ _ _ => none)
  | n + 1 => (fun t0 t1 t2 => lK (ib n) t0 t1 t2)
noncomputable def nr (t0 : aq) (t1 : Int) (t2 : Int) : Option (Bool) := Ev fun n => (ib n) t0 t1 t2
noncomputable def kK (t0 : aq) (t1 : Int) (t2 : Int) (t3 : Int) : Option (Bool) :=
  (lD t0 t2 t3).bind fun b1 => if ¬ (b1 = 0) then some false else (some (bb ((t0.Edges.length : Int) - 1))).bind fun b4 => (fk t1 0 b4).bind fun b6 => if (!b6) = true then some false else if 0 ≤ t1 ∧ t1 < (t0.Edges.length : Int) then (nr t0 t2 ((nth t0.Edges t1).From)).bind fun b10 => if b10 = true then (nr t0 t3 ((nth t0.Edges t1).To)).bind fun b13 => some b13 else some false else none
noncomputable def qw (t0 : aq) (t1 : ar) (t3 : (List Int)) (x15 : Int) : Option (Int ⊕ Bool) :=
  if x15 < (t3.length : Int) then if 0 ≤ x15 ∧ x15 < (t3.length : Int) then if 0 ≤ (nth t3 x15) ∧ (nth t3 x15) < (t1.Edges.length : Int) then if 0 ≤ (nth t1.Edges (nth t3 x15)).From ∧ (nth t1.Edges (nth t3 x15)).From < (t1.Nodes.length : Int) then if 0 ≤ (nth t1.Edges (nth t3 x15)).To ∧ (nth t1.Edges (nth t3 x15)).To < (t1.Nodes.length : Int) then (kK t0 ((nth t1.Edges (nth t3 x15)).Type_) (nth t1.Nodes ((nth t1.Edges (nth t3 x15)).From)) (nth t1.Nodes ((nth t1.Edges (nth t3 x15)).To))).bind fun b30 => if (!b30) = true then some (.inr false) else some (.inl (x15 + 1)) else none else none else none else none else some (.inr true)
noncomputable def ul (t0 : aq) (t1 : ar) (t2 : (List Int)) (t3 : (List Int)) (x1 : Int) : Option (Int ⊕ Bool) :=
  if x1 < (t2.length : Int) then if 0 ≤ x1 ∧ x1 < (t2.length : Int) then if 0 ≤ (nth t2 x1) ∧ (nth t2 x1) < (t1.Nodes.length : Int) then if 0 ≤ (nth t1.Nodes (nth t2 x1)) ∧ (nth t1.Nodes (nth t2 x1)) < (t0.Nodes.length : Int) then if ((nth t0.Nodes (nth t1.Nodes (nth t2 x1))).Abstract) = true then some (.inr false) else some (.inl (x1 + 1)) else none else none else none else (aE (qw t0 t1 t3) 0).map .inr
noncomputable def xy (t0 : aq) (t1 : ar) (t2 : (List Int)) (t3 : (List Int)) : Option (Bool) :=
  aE (ul t0 t1 t2 t3) 0
noncomputable def pw (t0 : az) : Option (Bool) :=
  (some (bb ((t0.Map.Nodes.length : Int) + (t0.Map.Edges.length : Int)))).bind fun b1 => (some (bb (b1 + (t0.Pattern.Graph.Nodes.length : Int)))).bind fun b3 => (some (bb (b3 + (t0.Pattern.Graph.Edges.length : Int)))).bind fun b5 => if b5 = 0 then (some (bb ((t0.Pattern.Slots.length : Int) + (t0.Pattern.Tests.length : Int)))).bind fun b8 => if b8 = 0 then some (decide (t0.Pattern.Vars = 0)) else some false else some false
noncomputable def yu (t0 : az) (v13 : Bool) : Option Bool :=
  if v13 = true then if 0 < (t0.Kids.length : Int) then (pw t0).bind fun b16 => some b16 else some false else if t0.Kind = 5 then some (decide ((t0.Kids.length : Int) = 1)) else some false
noncomputable def CP (t0 : az) : Option (Bool) :=
  if t0.Kind = 1 then if (t0.Kids.length : Int) = 0 then (pw t0).bind fun b3 => some b3 else some false else if t0.Kind = 2 then if (t0.Kids.length : Int) = 1 then (pw t0).bind fun b7 => some b7 else some false else if t0.Kind = 3 then yu t0 (decide (t0.Kind = 3)) else yu t0 (decide (t0.Kind = 4))
noncomputable def qB (q_ref22_allRight : az → Option Bool) (t0 : az) (x4 : Int) : Option (Int ⊕ Bool) :=
  if x4 < (t0.Kids.length : Int) then if 0 ≤ x4 ∧ x4 < (t0.Kids.length : Int) then (q_ref22_allRight (nth t0.Kids x4)).bind fun b13 => if (!b13) = true then some (.inr false) else some (.inl (x4 + 1)) else none else some (.inr true)
noncomputable def nS (q_ref22_allRight : az → Option Bool) (t0 : az) : Option (Bool) :=
  (CP t0).bind fun b1 => if (!b1) = true then some false else aE (qB q_ref22_allRight t0) 0
noncomputable def gw : Nat → (az → Option Bool)
  | 0 => (fun _ => none)
  | n + 1 => (fun t0 => nS (gw n) t0)
noncomputable def DA (t0 : az) : Option (Bool) := Ev fun n => (gw n) t0
noncomputable def DW (x1 : Int × Int × Int) (v20 : Int) : Option (Int × Int) :=
  some (x1.1, v20)
noncomputable def uy (q_ref22_Measure : az → Option (Int × Int)) (t0 : az) (x1 : Int × Int × Int) : Option ((Int × Int × Int) ⊕ (Int × Int)) :=
  if x1.2.2 < (t0.Kids.length : Int) then if 0 ≤ x1.2.2 ∧ x1.2.2 < (t0.Kids.length : Int) then (q_ref22_Measure (nth t0.Kids x1.2.2)).bind fun b11 => (some (bb (x1.1 + b11.1))).bind fun b13 => some (.inl (b13, (if x1.2.1 < b11.2 then b11.2 else x1.2.1), x1.2.2 + 1)) else none else (if t0.Kind = 5 then (some (bb (x1.2.1 + 1))).bind fun b18 => DW x1 b18 else DW x1 x1.2.1).map .inr
noncomputable def lM (q_ref22_Measure : az → Option (Int × Int)) (t0 : az) : Option (Int × Int) :=
  aE (uy q_ref22_Measure t0) (1, 0, 0)
noncomputable def ig : Nat → (az → Option (Int × Int))
  | 0 => (fun _ => none)
  | n + 1 => (fun t0 => lM (ig n) t0)
noncomputable def xL (t0 : az) : Option (Int × Int) := Ev fun n => (ig n) t0
noncomputable def xn (t0 : az) : Option (Int) :=
  (DA t0).bind fun b1 => if (!b1) = true then some 1 else (xL t0).bind fun b4 => if 12 < b4.1 then some 3 else if 3 < b4.2 then some 3 else some 0
noncomputable def M7 (t0 : aJ) (t1 : Int) (x1 : Int) : Option (Int ⊕ Bool) :=
  if x1 < (t0.Slots.length : Int) then if 0 ≤ x1 ∧ x1 < (t0.Slots.length : Int) then if ((nth t0.Slots x1).Term).Var = t1 then some (.inr true) else some (.inl (x1 + 1)) else none else some (.inr false)
noncomputable def D1 (t0 : aJ) (t1 : Int) : Option (Bool) :=
  aE (M7 t0 t1) 0
noncomputable def yc (b2 : Int) (t2 : aJ) (x5 : Int) : Option (Int ⊕ Int) :=
  if x5 < t2.Vars then (D1 t2 x5).bind fun b14 => if (!b14) = true then some (.inr b2) else some (.inl (x5 + 1)) else some (.inr 0)
noncomputable def sZ (t0 : aq) (t1 : Int) (t2 : aJ) : Option (Int) :=
  if t2.Vars < t1 then some 20 else (pp t0 t2).bind fun b2 => if ¬ (b2 = 9) then some b2 else aE (yc b2 t2) t1
noncomputable def yp (t0 : ar) (t1 : ar) (t2 : aS) : Option (Bool) :=
  (pk t0 t1 t2).bind fun b1 => if b1 = 0 then (nE t2.Nodes).bind fun b4 => if b4 = true then (nE t2.Edges).bind fun b7 => some b7 else some false else some false
noncomputable def tX (q_ref22_over : aq → aJ → az → Option Int) (t0 : aq) (t2 : az) (v25 : aJ) (x26 : Int) : Option (Int ⊕ Int) :=
  if x26 < (t2.Kids.length : Int) then if 0 ≤ x26 ∧ x26 < (t2.Kids.length : Int) then (q_ref22_over t0 v25 (nth t2.Kids x26)).bind fun b35 => if ¬ (b35 = 0) then some (.inr b35) else some (.inl (x26 + 1)) else none else some (.inr 0)
noncomputable def pY (q_ref22_over : aq → aJ → az → Option Int) (t0 : aq) (t2 : az) (v25 : aJ) : Option Int :=
  aE (tX q_ref22_over t0 t2 v25) 0
noncomputable def nu (q_ref22_over : aq → aJ → az → Option Int) (t0 : aq) (t1 : aJ) (t2 : az) : Option (Int) :=
  if t2.Kind = 5 then (sZ t0 t1.Vars t2.Pattern).bind fun b2 => if ¬ (b2 = 0) then some b2 else (pk t1.Graph t2.Pattern.Graph t2.Map).bind fun b5 => if ¬ (b5 = 0) then some b5 else (yp t1.Graph t2.Pattern.Graph t2.Map).bind fun b8 => if (!b8) = true then some 1 else pY q_ref22_over t0 t2 t2.Pattern else pY q_ref22_over t0 t2 t1
noncomputable def j9 : Nat → (aq → aJ → az → Option Int)
  | 0 => (fun _ _ _ => none)
  | n + 1 => (fun t0 t1 t2 => nu (j9 n) t0 t1 t2)
noncomputable def CE (t0 : aq) (t1 : aJ) (t2 : az) : Option (Int) := Ev fun n => (j9 n) t0 t1 t2
noncomputable def xo (t0 : aq) (t1 : aJ) (t2 : az) : Option (Int) :=
  (pp t0 t1).bind fun b1 => if ¬ (b1 = 0) then some b1 else (xn t2).bind fun b4 => if ¬ (b4 = 0) then some b4 else (CE t0 t1 t2).bind fun b7 => some b7
noncomputable def pq (t0 : aq) (t1 : be) : Option (Int) :=
  (iD t0).bind fun b1 => if ¬ (b1.2 = 0) then some b1.2 else (gP t1.Name).bind fun b4 => if (!b4) = true then some 2 else (pp t0 t1.Left).bind fun b7 => if ¬ (b7 = 0) then some b7 else (xp t0 t1).bind fun b10 => if ¬ (b10 = 0) then some b10 else (CF t1).bind fun b13 => if ¬ (b13 = 0) then some b13 else (nE t1.Into.Nodes).bind fun b16 => if (!b16) = true then some 11 else (nE t1.Into.Edges).bind fun b19 => if (!b19) = true then some 11 else (tK t1).bind fun b22 => (xy t0 t1.Right.Graph b22.1 b22.2).bind fun b24 => if (!b24) = true then some 13 else (xo t0 t1.Left t1.Condition).bind fun b27 => some b27
noncomputable def xO (t0 : be) : Option ((List Int) × (List Int)) :=
  (mX (t0.Left.Graph.Nodes.length : Int) t0.Keep.Nodes).bind fun b1 => (mX (t0.Left.Graph.Edges.length : Int) t0.Keep.Edges).bind fun b3 => some (b1, b3)
noncomputable def xN (t0 : aq) (t1 : be) : Option ((List Int) × (List Int) × Int) :=
  (pq t0 t1).bind fun b1 => if ¬ (b1 = 0) then some ([], [], b1) else (xO t1).bind fun b4 => some (b4.1, b4.2, 0)
noncomputable def xR (t0 : aq) (t1 : Int) (x1 : Int) : Option (Int ⊕ Bool) :=
  if x1 < (t0.Nodes.length : Int) then if 0 ≤ x1 ∧ x1 < (t0.Nodes.length : Int) then if (nth t0.Nodes x1).Parent = t1 then some (.inr false) else some (.inl (x1 + 1)) else none else some (.inr true)
noncomputable def xd (t0 : aq) (t1 : Int) : Option (Bool) :=
  aE (xR t0 t1) 0
noncomputable def xM (t0 : aq) (t1 : be) : Option ((List Int) × (List Int) × Int) :=
  (pq t0 t1).bind fun b1 => if ¬ (b1 = 0) then some ([], [], b1) else (tK t1).bind fun b4 => some (b4.1, b4.2, 0)
noncomputable def uB (b54 : (List Int) × (List Int) × Int) (t0 : aq) (t1 : be) (x72 : (List Int) × Int) : Option (((List Int) × Int) ⊕ ((List Int) × Int)) :=
  if x72.2 < (b54.2.1.length : Int) then if 0 ≤ x72.2 ∧ x72.2 < (b54.2.1.length : Int) then if 0 ≤ (nth b54.2.1 x72.2) ∧ (nth b54.2.1 x72.2) < (t1.Right.Graph.Edges.length : Int) then (some (bb ((t0.Nodes.length : Int) + ((nth t1.Right.Graph.Edges (nth b54.2.1 x72.2)).Type_)))).bind fun b85 => if 0 ≤ b85 ∧ b85 < (x72.1.length : Int) then (some (bb ((nth x72.1 b85) + 1))).bind fun b88 => some (.inl ((x72.1.set b85.toNat b88), x72.2 + 1)) else none else none else none else some (.inr (x72.1, 0))
noncomputable def uA (b54 : (List Int) × (List Int) × Int) (t0 : aq) (t1 : be) (x56 : (List Int) × Int) : Option (((List Int) × Int) ⊕ ((List Int) × Int)) :=
  if x56.2 < (b54.1.length : Int) then if 0 ≤ x56.2 ∧ x56.2 < (b54.1.length : Int) then if 0 ≤ (nth b54.1 x56.2) ∧ (nth b54.1 x56.2) < (t1.Right.Graph.Nodes.length : Int) then if 0 ≤ (nth t1.Right.Graph.Nodes (nth b54.1 x56.2)) ∧ (nth t1.Right.Graph.Nodes (nth b54.1 x56.2)) < (x56.1.length : Int) then (some (bb ((nth x56.1 (nth t1.Right.Graph.Nodes (nth b54.1 x56.2))) + 1))).bind fun b68 => some (.inl ((x56.1.set (nth t1.Right.Graph.Nodes (nth b54.1 x56.2)).toNat b68), x56.2 + 1)) else none else none else none else (aE (uB b54 t0 t1) (x56.1, 0)).map .inr
noncomputable def uz (b10 : (List Int) × (List Int) × Int) (t0 : aq) (t1 : be) (x34 : (List Int) × Int) : Option (((List Int) × Int) ⊕ ((List Int) × Int)) :=
  if x34.2 < (b10.2.1.length : Int) then if 0 ≤ x34.2 ∧ x34.2 < (b10.2.1.length : Int) then if 0 ≤ (nth b10.2.1 x34.2) ∧ (nth b10.2.1 x34.2) < (t1.Left.Graph.Edges.length : Int) then (some (bb ((t0.Nodes.length : Int) + ((nth t1.Left.Graph.Edges (nth b10.2.1 x34.2)).Type_)))).bind fun b47 => if 0 ≤ b47 ∧ b47 < (x34.1.length : Int) then (some (bb ((nth x34.1 b47) - 1))).bind fun b50 => some (.inl ((x34.1.set b47.toNat b50), x34.2 + 1)) else none else none else none else ((xM t0 t1).bind fun b54 => aE (uA b54 t0 t1) (x34.1, 0)).map .inr
noncomputable def yE (b10 : (List Int) × (List Int) × Int) (t0 : aq) (t1 : be) (x12 : (List Int) × Int) : Option (((List Int) × Int) ⊕ ((List Int) × Int)) :=
  if x12.2 < (b10.1.length : Int) then if 0 ≤ x12.2 ∧ x12.2 < (b10.1.length : Int) then if 0 ≤ (nth b10.1 x12.2) ∧ (nth b10.1 x12.2) < (t1.Left.Graph.Nodes.length : Int) then (xd t0 (nth t1.Left.Graph.Nodes (nth b10.1 x12.2))).bind fun b26 => if (!b26) = true then some (.inr ([], 13)) else if 0 ≤ (nth t1.Left.Graph.Nodes (nth b10.1 x12.2)) ∧ (nth t1.Left.Graph.Nodes (nth b10.1 x12.2)) < (x12.1.length : Int) then (some (bb ((nth x12.1 (nth t1.Left.Graph.Nodes (nth b10.1 x12.2))) - 1))).bind fun b30 => some (.inl ((x12.1.set (nth t1.Left.Graph.Nodes (nth b10.1 x12.2)).toNat b30), x12.2 + 1)) else none else none else none else (aE (uz b10 t0 t1) (x12.1, 0)).map .inr
noncomputable def D2 (t0 : aq) (t1 : be) : Option ((List Int) × Int) :=
  (iD t0).bind fun b1 => if ¬ (b1.2 = 0) then some ([], b1.2) else (pq t0 t1).bind fun b4 => if ¬ (b4 = 0) then some ([], b4) else (some (bb ((t0.Nodes.length : Int) + (t0.Edges.length : Int)))).bind fun b7 => if 0 ≤ b7 ∧ b7 * 8 ≤ 140737488355328 then (xN t0 t1).bind fun b10 => aE (yE b10 t0 t1) ((List.replicate b7.toNat 0), 0) else none
noncomputable def yh (t0 : (List Int)) (x1 : Int × Int) : Option ((Int × Int) ⊕ Int) :=
  if x1.2 < (t0.length : Int) then if 0 ≤ x1.2 ∧ x1.2 < (t0.length : Int) then (some (bb (x1.1 + (nth t0 x1.2)))).bind fun b9 => some (.inl (b9, x1.2 + 1)) else none else some (.inr x1.1)
noncomputable def xq (t0 : (List Int)) : Option (Int) :=
  aE (yh t0) (0, 0)
noncomputable def yF (t0 : Int) : Option (Bool) :=
  if t0 < 0 then some true else some (decide (1000 < t0))
noncomputable def qh (t0 : (List Int)) (t1 : Int) : Option (Bool) :=
  if (t0.length : Int) = t1 then (gx t0 yF).bind fun b2 => some (!b2) else some false
noncomputable def lI (t0 : aq) (t1 : (List be)) (t2 : (List Int)) : Option (Bool) :=
  (fS t0 t1).bind fun b1 => if b1.2.2 = 0 then (some (bb ((t0.Nodes.length : Int) + (t0.Edges.length : Int)))).bind fun b4 => (qh t2 b4).bind fun b6 => if b6 = true then (pQ b1.1 t2).bind fun b9 => some b9 else some false else some false
noncomputable def uK (t0 : (List Int)) (t1 : (List (List Int))) (x4 : Int) (x30 : Int × Int) : Option ((Int × Int) ⊕ (Int ⊕ Bool)) :=
  if x30.2 < (t0.length : Int) then if 0 ≤ x30.2 ∧ x30.2 < (t0.length : Int) then if 0 ≤ x30.2 ∧ x30.2 < (t1.length : Int) then if 0 ≤ x4 ∧ x4 < ((nth t1 x30.2).length : Int) then (some (bb ((nth t0 x30.2) * (nth (nth t1 x30.2) x4)))).bind fun b43 => (some (bb (x30.1 + b43))).bind fun b45 => some (.inl (b45, x30.2 + 1)) else none else none else none else (if x30.1 < 0 then some (.inr false) else some (.inl (x4 + 1))).map .inr
noncomputable def uC (t0 : (List Int)) (t1 : (List (List Int))) (x4 : Int) : Option (Int ⊕ Bool) :=
  if 0 ≤ (0 : Int) ∧ (0 : Int) < (t1.length : Int) then if x4 < ((nth t1 0).length : Int) then aE (uK t0 t1 x4) (0, 0) else some (.inr true) else none
noncomputable def Dm (t0 : (List Int)) (t1 : (List (List Int))) : Option (Bool) :=
  (xq t0).bind fun b1 => if b1 = 0 then some false else aE (uC t0 t1) 0
noncomputable def qH (t0 : aq) (t1 : (List be)) (t2 : (List Int)) : Option (Bool) :=
  (fS t0 t1).bind fun b1 => if b1.2.2 = 0 then (qh t2 (t1.length : Int)).bind fun b4 => if b4 = true then if 0 < (t2.length : Int) then (qi b1.1 t2).bind fun b8 => some b8 else some false else some false else some false
noncomputable def uc (x1 : (List bR) × Int) (x193 : (List db) × Int) (v213 : Unit) : Option (((List db) × Int) ⊕ aq) :=
  some (.inr (aq.mk x1.1 x193.1))
noncomputable def yo (t1 : (List dY)) (x1 : (List bR) × Int) (x193 : (List db) × Int) : Option (((List db) × Int) ⊕ aq) :=
  if x193.2 < (t1.length : Int) then if x193.2 < 5 then if 0 ≤ x193.2 ∧ x193.2 ≤ x193.2 + 1 ∧ x193.2 + 1 ≤ ((ByteArray.mk #[101, 102, 103, 104, 105]).size : Int) then if 0 ≤ x193.2 ∧ x193.2 < (t1.length : Int) then if (x1.1.length : Int) ≠ 0 then if (x193.1.length + [(db.mk (bT (ByteArray.mk #[101, 102, 103, 104, 105]) x193.2 (x193.2 + 1)) (((nth t1 x193.2).e0).tmod (x1.1.length : Int)) (((nth t1 x193.2).e1).tmod (x1.1.length : Int)) 0 (-1) 0 (-1))].length) * 64 ≤ 140737488355328 then some (.inl ((x193.1 ++ [(db.mk (bT (ByteArray.mk #[101, 102, 103, 104, 105]) x193.2 (x193.2 + 1)) (((nth t1 x193.2).e0).tmod (x1.1.length : Int)) (((nth t1 x193.2).e1).tmod (x1.1.length : Int)) 0 (-1) 0 (-1))]), x193.2 + 1)) else none else none else none else none else uc x1 x193 () else uc x1 x193 ()
noncomputable def qo (t1 : (List dY)) (x1 : (List bR) × Int) (v191 : Unit) : Option (((List bR) × Int) ⊕ aq) :=
  (aE (yo t1 x1) ([], 0)).map .inr
noncomputable def qn (x1 : (List bR) × Int) (v184 : bR) : Option (((List bR) × Int) ⊕ aq) :=
  if (x1.1.length + 1) * 56 ≤ 140737488355328 then (some (bb (x1.2 + 1))).bind fun b188 => some (.inl ((x1.1 ++ [v184]), b188)) else none
noncomputable def ub (x1 : (List bR) × Int) (v182 : bR) : Option (((List bR) × Int) ⊕ aq) :=
  qn x1 v182
noncomputable def nL (x1 : (List bR) × Int) (v162 : dY) : Option (((List bR) × Int) ⊕ aq) :=
  (some (bb (x1.2 + 1))).bind fun b163 => if 0 ≤ x1.2 ∧ x1.2 ≤ b163 ∧ b163 ≤ ((ByteArray.mk #[65, 66, 67, 68, 69, 70]).size : Int) then (some (bb (x1.2 + 1))).bind fun b166 => if b166 ≠ 0 then (some (bb (((v162.e0).tmod b166) - 1))).bind fun b169 => (some (IntKind.wrap .u8 ((v162.e0).tdiv 16))).bind fun b171 => (some (bb (x1.2 + 1))).bind fun b173 => if 0 ≤ x1.2 ∧ x1.2 ≤ b173 ∧ b173 ≤ ((ByteArray.mk #[117, 118, 119, 120, 121, 122]).size : Int) then if (v162.e1).tmod 4 = 1 then (some (IntKind.wrap .u8 ((v162.e1).tdiv 4))).bind fun b177 => (some (bb (3 + ((b177).tmod 9)))).bind fun b179 => qn x1 (bR.mk (bT (ByteArray.mk #[65, 66, 67, 68, 69, 70]) x1.2 b163) b169 (decide ((b171).tmod 4 = 3)) [(aW.mk (bT (ByteArray.mk #[117, 118, 119, 120, 121, 122]) x1.2 b173) (-3) b179 [])]) else if (v162.e1).tmod 4 = 2 then ub x1 (bR.mk (bT (ByteArray.mk #[65, 66, 67, 68, 69, 70]) x1.2 b163) b169 (decide ((b171).tmod 4 = 3)) [(aW.mk (bT (ByteArray.mk #[117, 118, 119, 120, 121, 122]) x1.2 b173) 0 1 [(ByteArray.mk #[111, 102, 102]), (ByteArray.mk #[111, 110])])]) else ub x1 (bR.mk (bT (ByteArray.mk #[65, 66, 67, 68, 69, 70]) x1.2 b163) b169 (decide ((b171).tmod 4 = 3)) []) else none else none else none
noncomputable def qm (t0 : (List dY)) (x1 : (List bR) × Int) (v137 : Unit) : Option (((List bR) × Int) ⊕ aq) :=
  if x1.2 < (t0.length : Int) then if 0 ≤ x1.2 ∧ x1.2 < (t0.length : Int) then nL x1 (nth t0 x1.2) else none else nL x1 (dY.mk 0 0)
noncomputable def xH (t0 : (List dY)) (t1 : (List dY)) (x1 : (List bR) × Int) : Option (((List bR) × Int) ⊕ aq) :=
  if x1.2 = 0 then qm t0 x1 () else if x1.2 < (t0.length : Int) then if x1.2 < 6 then qm t0 x1 () else qo t1 x1 () else qo t1 x1 ()
noncomputable def sN (t0 : (List dY)) (t1 : (List dY)) : Option (aq) :=
  aE (xH t0 t1) ([], 0)
noncomputable def uh (x1 : (List Int) × Int) (v16 : (List Int)) : Option (((List Int) × Int) ⊕ (List Int)) :=
  some (.inl (v16, x1.2 + 1))
noncomputable def y8 (t0 : aq) (t1 : ar) (t2 : Int) (x1 : (List Int) × Int) : Option (((List Int) × Int) ⊕ (List Int)) :=
  if x1.2 < (t1.Nodes.length : Int) then if 0 ≤ x1.2 ∧ x1.2 < (t1.Nodes.length : Int) then (nr t0 (nth t1.Nodes x1.2) t2).bind fun b12 => if b12 = true then if (x1.1.length + 1) * 8 ≤ 140737488355328 then uh x1 (x1.1 ++ [x1.2]) else none else uh x1 x1.1 else none else some (.inr x1.1)
noncomputable def po (t0 : aq) (t1 : ar) (t2 : Int) : Option ((List Int)) :=
  aE (y8 t0 t1 t2) ([], 0)
noncomputable def tR (x1 : (List Int) × Int) (v19 : (List Int)) : Option (((List Int) × Int) ⊕ ar) :=
  some (.inl (v19, x1.2 + 1))
noncomputable def tQ (x1 : (List Int) × Int) (v16 : Unit) : Option (((List Int) × Int) ⊕ ar) :=
  if (x1.1.length + 1) * 8 ≤ 140737488355328 then tR x1 (x1.1 ++ [x1.2]) else none
noncomputable def pW (x23 : (List Int) × Int) (x44 : (List ba) × Int) (v91 : Unit) : Option (((List ba) × Int) ⊕ ar) :=
  some (.inr (ar.mk x23.1 x44.1))
noncomputable def tT (x44 : (List ba) × Int) (v87 : (List ba)) : Option (((List ba) × Int) ⊕ ar) :=
  some (.inl (v87, x44.2 + 1))
noncomputable def tS (x44 : (List ba) × Int) (v85 : Unit) : Option (((List ba) × Int) ⊕ ar) :=
  tT x44 x44.1
noncomputable def y6 (t0 : aq) (t1 : g9) (x23 : (List Int) × Int) (x44 : (List ba) × Int) : Option (((List ba) × Int) ⊕ ar) :=
  if x44.2 < (t1.Edges.length : Int) then if x44.2 < 10 then if 0 < (t0.Edges.length : Int) then if 0 ≤ x44.2 ∧ x44.2 < (t1.Edges.length : Int) then if (t0.Edges.length : Int) ≠ 0 then if 0 ≤ ((nth t1.Edges x44.2).e0).tmod (t0.Edges.length : Int) ∧ ((nth t1.Edges x44.2).e0).tmod (t0.Edges.length : Int) < (t0.Edges.length : Int) then (po t0 (ar.mk x23.1 x44.1) ((nth t0.Edges (((nth t1.Edges x44.2).e0).tmod (t0.Edges.length : Int))).From)).bind fun b74 => (po t0 (ar.mk x23.1 x44.1) ((nth t0.Edges (((nth t1.Edges x44.2).e0).tmod (t0.Edges.length : Int))).To)).bind fun b76 => if 0 < (b74.length : Int) then if 0 < (b76.length : Int) then if (b74.length : Int) ≠ 0 then if 0 ≤ ((nth t1.Edges x44.2).e1).tmod (b74.length : Int) ∧ ((nth t1.Edges x44.2).e1).tmod (b74.length : Int) < (b74.length : Int) then if (b76.length : Int) ≠ 0 then if 0 ≤ ((nth t1.Edges x44.2).e2).tmod (b76.length : Int) ∧ ((nth t1.Edges x44.2).e2).tmod (b76.length : Int) < (b76.length : Int) then if (x44.1.length + 1) * 24 ≤ 140737488355328 then tT x44 (x44.1 ++ [(ba.mk (((nth t1.Edges x44.2).e0).tmod (t0.Edges.length : Int)) (nth b74 (((nth t1.Edges x44.2).e1).tmod (b74.length : Int))) (nth b76 (((nth t1.Edges x44.2).e2).tmod (b76.length : Int))))]) else none else none else none else none else none else tS x44 () else tS x44 () else none else none else none else pW x23 x44 () else pW x23 x44 () else pW x23 x44 ()
noncomputable def nF (t0 : aq) (t1 : g9) (x23 : (List Int) × Int) (v42 : Unit) : Option (((List Int) × Int) ⊕ ar) :=
  (aE (y6 t0 t1 x23) ([], 0)).map .inr
noncomputable def y5 (t0 : aq) (t1 : g9) (x1 : (List Int) × Int) (x23 : (List Int) × Int) : Option (((List Int) × Int) ⊕ ar) :=
  if x23.2 < (t1.Nodes.length : Int) then if x23.2 < 8 then if 0 < (x1.1.length : Int) then if 0 ≤ x23.2 ∧ x23.2 < (t1.Nodes.length : Int) then if (x1.1.length : Int) ≠ 0 then if 0 ≤ ((nth t1.Nodes x23.2)).tmod (x1.1.length : Int) ∧ ((nth t1.Nodes x23.2)).tmod (x1.1.length : Int) < (x1.1.length : Int) then if (x23.1.length + 1) * 8 ≤ 140737488355328 then some (.inl ((x23.1 ++ [(nth x1.1 (((nth t1.Nodes x23.2)).tmod (x1.1.length : Int)))]), x23.2 + 1)) else none else none else none else none else nF t0 t1 x23 () else nF t0 t1 x23 () else nF t0 t1 x23 ()
noncomputable def xJ (t0 : aq) (t1 : g9) (t2 : Bool) (x1 : (List Int) × Int) : Option (((List Int) × Int) ⊕ ar) :=
  if x1.2 < (t0.Nodes.length : Int) then if t2 = true then tQ x1 () else if 0 ≤ x1.2 ∧ x1.2 < (t0.Nodes.length : Int) then if (!((nth t0.Nodes x1.2).Abstract)) = true then tQ x1 () else tR x1 x1.1 else none else (aE (y5 t0 t1 x1) ([], 0)).map .inr
noncomputable def sP (t0 : aq) (t1 : g9) (t2 : Bool) : Option (ar) :=
  aE (xJ t0 t1 t2) ([], 0)
noncomputable def ql (t0 : Int) (t1 : Int) : Option (Int) :=
  if t1 ≠ 0 then (some (bb ((t0).tmod t1 + t1))).bind fun b2 => some ((b2).tmod t1) else none
noncomputable def sM (t0 : Int) (t1 : iX) : Option (dP) :=
  (ql t1.e0 4).bind fun b1 => (some (IntKind.wrap .i64 ((b1).tdiv 3))).bind fun b3 => (some (bb (1 + b3))).bind fun b5 => (some (bb (t0 + 1))).bind fun b7 => (ql t1.e1 b7).bind fun b9 => (some (bb (b9 - 1))).bind fun b11 => (some (bb (t0 + 1))).bind fun b13 => (ql t1.e2 b13).bind fun b15 => (some (bb (b15 - 1))).bind fun b17 => some (dP.mk b5 (cH.mk b11 0) (cH.mk b17 ((t1.e3).tmod 12)))
noncomputable def y9 (b18 : (List aW) × Int) (x3 : (List fl) × Int) (x20 : (List fl) × Int) : Option (((List fl) × Int) ⊕ (((List fl) × Int) ⊕ aJ)) :=
  if x20.2 < (b18.1.length : Int) then if (x20.1.length + 1) * 16 ≤ 140737488355328 then some (.inl ((x20.1 ++ [(fl.mk x3.2 x20.2)]), x20.2 + 1)) else none else some (.inr (.inl (x20.1, x3.2 + 1)))
noncomputable def tV (b1 : ar) (x30 : (List bU) × Int × Int) (x82 : (List dP) × Int) (v99 : Unit) : Option (((List dP) × Int) ⊕ aJ) :=
  some (.inr (aJ.mk b1 x30.1 x30.2.1 x82.1))
noncomputable def yb (b1 : ar) (t1 : gv) (x30 : (List bU) × Int × Int) (x82 : (List dP) × Int) : Option (((List dP) × Int) ⊕ aJ) :=
  if x82.2 < (t1.Tests.length : Int) then if x82.2 < 3 then if 0 ≤ x82.2 ∧ x82.2 < (t1.Tests.length : Int) then (sM x30.2.1 (nth t1.Tests x82.2)).bind fun b94 => if (x82.1.length + 1) * 40 ≤ 140737488355328 then some (.inl ((x82.1 ++ [b94]), x82.2 + 1)) else none else none else tV b1 x30 x82 () else tV b1 x30 x82 ()
noncomputable def nG (b1 : ar) (t1 : gv) (x30 : (List bU) × Int × Int) (v80 : Unit) : Option (((List bU) × Int × Int) ⊕ aJ) :=
  (aE (yb b1 t1 x30) ([], 0)).map .inr
noncomputable def tU (x30 : (List bU) × Int × Int) (v74 : Int × bU) : Option (((List bU) × Int × Int) ⊕ aJ) :=
  if (x30.1.length + 1) * 32 ≤ 140737488355328 then some (.inl ((x30.1 ++ [v74.2]), v74.1, x30.2.2 + 1)) else none
noncomputable def pX (x30 : (List bU) × Int × Int) (v71 : Int × bU) : Option (((List bU) × Int × Int) ⊕ aJ) :=
  if 3 < v71.1 then tU x30 (3, (bU.mk v71.2.Node v71.2.Attr (cH.mk 0 v71.2.Term.Add))) else tU x30 (v71.1, v71.2)
noncomputable def ya (b1 : ar) (t1 : gv) (x3 : (List fl) × Int) (x30 : (List bU) × Int × Int) : Option (((List bU) × Int × Int) ⊕ aJ) :=
  if x30.2.2 < (t1.Slots.length : Int) then if x30.2.2 < 4 then if 0 < (x3.1.length : Int) then if 0 ≤ x30.2.2 ∧ x30.2.2 < (t1.Slots.length : Int) then if (x3.1.length : Int) ≠ 0 then if 0 ≤ ((nth t1.Slots x30.2.2).e0).tmod (x3.1.length : Int) ∧ ((nth t1.Slots x30.2.2).e0).tmod (x3.1.length : Int) < (x3.1.length : Int) then (some (bb ((((nth t1.Slots x30.2.2).e1).tmod 5) - 1))).bind fun b59 => (some (bb ((((nth t1.Slots x30.2.2).e2).tmod 5) - 2))).bind fun b61 => if x30.2.1 ≤ b59 then (some (bb (x30.2.1 + 1))).bind fun b64 => pX x30 (b64, (bU.mk ((nth x3.1 (((nth t1.Slots x30.2.2).e0).tmod (x3.1.length : Int))).e0) ((nth x3.1 (((nth t1.Slots x30.2.2).e0).tmod (x3.1.length : Int))).e1) (cH.mk x30.2.1 0))) else pX x30 (x30.2.1, (bU.mk ((nth x3.1 (((nth t1.Slots x30.2.2).e0).tmod (x3.1.length : Int))).e0) ((nth x3.1 (((nth t1.Slots x30.2.2).e0).tmod (x3.1.length : Int))).e1) (cH.mk b59 b61))) else none else none else none else nG b1 t1 x30 () else nG b1 t1 x30 () else nG b1 t1 x30 ()
noncomputable def xK (b1 : ar) (t0 : aq) (t1 : gv) (x3 : (List fl) × Int) : Option (((List fl) × Int) ⊕ aJ) :=
  if x3.2 < (b1.Nodes.length : Int) then if 0 ≤ x3.2 ∧ x3.2 < (b1.Nodes.length : Int) then (jL t0 (nth b1.Nodes x3.2)).bind fun b18 => aE (y9 b18 x3) (x3.1, 0) else none else (aE (ya b1 t1 x3) ([], 0, 0)).map .inr
noncomputable def sQ (t0 : aq) (t1 : gv) : Option (aJ) :=
  (sP t0 t1.Graph true).bind fun b1 => aE (xK b1 t0 t1) ([], 0)
noncomputable def ux (x1 : (List Int) × Int) (v12 : (List Int)) : Option (((List Int) × Int) ⊕ (List Int)) :=
  some (.inl (v12, x1.2 + 1))
noncomputable def yq (t0 : (List Bool)) (x1 : (List Int) × Int) : Option (((List Int) × Int) ⊕ (List Int)) :=
  if x1.2 < (t0.length : Int) then if 0 ≤ x1.2 ∧ x1.2 < (t0.length : Int) then if (nth t0 x1.2) = true then if (x1.1.length + 1) * 8 ≤ 140737488355328 then ux x1 (x1.1 ++ [x1.2]) else none else ux x1 x1.1 else none else some (.inr x1.1)
noncomputable def pv (t0 : (List Bool)) : Option ((List Int)) :=
  aE (yq t0) ([], 0)
noncomputable def uf (x2 : (List Bool) × Int) (v18 : (List Bool)) : Option (((List Bool) × Int) ⊕ cM) :=
  some (.inl (v18, x2.2 + 1))
noncomputable def xX (t0 : ar) (t2 : (List Bool)) (x2 : (List Bool) × Int) : Option (((List Bool) × Int) ⊕ cM) :=
  if x2.2 < (t2.length : Int) then if 0 ≤ x2.2 ∧ x2.2 < (t2.length : Int) then if (nth t2 x2.2) = true then if 0 ≤ x2.2 ∧ x2.2 < (t0.Edges.length : Int) then if 0 ≤ (nth t0.Edges x2.2).From ∧ (nth t0.Edges x2.2).From < (x2.1.length : Int) then if 0 ≤ (nth t0.Edges x2.2).To ∧ (nth t0.Edges x2.2).To < ((x2.1.set ((nth t0.Edges x2.2).From).toNat true).length : Int) then uf x2 ((x2.1.set ((nth t0.Edges x2.2).From).toNat true).set ((nth t0.Edges x2.2).To).toNat true) else none else none else none else uf x2 x2.1 else none else ((pv x2.1).bind fun b24 => (pv t2).bind fun b26 => some (cM.mk b24 b26)).map .inr
noncomputable def sY (t0 : ar) (t1 : (List Bool)) (t2 : (List Bool)) : Option (cM) :=
  if t1.length * 1 ≤ 140737488355328 then aE (xX t0 t2) (t1, 0) else none
noncomputable def xY (t0 : ar) (t1 : Int) (x3 : (List Bool) × Int) (x17 : (List Bool) × Int) : Option (((List Bool) × Int) ⊕ cM) :=
  if x17.2 < (x17.1.length : Int) then (some (bb ((x3.1.length : Int) + x17.2))).bind fun b27 => if 0 ≤ (b27).tmod 64 then (some ((t1).fdiv (2 ^ (min ((b27).tmod 64).toNat (IntKind.bits .u64))))).bind fun b30 => if 0 ≤ x17.2 ∧ x17.2 < (x17.1.length : Int) then some (.inl ((x17.1.set x17.2.toNat (decide (fG .u64 b30 1 = 1))), x17.2 + 1)) else none else none else ((sY t0 x3.1 x17.1).bind fun b37 => some b37).map .inr
noncomputable def xI (t0 : ar) (t1 : Int) (x3 : (List Bool) × Int) : Option (((List Bool) × Int) ⊕ cM) :=
  if x3.2 < (x3.1.length : Int) then if 0 ≤ (x3.2).tmod 64 then (some ((t1).fdiv (2 ^ (min ((x3.2).tmod 64).toNat (IntKind.bits .u64))))).bind fun b12 => if 0 ≤ x3.2 ∧ x3.2 < (x3.1.length : Int) then some (.inl ((x3.1.set x3.2.toNat (decide (fG .u64 b12 1 = 1))), x3.2 + 1)) else none else none else (aE (xY t0 t1 x3) ((List.replicate (t0.Edges.length : Int).toNat false), 0)).map .inr
noncomputable def sO (t0 : ar) (t1 : Int) : Option (cM) :=
  if 0 ≤ (t0.Nodes.length : Int) ∧ (t0.Nodes.length : Int) * 1 ≤ 140737488355328 then if 0 ≤ (t0.Edges.length : Int) ∧ (t0.Edges.length : Int) * 1 ≤ 140737488355328 then aE (xI t0 t1) ((List.replicate (t0.Nodes.length : Int).toNat false), 0) else none else none
noncomputable def kO (t0 : ar) : Option (ar) :=
  if t0.Nodes.length * 8 ≤ 140737488355328 then if t0.Edges.length * 24 ≤ 140737488355328 then some t0 else none else none
noncomputable def uO (x1 : (List Int) × Int) (v12 : (List Int)) : Option (((List Int) × Int) ⊕ (List Int)) :=
  some (.inl (v12, x1.2 + 1))
noncomputable def yL (t0 : aq) (x1 : (List Int) × Int) : Option (((List Int) × Int) ⊕ (List Int)) :=
  if x1.2 < (t0.Nodes.length : Int) then if 0 ≤ x1.2 ∧ x1.2 < (t0.Nodes.length : Int) then if (!((nth t0.Nodes x1.2).Abstract)) = true then if (x1.1.length + 1) * 8 ≤ 140737488355328 then uO x1 (x1.1 ++ [x1.2]) else none else uO x1 x1.1 else none else some (.inr x1.1)
noncomputable def tY (t0 : aq) : Option ((List Int)) :=
  aE (yL t0) ([], 0)
noncomputable def nQ (x5 : (List Int) × Int) (x27 : (List ba) × Int) (v63 : Unit) : Option (((List ba) × Int) ⊕ ar) :=
  some (.inr (ar.mk x5.1 x27.1))
noncomputable def uk (x27 : (List ba) × Int) (v59 : (List ba)) : Option (((List ba) × Int) ⊕ ar) :=
  some (.inl (v59, x27.2 + 1))
noncomputable def yv (t0 : aq) (t2 : f6) (x5 : (List Int) × Int) (x27 : (List ba) × Int) : Option (((List ba) × Int) ⊕ ar) :=
  if x27.2 < (t2.Edges.length : Int) then if x27.2 < 2 then if 0 < (x5.1.length : Int) then if 0 < (t0.Edges.length : Int) then if 0 ≤ x27.2 ∧ x27.2 < (t2.Edges.length : Int) then if (t0.Edges.length : Int) ≠ 0 then if (x5.1.length : Int) ≠ 0 then if 0 ≤ (((nth t2.Edges x27.2).e1).tmod (x5.1.length : Int)) ∧ (((nth t2.Edges x27.2).e1).tmod (x5.1.length : Int)) < (x5.1.length : Int) then if 0 ≤ (((nth t2.Edges x27.2).e2).tmod (x5.1.length : Int)) ∧ (((nth t2.Edges x27.2).e2).tmod (x5.1.length : Int)) < (x5.1.length : Int) then (kK t0 (((nth t2.Edges x27.2).e0).tmod (t0.Edges.length : Int)) (nth x5.1 (((nth t2.Edges x27.2).e1).tmod (x5.1.length : Int))) (nth x5.1 (((nth t2.Edges x27.2).e2).tmod (x5.1.length : Int)))).bind fun b55 => if b55 = true then if (x27.1.length + 1) * 24 ≤ 140737488355328 then uk x27 (x27.1 ++ [(ba.mk (((nth t2.Edges x27.2).e0).tmod (t0.Edges.length : Int)) (((nth t2.Edges x27.2).e1).tmod (x5.1.length : Int)) (((nth t2.Edges x27.2).e2).tmod (x5.1.length : Int)))]) else none else uk x27 x27.1 else none else none else none else none else none else nQ x5 x27 () else nQ x5 x27 () else nQ x5 x27 () else nQ x5 x27 ()
noncomputable def nP (b1 : ar) (t0 : aq) (t2 : f6) (x5 : (List Int) × Int) (v25 : Unit) : Option (((List Int) × Int) ⊕ ar) :=
  (aE (yv t0 t2 x5) (b1.Edges, 0)).map .inr
noncomputable def yd (b1 : ar) (b3 : (List Int)) (t0 : aq) (t2 : f6) (x5 : (List Int) × Int) : Option (((List Int) × Int) ⊕ ar) :=
  if x5.2 < (t2.Nodes.length : Int) then if x5.2 < 2 then if 0 < (b3.length : Int) then if 0 ≤ x5.2 ∧ x5.2 < (t2.Nodes.length : Int) then if (b3.length : Int) ≠ 0 then if 0 ≤ ((nth t2.Nodes x5.2)).tmod (b3.length : Int) ∧ ((nth t2.Nodes x5.2)).tmod (b3.length : Int) < (b3.length : Int) then if (x5.1.length + 1) * 8 ≤ 140737488355328 then some (.inl ((x5.1 ++ [(nth b3 (((nth t2.Nodes x5.2)).tmod (b3.length : Int)))]), x5.2 + 1)) else none else none else none else none else nP b1 t0 t2 x5 () else nP b1 t0 t2 x5 () else nP b1 t0 t2 x5 ()
noncomputable def ta (t0 : aq) (t1 : ar) (t2 : f6) : Option (ar) :=
  (kO t1).bind fun b1 => (tY t0).bind fun b3 => aE (yd b1 b3 t0 t2) (b1.Nodes, 0)
noncomputable def yC (t0 : Int) (t1 : Int) (x1 : (List Int) × Int) : Option (((List Int) × Int) ⊕ (List Int)) :=
  if x1.2 < t1 then (some (bb (t0 + x1.2))).bind fun b7 => if (x1.1.length + 1) * 8 ≤ 140737488355328 then some (.inl ((x1.1 ++ [b7]), x1.2 + 1)) else none else some (.inr x1.1)
noncomputable def tI (t0 : Int) (t1 : Int) : Option ((List Int)) :=
  aE (yC t0 t1) ([], 0)
noncomputable def uJ (x3 : (List Int) × Int) (v31 : Unit) : Option (((List Int) × Int) ⊕ (List Int)) :=
  some (.inr x3.1)
noncomputable def yD (t0 : Int) (t1 : (List Int)) (x3 : (List Int) × Int) : Option (((List Int) × Int) ⊕ (List Int)) :=
  if x3.2 < t0 then if x3.2 < (t1.length : Int) then if 0 ≤ x3.2 ∧ x3.2 < (t1.length : Int) then (some (bb (t0 - x3.2))).bind fun b21 => if b21 ≠ 0 then (some (bb (x3.2 + (((nth t1 x3.2)).tmod b21)))).bind fun b24 => if 0 ≤ b24 ∧ b24 < (x3.1.length : Int) then if 0 ≤ x3.2 ∧ x3.2 < (x3.1.length : Int) then if 0 ≤ b24 ∧ b24 < ((x3.1.set x3.2.toNat (nth x3.1 b24)).length : Int) then some (.inl (((x3.1.set x3.2.toNat (nth x3.1 b24)).set b24.toNat (nth x3.1 x3.2)), x3.2 + 1)) else none else none else none else none else none else uJ x3 () else uJ x3 ()
noncomputable def pJ (t0 : Int) (t1 : (List Int)) : Option ((List Int)) :=
  (tI 0 t0).bind fun b1 => aE (yD t0 t1) (b1, 0)
noncomputable def z7 (t0 : (List Int)) (x13 : Int) (x27 : Int) : Option (Int ⊕ (Int ⊕ Int)) :=
  if x27 < x13 then if 0 ≤ x13 ∧ x13 < (t0.length : Int) then if 0 ≤ x27 ∧ x27 < (t0.length : Int) then if (nth t0 x13) = (nth t0 x27) then some (.inr (.inr 5)) else some (.inl (x27 + 1)) else none else none else some (.inr (.inl (x13 + 1)))
noncomputable def vd (t0 : (List Int)) (x13 : Int) : Option (Int ⊕ Int) :=
  if x13 < (t0.length : Int) then aE (z7 t0 x13) 0 else some (.inr 0)
noncomputable def z1 (t0 : (List Int)) (x1 : Int) : Option (Int ⊕ Int) :=
  if x1 < (t0.length : Int) then if 0 ≤ x1 ∧ x1 < (t0.length : Int) then if (nth t0 x1) < 0 then some (.inr 6) else if (t0.length : Int) ≤ (nth t0 x1) then some (.inr 6) else some (.inl (x1 + 1)) else none else (aE (vd t0) 0).map .inr
noncomputable def qA (t0 : (List Int)) : Option (Int) :=
  aE (z1 t0) 0
noncomputable def yJ (t0 : ar) (t1 : aS) (x14 : (List Int) × Int) (x26 : (List ba) × Int) : Option (((List ba) × Int) ⊕ (ar × Int)) :=
  if x26.2 < (t0.Edges.length : Int) then if 0 ≤ x26.2 ∧ x26.2 < (t0.Edges.length : Int) then if 0 ≤ x26.2 ∧ x26.2 < (t1.Edges.length : Int) then if 0 ≤ (nth t0.Edges x26.2).From ∧ (nth t0.Edges x26.2).From < (t1.Nodes.length : Int) then if 0 ≤ (nth t0.Edges x26.2).To ∧ (nth t0.Edges x26.2).To < (t1.Nodes.length : Int) then if 0 ≤ (nth t1.Edges x26.2) ∧ (nth t1.Edges x26.2) < (x26.1.length : Int) then some (.inl ((x26.1.set (nth t1.Edges x26.2).toNat (ba.mk ((nth t0.Edges x26.2).Type_) (nth t1.Nodes ((nth t0.Edges x26.2).From)) (nth t1.Nodes ((nth t0.Edges x26.2).To)))), x26.2 + 1)) else none else none else none else none else none else some (.inr ((ar.mk x14.1 x26.1), 0))
noncomputable def yI (b12 : ar) (t0 : ar) (t1 : aS) (x14 : (List Int) × Int) : Option (((List Int) × Int) ⊕ (ar × Int)) :=
  if x14.2 < (t0.Nodes.length : Int) then if 0 ≤ x14.2 ∧ x14.2 < (t1.Nodes.length : Int) then if 0 ≤ x14.2 ∧ x14.2 < (t0.Nodes.length : Int) then if 0 ≤ (nth t1.Nodes x14.2) ∧ (nth t1.Nodes x14.2) < (x14.1.length : Int) then some (.inl ((x14.1.set (nth t1.Nodes x14.2).toNat (nth t0.Nodes x14.2)), x14.2 + 1)) else none else none else none else (aE (yJ t0 t1 x14) (b12.Edges, 0)).map .inr
noncomputable def tJ (t0 : ar) (t1 : aS) : Option (ar × Int) :=
  (jM t0).bind fun b1 => if ¬ (b1 = 0) then some ((ar.mk [] []), b1) else if ¬ ((t1.Nodes.length : Int) = (t0.Nodes.length : Int)) then some ((ar.mk [] []), 20) else if ¬ ((t1.Edges.length : Int) = (t0.Edges.length : Int)) then some ((ar.mk [] []), 20) else (qA t1.Nodes).bind fun b6 => if ¬ (b6 = 0) then some ((ar.mk [] []), b6) else (qA t1.Edges).bind fun b9 => if ¬ (b9 = 0) then some ((ar.mk [] []), b9) else (kO t0).bind fun b12 => aE (yI b12 t0 t1) (b12.Nodes, 0)
noncomputable def qs (x1 : (List bU) × Int) (v69 : Unit) : Option (((List bU) × Int) ⊕ (List bU)) :=
  some (.inr x1.1)
noncomputable def qr (x1 : (List bU) × Int) (v65 : (List bU)) : Option (((List bU) × Int) ⊕ (List bU)) :=
  some (.inl (v65, x1.2 + 1))
noncomputable def qp (x44 : Bool × Int) (v55 : Bool) : Option ((Bool × Int) ⊕ (((List bU) × Int) ⊕ (List bU))) :=
  some (.inl (v55, x44.2 + 1))
noncomputable def um (x1 : (List bU) × Int) (v61 : (List bU)) : Option (((List bU) × Int) ⊕ (List bU)) :=
  qr x1 v61
noncomputable def yx (b33 : (List aW) × Int) (b42 : Int) (t1 : ar) (t3 : (List f5)) (x1 : (List bU) × Int) (x44 : Bool × Int) : Option ((Bool × Int) ⊕ (((List bU) × Int) ⊕ (List bU))) :=
  if x44.2 < (x1.1.length : Int) then if x44.1 = true then qp x44 true else if 0 ≤ x44.2 ∧ x44.2 < (x1.1.length : Int) then if (nth x1.1 x44.2).Node = (((nth t3 x1.2).e0).tmod (t1.Nodes.length : Int)) then qp x44 (decide ((nth x1.1 x44.2).Attr = (((nth t3 x1.2).e1).tmod (b33.1.length : Int)))) else qp x44 false else none else (if (!x44.1) = true then if (x1.1.length + 1) * 32 ≤ 140737488355328 then um x1 (x1.1 ++ [(bU.mk (((nth t3 x1.2).e0).tmod (t1.Nodes.length : Int)) (((nth t3 x1.2).e1).tmod (b33.1.length : Int)) (cH.mk b42 (((nth t3 x1.2).e2).tmod 3)))]) else none else um x1 x1.1).map .inr
noncomputable def yg (t0 : aq) (t1 : ar) (t2 : Int) (t3 : (List f5)) (x1 : (List bU) × Int) : Option (((List bU) × Int) ⊕ (List bU)) :=
  if x1.2 < (t3.length : Int) then if x1.2 < 3 then if 0 < (t1.Nodes.length : Int) then if 0 ≤ x1.2 ∧ x1.2 < (t3.length : Int) then if (t1.Nodes.length : Int) ≠ 0 then if 0 ≤ ((nth t3 x1.2).e0).tmod (t1.Nodes.length : Int) ∧ ((nth t3 x1.2).e0).tmod (t1.Nodes.length : Int) < (t1.Nodes.length : Int) then (jL t0 (nth t1.Nodes (((nth t3 x1.2).e0).tmod (t1.Nodes.length : Int)))).bind fun b33 => if (b33.1.length : Int) = 0 then qr x1 x1.1 else if (b33.1.length : Int) ≠ 0 then (some (IntKind.wrap .u8 (((nth t3 x1.2).e1).tdiv 16))).bind fun b37 => (some (bb (t2 + 1))).bind fun b39 => if b39 ≠ 0 then (some (bb (((b37).tmod b39) - 1))).bind fun b42 => aE (yx b33 b42 t1 t3 x1) (false, 0) else none else none else none else none else none else qs x1 () else qs x1 () else qs x1 ()
noncomputable def td (t0 : aq) (t1 : ar) (t2 : Int) (t3 : (List f5)) : Option ((List bU)) :=
  aE (yg t0 t1 t2 t3) ([], 0)
noncomputable def yn (t0 : Int) (x1 : (List Int) × Int) : Option (((List Int) × Int) ⊕ (List Int)) :=
  if x1.2 < t0 then if (x1.1.length + 1) * 8 ≤ 140737488355328 then some (.inl ((x1.1 ++ [x1.2]), x1.2 + 1)) else none else some (.inr x1.1)
noncomputable def pu (t0 : Int) : Option ((List Int)) :=
  aE (yn t0) ([], 0)
noncomputable def wK (t0 : ar) : Option (aS) :=
  (pu (t0.Nodes.length : Int)).bind fun b1 => (pu (t0.Edges.length : Int)).bind fun b3 => some (aS.mk b1 b3)
noncomputable def qv (t1 : aJ) (v12 : (List Int) × (List ba)) : Option az :=
  (wK t1.Graph).bind fun b14 => some (az.mk 2 [(az.mk 5 [(az.mk 1 [] (aS.mk [] []) (aJ.mk (ar.mk [] []) [] 0 []))] b14 (aJ.mk (ar.mk v12.1 v12.2) [] t1.Vars []))] (aS.mk [] []) (aJ.mk (ar.mk [] []) [] 0 []))
noncomputable def tp (t0 : aq) (t1 : aJ) (t2 : iB) : Option (az) :=
  (kO t1.Graph).bind fun b1 => if (t2.e0).tmod 4 = 1 then if (t0.Nodes.length : Int) ≠ 0 then if (b1.Nodes.length + 1) * 8 ≤ 140737488355328 then qv t1 ((b1.Nodes ++ [(t2.e1).tmod (t0.Nodes.length : Int)]), b1.Edges) else none else none else if (t2.e0).tmod 4 = 2 then if (b1.Nodes.length : Int) = 0 then some (az.mk 1 [] (aS.mk [] []) (aJ.mk (ar.mk [] []) [] 0 [])) else if (t0.Edges.length : Int) = 0 then some (az.mk 1 [] (aS.mk [] []) (aJ.mk (ar.mk [] []) [] 0 [])) else if (t0.Edges.length : Int) ≠ 0 then if (b1.Nodes.length : Int) ≠ 0 then if (b1.Edges.length + 1) * 24 ≤ 140737488355328 then qv t1 (b1.Nodes, (b1.Edges ++ [(ba.mk ((t2.e1).tmod (t0.Edges.length : Int)) ((t2.e2).tmod (b1.Nodes.length : Int)) ((t2.e3).tmod (b1.Nodes.length : Int)))])) else none else none else none else some (az.mk 1 [] (aS.mk [] []) (aJ.mk (ar.mk [] []) [] 0 []))
noncomputable def tc (t0 : be) : Option (be) :=
  (kO t0.Left.Graph).bind fun b1 => (kO t0.Right.Graph).bind fun b3 => if t0.Keep.Nodes.length * 8 ≤ 140737488355328 then if t0.Keep.Edges.length * 8 ≤ 140737488355328 then if t0.Into.Nodes.length * 8 ≤ 140737488355328 then if t0.Into.Edges.length * 8 ≤ 140737488355328 then some (be.mk t0.Name (aJ.mk b1 [] 0 []) (aJ.mk b3 [] 0 []) t0.Keep t0.Into t0.Injective (az.mk 1 [] (aS.mk [] []) (aJ.mk (ar.mk [] []) [] 0 []))) else none else none else none else none
noncomputable def sR (t0 : aq) (t1 : f6) : Option (be) :=
  (sQ t0 t1.Left).bind fun b1 => (sO b1.Graph t1.Keep).bind fun b3 => (lJ b1.Graph b3).bind fun b5 => (ta t0 b5.1 t1).bind fun b7 => (pJ (b7.Nodes.length : Int) t1.Order).bind fun b9 => (pJ (b7.Edges.length : Int) t1.Order).bind fun b11 => (tJ b7 (aS.mk b9 b11)).bind fun b13 => if 0 ≤ (0 : Int) ∧ (0 : Int) ≤ (b5.1.Nodes.length : Int) ∧ (b5.1.Nodes.length : Int) ≤ (b9.length : Int) then if 0 ≤ (0 : Int) ∧ (0 : Int) ≤ (b5.1.Edges.length : Int) ∧ (b5.1.Edges.length : Int) ≤ (b11.length : Int) then (td t0 b13.1 b1.Vars t1.Slots).bind fun b17 => (tp t0 b1 t1.Forbid).bind fun b19 => if t1.Plain = true then (tc (be.mk (ByteArray.mk #[114]) b1 (aJ.mk b13.1 b17 b1.Vars []) b3 (aS.mk (cut b9 0 (b5.1.Nodes.length : Int)) (cut b11 0 (b5.1.Edges.length : Int))) t1.Injective b19)).bind fun b22 => some b22 else some (be.mk (ByteArray.mk #[114]) b1 (aJ.mk b13.1 b17 b1.Vars []) b3 (aS.mk (cut b9 0 (b5.1.Nodes.length : Int)) (cut b11 0 (b5.1.Edges.length : Int))) t1.Injective b19) else none else none
noncomputable def u4 (x1 : (List be) × Int) (v18 : Unit) : Option (((List be) × Int) ⊕ (List be)) :=
  some (.inr x1.1)
noncomputable def xQ (t0 : aq) (t1 : (List f6)) (x1 : (List be) × Int) : Option (((List be) × Int) ⊕ (List be)) :=
  if x1.2 < (t1.length : Int) then if x1.2 < 6 then if 0 ≤ x1.2 ∧ x1.2 < (t1.length : Int) then (sR t0 (nth t1 x1.2)).bind fun b13 => if (x1.1.length + 1) * 512 ≤ 140737488355328 then some (.inl ((x1.1 ++ [b13]), x1.2 + 1)) else none else none else u4 x1 () else u4 x1 ()
noncomputable def sS (t0 : aq) (t1 : (List f6)) : Option ((List be)) :=
  aE (xQ t0 t1) ([], 0)
noncomputable def pG  (v4 : Unit) : Option (aq × (List be) × Bool) :=
  some ((aq.mk [] []), [], false)
noncomputable def wZ (t0 : jP) : Option (aq × (List be) × Bool) :=
  if 8 < (t0.Nodes.length : Int) then pG () else if 8 < (t0.Edges.length : Int) then pG () else if 4 < (t0.Rules.length : Int) then pG () else (sN t0.Nodes t0.Edges).bind fun b6 => (sS b6 t0.Rules).bind fun b8 => (sF b8).bind fun b10 => some (b6, b8, b10)
noncomputable def uW (x11 : (List be) × (List Int) × Int) (v28 : (List be)) : Option (((List be) × (List Int) × Int) ⊕ Bool) :=
  if (x11.2.1.length + 1) * 8 ≤ 140737488355328 then some (.inl (v28, (x11.2.1 ++ [0]), x11.2.2 + 1)) else none
noncomputable def uZ (b1 : aq × (List be) × Bool) (b33 : (List Int) × Int) (b36 : (List Int)) (t2 : Int) (x11 : (List be) × (List Int) × Int) (x38 : (List Int) × Int) : Option (((List Int) × Int) ⊕ Bool) :=
  if x38.2 < (b36.length : Int) then if 0 ≤ x38.2 ∧ x38.2 < (x38.1.length : Int) then (some (bb (1 + ((t2).tmod 8)))).bind fun b48 => (some (bb ((nth x38.1 x38.2) * b48))).bind fun b50 => some (.inl ((x38.1.set x38.2.toNat b50), x38.2 + 1)) else none else ((lI b1.1 x11.1 b33.1).bind fun b54 => if b54 = true then (lI b1.1 b1.2.1 x38.1).bind fun b57 => some b57 else some false).map .inr
noncomputable def uX (x66 : (List Int) × Int × Int) (v85 : (List Int) × Int) : Option (((List Int) × Int × Int) ⊕ Bool) :=
  some (.inl (v85.1, v85.2, x66.2.2 + 1))
noncomputable def v7 (b1 : aq × (List be) × Bool) (b61 : (List Int) × Int) (t1 : Int) (x66 : (List Int) × Int × Int) : Option (((List Int) × Int × Int) ⊕ Bool) :=
  if x66.2.2 < (b1.2.1.length : Int) then if 0 ≤ x66.2.2 then (some ((t1).fdiv (2 ^ (min x66.2.2.toNat (IntKind.bits .u8))))).bind fun b78 => if fG .u8 b78 1 = 1 then if 0 ≤ x66.2.1 ∧ x66.2.1 < (b61.1.length : Int) then if 0 ≤ x66.2.2 ∧ x66.2.2 < (x66.1.length : Int) then (some (bb (x66.2.1 + 1))).bind fun b83 => uX x66 ((x66.1.set x66.2.2.toNat (nth b61.1 x66.2.1)), b83) else none else none else uX x66 (x66.1, x66.2.1) else none else ((qH b1.1 b1.2.1 x66.1).bind fun b89 => some b89).map .inr
noncomputable def uY (b1 : aq × (List be) × Bool) (t1 : Int) (t2 : Int) (x11 : (List be) × (List Int) × Int) : Option (((List be) × (List Int) × Int) ⊕ Bool) :=
  if x11.2.2 < (b1.2.1.length : Int) then if 0 ≤ x11.2.2 ∧ x11.2.2 < (b1.2.1.length : Int) then if 0 ≤ x11.2.2 then (some ((t1).fdiv (2 ^ (min x11.2.2.toNat (IntKind.bits .u8))))).bind fun b23 => if fG .u8 b23 1 = 1 then if (x11.1.length + 1) * 512 ≤ 140737488355328 then uW x11 (x11.1 ++ [(nth b1.2.1 x11.2.2)]) else none else uW x11 x11.1 else none else none else ((jO b1.1 b1.2.1).bind fun b33 => if b33.2 = 0 then (jS b33.1).bind fun b36 => aE (uZ b1 b33 b36 t2 x11) (b36, 0) else (pP b1.1 x11.1).bind fun b61 => if ¬ (b33.2 = 10) then some (decide (¬ (b33.2 = 0))) else if ¬ (b61.2 = 0) then some (decide (¬ (b33.2 = 0))) else if ¬ ((b61.1.length : Int) = (x11.1.length : Int)) then some (decide (¬ (b33.2 = 0))) else aE (v7 b1 b61 t1) (x11.2.1, 0, 0)).map .inr
noncomputable def uw (t0 : jP) (t1 : Int) (t2 : Int) : Option (Bool) :=
  (wZ t0).bind fun b1 => (lC).bind fun b3 => if (!b3) = true then (lC).bind fun b7 => some b7 else if (!b1.2.2) = true then (lC).bind fun b9 => some b9 else aE (uY b1 t1 t2) ([], [], 0)
end Go.Proofs.YtngimdmkomkeoaaGreat.K
