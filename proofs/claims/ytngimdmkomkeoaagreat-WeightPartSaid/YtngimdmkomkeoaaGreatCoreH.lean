import Derived.Test.YtngimdmkomkeoaaGreatCoreG
import Derived.Great.BuildSlice
import Derived.Laws.MakeOwn
set_option linter.unusedVariables false
set_option linter.unusedSimpArgs false
namespace Go.Proofs.YtngimdmkomkeoaaGreat.K
open Go.RowKit
section
variable {P : Program} {c : cS} {lk : Operand → ae} {d : Option Nat} {ty : TypeId} {pos : String} {aft : Array Edge} {gd : Option (Nat × Bool)}
def io (As : List ae) : List (Nat × List ae) → List ae
  | [] => As
  | (o, Bs) :: r => io (fE As o Bs) r
inductive jm (lk : Operand → ae) (place : Nat → Option (Nat × Nat)) (n : Nat) : List (Nat × Operand) → List (Nat × List ae) → Prop
  | nil : jm lk place n [] []
  | cons {i : Nat} {x : Operand} {A : ae} {Bs : List ae} {o : Nat} {r : List (Nat × Operand)} {ps : List (Nat × List ae)} (hp : place i = some (o, Bs.length)) (hx : lk x = A) (hA : kp A Bs) (hk : ∀ k, d7 Bs k → A.keys k) (ho : Nat.ble (o + Bs.length) n = true)
      (t : jm lk place n r ps) : jm lk place n ((i, x) :: r) ((o, Bs) :: ps)
theorem xA {As Bs : List ae} {o n : Nat} (h : As.length = n) (ho : o + Bs.length ≤ n) : (fE As o Bs).length = n := by
  unfold fE; simp; omega
theorem JG {η : bA} {As Bs : List ae} {cs : Array Value} {vs : List Value} {o : Nat} (h : bw η As cs.toList) (hv : bw η Bs vs) (ho : o + Bs.length ≤ As.length) :
    bw η (fE As o Bs) ((vs.zipIdx 0).foldl (fun cs (x : Value × Nat) => cs.setIfInBounds (o + x.2) x.1) cs).toList := by
  obtain ⟨g1, g2⟩ := Great.foldl_set o vs 0 cs
  have hl := h.length
  have hvl := hv.length
  have hcl : cs.toList.length = cs.size := by simp
  refine bw.of_get (by rw [xA rfl ho]; simp [g1]; omega) fun j A v hA hvj => ?_
  have hvj' : ((vs.zipIdx 0).foldl (fun cs (x : Value × Nat) => cs.setIfInBounds (o + x.2) x.1) cs)[j]? = some v := by simpa using hvj
  rw [g2 j] at hvj'
  have hjlt := (List.getElem?_eq_some_iff.1 hA).1
  rw [xA rfl ho] at hjlt
  unfold fE at hA
  simp only [Nat.add_zero] at hvj'
  by_cases h1 : j < o
  · rw [if_neg (by omega)] at hvj'
    rw [List.append_assoc, List.getElem?_append_left (by simp; omega), List.getElem?_take] at hA
    simp [h1] at hA
    obtain ⟨u, hu, hp⟩ := h.get j A hA
    have : cs[j]? = some u := by simpa using hu
    rw [this] at hvj'; cases hvj'; exact hp
  · by_cases h2 : j < o + Bs.length
    · rw [if_pos (by omega)] at hvj'
      rw [List.append_assoc, List.getElem?_append_right (by simp; omega), List.getElem?_append_left (by simp; omega)] at hA
      have e : j - (List.take o As).length = j - o := by simp; omega
      rw [e] at hA
      obtain ⟨u, hu, hp⟩ := hv.get _ A hA
      rw [hu] at hvj'; cases hvj'; exact hp
    · rw [if_neg (by omega)] at hvj'
      rw [List.getElem?_append_right (by simp; omega), List.getElem?_drop] at hA
      have e : o + Bs.length + (j - (List.take o As ++ Bs).length) = j := by simp; omega
      rw [e] at hA
      obtain ⟨u, hu, hp⟩ := h.get j A hA
      have : cs[j]? = some u := by simpa using hu
      rw [this] at hvj'; cases hvj'; exact hp
theorem wM {η : bA} {ρo : Operand → Value} {place : Nat → Option (Nat × Nat)} {n : Nat} {parts : List (Nat × Operand)} {ps : List (Nat × List ae)} (hp : jm lk place n parts ps) :
    ∀ {As : List ae} {cs : Array Value}, As.length = n → bw η As cs.toList → (∀ i x, (i, x) ∈ parts → (lk x).p η (ρo x)) → ∃ r, Instr.fill place cs (parts.map fun x => (x.1, ρo x.2)) = some r ∧ bw η (io As ps) r.toList := by
  induction hp with
  | nil => intro As cs _ h _; exact ⟨cs, rfl, h⟩
  | @cons i x A Bs o r ps hp hx hA hk ho _ ih =>
    intro As cs hn h hv
    have ho' : o + Bs.length ≤ n := of_decide_eq_true (by simpa [Nat.ble_eq] using ho)
    have h1 := hv i x (by simp)
    rw [hx] at h1
    have h2 := hA η _ h1
    have hl := h.length
    have hl2 := h2.length
    have h3 := JG (o := o) h h2 (by omega)
    obtain ⟨res, hr, hr2⟩ := ih (xA hn ho') h3 (fun j y hy => hv j y (by simp [hy]))
    refine ⟨res, ?_, hr2⟩
    simp only [List.map_cons]
    unfold Instr.fill
    simp only [hp]
    rw [if_neg (by simp at hl hl2 ⊢; omega)]
    rw [← hr]
    congr 1
    rw [← Array.foldl_toList, Array.toList_zipIdx]
theorem Ct {place : Nat → Option (Nat × Nat)} {n : Nat} {parts : List (Nat × Operand)} {ps : List (Nat × List ae)} (hp : jm lk place n parts ps) : ∀ {As : List ae} {k : Nat}, d7 (io As ps) k → d7 As k ∨ ∃ i x, (i, x) ∈ parts ∧ (lk x).keys k := by
  induction hp with
  | nil => intro As k h; exact .inl h
  | @cons i x A Bs o r ps hp hx hA hk ho _ ih =>
    intro As k h
    rcases ih h with h1 | ⟨j, y, hy, h1⟩
    · obtain ⟨B, hB, hkB⟩ := h1
      unfold fE at hB
      rcases List.mem_append.1 hB with h2 | h2
      · rcases List.mem_append.1 h2 with h3 | h3
        · exact .inl ⟨B, List.mem_of_mem_take h3, hkB⟩
        · exact .inr ⟨i, x, by simp, by rw [hx]; exact hk k ⟨B, h3, hkB⟩⟩
      · exact .inl ⟨B, List.mem_of_mem_drop h2, hkB⟩
    · exact .inr ⟨j, y, by simp [hy], h1⟩
def eC (P : Program) (T : Nat) : Option (Nat → Option (Nat × Nat)) :=
  match P.underlying T with
  | some (.struct fs) => if fs.toList.all (fun f => (P.info? f.type).isSome) then some (fun i => (fs[i]?).map fun f => (f.offset, ((P.info? f.type).map (·.size)).getD 0)) else none
  | some (.array _ e) => (P.info? e).map fun ie => fun i => some (i * ie.size, ie.size)
  | _ => none
theorem Ks {w : World} {fs : List Field} (h : fs.all (fun (f : Field) => (P.info? f.type).isSome) = true) :
    (fs.mapM (m := Sem) fun (f : Field) => do pure (f.offset, ← sizeOf f.type)).run P w = .ok (fs.map fun (f : Field) => (f.offset, ((P.info? f.type).map (·.size)).getD 0)) w := by
  induction fs with
  | nil => rfl
  | cons f fs ih =>
    simp only [List.all_cons, Bool.and_eq_true] at h
    obtain ⟨i, hi⟩ := Option.isSome_iff_exists.1 h.1
    simp [List.mapM_cons, sizeOf, typeInfo, hi]
    have := ih h.2
    simp [sizeOf, typeInfo] at this
    simp [this]
theorem Be {T : Nat} {parts : List (Nat × Operand)} {pl : Nat → Option (Nat × Nat)} {zs : List Value} {As Bs : List ae} {ps : List (Nat × List ae)} (hT : eC P T = some pl) (hz : mi P T = some zs) (hA : zs.map fY = As) (hp : jm lk pl As.length parts ps) (hB : io As ps = Bs) :
    cg P c ⟨d, .build T parts.toArray, ty, pos, aft, gd⟩ lk [] [] [] (ac Bs) := by
  have hops : ∀ i x, (i, x) ∈ parts → x ∈ (Op.build T parts.toArray).operands.toList := fun i x hx => by
    simp [Op.operands]; exact ⟨i, hx⟩
  refine dE (by intro cs b h; cases h) (fun k h => ?_) fun η ρo H _ ho => ?_
  · subst hB
    rcases Ct hp h with h1 | ⟨i, x, hx, h1⟩
    · subst hA; exact absurd h1 nq
    · exact ⟨x, hops i x hx, h1⟩
  · obtain ⟨z, hz1, hz2⟩ := Option.map_eq_some_iff.1 hz
    obtain ⟨i, hi, hz3⟩ := Option.bind_eq_some_iff.1 hz1
    have h0 : bw η As z.cells.toList := by subst hA; rw [← hz2]; exact ph _ _
    obtain ⟨r, hr, hr2⟩ := wM (ρo := ρo) hp rfl h0 (fun i x hx => ho x (hops i x hx))
    subst hB
    refine ⟨.agg r, ?_, r, rfl, hr2⟩
    have hzv : ∀ w, (zeroValue T).run P w = .ok z w := fun w => by simp [zeroValue, typeInfo, hi, hz3]
    have hparts : (parts.toArray.map fun (x : Nat × Operand) => (x.1, ρo x.2)).toList = parts.map fun x => (x.1, ρo x.2) := by simp
    unfold eC at hT
    split at hT
    · rename_i fs hu
      split at hT
      · rename_i hall
        cases hT
        have hm : ∀ w, (fs.mapM (m := Sem) fun (f : Field) => do pure (f.offset, ← sizeOf f.type)).run P w = .ok (fs.map fun (f : Field) => (f.offset, ((P.info? f.type).map (·.size)).getD 0)) w := fun w => by
          have h1 := Ks (P := P) (w := w) hall
          rw [Array.mapM_eq_mapM_toList]
          simp only [Sem.run_map, h1, Result.andThen_ok]
          congr 1
          apply Array.ext'; simp
        have hpl : (fun (i : Nat) => (fs.map fun (f : Field) => (f.offset, ((P.info? f.type).map (·.size)).getD 0))[i]?) = fun (i : Nat) => (fs[i]?).map fun (f : Field) => (f.offset, ((P.info? f.type).map (·.size)).getD 0) := by
          funext i; simp
        simp only [execOp, Instr.build, Sem.run_bind, hzv, Result.andThen_ok, run_underlying hu, hm, hparts]
        rw [hpl, hr]
        simp
      · cases hT
    · rename_i n e hu
      obtain ⟨ie, hie, hpl⟩ := Option.map_eq_some_iff.1 hT
      subst hpl
      simp only [execOp, Instr.build, Sem.run_bind, hzv, Result.andThen_ok, run_underlying hu, sizeOf, typeInfo, run_program, hie, hparts, Sem.run_pure]
      rw [hr]
      simp
    · cases hT
def oW (P : Program) (e len : Nat) : Option (List Value) :=
  match P.info? e with
  | some ie => match ie.zero with
    | some z => if len * ie.size > 2 ^ 24 then none else if len * ie.size = 0 then none else some ((Array.range (len * ie.size)).map (z.cells[· % z.cells.size]!)).toList
    | none => none
  | none => none
theorem L8 {T E n len : Nat} {parts : List (Nat × Operand)} {zs : List Value} {As : List ae} {rows : List (List ae)} {ps : List (Nat × List ae)} (hT : dG P T = some (E, n)) (hz : oW P E len = some zs) (hA : zs.map fY = As)
    (hp : jm lk (fun i => some (i * n, n)) As.length parts ps) (hB : io As ps = rows.flatten) (hr : ∀ r ∈ rows, r.length = n) (hlen : rows.length = len) : cg P c ⟨d, .buildSlice T len parts.toArray, ty, pos, aft, gd⟩ lk [] [] [] (dR n rows) := by
  have hops : ∀ i x, (i, x) ∈ parts → x ∈ (Op.buildSlice T len parts.toArray).operands.toList := fun i x hx => by
    simp [Op.operands]; exact ⟨i, hx⟩
  refine C8 (by intro cs b h; cases h) (fun k h => ?_) fun η ρo H hH ho => ?_
  · have h' : d7 (io As ps) k := by rw [hB]; exact h
    rcases Ct hp h' with h1 | ⟨i, x, hx, h1⟩
    · subst hA; exact absurd h1 nq
    · exact ⟨x, hops i x hx, h1⟩
  · obtain ⟨ie, hu, hie, hsz⟩ := mT hT
    unfold oW at hz
    rw [hie] at hz
    simp only at hz
    split at hz
    · rename_i z hzz
      split at hz
      · cases hz
      · rename_i hsmall
        split at hz
        · cases hz
        · rename_i hpos
          have hzs := Option.some.inj hz
          have hcs : ((Array.range (len * ie.size)).map (z.cells[· % z.cells.size]!)).toList = zs := hzs
          subst hsz
          have h0 : bw η As ((Array.range (len * ie.size)).map (z.cells[· % z.cells.size]!)).toList := by rw [hcs]; subst hA; exact ph _ _
          obtain ⟨r, hr1, hr2⟩ := wM (ρo := ρo) hp rfl h0 (fun i x hx => ho x (hops i x hx))
          rw [hB] at hr2
          have hparts : (parts.toArray.map fun (x : Nat × Operand) => (x.1, ρo x.2)).toList = parts.map fun x => (x.1, ρo x.2) := by simp
          refine ⟨.slice (some ⟨η.w.heap.size, 0, none⟩) len len, r, E, ?_, fun η' hw hg hI hkeep hρ => ?_⟩
          · have := run_buildSlice (P := P) η.w T E len (parts.toArray.map fun (x : Nat × Operand) => (x.1, ρo x.2)) r ie z hu hie hzz hsmall hpos (by rw [hparts]; exact hr1)
            simp only [execOp, Sem.run_bind, this, Result.andThen_ok]
            simp
          · have hml : len ≤ maxLen := by
              unfold maxLen
              have : 0 < ie.size := Nat.pos_of_ne_zero fun e => hpos (by rw [e]; simp)
              have : len ≤ len * ie.size := Nat.le_mul_of_pos_right _ this
              omega
            refine ⟨some ⟨η.w.heap.size, 0, none⟩, len, by rw [hlen], by omega, hml, hr, .inr ⟨_, 0, rfl, CJ hw hI ?_⟩⟩
            exact hr2.mono ⟨hg, hkeep, fun _ _ => by rw [hρ]⟩
    · cases hz
end
end Go.Proofs.YtngimdmkomkeoaaGreat.K
