/- Literals; rows: append, elements, length, make; calls that borrow a row. -/
import Derived.Test.YtngimdmkomkeoaaGreatCoreG
import Derived.Great.BuildSlice
import Derived.Laws.MakeOwn
set_option linter.unusedVariables false
set_option linter.unusedSimpArgs false
namespace Go.Proofs.YtngimdmkomkeoaaGreat.K
open Go.RowKit
section
variable {P : Program} {c : Ctx} {lk : Operand → Asn} {d : Option Nat} {ty : TypeId} {pos : String} {aft : Array Edge} {gd : Option (Nat × Bool)}
def fillA (As : List Asn) : List (Nat × List Asn) → List Asn
  | [] => As
  | (o, Bs) :: r => fillA (setAt As o Bs) r
inductive Parts (lk : Operand → Asn) (place : Nat → Option (Nat × Nat)) (n : Nat) : List (Nat × Operand) → List (Nat × List Asn) → Prop
  | nil : Parts lk place n [] []
  | cons {i : Nat} {x : Operand} {A : Asn} {Bs : List Asn} {o : Nat} {r : List (Nat × Operand)} {ps : List (Nat × List Asn)} (hp : place i = some (o, Bs.length)) (hx : lk x = A) (hA : valAs A Bs) (hk : ∀ k, z39 Bs k → A.keys k) (ho : Nat.ble (o + Bs.length) n = true)
      (t : Parts lk place n r ps) : Parts lk place n ((i, x) :: r) ((o, Bs) :: ps)
theorem setAt_length {As Bs : List Asn} {o n : Nat} (h : As.length = n) (ho : o + Bs.length ≤ n) : (setAt As o Bs).length = n := by
  unfold setAt; simp; omega
theorem foldl_all2 {η : Env} {As Bs : List Asn} {cs : Array Value} {vs : List Value} {o : Nat} (h : z5a η As cs.toList) (hv : z5a η Bs vs) (ho : o + Bs.length ≤ As.length) :
    z5a η (setAt As o Bs) ((vs.zipIdx 0).foldl (fun cs (x : Value × Nat) => cs.setIfInBounds (o + x.2) x.1) cs).toList := by
  obtain ⟨g1, g2⟩ := Great.foldl_set o vs 0 cs
  have hl := h.length
  have hvl := hv.length
  have hcl : cs.toList.length = cs.size := by simp
  refine z5a.of_get (by rw [setAt_length rfl ho]; simp [g1]; omega) fun j A v hA hvj => ?_
  have hvj' : ((vs.zipIdx 0).foldl (fun cs (x : Value × Nat) => cs.setIfInBounds (o + x.2) x.1) cs)[j]? = some v := by simpa using hvj
  rw [g2 j] at hvj'
  have hjlt := (List.getElem?_eq_some_iff.1 hA).1
  rw [setAt_length rfl ho] at hjlt
  unfold setAt at hA
  simp only [Nat.add_zero] at hvj'
  by_cases h1 : j < o
  · rw [if_neg (by omega)] at hvj'
    rw [List.append_assoc, List.getElem?_append_left (by simp; omega), List.getElem?_take] at hA
    simp [h1] at hA
    obtain ⟨u, hu, hp⟩ := h.get j A hA
    have : cs[j]? = some u := by simpa using hu
    rw [this] at hvj'; cases hvj'; exact hp
  · by_cases h2 : j < o + Bs.length
    · rw [if_pos (by omega)] at hvj'
      rw [List.append_assoc, List.getElem?_append_right (by simp; omega), List.getElem?_append_left (by simp; omega)] at hA
      have e : j - (List.take o As).length = j - o := by simp; omega
      rw [e] at hA
      obtain ⟨u, hu, hp⟩ := hv.get _ A hA
      rw [hu] at hvj'; cases hvj'; exact hp
    · rw [if_neg (by omega)] at hvj'
      rw [List.getElem?_append_right (by simp; omega), List.getElem?_drop] at hA
      have e : o + Bs.length + (j - (List.take o As ++ Bs).length) = j := by simp; omega
      rw [e] at hA
      obtain ⟨u, hu, hp⟩ := h.get j A hA
      have : cs[j]? = some u := by simpa using hu
      rw [this] at hvj'; cases hvj'; exact hp
theorem fill_all2 {η : Env} {ρo : Operand → Value} {place : Nat → Option (Nat × Nat)} {n : Nat} {parts : List (Nat × Operand)} {ps : List (Nat × List Asn)} (hp : Parts lk place n parts ps) :
    ∀ {As : List Asn} {cs : Array Value}, As.length = n → z5a η As cs.toList → (∀ i x, (i, x) ∈ parts → (lk x).p η (ρo x)) → ∃ r, Instr.fill place cs (parts.map fun x => (x.1, ρo x.2)) = some r ∧ z5a η (fillA As ps) r.toList := by
  induction hp with
  | nil => intro As cs _ h _; exact ⟨cs, rfl, h⟩
  | @cons i x A Bs o r ps hp hx hA hk ho _ ih =>
    intro As cs hn h hv
    have ho' : o + Bs.length ≤ n := of_decide_eq_true (by simpa [Nat.ble_eq] using ho)
    have h1 := hv i x (by simp)
    rw [hx] at h1
    have h2 := hA η _ h1
    have hl := h.length
    have hl2 := h2.length
    have h3 := foldl_all2 (o := o) h h2 (by omega)
    obtain ⟨res, hr, hr2⟩ := ih (setAt_length hn ho') h3 (fun j y hy => hv j y (by simp [hy]))
    refine ⟨res, ?_, hr2⟩
    simp only [List.map_cons]
    unfold Instr.fill
    simp only [hp]
    rw [if_neg (by simp at hl hl2 ⊢; omega)]
    rw [← hr]
    congr 1
    rw [← Array.foldl_toList, Array.toList_zipIdx]
theorem fillA_keys {place : Nat → Option (Nat × Nat)} {n : Nat} {parts : List (Nat × Operand)} {ps : List (Nat × List Asn)} (hp : Parts lk place n parts ps) : ∀ {As : List Asn} {k : Nat}, z39 (fillA As ps) k → z39 As k ∨ ∃ i x, (i, x) ∈ parts ∧ (lk x).keys k := by
  induction hp with
  | nil => intro As k h; exact .inl h
  | @cons i x A Bs o r ps hp hx hA hk ho _ ih =>
    intro As k h
    rcases ih h with h1 | ⟨j, y, hy, h1⟩
    · obtain ⟨B, hB, hkB⟩ := h1
      unfold setAt at hB
      rcases List.mem_append.1 hB with h2 | h2
      · rcases List.mem_append.1 h2 with h3 | h3
        · exact .inl ⟨B, List.mem_of_mem_take h3, hkB⟩
        · exact .inr ⟨i, x, by simp, by rw [hx]; exact hk k ⟨B, h3, hkB⟩⟩
      · exact .inl ⟨B, List.mem_of_mem_drop h2, hkB⟩
    · exact .inr ⟨j, y, by simp [hy], h1⟩
def z6o (P : Program) (T : Nat) : Option (Nat → Option (Nat × Nat)) :=
  match P.underlying T with
  | some (.struct fs) => if fs.toList.all (fun f => (P.info? f.type).isSome) then some (fun i => (fs[i]?).map fun f => (f.offset, ((P.info? f.type).map (·.size)).getD 0)) else none
  | some (.array _ e) => (P.info? e).map fun ie => fun i => some (i * ie.size, ie.size)
  | _ => none
theorem mapM_places {w : World} {fs : List Field} (h : fs.all (fun (f : Field) => (P.info? f.type).isSome) = true) :
    (fs.mapM (m := Sem) fun (f : Field) => do pure (f.offset, ← sizeOf f.type)).run P w = .ok (fs.map fun (f : Field) => (f.offset, ((P.info? f.type).map (·.size)).getD 0)) w := by
  induction fs with
  | nil => rfl
  | cons f fs ih =>
    simp only [List.all_cons, Bool.and_eq_true] at h
    obtain ⟨i, hi⟩ := Option.isSome_iff_exists.1 h.1
    simp [List.mapM_cons, sizeOf, typeInfo, hi]
    have := ih h.2
    simp [sizeOf, typeInfo] at this
    simp [this]
theorem o_build {T : Nat} {parts : List (Nat × Operand)} {pl : Nat → Option (Nat × Nat)} {zs : List Value} {As Bs : List Asn} {ps : List (Nat × List Asn)} (hT : z6o P T = some pl) (hz : zeroT P T = some zs) (hA : zs.map constA = As) (hp : Parts lk pl As.length parts ps) (hB : fillA As ps = Bs) :
    z2o P c ⟨d, .build T parts.toArray, ty, pos, aft, gd⟩ lk [] [] [] (z0w Bs) := by
  have hops : ∀ i x, (i, x) ∈ parts → x ∈ (Op.build T parts.toArray).operands.toList := fun i x hx => by
    simp [Op.operands]; exact ⟨i, hx⟩
  refine z58 (by intro cs b h; cases h) (fun k h => ?_) fun η ρo H _ ho => ?_
  · subst hB
    rcases fillA_keys hp h with h1 | ⟨i, x, hx, h1⟩
    · subst hA; exact absurd h1 z9d
    · exact ⟨x, hops i x hx, h1⟩
  · obtain ⟨z, hz1, hz2⟩ := Option.map_eq_some_iff.1 hz
    obtain ⟨i, hi, hz3⟩ := Option.bind_eq_some_iff.1 hz1
    have h0 : z5a η As z.cells.toList := by subst hA; rw [← hz2]; exact constA_all2 _ _
    obtain ⟨r, hr, hr2⟩ := fill_all2 (ρo := ρo) hp rfl h0 (fun i x hx => ho x (hops i x hx))
    subst hB
    refine ⟨.agg r, ?_, r, rfl, hr2⟩
    have hzv : ∀ w, (zeroValue T).run P w = .ok z w := fun w => by simp [zeroValue, typeInfo, hi, hz3]
    have hparts : (parts.toArray.map fun (x : Nat × Operand) => (x.1, ρo x.2)).toList = parts.map fun x => (x.1, ρo x.2) := by simp
    unfold z6o at hT
    split at hT
    · rename_i fs hu
      split at hT
      · rename_i hall
        cases hT
        have hm : ∀ w, (fs.mapM (m := Sem) fun (f : Field) => do pure (f.offset, ← sizeOf f.type)).run P w = .ok (fs.map fun (f : Field) => (f.offset, ((P.info? f.type).map (·.size)).getD 0)) w := fun w => by
          have h1 := mapM_places (P := P) (w := w) hall
          rw [Array.mapM_eq_mapM_toList]
          simp only [Sem.run_map, h1, Result.andThen_ok]
          congr 1
          apply Array.ext'; simp
        have hpl : (fun (i : Nat) => (fs.map fun (f : Field) => (f.offset, ((P.info? f.type).map (·.size)).getD 0))[i]?) = fun (i : Nat) => (fs[i]?).map fun (f : Field) => (f.offset, ((P.info? f.type).map (·.size)).getD 0) := by
          funext i; simp
        simp only [execOp, Instr.build, Sem.run_bind, hzv, Result.andThen_ok, run_underlying hu, hm, hparts]
        rw [hpl, hr]
        simp
      · cases hT
    · rename_i n e hu
      obtain ⟨ie, hie, hpl⟩ := Option.map_eq_some_iff.1 hT
      subst hpl
      simp only [execOp, Instr.build, Sem.run_bind, hzv, Result.andThen_ok, run_underlying hu, sizeOf, typeInfo, run_program, hie, hparts, Sem.run_pure]
      rw [hr]
      simp
    · cases hT
def zeroRep (P : Program) (e len : Nat) : Option (List Value) :=
  match P.info? e with
  | some ie => match ie.zero with
    | some z => if len * ie.size > 2 ^ 24 then none else if len * ie.size = 0 then none else some ((Array.range (len * ie.size)).map (z.cells[· % z.cells.size]!)).toList
    | none => none
  | none => none
theorem o_buildSlice {T E n len : Nat} {parts : List (Nat × Operand)} {zs : List Value} {As : List Asn} {rows : List (List Asn)} {ps : List (Nat × List Asn)} (hT : elemT P T = some (E, n)) (hz : zeroRep P E len = some zs) (hA : zs.map constA = As)
    (hp : Parts lk (fun i => some (i * n, n)) As.length parts ps) (hB : fillA As ps = rows.flatten) (hr : ∀ r ∈ rows, r.length = n) (hlen : rows.length = len) : z2o P c ⟨d, .buildSlice T len parts.toArray, ty, pos, aft, gd⟩ lk [] [] [] (zal n rows) := by
  have hops : ∀ i x, (i, x) ∈ parts → x ∈ (Op.buildSlice T len parts.toArray).operands.toList := fun i x hx => by
    simp [Op.operands]; exact ⟨i, hx⟩
  refine allocRule (by intro cs b h; cases h) (fun k h => ?_) fun η ρo H hH ho => ?_
  · have h' : z39 (fillA As ps) k := by rw [hB]; exact h
    rcases fillA_keys hp h' with h1 | ⟨i, x, hx, h1⟩
    · subst hA; exact absurd h1 z9d
    · exact ⟨x, hops i x hx, h1⟩
  · obtain ⟨ie, hu, hie, hsz⟩ := elemT_spec hT
    unfold zeroRep at hz
    rw [hie] at hz
    simp only at hz
    split at hz
    · rename_i z hzz
      split at hz
      · cases hz
      · rename_i hsmall
        split at hz
        · cases hz
        · rename_i hpos
          have hzs := Option.some.inj hz
          have hcs : ((Array.range (len * ie.size)).map (z.cells[· % z.cells.size]!)).toList = zs := hzs
          subst hsz
          have h0 : z5a η As ((Array.range (len * ie.size)).map (z.cells[· % z.cells.size]!)).toList := by rw [hcs]; subst hA; exact constA_all2 _ _
          obtain ⟨r, hr1, hr2⟩ := fill_all2 (ρo := ρo) hp rfl h0 (fun i x hx => ho x (hops i x hx))
          rw [hB] at hr2
          have hparts : (parts.toArray.map fun (x : Nat × Operand) => (x.1, ρo x.2)).toList = parts.map fun x => (x.1, ρo x.2) := by simp
          refine ⟨.slice (some ⟨η.w.heap.size, 0, none⟩) len len, r, E, ?_, fun η' hw hg hI hkeep hρ => ?_⟩
          · have := run_buildSlice (P := P) η.w T E len (parts.toArray.map fun (x : Nat × Operand) => (x.1, ρo x.2)) r ie z hu hie hzz hsmall hpos (by rw [hparts]; exact hr1)
            simp only [execOp, Sem.run_bind, this, Result.andThen_ok]
            simp
          · have hml : len ≤ maxLen := by
              unfold maxLen
              have : 0 < ie.size := Nat.pos_of_ne_zero fun e => hpos (by rw [e]; simp)
              have : len ≤ len * ie.size := Nat.le_mul_of_pos_right _ this
              omega
            refine ⟨some ⟨η.w.heap.size, 0, none⟩, len, by rw [hlen], by omega, hml, hr, .inr ⟨_, 0, rfl, cellsAt_new hw hI ?_⟩⟩
            exact hr2.mono ⟨hg, hkeep, fun _ _ => by rw [hρ]⟩
    · cases hz
end
end Go.Proofs.YtngimdmkomkeoaaGreat.K
