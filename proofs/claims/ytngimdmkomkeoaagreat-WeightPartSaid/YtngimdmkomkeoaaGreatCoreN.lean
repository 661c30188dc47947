import Derived.Test.YtngimdmkomkeoaaGreatCoreM
set_option linter.unusedVariables false
set_option linter.unusedSimpArgs false
namespace Go.Proofs.YtngimdmkomkeoaaGreat.K
open Go.RowKit
class VA (B : ae) (Bs : outParam (List ae)) : Prop where
  va : kp B Bs
  ks : ∀ k, d7 Bs k → B.keys k
theorem hJ {A : ae} (k : Nat) (h : d7 [A] k) : A.keys k := by obtain ⟨B, hB, hk⟩ := h; simp at hB; subst hB; exact hk
theorem hY {A : ae} (h : ∀ η v, A.p η v → v.oneCell' = true) : kp A [A] := fun η v hv => by
  have h1 := h η v hv
  cases v <;> first | (simp [Value.oneCell'] at h1; done) | exact .cons hv .nil
instance {k : IntKind} {n : Int} : VA (aj k n) [aj k n] := ⟨hY eb.one, hJ⟩
instance {b : Bool} : VA (aa b) [aa b] := ⟨hY eb.one, hJ⟩
instance {s : ByteArray} : VA (am s) [am s] := ⟨hY eb.one, hJ⟩
instance {n : Nat} {rows : List (List ae)} : VA (dR n rows) [dR n rows] := ⟨hY eb.one, hJ⟩
instance {As : List ae} : VA (ap As) [ap As] := ⟨hY eb.one, hJ⟩
instance {k : Nat} : VA (a8 k) [a8 k] := ⟨hY eb.one, hJ⟩
instance {k o : Nat} : VA (aO k o) [aO k o] := ⟨hY eb.one, hJ⟩
instance {f : FuncId} {As : List ae} : VA (bj f As) [bj f As] := ⟨hY eb.one, hJ⟩
instance {a : Option Addr} {n c : Nat} : VA (fm (.slice a n c)) [fm (.slice a n c)] := ⟨hY eb.one, hJ⟩
instance {a : Option Addr} : VA (fm (.pointer a)) [fm (.pointer a)] := ⟨hY eb.one, hJ⟩
instance : VA (fm .nilFunc) [fm .nilFunc] := ⟨hY eb.one, hJ⟩
instance {α β : Type} {P : Program} {ga : α → List ae} {rt : β → ae} {g : α → Option β} : VA (cC P ga rt g) [cC P ga rt g] := ⟨hY eb.one, hJ⟩
instance {As : List ae} : VA (ac As) As := ⟨Jy As, fun k h => h⟩
inductive ir (H : cz) : List (Nat × bB) → Prop
  | nil : ir H []
  | cons {k : Nat} {x : bB} {r : List (Nat × bB)} (h : H k = some x) (t : ir H r) : ir H ((k, x) :: r)
theorem ir.spec {H : cz} {L : List (Nat × bB)} (h : ir H L) : ∀ k x, (k, x) ∈ L → H k = some x := by
  induction h with
  | nil => intro k x h; simp at h
  | cons h _ ih =>
    intro k x hm
    rcases List.mem_cons.1 hm with e | hm
    · cases e; exact h
    · exact ih k x hm
theorem ir.self {H : cz} {L : List (Nat × bB)} (h : ir H L) : ∀ k x, (k, x) ∈ L → hp L k = some x := by
  intro k x hm
  have h1 := h.spec k x hm
  cases hh : hp L k with
  | some y => have := h.spec k y (eI hh); rw [h1] at this; exact this.symm
  | none =>
    exfalso
    clear h h1
    induction L with
    | nil => simp at hm
    | cons y r ih =>
      obtain ⟨i, y⟩ := y
      simp only [hp] at hh
      cases hb : Nat.beq k i
      · rw [hb] at hh
        rcases List.mem_cons.1 hm with e | hm
        · cases e; simp at hb
        · exact ih hm hh
      · rw [hb] at hh; cases hh
inductive hO (lk : Operand → ae) (place : Nat → Option (Nat × Nat)) (n : Nat) : List (Nat × Operand) → List (Nat × List ae) → Prop
  | nil : hO lk place n [] []
  | cons {i : Nat} {x : Operand} {A : ae} {Bs : List ae} {o : Nat} {r : List (Nat × Operand)} {ps : List (Nat × List ae)} (hx : lk x = A) [hv : VA A Bs] (hp : place i = some (o, Bs.length)) (ho : Nat.ble (o + Bs.length) n = true) (t : hO lk place n r ps) : hO lk place n ((i, x) :: r) ((o, Bs) :: ps)
theorem hO.parts {lk : Operand → ae} {place : Nat → Option (Nat × Nat)} {n : Nat} {l : List (Nat × Operand)} {ps : List (Nat × List ae)} (h : hO lk place n l ps) : jm lk place n l ps := by
  induction h with
  | nil => exact .nil
  | cons hx hp ho _ ih => rename_i hv _; exact .cons hp hx hv.va hv.ks ho ih
def zA (P : Program) (E : Nat) : Option (List ae) := (mi P E).map (·.map fY)
theorem s9 {P : Program} {E : Nat} {As : List ae} (h : zA P E = some As) : ∃ zs, mi P E = some zs ∧ zs.map fY = As := Option.map_eq_some_iff.1 h
section
variable {P : Program} {c : cS} {lk : Operand → ae} {d : Option Nat} {ty : TypeId} {pos : String} {aft : Array Edge} {gd : Option (Nat × Bool)}
theorem Gi {E : TypeId} {K : Nat} {x : Operand} {A : ae} {As : List ae} (hx : lk x = A) [hv : VA A As] : cg P c ⟨d, .box E x, ty, pos, aft, gd⟩ lk [] [(K, some (.box E As))] [K] (a8 K) where
  run := by
    intro η ρo H hH hop _ hfresh hopk
    have hp := hop x (by simp [Op.operands]); rw [hx] at hp
    have hxk := hopk x (by simp [Op.operands]); rw [hx] at hxk
    unfold dJ
    have hrun : (execOp ρo ⟨d, .box E x, ty, pos, aft, gd⟩).run P η.w = .ok (.value (.pointer (some ⟨η.w.heap.size, 0, none⟩))) (η.w.alloc (.cells (ρo x).cells E (0, 0))) := by
      simp [execOp, Instr.box, newVar, newRow]
    rw [hrun]
    have h1 := hH.alloc (.cells (ρo x).cells E (0, 0)) η.I (fun b hb => .inl hb) (fun b hb => hb)
    have hKs := hfresh K (by simp)
    have hI : ¬ η.I η.w.heap.size := fun h => Nat.lt_irrefl _ (hH.lt _ h)
    have hle : ∀ ks : Nat → Prop, Le ks η ⟨η.w.alloc (.cells (ρo x).cells E (0, 0)), η.I, η.ρ⟩ := fun ks => ⟨fun _ h => h, fun b hb => Below.heap_alloc _ _ _ (hH.lt b hb), fun _ _ => rfl⟩
    have h2 := h1.add K (.pointer (some ⟨η.w.heap.size, 0, none⟩)) (.box E As) hKs.1 hKs.2 (fun h => by have := hv.ks K h; exact hxk K this (by simp)) ?_ ?_ ?_
    · refine ⟨⟨η.w.alloc (.cells (ρo x).cells E (0, 0)), η.I, fun j => if j = K then .pointer (some ⟨η.w.heap.size, 0, none⟩) else η.ρ j⟩, rfl, ⟨fun _ h => h, fun b hb => Below.heap_alloc _ _ _ (hH.lt b hb), fun k hk => ?_⟩, h2, ?_, rfl⟩
      · have : k ≠ K := by simpa using hk
        simp [this]
      · simp
    · exact ⟨η.w.heap.size, (ρo x).cells, rfl, heap_alloc_new _ _, (hv.va _ _ hp).mono (hle _)⟩
    · intro b hb
      have : η.w.heap.size = b := by simpa [c8] using hb
      subst this
      exact ⟨hI, by simp, .inl hH.size⟩
    · intro b k y hb hk hbk
      have : η.w.heap.size = b := by simpa [c8] using hb
      subst this
      exact Nat.lt_irrefl _ (hH.own k y _ hk hbk).2.1
  keys := fun k h => .inr (.inr (by have : k = K := h; simp [this]))
  ukeys := fun j y h k hk => by
    simp at h; obtain ⟨_, rfl⟩ := h
    exact .inl ⟨x, by simp [Op.operands], by rw [hx]; exact hv.ks k hk⟩
  dom := fun j x h => .inr (by simp at h; simp [h.1])
  sel := by intro cs b h; cases h
theorem o_bs0 {T E n K : Nat} (hT : dG P T = some (E, n)) : cg P c ⟨d, .buildSlice T 0 #[], ty, pos, aft, gd⟩ lk [] [(K, some (.row E n []))] [K] (a8 K) where
  run := by
    intro η ρo H hH _ _ hfresh _
    obtain ⟨i, t1, t2, t3⟩ := mT hT
    unfold dJ
    have hrun : (execOp ρo ⟨d, .buildSlice T 0 #[], ty, pos, aft, gd⟩).run P η.w = .ok (.value (.slice (some ⟨η.w.heap.size, 0, none⟩) 0 0)) (η.w.alloc (.cells #[] E (0, 0))) := by
      simp [execOp, Instr.buildSlice, run_underlying t1, sizeOf, typeInfo, t2, Instr.fill, newRow]
      have : (Array.map (fun _ => (default : Value)) (Array.range 0)) = #[] := by simp
      rw [this]
    rw [hrun]
    have h1 := hH.alloc (.cells #[] E (0, 0)) η.I (fun b hb => .inl hb) (fun b hb => hb)
    have hKs := hfresh K (by simp)
    have hI : ¬ η.I η.w.heap.size := fun h => Nat.lt_irrefl _ (hH.lt _ h)
    have h2 := h1.add K (.slice (some ⟨η.w.heap.size, 0, none⟩) 0 0) (.row E n []) hKs.1 hKs.2 (gu K) ⟨fun r hr => by simp at hr, [], ⟨by simp, .inr ⟨η.w.heap.size, 0, #[], by simp, Nat.zero_le _, heap_alloc_new _ _, Nat.le_refl _, Nat.zero_le _, by simp, by simp⟩⟩, .nil⟩ ?_ ?_
    · refine ⟨⟨η.w.alloc (.cells #[] E (0, 0)), η.I, fun j => if j = K then .slice (some ⟨η.w.heap.size, 0, none⟩) 0 0 else η.ρ j⟩, rfl, ⟨fun _ h => h, fun b hb => Below.heap_alloc _ _ _ (hH.lt b hb), fun k hk => ?_⟩, h2, ?_, rfl⟩
      · have : k ≠ K := by simpa using hk
        simp [this]
      · simp
    · intro b hb
      have : η.w.heap.size = b := by simpa [c8] using hb
      subst this
      exact ⟨hI, by simp, .inl hH.size⟩
    · intro b k y hb hk hbk
      have : η.w.heap.size = b := by simpa [c8] using hb
      subst this
      exact Nat.lt_irrefl _ (hH.own k y _ hk hbk).2.1
  keys := fun k h => .inr (.inr (by have : k = K := h; simp [this]))
  ukeys := fun j x h k hk => by
    simp at h; obtain ⟨_, rfl⟩ := h
    exact absurd hk (gu k)
  dom := fun j x h => .inr (by simp at h; simp [h.1])
  sel := by intro cs b h; cases h
def ik (P : Program) (T : Nat) : Option (Nat × Nat) :=
  match P.underlying T with
  | some (.array n e) => (P.info? e).map fun i => (n, i.size)
  | _ => none
theorem Cb {T n m : Nat} (h : ik P T = some (n, m)) : ∃ e i, P.underlying T = some (.array n e) ∧ P.info? e = some i ∧ i.size = m := by
  unfold ik at h
  split at h
  · rename_i n' e hu
    obtain ⟨i, hi, hm⟩ := Option.map_eq_some_iff.1 h
    simp only [Prod.mk.injEq] at hm
    obtain ⟨rfl, hm⟩ := hm
    exact ⟨e, i, hu, hi, hm⟩
  · cases h
theorem o_ixA {T n m : Nat} {x y : Operand} {k : IntKind} {j : Int} {As Bs : List ae} (hT : ik P T = some (n, m)) (hx : lk x = ap As) (hy : lk y = aj k j) (h0 : 0 ≤ j) (h1 : j < (n : Int)) (hB : (As.drop (j.toNat * m)).take m = Bs) :
    cg P c ⟨d, .indexAddr T x y, ty, pos, aft, gd⟩ lk [] [] [] (ap Bs) := by
  obtain ⟨e, i, t1, t2, t3⟩ := Cb hT
  refine dE (by intro cs b h; cases h) (fun k h => ⟨x, by simp [Op.operands], ?_⟩) fun η ρo H _ ho => ?_
  · rw [hx]; subst hB; exact jJ (fun A hA => List.mem_of_mem_drop (List.mem_of_mem_take hA)) h
  · have hh := ho x (by simp [Op.operands]); rw [hx] at hh
    have hj := ho y (by simp [Op.operands]); rw [hy] at hj; obtain ⟨hj, _⟩ := hj
    obtain ⟨b, o, e1, hc⟩ := hh
    refine ⟨.pointer (some ⟨b, o + j.toNat * m, none⟩), ?_, b, o + j.toNat * m, rfl, ?_⟩
    · have hb : 0 ≤ j ∧ j < (n : Int) := ⟨h0, h1⟩
      simp [execOp, e1, hj, Instr.indexAt, asIntOf, run_underlying t1, hb, Instr.sureAddr, sizeOf, typeInfo, t2, t3, Addr.add_lit]
    · subst hB; exact (hc.drop _).take _
theorem Gl {T n m : Nat} {x y : Operand} {A : ae} {k : IntKind} {j : Int} {K o o' : Nat} {E : TypeId} {cs : List ae} (hT : ik P T = some (n, m)) (hx : lk x = A) (hA : fH A K o) (hy : lk y = aj k j) (h0 : 0 ≤ j) (h1 : j < (n : Int)) (ho' : o + j.toNat * m = o') :
    cg P c ⟨d, .indexAddr T x y, ty, pos, aft, gd⟩ lk [(K, .box E cs)] [] [] (aO K o') where
  run := by
    intro η ρo H hH hop hn _ _
    obtain ⟨e, i, t1, t2, t3⟩ := Cb hT
    have hp := hop x (by simp [Op.operands]); rw [hx] at hp
    have hj := hop y (by simp [Op.operands]); rw [hy] at hj; obtain ⟨hj, _⟩ := hj
    obtain ⟨b, arr, e1, e2, _, _⟩ := hA.spec hp (hH.holds K _ (hn K _ (List.mem_singleton.2 rfl)))
    unfold dJ
    have hb : 0 ≤ j ∧ j < (n : Int) := ⟨h0, h1⟩
    have hrun : (execOp ρo ⟨d, .indexAddr T x y, ty, pos, aft, gd⟩).run P η.w = .ok (.value (.pointer (some ⟨b, o + j.toNat * m, none⟩))) η.w := by
      simp [execOp, e2, hj, Instr.indexAt, asIntOf, run_underlying t1, hb, Instr.sureAddr, sizeOf, typeInfo, t2, t3, Addr.add_lit]
    rw [hrun]
    exact ⟨η, rfl, ⟨fun _ h => h, fun _ _ => rfl, fun _ _ => rfl⟩, hH, b, e1, by rw [ho']⟩
  keys := fun k h => .inl ⟨x, by simp [Op.operands], by rw [hx]; cases hA <;> exact h⟩
  ukeys := fun j x h => by simp at h
  dom := fun j x h => by simp at h
  sel := by intro cs b h; cases h
def cut {α : Type} (xs : List α) (l h : Int) : List α := (xs.drop l.toNat).take (h.toNat - l.toNat)
theorem o_cut {α : Type} {T E n : Nat} {cc : α → List ae} {xs : List α} {x : Operand} {lo hi : Option Operand} {k k' : IntKind} {l h : Int} (hT : dG P T = some (E, n)) (hx : lk x = AL n cc xs)
    (hl : (lo = none ∧ l = 0) ∨ ∃ o, lo = some o ∧ lk o = aj k l) (hh : (hi = none ∧ h = (xs.length : Int)) ∨ ∃ o, hi = some o ∧ lk o = aj k' h) (h0 : 0 ≤ l) (h1 : l ≤ h) (h2 : h ≤ (xs.length : Int)) :
    cg P c ⟨d, .slice T x lo hi none, ty, pos, aft, gd⟩ lk [] [] [] (AL n cc (cut xs l h)) := by
  obtain ⟨inf, t1, t2, t3⟩ := mT hT
  refine dE (by intro cs b h; cases h) (fun k h => ⟨x, by simp [Op.operands], ?_⟩) fun η ρo H _ ho => ?_
  · rw [hx]
    refine jJ (fun A hA => ?_) h
    obtain ⟨r, hr, hA⟩ := List.mem_flatten.1 hA
    obtain ⟨y, hy, rfl⟩ := List.mem_map.1 hr
    exact List.mem_flatten.2 ⟨_, List.mem_map.2 ⟨y, List.mem_of_mem_drop (List.mem_of_mem_take hy), rfl⟩, hA⟩
  · have hh' := ho x (by simp [Op.operands]); rw [hx] at hh'
    have hh'' := hh'
    obtain ⟨a, cp, e, g1, g2, g3, g4⟩ := hh'
    rw [List.length_map] at g1
    refine ⟨sliced a l.toNat h.toNat cp n, ?_, ?_⟩
    · have hel : P.elem T = E := by simp [Program.elem, t1]
      have hu : P.underlying T = some (.slice (P.elem T)) := by rw [hel]; exact t1
      have hsz : (sizeOf (P.elem T)).run P η.w = .ok n η.w := by rw [hel]; simp [sizeOf, typeInfo, t2, t3]
      have hlen : (xs.map cc).length = xs.length := by simp
      rw [hlen] at e
      rcases hl with ⟨rfl, rfl⟩ | ⟨o, rfl, ho1⟩ <;> rcases hh with ⟨rfl, rfl⟩ | ⟨o', rfl, ho2⟩
      · have := run_slice_all (P := P) η.w T a xs.length cp hu
        rw [hsz] at this
        simp [execOp, e, run_sliceAt_slice η.w T _ _ _ _ hu, this]
      · have e2 := ho o' (by simp [Op.operands]); rw [ho2] at e2; obtain ⟨e2, _⟩ := e2
        have := run_slice_h (P := P) η.w T a xs.length cp hu k' h (by omega) (by omega)
        rw [hsz] at this
        simp [execOp, e, e2, run_sliceAt_slice η.w T _ _ _ _ hu, this]
      · have e1 := ho o (by simp [Op.operands]); rw [ho1] at e1; obtain ⟨e1, _⟩ := e1
        have := run_slice_l (P := P) η.w T a xs.length cp hu k l h0 h1
        rw [hsz] at this
        simp [execOp, e, e1, run_sliceAt_slice η.w T _ _ _ _ hu, this]
      · have e1 := ho o (by simp [Op.operands]); rw [ho1] at e1; obtain ⟨e1, _⟩ := e1
        have e2 := ho o' (by simp [Op.operands]); rw [ho2] at e2; obtain ⟨e2, _⟩ := e2
        have := run_slice_lh (P := P) η.w T a xs.length cp hu k k' l h h0 h1 (by omega)
        rw [hsz] at this
        simp [execOp, e, e1, e2, run_sliceAt_slice η.w T _ _ _ _ hu, this]
    · have := JN (l := l.toNat) (h := h.toNat) (by rw [← e]; exact hh'') (by omega) (by rw [List.length_map]; omega)
      unfold cut
      show (dR n (((xs.drop l.toNat).take (h.toNat - l.toNat)).map cc)).p η _
      rw [List.map_take, List.map_drop]
      exact this
theorem Gk {T : Nat} {s : ByteArray} {x : Operand} {lo hi : Option Operand} {k k' : IntKind} {l h : Int} (hT : P.underlying T = some .string) (hx : lk x = am s)
    (hl : (lo = none ∧ l = 0) ∨ ∃ o, lo = some o ∧ lk o = aj k l) (hh : (hi = none ∧ h = (s.size : Int)) ∨ ∃ o, hi = some o ∧ lk o = aj k' h) (h0 : 0 ≤ l) (h1 : l ≤ h) (h2 : h ≤ (s.size : Int)) :
    cg P c ⟨d, .slice T x lo hi none, ty, pos, aft, gd⟩ lk [] [] [] (am (bT s l h)) := by
  refine dE (by intro cs b h; cases h) (fun k h => h.elim) fun η ρo H _ ho => ?_
  have hh' := ho x (by simp [Op.operands]); rw [hx] at hh'
  obtain ⟨e, g⟩ := hh'
  refine ⟨.string (bT s l h), ?_, rfl, Nat.le_trans IQ g⟩
  have b : ∀ (k : IntKind) (i : Int) (y : Nat) (co : BoundsCode), 0 ≤ i → i ≤ (y : Int) → (Instr.sliceBound (.int k i) y co).run P η.w = .ok i.toNat η.w := fun k i y co h0 h1 => run_sliceBound η.w k i y co h0 h1
  have eh : (h.toNat : Int) = h := Int.toNat_of_nonneg (by omega)
  rcases hl with ⟨rfl, rfl⟩ | ⟨o, rfl, ho1⟩ <;> rcases hh with ⟨rfl, rfl⟩ | ⟨o', rfl, ho2⟩
  · simp [execOp, e, run_sliceAt_string η.w T _ _ _ _ hT, Instr.slice, run_underlying hT, Instr.sliceBounds, bT]
  · have e2 := ho o' (by simp [Op.operands]); rw [ho2] at e2; obtain ⟨e2, _⟩ := e2
    simp [execOp, e, e2, run_sliceAt_string η.w T _ _ _ _ hT, Instr.slice, run_underlying hT, Instr.sliceBounds, bT, b k' h s.size _ (by omega) h2]
  · have e1 := ho o (by simp [Op.operands]); rw [ho1] at e1; obtain ⟨e1, _⟩ := e1
    simp [execOp, e, e1, run_sliceAt_string η.w T _ _ _ _ hT, Instr.slice, run_underlying hT, Instr.sliceBounds, bT, b k l s.size _ h0 h1]
  · have e1 := ho o (by simp [Op.operands]); rw [ho1] at e1; obtain ⟨e1, _⟩ := e1
    have e2 := ho o' (by simp [Op.operands]); rw [ho2] at e2; obtain ⟨e2, _⟩ := e2
    simp [execOp, e, e1, e2, run_sliceAt_string η.w T _ _ _ _ hT, Instr.slice, run_underlying hT, Instr.sliceBounds, bT, b k' h s.size _ (by omega) h2, b k l h.toNat _ h0 (by omega)]
end
end Go.Proofs.YtngimdmkomkeoaaGreat.K
