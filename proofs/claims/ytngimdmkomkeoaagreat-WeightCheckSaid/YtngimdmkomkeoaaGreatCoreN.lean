/- The rules for objects, slices, strings and calls, in the form in which the printed proofs use them. -/
import Derived.Test.YtngimdmkomkeoaaGreatCoreM
set_option linter.unusedVariables false
set_option linter.unusedSimpArgs false
namespace Go.Proofs.YtngimdmkomkeoaaGreat.K
open Go.RowKit
class VA (B : Asn) (Bs : outParam (List Asn)) : Prop where
  va : valAs B Bs
  ks : ∀ k, z39 Bs k → B.keys k
theorem keys1 {A : Asn} (k : Nat) (h : z39 [A] k) : A.keys k := by obtain ⟨B, hB, hk⟩ := h; simp at hB; subst hB; exact hk
theorem va_one {A : Asn} (h : ∀ η v, A.p η v → v.oneCell' = true) : valAs A [A] := fun η v hv => by
  have h1 := h η v hv
  cases v <;> first | (simp [Value.oneCell'] at h1; done) | exact .cons hv .nil
instance {k : IntKind} {n : Int} : VA (z1z k n) [z1z k n] := ⟨va_one One.one, keys1⟩
instance {b : Bool} : VA (z00 b) [z00 b] := ⟨va_one One.one, keys1⟩
instance {s : ByteArray} : VA (z1h s) [z1h s] := ⟨va_one One.one, keys1⟩
instance {n : Nat} {rows : List (List Asn)} : VA (zal n rows) [zal n rows] := ⟨va_one One.one, keys1⟩
instance {As : List Asn} : VA (z1r As) [z1r As] := ⟨va_one One.one, keys1⟩
instance {k : Nat} : VA (z0i k) [z0i k] := ⟨va_one One.one, keys1⟩
instance {k o : Nat} : VA (z1f k o) [z1f k o] := ⟨va_one One.one, keys1⟩
instance {f : FuncId} {As : List Asn} : VA (z3n f As) [z3n f As] := ⟨va_one One.one, keys1⟩
instance {a : Option Addr} {n c : Nat} : VA (AEq (.slice a n c)) [AEq (.slice a n c)] := ⟨va_one One.one, keys1⟩
instance {a : Option Addr} : VA (AEq (.pointer a)) [AEq (.pointer a)] := ⟨va_one One.one, keys1⟩
instance : VA (AEq .nilFunc) [AEq .nilFunc] := ⟨va_one One.one, keys1⟩
instance {α β : Type} {P : Program} {ga : α → List Asn} {rt : β → Asn} {g : α → Option β} : VA (AFn P ga rt g) [AFn P ga rt g] := ⟨va_one One.one, keys1⟩
instance {As : List Asn} : VA (z0w As) As := ⟨valAs_agg As, fun k h => h⟩
inductive NeedIn (H : Heap) : List (Nat × z5b) → Prop
  | nil : NeedIn H []
  | cons {k : Nat} {x : z5b} {r : List (Nat × z5b)} (h : H k = some x) (t : NeedIn H r) : NeedIn H ((k, x) :: r)
theorem NeedIn.spec {H : Heap} {L : List (Nat × z5b)} (h : NeedIn H L) : ∀ k x, (k, x) ∈ L → H k = some x := by
  induction h with
  | nil => intro k x h; simp at h
  | cons h _ ih =>
    intro k x hm
    rcases List.mem_cons.1 hm with e | hm
    · cases e; exact h
    · exact ih k x hm
theorem NeedIn.self {H : Heap} {L : List (Nat × z5b)} (h : NeedIn H L) : ∀ k x, (k, x) ∈ L → hp L k = some x := by
  intro k x hm
  have h1 := h.spec k x hm
  cases hh : hp L k with
  | some y => have := h.spec k y (z8f hh); rw [h1] at this; exact this.symm
  | none =>
    exfalso
    clear h h1
    induction L with
    | nil => simp at hm
    | cons y r ih =>
      obtain ⟨i, y⟩ := y
      simp only [hp] at hh
      cases hb : Nat.beq k i
      · rw [hb] at hh
        rcases List.mem_cons.1 hm with e | hm
        · cases e; simp at hb
        · exact ih hm hh
      · rw [hb] at hh; cases hh
inductive PartsV (lk : Operand → Asn) (place : Nat → Option (Nat × Nat)) (n : Nat) : List (Nat × Operand) → List (Nat × List Asn) → Prop
  | nil : PartsV lk place n [] []
  | cons {i : Nat} {x : Operand} {A : Asn} {Bs : List Asn} {o : Nat} {r : List (Nat × Operand)} {ps : List (Nat × List Asn)} (hx : lk x = A) [hv : VA A Bs] (hp : place i = some (o, Bs.length)) (ho : Nat.ble (o + Bs.length) n = true) (t : PartsV lk place n r ps) : PartsV lk place n ((i, x) :: r) ((o, Bs) :: ps)
theorem PartsV.parts {lk : Operand → Asn} {place : Nat → Option (Nat × Nat)} {n : Nat} {l : List (Nat × Operand)} {ps : List (Nat × List Asn)} (h : PartsV lk place n l ps) : Parts lk place n l ps := by
  induction h with
  | nil => exact .nil
  | cons hx hp ho _ ih => rename_i hv _; exact .cons hp hx hv.va hv.ks ho ih
def zA (P : Program) (E : Nat) : Option (List Asn) := (zeroT P E).map (·.map constA)
theorem zA_spec {P : Program} {E : Nat} {As : List Asn} (h : zA P E = some As) : ∃ zs, zeroT P E = some zs ∧ zs.map constA = As := Option.map_eq_some_iff.1 h
section
variable {P : Program} {c : Ctx} {lk : Operand → Asn} {d : Option Nat} {ty : TypeId} {pos : String} {aft : Array Edge} {gd : Option (Nat × Bool)}
theorem o_boxO {E : TypeId} {K : Nat} {x : Operand} {A : Asn} {As : List Asn} (hx : lk x = A) [hv : VA A As] : z2o P c ⟨d, .box E x, ty, pos, aft, gd⟩ lk [] [(K, some (.box E As))] [K] (z0i K) where
  run := by
    intro η ρo H hH hop _ hfresh hopk
    have hp := hop x (by simp [Op.operands]); rw [hx] at hp
    have hxk := hopk x (by simp [Op.operands]); rw [hx] at hxk
    unfold Exec
    have hrun : (execOp ρo ⟨d, .box E x, ty, pos, aft, gd⟩).run P η.w = .ok (.value (.pointer (some ⟨η.w.heap.size, 0, none⟩))) (η.w.alloc (.cells (ρo x).cells E (0, 0))) := by
      simp [execOp, Instr.box, newVar, newRow]
    rw [hrun]
    have h1 := hH.alloc (.cells (ρo x).cells E (0, 0)) η.I (fun b hb => .inl hb) (fun b hb => hb)
    have hKs := hfresh K (by simp)
    have hI : ¬ η.I η.w.heap.size := fun h => Nat.lt_irrefl _ (hH.lt _ h)
    have hle : ∀ ks : Nat → Prop, Le ks η ⟨η.w.alloc (.cells (ρo x).cells E (0, 0)), η.I, η.ρ⟩ := fun ks => ⟨fun _ h => h, fun b hb => Below.heap_alloc _ _ _ (hH.lt b hb), fun _ _ => rfl⟩
    have h2 := h1.add K (.pointer (some ⟨η.w.heap.size, 0, none⟩)) (.box E As) hKs.1 hKs.2 (fun h => by have := hv.ks K h; exact hxk K this (by simp)) ?_ ?_ ?_
    · refine ⟨⟨η.w.alloc (.cells (ρo x).cells E (0, 0)), η.I, fun j => if j = K then .pointer (some ⟨η.w.heap.size, 0, none⟩) else η.ρ j⟩, rfl, ⟨fun _ h => h, fun b hb => Below.heap_alloc _ _ _ (hH.lt b hb), fun k hk => ?_⟩, h2, ?_, rfl⟩
      · have : k ≠ K := by simpa using hk
        simp [this]
      · simp
    · exact ⟨η.w.heap.size, (ρo x).cells, rfl, heap_alloc_new _ _, (hv.va _ _ hp).mono (hle _)⟩
    · intro b hb
      have : η.w.heap.size = b := by simpa [blk] using hb
      subst this
      exact ⟨hI, by simp, .inl hH.size⟩
    · intro b k y hb hk hbk
      have : η.w.heap.size = b := by simpa [blk] using hb
      subst this
      exact Nat.lt_irrefl _ (hH.own k y _ hk hbk).2.1
  keys := fun k h => .inr (.inr (by have : k = K := h; simp [this]))
  ukeys := fun j y h k hk => by
    simp at h; obtain ⟨_, rfl⟩ := h
    exact .inl ⟨x, by simp [Op.operands], by rw [hx]; exact hv.ks k hk⟩
  dom := fun j x h => .inr (by simp at h; simp [h.1])
  sel := by intro cs b h; cases h
theorem o_bs0 {T E n K : Nat} (hT : elemT P T = some (E, n)) : z2o P c ⟨d, .buildSlice T 0 #[], ty, pos, aft, gd⟩ lk [] [(K, some (.row E n []))] [K] (z0i K) where
  run := by
    intro η ρo H hH _ _ hfresh _
    obtain ⟨i, t1, t2, t3⟩ := elemT_spec hT
    unfold Exec
    have hrun : (execOp ρo ⟨d, .buildSlice T 0 #[], ty, pos, aft, gd⟩).run P η.w = .ok (.value (.slice (some ⟨η.w.heap.size, 0, none⟩) 0 0)) (η.w.alloc (.cells #[] E (0, 0))) := by
      simp [execOp, Instr.buildSlice, run_underlying t1, sizeOf, typeInfo, t2, Instr.fill, newRow]
      have : (Array.map (fun _ => (default : Value)) (Array.range 0)) = #[] := by simp
      rw [this]
    rw [hrun]
    have h1 := hH.alloc (.cells #[] E (0, 0)) η.I (fun b hb => .inl hb) (fun b hb => hb)
    have hKs := hfresh K (by simp)
    have hI : ¬ η.I η.w.heap.size := fun h => Nat.lt_irrefl _ (hH.lt _ h)
    have h2 := h1.add K (.slice (some ⟨η.w.heap.size, 0, none⟩) 0 0) (.row E n []) hKs.1 hKs.2 (z4g K) ⟨fun r hr => by simp at hr, [], ⟨by simp, .inr ⟨η.w.heap.size, 0, #[], by simp, Nat.zero_le _, heap_alloc_new _ _, Nat.le_refl _, Nat.zero_le _, by simp, by simp⟩⟩, .nil⟩ ?_ ?_
    · refine ⟨⟨η.w.alloc (.cells #[] E (0, 0)), η.I, fun j => if j = K then .slice (some ⟨η.w.heap.size, 0, none⟩) 0 0 else η.ρ j⟩, rfl, ⟨fun _ h => h, fun b hb => Below.heap_alloc _ _ _ (hH.lt b hb), fun k hk => ?_⟩, h2, ?_, rfl⟩
      · have : k ≠ K := by simpa using hk
        simp [this]
      · simp
    · intro b hb
      have : η.w.heap.size = b := by simpa [blk] using hb
      subst this
      exact ⟨hI, by simp, .inl hH.size⟩
    · intro b k y hb hk hbk
      have : η.w.heap.size = b := by simpa [blk] using hb
      subst this
      exact Nat.lt_irrefl _ (hH.own k y _ hk hbk).2.1
  keys := fun k h => .inr (.inr (by have : k = K := h; simp [this]))
  ukeys := fun j x h k hk => by
    simp at h; obtain ⟨_, rfl⟩ := h
    exact absurd hk (z4g k)
  dom := fun j x h => .inr (by simp at h; simp [h.1])
  sel := by intro cs b h; cases h
def arrT (P : Program) (T : Nat) : Option (Nat × Nat) :=
  match P.underlying T with
  | some (.array n e) => (P.info? e).map fun i => (n, i.size)
  | _ => none
theorem arrT_spec {T n m : Nat} (h : arrT P T = some (n, m)) : ∃ e i, P.underlying T = some (.array n e) ∧ P.info? e = some i ∧ i.size = m := by
  unfold arrT at h
  split at h
  · rename_i n' e hu
    obtain ⟨i, hi, hm⟩ := Option.map_eq_some_iff.1 h
    simp only [Prod.mk.injEq] at hm
    obtain ⟨rfl, hm⟩ := hm
    exact ⟨e, i, hu, hi, hm⟩
  · cases h
theorem o_ixA {T n m : Nat} {x y : Operand} {k : IntKind} {j : Int} {As Bs : List Asn} (hT : arrT P T = some (n, m)) (hx : lk x = z1r As) (hy : lk y = z1z k j) (h0 : 0 ≤ j) (h1 : j < (n : Int)) (hB : (As.drop (j.toNat * m)).take m = Bs) :
    z2o P c ⟨d, .indexAddr T x y, ty, pos, aft, gd⟩ lk [] [] [] (z1r Bs) := by
  obtain ⟨e, i, t1, t2, t3⟩ := arrT_spec hT
  refine z58 (by intro cs b h; cases h) (fun k h => ⟨x, by simp [Op.operands], ?_⟩) fun η ρo H _ ho => ?_
  · rw [hx]; subst hB; exact z9b (fun A hA => List.mem_of_mem_drop (List.mem_of_mem_take hA)) h
  · have hh := ho x (by simp [Op.operands]); rw [hx] at hh
    have hj := ho y (by simp [Op.operands]); rw [hy] at hj; obtain ⟨hj, _⟩ := hj
    obtain ⟨b, o, e1, hc⟩ := hh
    refine ⟨.pointer (some ⟨b, o + j.toNat * m, none⟩), ?_, b, o + j.toNat * m, rfl, ?_⟩
    · have hb : 0 ≤ j ∧ j < (n : Int) := ⟨h0, h1⟩
      simp [execOp, e1, hj, Instr.indexAt, asIntOf, run_underlying t1, hb, Instr.sureAddr, sizeOf, typeInfo, t2, t3, Addr.add_lit]
    · subst hB; exact (hc.drop _).take _
def cut {α : Type} (xs : List α) (l h : Int) : List α := (xs.drop l.toNat).take (h.toNat - l.toNat)
theorem o_cut {α : Type} {T E n : Nat} {cc : α → List Asn} {xs : List α} {x : Operand} {lo hi : Option Operand} {k k' : IntKind} {l h : Int} (hT : elemT P T = some (E, n)) (hx : lk x = AL n cc xs)
    (hl : (lo = none ∧ l = 0) ∨ ∃ o, lo = some o ∧ lk o = z1z k l) (hh : (hi = none ∧ h = (xs.length : Int)) ∨ ∃ o, hi = some o ∧ lk o = z1z k' h) (h0 : 0 ≤ l) (h1 : l ≤ h) (h2 : h ≤ (xs.length : Int)) :
    z2o P c ⟨d, .slice T x lo hi none, ty, pos, aft, gd⟩ lk [] [] [] (AL n cc (cut xs l h)) := by
  obtain ⟨inf, t1, t2, t3⟩ := elemT_spec hT
  refine z58 (by intro cs b h; cases h) (fun k h => ⟨x, by simp [Op.operands], ?_⟩) fun η ρo H _ ho => ?_
  · rw [hx]
    refine z9b (fun A hA => ?_) h
    obtain ⟨r, hr, hA⟩ := List.mem_flatten.1 hA
    obtain ⟨y, hy, rfl⟩ := List.mem_map.1 hr
    exact List.mem_flatten.2 ⟨_, List.mem_map.2 ⟨y, List.mem_of_mem_drop (List.mem_of_mem_take hy), rfl⟩, hA⟩
  · have hh' := ho x (by simp [Op.operands]); rw [hx] at hh'
    have hh'' := hh'
    obtain ⟨a, cp, e, g1, g2, g3, g4⟩ := hh'
    rw [List.length_map] at g1
    refine ⟨sliced a l.toNat h.toNat cp n, ?_, ?_⟩
    · have hel : P.elem T = E := by simp [Program.elem, t1]
      have hu : P.underlying T = some (.slice (P.elem T)) := by rw [hel]; exact t1
      have hsz : (sizeOf (P.elem T)).run P η.w = .ok n η.w := by rw [hel]; simp [sizeOf, typeInfo, t2, t3]
      have hlen : (xs.map cc).length = xs.length := by simp
      rw [hlen] at e
      rcases hl with ⟨rfl, rfl⟩ | ⟨o, rfl, ho1⟩ <;> rcases hh with ⟨rfl, rfl⟩ | ⟨o', rfl, ho2⟩
      · have := run_slice_all (P := P) η.w T a xs.length cp hu
        rw [hsz] at this
        simp [execOp, e, run_sliceAt_slice η.w T _ _ _ _ hu, this]
      · have e2 := ho o' (by simp [Op.operands]); rw [ho2] at e2; obtain ⟨e2, _⟩ := e2
        have := run_slice_h (P := P) η.w T a xs.length cp hu k' h (by omega) (by omega)
        rw [hsz] at this
        simp [execOp, e, e2, run_sliceAt_slice η.w T _ _ _ _ hu, this]
      · have e1 := ho o (by simp [Op.operands]); rw [ho1] at e1; obtain ⟨e1, _⟩ := e1
        have := run_slice_l (P := P) η.w T a xs.length cp hu k l h0 h1
        rw [hsz] at this
        simp [execOp, e, e1, run_sliceAt_slice η.w T _ _ _ _ hu, this]
      · have e1 := ho o (by simp [Op.operands]); rw [ho1] at e1; obtain ⟨e1, _⟩ := e1
        have e2 := ho o' (by simp [Op.operands]); rw [ho2] at e2; obtain ⟨e2, _⟩ := e2
        have := run_slice_lh (P := P) η.w T a xs.length cp hu k k' l h h0 h1 (by omega)
        rw [hsz] at this
        simp [execOp, e, e1, e2, run_sliceAt_slice η.w T _ _ _ _ hu, this]
    · have := list_slice (l := l.toNat) (h := h.toNat) (by rw [← e]; exact hh'') (by omega) (by rw [List.length_map]; omega)
      unfold cut
      show (zal n (((xs.drop l.toNat).take (h.toNat - l.toNat)).map cc)).p η _
      rw [List.map_take, List.map_drop]
      exact this
theorem o_cutS {T : Nat} {s : ByteArray} {x : Operand} {lo hi : Option Operand} {k k' : IntKind} {l h : Int} (hT : P.underlying T = some .string) (hx : lk x = z1h s)
    (hl : (lo = none ∧ l = 0) ∨ ∃ o, lo = some o ∧ lk o = z1z k l) (hh : (hi = none ∧ h = (s.size : Int)) ∨ ∃ o, hi = some o ∧ lk o = z1z k' h) (h0 : 0 ≤ l) (h1 : l ≤ h) (h2 : h ≤ (s.size : Int)) :
    z2o P c ⟨d, .slice T x lo hi none, ty, pos, aft, gd⟩ lk [] [] [] (z1h (cutS s l h)) := by
  refine z58 (by intro cs b h; cases h) (fun k h => h.elim) fun η ρo H _ ho => ?_
  have hh' := ho x (by simp [Op.operands]); rw [hx] at hh'
  obtain ⟨e, g⟩ := hh'
  refine ⟨.string (cutS s l h), ?_, rfl, Nat.le_trans cutS_size g⟩
  have b : ∀ (k : IntKind) (i : Int) (y : Nat) (co : BoundsCode), 0 ≤ i → i ≤ (y : Int) → (Instr.sliceBound (.int k i) y co).run P η.w = .ok i.toNat η.w := fun k i y co h0 h1 => run_sliceBound η.w k i y co h0 h1
  have eh : (h.toNat : Int) = h := Int.toNat_of_nonneg (by omega)
  rcases hl with ⟨rfl, rfl⟩ | ⟨o, rfl, ho1⟩ <;> rcases hh with ⟨rfl, rfl⟩ | ⟨o', rfl, ho2⟩
  · simp [execOp, e, run_sliceAt_string η.w T _ _ _ _ hT, Instr.slice, run_underlying hT, Instr.sliceBounds, cutS]
  · have e2 := ho o' (by simp [Op.operands]); rw [ho2] at e2; obtain ⟨e2, _⟩ := e2
    simp [execOp, e, e2, run_sliceAt_string η.w T _ _ _ _ hT, Instr.slice, run_underlying hT, Instr.sliceBounds, cutS, b k' h s.size _ (by omega) h2]
  · have e1 := ho o (by simp [Op.operands]); rw [ho1] at e1; obtain ⟨e1, _⟩ := e1
    simp [execOp, e, e1, run_sliceAt_string η.w T _ _ _ _ hT, Instr.slice, run_underlying hT, Instr.sliceBounds, cutS, b k l s.size _ h0 h1]
  · have e1 := ho o (by simp [Op.operands]); rw [ho1] at e1; obtain ⟨e1, _⟩ := e1
    have e2 := ho o' (by simp [Op.operands]); rw [ho2] at e2; obtain ⟨e2, _⟩ := e2
    simp [execOp, e, e1, e2, run_sliceAt_string η.w T _ _ _ _ hT, Instr.slice, run_underlying hT, Instr.sliceBounds, cutS, b k' h s.size _ (by omega) h2, b k l h.toNat _ h0 (by omega)]
end
end Go.Proofs.YtngimdmkomkeoaaGreat.K
