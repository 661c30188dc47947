/- Owned rows: append, elements, length, make, a beginning of a row; slices of slices; strings; calls that borrow rows. -/
import Derived.Test.YtngimdmkomkeoaaGreatCoreH
set_option linter.unusedVariables false
set_option linter.unusedSimpArgs false
namespace Go.Proofs.YtngimdmkomkeoaaGreat.K
open Go.RowKit
section
variable {P : Program} {c : Ctx} {lk : Operand → Asn} {d : Option Nat} {ty : TypeId} {pos : String} {aft : Array Edge} {gd : Option (Nat × Bool)}
def appT (P : Program) (T : Nat) : Option (Nat × Nat × Nat) :=
  match P.underlying T with
  | some (.slice e) => match P.info? e with
    | some i => match i.zero with
      | some z => if z.cells.size = i.size then if 0 < i.size then if 0 < i.bytes then some (e, i.size, i.bytes) else none else none else none
      | none => none
    | none => none
  | _ => none
theorem appT_spec {T E n by_ : Nat} (h : appT P T = some (E, n, by_)) : ∃ i z, P.underlying T = some (.slice E) ∧ P.info? E = some i ∧ i.zero = some z ∧ i.size = n ∧ i.bytes = by_ ∧ z.cells.size = n ∧ 0 < n ∧ 0 < by_ := by
  unfold appT at h
  split at h
  · rename_i e hu
    split at h
    · rename_i i hi
      split at h
      · rename_i z hz
        split at h
        · split at h
          · split at h
            · simp only [Option.some.injEq, Prod.mk.injEq] at h
              obtain ⟨rfl, rfl, rfl⟩ := h
              exact ⟨i, z, hu, hi, hz, rfl, rfl, by assumption, by assumption, by assumption⟩
            · cases h
          · cases h
        · cases h
      · cases h
    · cases h
  · cases h
theorem blk_own {v : Value} (h : ∀ a, v ≠ .pointer a) : blk v = v.ownBlock := by
  cases v with
  | pointer a => exact absurd rfl (h a)
  | slice a n c => cases a <;> rfl
  | _ => rfl
theorem ownsRow_not_ptr {w : World} {base e size n : Nat} {v : Value} {xs : List Value} (h : w.ownsRow base e size v n xs) : ∀ a, v ≠ .pointer a := by
  intro a e'
  subst e'
  rcases h.2 with ⟨h1, _⟩ | ⟨_, _, _, h1, _⟩ <;> cases h1
theorem oneCells {η : Env} {As : List Asn} {vs : List Value} (h : z5a η As vs) (h1 : OneL As) : ∀ u ∈ vs, u.oneCell' = true := by
  intro v hv
  obtain ⟨j, hj⟩ := List.getElem?_of_mem hv
  have hl := h.length
  obtain ⟨B, hB⟩ : ∃ B, As[j]? = some B := ⟨_, List.getElem?_eq_getElem (by have := (List.getElem?_eq_some_iff.1 hj).1; omega)⟩
  obtain ⟨u, hu, hp⟩ := h.get j B hB
  rw [hj] at hu; cases hu
  exact h1.one B (List.mem_of_getElem? hB) η v hp
def RowIn (n : Nat) (rows : List (List Asn)) (η : Env) (x : Value) : Prop :=
  ∃ a cp, x = .slice a rows.length cp ∧ (∀ r ∈ rows, r.length = n) ∧ (rows.length = 0 ∨ ∃ b o us, a = some ⟨b, o, none⟩ ∧ z5a η rows.flatten us ∧ ∀ (j : Nat) u, us[j]? = some u → η.w.cell? ⟨b, o + j, none⟩ = some u)
theorem RowIn.of {n : Nat} {rows : List (List Asn)} {η : Env} {x : Value} (h : (zal n rows).p η x) : RowIn n rows η x := by
  obtain ⟨a, cp, e, _, _, g3, g4⟩ := h
  refine ⟨a, cp, e, g3, g4.imp id ?_⟩
  rintro ⟨b, o, ea, _, us, h1, h2⟩
  exact ⟨b, o, us, ea, h1, h2⟩
theorem RowIn.own {n E : Nat} {rows : List (List Asn)} {η : Env} {h : Value} (hh : Holds η h (.row E n rows)) : RowIn n rows η h := by
  obtain ⟨hr, xs, hown, hxs⟩ := hh
  rcases hown.2 with ⟨e, h0⟩ | ⟨g, cap, cur, e, _, h1, h2, h3, h4, h5⟩
  · exact ⟨none, 0, by rw [e, h0], hr, .inl h0⟩
  · refine ⟨some ⟨g, 0, none⟩, cap, e, hr, .inr ⟨g, 0, xs, rfl, hxs, fun j u hj => ?_⟩⟩
    rw [Nat.zero_add, cell_of_row _ _ _ _ _ _ h1, ← Array.getElem?_toList]
    rw [← h5, List.getElem?_take] at hj
    split at hj
    · exact hj
    · cases hj
theorem append_core {T E n by_ : Nat} {rows rows2 : List (List Asn)} (hT : appT P T = some (E, n, by_)) (h1 : OneL rows2.flatten) (hsz : (rows.length + rows2.length) * by_ ≤ 140737488355328)
    {η : Env} {H : Heap} (hH : z2h c η H) {K : Nat} (hK : H K = none) (hKm : ∀ j y, H j = some y → ¬ y.keys K) {v x : Value} {xs : List Value} (hrows : ∀ r ∈ rows, r.length = n) (hown : η.w.ownsRow 0 E n v rows.length xs) (hxs : z5a η rows.flatten xs)
    (hkr : ¬ z39 rows.flatten K) (hkr2 : ¬ z39 rows2.flatten K) (hb : ∀ b, blk v = some b → ¬ η.I b ∧ (c.w0.heap.size ≤ b ∨ c.X b) ∧ ∀ k y, H k = some y → blk (η.ρ k) ≠ some b) (hx : RowIn n rows2 η x) :
    ∃ v' η', (Builtin.append_ #[T, T] ty #[v, x]).run P η.w = .ok v' η'.w ∧ StepTo [K] η η' ∧ z2h c η' (H.upd K (some (.row E n (rows ++ rows2)))) ∧ (z0i K).p η' v' := by
  obtain ⟨i, z, t1, t2, t3, t4, t5, t6, t7, t8⟩ := appT_spec hT
  obtain ⟨a, cp, rfl, g3, g4⟩ := hx
  have hbv : blk v = v.ownBlock := blk_own (ownsRow_not_ptr hown)
  have hall : ∀ r ∈ rows ++ rows2, r.length = n := fun r hr => by
    rcases List.mem_append.1 hr with h | h
    · exact hrows r h
    · exact g3 r h
  have fin : ∀ (v' : Value) (w' : World) (news : List Value), z5a η rows2.flatten news → w'.ownsRow 0 E n v' (rows.length + rows2.length) (xs ++ news) → η.w.grownBy w' v.ownBlock → (v'.ownBlock = v.ownBlock ∨ v'.ownBlock = some η.w.heap.size) → v'.oneCell' = true →
      (∀ b, v'.ownBlock = some b → b < w'.heap.size) →
      ∃ η' : Env, η'.w = w' ∧ StepTo [K] η η' ∧ z2h c η' (H.upd K (some (.row E n (rows ++ rows2)))) ∧ (z0i K).p η' v' := by
    intro v' w' news hnews hown' hg hat hone hlt
    have hI : ∀ b, η.I b → w'.heap[b]? = η.w.heap[b]? := fun b hbI => hg.block b (hH.lt b hbI) fun e => (hb b (by rw [hbv]; exact e.symm)).1 hbI
    have hH1 : z2h c ⟨w', η.I, η.ρ⟩ H := hH.world v.ownBlock hg.size (fun b hb1 hb2 => hg.block b hb1 hb2) (fun b hbe => hb b (by rw [hbv]; exact hbe)) hg.os hg.tape hg.output
    have hbv' : blk v' = v'.ownBlock := blk_own (ownsRow_not_ptr hown')
    have hle : ∀ ks : Nat → Prop, Le ks η ⟨w', η.I, η.ρ⟩ := fun ks => ⟨fun _ h => h, hI, fun _ _ => rfl⟩
    have hH2 := hH1.add K v' (.row E n (rows ++ rows2)) hK hKm (by
        intro hk
        have : z39 (rows ++ rows2).flatten K := hk
        rw [List.flatten_append] at this
        obtain ⟨A, hA, hk'⟩ := this
        rcases List.mem_append.1 hA with h | h
        · exact hkr ⟨A, h, hk'⟩
        · exact hkr2 ⟨A, h, hk'⟩) ⟨hall, xs ++ news, by rw [List.length_append]; exact hown', by rw [List.flatten_append]; exact (hxs.mono (hle _)).append (hnews.mono (hle _))⟩ ?_ ?_
    · refine ⟨⟨w', η.I, fun j => if j = K then v' else η.ρ j⟩, rfl, ⟨fun _ h => h, hI, fun k hk => ?_⟩, hH2, ?_, hone⟩
      · have : k ≠ K := by simpa using hk
        simp [this]
      · simp
    · intro b hbe
      rw [hbv'] at hbe
      refine ⟨fun hbI => ?_, hlt b hbe, ?_⟩
      · rcases hat with h | h
        · rw [h, ← hbv] at hbe; exact (hb b hbe).1 hbI
        · rw [h] at hbe; cases hbe; exact Nat.lt_irrefl _ (hH.lt _ hbI)
      · rcases hat with h | h
        · rw [h, ← hbv] at hbe; exact (hb b hbe).2.1
        · rw [h] at hbe; cases hbe; exact .inl hH.size
    · intro b k y hbe hk hbk
      rw [hbv'] at hbe
      rcases hat with h | h
      · rw [h, ← hbv] at hbe; exact (hb b hbe).2.2 k y hk hbk
      · rw [h] at hbe; cases hbe; exact Nat.lt_irrefl _ (hH.own k y _ hk hbk).2.1
  have own1 : ∀ {w' : World} {v' : Value} {m : Nat} {ys : List Value}, w'.ownsRow 0 E n v' m ys → v'.oneCell' = true ∧ ∀ b, v'.ownBlock = some b → b < w'.heap.size := by
    intro w' v' m ys h
    refine ⟨?_, fun b hb => (h.lt b hb).2⟩
    rcases h.2 with ⟨rfl, _⟩ | ⟨g, cap, cur, rfl, _⟩ <;> rfl
  by_cases hm : rows2.length = 0
  · have hr2 : rows2 = [] := List.eq_nil_of_length_eq_zero hm
    subst hr2
    have hrun : (Builtin.append_ #[T, T] ty #[v, .slice a 0 cp]).run P η.w = .ok v η.w := by
      rcases hown.2 with ⟨rfl, hn0⟩ | ⟨g, cap, cur, rfl, _, hg, hnc, _⟩
      · simp [Builtin.append_, run_underlying t1, sizeOf, typeInfo, t2, Builtin.lenOf]
        cases a <;> simp [Builtin.firstCells, loadCells, loadCellsFrom, hn0]
      · simp [Builtin.append_, run_underlying t1, sizeOf, typeInfo, t2, Builtin.lenOf, hnc]
        cases a <;> simp [Builtin.firstCells, loadCells, loadCellsFrom, storeCells]
    obtain ⟨η', e, f1, f2, f3⟩ := fin v η.w [] .nil (by simpa using hown) ⟨rfl, rfl, rfl, Nat.le_refl _, fun _ _ _ => rfl⟩ (.inl rfl) (own1 hown).1 (own1 hown).2
    exact ⟨v, η', by rw [e]; exact hrun, f1, f2, f3⟩
  · rcases g4 with g4 | ⟨b, o, us, rfl, hus, hcells⟩
    · exact absurd g4 hm
    · have hl : us.length = rows2.length * n := by rw [← hus.length]; exact flatten_len g3
      have hbound : rows.length + rows2.length ≤ 140737488355328 := Nat.le_trans (Nat.le_mul_of_pos_right _ t8) hsz
      obtain ⟨v', w', hr, h2, h3, h4, h5⟩ := run_append_own_at (P := P) η.w 0 T ty E i z n by_ t1 t2 t3 t4 t5 t6 t7 v rows.length xs hown ⟨b, o, none⟩ rows2.length cp us hl (fun j u hj => by rw [Addr.add_lit]; exact hcells j u hj) (oneCells hus h1)
        (by unfold maxLen; omega) hsz (Nat.zero_le _)
      obtain ⟨η', e, f1, f2, f3⟩ := fin v' w' us hus h2 h3 h5 (own1 h2).1 (own1 h2).2
      exact ⟨v', η', by rw [e]; exact hr, f1, f2, f3⟩
theorem exec_append {s x : Operand} {T : Nat} {ρo : Operand → Value} {w w' : World} {v' : Value} {Kk : Value → World → Prop} (hrun : (Builtin.append_ #[T, T] ty #[ρo s, ρo x]).run P w = .ok v' w') (hk : Kk v' w') :
    Exec P ⟨d, .call ⟨.builtin .append, #[s, x], #[T, T]⟩, ty, pos, aft, gd⟩ ρo w Kk := by
  unfold Exec
  have : (execOp ρo ⟨d, .call ⟨.builtin .append, #[s, x], #[T, T]⟩, ty, pos, aft, gd⟩).run P w = .ok (.value v') w' := by
    simp only [execOp, resolve, invoke, builtin, Sem.run_bind, Sem.run_pure, Result.andThen_ok, List.map_toArray, List.map_cons, List.map_nil, hrun]
  rw [this]; exact hk
theorem o_appendO {T E n by_ : Nat} {s x : Operand} {K K' : Nat} {rows rows2 : List (List Asn)} (hT : appT P T = some (E, n, by_)) (hs : lk s = z0i K) (hx : lk x = zal n rows2) (h1 : OneL rows2.flatten) (hsz : (rows.length + rows2.length) * by_ ≤ 140737488355328) (hne : K' ≠ K) :
    z2o P c ⟨d, .call ⟨.builtin .append, #[s, x], #[T, T]⟩, ty, pos, aft, gd⟩ lk [(K, .row E n rows)] [(K', some (.row E n (rows ++ rows2))), (K, none)] [K'] (z0i K') where
  run := by
    intro η ρo H hH hop hn hfr hopk
    have hK := hn K _ (List.mem_singleton.2 rfl)
    have hsv := hop s (by simp [Op.operands, Call.operands]); rw [hs] at hsv
    have hxv := hop x (by simp [Op.operands, Call.operands]); rw [hx] at hxv
    have hxk := hopk x (by simp [Op.operands, Call.operands])
    rw [hx] at hxk
    obtain ⟨hr, xs, hown, hxs⟩ := hH.holds K _ hK
    have hf := hfr K' (by simp)
    have h0 : z2h c η (H.upd K none) := hH.sub fun k y hk => by
      rcases z9k hk with ⟨_, e⟩ | ⟨_, e⟩
      · cases e
      · exact e
    have hup : ∀ k y, H.upd K none k = some y → k ≠ K ∧ H k = some y := fun k y hk => by
      rcases z9k hk with ⟨_, e⟩ | ⟨h, e⟩
      · cases e
      · exact ⟨h, e⟩
    have hmem : K' ∈ [K'] := by simp
    obtain ⟨v', η', hrun, f1, f2, f3⟩ := append_core (ty := ty) (x := ρo x) hT h1 hsz h0 (K := K') (by unfold Heap.upd; rw [beq_ne hne]; exact hf.1) (fun j y hj => hf.2 j y (hup j y hj).2) hr hown hxs (hf.2 K _ hK) (fun hk => absurd hmem (hxk K' hk))
      (fun b hb => ⟨(hH.own K _ b hK hb).1, (hH.own K _ b hK hb).2.2, fun k y hk hbk => (hup k y hk).1 (hH.apart k K y _ b (hup k y hk).2 hK hbk hb)⟩) (RowIn.of hxv)
    rw [← hsv.1] at hrun
    refine exec_append hrun ⟨η', rfl, f1, ?_, f3⟩
    exact f2
  keys := fun k h => .inr (.inr (by have : k = K' := h; simp [this]))
  ukeys := fun j y h k hk => by
    simp only [List.mem_cons, Prod.mk.injEq, Option.some.injEq, List.not_mem_nil, or_false, reduceCtorEq, and_false] at h
    obtain ⟨_, rfl⟩ := h
    have : z39 (rows ++ rows2).flatten k := hk
    rw [List.flatten_append] at this
    obtain ⟨A, hA, hk'⟩ := this
    rcases List.mem_append.1 hA with h | h
    · exact .inr (.inl ⟨K, _, List.mem_singleton.2 rfl, A, h, hk'⟩)
    · exact .inl ⟨x, by simp [Op.operands, Call.operands], by rw [hx]; exact ⟨A, h, hk'⟩⟩
  dom := fun j y h => by
    simp only [List.mem_cons, Prod.mk.injEq, List.not_mem_nil, or_false] at h
    rcases h with ⟨rfl, _⟩ | ⟨rfl, _⟩
    · exact .inr (by simp)
    · exact .inl ⟨_, List.mem_singleton.2 rfl⟩
  sel := by intro cs b h; cases h
abbrev z1m : Asn := AEq (.slice none 0 0)
theorem o_lenO {T K E n : Nat} {x : Operand} {rows : List (List Asn)} {m : Int} (hT : z6p P T = true) (hx : lk x = z0i K) (hm : (rows.length : Int) = m) :
    z2o P c ⟨d, .call ⟨.builtin .len, #[x], #[T]⟩, ty, pos, aft, gd⟩ lk [(K, .row E n rows)] [] [] (z1z .i64 m) where
  run := by
    intro η ρo H hH hop hn _ _
    have hsv := hop x (by simp [Op.operands, Call.operands]); rw [hx] at hsv
    obtain ⟨hr, xs, hown, hxs⟩ := hH.holds K _ (hn K _ (List.mem_singleton.2 rfl))
    obtain ⟨a, cp, e, hml⟩ : ∃ a cp, η.ρ K = .slice a rows.length cp ∧ rows.length ≤ maxLen := by
      rcases hown.2 with ⟨e, h0⟩ | ⟨g, cap, cur, e, _, _, h1, h2, _⟩
      · exact ⟨none, 0, by rw [e, h0], by rw [h0]; exact Nat.zero_le _⟩
      · exact ⟨_, cap, e, by omega⟩
    have hsl : ∃ el, P.underlying T = some (.slice el) := by
      unfold z6p at hT; split at hT
      · exact ⟨_, by assumption⟩
      · cases hT
    obtain ⟨el, hel⟩ := hsl
    unfold Exec
    have hrun : (execOp ρo ⟨d, .call ⟨.builtin .len, #[x], #[T]⟩, ty, pos, aft, gd⟩).run P η.w = .ok (.value (.int .i64 rows.length)) η.w := by
      have e1 : ρo x = .slice a rows.length cp := hsv.1.trans e
      simp [execOp, resolve, invoke, builtin, e1, Builtin.len_, run_underlying hel, goInt]
    rw [hrun]
    refine ⟨η, rfl, ⟨fun _ h => h, fun _ _ => rfl, fun _ _ => rfl⟩, hH, by rw [hm], ?_⟩
    rw [← hm]
    unfold maxLen at hml
    simp [IntKind.has, IntKind.min, IntKind.max, IntKind.signed, IntKind.bits]; omega
  keys := fun k h => h.elim
  ukeys := fun j x h => by simp at h
  dom := fun j x h => by simp at h
  sel := by intro cs b h; cases h
theorem o_indexO {T E' E n K : Nat} {x i : Operand} {rows : List (List Asn)} {k : IntKind} {j : Int} (hT : elemT P T = some (E', n)) (hx : lk x = z0i K) (hi : lk i = z1z k j) (h0 : 0 ≤ j) (h1 : j < (rows.length : Int)) :
    z2o P c ⟨d, .indexAddr T x i, ty, pos, aft, gd⟩ lk [(K, .row E n rows)] [] [] (ARowAt K (j.toNat * n)) where
  run := by
    intro η ρo H hH hop hn _ _
    have hsv := hop x (by simp [Op.operands]); rw [hx] at hsv
    have hj := hop i (by simp [Op.operands]); rw [hi] at hj; obtain ⟨hj, _⟩ := hj
    obtain ⟨inf, t1, t2, t3⟩ := elemT_spec hT
    obtain ⟨hr, xs, hown, hxs⟩ := hH.holds K _ (hn K _ (List.mem_singleton.2 rfl))
    rcases hown.2 with ⟨e, h2⟩ | ⟨g, cap, cur, e, _⟩
    · omega
    · unfold Exec
      have hrun : (execOp ρo ⟨d, .indexAddr T x i, ty, pos, aft, gd⟩).run P η.w = .ok (.value (.pointer (some ⟨g, j.toNat * n, none⟩))) η.w := by
        have e1 : ρo x = .slice (some ⟨g, 0, none⟩) rows.length cap := hsv.1.trans e
        have hb : 0 ≤ j ∧ j < (rows.length : Int) := ⟨h0, h1⟩
        simp [execOp, e1, hj, Instr.indexAt, asIntOf, run_underlying t1, hb, sizeOf, typeInfo, t2, t3, Addr.add_lit]
      rw [hrun]
      exact ⟨η, rfl, ⟨fun _ h => h, fun _ _ => rfl, fun _ _ => rfl⟩, hH, g, _, _, e, rfl⟩
  keys := fun k h => .inl ⟨x, by simp [Op.operands], by rw [hx]; exact h⟩
  ukeys := fun j x h => by simp at h
  dom := fun j x h => by simp at h
  sel := by intro cs b h; cases h
theorem o_fieldAddrR {S f off : Nat} {x : Operand} {K o : Nat} (hP : z1q P S f = some off) (hx : lk x = ARowAt K o) : z2o P c ⟨d, .fieldAddr S x f, ty, pos, aft, gd⟩ lk [] [] [] (ARowAt K (o + off)) := by
  obtain ⟨fs, fd, i, h1, h2, h3, h4, h5⟩ := fieldOff_spec hP
  refine z58 (by intro cs b h; cases h) (fun k h => ⟨x, by simp [Op.operands], by rw [hx]; exact h⟩) fun η ρo H _ ho => ?_
  have hh := ho x (by simp [Op.operands]); rw [hx] at hh
  obtain ⟨b, n, cp, e1, e2⟩ := hh
  refine ⟨.pointer (some ⟨b, o + off, none⟩), ?_, b, n, cp, e1, rfl⟩
  simp [execOp, e2, Instr.fieldAt, run_underlying h1, h2, Instr.sureAddr, fieldPlace, sizeOf, typeInfo, h3, h4, h5, Addr.add_lit]
theorem rowCells {η : Env} {h v : Value} {E n o : Nat} {rows : List (List Asn)} (hh : Holds η h (.row E n rows)) (hv : ∃ b m cp, h = .slice (some ⟨b, 0, none⟩) m cp ∧ v = .pointer (some ⟨b, o, none⟩)) :
    ∃ b cur cap, h = .slice (some ⟨b, 0, none⟩) rows.length cap ∧ v = .pointer (some ⟨b, o, none⟩) ∧ η.w.heap[b]? = some (.cells cur E (0, 0)) ∧ rows.length ≤ cap ∧ cap ≤ maxLen ∧ cur.size = cap * n ∧ z5a η rows.flatten (cur.toList.take (rows.length * n)) := by
  obtain ⟨b, m, cp, rfl, rfl⟩ := hv
  obtain ⟨hr, xs, hown, hxs⟩ := hh
  rcases hown.2 with ⟨e, _⟩ | ⟨g, cap, cur, e, _, h1, h2, h3, h4, h5⟩
  · cases e
  · simp only [Value.slice.injEq, Option.some.injEq, Addr.mk.injEq] at e
    obtain ⟨⟨rfl, _⟩, rfl, rfl⟩ := e
    exact ⟨b, cur, _, rfl, rfl, h1, h2, h3, h4, by rw [h5]; exact hxs⟩
theorem o_loadR {T : Nat} {x : Operand} {K o E n : Nat} {rows : List (List Asn)} {B : Asn} (hT : scalT P T = true) (hx : lk x = ARowAt K o) (hB : rows.flatten[o]? = some B) : z2o P c ⟨d, .load T x, ty, pos, aft, gd⟩ lk [(K, .row E n rows)] [] [] B where
  run := by
    intro η ρo H hH hop hn _ _
    have hp := hop x (by simp [Op.operands]); rw [hx] at hp
    obtain ⟨b, cur, cap, e1, e2, e3, _, _, _, e4⟩ := rowCells (hH.holds K _ (hn K _ (List.mem_singleton.2 rfl))) hp
    obtain ⟨u, hu, hup⟩ := e4.get o B hB
    have hc : η.w.cell? ⟨b, o, none⟩ = some u := by
      rw [cell_of_row _ _ _ _ _ _ e3]
      rw [List.getElem?_take] at hu
      split at hu
      · simpa using hu
      · cases hu
    unfold Exec
    have hrun : (execOp ρo ⟨d, .load T x, ty, pos, aft, gd⟩).run P η.w = .ok (.value u) η.w := by
      simp [execOp, e2, Instr.loadAt, Instr.sureAddr, z8k hT hc]
    rw [hrun]
    exact ⟨η, rfl, ⟨fun _ h => h, fun _ _ => rfl, fun _ _ => rfl⟩, hH, hup⟩
  keys := fun k h => .inr (.inl ⟨K, _, List.mem_singleton.2 rfl, B, List.mem_of_getElem? hB, h⟩)
  ukeys := fun j x h => by simp at h
  dom := fun j x h => by simp at h
  sel := by intro cs b h; cases h
end
end Go.Proofs.YtngimdmkomkeoaaGreat.K
