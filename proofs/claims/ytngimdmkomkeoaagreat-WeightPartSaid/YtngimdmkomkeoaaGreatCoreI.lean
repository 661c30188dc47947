import Derived.Test.YtngimdmkomkeoaaGreatCoreH
set_option linter.unusedVariables false
set_option linter.unusedSimpArgs false
namespace Go.Proofs.YtngimdmkomkeoaaGreat.K
open Go.RowKit
section
variable {P : Program} {c : cS} {lk : Operand → ae} {d : Option Nat} {ty : TypeId} {pos : String} {aft : Array Edge} {gd : Option (Nat × Bool)}
def eX (P : Program) (T : Nat) : Option (Nat × Nat × Nat) :=
  match P.underlying T with
  | some (.slice e) => match P.info? e with
    | some i => match i.zero with
      | some z => if z.cells.size = i.size then if 0 < i.size then if 0 < i.bytes then some (e, i.size, i.bytes) else none else none else none
      | none => none
    | none => none
  | _ => none
theorem Ca {T E n by_ : Nat} (h : eX P T = some (E, n, by_)) : ∃ i z, P.underlying T = some (.slice E) ∧ P.info? E = some i ∧ i.zero = some z ∧ i.size = n ∧ i.bytes = by_ ∧ z.cells.size = n ∧ 0 < n ∧ 0 < by_ := by
  unfold eX at h
  split at h
  · rename_i e hu
    split at h
    · rename_i i hi
      split at h
      · rename_i z hz
        split at h
        · split at h
          · split at h
            · simp only [Option.some.injEq, Prod.mk.injEq] at h
              obtain ⟨rfl, rfl, rfl⟩ := h
              exact ⟨i, z, hu, hi, hz, rfl, rfl, by assumption, by assumption, by assumption⟩
            · cases h
          · cases h
        · cases h
      · cases h
    · cases h
  · cases h
theorem B6 {v : Value} (h : ∀ a, v ≠ .pointer a) : c8 v = v.ownBlock := by
  cases v with
  | pointer a => exact absurd rfl (h a)
  | slice a n c => cases a <;> rfl
  | _ => rfl
theorem DL {w : World} {base e size n : Nat} {v : Value} {xs : List Value} (h : w.ownsRow base e size v n xs) : ∀ a, v ≠ .pointer a := by
  intro a e'
  subst e'
  rcases h.2 with ⟨h1, _⟩ | ⟨_, _, _, h1, _⟩ <;> cases h1
theorem BQ {η : bA} {As : List ae} {vs : List Value} (h : bw η As vs) (h1 : cQ As) : ∀ u ∈ vs, u.oneCell' = true := by
  intro v hv
  obtain ⟨j, hj⟩ := List.getElem?_of_mem hv
  have hl := h.length
  obtain ⟨B, hB⟩ : ∃ B, As[j]? = some B := ⟨_, List.getElem?_eq_getElem (by have := (List.getElem?_eq_some_iff.1 hj).1; omega)⟩
  obtain ⟨u, hu, hp⟩ := h.get j B hB
  rw [hj] at hu; cases hu
  exact h1.one B (List.mem_of_getElem? hB) η v hp
def lZ (n : Nat) (rows : List (List ae)) (η : bA) (x : Value) : Prop :=
  ∃ a cp, x = .slice a rows.length cp ∧ (∀ r ∈ rows, r.length = n) ∧ (rows.length = 0 ∨ ∃ b o us, a = some ⟨b, o, none⟩ ∧ bw η rows.flatten us ∧ ∀ (j : Nat) u, us[j]? = some u → η.w.cell? ⟨b, o + j, none⟩ = some u)
theorem lZ.of {n : Nat} {rows : List (List ae)} {η : bA} {x : Value} (h : (dR n rows).p η x) : lZ n rows η x := by
  obtain ⟨a, cp, e, _, _, g3, g4⟩ := h
  refine ⟨a, cp, e, g3, g4.imp id ?_⟩
  rintro ⟨b, o, ea, _, us, h1, h2⟩
  exact ⟨b, o, us, ea, h1, h2⟩
theorem lZ.own {n E : Nat} {rows : List (List ae)} {η : bA} {h : Value} (hh : Holds η h (.row E n rows)) : lZ n rows η h := by
  obtain ⟨hr, xs, hown, hxs⟩ := hh
  rcases hown.2 with ⟨e, h0⟩ | ⟨g, cap, cur, e, _, h1, h2, h3, h4, h5⟩
  · exact ⟨none, 0, by rw [e, h0], hr, .inl h0⟩
  · refine ⟨some ⟨g, 0, none⟩, cap, e, hr, .inr ⟨g, 0, xs, rfl, hxs, fun j u hj => ?_⟩⟩
    rw [Nat.zero_add, cell_of_row _ _ _ _ _ _ h1, ← Array.getElem?_toList]
    rw [← h5, List.getElem?_take] at hj
    split at hj
    · exact hj
    · cases hj
theorem K4 {T E n by_ : Nat} {rows rows2 : List (List ae)} (hT : eX P T = some (E, n, by_)) (h1 : cQ rows2.flatten) (hsz : (rows.length + rows2.length) * by_ ≤ 140737488355328)
    {η : bA} {H : cz} (hH : bZ c η H) {K : Nat} (hK : H K = none) (hKm : ∀ j y, H j = some y → ¬ y.keys K) {v x : Value} {xs : List Value} (hrows : ∀ r ∈ rows, r.length = n) (hown : η.w.ownsRow 0 E n v rows.length xs) (hxs : bw η rows.flatten xs)
    (hkr : ¬ d7 rows.flatten K) (hkr2 : ¬ d7 rows2.flatten K) (hb : ∀ b, c8 v = some b → ¬ η.I b ∧ (c.w0.heap.size ≤ b ∨ c.X b) ∧ ∀ k y, H k = some y → c8 (η.ρ k) ≠ some b) (hx : lZ n rows2 η x) :
    ∃ v' η', (Builtin.append_ #[T, T] ty #[v, x]).run P η.w = .ok v' η'.w ∧ mm [K] η η' ∧ bZ c η' (H.upd K (some (.row E n (rows ++ rows2)))) ∧ (a8 K).p η' v' := by
  obtain ⟨i, z, t1, t2, t3, t4, t5, t6, t7, t8⟩ := Ca hT
  obtain ⟨a, cp, rfl, g3, g4⟩ := hx
  have hbv : c8 v = v.ownBlock := B6 (DL hown)
  have hall : ∀ r ∈ rows ++ rows2, r.length = n := fun r hr => by
    rcases List.mem_append.1 hr with h | h
    · exact hrows r h
    · exact g3 r h
  have fin : ∀ (v' : Value) (w' : World) (news : List Value), bw η rows2.flatten news → w'.ownsRow 0 E n v' (rows.length + rows2.length) (xs ++ news) → η.w.grownBy w' v.ownBlock → (v'.ownBlock = v.ownBlock ∨ v'.ownBlock = some η.w.heap.size) → v'.oneCell' = true →
      (∀ b, v'.ownBlock = some b → b < w'.heap.size) →
      ∃ η' : bA, η'.w = w' ∧ mm [K] η η' ∧ bZ c η' (H.upd K (some (.row E n (rows ++ rows2)))) ∧ (a8 K).p η' v' := by
    intro v' w' news hnews hown' hg hat hone hlt
    have hI : ∀ b, η.I b → w'.heap[b]? = η.w.heap[b]? := fun b hbI => hg.block b (hH.lt b hbI) fun e => (hb b (by rw [hbv]; exact e.symm)).1 hbI
    have hH1 : bZ c ⟨w', η.I, η.ρ⟩ H := hH.world v.ownBlock hg.size (fun b hb1 hb2 => hg.block b hb1 hb2) (fun b hbe => hb b (by rw [hbv]; exact hbe)) hg.os hg.tape hg.output
    have hbv' : c8 v' = v'.ownBlock := B6 (DL hown')
    have hle : ∀ ks : Nat → Prop, Le ks η ⟨w', η.I, η.ρ⟩ := fun ks => ⟨fun _ h => h, hI, fun _ _ => rfl⟩
    have hH2 := hH1.add K v' (.row E n (rows ++ rows2)) hK hKm (by
        intro hk
        have : d7 (rows ++ rows2).flatten K := hk
        rw [List.flatten_append] at this
        obtain ⟨A, hA, hk'⟩ := this
        rcases List.mem_append.1 hA with h | h
        · exact hkr ⟨A, h, hk'⟩
        · exact hkr2 ⟨A, h, hk'⟩) ⟨hall, xs ++ news, by rw [List.length_append]; exact hown', by rw [List.flatten_append]; exact (hxs.mono (hle _)).append (hnews.mono (hle _))⟩ ?_ ?_
    · refine ⟨⟨w', η.I, fun j => if j = K then v' else η.ρ j⟩, rfl, ⟨fun _ h => h, hI, fun k hk => ?_⟩, hH2, ?_, hone⟩
      · have : k ≠ K := by simpa using hk
        simp [this]
      · simp
    · intro b hbe
      rw [hbv'] at hbe
      refine ⟨fun hbI => ?_, hlt b hbe, ?_⟩
      · rcases hat with h | h
        · rw [h, ← hbv] at hbe; exact (hb b hbe).1 hbI
        · rw [h] at hbe; cases hbe; exact Nat.lt_irrefl _ (hH.lt _ hbI)
      · rcases hat with h | h
        · rw [h, ← hbv] at hbe; exact (hb b hbe).2.1
        · rw [h] at hbe; cases hbe; exact .inl hH.size
    · intro b k y hbe hk hbk
      rw [hbv'] at hbe
      rcases hat with h | h
      · rw [h, ← hbv] at hbe; exact (hb b hbe).2.2 k y hk hbk
      · rw [h] at hbe; cases hbe; exact Nat.lt_irrefl _ (hH.own k y _ hk hbk).2.1
  have own1 : ∀ {w' : World} {v' : Value} {m : Nat} {ys : List Value}, w'.ownsRow 0 E n v' m ys → v'.oneCell' = true ∧ ∀ b, v'.ownBlock = some b → b < w'.heap.size := by
    intro w' v' m ys h
    refine ⟨?_, fun b hb => (h.lt b hb).2⟩
    rcases h.2 with ⟨rfl, _⟩ | ⟨g, cap, cur, rfl, _⟩ <;> rfl
  by_cases hm : rows2.length = 0
  · have hr2 : rows2 = [] := List.eq_nil_of_length_eq_zero hm
    subst hr2
    have hrun : (Builtin.append_ #[T, T] ty #[v, .slice a 0 cp]).run P η.w = .ok v η.w := by
      rcases hown.2 with ⟨rfl, hn0⟩ | ⟨g, cap, cur, rfl, _, hg, hnc, _⟩
      · simp [Builtin.append_, run_underlying t1, sizeOf, typeInfo, t2, Builtin.lenOf]
        cases a <;> simp [Builtin.firstCells, loadCells, loadCellsFrom, hn0]
      · simp [Builtin.append_, run_underlying t1, sizeOf, typeInfo, t2, Builtin.lenOf, hnc]
        cases a <;> simp [Builtin.firstCells, loadCells, loadCellsFrom, storeCells]
    obtain ⟨η', e, f1, f2, f3⟩ := fin v η.w [] .nil (by simpa using hown) ⟨rfl, rfl, rfl, Nat.le_refl _, fun _ _ _ => rfl⟩ (.inl rfl) (own1 hown).1 (own1 hown).2
    exact ⟨v, η', by rw [e]; exact hrun, f1, f2, f3⟩
  · rcases g4 with g4 | ⟨b, o, us, rfl, hus, hcells⟩
    · exact absurd g4 hm
    · have hl : us.length = rows2.length * n := by rw [← hus.length]; exact pi g3
      have hbound : rows.length + rows2.length ≤ 140737488355328 := Nat.le_trans (Nat.le_mul_of_pos_right _ t8) hsz
      obtain ⟨v', w', hr, h2, h3, h4, h5⟩ := run_append_own_at (P := P) η.w 0 T ty E i z n by_ t1 t2 t3 t4 t5 t6 t7 v rows.length xs hown ⟨b, o, none⟩ rows2.length cp us hl (fun j u hj => by rw [Addr.add_lit]; exact hcells j u hj) (BQ hus h1)
        (by unfold maxLen; omega) hsz (Nat.zero_le _)
      obtain ⟨η', e, f1, f2, f3⟩ := fin v' w' us hus h2 h3 h5 (own1 h2).1 (own1 h2).2
      exact ⟨v', η', by rw [e]; exact hr, f1, f2, f3⟩
theorem Ka {s x : Operand} {T : Nat} {ρo : Operand → Value} {w w' : World} {v' : Value} {Kk : Value → World → Prop} (hrun : (Builtin.append_ #[T, T] ty #[ρo s, ρo x]).run P w = .ok v' w') (hk : Kk v' w') :
    dJ P ⟨d, .call ⟨.builtin .append, #[s, x], #[T, T]⟩, ty, pos, aft, gd⟩ ρo w Kk := by
  unfold dJ
  have : (execOp ρo ⟨d, .call ⟨.builtin .append, #[s, x], #[T, T]⟩, ty, pos, aft, gd⟩).run P w = .ok (.value v') w' := by
    simp only [execOp, resolve, invoke, builtin, Sem.run_bind, Sem.run_pure, Result.andThen_ok, List.map_toArray, List.map_cons, List.map_nil, hrun]
  rw [this]; exact hk
theorem J3 {T E n by_ : Nat} {s x : Operand} {K K' : Nat} {rows rows2 : List (List ae)} (hT : eX P T = some (E, n, by_)) (hs : lk s = a8 K) (hx : lk x = dR n rows2) (h1 : cQ rows2.flatten) (hsz : (rows.length + rows2.length) * by_ ≤ 140737488355328) (hne : K' ≠ K) :
    cg P c ⟨d, .call ⟨.builtin .append, #[s, x], #[T, T]⟩, ty, pos, aft, gd⟩ lk [(K, .row E n rows)] [(K', some (.row E n (rows ++ rows2))), (K, none)] [K'] (a8 K') where
  run := by
    intro η ρo H hH hop hn hfr hopk
    have hK := hn K _ (List.mem_singleton.2 rfl)
    have hsv := hop s (by simp [Op.operands, Call.operands]); rw [hs] at hsv
    have hxv := hop x (by simp [Op.operands, Call.operands]); rw [hx] at hxv
    have hxk := hopk x (by simp [Op.operands, Call.operands])
    rw [hx] at hxk
    obtain ⟨hr, xs, hown, hxs⟩ := hH.holds K _ hK
    have hf := hfr K' (by simp)
    have h0 : bZ c η (H.upd K none) := hH.sub fun k y hk => by
      rcases iA hk with ⟨_, e⟩ | ⟨_, e⟩
      · cases e
      · exact e
    have hup : ∀ k y, H.upd K none k = some y → k ≠ K ∧ H k = some y := fun k y hk => by
      rcases iA hk with ⟨_, e⟩ | ⟨h, e⟩
      · cases e
      · exact ⟨h, e⟩
    have hmem : K' ∈ [K'] := by simp
    obtain ⟨v', η', hrun, f1, f2, f3⟩ := K4 (ty := ty) (x := ρo x) hT h1 hsz h0 (K := K') (by unfold cz.upd; rw [kr hne]; exact hf.1) (fun j y hj => hf.2 j y (hup j y hj).2) hr hown hxs (hf.2 K _ hK) (fun hk => absurd hmem (hxk K' hk))
      (fun b hb => ⟨(hH.own K _ b hK hb).1, (hH.own K _ b hK hb).2.2, fun k y hk hbk => (hup k y hk).1 (hH.apart k K y _ b (hup k y hk).2 hK hbk hb)⟩) (lZ.of hxv)
    rw [← hsv.1] at hrun
    refine Ka hrun ⟨η', rfl, f1, ?_, f3⟩
    exact f2
  keys := fun k h => .inr (.inr (by have : k = K' := h; simp [this]))
  ukeys := fun j y h k hk => by
    simp only [List.mem_cons, Prod.mk.injEq, Option.some.injEq, List.not_mem_nil, or_false, reduceCtorEq, and_false] at h
    obtain ⟨_, rfl⟩ := h
    have : d7 (rows ++ rows2).flatten k := hk
    rw [List.flatten_append] at this
    obtain ⟨A, hA, hk'⟩ := this
    rcases List.mem_append.1 hA with h | h
    · exact .inr (.inl ⟨K, _, List.mem_singleton.2 rfl, A, h, hk'⟩)
    · exact .inl ⟨x, by simp [Op.operands, Call.operands], by rw [hx]; exact ⟨A, h, hk'⟩⟩
  dom := fun j y h => by
    simp only [List.mem_cons, Prod.mk.injEq, List.not_mem_nil, or_false] at h
    rcases h with ⟨rfl, _⟩ | ⟨rfl, _⟩
    · exact .inr (by simp)
    · exact .inl ⟨_, List.mem_singleton.2 rfl⟩
  sel := by intro cs b h; cases h
abbrev af : ae := fm (.slice none 0 0)
theorem Gm {T K E n : Nat} {x : Operand} {rows : List (List ae)} {m : Int} (hT : ey P T = true) (hx : lk x = a8 K) (hm : (rows.length : Int) = m) :
    cg P c ⟨d, .call ⟨.builtin .len, #[x], #[T]⟩, ty, pos, aft, gd⟩ lk [(K, .row E n rows)] [] [] (aj .i64 m) where
  run := by
    intro η ρo H hH hop hn _ _
    have hsv := hop x (by simp [Op.operands, Call.operands]); rw [hx] at hsv
    obtain ⟨hr, xs, hown, hxs⟩ := hH.holds K _ (hn K _ (List.mem_singleton.2 rfl))
    obtain ⟨a, cp, e, hml⟩ : ∃ a cp, η.ρ K = .slice a rows.length cp ∧ rows.length ≤ maxLen := by
      rcases hown.2 with ⟨e, h0⟩ | ⟨g, cap, cur, e, _, _, h1, h2, _⟩
      · exact ⟨none, 0, by rw [e, h0], by rw [h0]; exact Nat.zero_le _⟩
      · exact ⟨_, cap, e, by omega⟩
    have hsl : ∃ el, P.underlying T = some (.slice el) := by
      unfold ey at hT; split at hT
      · exact ⟨_, by assumption⟩
      · cases hT
    obtain ⟨el, hel⟩ := hsl
    unfold dJ
    have hrun : (execOp ρo ⟨d, .call ⟨.builtin .len, #[x], #[T]⟩, ty, pos, aft, gd⟩).run P η.w = .ok (.value (.int .i64 rows.length)) η.w := by
      have e1 : ρo x = .slice a rows.length cp := hsv.1.trans e
      simp [execOp, resolve, invoke, builtin, e1, Builtin.len_, run_underlying hel, goInt]
    rw [hrun]
    refine ⟨η, rfl, ⟨fun _ h => h, fun _ _ => rfl, fun _ _ => rfl⟩, hH, by rw [hm], ?_⟩
    rw [← hm]
    unfold maxLen at hml
    simp [IntKind.has, IntKind.min, IntKind.max, IntKind.signed, IntKind.bits]; omega
  keys := fun k h => h.elim
  ukeys := fun j x h => by simp at h
  dom := fun j x h => by simp at h
  sel := by intro cs b h; cases h
theorem Ib {T E' E n K : Nat} {x i : Operand} {rows : List (List ae)} {k : IntKind} {j : Int} (hT : dG P T = some (E', n)) (hx : lk x = a8 K) (hi : lk i = aj k j) (h0 : 0 ≤ j) (h1 : j < (rows.length : Int)) :
    cg P c ⟨d, .indexAddr T x i, ty, pos, aft, gd⟩ lk [(K, .row E n rows)] [] [] (hM K (j.toNat * n)) where
  run := by
    intro η ρo H hH hop hn _ _
    have hsv := hop x (by simp [Op.operands]); rw [hx] at hsv
    have hj := hop i (by simp [Op.operands]); rw [hi] at hj; obtain ⟨hj, _⟩ := hj
    obtain ⟨inf, t1, t2, t3⟩ := mT hT
    obtain ⟨hr, xs, hown, hxs⟩ := hH.holds K _ (hn K _ (List.mem_singleton.2 rfl))
    rcases hown.2 with ⟨e, h2⟩ | ⟨g, cap, cur, e, _⟩
    · omega
    · unfold dJ
      have hrun : (execOp ρo ⟨d, .indexAddr T x i, ty, pos, aft, gd⟩).run P η.w = .ok (.value (.pointer (some ⟨g, j.toNat * n, none⟩))) η.w := by
        have e1 : ρo x = .slice (some ⟨g, 0, none⟩) rows.length cap := hsv.1.trans e
        have hb : 0 ≤ j ∧ j < (rows.length : Int) := ⟨h0, h1⟩
        simp [execOp, e1, hj, Instr.indexAt, asIntOf, run_underlying t1, hb, sizeOf, typeInfo, t2, t3, Addr.add_lit]
      rw [hrun]
      exact ⟨η, rfl, ⟨fun _ h => h, fun _ _ => rfl, fun _ _ => rfl⟩, hH, g, _, _, e, rfl⟩
  keys := fun k h => .inl ⟨x, by simp [Op.operands], by rw [hx]; exact h⟩
  ukeys := fun j x h => by simp at h
  dom := fun j x h => by simp at h
  sel := by intro cs b h; cases h
theorem La {S f off : Nat} {x : Operand} {K o : Nat} (hP : bV P S f = some off) (hx : lk x = hM K o) : cg P c ⟨d, .fieldAddr S x f, ty, pos, aft, gd⟩ lk [] [] [] (hM K (o + off)) := by
  obtain ⟨fs, fd, i, h1, h2, h3, h4, h5⟩ := xC hP
  refine dE (by intro cs b h; cases h) (fun k h => ⟨x, by simp [Op.operands], by rw [hx]; exact h⟩) fun η ρo H _ ho => ?_
  have hh := ho x (by simp [Op.operands]); rw [hx] at hh
  obtain ⟨b, n, cp, e1, e2⟩ := hh
  refine ⟨.pointer (some ⟨b, o + off, none⟩), ?_, b, n, cp, e1, rfl⟩
  simp [execOp, e2, Instr.fieldAt, run_underlying h1, h2, Instr.sureAddr, fieldPlace, sizeOf, typeInfo, h3, h4, h5, Addr.add_lit]
theorem wL {η : bA} {h v : Value} {E n o : Nat} {rows : List (List ae)} (hh : Holds η h (.row E n rows)) (hv : ∃ b m cp, h = .slice (some ⟨b, 0, none⟩) m cp ∧ v = .pointer (some ⟨b, o, none⟩)) :
    ∃ b cur cap, h = .slice (some ⟨b, 0, none⟩) rows.length cap ∧ v = .pointer (some ⟨b, o, none⟩) ∧ η.w.heap[b]? = some (.cells cur E (0, 0)) ∧ rows.length ≤ cap ∧ cap ≤ maxLen ∧ cur.size = cap * n ∧ bw η rows.flatten (cur.toList.take (rows.length * n)) := by
  obtain ⟨b, m, cp, rfl, rfl⟩ := hv
  obtain ⟨hr, xs, hown, hxs⟩ := hh
  rcases hown.2 with ⟨e, _⟩ | ⟨g, cap, cur, e, _, h1, h2, h3, h4, h5⟩
  · cases e
  · simp only [Value.slice.injEq, Option.some.injEq, Addr.mk.injEq] at e
    obtain ⟨⟨rfl, _⟩, rfl, rfl⟩ := e
    exact ⟨b, cur, _, rfl, rfl, h1, h2, h3, h4, by rw [h5]; exact hxs⟩
theorem He {T : Nat} {x : Operand} {K o E n : Nat} {rows : List (List ae)} {B : ae} (hT : dD P T = true) (hx : lk x = hM K o) (hB : rows.flatten[o]? = some B) : cg P c ⟨d, .load T x, ty, pos, aft, gd⟩ lk [(K, .row E n rows)] [] [] B where
  run := by
    intro η ρo H hH hop hn _ _
    have hp := hop x (by simp [Op.operands]); rw [hx] at hp
    obtain ⟨b, cur, cap, e1, e2, e3, _, _, _, e4⟩ := wL (hH.holds K _ (hn K _ (List.mem_singleton.2 rfl))) hp
    obtain ⟨u, hu, hup⟩ := e4.get o B hB
    have hc : η.w.cell? ⟨b, o, none⟩ = some u := by
      rw [cell_of_row _ _ _ _ _ _ e3]
      rw [List.getElem?_take] at hu
      split at hu
      · simpa using hu
      · cases hu
    unfold dJ
    have hrun : (execOp ρo ⟨d, .load T x, ty, pos, aft, gd⟩).run P η.w = .ok (.value u) η.w := by
      simp [execOp, e2, Instr.loadAt, Instr.sureAddr, uD hT hc]
    rw [hrun]
    exact ⟨η, rfl, ⟨fun _ h => h, fun _ _ => rfl, fun _ _ => rfl⟩, hH, hup⟩
  keys := fun k h => .inr (.inl ⟨K, _, List.mem_singleton.2 rfl, B, List.mem_of_getElem? hB, h⟩)
  ukeys := fun j x h => by simp at h
  dom := fun j x h => by simp at h
  sel := by intro cs b h; cases h
theorem JX {T m : Nat} {x : Operand} {K o E n : Nat} {rows : List (List ae)} {Bs : List ae} (hT : dz P T = some m) (hx : lk x = hM K o) (hB : (rows.flatten.drop o).take m = Bs) (hm : Bs.length = m) :
    cg P c ⟨d, .load T x, ty, pos, aft, gd⟩ lk [(K, .row E n rows)] [] [] (ac Bs) where
  run := by
    intro η ρo H hH hop hn _ _
    have hp := hop x (by simp [Op.operands]); rw [hx] at hp
    obtain ⟨b, cur, cap, e1, e2, e3, _, _, _, e4⟩ := wL (hH.holds K _ (hn K _ (List.mem_singleton.2 rfl))) hp
    have h1 := (e4.drop o).take m
    rw [hB] at h1
    have hl := h1.length
    unfold dJ
    have hrun : (execOp ρo ⟨d, .load T x, ty, pos, aft, gd⟩).run P η.w = .ok (.value (.agg (((cur.toList.take (rows.length * n)).drop o).take m).toArray)) η.w := by
      have := uo (P := P) (b := b) (o := o) (w := η.w) (us := ((cur.toList.take (rows.length * n)).drop o).take m) hT (by omega) (fun j u hj => by
        rw [cell_of_row _ _ _ _ _ _ e3]
        rw [List.getElem?_take, List.getElem?_drop, List.getElem?_take] at hj
        split at hj
        · split at hj
          · simpa using hj
          · simp at hj
        · simp at hj)
      simp only [execOp, e2, Instr.loadAt, Instr.sureAddr, Sem.run_bind, Sem.run_pure, Result.andThen_ok, this]
    rw [hrun]
    exact ⟨η, rfl, ⟨fun _ h => h, fun _ _ => rfl, fun _ _ => rfl⟩, hH, _, rfl, by simpa using h1⟩
  keys := fun k h => .inr (.inl ⟨K, _, List.mem_singleton.2 rfl, jJ (fun B hB' => List.mem_of_mem_drop (List.mem_of_mem_take (by rw [hB]; exact hB'))) h⟩)
  ukeys := fun j x h => by simp at h
  dom := fun j x h => by simp at h
  sel := by intro cs b h; cases h
end
end Go.Proofs.YtngimdmkomkeoaaGreat.K
