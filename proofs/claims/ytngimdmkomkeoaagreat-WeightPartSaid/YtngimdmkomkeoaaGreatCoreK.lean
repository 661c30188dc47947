import Derived.Test.YtngimdmkomkeoaaGreatCoreJ
set_option linter.unusedVariables false
set_option linter.unusedSimpArgs false
namespace Go.Proofs.YtngimdmkomkeoaaGreat.K
open Go.RowKit
class cP {α : Type} (cc : α → List ae) (n : outParam Nat) : Prop where
  len : ∀ x, (cc x).length = n
theorem cP.all {α : Type} {cc : α → List ae} {n : Nat} [h : cP cc n] (xs : List α) : ∀ r ∈ xs.map cc, r.length = n := fun r hr => by
  obtain ⟨x, _, rfl⟩ := List.mem_map.1 hr
  exact h.len x
theorem HI {α : Type} [Inhabited α] {cc : α → List ae} {n : Nat} [h : cP cc n] {xs : List α} {j : Int} {off : Nat} {B : ae} (h0 : 0 ≤ j) (h1 : j < (xs.length : Int)) (hB : (cc (nth xs j))[off]? = some B) : (xs.map cc).flatten[j.toNat * n + off]? = some B := by
  have h2 := sI (cP.all xs) _ _ (vz (cc := cc) h0 h1)
  have hlt : off < n := by have := (List.getElem?_eq_some_iff.1 hB).1; rw [h.len] at this; exact this
  rw [← h2, List.getElem?_take, if_pos hlt, List.getElem?_drop] at hB
  exact hB
theorem IW {α : Type} [Inhabited α] {cc : α → List ae} {n : Nat} [h : cP cc n] {xs : List α} {j : Int} {off m : Nat} {Bs : List ae} (h0 : 0 ≤ j) (h1 : j < (xs.length : Int)) (hB : ((cc (nth xs j)).drop off).take m = Bs) (hm : Nat.ble (off + m) n = true) :
    ((xs.map cc).flatten.drop (j.toNat * n + off)).take m = Bs := by
  have h2 := sI (cP.all xs) _ _ (vz (cc := cc) h0 h1)
  have hle := Nat.le_of_ble_eq_true hm
  rw [← h2, List.drop_take, List.take_take, List.drop_drop] at hB
  rw [← hB]
  congr 1
  omega
theorem HJ {α : Type} [Inhabited α] {cc : α → List ae} {n : Nat} [h : cP cc n] {xs : List α} {j : Int} {off : Nat} {Bs : List ae} {y : α} (h0 : 0 ≤ j) (h1 : j < (xs.length : Int)) (hy : cc y = fE (cc (nth xs j)) off Bs) (hm : off + Bs.length ≤ n) :
    ((xs.set j.toNat y).map cc).flatten = fE (xs.map cc).flatten (j.toNat * n + off) Bs := by
  obtain ⟨i, rfl⟩ := Int.eq_ofNat_of_zero_le h0
  have hi : i < xs.length := by omega
  simp only [Int.toNat_natCast, nth] at *
  have e : xs.getD i default = xs[i] := by simp [List.getD, hi]
  rw [e] at hy
  clear h0 h1 e
  induction xs generalizing i with
  | nil => simp at hi
  | cons a xs ih =>
    cases i with
    | zero =>
      simp only [List.set_cons_zero, List.map_cons, List.flatten_cons, Nat.zero_mul, Nat.zero_add]
      simp only [List.getElem_cons_zero] at hy
      have ha := h.len a
      rw [hy]
      unfold fE
      rw [List.take_append_of_le_length (by omega), List.drop_append_of_le_length (by omega)]
      simp
    | succ i =>
      have ih' := ih i (by simpa using hi) (by simpa using hy)
      simp only [List.set_cons_succ, List.map_cons, List.flatten_cons, ih']
      unfold fE
      have ha := h.len a
      have e1 : (i + 1) * n + off = n + (i * n + off) := by rw [Nat.succ_mul]; omega
      rw [e1, List.take_append, List.drop_append]
      have e2 : n + (i * n + off) - (cc a).length = i * n + off := by omega
      have e3 : n + (i * n + off) + Bs.length - (cc a).length = i * n + off + Bs.length := by omega
      rw [e2, e3, List.take_of_length_le (l := cc a) (by omega), List.drop_of_length_le (l := cc a) (by omega)]
      simp
section
variable {P : Program} {c : cS} {lk : Operand → ae} {d : Option Nat} {ty : TypeId} {pos : String} {aft : Array Edge} {gd : Option (Nat × Bool)}
theorem Ih {T m : Nat} {x y : Operand} {B : ae} {Bs : List ae} {K o E n : Nat} {rows rows' : List (List ae)} (hT : dA P T = some m) (hx : lk x = hM K o) (hy : lk y = B) (hB : kp B Bs) (hk : ∀ k, d7 Bs k → B.keys k) (h1 : cQ Bs) (hm : Bs.length = m)
    (ho : o + m ≤ rows.length * n) (hs : rows'.flatten = fE rows.flatten o Bs) (hr' : ∀ r ∈ rows', r.length = n) (hl' : rows'.length = rows.length) : cg P c ⟨d, .store T x y, ty, pos, aft, gd⟩ lk [(K, .row E n rows)] [(K, some (.row E n rows'))] [] fA where
  run := by
    intro η ρo H hH hop hn _ _
    obtain ⟨i, hi, him⟩ := Option.map_eq_some_iff.1 hT
    have hp := hop x (by simp [Op.operands]); rw [hx] at hp
    have hq := hop y (by simp [Op.operands]); rw [hy] at hq
    have hK := hn K _ (List.mem_singleton.2 rfl)
    have hKh := hH.holds K _ hK
    obtain ⟨b, arr, cap, e1, e2, e3, e5, e6, e7, e4⟩ := wL hKh hp
    have hv := hB η _ hq
    have hvl := hv.length
    have hal := e4.length
    have hfl : rows.flatten.length = rows.length * n := pi hKh.1
    have hcapn : rows.length * n ≤ cap * n := Nat.mul_le_mul_right _ e5
    have hst := run_storeCells_at (P := P) b o E (ρo y).cells.toList 0 arr η.w e3 (by simp at hvl ⊢; omega) (BQ hv h1)
    unfold dJ
    have hrun : (execOp ρo ⟨d, .store T x y, ty, pos, aft, gd⟩).run P η.w = .ok .skip (η.w.setRow b (arr.toList.take o ++ (ρo y).cells.toList ++ arr.toList.drop (o + (ρo y).cells.toList.length)).toArray) := by
      have hcs : (ρo y).cells.size = i.size := by simp at hvl; omega
      simp only [Nat.add_zero] at hst
      simp [execOp, e2, Instr.storeAt, Instr.sureAddr, storeVar, sizeOf, typeInfo, hi, hcs]
      simp at hst
      simp [hst, hcs]
    rw [hrun]
    have w1 : (η.w.setRow b (arr.toList.take o ++ (ρo y).cells.toList ++ arr.toList.drop (o + (ρo y).cells.toList.length)).toArray).heap[b]? = some (.cells (arr.toList.take o ++ (ρo y).cells.toList ++ arr.toList.drop (o + (ρo y).cells.toList.length)).toArray E (0, 0)) := setRow_heap _ _ _ _ _ _ e3
    have w2 : ∀ b', b' ≠ b → (η.w.setRow b (arr.toList.take o ++ (ρo y).cells.toList ++ arr.toList.drop (o + (ρo y).cells.toList.length)).toArray).heap[b']? = η.w.heap[b']? := fun b' hb' => setRow_other _ _ _ _ hb'
    have w3 : (η.w.setRow b (arr.toList.take o ++ (ρo y).cells.toList ++ arr.toList.drop (o + (ρo y).cells.toList.length)).toArray).heap.size = η.w.heap.size := by simp
    have w4 : (η.w.setRow b (arr.toList.take o ++ (ρo y).cells.toList ++ arr.toList.drop (o + (ρo y).cells.toList.length)).toArray).os = η.w.os := rfl
    have w5 : (η.w.setRow b (arr.toList.take o ++ (ρo y).cells.toList ++ arr.toList.drop (o + (ρo y).cells.toList.length)).toArray).tape = η.w.tape := rfl
    have w6 : (η.w.setRow b (arr.toList.take o ++ (ρo y).cells.toList ++ arr.toList.drop (o + (ρo y).cells.toList.length)).toArray).output = η.w.output := rfl
    generalize η.w.setRow b (arr.toList.take o ++ (ρo y).cells.toList ++ arr.toList.drop (o + (ρo y).cells.toList.length)).toArray = W at *
    have hblk : c8 (η.ρ K) = some b := by rw [e1]; rfl
    have hne : ∀ b', η.I b' → b' ≠ b := fun b' hb' e => by subst e; exact (hH.own K _ b' hK hblk).1 hb'
    have tr : ∀ {As : List ae} {vs : List Value}, bw η As vs → bw ⟨W, η.I, η.ρ⟩ As vs := fun h => h.mono ⟨fun _ h => h, fun b' hb' => w2 b' (hne b' hb'), fun _ _ => rfl⟩
    refine ⟨⟨W, η.I, η.ρ⟩, rfl, ⟨fun _ h => h, fun b' hb' => w2 b' (hne b' hb'), fun _ _ => rfl⟩, hH.write hK w3 (fun b' hb' => w2 b' fun e => ?_) w4 w5 w6 ⟨hr', (arr.toList.take o ++ (ρo y).cells.toList ++ arr.toList.drop (o + (ρo y).cells.toList.length)).take (rows.length * n), ?_, ?_⟩, trivial⟩
    · subst e; exact hb' hblk.symm
    · have hsz : (arr.toList.take o ++ (ρo y).cells.toList ++ arr.toList.drop (o + (ρo y).cells.toList.length)).toArray.size = cap * n := by
        simp at hvl ⊢; omega
      rw [hl']
      refine ⟨?_, .inr ⟨b, cap, _, by show η.ρ K = _; rw [e1], Nat.zero_le _, w1, e5, e6, hsz, rfl⟩⟩
      rw [List.length_take]; simp at hsz ⊢; omega
    · rw [hs]
      have h9 := ((tr (e4.take o)).append (tr hv)).append (tr (e4.drop (o + Bs.length)))
      rw [hvl] at h9
      unfold fE
      rw [hvl]
      have e : (arr.toList.take o ++ (ρo y).cells.toList ++ arr.toList.drop (o + (ρo y).cells.toList.length)).take (rows.length * n) = (arr.toList.take (rows.length * n)).take o ++ (ρo y).cells.toList ++ (arr.toList.take (rows.length * n)).drop (o + (ρo y).cells.toList.length) := by
        have hvl' : (ρo y).cells.toList.length = m := by omega
        rw [List.take_take, Nat.min_eq_left (by omega), List.append_assoc, List.take_append, List.take_of_length_le (l := arr.toList.take o) (by simp; omega), List.append_assoc]
        congr 1
        have hol : (arr.toList.take o).length = o := by simp; omega
        rw [hol, List.take_append, List.take_of_length_le (l := (ρo y).cells.toList) (by omega)]
        congr 1
        rw [List.drop_take]
        congr 1
        omega
      rw [e]
      exact h9
  keys := fun k h => h.elim
  ukeys := fun j z h k hk' => by
    simp at h; obtain ⟨rfl, rfl⟩ := h
    have hk' : d7 rows'.flatten k := hk'
    rw [hs] at hk'
    obtain ⟨A', hA', hkk⟩ := hk'
    unfold fE at hA'
    rcases List.mem_append.1 hA' with h2 | h2
    · rcases List.mem_append.1 h2 with h3 | h3
      · exact .inr (.inl ⟨j, _, List.mem_singleton.2 rfl, A', List.mem_of_mem_take h3, hkk⟩)
      · exact .inl ⟨y, by simp [Op.operands], by rw [hy]; exact hk k ⟨A', h3, hkk⟩⟩
    · exact .inr (.inl ⟨j, _, List.mem_singleton.2 rfl, A', List.mem_of_mem_drop h2, hkk⟩)
  dom := fun j z h => .inl (by simp at h; exact ⟨.row E n rows, by rw [h.1]; exact List.mem_singleton.2 rfl⟩)
  sel := by intro cs b h; cases h
theorem BY {q : Nat} {As : List ae} {k : Nat} (h : ¬ d7 As k) : ¬ d7 (List.replicate q As).flatten k := by
  rintro ⟨A, hA, hk⟩
  obtain ⟨r, hr, hAr⟩ := List.mem_flatten.1 hA
  rw [(List.mem_replicate.1 hr).2] at hAr
  exact h ⟨A, hAr, hk⟩
theorem s6 {q n : Nat} {As : List ae} (h : As.length = n) : ∀ r ∈ List.replicate q As, r.length = n := fun r hr => by rw [(List.mem_replicate.1 hr).2]; exact h
theorem Gp {T E n by_ K : Nat} {x y : Operand} {k k' : IntKind} {m : Int} {zs : List Value} {As : List ae} (hT : eX P T = some (E, n, by_)) (hz : mi P E = some zs) (hA : zs.map fY = As) (hx : lk x = aj k m) (hy : lk y = aj k' m) (h0 : 0 ≤ m) (hm : m * by_ ≤ 140737488355328) :
    cg P c ⟨d, .makeSlice T x y, ty, pos, aft, gd⟩ lk [] [(K, some (.row E n (List.replicate m.toNat As)))] [K] (a8 K) where
  run := by
    intro η ρo H hH hop _ hfresh _
    obtain ⟨i, z, t1, t2, t3, t4, t5, t6, t7, t8⟩ := Ca hT
    have hzz : z.cells.toList = zs := by
      simp only [mi, t2, Option.bind_some, t3, Option.map_some, Option.some.injEq] at hz; exact hz
    have h1 := hop x (by simp [Op.operands]); rw [hx] at h1; obtain ⟨h1, _⟩ := h1
    have h2 := hop y (by simp [Op.operands]); rw [hy] at h2; obtain ⟨h2, _⟩ := h2
    have hbm : m ≤ 140737488355328 := by
      have : m * 1 ≤ m * by_ := Int.mul_le_mul_of_nonneg_left (by omega) h0
      omega
    have hr := run_make (P := P) η.w T E i z t1 t2 t3 k k' m m h0 (Int.le_refl _) (by rw [t5, Int.mul_comm]; omega) (by omega)
    rw [t4] at hr
    unfold dJ
    have hrun : (execOp ρo ⟨d, .makeSlice T x y, ty, pos, aft, gd⟩).run P η.w = .ok (.value (.slice (some ⟨η.w.heap.size, 0, none⟩) m.toNat m.toNat)) (η.w.alloc (.cells (madeCells z.cells (m.toNat * n)) E)) := by
      simp [execOp, h1, h2, hr]
    rw [hrun]
    have g1 := hH.alloc (.cells (madeCells z.cells (m.toNat * n)) E (0, 0)) η.I (fun b hb => .inl hb) (fun b hb => hb)
    have hKs := hfresh K (by simp)
    have hI : ¬ η.I η.w.heap.size := fun h => Nat.lt_irrefl _ (hH.lt _ h)
    have hAl : As.length = n := by rw [← hA, List.length_map, ← hzz]; simpa using t6
    have hkA : ∀ k, ¬ d7 (List.replicate m.toNat As).flatten k := fun k => BY (by rw [← hA]; exact nq)
    have cells : ∀ q : Nat, bw η (List.replicate q As).flatten (madeCells z.cells (q * n)).toList := by
      intro q
      refine bw.of_get ?_ fun j A v hj hv => ?_
      · rw [pi (n := n) (s6 hAl)]; simp [madeCells]
      · have hjl := (List.getElem?_eq_some_iff.1 hj).1
        rw [pi (n := n) (s6 hAl)] at hjl
        simp only [List.length_replicate] at hjl
        have hjm : j % n < n := Nat.mod_lt _ t7
        have e1 : (List.replicate q As).flatten[j]? = As[j % n]? := by
          have hlt : j / n < q := by rw [Nat.div_lt_iff_lt_mul t7]; exact hjl
          have := sI (rows := List.replicate q As) (n := n) (s6 hAl) (j / n) As (by simp [hlt])
          conv => rhs; rw [← this]
          rw [List.getElem?_take, if_pos hjm, List.getElem?_drop, Nat.mul_comm, Nat.div_add_mod]
        rw [e1] at hj
        have e2 : (madeCells z.cells (q * n)).toList[j]? = z.cells.toList[j % n]? := by
          have hlt : j % n < z.cells.size := by omega
          simp [madeCells, hjl, t6, hlt]
          rw [getElem!_pos z.cells _ hlt, Array.getElem?_eq_getElem hlt]
        rw [e2] at hv
        have hall := ph η zs
        rw [hA] at hall
        rw [hzz] at hv
        obtain ⟨u, hu, hp⟩ := hall.get _ A hj
        rw [hv] at hu; cases hu; exact hp
    have hHold : Holds ⟨η.w.alloc (.cells (madeCells z.cells (m.toNat * n)) E (0, 0)), η.I, η.ρ⟩ (.slice (some ⟨η.w.heap.size, 0, none⟩) m.toNat m.toNat) (.row E n (List.replicate m.toNat As)) := by
      refine ⟨s6 hAl, (madeCells z.cells (m.toNat * n)).toList, ⟨by simp [madeCells], .inr ⟨η.w.heap.size, m.toNat, _, by simp, Nat.zero_le _, heap_alloc_new _ _, by simp, by unfold maxLen; omega, by simp [madeCells], by rw [List.take_of_length_le (by simp [madeCells])]⟩⟩, ?_⟩
      exact (cells m.toNat).mono ⟨fun _ h => h, fun b hb => Below.heap_alloc _ _ _ (hH.lt b hb), fun _ _ => rfl⟩
    have g2 := g1.add K (.slice (some ⟨η.w.heap.size, 0, none⟩) m.toNat m.toNat) (.row E n (List.replicate m.toNat As)) hKs.1 hKs.2 (hkA K) hHold ?_ ?_
    · refine ⟨⟨η.w.alloc (.cells (madeCells z.cells (m.toNat * n)) E (0, 0)), η.I, fun j => if j = K then .slice (some ⟨η.w.heap.size, 0, none⟩) m.toNat m.toNat else η.ρ j⟩, rfl, ⟨fun _ h => h, fun b hb => Below.heap_alloc _ _ _ (hH.lt b hb), fun k hk => ?_⟩, g2, ?_, rfl⟩
      · have : k ≠ K := by simpa using hk
        simp [this]
      · simp
    · intro b hb
      have : η.w.heap.size = b := by simpa [c8] using hb
      subst this
      exact ⟨hI, by simp, .inl hH.size⟩
    · intro b k y hb hk hbk
      have : η.w.heap.size = b := by simpa [c8] using hb
      subst this
      exact Nat.lt_irrefl _ (hH.own k y _ hk hbk).2.1
  keys := fun k h => .inr (.inr (by have : k = K := h; simp [this]))
  ukeys := fun j x h k hk => by
    simp at h; obtain ⟨_, rfl⟩ := h
    exact absurd hk (BY (by rw [← hA]; exact nq))
  dom := fun j x h => .inr (by simp at h; simp [h.1])
  sel := by intro cs b h; cases h
class jg (A : ae) : Prop where
  sc : ∀ η η' v, A.p η v → A.p η' v
instance {k : IntKind} {n : Int} : jg (aj k n) := ⟨fun _ _ _ h => h⟩
instance {b : Bool} : jg (aa b) := ⟨fun _ _ _ h => h⟩
instance {s : ByteArray} : jg (am s) := ⟨fun _ _ _ h => h⟩
instance {v : Value} : jg (fm v) := ⟨fun _ _ _ h => h⟩
class ee (As : List ae) : Prop where
  sc : ∀ η η' vs, bw η As vs → bw η' As vs
instance : ee [] := ⟨fun _ _ vs h => by cases h; exact .nil⟩
instance {A : ae} {As : List ae} [h : jg A] [h' : ee As] : ee (A :: As) := ⟨fun η η' vs hh => by cases hh with | cons a b => exact .cons (h.sc _ _ _ a) (h'.sc _ _ _ b)⟩
instance {As : List ae} [h : ee As] : jg (ac As) := ⟨fun η η' v ⟨vs, e, hh⟩ => ⟨vs, e, h.sc _ _ _ hh⟩⟩
instance {As : List ae} [h : ee As] : jg (bk As) := ⟨fun η η' v ⟨vs, e, hh⟩ => ⟨vs, e, h.sc _ _ _ hh⟩⟩
theorem Ha {f : FuncId} {xs : List Operand} {ts : Array TypeId} {args : List ae} {r : ae} {need : List (Nat × bB)} (hF : aF P f) (hc : aB P f args r) [hs : jg r] (hn1 : ∀ k x, (k, x) ∈ need → hp need k = some x)
    (ha : c9 (hp need) (fun k => bF k (need.map (·.1))) id (fun _ => false) (fun _ => true) (xs.map lk) args) (hy : lk (.func f) = bj f []) : cg P c ⟨d, .call ⟨.value (.func f), xs.toArray, ts⟩, ty, pos, aft, gd⟩ lk need [] [] r where
  run := by
    intro η ρo H hH hop hn _ _
    obtain ⟨fn, hf, hnn, hb⟩ := hF
    have hv := hop (.func f) (by simp [Op.operands, Call.operands])
    rw [hy] at hv
    obtain ⟨vs, e, hvs⟩ := hv
    have hvs0 : vs = #[] := by
      have := hvs.length; simp at this; exact Array.eq_empty_of_size_eq_zero this.symm
    subst hvs0
    have hH' : bZ c η (hp need) := hH.sub fun k x hk => hn k x (eI hk)
    have hall0 : bw η (xs.map lk) (xs.map ρo) := mK (fun x hx => hop x (by simp [Op.operands, Call.operands, hx]))
    have hall := ha.all2 hH' hall0
    unfold dJ
    have hrun : (execOp ρo ⟨d, .call ⟨.value (.func f), xs.toArray, ts⟩, ty, pos, aft, gd⟩).run P η.w = .ok (.enter f (xs.toArray.map ρo)) η.w := by
      simp only [execOp, resolve, e, Deferred.ofValue, Sem.run_bind, Sem.run_pure, Result.andThen_ok, invoke]
      simpa using pA (args := xs.toArray.map ρo) (w := η.w) hf hnn hb
    rw [hrun]
    refine (hc.2 (eE (hp need) (fun k => bF k (need.map (·.1))) id (fun _ => false) η) (xs.toArray.map ρo) ?_ (by simpa using hall)).mono ?_
    · rintro b (hb | ⟨k, x, _, h2, h3⟩)
      · exact hH.lt b hb
      · exact (hH'.own k x b h2 h3).2.1
    · rintro e' w' ⟨v, I', rfl, he, hr⟩
      have he' : Ext η η.I w' := ⟨he.size, he.keep, fun _ h => h, fun _ h => .inl h, fun b hb => Nat.lt_of_lt_of_le (hH.lt b hb) he.size, he.os, he.tape, he.output⟩
      exact ⟨v, rfl, ⟨w', η.I, η.ρ⟩, rfl, ⟨fun _ h => h, fun b hb => he.keep b (hH.lt b hb), fun _ _ => rfl⟩, hH.ext he', hs.sc _ _ _ hr⟩
  keys := fun k h => absurd h (hc.1 k)
  ukeys := fun j x h => by simp at h
  dom := fun j x h => by simp at h
  sel := by intro cs b h; cases h
end
end Go.Proofs.YtngimdmkomkeoaaGreat.K
