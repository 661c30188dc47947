import Derived.Test.YtngimdmkomkeoaaGreatCoreK
set_option linter.unusedVariables false
set_option linter.unusedSimpArgs false
namespace Go.Proofs.YtngimdmkomkeoaaGreat.K
open Go.RowKit
def jf (η : bA) (N0 n : Nat) (ins : List (Nat × bB)) : cS := ⟨η.w, fun b => ∃ k x, (k, x) ∈ ins ∧ c8 (η.ρ k) = some b, η.I, n, N0, η.ρ⟩
theorem bZ.ctx {c : cS} {η : bA} {H : cz} {n' : Nat} (h : bZ c η H) : bZ ⟨c.w0, c.X, c.I0, n', c.N0, c.ρ0⟩ η H :=
  ⟨h.holds, h.own, h.apart, h.lt, h.new, h.old, h.size, h.keep, h.os, h.tape, h.output⟩
def dc (P : Program) (f : FuncId) (N0 : Nat) (ins : List (Nat × bB)) (args : List ae) (outs : List (Nat × bB)) (r : ae) : Prop :=
  ∀ (η : bA) (vals : Array Value), bZ (jf η N0 0 ins) η (hp ins) → bw η args vals.toList →
    Calls P f vals η.w fun e w' => ∃ v η', e = .returned v ∧ η'.w = w' ∧ bZ (jf η N0 0 ins) η' (hp outs) ∧ r.p η' v ∧ ∀ k, k < N0 → η'.ρ k = η.ρ k
theorem dc.toP {P : Program} {f : FuncId} {args : List ae} {outs : List (Nat × bB)} {r r' : ae} (h : dc P f 0 [] args outs r) (hr : Cv (hp outs) (fun _ => true) id (fun _ => false) (fun _ => false) r r') : aB P f args r' := by
  refine ⟨fun k hk => (by have := hr.keys k hk; cases this), fun η vals hI hv => ?_⟩
  have h0 : bZ (jf η 0 0 []) η (hp []) := by
    have := bZ.init (η := η) (n := 0) hI
    exact ⟨fun k x h => (by cases h), fun k x b h => (by cases h), fun k k' x x' b h => (by cases h), hI, fun b hb => .inl hb, this.old, Nat.le_refl _, fun _ _ _ => rfl, rfl, rfl, rfl⟩
  refine (h η vals h0 hv).mono ?_
  rintro e w' ⟨v, η', rfl, rfl, hH, hp', _⟩
  have h2 := hH.cv (F := fun _ => true) (σ := id) (G := fun _ => false) (Q := fun _ => true) (L := []) .nil
  refine ⟨v, _, rfl, ⟨h2.size, fun b hb => h2.keep b hb fun ⟨k, x, hk, _⟩ => by simp at hk, h2.old, fun b hb => ?_, h2.lt, h2.os, h2.tape, h2.output⟩, r'.mono (η := eE (hp outs) (fun _ => true) id (fun _ => false) η') ⟨fun _ h => h, fun _ _ => rfl, fun k hk => (by have := hr.keys k hk; cases this)⟩ (hr.p _ _ hH v hp')⟩
  rcases h2.new b hb with h3 | h3 | ⟨k, x, hk, _⟩
  · exact .inl h3
  · exact .inr h3
  · simp at hk
def zJ (args : List ae) (ins : List (Nat × bB)) (N0 : Nat) : St := ⟨fun t => args.getD t fA, hp ins, N0⟩
theorem dc.of {P : Program} (hm : P.follows .mixedOrders = true) {f : FuncId} {fn : Func} {c : Code} (hf : P.funcs[f]? = some fn) (hb : fn.body = some c) {n : Nat} (hn : fn.ntmps = n) {N0 : Nat} {ins : List (Nat × bB)} {args : List ae} {Y : Type} {e : Option Y} {y : Y}
    (outs : Y → List (Nat × bB)) (rr : Y → ae) (ha : ∀ k, d7 args k → k < N0) (hi : ∀ k x, (k, x) ∈ ins → k < N0 ∧ ∀ j, x.keys j → j < N0) (hl : Nat.ble args.length n = true) (he : e = some y)
    (h : ∀ X : Cx P fn n N0 Y, (∀ z η v, bZ X.c η (hp (outs z)) → (rr z).p η v → (∀ k, k < N0 → η.ρ k = X.ρ0 k) → X.Ψ z η v) → J X e some [.code c] (zJ args ins N0)) : dc P f N0 ins args (outs y) (rr y) := by
  intro η vals hH hv
  let X : Cx P fn n N0 Y := { f := f, ρ0 := η.ρ, w0 := η.w, X := fun b => ∃ k x, (k, x) ∈ ins ∧ c8 (η.ρ k) = some b, I0 := η.I, Ψ := fun z η' v => bZ (jf η N0 n ins) η' (hp (outs z)) ∧ (rr z).p η' v ∧ ∀ k, k < N0 → η'.ρ k = η.ρ k, hf := hf, hm := hm }
  have hj := h X (fun z η v h1 h2 h3 => ⟨h1, h2, h3⟩) y (by rw [he]; rfl)
  have hlen := hv.length
  have hln : args.length ≤ n := of_decide_eq_true (by simpa [Nat.ble_eq] using hl)
  have hgo := hj η { tmps := vals ++ Array.replicate (fn.ntmps - vals.size) undef, defers := [] } ?_
  · refine (eN.calls hf hb hgo).mono ?_
    rintro e w' ⟨v, rfl, η', rfl, h1, h2, h3⟩
    exact ⟨v, η', rfl, rfl, h1.ctx (n' := 0), h2, h3⟩
  · have hsz : args.length = vals.size := by simpa using hlen
    refine ⟨fun t => ?_, hH.ctx (n' := n), ⟨fun t k hk => ?_, fun k x h => ?_, fun k x j h => ?_⟩, rfl, ?_, fun k _ => rfl, Nat.le_refl _⟩
    · show (args.getD t fA).p η _
      cases hA : args[t]? with
      | none => simp only [List.getD, hA, Option.getD_none]; trivial
      | some A =>
        obtain ⟨v, h1, h2⟩ := hv.get t A hA
        have hlt : t < vals.size := by have := (List.getElem?_eq_some_iff.1 hA).1; omega
        have : (vals ++ Array.replicate (fn.ntmps - vals.size) undef).getD t undef = v := by
          have h3 : vals[t]? = some v := by simpa using h1
          rw [Array.getD_eq_getD_getElem?, Array.getElem?_append_left hlt, h3]; rfl
        rw [this]
        simp only [List.getD, hA, Option.getD_some]; exact h2
    · have hk' : (args.getD t fA).keys k := hk
      cases hA : args[t]? with
      | none => simp only [List.getD, hA, Option.getD_none] at hk'; exact hk'.elim
      | some A => simp only [List.getD, hA, Option.getD_some] at hk'; exact ha k ⟨A, List.mem_of_getElem? hA, hk'⟩
    · exact (hi k x (eI h)).1
    · exact (hi k x (eI h)).2 j
    · simp only [Array.size_append, Array.size_replicate]
      show _ = n
      omega
theorem eH {P : Program} {fn : Func} {n N0 : Nat} {Y Z : Type} {X : Cx P fn n N0 Y} {e : Option Z} {g : Z → Option Y} {k : List Item} {s : St} {A : ae} {outs : Y → List (Nat × bB)} {rr : Y → ae}
    (hΨ : ∀ z η v, bZ X.c η (hp (outs z)) → (rr z).p η v → (∀ k, k < N0 → η.ρ k = X.ρ0 k) → X.Ψ z η v) (hres : jo X s A) (F : List Nat) (σ : List (Nat × Nat)) (G : List Nat) (hσ : ((List.range N0).all fun k => Nat.beq (dj σ k) k && !(bF k G)) = true)
    (hA : ∀ y, e.bind g = some y → er s.H (bF · F) (dj σ) (bF · G) (fun _ => true) (outs y) ∧ Cv s.H (bF · F) (dj σ) (bF · G) (fun _ => true) A (rr y)) : J X e g (.code .ret :: k) s := by
  intro y hy η a hr
  obtain ⟨v, h1, h2⟩ := hres η a hr
  obtain ⟨h3, h4⟩ := hA y hy
  refine eN.ret X.hf h1 hr.defers ⟨eE s.H (bF · F) (dj σ) (bF · G) η, rfl, hΨ y _ v (hr.heap.cv h3) (h4.p _ _ hr.heap _ h2) fun k hk => ?_⟩
  have h5 := List.all_eq_true.1 hσ k (List.mem_range.2 hk)
  simp only [Bool.and_eq_true, Bool.not_eq_true'] at h5
  rw [ku h5.2 (Nat.eq_of_beq_eq_true h5.1)]; exact hr.ref k hk
theorem Hy {P : Program} {fn : Func} {n N0 : Nat} {Y : Type} {X : Cx P fn n N0 Y} {s : St} (h : fn.results = #[]) : jo X s (bk []) := by
  show ∀ η a, fy X.c s η a → ∃ v, (results fn a.tmps).run P η.w = .ok v η.w ∧ (bk []).p η v
  intro η a hrel
  refine ⟨.tuple #[], ?_, #[], rfl, .nil⟩
  rw [xe, h, Array.mapM_eq_mapM_toList]
  simp
theorem IE {H : cz} {l m : List (Nat × Option bB)} {k : Nat} : H.upds (l ++ m) k = (match l.find? (fun y => Nat.beq k y.1) with | some y => y.2 | none => H.upds m k) := by
  induction l with
  | nil => rfl
  | cons y r ih =>
    obtain ⟨j, z⟩ := y
    simp only [List.cons_append, cz.upds, cz.upd, List.find?_cons]
    cases hb : Nat.beq k j
    · simpa using ih
    · simp
theorem GO {L : List (Nat × bB)} {k : Nat} : (L.map fun y => (y.1, some y.2)).find? (fun y => Nat.beq k y.1) = (hp L k).map fun x => (((L.map fun y => (y.1, some y.2)).find? (fun y => Nat.beq k y.1)).getD (0, none) |>.1, some x) := by
  induction L with
  | nil => rfl
  | cons y r ih =>
    obtain ⟨j, z⟩ := y
    simp only [List.map_cons, List.find?_cons, hp]
    cases hb : Nat.beq k j
    · simpa using ih
    · simp
theorem Jw {H : cz} {L : List (Nat × bB)} {ks : List Nat} {k : Nat} : H.upds ((L.map fun y => (y.1, some y.2)) ++ ks.map fun j => (j, none)) k = (match hp L k with | some x => some x | none => if bF k ks = true then none else H k) := by
  rw [IE, GO]
  cases hx : hp L k with
  | some x => rfl
  | none =>
    simp only [Option.map_none]
    clear hx
    induction ks with
    | nil => rfl
    | cons j ks ih =>
      simp only [List.map_cons, cz.upds, cz.upd]
      cases hb : Nat.beq k j
      · have : k ≠ j := fun e => by subst e; simp at hb
        simpa [bF, this] using ih
      · have : k = j := Nat.eq_of_beq_eq_true hb
        simp [bF, this]
section
variable {P : Program} {c : cS} {lk : Operand → ae} {d : Option Nat} {ty : TypeId} {pos : String} {aft : Array Edge} {gd : Option (Nat × Bool)}
theorem Bf {f : FuncId} {y : Operand} {caps : List ae} {xs : List Operand} {ts : Array TypeId} {N0 : Nat} {ins outs outs' need : List (Nat × bB)} {args : List ae} {r r' : ae} {F : Nat → Bool} {σ σ' : Nat → Nat} {new : List Nat} (hF : aF P f) (hc : dc P f N0 ins args outs r)
    (hn1 : ∀ k x, (k, x) ∈ need → hp need k = some x) (ha : c9 (hp need) F σ (fun _ => false) (fun _ => true) (xs.map lk ++ caps) args) (hin : er (hp need) F σ (fun _ => false) (fun _ => true) ins)
    (ho : er (hp outs) (fun _ => false) σ' (fun _ => false) (fun k => bF k new || (Nat.blt (σ' k) N0 && Nat.beq (σ (σ' k)) k && bF k (need.map (·.1)))) outs') (hr : Cv (hp outs) (fun _ => false) σ' (fun _ => false) (fun k => bF k new || (Nat.blt (σ' k) N0 && Nat.beq (σ (σ' k)) k && bF k (need.map (·.1)))) r r') (hy : lk y = bj f caps) :
    cg P c ⟨d, .call ⟨.value y, xs.toArray, ts⟩, ty, pos, aft, gd⟩ lk need ((outs'.map fun y => (y.1, some y.2)) ++ (need.map (·.1)).map fun j => (j, none)) new r' where
  run := by
    intro η ρo H hH hop hn hfr hopk
    have qq : ∀ k, (bF k new || (Nat.blt (σ' k) N0 && Nat.beq (σ (σ' k)) k && bF k (need.map (·.1)))) = true → bF k new = false → Nat.blt (σ' k) N0 = true ∧ σ (σ' k) = k := fun k h h0 => by
      rw [h0, Bool.false_or] at h
      simp only [Bool.and_eq_true] at h
      exact ⟨h.1.1, Nat.eq_of_beq_eq_true h.1.2⟩
    have hbr : ∀ k, r'.keys k → bF k new = false → Nat.blt (σ' k) N0 = true ∧ σ (σ' k) = k := fun k h => qq k (hr.keys k h)
    have hbo : ∀ j x, (j, x) ∈ outs' → ∀ k, x.keys k → bF k new = false → Nat.blt (σ' k) N0 = true ∧ σ (σ' k) = k := fun j x hm k hk => by
      obtain ⟨_, ⟨_, E, n, rfl⟩ | ⟨_, y, _, _, h3⟩⟩ := ho.mem hm
      · exact absurd hk (gu k)
      · exact qq k (h3.keys k hk)
    obtain ⟨fn, hf, hnn, hb⟩ := hF
    have hv := hop y (by simp [Op.operands, Call.operands])
    rw [hy] at hv
    obtain ⟨vs, e, hvs⟩ := hv
    have hH' : bZ c η (hp need) := hH.sub fun k x hk => hn k x (eI hk)
    have hall0 : bw η (xs.map lk ++ caps) (xs.map ρo ++ vs.toList) := (mK (fun x hx => hop x (by simp [Op.operands, Call.operands, hx]))).append hvs
    have hall := ha.all2 hH' hall0
    have hcv := hH'.cv hin
    unfold dJ
    have hrun : (execOp ρo ⟨d, .call ⟨.value y, xs.toArray, ts⟩, ty, pos, aft, gd⟩).run P η.w = .ok (.enter f (xs.toArray.map ρo ++ vs)) η.w := by
      simp only [execOp, resolve, e, Deferred.ofValue, Sem.run_bind, Sem.run_pure, Result.andThen_ok, invoke]
      simpa using pA (args := xs.toArray.map ρo ++ vs) (w := η.w) hf hnn hb
    rw [hrun]
    have hR : ∀ k, (eE (hp need) F σ (fun _ => false) η).ρ k = η.ρ (σ k) := fun k => ku rfl rfl
    have h1 : bZ (jf (eE (hp need) F σ (fun _ => false) η) N0 0 ins) (eE (hp need) F σ (fun _ => false) η) (hp ins) :=
      ⟨hcv.holds, fun k x b hk hb => ⟨(hcv.own k x b hk hb).1, (hcv.own k x b hk hb).2.1, .inr ⟨k, x, eI hk, hb⟩⟩, hcv.apart, hcv.lt, fun b hb => .inl hb, fun b hb => hb, Nat.le_refl _, fun _ _ _ => rfl, rfl, rfl, rfl⟩
    have X1 : ∀ b, (∃ k x, (k, x) ∈ ins ∧ c8 ((eE (hp need) F σ (fun _ => false) η).ρ k) = some b) → ∃ K y, hp need K = some y ∧ H K = some y ∧ c8 (η.ρ K) = some b ∧ F K = false := by
      rintro b ⟨k, x, hm, hb⟩
      obtain ⟨_, ⟨h, _⟩ | ⟨_, y, h3, h4, _⟩⟩ := hin.mem hm
      · cases h
      · rw [hR] at hb; exact ⟨σ k, y, h3, hn _ _ (eI h3), hb, h4⟩
    refine (hc (eE (hp need) F σ (fun _ => false) η) (xs.toArray.map ρo ++ vs) h1 (by simpa using hall)).mono ?_
    rintro e' w' ⟨v, η2, rfl, rfl, h2, hrv, href⟩
    have h2s : η.w.heap.size ≤ η2.w.heap.size := h2.size
    have keep : ∀ b, b < η.w.heap.size → (∀ K y, hp need K = some y → c8 (η.ρ K) ≠ some b) → η2.w.heap[b]? = η.w.heap[b]? := fun b hb hno => h2.keep b hb fun hx => by
      obtain ⟨K, y, g1, _, g2, _⟩ := X1 b hx
      exact hno K y g1 g2
    have keepI : ∀ b, η.I b → η2.w.heap[b]? = η.w.heap[b]? := fun b hb => keep b (hH.lt b hb) fun K y hK hbk => (hH'.own K y b hK hbk).1 hb
    have growI : ∀ b, η.I b → η2.I b := fun b hb => h2.old b (Or.inl hb)
    have newI : ∀ b, η2.I b → η.I b ∨ (∃ K y, hp need K = some y ∧ c8 (η.ρ K) = some b) ∨ η.w.heap.size ≤ b := by
      intro b hb
      rcases h2.new b hb with (h | ⟨K, y, _, h, h'⟩) | h | h
      · exact .inl h
      · exact .inr (.inl ⟨K, y, h, h'⟩)
      · exact .inr (.inr h)
      · obtain ⟨K, y, g1, _, g2, _⟩ := X1 b h; exact .inr (.inl ⟨K, y, g1, g2⟩)
    have rE : ∀ k, (bF k new = false → Nat.blt (σ' k) N0 = true ∧ σ (σ' k) = k) → (bif bF k new then η2.ρ (σ' k) else η.ρ k) = η2.ρ (σ' k) := by
      intro k hk
      cases hm : bF k new with
      | true => rfl
      | false =>
        obtain ⟨g1, g2⟩ := hk hm
        show η.ρ k = _
        rw [href _ (of_decide_eq_true (by simpa [Nat.blt_eq] using g1)), hR, g2]
    have leq : ∀ (ks : Nat → Prop), (∀ k, ks k → bF k new = false → Nat.blt (σ' k) N0 = true ∧ σ (σ' k) = k) → Le ks (eE (hp outs) (fun _ => false) σ' (fun _ => false) η2) ⟨η2.w, η2.I, fun k => bif bF k new then η2.ρ (σ' k) else η.ρ k⟩ := fun ks hks =>
      ⟨fun b hb => hb.elim id fun ⟨_, _, h, _⟩ => (by cases h), fun _ _ => rfl, fun k hk => (by rw [ku (H := hp outs) (F := fun _ => false) rfl rfl]; exact rE k (hks k hk))⟩
    have rold : ∀ k, k ∉ new → (bif bF k new then η2.ρ (σ' k) else η.ρ k) = η.ρ k := fun k hk => by
      cases hm : bF k new with
      | true => exact absurd (lz.1 hm) hk
      | false => rfl
    refine ⟨v, rfl, ⟨η2.w, η2.I, fun k => bif bF k new then η2.ρ (σ' k) else η.ρ k⟩, rfl, ⟨growI, keepI, rold⟩, ?_, r'.mono (leq _ hbr) (hr.p _ _ h2 v hrv)⟩
    have cases_ : ∀ k x, H.upds ((outs'.map fun y => (y.1, some y.2)) ++ (need.map (·.1)).map fun j => (j, none)) k = some x → hp outs' k = some x ∨ (bF k (need.map (·.1)) = false ∧ H k = some x) := by
      intro k x hk
      rw [Jw] at hk
      cases ho' : hp outs' k with
      | some y => rw [ho'] at hk; exact .inl hk
      | none =>
        rw [ho'] at hk
        cases hm : bF k (need.map (·.1)) with
        | true => rw [hm] at hk; simp at hk
        | false => rw [hm] at hk; exact .inr ⟨rfl, by simpa using hk⟩
    have outR : ∀ k x, hp outs' k = some x → (bif bF k new then η2.ρ (σ' k) else η.ρ k) = η2.ρ (σ' k) := fun k x hk => rE k (qq k (ho.mem (eI hk)).1)
    have outY : ∀ k x, hp outs' k = some x → ∃ y, hp outs (σ' k) = some y ∧ ii (hp outs) (fun _ => false) σ' (fun _ => false) (fun k => bF k new || (Nat.blt (σ' k) N0 && Nat.beq (σ (σ' k)) k && bF k (need.map (·.1)))) y x := fun k x hk => by
      obtain ⟨_, ⟨h, _⟩ | ⟨_, y, h3, _, h4⟩⟩ := ho.mem (eI hk)
      · cases h
      · exact ⟨y, h3, h4⟩
    have othN : ∀ k x, bF k (need.map (·.1)) = false → H k = some x → k ∉ new ∧ ∀ b K y, c8 (η.ρ k) = some b → hp need K = some y → c8 (η.ρ K) ≠ some b := fun k x hm hk => by
      refine ⟨fun h => (by rw [(hfr k h).1] at hk; cases hk), fun b K y hb hK hbK => ?_⟩
      have := hH.apart k K x y b hk (hn K y (eI hK)) hb hbK
      subst this
      have : bF k (need.map (·.1)) = true := lz.2 (List.mem_map.2 ⟨_, eI hK, rfl⟩)
      rw [hm] at this; cases this
    refine ⟨fun k x hk => ?_, fun k x b hk hb => ?_, fun k k' x x' b hk hk' b1 b2 => ?_, h2.lt, fun b hb => ?_, fun b hb => growI b (hH.old b hb), Nat.le_trans hH.size h2s, fun b hb hx => ?_, h2.os.trans hH.os, h2.tape.trans hH.tape, h2.output.trans hH.output⟩
    · show Holds _ (bif bF k new then η2.ρ (σ' k) else η.ρ k) x
      rcases cases_ k x hk with h | ⟨hm, h⟩
      · obtain ⟨y, h3, h4⟩ := outY k x h
        rw [outR k x h]
        exact (h4.holds h2 (h2.holds _ _ h3)).mono (leq _ fun j hj => hbo k x (eI h) j hj) (fun _ _ => rfl)
      · obtain ⟨g1, g2⟩ := othN k x hm h
        rw [rold k g1]
        exact (hH.holds k x h).mono ⟨growI, keepI, fun j hj => rold j fun hjn => (hfr j hjn).2 k x h hj⟩ (fun b hb => keep b (hH.own k x b h hb).2.1 fun K y hK => g2 b K y hb hK)
    · have hb' : c8 (bif bF k new then η2.ρ (σ' k) else η.ρ k) = some b := hb
      rcases cases_ k x hk with h | ⟨hm, h⟩
      · obtain ⟨y, h3, h4⟩ := outY k x h
        rw [outR k x h] at hb'
        obtain ⟨g1, g2, g3⟩ := h2.own _ y b h3 hb'
        refine ⟨g1, g2, ?_⟩
        rcases g3 with g3 | g3
        · exact .inl (Nat.le_trans hH.size g3)
        · obtain ⟨K, z, q1, _, q2, _⟩ := X1 b g3; exact (hH'.own K z b q1 q2).2.2
      · obtain ⟨g1, g2⟩ := othN k x hm h
        rw [rold k g1] at hb'
        obtain ⟨q1, q2, q3⟩ := hH.own k x b h hb'
        refine ⟨fun hI => ?_, Nat.lt_of_lt_of_le q2 h2s, q3⟩
        rcases newI b hI with h | ⟨K, y, hK, hbK⟩ | h
        · exact q1 h
        · exact g2 b K y hb' hK hbK
        · omega
    · have b1' : c8 (bif bF k new then η2.ρ (σ' k) else η.ρ k) = some b := b1
      have b2' : c8 (bif bF k' new then η2.ρ (σ' k') else η.ρ k') = some b := b2
      have mix : ∀ k k' x x', hp outs' k = some x → bF k' (need.map (·.1)) = false → H k' = some x' → c8 (η2.ρ (σ' k)) = some b → c8 (η.ρ k') = some b → False := fun k k' x x' h hm h' c1 c2 => by
        obtain ⟨y, h3, h4⟩ := outY k x h
        have g2 := (othN k' x' hm h').2
        rcases (h2.own _ y b h3 c1).2.2 with g3 | g3
        · have : η.w.heap.size ≤ b := g3
          have := (hH.own k' x' b h' c2).2.1
          omega
        · obtain ⟨K, z, q1, _, q2, _⟩ := X1 b g3; exact g2 b K z c2 q1 q2
      rcases cases_ k x hk with h | ⟨hm, h⟩ <;> rcases cases_ k' x' hk' with h' | ⟨hm', h'⟩
      · rw [outR k x h] at b1'
        rw [outR k' x' h'] at b2'
        obtain ⟨y, h3, _⟩ := outY k x h
        obtain ⟨y', h3', _⟩ := outY k' x' h'
        exact ho.inj (eI h) (eI h') rfl rfl (h2.apart _ _ y y' b h3 h3' b1' b2')
      · rw [outR k x h] at b1'
        rw [rold k' (othN k' x' hm' h').1] at b2'
        exact (mix k k' x x' h hm' h' b1' b2').elim
      · rw [outR k' x' h'] at b2'
        rw [rold k (othN k x hm h).1] at b1'
        exact (mix k' k x' x h' hm h b2' b1').elim
      · rw [rold k (othN k x hm h).1] at b1'
        rw [rold k' (othN k' x' hm' h').1] at b2'
        exact hH.apart k k' x x' b h h' b1' b2'
    · rcases newI b hb with h | ⟨K, y, hK, hbK⟩ | h
      · exact hH.new b h
      · exact .inr (hH'.own K y b hK hbK).2.2
      · exact .inr (.inl (Nat.le_trans hH.size h))
    · rw [keep b (Nat.lt_of_lt_of_le hb hH.size) fun K y hK hbK => ?_]
      · exact hH.keep b hb hx
      · rcases (hH'.own K y b hK hbK).2.2 with h | h
        · omega
        · exact hx h
  keys := fun k h => by
    have := hr.keys k h
    simp only [Bool.or_eq_true, Bool.and_eq_true, lz] at this
    exact .inr (.inr (List.mem_append.2 (this.imp id (·.2))))
  ukeys := fun j x h k hk => by
    rcases List.mem_append.1 h with h | h
    · obtain ⟨⟨j', x'⟩, hm, e⟩ := List.mem_map.1 h
      simp only [Prod.mk.injEq, Option.some.injEq] at e
      obtain ⟨rfl, rfl⟩ := e
      obtain ⟨_, ⟨_, E, n, rfl⟩ | ⟨_, y, _, _, h3⟩⟩ := ho.mem hm
      · exact absurd hk (gu k)
      · have := h3.keys k hk
        simp only [Bool.or_eq_true, Bool.and_eq_true, lz] at this
        exact .inr (.inr (List.mem_append.2 (this.imp id (·.2))))
    · obtain ⟨j', _, e⟩ := List.mem_map.1 h
      simp at e
  dom := fun j x h => by
    rcases List.mem_append.1 h with h | h
    · obtain ⟨⟨j', x'⟩, hm, e⟩ := List.mem_map.1 h
      simp only [Prod.mk.injEq] at e
      obtain ⟨rfl, _⟩ := e
      have := (ho.mem hm).1
      simp only [Bool.or_eq_true, Bool.and_eq_true, lz] at this
      rcases this with h | h
      · exact .inr h
      · obtain ⟨⟨j', y⟩, hm', rfl⟩ := List.mem_map.1 h.2
        exact .inl ⟨y, hm'⟩
    · obtain ⟨j', hm, e⟩ := List.mem_map.1 h
      simp only [Prod.mk.injEq] at e
      obtain ⟨rfl, _⟩ := e
      obtain ⟨⟨j', y⟩, hm', rfl⟩ := List.mem_map.1 hm
      exact .inl ⟨y, hm'⟩
  sel := by intro cs b h; cases h
end
end Go.Proofs.YtngimdmkomkeoaaGreat.K
