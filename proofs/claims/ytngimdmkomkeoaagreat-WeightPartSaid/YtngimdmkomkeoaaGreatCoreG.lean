import Derived.Test.YtngimdmkomkeoaaGreatCoreF
set_option linter.unusedVariables false
set_option linter.unusedSimpArgs false
namespace Go.Proofs.YtngimdmkomkeoaaGreat.K
open Go.RowKit
section
variable {c : cS} {η : bA} {H : cz}
theorem bZ.sub {H' : cz} (h : bZ c η H) (hs : ∀ k x, H' k = some x → H k = some x) : bZ c η H' :=
  ⟨fun k x hk => h.holds k x (hs k x hk), fun k x b hk => h.own k x b (hs k x hk), fun k k' x x' b h1 h2 => h.apart k k' x x' b (hs _ _ h1) (hs _ _ h2), h.lt, h.new, h.old, h.size, h.keep, h.os, h.tape, h.output⟩
theorem iA {k j : Nat} {x : Option bB} {y : bB} (h : H.upd k x j = some y) : (j = k ∧ x = some y) ∨ (j ≠ k ∧ H j = some y) := by
  unfold cz.upd at h
  by_cases hj : j = k
  · subst hj; simp at h; exact .inl ⟨rfl, h⟩
  · rw [kr hj] at h; exact .inr ⟨hj, h⟩
theorem bZ.world (h : bZ c η H) {w' : World} (row : Option Nat) (hsz : η.w.heap.size ≤ w'.heap.size) (hch : ∀ b, b < η.w.heap.size → some b ≠ row → w'.heap[b]? = η.w.heap[b]?)
    (hrow : ∀ b, row = some b → ¬ η.I b ∧ (c.w0.heap.size ≤ b ∨ c.X b) ∧ ∀ k x, H k = some x → c8 (η.ρ k) ≠ some b) (os : w'.os = η.w.os) (tape : w'.tape = η.w.tape) (output : w'.output = η.w.output) :
    bZ c ⟨w', η.I, η.ρ⟩ H := by
  have hI : ∀ b, η.I b → w'.heap[b]? = η.w.heap[b]? := fun b hb => hch b (h.lt b hb) fun e => (hrow b e.symm).1 hb
  refine ⟨fun k x hk => ?_, fun k x b hk hb => ?_, h.apart, fun b hb => Nat.lt_of_lt_of_le (h.lt b hb) hsz, h.new, h.old, Nat.le_trans h.size hsz, fun b hb hx => ?_, os.trans h.os, tape.trans h.tape, output.trans h.output⟩
  · refine (h.holds k x hk).mono ⟨fun _ h => h, hI, fun _ _ => rfl⟩ (fun b hb => hch b (h.own k x b hk hb).2.1 fun e => (hrow b e.symm).2.2 k x hk hb)
  · obtain ⟨h1, h2, h3⟩ := h.own k x b hk hb
    exact ⟨h1, Nat.lt_of_lt_of_le h2 hsz, h3⟩
  · rw [hch b (Nat.lt_of_lt_of_le hb h.size) fun e => ?_]
    · exact h.keep b hb hx
    · rcases (hrow b e.symm).2.1 with h4 | h4
      · omega
      · exact hx h4
theorem bZ.add (h : bZ c η H) (K : Nat) (v : Value) (x : bB) (hK : H K = none) (hm : ∀ j y, H j = some y → ¬ y.keys K) (hxK : ¬ x.keys K) (hx : Holds η v x) (hb : ∀ b, c8 v = some b → ¬ η.I b ∧ b < η.w.heap.size ∧ (c.w0.heap.size ≤ b ∨ c.X b))
    (ha : ∀ b k y, c8 v = some b → H k = some y → c8 (η.ρ k) ≠ some b) : bZ c ⟨η.w, η.I, fun j => if j = K then v else η.ρ j⟩ (H.upd K (some x)) := by
  have le : ∀ (ks : Nat → Prop), ¬ ks K → Le ks η ⟨η.w, η.I, fun j => if j = K then v else η.ρ j⟩ := fun ks hk => ⟨fun _ h => h, fun _ _ => rfl, fun k hk' => by
    have : k ≠ K := fun e => hk (e ▸ hk')
    simp [this]⟩
  have rho : ∀ j, j ≠ K → (if j = K then v else η.ρ j) = η.ρ j := fun j hj => by simp [hj]
  have rhoK : (if K = K then v else η.ρ K) = v := by simp
  refine ⟨fun k y hk => ?_, fun k y b hk hbk => ?_, fun k k' y y' b h1 h2 b1 b2 => ?_, h.lt, h.new, h.old, h.size, h.keep, h.os, h.tape, h.output⟩
  · show Holds _ (if k = K then v else η.ρ k) y
    rcases iA hk with ⟨rfl, e⟩ | ⟨hj, hk⟩
    · cases e; rw [rhoK]; exact hx.mono (le _ hxK) (fun _ _ => rfl)
    · rw [rho k hj]; exact (h.holds k y hk).mono (le _ (hm k y hk)) (fun _ _ => rfl)
  · have hbk' : c8 (if k = K then v else η.ρ k) = some b := hbk
    rcases iA hk with ⟨rfl, e⟩ | ⟨hj, hk⟩
    · rw [rhoK] at hbk'; exact hb b hbk'
    · rw [rho k hj] at hbk'; exact h.own k y b hk hbk'
  · have b1' : c8 (if k = K then v else η.ρ k) = some b := b1
    have b2' : c8 (if k' = K then v else η.ρ k') = some b := b2
    rcases iA h1 with ⟨e1, _⟩ | ⟨hj1, g1⟩ <;> rcases iA h2 with ⟨e2, _⟩ | ⟨hj2, g2⟩
    · rw [e1, e2]
    · subst e1; rw [rhoK] at b1'; rw [rho k' hj2] at b2'; exact absurd b2' (ha b k' y' b1' g2)
    · subst e2; rw [rhoK] at b2'; rw [rho k hj1] at b1'; exact absurd b1' (ha b k y b2' g1)
    · rw [rho k hj1] at b1'; rw [rho k' hj2] at b2'; exact h.apart k k' y y' b g1 g2 b1' b2'
theorem bZ.write (h : bZ c η H) {K : Nat} {x x' : bB} (hK : H K = some x) {w' : World} (hsz : w'.heap.size = η.w.heap.size) (hch : ∀ b, some b ≠ c8 (η.ρ K) → w'.heap[b]? = η.w.heap[b]?) (os : w'.os = η.w.os) (tape : w'.tape = η.w.tape) (output : w'.output = η.w.output)
    (hx : Holds ⟨w', η.I, η.ρ⟩ (η.ρ K) x') : bZ c ⟨w', η.I, η.ρ⟩ (H.upd K (some x')) := by
  have h0 : bZ c η (H.upd K none) := h.sub fun k y hk => by
    rcases iA hk with ⟨_, e⟩ | ⟨_, e⟩
    · cases e
    · exact e
  have h1 := h0.world (w' := w') (c8 (η.ρ K)) (by omega) (fun b _ hb => hch b hb) (fun b hb => ⟨(h.own K x b hK hb).1, (h.own K x b hK hb).2.2, fun k y hk hbk => by
    rcases iA hk with ⟨_, e⟩ | ⟨hj, e⟩
    · cases e
    · exact hj (h.apart k K y x b e hK hbk hb)⟩) os tape output
  refine ⟨fun k y hk => ?_, fun k y b hk hbk => ?_, fun k k' y y' b g1 g2 b1 b2 => ?_, h1.lt, h1.new, h1.old, h1.size, h1.keep, h1.os, h1.tape, h1.output⟩
  · rcases iA hk with ⟨rfl, e⟩ | ⟨hj, hk⟩
    · cases e; exact hx
    · exact h1.holds k y (by unfold cz.upd; rw [kr hj]; exact hk)
  · rcases iA hk with ⟨rfl, e⟩ | ⟨hj, hk⟩
    · have := h.own k x b hK hbk
      exact ⟨this.1, by show b < w'.heap.size; rw [hsz]; exact this.2.1, this.2.2⟩
    · exact h1.own k y b (by unfold cz.upd; rw [kr hj]; exact hk) hbk
  · have f : ∀ k y, H.upd K (some x') k = some y → ∃ z, H k = some z := fun k y hk => by
      rcases iA hk with ⟨rfl, e⟩ | ⟨_, e⟩
      · exact ⟨x, hK⟩
      · exact ⟨y, e⟩
    obtain ⟨z, hz⟩ := f k y g1
    obtain ⟨z', hz'⟩ := f k' y' g2
    exact h.apart k k' z z' b hz hz' b1 b2
end
class eb (A : ae) : Prop where
  one : ∀ η v, A.p η v → v.oneCell' = true
class cQ (As : List ae) : Prop where
  one : ∀ A ∈ As, ∀ η v, A.p η v → v.oneCell' = true
instance {k : IntKind} {n : Int} : eb (aj k n) := ⟨fun η v h => by obtain ⟨rfl, _⟩ := h; rfl⟩
instance {b : Bool} : eb (aa b) := ⟨fun η v h => by have : v = .bool b := h; subst this; rfl⟩
instance {s : ByteArray} : eb (am s) := ⟨fun η v h => by obtain ⟨rfl, _⟩ := h; rfl⟩
instance {n : Nat} {rows : List (List ae)} : eb (dR n rows) := ⟨fun η v h => by obtain ⟨a, c, rfl, _⟩ := h; rfl⟩
instance {As : List ae} : eb (ap As) := ⟨fun η v h => by obtain ⟨b, o, rfl, _⟩ := h; rfl⟩
instance {k : Nat} : eb (a8 k) := ⟨fun η v h => h.2⟩
instance {k o : Nat} : eb (aO k o) := ⟨fun η v h => by obtain ⟨b, _, rfl⟩ := h; rfl⟩
instance {f : FuncId} {As : List ae} : eb (bj f As) := ⟨fun η v h => by obtain ⟨vs, rfl, _⟩ := h; rfl⟩
instance {a : Option Addr} {n c : Nat} : eb (fm (.slice a n c)) := ⟨fun η v h => by have : v = .slice a n c := h; subst this; rfl⟩
instance {a : Option Addr} : eb (fm (.pointer a)) := ⟨fun η v h => by have : v = .pointer a := h; subst this; rfl⟩
instance : eb (fm .nilFunc) := ⟨fun η v h => by have : v = .nilFunc := h; subst this; rfl⟩
instance {α β : Type} {P : Program} {ga : α → List ae} {rt : β → ae} {g : α → Option β} : eb (cC P ga rt g) := ⟨fun η v h => by obtain ⟨f, vs, caps, fn, rfl, _⟩ := h; rfl⟩
instance : cQ [] := ⟨fun A h => by simp at h⟩
instance {A : ae} {As : List ae} [h : eb A] [h' : cQ As] : cQ (A :: As) := ⟨fun B hB => by
  rcases List.mem_cons.1 hB with rfl | hB
  · exact h.one
  · exact h'.one B hB⟩
theorem cQ.append {As Bs : List ae} (h : cQ As) (h' : cQ Bs) : cQ (As ++ Bs) := ⟨fun B hB => by
  rcases List.mem_append.1 hB with hB | hB
  · exact h.one B hB
  · exact h'.one B hB⟩
def mi (P : Program) (E : Nat) : Option (List Value) := ((P.info? E).bind (·.zero)).map fun z => z.cells.toList
def dA (P : Program) (E : Nat) : Option Nat := (P.info? E).map (·.size)
section
variable {P : Program} {c : cS} {lk : Operand → ae} {d : Option Nat} {ty : TypeId} {pos : String} {aft : Array Edge} {gd : Option (Nat × Bool)}
theorem ph (η : bA) (vs : List Value) : bw η (vs.map fY) vs := by
  induction vs with
  | nil => exact .nil
  | cons v vs ih => exact .cons (wx η v) ih
theorem nq {vs : List Value} {k : Nat} : ¬ d7 (vs.map fY) k := by
  rintro ⟨A, hA, hk⟩
  obtain ⟨v, _, rfl⟩ := List.mem_map.1 hA
  exact sW v k hk
theorem H9 {E : TypeId} {K : Nat} {zs : List Value} {As : List ae} (hz : mi P E = some zs) (hA : zs.map fY = As) : cg P c ⟨d, .alloc E, ty, pos, aft, gd⟩ lk [] [(K, some (.box E As))] [K] (a8 K) where
  run := by
    intro η ρo H hH _ _ hfresh _
    obtain ⟨z, hz1, hz2⟩ := Option.map_eq_some_iff.1 hz
    obtain ⟨i, hi, hz3⟩ := Option.bind_eq_some_iff.1 hz1
    unfold dJ
    have hrun : (execOp ρo ⟨d, .alloc E, ty, pos, aft, gd⟩).run P η.w = .ok (.value (.pointer (some ⟨η.w.heap.size, 0, none⟩))) (η.w.alloc (.cells z.cells E (0, 0))) := by
      simp [execOp, Instr.alloc, zeroValue, typeInfo, hi, hz3, newVar, newRow]
    rw [hrun]
    have h1 := hH.alloc (.cells z.cells E (0, 0)) η.I (fun b hb => .inl hb) (fun b hb => hb)
    have hKs := hfresh K (by simp)
    have hI : ¬ η.I η.w.heap.size := fun h => Nat.lt_irrefl _ (hH.lt _ h)
    have h2 := h1.add K (.pointer (some ⟨η.w.heap.size, 0, none⟩)) (.box E As) hKs.1 hKs.2 (by subst hA; exact nq) ?_ ?_ ?_
    · refine ⟨⟨η.w.alloc (.cells z.cells E (0, 0)), η.I, fun j => if j = K then .pointer (some ⟨η.w.heap.size, 0, none⟩) else η.ρ j⟩, rfl, ⟨fun _ h => h, fun b hb => Below.heap_alloc _ _ _ (hH.lt b hb), fun k hk => ?_⟩, h2, ?_, rfl⟩
      · have : k ≠ K := by simpa using hk
        simp [this]
      · simp
    · refine ⟨η.w.heap.size, z.cells, rfl, heap_alloc_new _ _, ?_⟩
      subst hA; rw [← hz2]; exact ph _ _
    · intro b hb
      have : η.w.heap.size = b := by simpa [c8] using hb
      subst this
      exact ⟨hI, by simp, .inl hH.size⟩
    · intro b k y hb hk hbk
      have : η.w.heap.size = b := by simpa [c8] using hb
      subst this
      exact Nat.lt_irrefl _ (hH.own k y _ hk hbk).2.1
  keys := fun k h => .inr (.inr (by have : k = K := h; simp [this]))
  ukeys := fun j x h k hk => by
    simp at h; obtain ⟨_, rfl⟩ := h
    subst hA; exact absurd hk nq
  dom := fun j x h => .inr (by simp at h; simp [h.1])
  sel := by intro cs b h; cases h
inductive fH : ae → Nat → Nat → Prop
  | obj {K : Nat} : fH (a8 K) K 0
  | at {K o : Nat} : fH (aO K o) K o
theorem fH.spec {A : ae} {K o : Nat} (h : fH A K o) {η : bA} {v : Value} (hp : A.p η v) {E : TypeId} {cs : List ae} (hh : Holds η (η.ρ K) (.box E cs)) :
    ∃ b arr, η.ρ K = .pointer (some ⟨b, 0, none⟩) ∧ v = .pointer (some ⟨b, o, none⟩) ∧ η.w.heap[b]? = some (.cells arr E (0, 0)) ∧ bw η cs arr.toList := by
  obtain ⟨b, arr, h1, h2, h3⟩ := hh
  cases h with
  | obj => exact ⟨b, arr, h1, by rw [hp.1, h1], h2, h3⟩
  | «at» =>
    obtain ⟨b', h4, h5⟩ := hp
    rw [h1] at h4
    have : b = b' := by simpa using h4
    subst this
    exact ⟨b, arr, h1, h5, h2, h3⟩
theorem L9 {S f off : Nat} {x : Operand} {A : ae} {K o : Nat} {E : TypeId} {cs : List ae} (hP : bV P S f = some off) (hx : lk x = A) (hA : fH A K o) : cg P c ⟨d, .fieldAddr S x f, ty, pos, aft, gd⟩ lk [(K, .box E cs)] [] [] (aO K (o + off)) where
  run := by
    intro η ρo H hH hop hn _ _
    obtain ⟨fs, fd, i, h1, h2, h3, h4, h5⟩ := xC hP
    have hp := hop x (by simp [Op.operands]); rw [hx] at hp
    obtain ⟨b, arr, e1, e2, _, _⟩ := hA.spec hp (hH.holds K _ (hn K _ (List.mem_singleton.2 rfl)))
    unfold dJ
    have hrun : (execOp ρo ⟨d, .fieldAddr S x f, ty, pos, aft, gd⟩).run P η.w = .ok (.value (.pointer (some ⟨b, o + off, none⟩))) η.w := by
      simp [execOp, e2, Instr.fieldAt, run_underlying h1, h2, Instr.sureAddr, fieldPlace, sizeOf, typeInfo, h3, h4, h5, Addr.add_lit]
    rw [hrun]
    exact ⟨η, rfl, ⟨fun _ h => h, fun _ _ => rfl, fun _ _ => rfl⟩, hH, b, e1, rfl⟩
  keys := fun k h => .inl ⟨x, by simp [Op.operands], by rw [hx]; cases hA <;> exact h⟩
  ukeys := fun j x h => by simp at h
  dom := fun j x h => by simp at h
  sel := by intro cs b h; cases h
theorem Hd {T : Nat} {x : Operand} {A B : ae} {K o : Nat} {E : TypeId} {cs : List ae} (hT : dD P T = true) (hx : lk x = A) (hA : fH A K o) (hB : cs[o]? = some B) : cg P c ⟨d, .load T x, ty, pos, aft, gd⟩ lk [(K, .box E cs)] [] [] B where
  run := by
    intro η ρo H hH hop hn _ _
    have hp := hop x (by simp [Op.operands]); rw [hx] at hp
    obtain ⟨b, arr, e1, e2, e3, e4⟩ := hA.spec hp (hH.holds K _ (hn K _ (List.mem_singleton.2 rfl)))
    obtain ⟨u, hu, hup⟩ := e4.get o B hB
    have hc : η.w.cell? ⟨b, o, none⟩ = some u := by rw [cell_of_row _ _ _ _ _ _ e3]; simpa using hu
    unfold dJ
    have hrun : (execOp ρo ⟨d, .load T x, ty, pos, aft, gd⟩).run P η.w = .ok (.value u) η.w := by
      simp [execOp, e2, Instr.loadAt, Instr.sureAddr, uD hT hc]
    rw [hrun]
    exact ⟨η, rfl, ⟨fun _ h => h, fun _ _ => rfl, fun _ _ => rfl⟩, hH, hup⟩
  keys := fun k h => .inr (.inl ⟨K, _, List.mem_singleton.2 rfl, B, List.mem_of_getElem? hB, h⟩)
  ukeys := fun j x h => by simp at h
  dom := fun j x h => by simp at h
  sel := by intro cs b h; cases h
theorem JW {T m : Nat} {x : Operand} {A : ae} {K o : Nat} {E : TypeId} {cs Bs : List ae} (hT : dz P T = some m) (hx : lk x = A) (hA : fH A K o) (hB : (cs.drop o).take m = Bs) (hm : Bs.length = m) :
    cg P c ⟨d, .load T x, ty, pos, aft, gd⟩ lk [(K, .box E cs)] [] [] (ac Bs) where
  run := by
    intro η ρo H hH hop hn _ _
    have hp := hop x (by simp [Op.operands]); rw [hx] at hp
    obtain ⟨b, arr, e1, e2, e3, e4⟩ := hA.spec hp (hH.holds K _ (hn K _ (List.mem_singleton.2 rfl)))
    have h1 := (e4.drop o).take m
    rw [hB] at h1
    have hl := h1.length
    unfold dJ
    have hrun : (execOp ρo ⟨d, .load T x, ty, pos, aft, gd⟩).run P η.w = .ok (.value (.agg ((arr.toList.drop o).take m).toArray)) η.w := by
      have := uo (P := P) (b := b) (o := o) (w := η.w) (us := (arr.toList.drop o).take m) hT (by omega) (fun j u hj => by
        rw [cell_of_row _ _ _ _ _ _ e3]
        rw [List.getElem?_take, List.getElem?_drop] at hj
        split at hj
        · simpa using hj
        · simp at hj)
      simp [execOp, e2, Instr.loadAt, Instr.sureAddr, this]
    rw [hrun]
    exact ⟨η, rfl, ⟨fun _ h => h, fun _ _ => rfl, fun _ _ => rfl⟩, hH, _, rfl, by simpa using h1⟩
  keys := fun k h => .inr (.inl ⟨K, _, List.mem_singleton.2 rfl, jJ (fun B hB' => List.mem_of_mem_drop (List.mem_of_mem_take (by rw [hB]; exact hB'))) h⟩)
  ukeys := fun j x h => by simp at h
  dom := fun j x h => by simp at h
  sel := by intro cs b h; cases h
def fE (cs : List ae) (o : Nat) (Bs : List ae) : List ae := cs.take o ++ Bs ++ cs.drop (o + Bs.length)
theorem Ig {T m : Nat} {x y : Operand} {A B : ae} {Bs : List ae} {K o : Nat} {E : TypeId} {cs cs' : List ae} (hT : dA P T = some m) (hx : lk x = A) (hA : fH A K o) (hy : lk y = B) (hB : kp B Bs) (hk : ∀ k, d7 Bs k → B.keys k) (h1 : cQ Bs) (hm : Bs.length = m)
    (ho : Nat.ble (o + m) cs.length = true) (hs : fE cs o Bs = cs') : cg P c ⟨d, .store T x y, ty, pos, aft, gd⟩ lk [(K, .box E cs)] [(K, some (.box E cs'))] [] fA where
  run := by
    intro η ρo H hH hop hn _ _
    obtain ⟨i, hi, him⟩ := Option.map_eq_some_iff.1 hT
    have hp := hop x (by simp [Op.operands]); rw [hx] at hp
    have hq := hop y (by simp [Op.operands]); rw [hy] at hq
    have hK := hn K _ (List.mem_singleton.2 rfl)
    obtain ⟨b, arr, e1, e2, e3, e4⟩ := hA.spec hp (hH.holds K _ hK)
    have hv := hB η _ hq
    have hvl := hv.length
    have hal := e4.length
    have hle : o + m ≤ cs.length := of_decide_eq_true (by simpa [Nat.ble_eq] using ho)
    have hone : ∀ v ∈ (ρo y).cells.toList, v.oneCell' = true := by
      intro v hvm
      obtain ⟨j, hj⟩ := List.getElem?_of_mem hvm
      obtain ⟨B', hB'⟩ : ∃ B', Bs[j]? = some B' := ⟨_, List.getElem?_eq_getElem (by have := (List.getElem?_eq_some_iff.1 hj).1; omega)⟩
      obtain ⟨u, hu, hup⟩ := hv.get j B' hB'
      rw [hj] at hu; cases hu
      exact h1.one B' (List.mem_of_getElem? hB') η v hup
    have hst := run_storeCells_at (P := P) b o E (ρo y).cells.toList 0 arr η.w e3 (by simp at hal hvl ⊢; omega) hone
    unfold dJ
    have hrun : (execOp ρo ⟨d, .store T x y, ty, pos, aft, gd⟩).run P η.w = .ok .skip (η.w.setRow b (arr.toList.take o ++ (ρo y).cells.toList ++ arr.toList.drop (o + (ρo y).cells.toList.length)).toArray) := by
      have hcs : (ρo y).cells.size = i.size := by simp at hvl; omega
      simp only [Nat.add_zero] at hst
      simp [execOp, e2, Instr.storeAt, Instr.sureAddr, storeVar, sizeOf, typeInfo, hi, hcs]
      simp at hst
      simp [hst, hcs]
    rw [hrun]
    have w1 : (η.w.setRow b (arr.toList.take o ++ (ρo y).cells.toList ++ arr.toList.drop (o + (ρo y).cells.toList.length)).toArray).heap[b]? = some (.cells (arr.toList.take o ++ (ρo y).cells.toList ++ arr.toList.drop (o + (ρo y).cells.toList.length)).toArray E (0, 0)) := setRow_heap _ _ _ _ _ _ e3
    have w2 : ∀ b', b' ≠ b → (η.w.setRow b (arr.toList.take o ++ (ρo y).cells.toList ++ arr.toList.drop (o + (ρo y).cells.toList.length)).toArray).heap[b']? = η.w.heap[b']? := fun b' hb' => setRow_other _ _ _ _ hb'
    have w3 : (η.w.setRow b (arr.toList.take o ++ (ρo y).cells.toList ++ arr.toList.drop (o + (ρo y).cells.toList.length)).toArray).heap.size = η.w.heap.size := by simp
    have w4 : (η.w.setRow b (arr.toList.take o ++ (ρo y).cells.toList ++ arr.toList.drop (o + (ρo y).cells.toList.length)).toArray).os = η.w.os := rfl
    have w5 : (η.w.setRow b (arr.toList.take o ++ (ρo y).cells.toList ++ arr.toList.drop (o + (ρo y).cells.toList.length)).toArray).tape = η.w.tape := rfl
    have w6 : (η.w.setRow b (arr.toList.take o ++ (ρo y).cells.toList ++ arr.toList.drop (o + (ρo y).cells.toList.length)).toArray).output = η.w.output := rfl
    generalize η.w.setRow b (arr.toList.take o ++ (ρo y).cells.toList ++ arr.toList.drop (o + (ρo y).cells.toList.length)).toArray = W at *
    have hne : ∀ b', η.I b' → b' ≠ b := fun b' hb' e => by subst e; exact (hH.own K _ b' hK (by rw [e1]; rfl)).1 hb'
    refine ⟨⟨W, η.I, η.ρ⟩, rfl, ⟨fun _ h => h, fun b' hb' => w2 b' (hne b' hb'), fun _ _ => rfl⟩, hH.write hK w3 (fun b' hb' => w2 b' fun e => ?_) w4 w5 w6 ⟨b, _, e1, w1, ?_⟩, trivial⟩
    · subst e
      exact hb' (by rw [e1]; rfl)
    · subst hs
      have tr : ∀ {As : List ae} {vs : List Value}, bw η As vs → bw ⟨W, η.I, η.ρ⟩ As vs := fun h => h.mono ⟨fun _ h => h, fun b' hb' => w2 b' (hne b' hb'), fun _ _ => rfl⟩
      have h9 := ((tr (e4.take o)).append (tr hv)).append (tr (e4.drop (o + Bs.length)))
      rw [hvl] at h9
      show bw _ (cs.take o ++ Bs ++ cs.drop (o + Bs.length)) _
      rw [hvl]
      exact h9
  keys := fun k h => h.elim
  ukeys := fun j z h k hk' => by
    simp at h; obtain ⟨rfl, rfl⟩ := h
    obtain ⟨A', hA', hkk⟩ := hk'
    subst hs
    unfold fE at hA'
    rcases List.mem_append.1 hA' with h2 | h2
    · rcases List.mem_append.1 h2 with h3 | h3
      · exact .inr (.inl ⟨j, _, List.mem_singleton.2 rfl, A', List.mem_of_mem_take h3, hkk⟩)
      · exact .inl ⟨y, by simp [Op.operands], by rw [hy]; exact hk k ⟨A', h3, hkk⟩⟩
    · exact .inr (.inl ⟨j, _, List.mem_singleton.2 rfl, A', List.mem_of_mem_drop h2, hkk⟩)
  dom := fun j z h => .inl (by simp at h; exact ⟨.box E cs, by rw [h.1]; exact List.mem_singleton.2 rfl⟩)
  sel := by intro cs b h; cases h
end
end Go.Proofs.YtngimdmkomkeoaaGreat.K
