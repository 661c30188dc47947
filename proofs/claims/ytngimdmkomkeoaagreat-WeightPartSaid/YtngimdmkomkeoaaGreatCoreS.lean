import Derived.Test.YtngimdmkomkeoaaGreatCoreR
set_option linter.unusedVariables false
set_option linter.unusedSimpArgs false
namespace Go.Proofs.YtngimdmkomkeoaaGreat.K
open Go.RowKit
section
variable {H : cz} {F : Nat → Bool} {σ : Nat → Nat} {G Q : Nat → Bool}
theorem Cv.ptr {As Bs : List ae} (h : c9 H F σ G Q As Bs) : Cv H F σ G Q (ap As) (ap Bs) := ⟨fun c η hH v ⟨b, o, e, hI, us, h1, h2⟩ => ⟨b, o, e, Or.inl hI, us, h.all2 hH h1, h2⟩, h.keys⟩
theorem Cv.clo {f : FuncId} {As Bs : List ae} (h : c9 H F σ G Q As Bs) : Cv H F σ G Q (bj f As) (bj f Bs) := ⟨fun c η hH v ⟨vs, e, hv⟩ => ⟨vs, e, h.all2 hH hv⟩, h.keys⟩
end
theorem KB.ptr {N : Nat} {As : List ae} (h : bH N As) : KB N (ap As) := ⟨h.kb⟩
theorem KB.clo {N : Nat} {f : FuncId} {As : List ae} (h : bH N As) : KB N (bj f As) := ⟨h.kb⟩
section
variable {P : Program} {c : cS} {lk : Operand → ae} {d : Option Nat} {ty : TypeId} {pos : String} {aft : Array Edge} {gd : Option (Nat × Bool)} {x y : Operand} {k : IntKind} {a b : Int}
theorem o_min (hx : lk x = aj k a) (hy : lk y = aj k b) {ts : Array TypeId} : cg P c ⟨d, .call ⟨.builtin .min, #[x, y], ts⟩, ty, pos, aft, gd⟩ lk [] [] [] (aj k (if b < a then b else a)) := by
  refine dE (by intro cs b h; cases h) (fun k h => h.elim) fun η ρo H _ ho => ?_
  have h1 := ho x (by simp [Op.operands, Call.operands]); rw [hx] at h1; obtain ⟨h1, h3⟩ := h1
  have h2 := ho y (by simp [Op.operands, Call.operands]); rw [hy] at h2; obtain ⟨h2, h4⟩ := h2
  refine ⟨.int k (if b < a then b else a), by simp [execOp, resolve, invoke, builtin, h1, h2, Builtin.min_, Builtin.min2], rfl, ?_⟩
  split
  · exact h4
  · exact h3
theorem o_bsO {T E n len K : Nat} {parts : List (Nat × Operand)} {zs : List Value} {As : List ae} {rows : List (List ae)} {ps : List (Nat × List ae)} (hT : dG P T = some (E, n)) (hz : oW P E len = some zs) (hA : zs.map fY = As)
    (hp : jm lk (fun i => some (i * n, n)) As.length parts ps) (hB : io As ps = rows.flatten) (hr : ∀ r ∈ rows, r.length = n) (hlen : rows.length = len) (hkr : ∀ k, ¬ d7 rows.flatten k) : cg P c ⟨d, .buildSlice T len parts.toArray, ty, pos, aft, gd⟩ lk [] [(K, some (.row E n rows))] [K] (a8 K) where
  run := by
    intro η ρo H hH ho _ hfresh _
    have hops : ∀ i x, (i, x) ∈ parts → x ∈ (Op.buildSlice T len parts.toArray).operands.toList := fun i x hx => by
      simp [Op.operands]; exact ⟨i, hx⟩
    obtain ⟨ie, hu, hie, hsz⟩ := mT hT
    unfold oW at hz
    rw [hie] at hz
    simp only at hz
    split at hz
    · rename_i z hzz
      split at hz
      · cases hz
      · rename_i hsmall
        split at hz
        · cases hz
        · rename_i hpos
          have hzs := Option.some.inj hz
          have hcs : ((Array.range (len * ie.size)).map (z.cells[· % z.cells.size]!)).toList = zs := hzs
          subst hsz
          have h0 : bw η As ((Array.range (len * ie.size)).map (z.cells[· % z.cells.size]!)).toList := by rw [hcs]; subst hA; exact ph _ _
          obtain ⟨r, hr1, hr2⟩ := wM (ρo := ρo) hp rfl h0 (fun i x hx => ho x (hops i x hx))
          rw [hB] at hr2
          have hparts : (parts.toArray.map fun (x : Nat × Operand) => (x.1, ρo x.2)).toList = parts.map fun x => (x.1, ρo x.2) := by simp
          have hrunB := run_buildSlice (P := P) η.w T E len (parts.toArray.map fun (x : Nat × Operand) => (x.1, ρo x.2)) r ie z hu hie hzz hsmall hpos (by rw [hparts]; exact hr1)
          have hml : len ≤ maxLen := by
            unfold maxLen
            have : 0 < ie.size := Nat.pos_of_ne_zero fun e => hpos (by rw [e]; simp)
            have : len ≤ len * ie.size := Nat.le_mul_of_pos_right _ this
            omega
          have hrl := hr2.length
          rw [pi hr, hlen] at hrl
          unfold dJ
          have hrun : (execOp ρo ⟨d, .buildSlice T len parts.toArray, ty, pos, aft, gd⟩).run P η.w = .ok (.value (.slice (some ⟨η.w.heap.size, 0, none⟩) len len)) (η.w.alloc (.cells r E)) := by
            simp only [execOp, Sem.run_bind, hrunB, Result.andThen_ok]
            simp
          rw [hrun]
          have g1 := hH.alloc (.cells r E (0, 0)) η.I (fun b hb => .inl hb) (fun b hb => hb)
          have hKs := hfresh K (by simp)
          have hI : ¬ η.I η.w.heap.size := fun h => Nat.lt_irrefl _ (hH.lt _ h)
          have hHold : Holds ⟨η.w.alloc (.cells r E (0, 0)), η.I, η.ρ⟩ (.slice (some ⟨η.w.heap.size, 0, none⟩) len len) (.row E ie.size rows) := by
            refine ⟨hr, r.toList, ⟨by rw [← hrl, hlen], .inr ⟨η.w.heap.size, len, _, by rw [hlen], Nat.zero_le _, heap_alloc_new _ _, by omega, hml, by rw [← Array.length_toList]; omega, by rw [List.take_of_length_le (by rw [hlen]; omega)]⟩⟩, ?_⟩
            exact hr2.mono ⟨fun _ h => h, fun b hb => Below.heap_alloc _ _ _ (hH.lt b hb), fun _ _ => rfl⟩
          have g2 := g1.add K (.slice (some ⟨η.w.heap.size, 0, none⟩) len len) (.row E ie.size rows) hKs.1 hKs.2 (hkr K) hHold ?_ ?_
          · refine ⟨⟨η.w.alloc (.cells r E (0, 0)), η.I, fun j => if j = K then .slice (some ⟨η.w.heap.size, 0, none⟩) len len else η.ρ j⟩, rfl, ⟨fun _ h => h, fun b hb => Below.heap_alloc _ _ _ (hH.lt b hb), fun k hk => ?_⟩, g2, ?_, rfl⟩
            · have : k ≠ K := by simpa using hk
              simp [this]
            · simp
          · intro b hb
            have : η.w.heap.size = b := by simpa [c8] using hb
            subst this
            exact ⟨hI, by simp, .inl hH.size⟩
          · intro b k y hb hk hbk
            have : η.w.heap.size = b := by simpa [c8] using hb
            subst this
            exact Nat.lt_irrefl _ (hH.own k y _ hk hbk).2.1
    · cases hz
  keys := fun k h => .inr (.inr (by have : k = K := h; simp [this]))
  ukeys := fun j x h k hk => by
    simp at h; obtain ⟨_, rfl⟩ := h
    exact absurd hk (hkr k)
  dom := fun j x h => .inr (by simp at h; simp [h.1])
  sel := by intro cs b h; cases h
end
section
variable {P : Program} {fn : Func} {n N0 : Nat} {Y Z : Type} {X : Cx P fn n N0 Y} {e : Option Z} {g : Z → Option Y} {k : List Item} {s : St} {draw : Bool} {ops l rest : List Oper} {acc : List cB} {x y : Operand} {d : Option Nat} {ty : TypeId} {pos : String} {aft : Array Edge} {gd : Option (Nat × Bool)}
theorem zN {kd : IntKind} {a b : Int} {ts : Array TypeId} (hx : bi s.sl x = aj kd a) (hy : bi s.sl y = aj kd b) (hg : bD ops.toArray s.sl ⟨d, .call ⟨.builtin .min, #[x, y], ts⟩, ty, pos, aft, gd⟩ true)
    (h : RT X draw ops l e g rest (⟨[], []⟩ :: acc) ⟨bm s.sl d (aj kd (if b < a then b else a)), s.H, s.N⟩ k) : RT X draw ops l e g (⟨d, .call ⟨.builtin .min, #[x, y], ts⟩, ty, pos, aft, gd⟩ :: rest) acc s k := cV (o_min hx hy) hg h
theorem r_bsO {α : Type} {T E w len : Nat} {parts : List (Nat × Operand)} {As : List ae} {ps : List (Nat × List ae)} {cc : α → List ae} [hc : cP cc w] [hk : ah cc] (K : Nat) (ys : List α) (hT : dG P T = some (E, w)) (hz : zR P E len = some As) (hp : hO (bi s.sl) (fun i => some (i * w, w)) As.length parts ps) (hB : io As ps = (ys.map cc).flatten) (hl : ys.length = len) (hN : Nat.ble s.N K = true)
    (hg : bD ops.toArray s.sl ⟨d, .buildSlice T len parts.toArray, ty, pos, aft, gd⟩ true) (h : RT X draw ops l e g rest (⟨[], [K]⟩ :: acc) ⟨bm s.sl d (a8 K), s.H.upd K (some (.row E w (ys.map cc))), K + 1⟩ k) : RT X draw ops l e g (⟨d, .buildSlice T len parts.toArray, ty, pos, aft, gd⟩ :: rest) acc s k := by
  obtain ⟨zs, h1, h2⟩ := Option.map_eq_some_iff.1 hz
  exact eP (N1 := K + 1) (o_bsO hT h1 h2 hp.parts hB (cP.all ys) (by simpa using hl) (ah.flat cc ys)) hg oQ (mE hN) (Nat.le_succ_of_le (Nat.le_of_ble_eq_true hN)) h
theorem rZ {f : FuncId} {cs : List Operand} (caps : List ae) (hA : cs.map (bi s.sl) = caps) (hg : bD ops.toArray s.sl ⟨d, .makeFunc (.func f) #[] cs.toArray, ty, pos, aft, gd⟩ true)
    (h : RT X draw ops l e g rest (⟨[], []⟩ :: acc) ⟨bm s.sl d (bj f caps), s.H, s.N⟩ k) : RT X draw ops l e g (⟨d, .makeFunc (.func f) #[] cs.toArray, ty, pos, aft, gd⟩ :: rest) acc s k := cV (Cz hA) hg h
theorem mL {f : FuncId} {xs : List Operand} {ts : Array TypeId} {N0 : Nat} {ins outs : List (Nat × bB)} {args : List ae} {r : ae} (caps : List ae) (F : List Nat) (σ σ' : List (Nat × Nat)) (new : List Nat) (N1 : Nat) (need outs' : List (Nat × bB)) (r' : ae) (As : List ae) (hy : bi s.sl y = bj f caps) (hF : aF P f) (hc : dc P f N0 ins args outs r) (hn : ir s.H need) (hAs : xs.map (bi s.sl) = As)
    (ha : c9 (hp need) (bF · F) (dj σ) (fun _ => false) (fun _ => true) (As ++ caps) args) (hin : er (hp need) (bF · F) (dj σ) (fun _ => false) (fun _ => true) ins)
    (ho : er (hp outs) (fun _ => false) (dj σ') (fun _ => false) (fun k => bF k new || (Nat.blt (dj σ' k) N0 && Nat.beq (dj σ (dj σ' k)) k && bF k (need.map (·.1)))) outs')
    (hr : Cv (hp outs) (fun _ => false) (dj σ') (fun _ => false) (fun k => bF k new || (Nat.blt (dj σ' k) N0 && Nat.beq (dj σ (dj σ' k)) k && bF k (need.map (·.1)))) r r') (hnew : (new.all fun k => Nat.ble s.N k && Nat.blt k N1) = true) (hN : Nat.ble s.N N1 = true)
    (hg : bD ops.toArray s.sl ⟨d, .call ⟨.value y, xs.toArray, ts⟩, ty, pos, aft, gd⟩ true)
    (h : RT X draw ops l e g rest (⟨need.map (·.1), ((outs'.map fun (y : Nat × bB) => (y.1, some y.2)) ++ (need.map (·.1)).map fun j => (j, (none : Option bB))).map (·.1)⟩ :: acc) ⟨bm s.sl d r', s.H.upds ((outs'.map fun (y : Nat × bB) => (y.1, some y.2)) ++ (need.map (·.1)).map fun j => (j, (none : Option bB))), N1⟩ k) :
    RT X draw ops l e g (⟨d, .call ⟨.value y, xs.toArray, ts⟩, ty, pos, aft, gd⟩ :: rest) acc s k :=
  eP (N1 := N1) (Bf hF hc hn.self (hAs ▸ ha) hin ho hr hy) hg hn.spec (fun k hk => by
    have := List.all_eq_true.1 hnew k hk
    simp only [Bool.and_eq_true] at this
    exact ⟨Nat.le_of_ble_eq_true this.1, of_decide_eq_true (by simpa [Nat.blt_eq] using this.2)⟩) (Nat.le_of_ble_eq_true hN) h
end
end Go.Proofs.YtngimdmkomkeoaaGreat.K
