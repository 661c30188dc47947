import Derived.Test.YtngimdmkomkeoaaGreatCoreQ
import Derived.ProofKit
import Derived.OpenShut
import Derived.SizedLaws
set_option linter.unusedVariables false
set_option linter.unusedSimpArgs false
namespace Go.Proofs.YtngimdmkomkeoaaGreat.K
open Go.RowKit Go.ChangeShapes Go.WideShapes
def kc (w : World) : bA := ⟨w, fun b => b < w.heap.size, fun _ => .bool false⟩
class Sm (α : Type) where
  sm : α → Prop
instance : Sm Int := ⟨fun _ => True⟩
instance : Sm Bool := ⟨fun _ => True⟩
instance : Sm Unit := ⟨fun _ => True⟩
abbrev kY : Int := 140737488355328
instance : Sm ByteArray := ⟨fun s => (s.size : Int) ≤ kY⟩
instance {α : Type} [Sm α] : Sm (List α) := ⟨fun xs => (xs.length : Int) ≤ kY ∧ ∀ x ∈ xs, Sm.sm x⟩
instance {α β : Type} [Sm α] [Sm β] : Sm (α × β) := ⟨fun p => Sm.sm p.1 ∧ Sm.sm p.2⟩
def jn {H : Type} (P : Program) (T : TypeId) (d : DataW H) : Prop := ∀ n ∈ d.weights P T, n ≤ reachBytes
theorem xu {H : Type} {P : Program} {e : TypeId} : ∀ {ds : List (DataW H)} {d : DataW H}, d ∈ ds → ∀ n ∈ d.weights P e, n ∈ DataW.weightsAll P e ds
  | x :: r, d, h, n, hn => by
    simp only [DataW.weightsAll, List.mem_append]
    rcases List.mem_cons.1 h with rfl | h
    · exact .inl hn
    · exact .inr (xu h n hn)
theorem wR {H : Type} {P : Program} {ts : List TypeId} {ds : List (DataW H)} (h : (DataW.weightsEach P ts ds).all (· ≤ reachBytes) = true) {j : Nat} {t : TypeId} {d : DataW H} (ht : ts[j]? = some t) (hd : ds[j]? = some d) : jn P t d :=
  fun n hn => by simpa using List.all_eq_true.1 h _ (DataW.weights_mem_each ht hd n hn)
def cD {H : Type} (enc : TypeId × Value → H) (P : Program) (w : World) (T : TypeId) {α : Type} [Sm α] (c : α → List ae) (n : Nat) : Prop :=
  ∀ m, m ≤ n → ∀ cs x, DataW.trod enc P w 0 (fun _ => true) true m T cs = some x → jn P T x.1 → ∃ a, bw (kc w) (c a) cs ∧ Sm.sm a
def ol {H : Type} (enc : TypeId × Value → H) (P : Program) (w : World) (fs : List (TypeId × Nat)) (off tot : Nat) {α : Type} [Sm α] (c : α → List ae) (n : Nat) : Prop :=
  ∀ m, m ≤ n → ∀ cs : List Value, cs.length = off + tot → (∀ f ∈ fs, ∃ x, DataW.trod enc P w 0 (fun _ => true) true m f.1 ((cs.drop f.2).take (P.cellsOf f.1)) = some x ∧ jn P f.1 x.1) → ∃ a, bw (kc w) (c a) (cs.drop off) ∧ Sm.sm a
def Ac : Option TypeDesc → Option (List (TypeId × Nat))
  | some (.struct fs) => some (fs.toList.map fun f => (f.type, f.offset))
  | _ => none
section
variable {H : Type} {enc : TypeId × Value → H} {P : Program} {w : World} {T e : TypeId} {α β : Type} [Sm α] [Sm β] {n : Nat}
theorem cD.weak {c : α → List ae} (h : cD enc P w T c (n + 1)) : cD enc P w T c n := fun m hm => h m (by omega)
theorem cD.zero {c : α → List ae} : cD enc P w T c 0 := fun m hm cs x h _ => by
  obtain rfl : m = 0 := by omega
  simp [DataW.trod] at h
theorem cD.as {c : α → List ae} {c' : β → List ae} (h : cD enc P w T c n) (f : α → β) (hc : ∀ a, c a = c' (f a)) (hs : ∀ a, Sm.sm a → Sm.sm (f a)) : cD enc P w T c' n := fun m hm cs x hx hb => by
  obtain ⟨a, ha, ha2⟩ := h m hm cs x hx hb
  exact ⟨f a, hc a ▸ ha, hs a ha2⟩
theorem fx {k : IntKind} (hu : P.underlying T = some (.int k)) (n : Nat) : cD enc P w T (fun i : Int => [aj k i]) n := fun m hm cs x h hb => by
  cases m with
  | zero => simp [DataW.trod] at h
  | succ m =>
    unfold DataW.trod at h
    rw [hu] at h
    split at h <;> try (simp_all; done)
    rename_i k0 k' i heq
    cases heq
    split at h
    · rename_i hk
      obtain ⟨rfl, hk⟩ := hk
      refine ⟨i, .cons ⟨rfl, ?_⟩ .nil, trivial⟩
      simpa [Lit.wf, IntKind.has] using hk
    · cases h
theorem BX (hu : P.underlying T = some .bool) (n : Nat) : cD enc P w T (fun b : Bool => [aa b]) n := fun m hm cs x h hb => by
  cases m with
  | zero => simp [DataW.trod] at h
  | succ m =>
    unfold DataW.trod at h
    rw [hu] at h
    split at h <;> try (simp_all; done)
    rename_i b _
    exact ⟨b, .cons rfl .nil, trivial⟩
theorem Bq {c : α → List ae} {k b o : Nat} (hk : ∀ a, (c a).length = k) : ∀ (n : Nat), (∀ i, i < n → ∃ a us, Sm.sm a ∧ bw (kc w) (c a) us ∧ ∀ j, j < k → w.cell? ⟨b, o + i * k + j, none⟩ = us[j]?) →
    ∃ (xs : List α) (us : List Value), xs.length = n ∧ (∀ x ∈ xs, Sm.sm x) ∧ us.length = n * k ∧ bw (kc w) (xs.map c).flatten us ∧ ∀ j u, us[j]? = some u → w.cell? ⟨b, o + j, none⟩ = some u
  | 0, _ => ⟨[], [], rfl, by simp, by simp, .nil, fun j u h => by simp at h⟩
  | n + 1, h => by
    obtain ⟨xs, us, h1, hsm, h2, h3, h4⟩ := Bq hk n (fun i hi => h i (by omega))
    obtain ⟨a, vs, gs, g1, g2⟩ := h n (by omega)
    have hl : vs.length = k := by rw [← g1.length, hk]
    refine ⟨xs ++ [a], us ++ vs, by simp [h1], fun x hx => (List.mem_append.1 hx).elim (hsm x) (fun h => by rw [List.mem_singleton.1 h]; exact gs), by simp [h2, hl, Nat.succ_mul], by simpa using h3.append g1, fun j u hj => ?_⟩
    rw [List.getElem?_append] at hj
    split at hj
    · exact h4 j u hj
    · rename_i hlt
      rw [h2] at hj hlt
      have hjk : j - n * k < k := by have := (List.getElem?_eq_some_iff.1 hj).1; omega
      have := g2 _ hjk
      rw [hj] at this
      rw [← this]
      congr 2
      omega
theorem iC {c : α → List ae} {k : Nat} (hu : P.underlying T = some (.slice e)) (hc : P.cellsOf e = k) (h0 : 0 < k) (hby : Nat.blt 0 (P.bytesOf e) = true) [hk : cP c k] (h : cD enc P w e c n) : cD enc P w T (fun xs : List α => [AL k c xs]) (n + 1) := fun m hm cs x hx hbk => by
  cases m with
  | zero => simp [DataW.trod] at hx
  | succ m =>
    unfold DataW.trod at hx
    rw [hu] at hx
    split at hx <;> try (simp_all; done)
    · exact ⟨[], .cons ⟨none, 0, rfl, by simp, Nat.zero_le _, by simp, .inl rfl⟩ .nil, by simp [kY], by simp⟩
    · rename_i e0 a len cap heq
      cases heq
      simp only [hc] at hx
      split at hx
      rotate_left
      · cases hx
      rename_i hb
      obtain ⟨_, hb1, hb2⟩ := hb
      obtain ⟨elems, he, hx2⟩ := Option.bind_eq_some_iff.1 hx
      obtain ⟨rest, _, hx3⟩ := Option.map_eq_some_iff.1 hx2
      have hall : ∀ d ∈ elems.map (·.1), jn P e d := fun d hd n hn => by
        rw [← hx3] at hbk
        exact hbk n (by simp only [DataW.weights, hu]; exact List.mem_cons_of_mem _ (List.mem_append_left _ (xu hd n hn)))
      have hlen : (len : Int) ≤ kY := by
        have h2 := mapM_some_length he
        rw [← hx3] at hbk
        have h1 := hbk _ (by simp only [DataW.weights, hu]; exact List.mem_cons_self)
        simp only [List.length_map, List.length_range] at h1 h2
        have h3 : 1 ≤ P.bytesOf e := by simpa [Nat.blt] using hby
        have h4 := Nat.mul_le_mul_left (elems.length + rest.length) h3
        unfold reachBytes at h1; unfold kY
        omega
      have get : ∀ i, i < len → ∃ cs', w.cells? 0 (a.add (i * k)) k = some cs' ∧ ∃ x, DataW.trod enc P w 0 (fun _ => true) true m e cs' = some x ∧ jn P e x.1 := fun i hi => by
        have h1 := mapM_some_get he i i (by simp [hi])
        have hl := mapM_some_length he
        have h2 : i < elems.length := by rw [hl]; simpa using hi
        rw [List.getElem?_eq_getElem h2] at h1
        obtain ⟨cs', h3, h4⟩ := Option.bind_eq_some_iff.1 h1
        exact ⟨cs', h3, _, h4, hall _ (List.mem_map.2 ⟨_, List.getElem_mem h2, rfl⟩)⟩
      by_cases hz : len = 0
      · subst hz
        exact ⟨[], .cons ⟨some a, cap, rfl, by simp, hb2, by simp, .inl rfl⟩ .nil, by simp [kY], by simp⟩
      · obtain ⟨b, o, sp⟩ := a
        obtain ⟨cs0, c1, _⟩ := get 0 (by omega)
        obtain ⟨_, l0, c2⟩ := World.cells?_some c1
        have c3 := c2 0 h0
        simp only [Nat.zero_mul, Addr.add, if_true] at c3
        have hne : ∃ v, w.cell? ⟨b, o, sp⟩ = some v := ⟨cs0[0]'(by omega), by rw [c3]; simp⟩
        obtain ⟨v0, hv0⟩ := hne
        have hsp : sp = none ∧ b < w.heap.size := by
          unfold World.cell? at hv0
          split at hv0
          · rename_i ob _ _ hob
            refine ⟨?_, (Array.getElem?_eq_some_iff.1 hob).1⟩
            split at hv0
            · cases hv0
            · rename_i hs; cases sp with
              | none => rfl
              | some _ => simp at hs
          · cases hv0
        obtain ⟨rfl, hbs⟩ := hsp
        obtain ⟨xs, us, h1, hsm, h2, h3, h4⟩ := Bq (c := c) (w := w) (b := b) (o := o) (k := k) (fun a => hk.len a) len (fun i hi => by
          obtain ⟨cs', d1, x', d2, d4⟩ := get i hi
          obtain ⟨_, l1, d3⟩ := World.cells?_some d1
          obtain ⟨a', ha, ha2⟩ := h m (by omega) cs' x' d2 d4
          refine ⟨a', cs', ha2, ha, fun j hj => ?_⟩
          rw [← d3 j hj]
          congr 1
          unfold Addr.add
          by_cases hj0 : j = 0 <;> by_cases hi0 : i * k = 0 <;> simp [hj0, hi0])
        refine ⟨xs, .cons ⟨some ⟨b, o, none⟩, cap, by simp [h1], by simpa [h1] using hb1, hb2, cP.all xs, .inr ⟨b, o, rfl, hbs, us, h3, h4⟩⟩ .nil, by rw [h1]; omega, hsm⟩
theorem kC {off : Nat} : ol enc P w [] off 0 (fun _ : Unit => []) n := fun m hm cs hl _ => ⟨(), by
  have : cs.drop off = [] := by simp [hl]
  rw [this]; exact .nil, trivial⟩
theorem dQ {off k tot : Nat} {fs : List (TypeId × Nat)} {c1 : α → List ae} {c2 : β → List ae} (hc : P.cellsOf T = k) (h1 : cD enc P w T c1 n) (h2 : ol enc P w fs (off + k) tot c2 n) :
    ol enc P w ((T, off) :: fs) off (k + tot) (fun p : α × β => c1 p.1 ++ c2 p.2) n := fun m hm cs hl hf => by
  obtain ⟨x, hx, hxb⟩ := hf (T, off) (by simp)
  obtain ⟨a, ha, ha2⟩ := h1 m hm _ x hx hxb
  obtain ⟨b, hb, hb2⟩ := h2 m hm cs (by omega) (fun f h => hf f (List.mem_cons_of_mem _ h))
  refine ⟨(a, b), ?_, ha2, hb2⟩
  have e : cs.drop off = (cs.drop off).take k ++ cs.drop (off + k) := by
    rw [← List.drop_drop, List.take_append_drop]
  rw [e]
  simp only [hc] at ha
  exact ha.append hb
theorem sL {fs : List (TypeId × Nat)} {tot : Nat} {c : α → List ae} (hu : Ac (P.underlying T) = some fs) (hc : P.cellsOf T = tot) (h : ol enc P w fs 0 tot c n) : cD enc P w T c (n + 1) := fun m hm cs x hx hbk => by
  cases m with
  | zero => simp [DataW.trod] at hx
  | succ m =>
    unfold DataW.trod at hx
    cases hT : P.underlying T with
    | none => rw [hT] at hu; cases hu
    | some d =>
      rw [hT] at hu hx
      cases d <;> first | (cases hu; done) | skip
      rename_i fs0
      simp only [Ac, Option.some.injEq] at hu
      simp only at hx
      split at hx
      rotate_left
      · cases hx
      rename_i hlen
      cases hm' : (fs0.toList.mapM fun f => DataW.trod enc P w 0 (fun _ => true) true m f.type ((cs.drop f.offset).take (P.cellsOf f.type))) with
      | none => rw [hm'] at hx; cases hx
      | some xs =>
        have hl := mapM_some_length hm'
        rw [hm'] at hx
        have hx3 := Option.some.inj hx
        have key : ∀ (i : Nat) (hi : i < xs.length) (g : Field), fs0.toList[i]? = some g → jn P g.type (xs[i]).1 := fun i hi g hg n hn => by
          rw [← hx3] at hbk
          refine hbk n ?_
          simp only [DataW.weights, hT]
          exact DataW.weights_mem_each (j := i) (t := g.type) (d := (xs[i]).1) (by rw [List.getElem?_map, hg]; rfl) (by rw [List.getElem?_map, List.getElem?_eq_getElem hi]; rfl) n hn
        obtain ⟨a, ha, ha2⟩ := h m (by omega) cs (by rw [hlen, hc]; omega) (fun f hf => by
          rw [← hu] at hf
          obtain ⟨g, hg, rfl⟩ := List.mem_map.1 hf
          obtain ⟨i, hi, hgi⟩ := List.getElem_of_mem hg
          have hg2 : fs0.toList[i]? = some g := by rw [List.getElem?_eq_getElem hi, hgi]
          have := mapM_some_get hm' i g hg2
          rw [List.getElem?_eq_getElem (by omega)] at this
          exact ⟨_, this, key i (by omega) g hg2⟩)
        exact ⟨a, by simpa using ha, ha2⟩
theorem sA {ne tot : Nat} {c : α → List ae} (hu : P.underlying T = some (.array ne e)) (hc : P.cellsOf T = tot) (h : ol enc P w ((List.range ne).map fun i => (e, i * P.cellsOf e)) 0 tot c n) : cD enc P w T c (n + 1) := fun m hm cs x hx hbk => by
  cases m with
  | zero => simp [DataW.trod] at hx
  | succ m =>
    unfold DataW.trod at hx
    rw [hu] at hx
    split at hx <;> try (simp_all; done)
    rename_i n0 e0 heq
    cases heq
    split at hx
    rotate_left
    · cases hx
    rename_i cs _ _ hlen
    cases hm' : ((List.range ne).mapM fun i => DataW.trod enc P w 0 (fun _ => true) true m e ((cs.drop (i * P.cellsOf e)).take (P.cellsOf e))) with
    | none => rw [hm'] at hx; cases hx
    | some xs =>
      have hl := mapM_some_length hm'
      rw [hm'] at hx
      have hx3 := Option.some.inj hx
      have key : ∀ y ∈ xs, jn P e y.1 := fun y hy n hn => by
        rw [← hx3] at hbk
        exact hbk n (by simp only [DataW.weights, hu]; exact xu (List.mem_map.2 ⟨y, hy, rfl⟩) n hn)
      obtain ⟨a, ha, ha2⟩ := h m (by omega) cs (by rw [hlen, hc]; omega) (fun f hf => by
        obtain ⟨i, hi, rfl⟩ := List.mem_map.1 hf
        have hin : i < ne := by simpa using hi
        have := mapM_some_get hm' i i (by simp [hin])
        rw [List.getElem?_eq_getElem (by rw [hl]; simpa using hin)] at this
        exact ⟨_, this, key _ (List.getElem_mem _)⟩)
      exact ⟨a, by simpa using ha, ha2⟩
theorem cD.cL {k : Nat} {c : α → List ae} (h : cD enc P w T (fun xs : List α => [AL k c xs]) n) : cD enc P w T (cL k c) n := h
theorem JA {c : α → List ae} {v : Value} {d : DataW H} {ps : List MemPlace} (h : ∀ n, cD enc P w T c n) (hv : ∃ cs, v = .agg cs) (ht : DataW.Trod enc P w 0 (fun _ => true) true T v d ps) (hb : jn P T d) : ∃ a, (ac (c a)).p (kc w) v ∧ Sm.sm a := by
  obtain ⟨cs, rfl⟩ := hv
  obtain ⟨n, hn⟩ := ht
  obtain ⟨a, ha, ha2⟩ := h n n (Nat.le_refl _) _ _ hn hb
  exact ⟨a, ⟨cs, rfl, ha⟩, ha2⟩
def isAgg : Option TypeDesc → Bool
  | some (.struct _) | some (.array _ _) => true
  | _ => false
theorem Lh {b : Nat} {v : Value} (hs : isAgg (P.underlying T) = true) (h : Value.okWide P w .any b T v) : ∃ cs, v = .agg cs := by
  unfold Value.okWide at h
  cases hT : P.underlying T with
  | none => rw [hT] at hs; cases hs
  | some d =>
    rw [hT] at hs h
    cases d <;> first | (cases hs; done) | exact ⟨h.choose, h.choose_spec.1⟩
end
theorem B5 {H : Type} {enc : TypeId × Value → H} {P : Program} {w : World} {T : TypeId} {k : IntKind} {b : Nat} {v : Value} {d : DataW H} {ps : List MemPlace} (hu : P.underlying T = some (.int k)) (hv : Value.okWide P w .any b T v) (ht : DataW.Trod enc P w 0 (fun _ => true) true T v d ps) (hb : jn P T d) : ∃ x : Int, (aj k x).p (kc w) v := by
  obtain ⟨n, hn⟩ := ht
  obtain ⟨x, hx, _⟩ := fx (k := k) hu n n (Nat.le_refl _) _ _ hn hb
  have hc : v.cells.toList = [v] := by
    cases v <;> first | rfl | skip
    simp [Value.okWide, hu, Cell.okWide, Cell.ok] at hv
  rw [hc] at hx
  cases hx with | cons a _ => exact ⟨x, a⟩
theorem Ext.below {η : bA} {I' : Nat → Prop} {w' : World} (h : Ext η I' w') : Below η.w.heap.size η.w w' := ⟨h.os, h.tape, h.output, h.size, h.keep⟩
theorem aB.law {P : Program} {f : FuncId} {args : List ae} {W : World} {vals : Array Value} (h : aB P f args (aa true)) (hv : bw (kc W) args vals.toList) :
    Calls P f vals W fun e W' => e = .returned (.bool true) ∧ Below W.heap.size W W' := by
  refine (h.2 (kc W) vals (fun _ h => h) hv).mono ?_
  rintro e w' ⟨v, I', rfl, he, hr⟩
  have : v = .bool true := hr
  subst this
  exact ⟨rfl, he.below⟩
theorem Do {H : Type} {enc : TypeId × Value → H} {P : Program} (hl : laidOutB P = true) {W W' : World} {sp : Nat → Bool} : ∀ {ts : List TypeId} {vs : List Value} {ds : List (DataW H)} {ps : List MemPlace},
    (ts.all fun t => P.readableRec t && decide (t < P.types.size)) = true → DataW.TrodAll enc P W 0 (fun _ => true) true ts vs ds ps → (∀ p ∈ ps, W.sameAt W' p) → (∀ p ∈ ps, sp p.block = true) → DataW.TrodAll enc P W' 0 sp true ts vs ds ps
  | [], [], [], _, _, h, _, _ => h
  | t :: ts, v :: vs, d :: ds, _, hr, ⟨p, q, h1, h2, rfl⟩, hsm, hs => by
    simp only [List.all_cons, Bool.and_eq_true, decide_eq_true_eq] at hr
    exact ⟨p, q, WideElems.Trod_stays hl hr.1.1 hr.1.2 h1 (fun x hx => hsm x (List.mem_append_left _ hx)) (fun x hx => hs x (List.mem_append_left _ hx)),
      Do hl hr.2 h2 (fun x hx => hsm x (List.mem_append_right _ hx)) (fun x hx => hs x (List.mem_append_right _ hx)), rfl⟩
theorem HX {H : Type} {enc : TypeId × Value → H} {P : Program} {fn : Func} {s : ChangeSpec} {W W' : World} {args : Array Value} {ds gs : List (DataW H)} {before : List MemPlace} {tb : TypeId}
    (hl : laidOutB P = true) (hp : (fn.params.toList.all fun t => P.readableRec t && decide (t < P.types.size)) = true) (hr : fn.resultTypes = #[tb]) (hb : P.underlying tb = some .bool) (hv : s.vars = [])
    (hs : (s.fn H (ds ++ gs)).results = [.lit (.bool true)] ∧ (s.fn H (ds ++ gs)).args = ds ∧ (s.fn H (ds ++ gs)).vars = [])
    (hW : DataW.Whole enc P fn.params.toList s.vars false W args.toList ds gs before) (hB : Below W.heap.size W W') : s.post enc P fn false true false false W args (.bool true) W' := by
  have hW' := hW
  obtain ⟨p, q, hA, hV, rfl, hfz, hnd⟩ := hW
  have hq : q = [] := by rw [hv] at hV; exact (trodVars_none hV).2
  subst hq
  simp only [List.append_nil] at hW'
  have hlt := hW'.lt
  have hst : ∀ sp : Nat → Bool, (∀ x ∈ p, sp x.block = true) → DataW.TrodAll enc P W' 0 sp true fn.params.toList args.toList ds p := fun sp hsp => Do hl hp hA (fun x hx => hB.same (hlt x hx)) hsp
  refine ⟨ds, gs, p, [], p, [], hW', ?_, ?_, ?_, hB.frame _, fun h => by cases h⟩
  · rw [hs.1, hr]
    exact trodAll_mk1 (shut_bool hb true)
  · rw [hs.2.1]
    exact hst _ (fun x hx => by simpa using hlt x hx)
  · rw [hs.2.2, hv]
    rfl
end Go.Proofs.YtngimdmkomkeoaaGreat.K
