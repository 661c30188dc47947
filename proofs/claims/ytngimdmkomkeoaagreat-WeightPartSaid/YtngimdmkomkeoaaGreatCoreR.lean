import Derived.Test.YtngimdmkomkeoaaGreatCoreQ
import Derived.Laws.StandIn
set_option linter.unusedVariables false
set_option linter.unusedSimpArgs false
namespace Go.Proofs.YtngimdmkomkeoaaGreat.K
open Go.RowKit
section
variable {P : Program} {c : cS} {lk : Operand → ae} {d : Option Nat} {ty : TypeId} {pos : String} {aft : Array Edge} {gd : Option (Nat × Bool)}
def kt (s : ByteArray) (c : Int) : Int := match (List.range s.size).find? fun i => s[i]! == c.toNat.toUInt8 with
  | some i => (i : Int)
  | none => -1
def ww (P : Program) (f : FuncId) : Prop := ∃ fn, P.funcs[f]? = some fn ∧ (fn.name == "runtime.NumGoroutine") = false ∧ fn.body = none ∧ Extern.findNext fn = none ∧ Extern.find fn = some Extern.BytealgIndexByte.indexByte
theorem Id {f : FuncId} {x y : Operand} {s : ByteArray} {n : Int} {ts : Array TypeId} (hF : ww P f) (hx : lk x = am s) (hy : lk y = aj .u8 n) (hf : lk (.func f) = bj f []) : cg P c ⟨d, .call ⟨.value (.func f), #[x, y], ts⟩, ty, pos, aft, gd⟩ lk [] [] [] (aj .i64 (kt s n)) := by
  refine dE (by intro cs b h; cases h) (fun k h => h.elim) fun η ρo H _ ho => ?_
  obtain ⟨fn, g1, g2, g3, g4, g5⟩ := hF
  have h1 := ho x (by simp [Op.operands, Call.operands]); rw [hx] at h1; obtain ⟨h1, h3⟩ := h1
  have h2 := ho y (by simp [Op.operands, Call.operands]); rw [hy] at h2; obtain ⟨h2, _⟩ := h2
  have hv := ho (.func f) (by simp [Op.operands, Call.operands]); rw [hf] at hv
  obtain ⟨vs, e, hvs⟩ := hv
  have hvs0 : vs = #[] := by
    have := hvs.length; simp at this; exact Array.eq_empty_of_size_eq_zero this.symm
  subst hvs0
  have hg : fn.name ≠ "runtime.NumGoroutine" := by simpa using g2
  have hrun : (callFunc f #[.string s, .int .u8 n]).run P η.w = .ok (.value (.int .i64 (kt s n))) η.w := by
    have e : Extern.BytealgIndexByte.indexByte #[.string s, .int .u8 n] = (match (List.range s.size).find? fun i => s[i]! == n.toNat.toUInt8 with
      | some i => pure (goInt i)
      | none => pure (goInt (-1)) : Sem Value) := rfl
    rw [run_callFunc_indexByte g1 g2 (by rw [g3]; rfl) g4 g5, e]
    unfold kt
    split <;> simp [goInt]
  refine ⟨.int .i64 (kt s n), ?_, rfl, ?_⟩
  · simp only [execOp, resolve, e, Deferred.ofValue, Sem.run_bind, Sem.run_pure, Result.andThen_ok, invoke]
    simpa [h1, h2] using hrun
  · unfold kt
    unfold maxLen at h3
    split
    · rename_i i hi
      have := List.mem_of_find?_eq_some hi
      simp at this
      simp [IntKind.has, IntKind.min, IntKind.max, IntKind.signed, IntKind.bits]; omega
    · simp [IntKind.has, IntKind.min, IntKind.max, IntKind.signed, IntKind.bits]
theorem I9 {f : FuncId} {xs : List Operand} {ts : Array TypeId} {args : List ae} {need : List (Nat × bB)} {E n K : Nat} {rows : List (List ae)} (hF : aF P f) (hc : dc P f 0 [] args [(0, .row E n rows)] (a8 0)) (hs : ee rows.flatten) (hnk : ∀ k, ¬ d7 rows.flatten k)
    (hn1 : ∀ k x, (k, x) ∈ need → hp need k = some x) (ha : c9 (hp need) (fun k => bF k (need.map (·.1))) id (fun _ => false) (fun _ => true) (xs.map lk) args) (hy : lk (.func f) = bj f []) :
    cg P c ⟨d, .call ⟨.value (.func f), xs.toArray, ts⟩, ty, pos, aft, gd⟩ lk need [(K, some (.row E n rows))] [K] (a8 K) where
  run := by
    intro η ρo H hH hop hn hfr _
    obtain ⟨fn, hf, hnn, hb⟩ := hF
    have hv := hop (.func f) (by simp [Op.operands, Call.operands])
    rw [hy] at hv
    obtain ⟨vs, e, hvs⟩ := hv
    have hvs0 : vs = #[] := by
      have := hvs.length; simp at this; exact Array.eq_empty_of_size_eq_zero this.symm
    subst hvs0
    have hH' : bZ c η (hp need) := hH.sub fun k x hk => hn k x (eI hk)
    have hall0 : bw η (xs.map lk) (xs.map ρo) := mK (fun x hx => hop x (by simp [Op.operands, Call.operands, hx]))
    have hall := ha.all2 hH' hall0
    unfold dJ
    have hrun : (execOp ρo ⟨d, .call ⟨.value (.func f), xs.toArray, ts⟩, ty, pos, aft, gd⟩).run P η.w = .ok (.enter f (xs.toArray.map ρo)) η.w := by
      simp only [execOp, resolve, e, Deferred.ofValue, Sem.run_bind, Sem.run_pure, Result.andThen_ok, invoke]
      simpa using pA (args := xs.toArray.map ρo) (w := η.w) hf hnn hb
    rw [hrun]
    let η1 := eE (hp need) (fun k => bF k (need.map (·.1))) id (fun _ => false) η
    have hlt : ∀ b, η1.I b → b < η.w.heap.size := by
      rintro b (hb | ⟨k, x, _, h2, h3⟩)
      · exact hH.lt b hb
      · exact (hH'.own k x b h2 h3).2.1
    have h0 : bZ (jf η1 0 0 []) η1 (hp []) := by
      have := bZ.init (η := η1) (n := 0) hlt
      exact ⟨fun k x h => (by cases h), fun k x b h => (by cases h), fun k k' x x' b h => (by cases h), hlt, fun b hb => .inl hb, this.old, Nat.le_refl _, fun _ _ _ => rfl, rfl, rfl, rfl⟩
    refine (hc η1 (xs.toArray.map ρo) h0 (by simpa using hall)).mono ?_
    rintro e' w' ⟨v, η2, rfl, rfl, h2, hrv, _⟩
    have keep : ∀ b, b < η.w.heap.size → η2.w.heap[b]? = η.w.heap[b]? := fun b hb => h2.keep b hb fun ⟨k, x, hk, _⟩ => by simp at hk
    have h2s : η.w.heap.size ≤ η2.w.heap.size := h2.size
    have he : Ext η η.I η2.w := ⟨h2s, keep, fun _ h => h, fun _ h => .inl h, fun b hb => Nat.lt_of_lt_of_le (hH.lt b hb) h2s, h2.os, h2.tape, h2.output⟩
    have h3 := hH.ext he
    obtain ⟨rfl, hone⟩ : v = η2.ρ 0 ∧ v.oneCell' = true := hrv
    have hold := h2.holds 0 _ rfl
    have hown : ∀ b, c8 (η2.ρ 0) = some b → η.w.heap.size ≤ b ∧ b < η2.w.heap.size := fun b hb => by
      obtain ⟨_, q2, q3⟩ := h2.own 0 _ b rfl hb
      refine ⟨?_, q2⟩
      rcases q3 with q3 | ⟨k, x, hk, _⟩
      · exact q3
      · simp at hk
    have hx : Holds ⟨η2.w, η.I, η.ρ⟩ (η2.ρ 0) (.row E n rows) := by
      obtain ⟨r1, ys, r2, r3⟩ := hold
      exact ⟨r1, ys, r2, hs.sc _ _ _ r3⟩
    have hK := hfr K (List.mem_singleton.2 rfl)
    have h4 := h3.add K (η2.ρ 0) (.row E n rows) hK.1 hK.2 (hnk K) hx (fun b hb => by
      obtain ⟨q1, q2⟩ := hown b hb
      exact ⟨fun hI => (by have := hH.lt b hI; omega), q2, .inl (Nat.le_trans hH.size q1)⟩) (fun b k y hb hk hbk => by
      have := (hH.own k y b hk hbk).2.1
      have := (hown b hb).1
      omega)
    refine ⟨η2.ρ 0, rfl, ⟨η2.w, η.I, fun j => if j = K then η2.ρ 0 else η.ρ j⟩, rfl, ⟨fun _ h => h, fun b hb => keep b (hH.lt b hb), fun k hk => ?_⟩, h4, ?_⟩
    · have : k ≠ K := fun e => hk (by simp [e])
      simp [this]
    · exact ⟨by simp, hone⟩
  keys := fun k h => .inr (.inr (by have : k = K := h; simp [this]))
  ukeys := fun j x h k hk => by
    simp only [List.mem_singleton, Prod.mk.injEq, Option.some.injEq] at h
    obtain ⟨_, rfl⟩ := h
    exact absurd hk (hnk k)
  dom := fun j x h => by
    simp only [List.mem_singleton, Prod.mk.injEq] at h
    exact .inr (by simp [h.1])
  sel := by intro cs b h; cases h
end
section
variable {P : Program} {fn : Func} {n N0 : Nat} {Y Z : Type} {X : Cx P fn n N0 Y} {e : Option Z} {g : Z → Option Y} {k : List Item} {s : St} {draw : Bool} {ops l rest : List Oper} {acc : List cB} {x : Operand} {d : Option Nat} {ty : TypeId} {pos : String} {aft : Array Edge} {gd : Option (Nat × Bool)}
theorem Iu {f : FuncId} {u : ByteArray} {b : Int} {y : Operand} {ts : Array TypeId} (hF : ww P f) (hx : bi s.sl x = am u) (hy : bi s.sl y = aj .u8 b) (hg : bD ops.toArray s.sl ⟨d, .call ⟨.value (.func f), #[x, y], ts⟩, ty, pos, aft, gd⟩ true)
    (h : RT X draw ops l e g rest (⟨[], []⟩ :: acc) ⟨bm s.sl d (aj .i64 (kt u b)), s.H, s.N⟩ k) : RT X draw ops l e g (⟨d, .call ⟨.value (.func f), #[x, y], ts⟩, ty, pos, aft, gd⟩ :: rest) acc s k := cV (Id hF hx hy rfl) hg h
theorem BW {α : Type} {f : FuncId} {xs : List Operand} {ts : Array TypeId} {args : List ae} {E w : Nat} {cc : α → List ae} [hs : fa cc] [hk : ah cc] {zs : List α} (K : Nat) (need : List (Nat × bB)) (As : List ae) (hF : aF P f) (hc : dc P f 0 [] args [(0, .row E w (zs.map cc))] (a8 0)) (hn : ir s.H need) (hAs : xs.map (bi s.sl) = As)
    (ha : c9 (hp need) (fun k => bF k (need.map (·.1))) id (fun _ => false) (fun _ => true) As args) (hN : Nat.ble s.N K = true)
    (hg : bD ops.toArray s.sl ⟨d, .call ⟨.value (.func f), xs.toArray, ts⟩, ty, pos, aft, gd⟩ true)
    (h : RT X draw ops l e g rest (⟨need.map (·.1), [K]⟩ :: acc) ⟨bm s.sl d (a8 K), s.H.upd K (some (.row E w (zs.map cc))), K + 1⟩ k) :
    RT X draw ops l e g (⟨d, .call ⟨.value (.func f), xs.toArray, ts⟩, ty, pos, aft, gd⟩ :: rest) acc s k :=
  eP (N1 := K + 1) (I9 hF hc ⟨fun η η' vs h => by
    have key : ∀ (l : List α) (us : List Value), bw η (l.map cc).flatten us → bw η' (l.map cc).flatten us := by
      intro l
      induction l with
      | nil => intro us h; cases h; exact .nil
      | cons a l ih =>
        intro us h
        simp only [List.map_cons, List.flatten_cons] at h ⊢
        have h1 := (h.take (cc a).length)
        have h2 := (h.drop (cc a).length)
        simp only [List.take_left', List.drop_left'] at h1 h2
        have := ((hs.sc a).sc _ _ _ h1).append (ih _ h2)
        rwa [List.take_append_drop] at this
    exact key zs vs h⟩ (ah.flat cc zs) hn.self (hAs ▸ ha) rfl) hg hn.spec (fun k hk => by simp only [List.mem_singleton] at hk; subst hk; exact ⟨Nat.le_of_ble_eq_true hN, Nat.lt_succ_self _⟩) (by have := Nat.le_of_ble_eq_true hN; omega) h
end
theorem jA {N : Nat} {As : List ae} [h : cT As] : bH N As := ⟨fun k hk => absurd hk (h.nk k)⟩
section
variable {P : Program} {fn : Func} {n N0 : Nat} {Y Z : Type} {X : Cx P fn n N0 Y} {e : Option Z} {g : Z → Option Y} {k : List Item} {s : St} {draw : Bool} {ops l rest : List Oper} {acc : List cB} {x y : Operand} {d : Option Nat} {ty : TypeId} {pos : String} {aft : Array Edge} {gd : Option (Nat × Bool)}
end
theorem q.{u} {α : Sort u} {a : α} : a = a := rfl
theorem Jq {P : Program} {fn : Func} {n N0 : Nat} {Y Z : Type} {X : Cx P fn n N0 Y} {e : Option Z} {g : Z → Option Y} {k : List Item} {s : St} {ops : List Oper} {id : Nat} {y : Code} (hd : jy n ops = true) (h : RT X false ops ops e g ops [] s (.code y :: k)) : J X e g (.code (.seq (.region id ops.toArray false) y) :: k) s :=
  zl (BA hd h)
theorem Jt {P : Program} {fn : Func} {n N0 : Nat} {Y Z : Type} {X : Cx P fn n N0 Y} {e : Option Z} {g : Z → Option Y} {k : List Item} {s : St} {A : ae} {rr : Y → ae} {z : Y} (hΨ : ∀ z η v H, bZ X.c η H → (rr z).p η v → X.Ψ z η v) (hres : jo X s A) (hz : e.bind g = some z) (hA : A = rr z) : J X e g (.code .ret :: k) s :=
  J_ret hΨ hres fun y hy => by rw [hz] at hy; cases hy; exact hA
theorem Rt {P : Program} {fn : Func} {n N0 : Nat} {Y Z : Type} {X : Cx P fn n N0 Y} {e : Option Z} {g : Z → Option Y} {k : List Item} {s : St} {ops l : List Oper} {acc : List cB} {t : Nat} {rr : Y → ae} {z : Y} (hΨ : ∀ z η v H, bZ X.c η H → (rr z).p η v → X.Ψ z η v) (hres : fn.results = #[.tmp t]) (hz : e.bind g = some z) (hA : s.sl t = rr z) : RT X false ops l e g [] acc s (.code .ret :: k) :=
  vA (Jt hΨ (w9 hres) hz hA)
section
variable {sl : Nat → ae} {i1 i2 i3 i4 i5 i6 : Nat} {A1 A2 A3 A4 A5 A6 : ae} {r : List (Nat × ae)}
theorem fg.c2 (h1 : sl i1 = A1) (h2 : sl i2 = A2) (t : fg sl r) : fg sl ((i1, A1) :: (i2, A2) :: r) := .cons h1 (.cons h2 t)
theorem fg.c3 (h1 : sl i1 = A1) (h2 : sl i2 = A2) (h3 : sl i3 = A3) (t : fg sl r) : fg sl ((i1, A1) :: (i2, A2) :: (i3, A3) :: r) := .cons h1 (.c2 h2 h3 t)
theorem fg.c6 (h1 : sl i1 = A1) (h2 : sl i2 = A2) (h3 : sl i3 = A3) (h4 : sl i4 = A4) (h5 : sl i5 = A5) (h6 : sl i6 = A6) (t : fg sl r) : fg sl ((i1, A1) :: (i2, A2) :: (i3, A3) :: (i4, A4) :: (i5, A5) :: (i6, A6) :: r) := .c3 h1 h2 h3 (.c3 h4 h5 h6 t)
variable {H : cz} {F : Nat → Bool} {σ : Nat → Nat} {G Q : Nat → Bool}
theorem eW.s2 (h1 : sl i1 = A1) (h2 : sl i2 = A2) [NK A1] [NK A2] (t : eW H F σ G Q sl r) : eW H F σ G Q sl ((i1, A1) :: (i2, A2) :: r) := .same h1 (.same h2 t)
theorem eW.s3 (h1 : sl i1 = A1) (h2 : sl i2 = A2) (h3 : sl i3 = A3) [NK A1] [NK A2] [NK A3] (t : eW H F σ G Q sl r) : eW H F σ G Q sl ((i1, A1) :: (i2, A2) :: (i3, A3) :: r) := .same h1 (.s2 h2 h3 t)
end
section
variable {P : Program} {fn : Func} {n N0 : Nat} {Y Z τ : Type} {X : Cx P fn n N0 Y} {e : Option Z} {g : Z → Option Y} {k : List Item} {s : St} {L : List (Nat × ae)} {Hs : List (Nat × bB)} {N : Nat}
theorem Jk (h : J X e g k ⟨fr L, s.H, s.N⟩) (ha : fg s.sl L) : J X e g k s := J_to L ha h
theorem Jc (F : List Nat) (σ : List (Nat × Nat)) (G : List Nat) (h : J X e g k ⟨fr L, hp Hs, N⟩) (hs : eW s.H (bF · F) (dj σ) (bF · G) (Nat.blt · N) s.sl L) (hh : er s.H (bF · F) (dj σ) (bF · G) (Nat.blt · N) Hs) (hN : Nat.ble N0 N = true) (hσ : ((List.range N0).all fun k => Nat.beq (dj σ k) k && !(bF k G)) = true) : J X e g k s := gS F σ G N L Hs hs hh hN hσ h
theorem Jl {F : τ → Option (τ ⊕ Z)} {body : Code} {x0 : τ} (S : τ → List (Nat × ae)) (ha : fg s.sl (S x0)) (h : ∀ E : τ → Option Z, (∀ x, J X (E x) g (.inLoop body :: k) ⟨fr (S x), s.H, s.N⟩) → ∀ x, J X (F x) (k7 E g) (.code body :: .inLoop body :: k) ⟨fr (S x), s.H, s.N⟩) : J X (aE F x0) g (.code (.loop body) :: k) s :=
  J_to (S x0) ha (J_it (fun x => ⟨fr (S x), s.H, s.N⟩) h rfl)
theorem Jn {F : τ → Option (τ ⊕ Z)} {body : Code} {x0 : τ} (S : τ → St) (F' : List Nat) (σ : List (Nat × Nat)) (G : List Nat) (h0 : S x0 = ⟨fr L, hp Hs, N⟩) (hs : eW s.H (bF · F') (dj σ) (bF · G) (Nat.blt · N) s.sl L) (hh : er s.H (bF · F') (dj σ) (bF · G) (Nat.blt · N) Hs) (hN : Nat.ble N0 N = true) (hσ : ((List.range N0).all fun k => Nat.beq (dj σ k) k && !(bF k G)) = true)
    (h : ∀ E : τ → Option Z, (∀ x, J X (E x) g (.inLoop body :: k) (S x)) → ∀ x, J X (F x) (k7 E g) (.code body :: .inLoop body :: k) (S x)) : J X (aE F x0) g (.code (.loop body) :: k) s :=
  gS F' σ G N L Hs hs hh hN hσ (J_it S h h0.symm)
end
abbrev Js := @zl
abbrev Jr := @BA
abbrev R0 := @vA
abbrev Rk := @vB
abbrev Ra := @It
abbrev Rm := @Gw
def oq (sl : Nat → ae) (L : List (Nat × ae)) : List (Nat × ae) := L.map fun p => (p.1, sl p.1)
class NKP (L : List (Nat × ae)) : Prop where
  nk : ∀ p ∈ L, NK p.2
instance : NKP [] := ⟨by simp⟩
instance {i : Nat} {A : ae} {r : List (Nat × ae)} [h : NK A] [t : NKP r] : NKP ((i, A) :: r) := ⟨fun p hp => by rcases List.mem_cons.1 hp with rfl | hp; exact h; exact t.nk p hp⟩
theorem eW.all {H : cz} {F : Nat → Bool} {σ : Nat → Nat} {G Q : Nat → Bool} {sl : Nat → ae} {L : List (Nat × ae)} (h : oq sl L = L) [n : NKP L] : eW H F σ G Q sl L := by
  have key : ∀ L : List (Nat × ae), oq sl L = L → (∀ p ∈ L, NK p.2) → eW H F σ G Q sl L := by
    intro L
    induction L with
    | nil => intro _ _; exact .nil
    | cons a r ih =>
      intro h n
      simp only [oq, List.map_cons, List.cons.injEq] at h
      obtain ⟨h1, h2⟩ := h
      have := n a (by simp)
      obtain ⟨i, A⟩ := a
      exact .same (hB := this) (by simpa using h1) (ih h2 fun p hp => n p (by simp [hp]))
  exact key L h n.nk
theorem fg.all {sl : Nat → ae} {L : List (Nat × ae)} (h : oq sl L = L) : fg sl L := by
  induction L with
  | nil => exact .nil
  | cons a r ih =>
    simp only [oq, List.map_cons, List.cons.injEq] at h
    obtain ⟨h1, h2⟩ := h
    obtain ⟨i, A⟩ := a
    exact .cons (by simpa using h1) (ih h2)
def nd (d : Nat) : Option Nat → Bool
  | none => true
  | some x => !(Nat.beq x d)
theorem G8 {sl : Nat → ae} {d : Nat} {x : Option Nat} {A : ae} (h : nd d x = true) : bm sl x A d = sl d := by
  unfold bm
  cases x with
  | none => rfl
  | some y =>
    have hne : ¬ d = y := fun e => by
      subst e
      simp [nd] at h
    have hb : Nat.beq d y = false := by
      cases h' : Nat.beq d y
      · rfl
      · exact absurd (Nat.eq_of_beq_eq_true h') hne
    simp only [hb, cond_false]
def fM (ops : List Oper) (sl : Nat → ae) (j : Nat) (ds : List (Option Nat)) : Option (ae × Bool) := ((ops.toArray[j]?).bind (·.dst)).map fun d => (sl d, ds.all (nd d))
section
variable {P : Program} {fn : Func} {n N0 : Nat} {Y Z : Type} {X : Cx P fn n N0 Y} {e : Option Z} {g : Z → Option Y} {k : List Item} {s : St} {draw : Bool} {ops l rest : List Oper} {acc : List cB}
variable {d1 d2 d3 d4 : Option Nat} {o1 o2 o3 o4 : Op} {y1 y2 y3 y4 : TypeId} {p1 p2 p3 p4 : String} {a1 a2 a3 a4 : Array Edge} {j : Nat} {b : Bool}
theorem sh {ds : List (Option Nat)} {sl : Nat → ae} (h : fM ops sl j ds = some (aa b, true)) : ∃ d, (ops.toArray[j]?).bind (·.dst) = some d ∧ sl d = aa b ∧ ∀ x ∈ ds, nd d x = true := by
  unfold fM at h
  obtain ⟨d, h1, h2⟩ := Option.map_eq_some_iff.1 h
  simp only [Prod.mk.injEq, List.all_eq_true] at h2
  exact ⟨d, h1, h2.1, h2.2⟩
theorem Kf (h1 : fM ops s.sl j [] = some (aa b, true)) (hb : b = true) (h : RT X draw ops l e g rest (⟨[], []⟩ :: acc) ⟨bm s.sl d1 dB, s.H, s.N⟩ k) : RT X draw ops l e g (⟨d1, o1, y1, p1, a1, some (j, false)⟩ :: rest) acc s k := by
  obtain ⟨d, g1, g2, _⟩ := sh h1
  exact vB (g_fn g1 g2 hb) h
theorem Kt (h1 : fM ops s.sl j [] = some (aa b, true)) (hb : b = false) (h : RT X draw ops l e g rest (⟨[], []⟩ :: acc) ⟨bm s.sl d1 dB, s.H, s.N⟩ k) : RT X draw ops l e g (⟨d1, o1, y1, p1, a1, some (j, true)⟩ :: rest) acc s k := by
  obtain ⟨d, g1, g2, _⟩ := sh h1
  exact vB (g_tn g1 g2 hb) h
theorem mC {ds : List (Option Nat)} {x : Option Nat} {sl : Nat → ae} (h : fM ops sl j (x :: ds) = some (aa b, true)) : fM ops (bm sl x dB) j ds = some (aa b, true) := by
  obtain ⟨d, g1, g2, g3⟩ := sh h
  unfold fM
  rw [g1]
  simp only [Option.map_some, Option.some.injEq, Prod.mk.injEq, List.all_eq_true]
  exact ⟨by rw [G8 (g3 x (by simp)), g2], fun y hy => g3 y (by simp [hy])⟩
theorem mB {ds : List (Option Nat)} {sl : Nat → ae} (h : fM ops sl j ds = some (aa b, true)) : fM ops sl j [] = some (aa b, true) := by
  obtain ⟨d, g1, g2, g3⟩ := sh h
  unfold fM
  rw [g1]
  simp [g2]
theorem e9 (h1 : fM ops s.sl j [d1] = some (aa b, true)) (hb : b = true) (h : RT X draw ops l e g rest (⟨[], []⟩ :: ⟨[], []⟩ :: acc) ⟨bm (bm s.sl d1 dB) d2 dB, s.H, s.N⟩ k) : RT X draw ops l e g (⟨d1, o1, y1, p1, a1, some (j, false)⟩ :: ⟨d2, o2, y2, p2, a2, some (j, false)⟩ :: rest) acc s k :=
  Kf (mB h1) hb (Kf (s := ⟨bm s.sl d1 dB, s.H, s.N⟩) (mC h1) hb h)
theorem da (h1 : fM ops s.sl j [d1] = some (aa b, true)) (hb : b = false) (h : RT X draw ops l e g rest (⟨[], []⟩ :: ⟨[], []⟩ :: acc) ⟨bm (bm s.sl d1 dB) d2 dB, s.H, s.N⟩ k) : RT X draw ops l e g (⟨d1, o1, y1, p1, a1, some (j, true)⟩ :: ⟨d2, o2, y2, p2, a2, some (j, true)⟩ :: rest) acc s k :=
  Kt (mB h1) hb (Kt (s := ⟨bm s.sl d1 dB, s.H, s.N⟩) (mC h1) hb h)
theorem dU (h1 : fM ops s.sl j [d1, d2] = some (aa b, true)) (hb : b = true) (h : RT X draw ops l e g rest (⟨[], []⟩ :: ⟨[], []⟩ :: ⟨[], []⟩ :: acc) ⟨bm (bm (bm s.sl d1 dB) d2 dB) d3 dB, s.H, s.N⟩ k) : RT X draw ops l e g (⟨d1, o1, y1, p1, a1, some (j, false)⟩ :: ⟨d2, o2, y2, p2, a2, some (j, false)⟩ :: ⟨d3, o3, y3, p3, a3, some (j, false)⟩ :: rest) acc s k :=
  Kf (mB h1) hb (e9 (s := ⟨bm s.sl d1 dB, s.H, s.N⟩) (mC h1) hb h)
theorem c7 (h1 : fM ops s.sl j [d1, d2] = some (aa b, true)) (hb : b = false) (h : RT X draw ops l e g rest (⟨[], []⟩ :: ⟨[], []⟩ :: ⟨[], []⟩ :: acc) ⟨bm (bm (bm s.sl d1 dB) d2 dB) d3 dB, s.H, s.N⟩ k) : RT X draw ops l e g (⟨d1, o1, y1, p1, a1, some (j, true)⟩ :: ⟨d2, o2, y2, p2, a2, some (j, true)⟩ :: ⟨d3, o3, y3, p3, a3, some (j, true)⟩ :: rest) acc s k :=
  Kt (mB h1) hb (da (s := ⟨bm s.sl d1 dB, s.H, s.N⟩) (mC h1) hb h)
theorem cx (h1 : fM ops s.sl j [d1, d2, d3] = some (aa b, true)) (hb : b = true) (h : RT X draw ops l e g rest (⟨[], []⟩ :: ⟨[], []⟩ :: ⟨[], []⟩ :: ⟨[], []⟩ :: acc) ⟨bm (bm (bm (bm s.sl d1 dB) d2 dB) d3 dB) d4 dB, s.H, s.N⟩ k) : RT X draw ops l e g (⟨d1, o1, y1, p1, a1, some (j, false)⟩ :: ⟨d2, o2, y2, p2, a2, some (j, false)⟩ :: ⟨d3, o3, y3, p3, a3, some (j, false)⟩ :: ⟨d4, o4, y4, p4, a4, some (j, false)⟩ :: rest) acc s k :=
  Kf (mB h1) hb (dU (s := ⟨bm s.sl d1 dB, s.H, s.N⟩) (mC h1) hb h)
theorem cy (h1 : fM ops s.sl j [d1, d2, d3] = some (aa b, true)) (hb : b = false) (h : RT X draw ops l e g rest (⟨[], []⟩ :: ⟨[], []⟩ :: ⟨[], []⟩ :: ⟨[], []⟩ :: acc) ⟨bm (bm (bm (bm s.sl d1 dB) d2 dB) d3 dB) d4 dB, s.H, s.N⟩ k) : RT X draw ops l e g (⟨d1, o1, y1, p1, a1, some (j, true)⟩ :: ⟨d2, o2, y2, p2, a2, some (j, true)⟩ :: ⟨d3, o3, y3, p3, a3, some (j, true)⟩ :: ⟨d4, o4, y4, p4, a4, some (j, true)⟩ :: rest) acc s k :=
  Kt (mB h1) hb (c7 (s := ⟨bm s.sl d1 dB, s.H, s.N⟩) (mC h1) hb h)
theorem Ri {p : Prop} [Decidable p] (ht : p → RT X draw ops l e g rest acc s k) : RT X draw ops l (if p then e else none) g rest acc s k := aN ht fun _ => A0
theorem Rc {W : Type} {u : Option W} {F : W → Option Z} {f : FuncId} {xs : List Operand} {ts : Array TypeId} {d : Option Nat} {ty : TypeId} {pos : String} {aft : Array Edge} {gd : Option (Nat × Bool)} {args : List ae} {rr : W → ae} (hF : aF P f) (hc : ∀ {r : W}, u = some r → aB P f args (rr r)) (ha : xs.map (bi s.sl) = args) (hg : bD ops.toArray s.sl ⟨d, .call ⟨.value (.func f), xs.toArray, ts⟩, ty, pos, aft, gd⟩ true)
    (h : ∀ z, RT X draw ops l (F z) g rest (⟨[], []⟩ :: acc) ⟨bm s.sl d (rr z), s.H, s.N⟩ k) : RT X draw ops l (u.bind F) g (⟨d, .call ⟨.value (.func f), xs.toArray, ts⟩, ty, pos, aft, gd⟩ :: rest) acc s k := aI fun z hz => dv args hF (hc hz) ha hg (h z)
theorem fi {f : FuncId} {fn : Func} (h : P.funcs[f]? = some fn) (h1 : (fn.name == "runtime.NumGoroutine") = false := by kernel_rfl) (h2 : fn.body.isNone = false := by kernel_rfl) : aF P f := ⟨fn, h, h1, h2⟩
theorem eV {t : Nat} {rr : Y → ae} {z : Y} (hΨ : ∀ z η v H, bZ X.c η H → (rr z).p η v → X.Ψ z η v) (hres : fn.results = #[.tmp t]) (hz : e.bind g = some z) (hA : s.sl t = rr z) : J X e g (.code .ret :: k) s := Jt hΨ (w9 hres) hz hA
theorem Jo {σ : Type} {E : σ → Option Z} {z0 : Z} {t : Nat} {rr : Y → ae} {z : Y} (hΨ : ∀ z η v H, bZ X.c η H → (rr z).p η v → X.Ψ z η v) (hres : fn.results = #[.tmp t]) (hz : (some z0).bind g = some z) (hA : s.sl t = rr z) : J X (some (.inr z0)) (k7 E g) (.code .ret :: k) s := bO (Jt hΨ (w9 hres) hz hA)
theorem Ro {σ : Type} {E : σ → Option Z} {z0 : Z} {t : Nat} {rr : Y → ae} {z : Y} (hΨ : ∀ z η v H, bZ X.c η H → (rr z).p η v → X.Ψ z η v) (hres : fn.results = #[.tmp t]) (hz : (some z0).bind g = some z) (hA : s.sl t = rr z) : RT X false ops l (some (.inr z0)) (k7 E g) [] acc s (.code .ret :: k) := vA (Jo hΨ hres hz hA)
end
theorem Cv.ob {H : cz} {F : Nat → Bool} {σ : Nat → Nat} {G Q : Nat → Bool} {k j : Nat} (h : (G k, σ k, Q k) = (false, j, true)) : Cv H F σ G Q (a8 j) (a8 k) := by
  simp only [Prod.mk.injEq] at h
  exact .obj h.1 h.2.1 h.2.2
theorem er.cc {H : cz} {F : Nat → Bool} {σ : Nat → Nat} {G Q : Nat → Bool} {k j : Nat} {x x' : bB} {r : List (Nat × bB)} (h : (σ k, H j) = (j, some x)) (hc : ii H F σ G Q x x') (h2 : (G k, F j, Q k, r.all fun y => G y.1 || !(Nat.beq (σ y.1) j)) = (false, false, true, true)) (t : er H F σ G Q r) : er H F σ G Q ((k, x') :: r) := by
  simp only [Prod.mk.injEq] at h h2
  exact .cons h2.1 h.1 h.2 h2.2.1 hc h2.2.2.1 h2.2.2.2 t
end Go.Proofs.YtngimdmkomkeoaaGreat.K
