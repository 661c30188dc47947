/- The rules for objects, slices, strings and calls, in the form in which the printed proofs use them; joins and loops. -/
import Derived.Test.YtngimdmkomkeoaaGreatCoreN
set_option linter.unusedVariables false
set_option linter.unusedSimpArgs false
namespace Go.Proofs.YtngimdmkomkeoaaGreat.K
open Go.RowKit
def z2z (P : Program) (T i : Nat) : Option (Nat × Nat) := (z6o P T).bind fun f => f i
theorem PartsV.place {P : Program} {T : Nat} {pl : Nat → Option (Nat × Nat)} (hpl : z6o P T = some pl) {lk : Operand → Asn} {n : Nat} {l : List (Nat × Operand)} {ps : List (Nat × List Asn)} (h : PartsV lk (z2z P T) n l ps) : PartsV lk pl n l ps := by
  induction h with
  | nil => exact .nil
  | cons hx hp ho _ ih => exact .cons hx (by rw [← hp]; simp [z2z, hpl]) ho ih
def ANilB (m : Nat) : Asn := ⟨fun _ v => ∃ b, v = .bool b ∧ (b = true → m = 0), noKeys, fun _ h => h⟩
def I64 (x : Int) : Prop := -9223372036854775808 ≤ x ∧ x ≤ 9223372036854775807
instance (x : Int) : Decidable (I64 x) := by unfold I64; infer_instance
section
variable {P : Program} {fn : Func} {n N0 : Nat} {Y Z V : Type} {X : Cx P fn n N0 Y} {e e1 e2 : Option Z} {g : Z → Option Y} {k : List Item} {s : St} {draw : Bool} {ops l rest : List Oper} {acc : List Foot}
  {d : Option Nat} {ty : TypeId} {pos : String} {aft : Array Edge} {gd : Option (Nat × Bool)} {x y z : Operand} {xt yt : TypeId} {kd kd' : IntKind} {a b m : Int}
theorem one_need {K : Nat} {x : z5b} {H : Heap} (h : H K = some x) : ∀ k y, (k, y) ∈ [(K, x)] → H k = some y := fun k y hm => by
  have := List.mem_singleton.1 hm
  cases this; exact h
theorem one_new {K N : Nat} (h : Nat.ble N K = true) : ∀ k, k ∈ [K] → N ≤ k ∧ k < K + 1 := fun k hm => by
  have := List.mem_singleton.1 hm
  subst this; exact ⟨Nat.le_of_ble_eq_true h, Nat.lt_succ_self _⟩
theorem no_need {H : Heap} : ∀ (k : Nat) (y : z5b), (k, y) ∈ ([] : List (Nat × z5b)) → H k = some y := fun k y hm => by simp at hm
theorem no_new {N M : Nat} : ∀ k, k ∈ ([] : List Nat) → N ≤ k ∧ k < M := fun k hm => by simp at hm
theorem z1x {E : TypeId} (K : Nat) (As : List Asn) (hz : zA P E = some As) (hN : Nat.ble s.N K = true) (hg : z1k ops.toArray s.sl ⟨d, .alloc E, ty, pos, aft, gd⟩ true)
    (h : RT X draw ops l e g rest (⟨[], [K]⟩ :: acc) ⟨z5y s.sl d (z0i K), s.H.upd K (some (.box E As)), K + 1⟩ k) : RT X draw ops l e g (⟨d, .alloc E, ty, pos, aft, gd⟩ :: rest) acc s k := by
  obtain ⟨zs, h1, h2⟩ := zA_spec hz
  exact R_run (N1 := K + 1) (o_alloc h1 h2) hg no_need (one_new hN) (Nat.le_succ_of_le (Nat.le_of_ble_eq_true hN)) h
theorem r_boxO {E : TypeId} (K : Nat) (A : Asn) {As : List Asn} (hx : lkp s.sl x = A) [hv : VA A As] (hN : Nat.ble s.N K = true) (hg : z1k ops.toArray s.sl ⟨d, .box E x, ty, pos, aft, gd⟩ true)
    (h : RT X draw ops l e g rest (⟨[], [K]⟩ :: acc) ⟨z5y s.sl d (z0i K), s.H.upd K (some (.box E As)), K + 1⟩ k) : RT X draw ops l e g (⟨d, .box E x, ty, pos, aft, gd⟩ :: rest) acc s k :=
  R_run (N1 := K + 1) (o_boxO hx) hg no_need (one_new hN) (Nat.le_succ_of_le (Nat.le_of_ble_eq_true hN)) h
theorem r_bs0 {T E w : Nat} (K : Nat) (hT : elemT P T = some (E, w)) (hN : Nat.ble s.N K = true) (hg : z1k ops.toArray s.sl ⟨d, .buildSlice T 0 #[], ty, pos, aft, gd⟩ true)
    (h : RT X draw ops l e g rest (⟨[], [K]⟩ :: acc) ⟨z5y s.sl d (z0i K), s.H.upd K (some (.row E w [])), K + 1⟩ k) : RT X draw ops l e g (⟨d, .buildSlice T 0 #[], ty, pos, aft, gd⟩ :: rest) acc s k :=
  R_run (N1 := K + 1) (o_bs0 hT) hg no_need (one_new hN) (Nat.le_succ_of_le (Nat.le_of_ble_eq_true hN)) h
theorem z24 {S f off : Nat} (A : Asn) {K o : Nat} (o' : Nat) {E : TypeId} {cs : List Asn} (hP : z1q P S f = some off) (hx : lkp s.sl x = A) (hA : z96 A K o) (hH : s.H K = some (.box E cs)) (ho : o + off = o') (hg : z1k ops.toArray s.sl ⟨d, .fieldAddr S x f, ty, pos, aft, gd⟩ true)
    (h : RT X draw ops l e g rest (⟨[K], []⟩ :: acc) ⟨z5y s.sl d (z1f K o'), s.H, s.N⟩ k) : RT X draw ops l e g (⟨d, .fieldAddr S x f, ty, pos, aft, gd⟩ :: rest) acc s k := by
  subst ho
  exact R_run (N1 := s.N) (o_fieldAddrO hP hx hA) hg (one_need hH) no_new (Nat.le_refl _) h
theorem z2b {T : Nat} (A B : Asn) {K o : Nat} {E : TypeId} {cs : List Asn} (hT : scalT P T = true) (hx : lkp s.sl x = A) (hA : z96 A K o) (hH : s.H K = some (.box E cs)) (hB : cs[o]? = some B) (hg : z1k ops.toArray s.sl ⟨d, .load T x, ty, pos, aft, gd⟩ true)
    (h : RT X draw ops l e g rest (⟨[K], []⟩ :: acc) ⟨z5y s.sl d B, s.H, s.N⟩ k) : RT X draw ops l e g (⟨d, .load T x, ty, pos, aft, gd⟩ :: rest) acc s k :=
  R_run (N1 := s.N) (o_loadO hT hx hA hB) hg (one_need hH) no_new (Nat.le_refl _) h
theorem z50 {T w : Nat} (A : Asn) (Bs : List Asn) {K o : Nat} {E : TypeId} {cs : List Asn} (hT : aggT P T = some w) (hx : lkp s.sl x = A) (hA : z96 A K o) (hH : s.H K = some (.box E cs)) (hB : (cs.drop o).take w = Bs) (hm : Bs.length = w) (hg : z1k ops.toArray s.sl ⟨d, .load T x, ty, pos, aft, gd⟩ true)
    (h : RT X draw ops l e g rest (⟨[K], []⟩ :: acc) ⟨z5y s.sl d (z0w Bs), s.H, s.N⟩ k) : RT X draw ops l e g (⟨d, .load T x, ty, pos, aft, gd⟩ :: rest) acc s k :=
  R_run (N1 := s.N) (o_loadAggO hT hx hA hB hm) hg (one_need hH) no_new (Nat.le_refl _) h
theorem z2p {T w : Nat} (A B : Asn) (cs' : List Asn) {Bs : List Asn} {K o : Nat} {E : TypeId} {cs : List Asn} (hT : sizeT P T = some w) (hx : lkp s.sl x = A) (hA : z96 A K o) (hy : lkp s.sl y = B) [hv : VA B Bs] [h1 : OneL Bs] (hH : s.H K = some (.box E cs)) (hm : Bs.length = w)
    (ho : Nat.ble (o + w) cs.length = true) (hs : setAt cs o Bs = cs') (hg : z1k ops.toArray s.sl ⟨d, .store T x y, ty, pos, aft, gd⟩ true)
    (h : RT X draw ops l e g rest (⟨[K], [K]⟩ :: acc) ⟨z5y s.sl d ATop, s.H.upd K (some (.box E cs')), s.N⟩ k) : RT X draw ops l e g (⟨d, .store T x y, ty, pos, aft, gd⟩ :: rest) acc s k :=
  R_run (N1 := s.N) (o_storeO hT hx hA hy hv.va hv.ks h1 hm ho hs) hg (one_need hH) no_new (Nat.le_refl _) h
theorem r_lenO {α : Type} {T K E w : Nat} {cc : α → List Asn} (xs : List α) (hT : z6p P T = true) (hx : lkp s.sl x = z0i K) (hH : s.H K = some (.row E w (xs.map cc))) (hg : z1k ops.toArray s.sl ⟨d, .call ⟨.builtin .len, #[x], #[T]⟩, ty, pos, aft, gd⟩ true)
    (h : RT X draw ops l e g rest (⟨[K], []⟩ :: acc) ⟨z5y s.sl d (z1z .i64 (xs.length : Int)), s.H, s.N⟩ k) : RT X draw ops l e g (⟨d, .call ⟨.builtin .len, #[x], #[T]⟩, ty, pos, aft, gd⟩ :: rest) acc s k :=
  R_run (N1 := s.N) (o_lenO hT hx (by simp)) hg (one_need hH) no_new (Nat.le_refl _) h
theorem r_ixO {α : Type} {T E' E w K : Nat} {cc : α → List Asn} {xs : List α} {j : Int} (hT : elemT P T = some (E', w)) (hx : lkp s.sl x = z0i K) (hy : lkp s.sl y = z1z kd j) (hH : s.H K = some (.row E w (xs.map cc))) (h0 : 0 ≤ j) (h1 : j < (xs.length : Int)) (hg : z1k ops.toArray s.sl ⟨d, .indexAddr T x y, ty, pos, aft, gd⟩ true)
    (h : RT X draw ops l e g rest (⟨[K], []⟩ :: acc) ⟨z5y s.sl d (ARowAt K (j.toNat * w)), s.H, s.N⟩ k) : RT X draw ops l e g (⟨d, .indexAddr T x y, ty, pos, aft, gd⟩ :: rest) acc s k :=
  R_run (N1 := s.N) (o_indexO (rows := xs.map cc) hT hx hy h0 (by simpa using h1)) hg (one_need hH) no_new (Nat.le_refl _) h
theorem r_faR {S f off K o : Nat} (hP : z1q P S f = some off) (hx : lkp s.sl x = ARowAt K o) (hg : z1k ops.toArray s.sl ⟨d, .fieldAddr S x f, ty, pos, aft, gd⟩ true) (h : RT X draw ops l e g rest (⟨[], []⟩ :: acc) ⟨z5y s.sl d (ARowAt K (o + off)), s.H, s.N⟩ k) :
    RT X draw ops l e g (⟨d, .fieldAddr S x f, ty, pos, aft, gd⟩ :: rest) acc s k := z3f (o_fieldAddrR hP hx) hg h
theorem r_ldR {α : Type} [Inhabited α] {T K E w : Nat} {cc : α → List Asn} [hc : LenC cc w] {xs : List α} (j : Int) (off : Nat) (B : Asn) (hT : scalT P T = true) (hx : lkp s.sl x = ARowAt K (j.toNat * w + off)) (hH : s.H K = some (.row E w (xs.map cc))) (h0 : 0 ≤ j) (h1 : j < (xs.length : Int)) (hB : (cc (nth xs j))[off]? = some B)
    (hg : z1k ops.toArray s.sl ⟨d, .load T x, ty, pos, aft, gd⟩ true) (h : RT X draw ops l e g rest (⟨[K], []⟩ :: acc) ⟨z5y s.sl d B, s.H, s.N⟩ k) : RT X draw ops l e g (⟨d, .load T x, ty, pos, aft, gd⟩ :: rest) acc s k :=
  R_run (N1 := s.N) (o_loadR hT hx (flat_get h0 h1 hB)) hg (one_need hH) no_new (Nat.le_refl _) h
theorem r_stR {α : Type} [Inhabited α] {T K E w q : Nat} {cc : α → List Asn} [hc : LenC cc w] {xs : List α} (j : Int) (off : Nat) (B : Asn) {Bs : List Asn} (v : α) (hT : sizeT P T = some q) (hx : lkp s.sl x = ARowAt K (j.toNat * w + off)) (hy : lkp s.sl y = B) [hv : VA B Bs] [h1' : OneL Bs] (hH : s.H K = some (.row E w (xs.map cc))) (h0 : 0 ≤ j) (h1 : j < (xs.length : Int))
    (hm : Bs.length = q) (hle : Nat.ble (off + q) w = true) (hs : cc v = setAt (cc (nth xs j)) off Bs) (hg : z1k ops.toArray s.sl ⟨d, .store T x y, ty, pos, aft, gd⟩ true)
    (h : RT X draw ops l e g rest (⟨[K], [K]⟩ :: acc) ⟨z5y s.sl d ATop, s.H.upd K (some (.row E w ((xs.set j.toNat v).map cc))), s.N⟩ k) : RT X draw ops l e g (⟨d, .store T x y, ty, pos, aft, gd⟩ :: rest) acc s k := by
  have hle' := Nat.le_of_ble_eq_true hle
  refine R_run (N1 := s.N) (o_storeR (rows := xs.map cc) (rows' := (xs.set j.toNat v).map cc) hT hx hy hv.va hv.ks h1' hm ?_ (flat_set h0 h1 hs (by omega)) (LenC.all _) (by simp)) hg (one_need hH) no_new (Nat.le_refl _) h
  rw [List.length_map]
  have : j.toNat + 1 ≤ xs.length := by omega
  have h2 := Nat.mul_le_mul_right w this
  rw [Nat.succ_mul] at h2
  omega
theorem r_app {α : Type} {T E w by_ : Nat} {cc : α → List Asn} [h1 : OneC cc] {xs ys : List α} {K : Nat} (K' : Nat) (hT : appT P T = some (E, w, by_)) (hx : lkp s.sl x = z0i K) (hy : lkp s.sl y = AL w cc ys) (hH : s.H K = some (.row E w (xs.map cc))) (hsz : (xs.length + ys.length) * by_ ≤ 140737488355328) (hN : Nat.ble s.N K' = true) (hne : Nat.beq K K' = false)
    (hg : z1k ops.toArray s.sl ⟨d, .call ⟨.builtin .append, #[x, y], #[T, T]⟩, ty, pos, aft, gd⟩ true)
    (h : RT X draw ops l e g rest (⟨[K], [K', K]⟩ :: acc) ⟨z5y s.sl d (z0i K'), (s.H.upd K none).upd K' (some (.row E w ((xs ++ ys).map cc))), K' + 1⟩ k) :
    RT X draw ops l e g (⟨d, .call ⟨.builtin .append, #[x, y], #[T, T]⟩, ty, pos, aft, gd⟩ :: rest) acc s k := by
  have hne' : K' ≠ K := fun e => by subst e; simp at hne
  have hr := o_appendO (P := P) (c := X.c) (lk := lkp s.sl) (d := d) (ty := ty) (pos := pos) (aft := aft) (gd := gd) (rows := xs.map cc) (rows2 := ys.map cc) hT hx hy (OneC.flat cc ys) (by simpa using hsz) hne'
  rw [← List.map_append] at hr
  exact R_run (N1 := K' + 1) hr hg (one_need hH) (one_new hN) (Nat.le_succ_of_le (Nat.le_of_ble_eq_true hN)) h
theorem r_make {α : Type} {T E w by_ : Nat} {cc : α → List Asn} (K : Nat) (v : α) (hT : appT P T = some (E, w, by_)) (hz : zA P E = some (cc v)) (hx : lkp s.sl x = z1z kd m) (hy : lkp s.sl y = z1z kd' m) (h0 : 0 ≤ m) (hm : m * by_ ≤ 140737488355328) (hN : Nat.ble s.N K = true) (hg : z1k ops.toArray s.sl ⟨d, .makeSlice T x y, ty, pos, aft, gd⟩ true)
    (h : RT X draw ops l e g rest (⟨[], [K]⟩ :: acc) ⟨z5y s.sl d (z0i K), s.H.upd K (some (.row E w ((List.replicate m.toNat v).map cc))), K + 1⟩ k) : RT X draw ops l e g (⟨d, .makeSlice T x y, ty, pos, aft, gd⟩ :: rest) acc s k := by
  obtain ⟨zs, h1, h2⟩ := zA_spec hz
  have hr := o_make (P := P) (c := X.c) (lk := lkp s.sl) (d := d) (ty := ty) (pos := pos) (aft := aft) (gd := gd) (K := K) hT h1 h2 hx hy h0 hm
  rw [← List.map_replicate] at hr
  exact R_run (N1 := K + 1) hr hg no_need (one_new hN) (Nat.le_succ_of_le (Nat.le_of_ble_eq_true hN)) h
theorem z52 {T : Nat} {parts : List (Nat × Operand)} {As : List Asn} {ps : List (Nat × List Asn)} (Bs : List Asn) (hT : (z6o P T).isSome = true) (hz : zA P T = some As) (hp : PartsV (lkp s.sl) (z2z P T) As.length parts ps) (hB : fillA As ps = Bs) (hg : z1k ops.toArray s.sl ⟨d, .build T parts.toArray, ty, pos, aft, gd⟩ true)
    (h : RT X draw ops l e g rest (⟨[], []⟩ :: acc) ⟨z5y s.sl d (z0w Bs), s.H, s.N⟩ k) : RT X draw ops l e g (⟨d, .build T parts.toArray, ty, pos, aft, gd⟩ :: rest) acc s k := by
  obtain ⟨zs, h1, h2⟩ := zA_spec hz
  obtain ⟨pl, hpl⟩ := Option.isSome_iff_exists.1 hT
  exact z3f (o_build hpl h1 h2 (hp.place hpl).parts hB) hg h
def zR (P : Program) (E len : Nat) : Option (List Asn) := (zeroRep P E len).map (·.map constA)
theorem r_bs {α : Type} {T E w len : Nat} {parts : List (Nat × Operand)} {As : List Asn} {ps : List (Nat × List Asn)} {cc : α → List Asn} [hc : LenC cc w] (ys : List α) (hT : elemT P T = some (E, w)) (hz : zR P E len = some As) (hp : PartsV (lkp s.sl) (fun i => some (i * w, w)) As.length parts ps) (hB : fillA As ps = (ys.map cc).flatten) (hl : ys.length = len)
    (hg : z1k ops.toArray s.sl ⟨d, .buildSlice T len parts.toArray, ty, pos, aft, gd⟩ true) (h : RT X draw ops l e g rest (⟨[], []⟩ :: acc) ⟨z5y s.sl d (AL w cc ys), s.H, s.N⟩ k) : RT X draw ops l e g (⟨d, .buildSlice T len parts.toArray, ty, pos, aft, gd⟩ :: rest) acc s k := by
  obtain ⟨zs, h1, h2⟩ := Option.map_eq_some_iff.1 hz
  exact z3f (o_buildSlice hT h1 h2 hp.parts hB (LenC.all ys) (by simpa using hl)) hg h
theorem imp_take (As : List Asn) (m : Nat) : Imp (z1r As) (z1r (As.take m)) := ⟨fun η v ⟨b, o, e, h⟩ => ⟨b, o, e, h.take m⟩, fun k h => z9b (fun A hA => List.mem_of_mem_take hA) h⟩
theorem z0f {S f off : Nat} {As : List Asn} (Bs : List Asn) (hP : z1q P S f = some off) (hx : lkp s.sl x = z1r As) (hB : (As.drop off).take Bs.length = Bs) (hg : z1k ops.toArray s.sl ⟨d, .fieldAddr S x f, ty, pos, aft, gd⟩ true)
    (h : RT X draw ops l e g rest (⟨[], []⟩ :: acc) ⟨z5y s.sl d (z1r Bs), s.H, s.N⟩ k) : RT X draw ops l e g (⟨d, .fieldAddr S x f, ty, pos, aft, gd⟩ :: rest) acc s k := by
  refine z3f ((o_fieldAddr hP hx rfl).imp ?_) hg h
  have := imp_take (As.drop off) Bs.length
  rwa [hB] at this
theorem r_ixA {T q w : Nat} {j : Int} {As : List Asn} (Bs : List Asn) (hT : arrT P T = some (q, w)) (hx : lkp s.sl x = z1r As) (hy : lkp s.sl y = z1z kd j) (h0 : 0 ≤ j) (h1 : j < (q : Int)) (hB : (As.drop (j.toNat * w)).take w = Bs) (hg : z1k ops.toArray s.sl ⟨d, .indexAddr T x y, ty, pos, aft, gd⟩ true)
    (h : RT X draw ops l e g rest (⟨[], []⟩ :: acc) ⟨z5y s.sl d (z1r Bs), s.H, s.N⟩ k) : RT X draw ops l e g (⟨d, .indexAddr T x y, ty, pos, aft, gd⟩ :: rest) acc s k := z3f (o_ixA hT hx hy h0 h1 hB) hg h
theorem r_shr (m : Int) (hx : lkp s.sl x = z1z kd a) (hy : lkp s.sl y = z1z kd' b) (h0 : 0 ≤ b) (hm : a.fdiv (2 ^ (min b.toNat kd.bits)) = m) (hg : z1k ops.toArray s.sl ⟨d, .binOp .shr xt x y yt, ty, pos, aft, gd⟩ true)
    (h : RT X draw ops l e g rest (⟨[], []⟩ :: acc) ⟨z5y s.sl d (z1z kd m), s.H, s.N⟩ k) : RT X draw ops l e g (⟨d, .binOp .shr xt x y yt, ty, pos, aft, gd⟩ :: rest) acc s k := z3f (o_shr h0 hm hx hy) hg h
theorem r_max {ts : Array TypeId} (hx : lkp s.sl x = z1z kd a) (hy : lkp s.sl y = z1z kd b) (hg : z1k ops.toArray s.sl ⟨d, .call ⟨.builtin .max, #[x, y], ts⟩, ty, pos, aft, gd⟩ true)
    (h : RT X draw ops l e g rest (⟨[], []⟩ :: acc) ⟨z5y s.sl d (z1z kd (if a < b then b else a)), s.H, s.N⟩ k) : RT X draw ops l e g (⟨d, .call ⟨.builtin .max, #[x, y], ts⟩, ty, pos, aft, gd⟩ :: rest) acc s k := z3f (o_max hx hy) hg h
theorem r_convW {src dst : TypeId} (m : Int) (hs : (P.underlying src).isSome = true) (hd : P.underlying dst = some (.int kd')) (hx : lkp s.sl x = z1z kd a) (hn : kd'.wrap a = m) (hg : z1k ops.toArray s.sl ⟨d, .convert src dst x, ty, pos, aft, gd⟩ true)
    (h : RT X draw ops l e g rest (⟨[], []⟩ :: acc) ⟨z5y s.sl d (z1z kd' m), s.H, s.N⟩ k) : RT X draw ops l e g (⟨d, .convert src dst x, ty, pos, aft, gd⟩ :: rest) acc s k := z3f (o_convert hs hd hx hn) hg h
theorem r_eqB {b1 b2 : Bool} (hT : P.underlying xt = some .bool) (hx : lkp s.sl x = z00 b1) (hy : lkp s.sl y = z00 b2) (hg : z1k ops.toArray s.sl ⟨d, .binOp .eql xt x y yt, ty, pos, aft, gd⟩ true)
    (h : RT X draw ops l e g rest (⟨[], []⟩ :: acc) ⟨z5y s.sl d (z00 (b1 == b2)), s.H, s.N⟩ k) : RT X draw ops l e g (⟨d, .binOp .eql xt x y yt, ty, pos, aft, gd⟩ :: rest) acc s k := z3f (o_eqB hT hx hy) hg h
theorem r_eqS {u v : ByteArray} (hx : lkp s.sl x = z1h u) (hy : lkp s.sl y = z1h v) (hg : z1k ops.toArray s.sl ⟨d, .binOp .eql xt x y yt, ty, pos, aft, gd⟩ true)
    (h : RT X draw ops l e g rest (⟨[], []⟩ :: acc) ⟨z5y s.sl d (z00 (decide (u = v))), s.H, s.N⟩ k) : RT X draw ops l e g (⟨d, .binOp .eql xt x y yt, ty, pos, aft, gd⟩ :: rest) acc s k := z3f (o_eqS hx hy) hg h
theorem r_catS {u v : ByteArray} (hx : lkp s.sl x = z1h u) (hy : lkp s.sl y = z1h v) (hm : u.size + v.size ≤ 140737488355328) (hg : z1k ops.toArray s.sl ⟨d, .binOp .add xt x y yt, ty, pos, aft, gd⟩ true)
    (h : RT X draw ops l e g rest (⟨[], []⟩ :: acc) ⟨z5y s.sl d (z1h (u ++ v)), s.H, s.N⟩ k) : RT X draw ops l e g (⟨d, .binOp .add xt x y yt, ty, pos, aft, gd⟩ :: rest) acc s k := z3f (o_catS hm hx hy) hg h
theorem r_ixS {u : ByteArray} {j : Int} (hT : P.underlying xt = some .string) (hx : lkp s.sl x = z1h u) (hy : lkp s.sl y = z1z kd j) (h0 : 0 ≤ j) (h1 : j < (u.size : Int)) (hg : z1k ops.toArray s.sl ⟨d, .index xt x y, ty, pos, aft, gd⟩ true)
    (h : RT X draw ops l e g rest (⟨[], []⟩ :: acc) ⟨z5y s.sl d (z1z .u8 (z2c u j)), s.H, s.N⟩ k) : RT X draw ops l e g (⟨d, .index xt x y, ty, pos, aft, gd⟩ :: rest) acc s k := z3f (o_indexS hT hx hy h0 h1) hg h
def LoIs (lk : Operand → Asn) (lo : Option Operand) (l : Int) : Prop := (lo = none ∧ l = 0) ∨ ∃ o, lo = some o ∧ lk o = z1z .i64 l
def HiIs (lk : Operand → Asn) (hi : Option Operand) (h len : Int) : Prop := (hi = none ∧ h = len) ∨ ∃ o, hi = some o ∧ lk o = z1z .i64 h
theorem lo_n {lk : Operand → Asn} : LoIs lk none 0 := .inl ⟨rfl, rfl⟩
theorem lo_s {lk : Operand → Asn} {o : Operand} {l : Int} (h : lk o = z1z .i64 l) : LoIs lk (some o) l := .inr ⟨o, rfl, h⟩
theorem hi_n {lk : Operand → Asn} {len : Int} : HiIs lk none len len := .inl ⟨rfl, rfl⟩
theorem hi_s {lk : Operand → Asn} {o : Operand} {h len : Int} (hh : lk o = z1z .i64 h) : HiIs lk (some o) h len := .inr ⟨o, rfl, hh⟩
theorem r_cut {α : Type} {T E w : Nat} {cc : α → List Asn} {xs : List α} {lo hi : Option Operand} (p q : Int) (hT : elemT P T = some (E, w)) (hx : lkp s.sl x = AL w cc xs) (hl : LoIs (lkp s.sl) lo p) (hh : HiIs (lkp s.sl) hi q (xs.length : Int)) (h0 : 0 ≤ p) (h1 : p ≤ q) (h2 : q ≤ (xs.length : Int))
    (hg : z1k ops.toArray s.sl ⟨d, .slice T x lo hi none, ty, pos, aft, gd⟩ true) (h : RT X draw ops l e g rest (⟨[], []⟩ :: acc) ⟨z5y s.sl d (AL w cc (cut xs p q)), s.H, s.N⟩ k) : RT X draw ops l e g (⟨d, .slice T x lo hi none, ty, pos, aft, gd⟩ :: rest) acc s k :=
  z3f (o_cut hT hx hl hh h0 h1 h2) hg h
theorem r_cutS {T : Nat} {u : ByteArray} {lo hi : Option Operand} (p q : Int) (hT : P.underlying T = some .string) (hx : lkp s.sl x = z1h u) (hl : LoIs (lkp s.sl) lo p) (hh : HiIs (lkp s.sl) hi q (u.size : Int)) (h0 : 0 ≤ p) (h1 : p ≤ q) (h2 : q ≤ (u.size : Int))
    (hg : z1k ops.toArray s.sl ⟨d, .slice T x lo hi none, ty, pos, aft, gd⟩ true) (h : RT X draw ops l e g rest (⟨[], []⟩ :: acc) ⟨z5y s.sl d (z1h (cutS u p q)), s.H, s.N⟩ k) : RT X draw ops l e g (⟨d, .slice T x lo hi none, ty, pos, aft, gd⟩ :: rest) acc s k :=
  z3f (o_cutS hT hx hl hh h0 h1 h2) hg h
theorem r_eqNil {α : Type} {cc : α → List Asn} {xs : List α} {E w : Nat} (hT : P.underlying xt = some (.slice E)) (hx : lkp s.sl x = AL w cc xs) (hy : lkp s.sl y = z1m) (hg : z1k ops.toArray s.sl ⟨d, .binOp .eql xt x y yt, ty, pos, aft, gd⟩ true)
    (h : RT X draw ops l e g rest (⟨[], []⟩ :: acc) ⟨z5y s.sl d (ANilB xs.length), s.H, s.N⟩ k) : RT X draw ops l e g (⟨d, .binOp .eql xt x y yt, ty, pos, aft, gd⟩ :: rest) acc s k :=
  z3f (o_eqNil (o := x) hT hx hy (by simp [ANilB])) hg h
theorem r_mkFn {α β : Type} {f : FuncId} {cs : List Operand} (caps : List Asn) (ga : α → List Asn) (rt : β → Asn) (gg : α → Option β) (hF : z26 P f) (hA : cs.map (lkp s.sl) = caps) [hk : NKL caps] (hc : ∀ x y, gg x = some y → FnP P f (ga x ++ caps) (rt y)) (hg : z1k ops.toArray s.sl ⟨d, .makeFunc (.func f) #[] cs.toArray, ty, pos, aft, gd⟩ true)
    (h : RT X draw ops l e g rest (⟨[], []⟩ :: acc) ⟨z5y s.sl d (AFn P ga rt gg), s.H, s.N⟩ k) : RT X draw ops l e g (⟨d, .makeFunc (.func f) #[] cs.toArray, ty, pos, aft, gd⟩ :: rest) acc s k := by
  obtain ⟨fn, h1, h2, h3⟩ := hF
  exact z3f (o_makeFn hA hk.nk h1 h2 h3 hc) hg h
theorem r_callB {f : FuncId} {xs : List Operand} {ts : Array TypeId} {args : List Asn} {r : Asn} (need : List (Nat × z5b)) (As : List Asn) (hF : z26 P f) (hc : FnP P f args r) [hs : Scal r] (hn : NeedIn s.H need) (hAs : xs.map (lkp s.sl) = As) (ha : CvL (hp need) (fun k => z5g k (need.map (·.1))) id (fun _ => false) (fun _ => true) As args)
    (hg : z1k ops.toArray s.sl ⟨d, .call ⟨.value (.func f), xs.toArray, ts⟩, ty, pos, aft, gd⟩ true) (h : RT X draw ops l e g rest (⟨need.map (·.1), []⟩ :: acc) ⟨z5y s.sl d r, s.H, s.N⟩ k) : RT X draw ops l e g (⟨d, .call ⟨.value (.func f), xs.toArray, ts⟩, ty, pos, aft, gd⟩ :: rest) acc s k :=
  R_run (N1 := s.N) (o_callB hF hc hn.self (hAs ▸ ha) rfl) hg hn.spec no_new (Nat.le_refl _) h
theorem r_callK {f : FuncId} {xs : List Operand} {ts : Array TypeId} {N0 : Nat} {ins outs : List (Nat × z5b)} {args : List Asn} {r : Asn} (F : List Nat) (σ σ' : List (Nat × Nat)) (new : List Nat) (N1 : Nat) (need outs' : List (Nat × z5b)) (r' : Asn) (As : List Asn) (hF : z26 P f) (hc : FnK P f N0 ins args outs r) (hn : NeedIn s.H need) (hAs : xs.map (lkp s.sl) = As)
    (ha : CvL (hp need) (z5g · F) (ren σ) (fun _ => false) (fun _ => true) As args) (hin : HpC (hp need) (z5g · F) (ren σ) (fun _ => false) (fun _ => true) ins)
    (ho : HpC (hp outs) (fun _ => false) (ren σ') (fun _ => false) (fun k => z5g k new || (Nat.blt (ren σ' k) N0 && Nat.beq (ren σ (ren σ' k)) k && z5g k (need.map (·.1)))) outs')
    (hr : Cv (hp outs) (fun _ => false) (ren σ') (fun _ => false) (fun k => z5g k new || (Nat.blt (ren σ' k) N0 && Nat.beq (ren σ (ren σ' k)) k && z5g k (need.map (·.1)))) r r') (hnew : (new.all fun k => Nat.ble s.N k && Nat.blt k N1) = true) (hN : Nat.ble s.N N1 = true)
    (hg : z1k ops.toArray s.sl ⟨d, .call ⟨.value (.func f), xs.toArray, ts⟩, ty, pos, aft, gd⟩ true)
    (h : RT X draw ops l e g rest (⟨need.map (·.1), ((outs'.map fun (y : Nat × z5b) => (y.1, some y.2)) ++ (need.map (·.1)).map fun j => (j, (none : Option z5b))).map (·.1)⟩ :: acc) ⟨z5y s.sl d r', s.H.upds ((outs'.map fun (y : Nat × z5b) => (y.1, some y.2)) ++ (need.map (·.1)).map fun j => (j, (none : Option z5b))), N1⟩ k) :
    RT X draw ops l e g (⟨d, .call ⟨.value (.func f), xs.toArray, ts⟩, ty, pos, aft, gd⟩ :: rest) acc s k :=
  R_run (N1 := N1) (o_callK hF hc hn.self (by rw [List.append_nil]; exact hAs ▸ ha) hin ho hr rfl) hg hn.spec (fun k hk => by
    have := List.all_eq_true.1 hnew k hk
    simp only [Bool.and_eq_true] at this
    exact ⟨Nat.le_of_ble_eq_true this.1, of_decide_eq_true (by simpa [Nat.blt_eq] using this.2)⟩) (Nat.le_of_ble_eq_true hN) h
end
section
variable {P : Program} {fn : Func} {n N0 : Nat} {Y Z V σ : Type} {X : Cx P fn n N0 Y} {e u : Option Z} {g : Z → Option Y} {k : List Item} {s : St} {c : Item}
def way (E : σ → Option Z) (g : Z → Option Y) : σ ⊕ Z → Option Y
  | .inl x => (E x).bind g
  | .inr b => g b
theorem J_it {F : σ → Option (σ ⊕ Z)} {body : Code} (S : σ → St) (h : ∀ E : σ → Option Z, (∀ x, J X (E x) g (.inLoop body :: k) (S x)) → ∀ x, J X (F x) (way E g) (.code body :: .inLoop body :: k) (S x)) {x0 : σ} (h0 : s = S x0) :
    J X (z2l F x0) g (.code (.loop body) :: k) s := by
  have := J_loop (X := X) (F := F) (G := fun z : Z => some z) (g := g) (body := body) (k := k) (fun x s => s = S x) (fun E hE x s hs => ?_) h0
  · intro y hy
    exact this y (by simpa using hy)
  · subst hs
    intro y hy
    refine h E (fun x => hE x _ rfl) x y ?_
    rw [← hy]
    congr 1
    funext z
    cases z <;> rfl
theorem z41 {E : σ → Option Z} {x : σ} (h : J X (E x) g k s) : J X (some (.inl x)) (way E g) k s := h
theorem z7w {E : σ → Option Z} (h : J X u g k s) : J X (u.map .inr) (way E g) k s := by
  intro y hy
  refine h y ?_
  cases u with
  | none => exact hy
  | some z => exact hy
theorem z0x {E : σ → Option Z} {z : Z} (h : J X (some z) g k s) : J X (some (.inr z)) (way E g) k s := h
theorem J_condNil {o : Operand} {x y : Code} {m : Nat} (hc : lkp s.sl o = ANilB m) (ht : m = 0 → J X e g (.code x :: k) s) (hf : J X e g (.code y :: k) s) : J X e g (.code (.cond o x y) :: k) s := by
  intro r hr η a hrel
  have h1 := lkp_p (a := a) hrel.slots o
  rw [hc] at h1
  obtain ⟨b, h2, h3⟩ := h1
  cases b with
  | true => exact (ht (h3 rfl) r hr η a hrel).head fun _ _ => step_cond h2
  | false => exact (hf r hr η a hrel).head fun _ _ => step_cond h2
theorem Iter_out {σ β : Type} {F : σ → Option (σ ⊕ β)} {x : σ} {u : Option β} (h : F x = u.map .inr) : z2l F x = u := by
  cases u with
  | some b => exact z8g h
  | none =>
    cases hy : z2l F x with
    | none => rfl
    | some b =>
      obtain ⟨n, hn⟩ := Lim_some hy
      cases n with
      | zero => simp [iterN] at hn
      | succ n => simp [iterN, h] at hn
end
end Go.Proofs.YtngimdmkomkeoaaGreat.K
