import Derived.Test.YtngimdmkomkeoaaGreatCoreN
set_option linter.unusedVariables false
set_option linter.unusedSimpArgs false
namespace Go.Proofs.YtngimdmkomkeoaaGreat.K
open Go.RowKit
theorem HT {k k' : IntKind} (h : (decide (k'.min ≤ k.min) && decide (k.max ≤ k'.max)) = true) {a : Int} (ha : k.has a) : k'.has a := by
  simp only [Bool.and_eq_true, decide_eq_true_eq] at h
  unfold IntKind.has at *
  omega
def cI (P : Program) (T i : Nat) : Option (Nat × Nat) := (eC P T).bind fun f => f i
theorem hO.place {P : Program} {T : Nat} {pl : Nat → Option (Nat × Nat)} (hpl : eC P T = some pl) {lk : Operand → ae} {n : Nat} {l : List (Nat × Operand)} {ps : List (Nat × List ae)} (h : hO lk (cI P T) n l ps) : hO lk pl n l ps := by
  induction h with
  | nil => exact .nil
  | cons hx hp ho _ ih => exact .cons hx (by rw [← hp]; simp [cI, hpl]) ho ih
def vm (m : Nat) : ae := ⟨fun _ v => ∃ b, v = .bool b ∧ (b = true → m = 0), kv, fun _ h => h⟩
def I64 (x : Int) : Prop := -9223372036854775808 ≤ x ∧ x ≤ 9223372036854775807
instance (x : Int) : Decidable (I64 x) := by unfold I64; infer_instance
section
variable {P : Program} {fn : Func} {n N0 : Nat} {Y Z V : Type} {X : Cx P fn n N0 Y} {e e1 e2 : Option Z} {g : Z → Option Y} {k : List Item} {s : St} {draw : Bool} {ops l rest : List Oper} {acc : List cB}
  {d : Option Nat} {ty : TypeId} {pos : String} {aft : Array Edge} {gd : Option (Nat × Bool)} {x y z : Operand} {xt yt : TypeId} {kd kd' : IntKind} {a b m : Int}
theorem iy {K : Nat} {x : bB} {H : cz} (h : H K = some x) : ∀ k y, (k, y) ∈ [(K, x)] → H k = some y := fun k y hm => by
  have := List.mem_singleton.1 hm
  cases this; exact h
theorem mE {K N : Nat} (h : Nat.ble N K = true) : ∀ k, k ∈ [K] → N ≤ k ∧ k < K + 1 := fun k hm => by
  have := List.mem_singleton.1 hm
  subst this; exact ⟨Nat.le_of_ble_eq_true h, Nat.lt_succ_self _⟩
theorem oQ {H : cz} : ∀ (k : Nat) (y : bB), (k, y) ∈ ([] : List (Nat × bB)) → H k = some y := fun k y hm => by simp at hm
theorem iv {N M : Nat} : ∀ k, k ∈ ([] : List Nat) → N ≤ k ∧ k < M := fun k hm => by simp at hm
theorem bE {E : TypeId} (K : Nat) (As : List ae) (hz : zA P E = some As) (hN : Nat.ble s.N K = true) (hg : bD ops.toArray s.sl ⟨d, .alloc E, ty, pos, aft, gd⟩ true)
    (h : RT X draw ops l e g rest (⟨[], [K]⟩ :: acc) ⟨bm s.sl d (a8 K), s.H.upd K (some (.box E As)), K + 1⟩ k) : RT X draw ops l e g (⟨d, .alloc E, ty, pos, aft, gd⟩ :: rest) acc s k := by
  obtain ⟨zs, h1, h2⟩ := s9 hz
  exact eP (N1 := K + 1) (H9 h1 h2) hg oQ (mE hN) (Nat.le_succ_of_le (Nat.le_of_ble_eq_true hN)) h
theorem Gu {E : TypeId} (K : Nat) (A : ae) {As : List ae} (hx : bi s.sl x = A) [hv : VA A As] (hN : Nat.ble s.N K = true) (hg : bD ops.toArray s.sl ⟨d, .box E x, ty, pos, aft, gd⟩ true)
    (h : RT X draw ops l e g rest (⟨[], [K]⟩ :: acc) ⟨bm s.sl d (a8 K), s.H.upd K (some (.box E As)), K + 1⟩ k) : RT X draw ops l e g (⟨d, .box E x, ty, pos, aft, gd⟩ :: rest) acc s k :=
  eP (N1 := K + 1) (Gi hx) hg oQ (mE hN) (Nat.le_succ_of_le (Nat.le_of_ble_eq_true hN)) h
theorem gF {T E w : Nat} (K : Nat) (hT : dG P T = some (E, w)) (hN : Nat.ble s.N K = true) (hg : bD ops.toArray s.sl ⟨d, .buildSlice T 0 #[], ty, pos, aft, gd⟩ true)
    (h : RT X draw ops l e g rest (⟨[], [K]⟩ :: acc) ⟨bm s.sl d (a8 K), s.H.upd K (some (.row E w [])), K + 1⟩ k) : RT X draw ops l e g (⟨d, .buildSlice T 0 #[], ty, pos, aft, gd⟩ :: rest) acc s k :=
  eP (N1 := K + 1) (o_bs0 hT) hg oQ (mE hN) (Nat.le_succ_of_le (Nat.le_of_ble_eq_true hN)) h
theorem aT {S f off : Nat} (A : ae) {K o : Nat} (o' : Nat) {E : TypeId} {cs : List ae} (hP : bV P S f = some off) (hx : bi s.sl x = A) (hA : fH A K o) (hH : s.H K = some (.box E cs)) (ho : o + off = o') (hg : bD ops.toArray s.sl ⟨d, .fieldAddr S x f, ty, pos, aft, gd⟩ true)
    (h : RT X draw ops l e g rest (⟨[K], []⟩ :: acc) ⟨bm s.sl d (aO K o'), s.H, s.N⟩ k) : RT X draw ops l e g (⟨d, .fieldAddr S x f, ty, pos, aft, gd⟩ :: rest) acc s k := by
  subst ho
  exact eP (N1 := s.N) (L9 hP hx hA) hg (iy hH) iv (Nat.le_refl _) h
theorem jC {T q w : Nat} {j : Int} (A : ae) {K o : Nat} (o' : Nat) {E : TypeId} {cs : List ae} (hT : ik P T = some (q, w)) (hx : bi s.sl x = A) (hA : fH A K o) (hy : bi s.sl y = aj kd j) (h0 : 0 ≤ j) (h1 : j < (q : Int)) (hH : s.H K = some (.box E cs)) (ho : o + j.toNat * w = o')
    (hg : bD ops.toArray s.sl ⟨d, .indexAddr T x y, ty, pos, aft, gd⟩ true) (h : RT X draw ops l e g rest (⟨[K], []⟩ :: acc) ⟨bm s.sl d (aO K o'), s.H, s.N⟩ k) : RT X draw ops l e g (⟨d, .indexAddr T x y, ty, pos, aft, gd⟩ :: rest) acc s k :=
  eP (N1 := s.N) (Gl hT hx hA hy h0 h1 ho) hg (iy hH) iv (Nat.le_refl _) h
theorem bg {T : Nat} (A B : ae) {K o : Nat} {E : TypeId} {cs : List ae} (hT : dD P T = true) (hx : bi s.sl x = A) (hA : fH A K o) (hH : s.H K = some (.box E cs)) (hB : cs[o]? = some B) (hg : bD ops.toArray s.sl ⟨d, .load T x, ty, pos, aft, gd⟩ true)
    (h : RT X draw ops l e g rest (⟨[K], []⟩ :: acc) ⟨bm s.sl d B, s.H, s.N⟩ k) : RT X draw ops l e g (⟨d, .load T x, ty, pos, aft, gd⟩ :: rest) acc s k :=
  eP (N1 := s.N) (Hd hT hx hA hB) hg (iy hH) iv (Nat.le_refl _) h
theorem cr {T w : Nat} (A : ae) (Bs : List ae) {K o : Nat} {E : TypeId} {cs : List ae} (hT : dz P T = some w) (hx : bi s.sl x = A) (hA : fH A K o) (hH : s.H K = some (.box E cs)) (hB : (cs.drop o).take w = Bs) (hm : Bs.length = w) (hg : bD ops.toArray s.sl ⟨d, .load T x, ty, pos, aft, gd⟩ true)
    (h : RT X draw ops l e g rest (⟨[K], []⟩ :: acc) ⟨bm s.sl d (ac Bs), s.H, s.N⟩ k) : RT X draw ops l e g (⟨d, .load T x, ty, pos, aft, gd⟩ :: rest) acc s k :=
  eP (N1 := s.N) (JW hT hx hA hB hm) hg (iy hH) iv (Nat.le_refl _) h
theorem aX {T w : Nat} (A B : ae) (cs' : List ae) {Bs : List ae} {K o : Nat} {E : TypeId} {cs : List ae} (hT : dA P T = some w) (hx : bi s.sl x = A) (hA : fH A K o) (hy : bi s.sl y = B) [hv : VA B Bs] [h1 : cQ Bs] (hH : s.H K = some (.box E cs)) (hm : Bs.length = w)
    (ho : Nat.ble (o + w) cs.length = true) (hs : fE cs o Bs = cs') (hg : bD ops.toArray s.sl ⟨d, .store T x y, ty, pos, aft, gd⟩ true)
    (h : RT X draw ops l e g rest (⟨[K], [K]⟩ :: acc) ⟨bm s.sl d fA, s.H.upd K (some (.box E cs')), s.N⟩ k) : RT X draw ops l e g (⟨d, .store T x y, ty, pos, aft, gd⟩ :: rest) acc s k :=
  eP (N1 := s.N) (Ig hT hx hA hy hv.va hv.ks h1 hm ho hs) hg (iy hH) iv (Nat.le_refl _) h
theorem eS {α : Type} {T K E w : Nat} {cc : α → List ae} (xs : List α) (hT : ey P T = true) (hx : bi s.sl x = a8 K) (hH : s.H K = some (.row E w (xs.map cc))) (hg : bD ops.toArray s.sl ⟨d, .call ⟨.builtin .len, #[x], #[T]⟩, ty, pos, aft, gd⟩ true)
    (h : RT X draw ops l e g rest (⟨[K], []⟩ :: acc) ⟨bm s.sl d (aj .i64 (xs.length : Int)), s.H, s.N⟩ k) : RT X draw ops l e g (⟨d, .call ⟨.builtin .len, #[x], #[T]⟩, ty, pos, aft, gd⟩ :: rest) acc s k :=
  eP (N1 := s.N) (Gm hT hx (by simp)) hg (iy hH) iv (Nat.le_refl _) h
theorem dh {α : Type} {T E' E w K : Nat} {cc : α → List ae} {xs : List α} {j : Int} (hT : dG P T = some (E', w)) (hx : bi s.sl x = a8 K) (hy : bi s.sl y = aj kd j) (hH : s.H K = some (.row E w (xs.map cc))) (h0 : 0 ≤ j) (h1 : j < (xs.length : Int)) (hg : bD ops.toArray s.sl ⟨d, .indexAddr T x y, ty, pos, aft, gd⟩ true)
    (h : RT X draw ops l e g rest (⟨[K], []⟩ :: acc) ⟨bm s.sl d (hM K (j.toNat * w)), s.H, s.N⟩ k) : RT X draw ops l e g (⟨d, .indexAddr T x y, ty, pos, aft, gd⟩ :: rest) acc s k :=
  eP (N1 := s.N) (Ib (rows := xs.map cc) hT hx hy h0 (by simpa using h1)) hg (iy hH) iv (Nat.le_refl _) h
theorem rn {S f off K o : Nat} (hP : bV P S f = some off) (hx : bi s.sl x = hM K o) (hg : bD ops.toArray s.sl ⟨d, .fieldAddr S x f, ty, pos, aft, gd⟩ true) (h : RT X draw ops l e g rest (⟨[], []⟩ :: acc) ⟨bm s.sl d (hM K (o + off)), s.H, s.N⟩ k) :
    RT X draw ops l e g (⟨d, .fieldAddr S x f, ty, pos, aft, gd⟩ :: rest) acc s k := cV (La hP hx) hg h
theorem ff {α : Type} [Inhabited α] {T K E w : Nat} {cc : α → List ae} [hc : cP cc w] {xs : List α} (j : Int) (off : Nat) (B : ae) (hT : dD P T = true) (hx : bi s.sl x = hM K (j.toNat * w + off)) (hH : s.H K = some (.row E w (xs.map cc))) (h0 : 0 ≤ j) (h1 : j < (xs.length : Int)) (hB : (cc (nth xs j))[off]? = some B)
    (hg : bD ops.toArray s.sl ⟨d, .load T x, ty, pos, aft, gd⟩ true) (h : RT X draw ops l e g rest (⟨[K], []⟩ :: acc) ⟨bm s.sl d B, s.H, s.N⟩ k) : RT X draw ops l e g (⟨d, .load T x, ty, pos, aft, gd⟩ :: rest) acc s k :=
  eP (N1 := s.N) (He hT hx (HI h0 h1 hB)) hg (iy hH) iv (Nat.le_refl _) h
theorem Gv {α : Type} [Inhabited α] {T K E w q : Nat} {cc : α → List ae} [hc : cP cc w] {xs : List α} (j : Int) (off : Nat) (Bs : List ae) (hT : dz P T = some q) (hx : bi s.sl x = hM K (j.toNat * w + off)) (hH : s.H K = some (.row E w (xs.map cc))) (h0 : 0 ≤ j) (h1 : j < (xs.length : Int)) (hB : ((cc (nth xs j)).drop off).take q = Bs) (hle : Nat.ble (off + q) w = true) (hm : Bs.length = q)
    (hg : bD ops.toArray s.sl ⟨d, .load T x, ty, pos, aft, gd⟩ true) (h : RT X draw ops l e g rest (⟨[K], []⟩ :: acc) ⟨bm s.sl d (ac Bs), s.H, s.N⟩ k) : RT X draw ops l e g (⟨d, .load T x, ty, pos, aft, gd⟩ :: rest) acc s k :=
  eP (N1 := s.N) (JX hT hx (IW h0 h1 hB hle) hm) hg (iy hH) iv (Nat.le_refl _) h
theorem eR {α : Type} [Inhabited α] {T K E w q : Nat} {cc : α → List ae} [hc : cP cc w] {xs : List α} (j : Int) (off : Nat) (B : ae) {Bs : List ae} (v : α) (hT : dA P T = some q) (hx : bi s.sl x = hM K (j.toNat * w + off)) (hy : bi s.sl y = B) [hv : VA B Bs] [h1' : cQ Bs] (hH : s.H K = some (.row E w (xs.map cc))) (h0 : 0 ≤ j) (h1 : j < (xs.length : Int))
    (hm : Bs.length = q) (hle : Nat.ble (off + q) w = true) (hs : cc v = fE (cc (nth xs j)) off Bs) (hg : bD ops.toArray s.sl ⟨d, .store T x y, ty, pos, aft, gd⟩ true)
    (h : RT X draw ops l e g rest (⟨[K], [K]⟩ :: acc) ⟨bm s.sl d fA, s.H.upd K (some (.row E w ((xs.set j.toNat v).map cc))), s.N⟩ k) : RT X draw ops l e g (⟨d, .store T x y, ty, pos, aft, gd⟩ :: rest) acc s k := by
  have hle' := Nat.le_of_ble_eq_true hle
  refine eP (N1 := s.N) (Ih (rows := xs.map cc) (rows' := (xs.set j.toNat v).map cc) hT hx hy hv.va hv.ks h1' hm ?_ (HJ h0 h1 hs (by omega)) (cP.all _) (by simp)) hg (iy hH) iv (Nat.le_refl _) h
  rw [List.length_map]
  have : j.toNat + 1 ≤ xs.length := by omega
  have h2 := Nat.mul_le_mul_right w this
  rw [Nat.succ_mul] at h2
  omega
theorem dx {α : Type} {T E w by_ : Nat} {cc : α → List ae} [h1 : dm cc] {xs ys : List α} {K : Nat} (K' : Nat) (hT : eX P T = some (E, w, by_)) (hx : bi s.sl x = a8 K) (hy : bi s.sl y = AL w cc ys) (hH : s.H K = some (.row E w (xs.map cc))) (hsz : (xs.length + ys.length) * by_ ≤ 140737488355328) (hN : Nat.ble s.N K' = true) (hne : Nat.beq K K' = false)
    (hg : bD ops.toArray s.sl ⟨d, .call ⟨.builtin .append, #[x, y], #[T, T]⟩, ty, pos, aft, gd⟩ true)
    (h : RT X draw ops l e g rest (⟨[K], [K', K]⟩ :: acc) ⟨bm s.sl d (a8 K'), (s.H.upd K none).upd K' (some (.row E w ((xs ++ ys).map cc))), K' + 1⟩ k) :
    RT X draw ops l e g (⟨d, .call ⟨.builtin .append, #[x, y], #[T, T]⟩, ty, pos, aft, gd⟩ :: rest) acc s k := by
  have hne' : K' ≠ K := fun e => by subst e; simp at hne
  have hr := J3 (P := P) (c := X.c) (lk := bi s.sl) (d := d) (ty := ty) (pos := pos) (aft := aft) (gd := gd) (rows := xs.map cc) (rows2 := ys.map cc) hT hx hy (dm.flat cc ys) (by simpa using hsz) hne'
  rw [← List.map_append] at hr
  exact eP (N1 := K' + 1) hr hg (iy hH) (mE hN) (Nat.le_succ_of_le (Nat.le_of_ble_eq_true hN)) h
theorem lm {α : Type} {T E w by_ : Nat} {cc : α → List ae} (K : Nat) (v : α) (hT : eX P T = some (E, w, by_)) (hz : zA P E = some (cc v)) (hx : bi s.sl x = aj kd m) (hy : bi s.sl y = aj kd' m) (h0 : 0 ≤ m) (hm : m * by_ ≤ 140737488355328) (hN : Nat.ble s.N K = true) (hg : bD ops.toArray s.sl ⟨d, .makeSlice T x y, ty, pos, aft, gd⟩ true)
    (h : RT X draw ops l e g rest (⟨[], [K]⟩ :: acc) ⟨bm s.sl d (a8 K), s.H.upd K (some (.row E w ((List.replicate m.toNat v).map cc))), K + 1⟩ k) : RT X draw ops l e g (⟨d, .makeSlice T x y, ty, pos, aft, gd⟩ :: rest) acc s k := by
  obtain ⟨zs, h1, h2⟩ := s9 hz
  have hr := Gp (P := P) (c := X.c) (lk := bi s.sl) (d := d) (ty := ty) (pos := pos) (aft := aft) (gd := gd) (K := K) hT h1 h2 hx hy h0 hm
  rw [← List.map_replicate] at hr
  exact eP (N1 := K + 1) hr hg oQ (mE hN) (Nat.le_succ_of_le (Nat.le_of_ble_eq_true hN)) h
theorem cO {T : Nat} {parts : List (Nat × Operand)} {As : List ae} {ps : List (Nat × List ae)} (Bs : List ae) (hT : (eC P T).isSome = true) (hz : zA P T = some As) (hp : hO (bi s.sl) (cI P T) As.length parts ps) (hB : io As ps = Bs) (hg : bD ops.toArray s.sl ⟨d, .build T parts.toArray, ty, pos, aft, gd⟩ true)
    (h : RT X draw ops l e g rest (⟨[], []⟩ :: acc) ⟨bm s.sl d (ac Bs), s.H, s.N⟩ k) : RT X draw ops l e g (⟨d, .build T parts.toArray, ty, pos, aft, gd⟩ :: rest) acc s k := by
  obtain ⟨zs, h1, h2⟩ := s9 hz
  obtain ⟨pl, hpl⟩ := Option.isSome_iff_exists.1 hT
  exact cV (Be hpl h1 h2 (hp.place hpl).parts hB) hg h
def zR (P : Program) (E len : Nat) : Option (List ae) := (oW P E len).map (·.map fY)
theorem cF {α : Type} {T E w len : Nat} {parts : List (Nat × Operand)} {As : List ae} {ps : List (Nat × List ae)} {cc : α → List ae} [hc : cP cc w] (ys : List α) (hT : dG P T = some (E, w)) (hz : zR P E len = some As) (hp : hO (bi s.sl) (fun i => some (i * w, w)) As.length parts ps) (hB : io As ps = (ys.map cc).flatten) (hl : ys.length = len)
    (hg : bD ops.toArray s.sl ⟨d, .buildSlice T len parts.toArray, ty, pos, aft, gd⟩ true) (h : RT X draw ops l e g rest (⟨[], []⟩ :: acc) ⟨bm s.sl d (AL w cc ys), s.H, s.N⟩ k) : RT X draw ops l e g (⟨d, .buildSlice T len parts.toArray, ty, pos, aft, gd⟩ :: rest) acc s k := by
  obtain ⟨zs, h1, h2⟩ := Option.map_eq_some_iff.1 hz
  exact cV (L8 hT h1 h2 hp.parts hB (cP.all ys) (by simpa using hl)) hg h
theorem HV (As : List ae) (m : Nat) : Imp (ap As) (ap (As.take m)) := ⟨fun η v ⟨b, o, e, h⟩ => ⟨b, o, e, h.take m⟩, fun k h => jJ (fun A hA => List.mem_of_mem_take hA) h⟩
theorem ai {S f off : Nat} {As : List ae} (Bs : List ae) (hP : bV P S f = some off) (hx : bi s.sl x = ap As) (hB : (As.drop off).take Bs.length = Bs) (hg : bD ops.toArray s.sl ⟨d, .fieldAddr S x f, ty, pos, aft, gd⟩ true)
    (h : RT X draw ops l e g rest (⟨[], []⟩ :: acc) ⟨bm s.sl d (ap Bs), s.H, s.N⟩ k) : RT X draw ops l e g (⟨d, .fieldAddr S x f, ty, pos, aft, gd⟩ :: rest) acc s k := by
  refine cV ((Kv hP hx rfl).imp ?_) hg h
  have := HV (As.drop off) Bs.length
  rwa [hB] at this
theorem eQ {T q w : Nat} {j : Int} {As : List ae} (Bs : List ae) (hT : ik P T = some (q, w)) (hx : bi s.sl x = ap As) (hy : bi s.sl y = aj kd j) (h0 : 0 ≤ j) (h1 : j < (q : Int)) (hB : (As.drop (j.toNat * w)).take w = Bs) (hg : bD ops.toArray s.sl ⟨d, .indexAddr T x y, ty, pos, aft, gd⟩ true)
    (h : RT X draw ops l e g rest (⟨[], []⟩ :: acc) ⟨bm s.sl d (ap Bs), s.H, s.N⟩ k) : RT X draw ops l e g (⟨d, .indexAddr T x y, ty, pos, aft, gd⟩ :: rest) acc s k := cV (o_ixA hT hx hy h0 h1 hB) hg h
theorem rp (m : Int) (hx : bi s.sl x = aj kd a) (hy : bi s.sl y = aj kd b) (hb : b ≠ 0) (hm : kd.wrap (a.tdiv b) = m) (hg : bD ops.toArray s.sl ⟨d, .binOp .quo xt x y yt, ty, pos, aft, gd⟩ true)
    (h : RT X draw ops l e g rest (⟨[], []⟩ :: acc) ⟨bm s.sl d (aj kd m), s.H, s.N⟩ k) : RT X draw ops l e g (⟨d, .binOp .quo xt x y yt, ty, pos, aft, gd⟩ :: rest) acc s k := cV (o_quo hb hm hx hy) hg h
theorem dC (hx : bi s.sl x = aj kd a) (hy : bi s.sl y = aj kd b) (hb : b ≠ 0) (hg : bD ops.toArray s.sl ⟨d, .binOp .rem xt x y yt, ty, pos, aft, gd⟩ true)
    (h : RT X draw ops l e g rest (⟨[], []⟩ :: acc) ⟨bm s.sl d (aj kd (a.tmod b)), s.H, s.N⟩ k) : RT X draw ops l e g (⟨d, .binOp .rem xt x y yt, ty, pos, aft, gd⟩ :: rest) acc s k := cV (o_rem hb hx hy) hg h
theorem rm (hx : bi s.sl x = aj kd a) (hy : bi s.sl y = aj kd b) (hg : bD ops.toArray s.sl ⟨d, .binOp .and xt x y yt, ty, pos, aft, gd⟩ true)
    (h : RT X draw ops l e g rest (⟨[], []⟩ :: acc) ⟨bm s.sl d (aj kd (fG kd a b)), s.H, s.N⟩ k) : RT X draw ops l e g (⟨d, .binOp .and xt x y yt, ty, pos, aft, gd⟩ :: rest) acc s k := cV (o_and hx hy) hg h
theorem oE (m : Int) (hx : bi s.sl x = aj kd a) (hy : bi s.sl y = aj kd' b) (h0 : 0 ≤ b) (hm : a.fdiv (2 ^ (min b.toNat kd.bits)) = m) (hg : bD ops.toArray s.sl ⟨d, .binOp .shr xt x y yt, ty, pos, aft, gd⟩ true)
    (h : RT X draw ops l e g rest (⟨[], []⟩ :: acc) ⟨bm s.sl d (aj kd m), s.H, s.N⟩ k) : RT X draw ops l e g (⟨d, .binOp .shr xt x y yt, ty, pos, aft, gd⟩ :: rest) acc s k := cV (o_shr h0 hm hx hy) hg h
theorem ro {ts : Array TypeId} (hx : bi s.sl x = aj kd a) (hy : bi s.sl y = aj kd b) (hg : bD ops.toArray s.sl ⟨d, .call ⟨.builtin .max, #[x, y], ts⟩, ty, pos, aft, gd⟩ true)
    (h : RT X draw ops l e g rest (⟨[], []⟩ :: acc) ⟨bm s.sl d (aj kd (if a < b then b else a)), s.H, s.N⟩ k) : RT X draw ops l e g (⟨d, .call ⟨.builtin .max, #[x, y], ts⟩, ty, pos, aft, gd⟩ :: rest) acc s k := cV (o_max hx hy) hg h
theorem dT {src dst : TypeId} (hs : (P.underlying src).isSome = true) (hd : P.underlying dst = some (.int kd')) (hx : bi s.sl x = aj kd a) (hn : (decide (kd'.min ≤ kd.min) && decide (kd.max ≤ kd'.max)) = true) (hg : bD ops.toArray s.sl ⟨d, .convert src dst x, ty, pos, aft, gd⟩ true)
    (h : RT X draw ops l e g rest (⟨[], []⟩ :: acc) ⟨bm s.sl d (aj kd' a), s.H, s.N⟩ k) : RT X draw ops l e g (⟨d, .convert src dst x, ty, pos, aft, gd⟩ :: rest) acc s k := cV (Ia hs hd hx (HT hn)) hg h
theorem Bo {src dst : TypeId} (m : Int) (hs : (P.underlying src).isSome = true) (hd : P.underlying dst = some (.int kd')) (hx : bi s.sl x = aj kd a) (hn : kd'.wrap a = m) (hg : bD ops.toArray s.sl ⟨d, .convert src dst x, ty, pos, aft, gd⟩ true)
    (h : RT X draw ops l e g rest (⟨[], []⟩ :: acc) ⟨bm s.sl d (aj kd' m), s.H, s.N⟩ k) : RT X draw ops l e g (⟨d, .convert src dst x, ty, pos, aft, gd⟩ :: rest) acc s k := cV (J4 hs hd hx hn) hg h
theorem r_eqB {b1 b2 : Bool} (hT : P.underlying xt = some .bool) (hx : bi s.sl x = aa b1) (hy : bi s.sl y = aa b2) (hg : bD ops.toArray s.sl ⟨d, .binOp .eql xt x y yt, ty, pos, aft, gd⟩ true)
    (h : RT X draw ops l e g rest (⟨[], []⟩ :: acc) ⟨bm s.sl d (aa (b1 == b2)), s.H, s.N⟩ k) : RT X draw ops l e g (⟨d, .binOp .eql xt x y yt, ty, pos, aft, gd⟩ :: rest) acc s k := cV (o_eqB hT hx hy) hg h
theorem ip {u v : ByteArray} (hx : bi s.sl x = am u) (hy : bi s.sl y = am v) (hg : bD ops.toArray s.sl ⟨d, .binOp .eql xt x y yt, ty, pos, aft, gd⟩ true)
    (h : RT X draw ops l e g rest (⟨[], []⟩ :: acc) ⟨bm s.sl d (aa (decide (u = v))), s.H, s.N⟩ k) : RT X draw ops l e g (⟨d, .binOp .eql xt x y yt, ty, pos, aft, gd⟩ :: rest) acc s k := cV (o_eqS hx hy) hg h
theorem rN {u v : ByteArray} (hx : bi s.sl x = am u) (hy : bi s.sl y = am v) (hm : u.size + v.size ≤ 140737488355328) (hg : bD ops.toArray s.sl ⟨d, .binOp .add xt x y yt, ty, pos, aft, gd⟩ true)
    (h : RT X draw ops l e g rest (⟨[], []⟩ :: acc) ⟨bm s.sl d (am (u ++ v)), s.H, s.N⟩ k) : RT X draw ops l e g (⟨d, .binOp .add xt x y yt, ty, pos, aft, gd⟩ :: rest) acc s k := cV (Gj hm hx hy) hg h
theorem km {u : ByteArray} {j : Int} (hT : P.underlying xt = some .string) (hx : bi s.sl x = am u) (hy : bi s.sl y = aj kd j) (h0 : 0 ≤ j) (h1 : j < (u.size : Int)) (hg : bD ops.toArray s.sl ⟨d, .index xt x y, ty, pos, aft, gd⟩ true)
    (h : RT X draw ops l e g rest (⟨[], []⟩ :: acc) ⟨bm s.sl d (aj .u8 (cq u j)), s.H, s.N⟩ k) : RT X draw ops l e g (⟨d, .index xt x y, ty, pos, aft, gd⟩ :: rest) acc s k := cV (Ic hT hx hy h0 h1) hg h
def qY (lk : Operand → ae) (lo : Option Operand) (l : Int) : Prop := (lo = none ∧ l = 0) ∨ ∃ o, lo = some o ∧ lk o = aj .i64 l
def qX (lk : Operand → ae) (hi : Option Operand) (h len : Int) : Prop := (hi = none ∧ h = len) ∨ ∃ o, hi = some o ∧ lk o = aj .i64 h
theorem jh {lk : Operand → ae} : qY lk none 0 := .inl ⟨rfl, rfl⟩
theorem l5 {lk : Operand → ae} {o : Operand} {l : Int} (h : lk o = aj .i64 l) : qY lk (some o) l := .inr ⟨o, rfl, h⟩
theorem hi_n {lk : Operand → ae} {len : Int} : qX lk none len len := .inl ⟨rfl, rfl⟩
theorem fU {lk : Operand → ae} {o : Operand} {h len : Int} (hh : lk o = aj .i64 h) : qX lk (some o) h len := .inr ⟨o, rfl, hh⟩
theorem kl {α : Type} {T E w : Nat} {cc : α → List ae} {xs : List α} {lo hi : Option Operand} (p q : Int) (hT : dG P T = some (E, w)) (hx : bi s.sl x = AL w cc xs) (hl : qY (bi s.sl) lo p) (hh : qX (bi s.sl) hi q (xs.length : Int)) (h0 : 0 ≤ p) (h1 : p ≤ q) (h2 : q ≤ (xs.length : Int))
    (hg : bD ops.toArray s.sl ⟨d, .slice T x lo hi none, ty, pos, aft, gd⟩ true) (h : RT X draw ops l e g rest (⟨[], []⟩ :: acc) ⟨bm s.sl d (AL w cc (cut xs p q)), s.H, s.N⟩ k) : RT X draw ops l e g (⟨d, .slice T x lo hi none, ty, pos, aft, gd⟩ :: rest) acc s k :=
  cV (o_cut hT hx hl hh h0 h1 h2) hg h
theorem kw {T : Nat} {u : ByteArray} {lo hi : Option Operand} (p q : Int) (hT : P.underlying T = some .string) (hx : bi s.sl x = am u) (hl : qY (bi s.sl) lo p) (hh : qX (bi s.sl) hi q (u.size : Int)) (h0 : 0 ≤ p) (h1 : p ≤ q) (h2 : q ≤ (u.size : Int))
    (hg : bD ops.toArray s.sl ⟨d, .slice T x lo hi none, ty, pos, aft, gd⟩ true) (h : RT X draw ops l e g rest (⟨[], []⟩ :: acc) ⟨bm s.sl d (am (bT u p q)), s.H, s.N⟩ k) : RT X draw ops l e g (⟨d, .slice T x lo hi none, ty, pos, aft, gd⟩ :: rest) acc s k :=
  cV (Gk hT hx hl hh h0 h1 h2) hg h
theorem Bp {α : Type} {cc : α → List ae} {xs : List α} {E w : Nat} (hT : P.underlying xt = some (.slice E)) (hx : bi s.sl x = AL w cc xs) (hy : bi s.sl y = af) (hg : bD ops.toArray s.sl ⟨d, .binOp .eql xt x y yt, ty, pos, aft, gd⟩ true)
    (h : RT X draw ops l e g rest (⟨[], []⟩ :: acc) ⟨bm s.sl d (vm xs.length), s.H, s.N⟩ k) : RT X draw ops l e g (⟨d, .binOp .eql xt x y yt, ty, pos, aft, gd⟩ :: rest) acc s k :=
  cV (Hb (o := x) hT hx hy (by simp [vm])) hg h
theorem fR {α β : Type} {f : FuncId} {cs : List Operand} (caps : List ae) (ga : α → List ae) (rt : β → ae) (gg : α → Option β) (hF : aF P f) (hA : cs.map (bi s.sl) = caps) [hk : cT caps] (hc : ∀ x y, gg x = some y → aB P f (ga x ++ caps) (rt y)) (hg : bD ops.toArray s.sl ⟨d, .makeFunc (.func f) #[] cs.toArray, ty, pos, aft, gd⟩ true)
    (h : RT X draw ops l e g rest (⟨[], []⟩ :: acc) ⟨bm s.sl d (cC P ga rt gg), s.H, s.N⟩ k) : RT X draw ops l e g (⟨d, .makeFunc (.func f) #[] cs.toArray, ty, pos, aft, gd⟩ :: rest) acc s k := by
  obtain ⟨fn, h1, h2, h3⟩ := hF
  exact cV (If hA hk.nk h1 h2 h3 hc) hg h
theorem gp {f : FuncId} {xs : List Operand} {ts : Array TypeId} {args : List ae} {r : ae} (need : List (Nat × bB)) (As : List ae) (hF : aF P f) (hc : aB P f args r) [hs : jg r] (hn : ir s.H need) (hAs : xs.map (bi s.sl) = As) (ha : c9 (hp need) (fun k => bF k (need.map (·.1))) id (fun _ => false) (fun _ => true) As args)
    (hg : bD ops.toArray s.sl ⟨d, .call ⟨.value (.func f), xs.toArray, ts⟩, ty, pos, aft, gd⟩ true) (h : RT X draw ops l e g rest (⟨need.map (·.1), []⟩ :: acc) ⟨bm s.sl d r, s.H, s.N⟩ k) : RT X draw ops l e g (⟨d, .call ⟨.value (.func f), xs.toArray, ts⟩, ty, pos, aft, gd⟩ :: rest) acc s k :=
  eP (N1 := s.N) (Ha hF hc hn.self (hAs ▸ ha) rfl) hg hn.spec iv (Nat.le_refl _) h
theorem gq {f : FuncId} {xs : List Operand} {ts : Array TypeId} {N0 : Nat} {ins outs : List (Nat × bB)} {args : List ae} {r : ae} (F : List Nat) (σ σ' : List (Nat × Nat)) (new : List Nat) (N1 : Nat) (need outs' : List (Nat × bB)) (r' : ae) (As : List ae) (hF : aF P f) (hc : dc P f N0 ins args outs r) (hn : ir s.H need) (hAs : xs.map (bi s.sl) = As)
    (ha : c9 (hp need) (bF · F) (dj σ) (fun _ => false) (fun _ => true) As args) (hin : er (hp need) (bF · F) (dj σ) (fun _ => false) (fun _ => true) ins)
    (ho : er (hp outs) (fun _ => false) (dj σ') (fun _ => false) (fun k => bF k new || (Nat.blt (dj σ' k) N0 && Nat.beq (dj σ (dj σ' k)) k && bF k (need.map (·.1)))) outs')
    (hr : Cv (hp outs) (fun _ => false) (dj σ') (fun _ => false) (fun k => bF k new || (Nat.blt (dj σ' k) N0 && Nat.beq (dj σ (dj σ' k)) k && bF k (need.map (·.1)))) r r') (hnew : (new.all fun k => Nat.ble s.N k && Nat.blt k N1) = true) (hN : Nat.ble s.N N1 = true)
    (hg : bD ops.toArray s.sl ⟨d, .call ⟨.value (.func f), xs.toArray, ts⟩, ty, pos, aft, gd⟩ true)
    (h : RT X draw ops l e g rest (⟨need.map (·.1), ((outs'.map fun (y : Nat × bB) => (y.1, some y.2)) ++ (need.map (·.1)).map fun j => (j, (none : Option bB))).map (·.1)⟩ :: acc) ⟨bm s.sl d r', s.H.upds ((outs'.map fun (y : Nat × bB) => (y.1, some y.2)) ++ (need.map (·.1)).map fun j => (j, (none : Option bB))), N1⟩ k) :
    RT X draw ops l e g (⟨d, .call ⟨.value (.func f), xs.toArray, ts⟩, ty, pos, aft, gd⟩ :: rest) acc s k :=
  eP (N1 := N1) (Bf hF hc hn.self (by rw [List.append_nil]; exact hAs ▸ ha) hin ho hr rfl) hg hn.spec (fun k hk => by
    have := List.all_eq_true.1 hnew k hk
    simp only [Bool.and_eq_true] at this
    exact ⟨Nat.le_of_ble_eq_true this.1, of_decide_eq_true (by simpa [Nat.blt_eq] using this.2)⟩) (Nat.le_of_ble_eq_true hN) h
end
section
variable {P : Program} {fn : Func} {n N0 : Nat} {Y Z V σ : Type} {X : Cx P fn n N0 Y} {e u : Option Z} {g : Z → Option Y} {k : List Item} {s : St} {c : Item}
def k7 (E : σ → Option Z) (g : Z → Option Y) : σ ⊕ Z → Option Y
  | .inl x => (E x).bind g
  | .inr b => g b
theorem J_it {F : σ → Option (σ ⊕ Z)} {body : Code} (S : σ → St) (h : ∀ E : σ → Option Z, (∀ x, J X (E x) g (.inLoop body :: k) (S x)) → ∀ x, J X (F x) (k7 E g) (.code body :: .inLoop body :: k) (S x)) {x0 : σ} (h0 : s = S x0) :
    J X (aE F x0) g (.code (.loop body) :: k) s := by
  have := Er (X := X) (F := F) (G := fun z : Z => some z) (g := g) (body := body) (k := k) (fun x s => s = S x) (fun E hE x s hs => ?_) h0
  · intro y hy
    exact this y (by simpa using hy)
  · subst hs
    intro y hy
    refine h E (fun x => hE x _ rfl) x y ?_
    rw [← hy]
    congr 1
    funext z
    cases z <;> rfl
theorem bt {E : σ → Option Z} {x : σ} (h : J X (E x) g k s) : J X (some (.inl x)) (k7 E g) k s := h
theorem du {E : σ → Option Z} (h : J X u g k s) : J X (u.map .inr) (k7 E g) k s := by
  intro y hy
  refine h y ?_
  cases u with
  | none => exact hy
  | some z => exact hy
theorem bO {E : σ → Option Z} {z : Z} (h : J X (some z) g k s) : J X (some (.inr z)) (k7 E g) k s := h
theorem C7 {o : Operand} {x y : Code} {m : Nat} (hc : bi s.sl o = vm m) (ht : m = 0 → J X e g (.code x :: k) s) (hf : J X e g (.code y :: k) s) : J X e g (.code (.cond o x y) :: k) s := by
  intro r hr η a hrel
  have h1 := l8 (a := a) hrel.slots o
  rw [hc] at h1
  obtain ⟨b, h2, h3⟩ := h1
  cases b with
  | true => exact (ht (h3 rfl) r hr η a hrel).head fun _ _ => step_cond h2
  | false => exact (hf r hr η a hrel).head fun _ _ => step_cond h2
theorem Hu {σ β : Type} {F : σ → Option (σ ⊕ β)} {x : σ} {u : Option β} (h : F x = u.map .inr) : aE F x = u := by
  cases u with
  | some b => exact kI h
  | none =>
    cases hy : aE F x with
    | none => rfl
    | some b =>
      obtain ⟨n, hn⟩ := jE hy
      cases n with
      | zero => simp [ew] at hn
      | succ n => simp [ew, h] at hn
end
end Go.Proofs.YtngimdmkomkeoaaGreat.K
