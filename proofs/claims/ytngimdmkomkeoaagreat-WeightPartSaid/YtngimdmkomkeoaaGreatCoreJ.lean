import Derived.Test.YtngimdmkomkeoaaGreatCoreI
set_option linter.unusedVariables false
set_option linter.unusedSimpArgs false
namespace Go.Proofs.YtngimdmkomkeoaaGreat.K
open Go.RowKit
def hp : List (Nat × bB) → cz
  | [], _ => none
  | (i, x) :: r, k => bif Nat.beq k i then some x else hp r k
theorem eI {L : List (Nat × bB)} {k : Nat} {x : bB} (h : hp L k = some x) : (k, x) ∈ L := by
  induction L with
  | nil => cases h
  | cons y r ih =>
    obtain ⟨i, y⟩ := y
    simp only [hp] at h
    cases hb : Nat.beq k i
    · rw [hb] at h; exact List.mem_cons_of_mem _ (ih h)
    · rw [hb] at h
      have : k = i := Nat.eq_of_beq_eq_true hb
      subst this; cases h; simp
def dj : List (Nat × Nat) → Nat → Nat
  | [], k => k
  | (i, j) :: r, k => bif Nat.beq k i then j else dj r k
def eE (H : cz) (F : Nat → Bool) (σ : Nat → Nat) (G : Nat → Bool) (η : bA) : bA := ⟨η.w, fun b => η.I b ∨ ∃ k x, F k = true ∧ H k = some x ∧ c8 (η.ρ k) = some b, fun k => bif G k then .slice none 0 0 else η.ρ (σ k)⟩
structure Cv (H : cz) (F : Nat → Bool) (σ : Nat → Nat) (G Q : Nat → Bool) (A B : ae) : Prop where
  p : ∀ c η, bZ c η H → ∀ v, A.p η v → B.p (eE H F σ G η) v
  keys : ∀ k, B.keys k → Q k = true
inductive c9 (H : cz) (F : Nat → Bool) (σ : Nat → Nat) (G Q : Nat → Bool) : List ae → List ae → Prop
  | nil : c9 H F σ G Q [] []
  | cons {A B : ae} {As Bs : List ae} (h : Cv H F σ G Q A B) (t : c9 H F σ G Q As Bs) : c9 H F σ G Q (A :: As) (B :: Bs)
section
variable {H : cz} {F : Nat → Bool} {σ : Nat → Nat} {G Q : Nat → Bool}
theorem c9.all2 {As Bs : List ae} (h : c9 H F σ G Q As Bs) {c : cS} {η : bA} (hH : bZ c η H) : ∀ {vs : List Value}, bw η As vs → bw (eE H F σ G η) Bs vs := by
  induction h with
  | nil => intro vs h; cases h; exact .nil
  | cons h _ ih => intro vs hv; cases hv with | cons h1 h2 => exact .cons (h.p _ _ hH _ h1) (ih h2)
theorem c9.keys {As Bs : List ae} (h : c9 H F σ G Q As Bs) : ∀ k, d7 Bs k → Q k = true := by
  induction h with
  | nil => intro k hk; exact absurd hk (gu k)
  | @cons A B As Bs h _ ih =>
    intro k ⟨C, hC, hk⟩
    rcases List.mem_cons.1 hC with rfl | hC
    · exact h.keys k hk
    · exact ih k ⟨C, hC, hk⟩
theorem c9.length {As Bs : List ae} (h : c9 H F σ G Q As Bs) : As.length = Bs.length := by
  induction h with
  | nil => rfl
  | cons _ _ ih => simp [ih]
class NK (A : ae) : Prop where
  nk : ∀ k, ¬ A.keys k
class cT (As : List ae) : Prop where
  nk : ∀ k, ¬ d7 As k
instance : NK fA := ⟨fun _ h => h⟩
instance {k : IntKind} {n : Int} : NK (aj k n) := ⟨fun _ h => h⟩
instance {b : Bool} : NK (aa b) := ⟨fun _ h => h⟩
instance {s : ByteArray} : NK (am s) := ⟨fun _ h => h⟩
instance {v : Value} : NK (fm v) := ⟨fun _ h => h⟩
instance {As : List ae} [h : cT As] : NK (ac As) := ⟨h.nk⟩
instance {As : List ae} [h : cT As] : NK (bk As) := ⟨h.nk⟩
instance {As : List ae} [h : cT As] : NK (ap As) := ⟨h.nk⟩
instance {f : FuncId} {As : List ae} [h : cT As] : NK (bj f As) := ⟨h.nk⟩
instance {α β : Type} {P : Program} {ga : α → List ae} {rt : β → ae} {g : α → Option β} : NK (cC P ga rt g) := ⟨fun _ h => h⟩
instance : cT [] := ⟨gu⟩
instance {A : ae} {As : List ae} [h : NK A] [h' : cT As] : cT (A :: As) := ⟨fun k ⟨B, hB, hk⟩ => by
  rcases List.mem_cons.1 hB with rfl | hB
  · exact h.nk k hk
  · exact h'.nk k ⟨B, hB, hk⟩⟩
class ah {α : Type} (cc : α → List ae) : Prop where
  nk : ∀ x, cT (cc x)
instance {α : Type} {cc : α → List ae} {x : α} [h : ah cc] : cT (cc x) := h.nk x
theorem ah.flat {α : Type} (cc : α → List ae) [h : ah cc] (xs : List α) : ∀ k, ¬ d7 (xs.map cc).flatten k := fun k ⟨A, hA, hk⟩ => by
  obtain ⟨r, hr, hA⟩ := List.mem_flatten.1 hA
  obtain ⟨x, _, rfl⟩ := List.mem_map.1 hr
  exact (h.nk x).nk k ⟨A, hA, hk⟩
instance {α : Type} {n : Nat} {cc : α → List ae} {xs : List α} [h : ah cc] : NK (dR n (xs.map cc)) := ⟨ah.flat cc xs⟩
class dm {α : Type} (cc : α → List ae) : Prop where
  one : ∀ x, cQ (cc x)
instance {α : Type} {cc : α → List ae} {x : α} [h : dm cc] : cQ (cc x) := h.one x
theorem dm.flat {α : Type} (cc : α → List ae) [h : dm cc] (xs : List α) : cQ (xs.map cc).flatten := ⟨fun A hA => by
  obtain ⟨r, hr, hA⟩ := List.mem_flatten.1 hA
  obtain ⟨x, _, rfl⟩ := List.mem_map.1 hr
  exact (h.one x).one A hA⟩
theorem Cv.same {A : ae} [h : NK A] : Cv H F σ G Q A A := ⟨fun c η _ v hv => A.mono (η := η) ⟨fun b hb => Or.inl hb, fun _ _ => rfl, fun k hk => absurd hk (h.nk k)⟩ hv, fun k hk => absurd hk (h.nk k)⟩
theorem Cv.top {A : ae} : Cv H F σ G Q A fA := ⟨fun _ _ _ _ _ => trivial, fun k hk => hk.elim⟩
theorem ku {k j : Nat} {η : bA} (hG : G k = false) (e : σ k = j) : (eE H F σ G η).ρ k = η.ρ j := by show (bif G k then _ else _) = _; rw [hG, e]; rfl
theorem Cv.obj {k j : Nat} (hG : G k = false) (e : σ k = j) (hk : Q k = true) : Cv H F σ G Q (a8 j) (a8 k) := ⟨fun c η _ v hv => ⟨by rw [ku hG e]; exact hv.1, hv.2⟩, fun i hi => by have : i = k := hi; subst this; exact hk⟩
theorem Cv.agg {As Bs : List ae} (h : c9 H F σ G Q As Bs) : Cv H F σ G Q (ac As) (ac Bs) := ⟨fun c η hH v ⟨vs, e, hv⟩ => ⟨vs, e, h.all2 hH hv⟩, h.keys⟩
theorem Cv.tup {As Bs : List ae} (h : c9 H F σ G Q As Bs) : Cv H F σ G Q (bk As) (bk Bs) := ⟨fun c η hH v ⟨vs, e, hv⟩ => ⟨vs, e, h.all2 hH hv⟩, h.keys⟩
theorem wC (n : Nat) (η : bA) : (dR n []).p η (.slice none 0 0) := ⟨none, 0, rfl, Nat.le_refl _, Nat.zero_le _, fun r hr => by simp at hr, .inl rfl⟩
theorem Cv.nil {n : Nat} : Cv H F σ G Q af (dR n []) := ⟨fun c η _ v hv => by have : v = .slice none 0 0 := hv; subst this; exact wC n _, fun k hk => absurd hk (gu k)⟩
theorem Cv.nilobj {k : Nat} (hG : G k = true) (hk : Q k = true) : Cv H F σ G Q af (a8 k) := ⟨fun c η _ v hv => by
  have : v = .slice none 0 0 := hv
  subst this
  exact ⟨by show _ = (bif G k then _ else _); rw [hG]; rfl, rfl⟩, fun i hi => by have : i = k := hi; subst this; exact hk⟩
theorem Cv.frow {j E n : Nat} {rows : List (List ae)} (hF : F j = true) (hH : H j = some (.row E n rows)) (hk : ∀ k, ¬ d7 rows.flatten k) : Cv H F σ G Q (a8 j) (dR n rows) := by
  refine ⟨fun c η h v hv => ?_, fun k h => absurd h (hk k)⟩
  obtain ⟨hr, xs, hown, hxs⟩ := h.holds j _ hH
  rcases hown.2 with ⟨e, h0⟩ | ⟨g, cap, cur, e, _, h1, h2, h3, h4, h5⟩
  · exact ⟨none, 0, by rw [hv.1, e, h0], by omega, Nat.zero_le _, hr, .inl h0⟩
  · refine ⟨some ⟨g, 0, none⟩, cap, by rw [hv.1, e], h2, h3, hr, .inr ⟨g, 0, rfl, Or.inr ⟨j, _, hF, hH, by rw [e]; rfl⟩, xs, hxs.mono ⟨fun b hb => Or.inl hb, fun _ _ => rfl, fun k hk' => absurd hk' (hk k)⟩, fun i u hi => ?_⟩⟩
    show η.w.cell? _ = _
    rw [Nat.zero_add, cell_of_row _ _ _ _ _ _ h1]
    rw [← h5, List.getElem?_take] at hi
    split at hi
    · simpa using hi
    · cases hi
theorem Cv.fboxAt {A : ae} {j E o : Nat} {cs cs' : List ae} (hA : fH A j o) (hF : F j = true) (hH : H j = some (.box E cs)) (hc : c9 H F σ G Q cs cs') : Cv H F σ G Q A (ap (cs'.drop o)) := by
  refine ⟨fun c η h v hv => ?_, fun k hk => hc.keys k (jJ (fun A hA => List.mem_of_mem_drop hA) hk)⟩
  obtain ⟨b, arr, e1, e2, e3, e4⟩ := hA.spec hv (h.holds j _ hH)
  refine ⟨b, 0 + o, by rw [e2, Nat.zero_add], gJ.drop (o := 0) ⟨Or.inr ⟨j, _, hF, hH, by rw [e1]; rfl⟩, arr.toList, hc.all2 h e4, fun i u hi => ?_⟩ o⟩
  show η.w.cell? _ = _
  rw [Nat.zero_add, cell_of_row _ _ _ _ _ _ e3]
  simpa using hi
theorem Cv.fbox {j E : Nat} {cs cs' : List ae} (hF : F j = true) (hH : H j = some (.box E cs)) (hc : c9 H F σ G Q cs cs') : Cv H F σ G Q (a8 j) (ap cs') := by
  have := Cv.fboxAt (o := 0) .obj hF hH hc
  simpa using this
inductive ii (H : cz) (F : Nat → Bool) (σ : Nat → Nat) (G Q : Nat → Bool) : bB → bB → Prop
  | box {E : TypeId} {cs cs' : List ae} (h : c9 H F σ G Q cs cs') : ii H F σ G Q (.box E cs) (.box E cs')
  | row {E : TypeId} {n : Nat} {rows : List (List ae)} (hk : ∀ k, ¬ d7 rows.flatten k) : ii H F σ G Q (.row E n rows) (.row E n rows)
theorem ii.holds {x x' : bB} (h : ii H F σ G Q x x') {c : cS} {η : bA} (hH : bZ c η H) {v : Value} (hv : Holds η v x) : Holds (eE H F σ G η) v x' := by
  cases h with
  | box h => obtain ⟨b, arr, e, h1, h2⟩ := hv; exact ⟨b, arr, e, h1, h.all2 hH h2⟩
  | row hk => obtain ⟨hr, xs, hown, hxs⟩ := hv; exact ⟨hr, xs, hown, hxs.mono ⟨fun b hb => Or.inl hb, fun _ _ => rfl, fun k hk' => absurd hk' (hk k)⟩⟩
theorem ii.keys {x x' : bB} (h : ii H F σ G Q x x') : ∀ k, x'.keys k → Q k = true := by
  cases h with
  | box h => exact h.keys
  | row hk => exact fun k h => absurd h (hk k)
inductive er (H : cz) (F : Nat → Bool) (σ : Nat → Nat) (G Q : Nat → Bool) : List (Nat × bB) → Prop
  | nil : er H F σ G Q []
  | cons {k j : Nat} {x x' : bB} {r : List (Nat × bB)} (hG : G k = false) (e : σ k = j) (h : H j = some x) (hF : F j = false) (hc : ii H F σ G Q x x') (hk : Q k = true) (hd : (r.all fun y => G y.1 || !(Nat.beq (σ y.1) j)) = true) (t : er H F σ G Q r) : er H F σ G Q ((k, x') :: r)
  | new {k E n : Nat} {r : List (Nat × bB)} (hG : G k = true) (hk : Q k = true) (t : er H F σ G Q r) : er H F σ G Q ((k, .row E n []) :: r)
theorem er.mem {L : List (Nat × bB)} (h : er H F σ G Q L) : ∀ {k : Nat} {x' : bB}, (k, x') ∈ L → Q k = true ∧ ((G k = true ∧ ∃ E n, x' = .row E n []) ∨ (G k = false ∧ ∃ x, H (σ k) = some x ∧ F (σ k) = false ∧ ii H F σ G Q x x')) := by
  induction h with
  | nil => intro k x' h; simp at h
  | cons hG e h hF hc hk _ _ ih =>
    intro k' y hm
    rcases List.mem_cons.1 hm with h' | h'
    · cases h'; subst e; exact ⟨hk, .inr ⟨hG, _, h, hF, hc⟩⟩
    · exact ih h'
  | new hG hk _ ih =>
    intro k' y hm
    rcases List.mem_cons.1 hm with h' | h'
    · cases h'; exact ⟨hk, .inl ⟨hG, _, _, rfl⟩⟩
    · exact ih h'
theorem er.inj {L : List (Nat × bB)} (h : er H F σ G Q L) : ∀ {k k' : Nat} {x x' : bB}, (k, x) ∈ L → (k', x') ∈ L → G k = false → G k' = false → σ k = σ k' → k = k' := by
  induction h with
  | nil => intro k k' x x' h; simp at h
  | @cons k0 j y y' r hG e h hF hc hk hd _ ih =>
    intro k k' x x' h1 h2 g1 g2 he
    have nomem : ∀ {k : Nat} {x : bB}, (k, x) ∈ r → G k = false → σ k ≠ j := fun {k x} hm g e' => by
      have := List.all_eq_true.1 hd _ hm
      simp [g, e'] at this
    rcases List.mem_cons.1 h1 with h1 | h1 <;> rcases List.mem_cons.1 h2 with h2 | h2
    · cases h1; cases h2; rfl
    · cases h1; exact absurd (by rw [← he, e]) (nomem h2 g2)
    · cases h2; exact absurd (by rw [he, e]) (nomem h1 g1)
    · exact ih h1 h2 g1 g2 he
  | new hG hk _ ih =>
    intro k k' x x' h1 h2 g1 g2 he
    rcases List.mem_cons.1 h1 with h1 | h1
    · cases h1; rw [hG] at g1; cases g1
    rcases List.mem_cons.1 h2 with h2 | h2
    · cases h2; rw [hG] at g2; cases g2
    · exact ih h1 h2 g1 g2 he
theorem bZ.cv {L : List (Nat × bB)} (h : er H F σ G Q L) {c : cS} {η : bA} (hH : bZ c η H) : bZ c (eE H F σ G η) (hp L) := by
  have rG : ∀ {k}, G k = true → (eE H F σ G η).ρ k = .slice none 0 0 := fun {k} hG => by show (bif G k then _ else _) = _; rw [hG]; rfl
  have old : ∀ {k x b}, hp L k = some x → c8 ((eE H F σ G η).ρ k) = some b → ∃ y, G k = false ∧ H (σ k) = some y ∧ F (σ k) = false ∧ ii H F σ G Q y x ∧ c8 (η.ρ (σ k)) = some b := fun {k x b} hk hb => by
    obtain ⟨_, ⟨hG, _⟩ | ⟨hG, y, e1, e2, e3⟩⟩ := h.mem (eI hk)
    · rw [rG hG] at hb; cases hb
    · rw [ku hG rfl] at hb; exact ⟨y, hG, e1, e2, e3, hb⟩
  refine ⟨fun k x hk => ?_, fun k x b hk hb => ?_, fun k k' x x' b h1 h2 b1 b2 => ?_, fun b hb => ?_, fun b hb => ?_, fun b hb => Or.inl (hH.old b hb), hH.size, hH.keep, hH.os, hH.tape, hH.output⟩
  · obtain ⟨_, ⟨hG, E, n, rfl⟩ | ⟨hG, y, e1, _, e3⟩⟩ := h.mem (eI hk)
    · rw [rG hG]; exact ⟨fun r hr => by simp at hr, [], World.ownsRow_nil _ _ _ _, .nil⟩
    · rw [ku hG rfl]; exact e3.holds hH (hH.holds _ _ e1)
  · obtain ⟨y, hG, e1, e2, e3, hb⟩ := old hk hb
    obtain ⟨g1, g2, g3⟩ := hH.own _ _ b e1 hb
    refine ⟨fun hI => ?_, g2, g3⟩
    rcases hI with hI | ⟨k', x', f1, f2, f3⟩
    · exact g1 hI
    · have := hH.apart _ _ _ _ b f2 e1 f3 hb
      rw [this, e2] at f1; cases f1
  · obtain ⟨y, hG, e1, _, _, b1⟩ := old h1 b1
    obtain ⟨y', hG', e1', _, _, b2⟩ := old h2 b2
    exact h.inj (eI h1) (eI h2) hG hG' (hH.apart _ _ _ _ b e1 e1' b1 b2)
  · rcases hb with hb | ⟨k, x, _, f2, f3⟩
    · exact hH.lt b hb
    · exact (hH.own k x b f2 f3).2.1
  · rcases hb with hb | ⟨k, x, _, f2, f3⟩
    · exact hH.new b hb
    · exact .inr (hH.own k x b f2 f3).2.2
inductive eW (H : cz) (F : Nat → Bool) (σ : Nat → Nat) (G Q : Nat → Bool) (sl : Nat → ae) : List (Nat × ae) → Prop
  | nil : eW H F σ G Q sl []
  | cons {i : Nat} {A B : ae} {r : List (Nat × ae)} (h : sl i = A) (hc : Cv H F σ G Q A B) (t : eW H F σ G Q sl r) : eW H F σ G Q sl ((i, B) :: r)
theorem eW.spec {sl : Nat → ae} {L : List (Nat × ae)} (h : eW H F σ G Q sl L) : ∀ t, Cv H F σ G Q (sl t) (fr L t) := by
  induction h with
  | nil => intro t; exact .top
  | @cons i A B r h hc _ ih =>
    intro t
    simp only [fr]
    cases hb : Nat.beq t i
    · exact ih t
    · have : t = i := Nat.eq_of_beq_eq_true hb
      subst this; rw [h]; exact hc
end
theorem gS {P : Program} {fn : Func} {n N0 : Nat} {Y Z : Type} {X : Cx P fn n N0 Y} {e : Option Z} {g : Z → Option Y} {k : List Item} {s : St} (F : List Nat) (σ : List (Nat × Nat)) (G : List Nat) (N : Nat) (L : List (Nat × ae)) (Hs : List (Nat × bB))
    (hs : eW s.H (bF · F) (dj σ) (bF · G) (Nat.blt · N) s.sl L) (hh : er s.H (bF · F) (dj σ) (bF · G) (Nat.blt · N) Hs) (hN : Nat.ble N0 N = true) (hσ : ((List.range N0).all fun k => Nat.beq (dj σ k) k && !(bF k G)) = true) (h : J X e g k ⟨fr L, hp Hs, N⟩) : J X e g k s := by
  intro y hy η a hr
  have lt : ∀ {k}, Nat.blt k N = true → k < N := fun hk => of_decide_eq_true (by simpa [Nat.blt_eq] using hk)
  have h1 : fy X.c ⟨fr L, hp Hs, N⟩ (eE s.H (bF · F) (dj σ) (bF · G) η) a := by
    refine ⟨fun t => (hs.spec t).p _ _ hr.heap _ (hr.slots t), hr.heap.cv hh, ⟨fun t k hk => lt ((hs.spec t).keys k hk), fun k x hk => ?_, fun k x j hk hj => ?_⟩, hr.defers, hr.size, fun k hk => ?_, Nat.le_of_ble_eq_true hN⟩
    · exact lt (hh.mem (eI hk)).1
    · obtain ⟨_, ⟨_, E, n, rfl⟩ | ⟨_, y, _, _, h3⟩⟩ := hh.mem (eI hk)
      · exact absurd hj (gu j)
      · exact lt (h3.keys j hj)
    · have h2 := List.all_eq_true.1 hσ k (List.mem_range.2 hk)
      simp only [Bool.and_eq_true, Bool.not_eq_true'] at h2
      rw [ku h2.2 (Nat.eq_of_beq_eq_true h2.1)]; exact hr.ref k hk
  exact h y hy (eE s.H (bF · F) (dj σ) (bF · G) η) a h1
theorem dg {P : Program} {fn : Func} {n N0 : Nat} {Y Z : Type} {X : Cx P fn n N0 Y} {e : Option Z} {g : Z → Option Y} {k : List Item} {s : St} {A : ae} {rr : Y → ae} (hΨ : ∀ z η v H, bZ X.c η H → (rr z).p η v → X.Ψ z η v) (hres : jo X s A)
    (hA : ∀ y, e.bind g = some y → Cv s.H (fun _ => true) id (fun _ => false) (fun _ => true) A (rr y)) : J X e g (.code .ret :: k) s := by
  intro y hy η a hr
  obtain ⟨v, h1, h2⟩ := hres η a hr
  exact eN.ret X.hf h1 hr.defers ⟨eE s.H (fun _ => true) id (fun _ => false) η, rfl, hΨ y _ v (hp []) (hr.heap.cv (Q := fun _ => true) .nil) ((hA y hy).p _ _ hr.heap _ h2)⟩
inductive RV (P : Program) (s : St) : ResultVar → ae → Prop
  | tmp {t : Nat} {A : ae} (h : s.sl t = A) : RV P s (.tmp t) A
  | boxA {t T m K E : Nat} {cs : List ae} (hT : dz P T = some m) (h : s.sl t = a8 K) (hH : s.H K = some (.box E cs)) (hm : cs.length = m) : RV P s (.cell t T) (ac cs)
  | boxS {t T K E : Nat} {A : ae} (hT : dD P T = true) (h : s.sl t = a8 K) (hH : s.H K = some (.box E [A])) : RV P s (.cell t T) A
def oF (tmps : Array Value) : ResultVar → Sem Value
  | .tmp t => pure (tmps.getD t undef)
  | .cell a t => do loadVar t (← asAddr (tmps.getD a undef))
theorem xe (fn : Func) (tmps : Array Value) : results fn tmps = (fn.results.mapM (oF tmps) >>= fun vs => pure (if h : vs.size = 1 then vs[0] else .tuple vs)) := rfl
theorem RV.run {P : Program} {s : St} {rv : ResultVar} {A : ae} (h : RV P s rv A) {c : cS} {η : bA} {a : Act} (hr : fy c s η a) : ∃ v, (oF a.tmps rv).run P η.w = .ok v η.w ∧ A.p η v := by
  cases h with
  | @tmp t _ h => exact ⟨_, rfl, h ▸ hr.slots t⟩
  | @boxA t T m K E cs hT h hH hm =>
    have hv := hr.slots t
    rw [h] at hv
    obtain ⟨b, arr, e1, e2, e3, e4⟩ := fH.obj.spec hv (hr.heap.holds K _ hH)
    have hl := e4.length
    refine ⟨.agg arr.toList.toArray, ?_, arr, by simp, e4⟩
    have := uo (P := P) (b := b) (o := 0) (w := η.w) (us := arr.toList) hT (by omega) (fun j u hj => by rw [Nat.zero_add, cell_of_row _ _ _ _ _ _ e3]; simpa using hj)
    simp only [oF, e2, asAddr, Sem.run_bind, Sem.run_pure, Result.andThen_ok, this]
  | @boxS t T K E A hT h hH =>
    have hv := hr.slots t
    rw [h] at hv
    obtain ⟨b, arr, e1, e2, e3, e4⟩ := fH.obj.spec hv (hr.heap.holds K _ hH)
    obtain ⟨u, hu, hp⟩ := e4.get 0 A rfl
    have hc : η.w.cell? ⟨b, 0, none⟩ = some u := by rw [cell_of_row _ _ _ _ _ _ e3]; simpa using hu
    exact ⟨u, by simp only [oF, e2, asAddr, Sem.run_bind, Sem.run_pure, Result.andThen_ok, uD hT hc], hp⟩
inductive RVs (P : Program) (s : St) : List ResultVar → List ae → Prop
  | nil : RVs P s [] []
  | cons {rv : ResultVar} {A : ae} {r : List ResultVar} {As : List ae} (h : RV P s rv A) (t : RVs P s r As) : RVs P s (rv :: r) (A :: As)
theorem RVs.run {P : Program} {s : St} {l : List ResultVar} {As : List ae} (h : RVs P s l As) {c : cS} {η : bA} {a : Act} (hr : fy c s η a) :
    ∃ vs, (l.mapM (oF a.tmps)).run P η.w = .ok vs η.w ∧ bw η As vs ∧ vs.length = l.length := by
  induction h with
  | nil => exact ⟨[], rfl, .nil, rfl⟩
  | @cons rv A r As h _ ih =>
    obtain ⟨v, h1, h2⟩ := h.run hr
    obtain ⟨vs, h3, h4, h5⟩ := ih
    refine ⟨v :: vs, ?_, .cons h2 h4, by simp [h5]⟩
    rw [List.mapM_cons]
    simp only [Sem.run_bind, h1, Result.andThen_ok, h3, Sem.run_pure]
theorem bG {P : Program} {fn : Func} {n N0 : Nat} {Y : Type} {X : Cx P fn n N0 Y} {s : St} {l : List ResultVar} {As : List ae} (h : fn.results = l.toArray) (hl : Nat.blt 1 l.length = true) (hr : RVs P s l As) : jo X s (bk As) := by
  show ∀ η a, fy X.c s η a → ∃ v, (results fn a.tmps).run P η.w = .ok v η.w ∧ (bk As).p η v
  intro η a hrel
  obtain ⟨vs, h1, h2, h3⟩ := hr.run hrel
  have hne : ¬ vs.toArray.size = 1 := by have := of_decide_eq_true (p := 1 < l.length) (by simpa [Nat.blt_eq] using hl); simp; omega
  refine ⟨.tuple vs.toArray, ?_, _, rfl, by simpa using h2⟩
  rw [xe, h, Array.mapM_eq_mapM_toList]
  simp only [Sem.run_bind, Sem.run_map, h1, Result.andThen_ok, Sem.run_pure]
  rw [dif_neg hne]
theorem d8 {P : Program} {fn : Func} {n N0 : Nat} {Y : Type} {X : Cx P fn n N0 Y} {s : St} {rv : ResultVar} {A : ae} (h : fn.results = #[rv]) (hr : RV P s rv A) : jo X s A := by
  show ∀ η a, fy X.c s η a → ∃ v, (results fn a.tmps).run P η.w = .ok v η.w ∧ A.p η v
  intro η a hrel
  obtain ⟨v, h1, h2⟩ := hr.run hrel
  refine ⟨v, ?_, h2⟩
  rw [xe, h, Array.mapM_eq_mapM_toList]
  simp [h1]
end Go.Proofs.YtngimdmkomkeoaaGreat.K
