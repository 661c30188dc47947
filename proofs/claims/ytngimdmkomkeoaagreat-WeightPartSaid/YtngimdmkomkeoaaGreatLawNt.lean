import Derived.Test.YtngimdmkomkeoaaGreatLawN
set_option linter.unusedVariables false
namespace Go.Proofs.YtngimdmkomkeoaaGreat.K
open Go.RowKit Go.Proofs
class fN (β : Type) where
  ok : β → Prop
instance : fN Int := ⟨fun c => ¬ c = 10⟩
instance {σ β : Type} [fN β] : fN (σ ⊕ β) := ⟨fun r => ∀ b, r = .inr b → fN.ok b⟩
instance {α β : Type} [fN β] : fN (α × β) := ⟨fun p => fN.ok p.2⟩
def NT {β : Type} [fN β] (u : Option β) : Prop := ∀ c, u = some c → fN.ok c
section
variable {α β σ : Type} [fN β]
theorem cU : NT (none : Option β) := fun c h => by cases h
theorem bp {b : β} (h : fN.ok b) : NT (some b) := fun c e => by cases e; exact h
theorem cW {s : σ} : NT (some (.inl s : σ ⊕ β)) := fun c e => by cases e; exact fun b h => by cases h
theorem bo {b : β} (h : fN.ok b) : NT (some (.inr b : σ ⊕ β)) := fun c e => by cases e; exact fun b' h' => by cases h'; exact h
theorem cX {p : Prop} [Decidable p] {u v : Option β} (h : NT u) (k : NT v) : NT (if p then u else v) := by
  split
  · exact h
  · exact k
theorem cZ {u : Option α} {g : α → Option β} (h : ∀ a, NT (g a)) : NT (u.bind g) := fun c e => by
  cases u with
  | none => cases e
  | some a => exact h a c e
theorem dy {γ : Type} [fN γ] {u : Option γ} {g : γ → Option β} (hu : NT u) (h : ∀ a, fN.ok a → NT (g a)) : NT (u.bind g) := fun c e => by
  cases u with
  | none => cases e
  | some a => exact h a (hu a rfl) c e
theorem cY {u : Option β} (h : NT u) : NT (u.map (.inr : β → σ ⊕ β)) := fun c e => by
  cases u with
  | none => cases e
  | some a => cases e; exact fun b h' => by cases h'; exact h a rfl
theorem eT {F : σ → Option (σ ⊕ β)} (h : ∀ s, NT (F s)) (s : σ) : NT (aE F s) := fun c e =>
  C6 (F := F) (fun _ => True) (fun b => fN.ok b) (fun s _ => ⟨fun _ _ => trivial, fun b hb => h s _ hb b rfl⟩) trivial e
end
theorem H2 {t0 : List ByteArray} {x : Int} : NT (nI t0 x) := by
  unfold nI
  repeat (first | exact cU | exact cW | exact bp (show ¬ ((_ : Int) = 10) by decide) | exact bo (show ¬ ((_ : Int) = 10) by decide) | exact bp (by assumption) | exact bo (by assumption) | refine cX ?_ ?_ | refine cY ?_ | refine cZ fun b => ?_)
theorem Dy {t0 : List ByteArray} : NT (j7 t0) := by
  unfold j7
  repeat (first | exact cU | exact cW | exact bp (show ¬ ((_ : Int) = 10) by decide) | exact bo (show ¬ ((_ : Int) = 10) by decide) | exact bp (by assumption) | exact bo (by assumption) | refine cX ?_ ?_ | refine cY ?_ | exact eT (fun x => H2) _ | refine cZ fun b => ?_)
theorem E0 {a : aW} {t1 : List aW} : NT (jR a t1) := by
  unfold jR od qM qN
  repeat (first | exact cU | exact cW | exact Dy | exact bp (show ¬ ((_ : Int) = 10) by decide) | exact bo (show ¬ ((_ : Int) = 10) by decide) | exact bp (by assumption) | exact bo (by assumption) | refine cX ?_ ?_ | refine cY ?_ | refine dy Dy fun b hb => ?_ | refine cZ fun b => ?_)
theorem JU {b : List aW} {x : Int} : NT (qg b x) := by
  unfold qg
  repeat (first | exact cU | exact cW | exact E0 | exact bp (show ¬ ((_ : Int) = 10) by decide) | exact bo (show ¬ ((_ : Int) = 10) by decide) | exact bp (by assumption) | exact bo (by assumption) | refine cX ?_ ?_ | refine cY ?_ | refine dy E0 fun b hb => ?_ | refine cZ fun b => ?_)
theorem Dj {T : aq} {i : Int} : NT (nf T i) := by
  unfold nf
  repeat (first | exact cU | exact cW | exact bp (show ¬ ((_ : Int) = 10) by decide) | exact bo (show ¬ ((_ : Int) = 10) by decide) | exact bp (by assumption) | exact bo (by assumption) | refine cX ?_ ?_ | refine cY ?_ | exact eT (fun x => JU) _ | refine cZ fun b => ?_)
theorem Di {T : aq} {i : Int} : NT (nc T i) := by
  unfold nc qd qe qf
  repeat (first | exact cU | exact cW | exact bp (show ¬ ((_ : Int) = 10) by decide) | exact bo (show ¬ ((_ : Int) = 10) by decide) | exact bp (by assumption) | exact bo (by assumption) | refine cX ?_ ?_ | refine cY ?_ | refine cZ fun b => ?_)
theorem H3 {T : aq} {x : Int} : NT (qt T x) := by
  unfold qt
  repeat (first | exact cU | exact cW | exact Di | exact bp (show ¬ ((_ : Int) = 10) by decide) | exact bo (show ¬ ((_ : Int) = 10) by decide) | exact bp (show ¬ ((0 : Int) = 10) by decide) | exact bo (show ¬ ((0 : Int) = 10) by decide) | exact bp (by assumption) | exact bo (by assumption) | refine cX ?_ ?_ | refine cY ?_ | refine dy Di fun b hb => ?_ | refine cZ fun b => ?_)
theorem Gg {T : aq} {x : Int} : NT (qc T x) := by
  unfold qc
  repeat (first | exact cU | exact cW | exact Dj | exact bp (show ¬ ((_ : Int) = 10) by decide) | exact bo (show ¬ ((_ : Int) = 10) by decide) | exact bp (show ¬ ((0 : Int) = 10) by decide) | exact bo (show ¬ ((0 : Int) = 10) by decide) | exact bp (by assumption) | exact bo (by assumption) | refine cX ?_ ?_ | refine cY ?_ | refine dy Dj fun b hb => ?_ | exact eT (fun x => H3) _ | refine cZ fun b => ?_)
theorem nC {T : aq} : NT (gO T) := by
  unfold gO
  repeat (first | exact cU | exact cW | exact bp (show ¬ ((_ : Int) = 10) by decide) | exact bo (show ¬ ((_ : Int) = 10) by decide) | exact bp (show ¬ ((0 : Int) = 10) by decide) | exact bo (show ¬ ((0 : Int) = 10) by decide) | exact bp (by assumption) | exact bo (by assumption) | refine cX ?_ ?_ | refine cY ?_ | exact eT (fun x => Gg) _ | refine cZ fun b => ?_)
theorem kR {g : ar} : NT (j5 g) := by
  unfold j5
  repeat (first | exact cU | exact cW | exact bp (show ¬ ((_ : Int) = 10) by decide) | exact bo (show ¬ ((_ : Int) = 10) by decide) | exact bp (by assumption) | exact bo (by assumption) | refine cX ?_ ?_ | refine cY ?_ | refine cZ fun b => ?_)
theorem Bc {n : Int} {t : dP} : NT (nB n t) := by
  unfold nB nV
  repeat (first | exact cU | exact cW | exact bp (show ¬ ((_ : Int) = 10) by decide) | exact bo (show ¬ ((_ : Int) = 10) by decide) | exact bp (by assumption) | exact bo (by assumption) | refine cX ?_ ?_ | refine cY ?_ | refine cZ fun b => ?_)
theorem Gb {n : Int} {t : List dP} {x : Int} : NT (qL n t x) := by
  unfold qL
  repeat (first | exact cU | exact cW | exact Bc | exact bp (show ¬ ((_ : Int) = 10) by decide) | exact bo (show ¬ ((_ : Int) = 10) by decide) | exact bp (by assumption) | exact bo (by assumption) | refine cX ?_ ?_ | refine cY ?_ | refine dy Bc fun b hb => ?_ | refine cZ fun b => ?_)
theorem zL {n : Int} {t : List dP} : NT (nR n t) := by
  unfold nR
  repeat (first | exact cU | exact cW | exact bp (show ¬ ((_ : Int) = 10) by decide) | exact bo (show ¬ ((_ : Int) = 10) by decide) | exact bp (by assumption) | exact bo (by assumption) | refine cX ?_ ?_ | refine cY ?_ | exact eT (fun x => Gb) _ | refine cZ fun b => ?_)
theorem GX {T : aq} {p : aJ} {x : List Bool × Int} : NT (qK T p x) := by
  unfold qK qJ
  repeat (first | exact cU | exact cW | exact zL | exact bp (show ¬ ((_ : Int) = 10) by decide) | exact bo (show ¬ ((_ : Int) = 10) by decide) | exact bp (by assumption) | exact bo (by assumption) | refine cX ?_ ?_ | refine cY ?_ | refine dy zL fun b hb => ?_ | refine cZ fun b => ?_)
theorem o8 {T : aq} {p : aJ} : NT (kS T p) := by
  unfold kS
  repeat (first | exact cU | exact cW | exact kR | exact nC | exact bp (show ¬ ((_ : Int) = 10) by decide) | exact bo (show ¬ ((_ : Int) = 10) by decide) | exact bp (by assumption) | exact bo (by assumption) | refine cX ?_ ?_ | refine cY ?_ | refine dy kR fun b hb => ?_ | refine dy nC fun b hb => ?_ | exact eT (fun x => GX) _ | refine cZ fun b => ?_)
theorem CZ {T : aq} {r : be} {i : Int} : NT (mQ T r i) := by
  unfold mQ
  repeat (first | exact cU | exact cW | exact bp (show ¬ ((_ : Int) = 10) by decide) | exact bo (show ¬ ((_ : Int) = 10) by decide) | exact bp (by assumption) | exact bo (by assumption) | refine cX ?_ ?_ | refine cY ?_ | refine cZ fun b => ?_)
theorem H0 {T : aq} {r : be} {i : Int} : NT (qb T r i) := by
  unfold qb
  repeat (first | exact cU | exact cW | exact CZ | exact bp (show ¬ ((_ : Int) = 10) by decide) | exact bo (show ¬ ((_ : Int) = 10) by decide) | exact bp (by assumption) | exact bo (by assumption) | refine cX ?_ ?_ | refine cY ?_ | refine dy CZ fun b hb => ?_ | refine cZ fun b => ?_)
theorem Dh {T : aq} {r : be} : NT (mY T r) := by
  unfold mY
  repeat (first | exact cU | exact cW | exact kR | exact bp (show ¬ ((_ : Int) = 10) by decide) | exact bo (show ¬ ((_ : Int) = 10) by decide) | exact bp (by assumption) | exact bo (by assumption) | refine cX ?_ ?_ | refine cY ?_ | refine dy kR fun b hb => ?_ | exact eT (fun x => H0) _ | refine cZ fun b => ?_)
theorem Ge {xs : List Int} {n x : Int} : NT (lP xs n x) := by
  unfold lP uM
  repeat (first | exact cU | exact cW | exact bp (show ¬ ((_ : Int) = 10) by decide) | exact bo (show ¬ ((_ : Int) = 10) by decide) | exact bp (by assumption) | exact bo (by assumption) | refine cX ?_ ?_ | refine cY ?_ | refine cZ fun b => ?_)
theorem DP {xs : List Int} {n : Int} : NT (ja xs n) := by
  unfold ja
  repeat (first | exact cU | exact cW | exact bp (show ¬ ((_ : Int) = 10) by decide) | exact bo (show ¬ ((_ : Int) = 10) by decide) | exact bp (by assumption) | exact bo (by assumption) | refine cX ?_ ?_ | refine cY ?_ | exact eT (fun x => Ge) _ | refine cZ fun b => ?_)
theorem Gf {g : ar} {p : cM} {x : Int} : NT (lQ g p x) := by
  unfold lQ
  repeat (first | exact cU | exact cW | exact bp (show ¬ ((_ : Int) = 10) by decide) | exact bo (show ¬ ((_ : Int) = 10) by decide) | exact bp (by assumption) | exact bo (by assumption) | refine cX ?_ ?_ | refine cY ?_ | refine cZ fun b => ?_)
theorem DQ {g : ar} {p : cM} : NT (kQ g p) := by
  unfold kQ
  repeat (first | exact cU | exact cW | exact DP | exact bp (show ¬ ((_ : Int) = 10) by decide) | exact bo (show ¬ ((_ : Int) = 10) by decide) | exact bp (by assumption) | exact bo (by assumption) | refine cX ?_ ?_ | refine cY ?_ | refine dy DP fun b hb => ?_ | exact eT (fun x => Gf) _ | refine cZ fun b => ?_)
theorem DV {g : ar} {p : cM} : NT (nH g p) := by
  unfold nH
  repeat (first | exact cU | exact cW | exact kR | exact DQ | exact bp (show ¬ ((_ : Int) = 10) by decide) | exact bo (show ¬ ((_ : Int) = 10) by decide) | exact bp (by assumption) | exact bo (by assumption) | refine cX ?_ ?_ | refine cY ?_ | refine dy kR fun b hb => ?_ | refine dy DQ fun b hb => ?_ | refine cZ fun b => ?_)
theorem H1 {g : ar} {p : cM} {x : List Int × Int} {y : List ba × Int} : NT (jX g p x y) := by
  unfold jX
  repeat (first | exact cU | exact cW | exact bp (show ¬ ((_ : Int) = 10) by decide) | exact bo (show ¬ ((_ : Int) = 10) by decide) | exact bp (show ¬ ((0 : Int) = 10) by decide) | exact bo (show ¬ ((0 : Int) = 10) by decide) | exact bp (by assumption) | exact bo (by assumption) | refine cX ?_ ?_ | refine cY ?_ | refine cZ fun b => ?_)
theorem Gd {g : ar} {p : cM} {x : List Int × Int} : NT (jU g p x) := by
  unfold jU
  repeat (first | exact cU | exact cW | exact bp (show ¬ ((_ : Int) = 10) by decide) | exact bo (show ¬ ((_ : Int) = 10) by decide) | exact bp (by assumption) | exact bo (by assumption) | refine cX ?_ ?_ | refine cY ?_ | exact eT (fun x => H1) _ | refine cZ fun b => ?_)
theorem Ea {g : ar} {p : cM} : NT (kV g p) := by
  unfold kV
  repeat (first | exact cU | exact cW | exact DV | exact bp (show ¬ ((_ : Int) = 10) by decide) | exact bo (show ¬ ((_ : Int) = 10) by decide) | exact bp (by assumption) | exact bo (by assumption) | refine cX ?_ ?_ | refine cY ?_ | refine dy DV fun b hb => ?_ | exact eT (fun x => Gd) _ | refine cZ fun b => ?_)
theorem GZ {a b : ar} {m : aS} {x : Int} : NT (o7 a b m x) := by
  unfold o7
  repeat (first | exact cU | exact cW | exact bp (show ¬ ((_ : Int) = 10) by decide) | exact bo (show ¬ ((_ : Int) = 10) by decide) | exact bp (by assumption) | exact bo (by assumption) | refine cX ?_ ?_ | refine cY ?_ | refine cZ fun b => ?_)
theorem Gc {a b : ar} {m : aS} {x : Int} : NT (nX a b m x) := by
  unfold nX
  repeat (first | exact cU | exact cW | exact bp (show ¬ ((_ : Int) = 10) by decide) | exact bo (show ¬ ((_ : Int) = 10) by decide) | exact bp (by assumption) | exact bo (by assumption) | refine cX ?_ ?_ | refine cY ?_ | exact eT (fun x => GZ) _ | refine cZ fun b => ?_)
theorem uI {a b : ar} {m : aS} : NT (iE a b m) := by
  unfold iE
  repeat (first | exact cU | exact cW | exact kR | exact bp (show ¬ ((_ : Int) = 10) by decide) | exact bo (show ¬ ((_ : Int) = 10) by decide) | exact bp (by assumption) | exact bo (by assumption) | refine cX ?_ ?_ | refine cY ?_ | refine dy kR fun b hb => ?_ | exact eT (fun x => Gc) _ | refine cZ fun b => ?_)
theorem CY {r : be} : NT (pe r) := by
  unfold pe
  repeat (first | exact cU | exact cW | exact Ea | exact uI | exact bp (show ¬ ((_ : Int) = 10) by decide) | exact bo (show ¬ ((_ : Int) = 10) by decide) | exact bp (by assumption) | exact bo (by assumption) | refine cX ?_ ?_ | refine cY ?_ | refine dy Ea fun b hb => ?_ | refine dy uI fun b hb => ?_ | refine cZ fun b => ?_)
theorem DZ {c : az} : NT (nK c) := by
  unfold nK
  repeat (first | exact cU | exact cW | exact bp (show ¬ ((_ : Int) = 10) by decide) | exact bo (show ¬ ((_ : Int) = 10) by decide) | exact bp (by assumption) | exact bo (by assumption) | refine cX ?_ ?_ | refine cY ?_ | refine cZ fun b => ?_)
theorem Ga {b1 : Int} (h : fN.ok b1) {p : aJ} {x : Int} : NT (qO b1 p x) := by
  unfold qO
  repeat (first | exact cU | exact cW | exact bp (show ¬ ((_ : Int) = 10) by decide) | exact bo (show ¬ ((_ : Int) = 10) by decide) | exact bp (by assumption) | exact bo (by assumption) | refine cX ?_ ?_ | refine cY ?_ | refine cZ fun b => ?_)
theorem Ec {T : aq} {p : aJ} {x : Int} : NT (nU T p x) := by
  unfold nU
  repeat (first | exact cU | exact cW | exact o8 | exact bp (show ¬ ((_ : Int) = 10) by decide) | exact bo (show ¬ ((_ : Int) = 10) by decide) | exact bp (by assumption) | exact bo (by assumption) | refine cX ?_ ?_ | refine cY ?_ | refine dy o8 fun b hb => ?_ | exact eT (fun x => Ga (by assumption)) _ | refine cZ fun b => ?_)
theorem GY {q : aq → aJ → az → Option Int} (hq : ∀ T p c, NT (q T p c)) {T : aq} {p : aJ} {c : az} {x : Int} : NT (oe q T c p x) := by
  unfold oe
  repeat (first | exact cU | exact cW | exact (hq _ _ _) | exact bp (show ¬ ((_ : Int) = 10) by decide) | exact bo (show ¬ ((_ : Int) = 10) by decide) | exact bp (by assumption) | exact bo (by assumption) | refine cX ?_ ?_ | refine cY ?_ | refine dy (hq _ _ _) fun b hb => ?_ | refine cZ fun b => ?_)
theorem G9 {q : aq → aJ → az → Option Int} (hq : ∀ T p c, NT (q T p c)) {T : aq} {p : aJ} {c : az} : NT (jT q T p c) := by
  unfold jT lS
  repeat (first | exact cU | exact cW | exact Ec | exact uI | exact bp (show ¬ ((_ : Int) = 10) by decide) | exact bo (show ¬ ((_ : Int) = 10) by decide) | exact bp (by assumption) | exact bo (by assumption) | refine cX ?_ ?_ | refine cY ?_ | refine dy Ec fun b hb => ?_ | refine dy uI fun b hb => ?_ | exact eT (fun x => GY hq) _ | refine cZ fun b => ?_)
theorem AQ : ∀ n T p c, NT (gQ n T p c)
  | 0, _, _, _ => cU
  | n + 1, T, p, c => G9 (q := gQ n) (AQ n)
theorem E9 {T : aq} {p : aJ} {c : az} : NT (qu T p c) := fun r e => by
  unfold qu at e
  obtain ⟨n, hn⟩ := iS e
  exact AQ n T p c r hn
theorem DY {T : aq} {p : aJ} {c : az} : NT (nJ T p c) := by
  unfold nJ
  repeat (first | exact cU | exact cW | exact o8 | exact DZ | exact E9 | exact bp (show ¬ ((_ : Int) = 10) by decide) | exact bo (show ¬ ((_ : Int) = 10) by decide) | exact bp (by assumption) | exact bo (by assumption) | refine cX ?_ ?_ | refine cY ?_ | refine dy o8 fun b hb => ?_ | refine dy DZ fun b hb => ?_ | refine dy E9 fun b hb => ?_ | refine cZ fun b => ?_)
theorem tG {T : aq} {r : be} : NT (kL T r) := by
  unfold kL
  repeat (first | exact cU | exact cW | exact nC | exact o8 | exact Dh | exact CY | exact DY | exact bp (show ¬ ((_ : Int) = 10) by decide) | exact bo (show ¬ ((_ : Int) = 10) by decide) | exact bp (by assumption) | exact bo (by assumption) | refine cX ?_ ?_ | refine cY ?_ | refine dy nC fun b hb => ?_ | refine dy o8 fun b hb => ?_ | refine dy Dh fun b hb => ?_ | refine dy CY fun b hb => ?_ | refine dy DY fun b hb => ?_ | refine cZ fun b => ?_)
theorem DK {T : aq} {r : be} : NT (py T r) := by
  unfold py
  repeat (first | exact cU | exact cW | exact tG | exact bp (show ¬ ((_ : Int) = 10) by decide) | exact bo (show ¬ ((_ : Int) = 10) by decide) | exact bp (show ¬ ((0 : Int) = 10) by decide) | exact bo (show ¬ ((0 : Int) = 10) by decide) | exact bp (by assumption) | exact bo (by assumption) | refine cX ?_ ?_ | refine cY ?_ | refine dy tG fun b hb => ?_ | refine cZ fun b => ?_)
theorem DJ {T : aq} {r : be} : NT (px T r) := by
  unfold px
  repeat (first | exact cU | exact cW | exact tG | exact bp (show ¬ ((_ : Int) = 10) by decide) | exact bo (show ¬ ((_ : Int) = 10) by decide) | exact bp (show ¬ ((0 : Int) = 10) by decide) | exact bo (show ¬ ((0 : Int) = 10) by decide) | exact bp (by assumption) | exact bo (by assumption) | refine cX ?_ ?_ | refine cY ?_ | refine dy tG fun b hb => ?_ | refine cZ fun b => ?_)
theorem H7 {b4 : List Int × List Int × Int} {T : aq} {r : be} {x : List Int × Int} : NT (o0 b4 T r x) := by
  unfold o0
  repeat (first | exact cU | exact cW | exact bp (show ¬ ((_ : Int) = 10) by decide) | exact bo (show ¬ ((_ : Int) = 10) by decide) | exact bp (show ¬ ((0 : Int) = 10) by decide) | exact bo (show ¬ ((0 : Int) = 10) by decide) | exact bp (by assumption) | exact bo (by assumption) | refine cX ?_ ?_ | refine cY ?_ | refine cZ fun b => ?_)
theorem H6 {b4 : List Int × List Int × Int} {T : aq} {r : be} {x : List Int × Int} : NT (nZ b4 T r x) := by
  unfold nZ
  repeat (first | exact cU | exact cW | exact bp (show ¬ ((_ : Int) = 10) by decide) | exact bo (show ¬ ((_ : Int) = 10) by decide) | exact bp (by assumption) | exact bo (by assumption) | refine cX ?_ ?_ | refine cY ?_ | exact eT (fun x => H7) _ | refine cZ fun b => ?_)
theorem H5 {b1 b4 : List Int × List Int × Int} {T : aq} {r : be} {x : List Int × Int} : NT (nY b1 b4 T r x) := by
  unfold nY
  repeat (first | exact cU | exact cW | exact bp (show ¬ ((_ : Int) = 10) by decide) | exact bo (show ¬ ((_ : Int) = 10) by decide) | exact bp (by assumption) | exact bo (by assumption) | refine cX ?_ ?_ | refine cY ?_ | exact eT (fun x => H6) _ | refine cZ fun b => ?_)
theorem H4 {b1 b4 : List Int × List Int × Int} {T : aq} {r : be} {x : List Int × Int} : NT (qD b1 b4 T r x) := by
  unfold qD
  repeat (first | exact cU | exact cW | exact bp (show ¬ ((_ : Int) = 10) by decide) | exact bo (show ¬ ((_ : Int) = 10) by decide) | exact bp (show ¬ ((0 : Int) = 10) by decide) | exact bo (show ¬ ((0 : Int) = 10) by decide) | exact bp (show ¬ ((3 : Int) = 10) by decide) | exact bo (show ¬ ((3 : Int) = 10) by decide) | exact bp (show ¬ ((13 : Int) = 10) by decide) | exact bo (show ¬ ((13 : Int) = 10) by decide) | exact bp (by assumption) | exact bo (by assumption) | refine cX ?_ ?_ | refine cY ?_ | exact eT (fun x => H5) _ | refine cZ fun b => ?_)
theorem DR {T : aq} {r : be} : NT (jQ T r) := by
  unfold jQ
  repeat (first | exact cU | exact cW | exact DK | exact DJ | exact bp (show ¬ ((_ : Int) = 10) by decide) | exact bo (show ¬ ((_ : Int) = 10) by decide) | exact bp (by assumption) | exact bo (by assumption) | refine cX ?_ ?_ | refine cY ?_ | refine dy DK fun b hb => ?_ | refine dy DJ fun b hb => ?_ | exact eT (fun x => H4) _ | refine cZ fun b => ?_)
theorem H8 {b : Int} {x : List (List Int) × Int} {y : List Int × Int} : NT (o9 b x y) := by
  unfold o9 qI
  repeat (first | exact cU | exact cW | exact bp (show ¬ ((_ : Int) = 10) by decide) | exact bo (show ¬ ((_ : Int) = 10) by decide) | exact bp (show ¬ ((0 : Int) = 10) by decide) | exact bo (show ¬ ((0 : Int) = 10) by decide) | exact bp (show ¬ ((3 : Int) = 10) by decide) | exact bo (show ¬ ((3 : Int) = 10) by decide) | exact bp (show ¬ ((13 : Int) = 10) by decide) | exact bo (show ¬ ((13 : Int) = 10) by decide) | exact bp (by assumption) | exact bo (by assumption) | refine cX ?_ ?_ | refine cY ?_ | refine cZ fun b => ?_)
theorem Gh {T : aq} {l : List be} {x : List (List Int) × Int} : NT (qE T l x) := by
  unfold qE
  repeat (first | exact cU | exact cW | exact DR | exact bp (show ¬ ((_ : Int) = 10) by decide) | exact bo (show ¬ ((_ : Int) = 10) by decide) | exact bp (show ¬ ((0 : Int) = 10) by decide) | exact bo (show ¬ ((0 : Int) = 10) by decide) | exact bp (show ¬ ((3 : Int) = 10) by decide) | exact bo (show ¬ ((3 : Int) = 10) by decide) | exact bp (show ¬ ((13 : Int) = 10) by decide) | exact bo (show ¬ ((13 : Int) = 10) by decide) | exact bp (by assumption) | exact bo (by assumption) | refine cX ?_ ?_ | refine cY ?_ | refine dy DR fun b hb => ?_ | exact eT (fun x => H8) _ | refine cZ fun b => ?_)
theorem Mu {T : aq} {l : List be} : NT (fS T l) := by
  unfold fS
  repeat (first | exact cU | exact cW | exact nC | exact bp (show ¬ ((_ : Int) = 10) by decide) | exact bo (show ¬ ((_ : Int) = 10) by decide) | exact bp (show ¬ ((0 : Int) = 10) by decide) | exact bo (show ¬ ((0 : Int) = 10) by decide) | exact bp (show ¬ ((3 : Int) = 10) by decide) | exact bo (show ¬ ((3 : Int) = 10) by decide) | exact bp (show ¬ ((13 : Int) = 10) by decide) | exact bo (show ¬ ((13 : Int) = 10) by decide) | exact bp (by assumption) | exact bo (by assumption) | refine cX ?_ ?_ | refine cY ?_ | refine dy nC fun b hb => ?_ | exact eT (fun x => Gh) _ | refine cZ fun b => ?_)
end Go.Proofs.YtngimdmkomkeoaaGreat.K
