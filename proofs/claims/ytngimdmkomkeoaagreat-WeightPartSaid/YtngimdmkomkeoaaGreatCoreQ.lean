import Derived.Test.YtngimdmkomkeoaaGreatCoreP
set_option linter.unusedVariables false
set_option linter.unusedSimpArgs false
namespace Go.Proofs.YtngimdmkomkeoaaGreat.K
open Go.RowKit
theorem c9.sames {H : cz} {F : Nat → Bool} {σ : Nat → Nat} {G Q : Nat → Bool} {As : List ae} [h : cT As] : c9 H F σ G Q As As := by
  have : ∀ Bs : List ae, (∀ A, A ∈ Bs → A ∈ As) → c9 H F σ G Q Bs Bs := by
    intro Bs
    induction Bs with
    | nil => intro _; exact .nil
    | cons B Bs ih =>
      intro hs
      haveI : NK B := ⟨fun k hk => h.nk k ⟨B, hs B (by simp), hk⟩⟩
      exact .cons .same (ih fun A hA => hs A (by simp [hA]))
  exact this As fun A hA => hA
def sj : List IntKind → List Int → List ae
  | k :: ks, n :: ns => aj k n :: sj ks ns
  | _, _ => []
theorem Kd (η : bA) : ∀ (ks : List IntKind) (ms ns : List Int) (vs us : List Value), ms.length = ks.length → ns.length = ks.length → bw η (sj ks ms) vs → bw η (sj ks ns) us → oj vs us ∧ (vs = us ↔ ms = ns) := by
  intro ks
  induction ks with
  | nil =>
    intro ms ns vs us h1 h2 h3 h4
    have : ms = [] := List.eq_nil_of_length_eq_zero h1
    have : ns = [] := List.eq_nil_of_length_eq_zero h2
    subst ms; subst ns
    cases h3; cases h4
    exact ⟨⟨rfl, fun j x y h => by simp at h⟩, by simp⟩
  | cons k ks ih =>
    intro ms ns vs us h1 h2 h3 h4
    cases ms with
    | nil => simp at h1
    | cons m ms =>
      cases ns with
      | nil => simp at h2
      | cons n ns =>
        cases h3 with
        | cons a h3 =>
          cases h4 with
          | cons b h4 =>
            obtain ⟨⟨g1, g2⟩, g3⟩ := ih ms ns _ _ (by simpa using h1) (by simpa using h2) h3 h4
            obtain ⟨rfl, _⟩ := a
            obtain ⟨rfl, _⟩ := b
            refine ⟨⟨by simp [g1], fun j x y hx hy => ?_⟩, by simp [g3]⟩
            cases j with
            | zero => simp at hx hy; exact ⟨k, m, n, hx.symm, hy.symm⟩
            | succ j => exact g2 j x y (by simpa using hx) (by simpa using hy)
theorem jD {α : Type} {cc : α → List ae} (ks : List IntKind) (f : α → List Int) (hc : ∀ x, cc x = sj ks (f x)) (hl : ∀ x, (f x).length = ks.length) (inj : ∀ x y, f x = f y → x = y) : iK cc := ⟨fun η x y vs us h1 h2 => by
  rw [hc] at h1 h2
  obtain ⟨h3, h4⟩ := Kd η ks _ _ _ _ (hl x) (hl y) h1 h2
  exact ⟨h3, h4.trans ⟨inj x y, fun e => by rw [e]⟩⟩⟩
theorem eW.same {H : cz} {F : Nat → Bool} {σ : Nat → Nat} {G Q : Nat → Bool} {sl : Nat → ae} {i : Nat} {B : ae} {r : List (Nat × ae)} (h : sl i = B) [hB : NK B] (t : eW H F σ G Q sl r) : eW H F σ G Q sl ((i, B) :: r) := .cons h .same t
theorem gH {P : Program} {fn : Func} {n N0 : Nat} {Y Z : Type} {X : Cx P fn n N0 Y} {e : Option Z} {g : Z → Option Y} {k : List Item} {s : St} {draw : Bool} {ops l rest : List Oper} {acc : List cB} {d : Option Nat} {ty : TypeId} {pos : String} {aft : Array Edge} {gd : Option (Nat × Bool)} {x y : Operand}
    {α : Type} {T E w by_ : Nat} {cc : α → List ae} [h1 : dm cc] {ys : List α} {K : Nat} (K' : Nat) (hT : eX P T = some (E, w, by_)) (hx : bi s.sl x = a8 K) (hy : bi s.sl y = AL w cc ys) (hH : s.H K = some (.row E w [])) (hsz : ys.length * by_ ≤ 140737488355328) (hN : Nat.ble s.N K' = true) (hne : Nat.beq K K' = false)
    (hg : bD ops.toArray s.sl ⟨d, .call ⟨.builtin .append, #[x, y], #[T, T]⟩, ty, pos, aft, gd⟩ true)
    (h : RT X draw ops l e g rest (⟨[K], [K', K]⟩ :: acc) ⟨bm s.sl d (a8 K'), (s.H.upd K none).upd K' (some (.row E w (ys.map cc))), K' + 1⟩ k) :
    RT X draw ops l e g (⟨d, .call ⟨.builtin .append, #[x, y], #[T, T]⟩, ty, pos, aft, gd⟩ :: rest) acc s k :=
  dx (cc := cc) (xs := []) (ys := ys) K' hT hx hy hH (by simpa using hsz) hN hne hg h
theorem Eo {P : Program} {fn : Func} {n N0 : Nat} {Y Z : Type} {X : Cx P fn n N0 Y} {e : Option Z} {g : Z → Option Y} {s : St} {A : ae} {outs : Y → List (Nat × bB)} {rr : Y → ae}
    (hΨ : ∀ z η v, bZ X.c η (hp (outs z)) → (rr z).p η v → (∀ k, k < N0 → η.ρ k = X.ρ0 k) → X.Ψ z η v) (hres : jo X s A) (F : List Nat) (σ : List (Nat × Nat)) (G : List Nat) (hσ : ((List.range N0).all fun k => Nat.beq (dj σ k) k && !(bF k G)) = true)
    (hA : ∀ y, e.bind g = some y → er s.H (bF · F) (dj σ) (bF · G) (fun _ => true) (outs y) ∧ Cv s.H (bF · F) (dj σ) (bF · G) (fun _ => true) A (rr y)) : J X e g [] s := by
  intro y hy η a hr
  obtain ⟨v, h1, h2⟩ := hres η a hr
  obtain ⟨h3, h4⟩ := hA y hy
  refine eN.end X.hf h1 hr.defers ⟨eE s.H (bF · F) (dj σ) (bF · G) η, rfl, hΨ y _ v (hr.heap.cv h3) (h4.p _ _ hr.heap _ h2) fun k hk => ?_⟩
  have h5 := List.all_eq_true.1 hσ k (List.mem_range.2 hk)
  simp only [Bool.and_eq_true, Bool.not_eq_true'] at h5
  rw [ku h5.2 (Nat.eq_of_beq_eq_true h5.1)]; exact hr.ref k hk
class KB (N : Nat) (A : ae) : Prop where
  kb : ∀ k, A.keys k → k < N
class bH (N : Nat) (As : List ae) : Prop where
  kb : ∀ k, d7 As k → k < N
instance {N : Nat} {A : ae} [h : NK A] : KB N A := ⟨fun k hk => absurd hk (h.nk k)⟩
theorem KB.obj {N j : Nat} (h : Nat.blt j N = true) : KB N (a8 j) := ⟨fun k hk => by have : k = j := hk; subst this; exact of_decide_eq_true (by simpa [Nat.blt_eq] using h)⟩
instance {N : Nat} : bH N [] := ⟨fun k hk => absurd hk (gu k)⟩
theorem bH.cons {N : Nat} {A : ae} {As : List ae} (h : KB N A) (t : bH N As) : bH N (A :: As) := ⟨fun k ⟨B, hB, hk⟩ => by
  rcases List.mem_cons.1 hB with rfl | hB
  · exact h.kb k hk
  · exact t.kb k ⟨B, hB, hk⟩⟩
inductive eZ (N : Nat) : List (Nat × bB) → Prop
  | nil : eZ N []
  | row {j E n : Nat} {rows : List (List ae)} {r : List (Nat × bB)} (h : Nat.blt j N = true) (hk : ∀ k, ¬ d7 rows.flatten k) (t : eZ N r) : eZ N ((j, .row E n rows) :: r)
  | box {j E : Nat} {cs : List ae} {r : List (Nat × bB)} (h : Nat.blt j N = true) (hk : bH N cs) (t : eZ N r) : eZ N ((j, .box E cs) :: r)
theorem eZ.spec {N : Nat} {L : List (Nat × bB)} (h : eZ N L) : ∀ k x, (k, x) ∈ L → k < N ∧ ∀ j, x.keys j → j < N := by
  induction h with
  | nil => intro k x h; simp at h
  | row h hk _ ih =>
    intro k x hm
    rcases List.mem_cons.1 hm with e | hm
    · cases e; exact ⟨of_decide_eq_true (by simpa [Nat.blt_eq] using h), fun j hj => absurd hj (hk j)⟩
    · exact ih k x hm
  | box h hk _ ih =>
    intro k x hm
    rcases List.mem_cons.1 hm with e | hm
    · cases e; exact ⟨of_decide_eq_true (by simpa [Nat.blt_eq] using h), hk.kb⟩
    · exact ih k x hm
noncomputable def Ev {β : Type} (u : Nat → Option β) : Option β := kZ u
theorem iS {β : Type} {u : Nat → Option β} {b : β} (h : Ev u = some b) : ∃ n, u n = some b := jE h
theorem mj {β : Type} {u : Nat → Option β} {Q : β → Prop} (hq : ∀ n b, u n = some b → Q b) (h : ∃ n b, u n = some b) : ∃ b, Ev u = some b ∧ Q b := by
  obtain ⟨n, b, hb⟩ := h
  obtain ⟨c, hc⟩ := B3 hb
  obtain ⟨m, hm⟩ := jE hc
  exact ⟨c, hc, hq m c hm⟩
end Go.Proofs.YtngimdmkomkeoaaGreat.K
