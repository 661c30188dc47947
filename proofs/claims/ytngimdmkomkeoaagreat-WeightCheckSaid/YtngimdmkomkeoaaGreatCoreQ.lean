/- Small things that the printed texts use. -/
import Derived.Test.YtngimdmkomkeoaaGreatCoreP
set_option linter.unusedVariables false
set_option linter.unusedSimpArgs false
namespace Go.Proofs.YtngimdmkomkeoaaGreat.K
open Go.RowKit
theorem CvL.sames {H : Heap} {F : Nat → Bool} {σ : Nat → Nat} {G Q : Nat → Bool} {As : List Asn} [h : NKL As] : CvL H F σ G Q As As := by
  have : ∀ Bs : List Asn, (∀ A, A ∈ Bs → A ∈ As) → CvL H F σ G Q Bs Bs := by
    intro Bs
    induction Bs with
    | nil => intro _; exact .nil
    | cons B Bs ih =>
      intro hs
      haveI : NK B := ⟨fun k hk => h.nk k ⟨B, hs B (by simp), hk⟩⟩
      exact .cons .same (ih fun A hA => hs A (by simp [hA]))
  exact this As fun A hA => hA
def intCells : List IntKind → List Int → List Asn
  | k :: ks, n :: ns => z1z k n :: intCells ks ns
  | _, _ => []
theorem intCells_eq (η : Env) : ∀ (ks : List IntKind) (ms ns : List Int) (vs us : List Value), ms.length = ks.length → ns.length = ks.length → z5a η (intCells ks ms) vs → z5a η (intCells ks ns) us → AllI vs us ∧ (vs = us ↔ ms = ns) := by
  intro ks
  induction ks with
  | nil =>
    intro ms ns vs us h1 h2 h3 h4
    have : ms = [] := List.eq_nil_of_length_eq_zero h1
    have : ns = [] := List.eq_nil_of_length_eq_zero h2
    subst ms; subst ns
    cases h3; cases h4
    exact ⟨⟨rfl, fun j x y h => by simp at h⟩, by simp⟩
  | cons k ks ih =>
    intro ms ns vs us h1 h2 h3 h4
    cases ms with
    | nil => simp at h1
    | cons m ms =>
      cases ns with
      | nil => simp at h2
      | cons n ns =>
        cases h3 with
        | cons a h3 =>
          cases h4 with
          | cons b h4 =>
            obtain ⟨⟨g1, g2⟩, g3⟩ := ih ms ns _ _ (by simpa using h1) (by simpa using h2) h3 h4
            obtain ⟨rfl, _⟩ := a
            obtain ⟨rfl, _⟩ := b
            refine ⟨⟨by simp [g1], fun j x y hx hy => ?_⟩, by simp [g3]⟩
            cases j with
            | zero => simp at hx hy; exact ⟨k, m, n, hx.symm, hy.symm⟩
            | succ j => exact g2 j x y (by simpa using hx) (by simpa using hy)
theorem numC_of {α : Type} {cc : α → List Asn} (ks : List IntKind) (f : α → List Int) (hc : ∀ x, cc x = intCells ks (f x)) (hl : ∀ x, (f x).length = ks.length) (inj : ∀ x y, f x = f y → x = y) : NumC cc := ⟨fun η x y vs us h1 h2 => by
  rw [hc] at h1 h2
  obtain ⟨h3, h4⟩ := intCells_eq η ks _ _ _ _ (hl x) (hl y) h1 h2
  exact ⟨h3, h4.trans ⟨inj x y, fun e => by rw [e]⟩⟩⟩
theorem SlC.same {H : Heap} {F : Nat → Bool} {σ : Nat → Nat} {G Q : Nat → Bool} {sl : Nat → Asn} {i : Nat} {B : Asn} {r : List (Nat × Asn)} (h : sl i = B) [hB : NK B] (t : SlC H F σ G Q sl r) : SlC H F σ G Q sl ((i, B) :: r) := .cons h .same t
theorem r_app0 {P : Program} {fn : Func} {n N0 : Nat} {Y Z : Type} {X : Cx P fn n N0 Y} {e : Option Z} {g : Z → Option Y} {k : List Item} {s : St} {draw : Bool} {ops l rest : List Oper} {acc : List Foot} {d : Option Nat} {ty : TypeId} {pos : String} {aft : Array Edge} {gd : Option (Nat × Bool)} {x y : Operand}
    {α : Type} {T E w by_ : Nat} {cc : α → List Asn} [h1 : OneC cc] {ys : List α} {K : Nat} (K' : Nat) (hT : appT P T = some (E, w, by_)) (hx : lkp s.sl x = z0i K) (hy : lkp s.sl y = AL w cc ys) (hH : s.H K = some (.row E w [])) (hsz : ys.length * by_ ≤ 140737488355328) (hN : Nat.ble s.N K' = true) (hne : Nat.beq K K' = false)
    (hg : z1k ops.toArray s.sl ⟨d, .call ⟨.builtin .append, #[x, y], #[T, T]⟩, ty, pos, aft, gd⟩ true)
    (h : RT X draw ops l e g rest (⟨[K], [K', K]⟩ :: acc) ⟨z5y s.sl d (z0i K'), (s.H.upd K none).upd K' (some (.row E w (ys.map cc))), K' + 1⟩ k) :
    RT X draw ops l e g (⟨d, .call ⟨.builtin .append, #[x, y], #[T, T]⟩, ty, pos, aft, gd⟩ :: rest) acc s k :=
  r_app (cc := cc) (xs := []) (ys := ys) K' hT hx hy hH (by simpa using hsz) hN hne hg h
theorem J_endK {P : Program} {fn : Func} {n N0 : Nat} {Y Z : Type} {X : Cx P fn n N0 Y} {e : Option Z} {g : Z → Option Y} {s : St} {A : Asn} {outs : Y → List (Nat × z5b)} {rr : Y → Asn}
    (hΨ : ∀ z η v, z2h X.c η (hp (outs z)) → (rr z).p η v → (∀ k, k < N0 → η.ρ k = X.ρ0 k) → X.Ψ z η v) (hres : ResIs X s A) (F : List Nat) (σ : List (Nat × Nat)) (G : List Nat) (hσ : ((List.range N0).all fun k => Nat.beq (ren σ k) k && !(z5g k G)) = true)
    (hA : ∀ y, e.bind g = some y → HpC s.H (z5g · F) (ren σ) (z5g · G) (fun _ => true) (outs y) ∧ Cv s.H (z5g · F) (ren σ) (z5g · G) (fun _ => true) A (rr y)) : J X e g [] s := by
  intro y hy η a hr
  obtain ⟨v, h1, h2⟩ := hres η a hr
  obtain ⟨h3, h4⟩ := hA y hy
  refine Goes.end X.hf h1 hr.defers ⟨cvE s.H (z5g · F) (ren σ) (z5g · G) η, rfl, hΨ y _ v (hr.heap.cv h3) (h4.p _ _ hr.heap _ h2) fun k hk => ?_⟩
  have h5 := List.all_eq_true.1 hσ k (List.mem_range.2 hk)
  simp only [Bool.and_eq_true, Bool.not_eq_true'] at h5
  rw [cv_ref h5.2 (Nat.eq_of_beq_eq_true h5.1)]; exact hr.ref k hk
class KB (N : Nat) (A : Asn) : Prop where
  kb : ∀ k, A.keys k → k < N
class KBL (N : Nat) (As : List Asn) : Prop where
  kb : ∀ k, z39 As k → k < N
instance {N : Nat} {A : Asn} [h : NK A] : KB N A := ⟨fun k hk => absurd hk (h.nk k)⟩
theorem KB.obj {N j : Nat} (h : Nat.blt j N = true) : KB N (z0i j) := ⟨fun k hk => by have : k = j := hk; subst this; exact of_decide_eq_true (by simpa [Nat.blt_eq] using h)⟩
instance {N : Nat} : KBL N [] := ⟨fun k hk => absurd hk (z4g k)⟩
theorem KBL.cons {N : Nat} {A : Asn} {As : List Asn} (h : KB N A) (t : KBL N As) : KBL N (A :: As) := ⟨fun k ⟨B, hB, hk⟩ => by
  rcases List.mem_cons.1 hB with rfl | hB
  · exact h.kb k hk
  · exact t.kb k ⟨B, hB, hk⟩⟩
inductive InsOk (N : Nat) : List (Nat × z5b) → Prop
  | nil : InsOk N []
  | row {j E n : Nat} {rows : List (List Asn)} {r : List (Nat × z5b)} (h : Nat.blt j N = true) (hk : ∀ k, ¬ z39 rows.flatten k) (t : InsOk N r) : InsOk N ((j, .row E n rows) :: r)
  | box {j E : Nat} {cs : List Asn} {r : List (Nat × z5b)} (h : Nat.blt j N = true) (hk : KBL N cs) (t : InsOk N r) : InsOk N ((j, .box E cs) :: r)
theorem InsOk.spec {N : Nat} {L : List (Nat × z5b)} (h : InsOk N L) : ∀ k x, (k, x) ∈ L → k < N ∧ ∀ j, x.keys j → j < N := by
  induction h with
  | nil => intro k x h; simp at h
  | row h hk _ ih =>
    intro k x hm
    rcases List.mem_cons.1 hm with e | hm
    · cases e; exact ⟨of_decide_eq_true (by simpa [Nat.blt_eq] using h), fun j hj => absurd hj (hk j)⟩
    · exact ih k x hm
  | box h hk _ ih =>
    intro k x hm
    rcases List.mem_cons.1 hm with e | hm
    · cases e; exact ⟨of_decide_eq_true (by simpa [Nat.blt_eq] using h), hk.kb⟩
    · exact ih k x hm
noncomputable def Ev {β : Type} (u : Nat → Option β) : Option β := Lim u
theorem Ev_some {β : Type} {u : Nat → Option β} {b : β} (h : Ev u = some b) : ∃ n, u n = some b := Lim_some h
theorem Ev_any {β : Type} {u : Nat → Option β} {Q : β → Prop} (hq : ∀ n b, u n = some b → Q b) (h : ∃ n b, u n = some b) : ∃ b, Ev u = some b ∧ Q b := by
  obtain ⟨n, b, hb⟩ := h
  obtain ⟨c, hc⟩ := Lim_any hb
  obtain ⟨m, hm⟩ := Lim_some hc
  exact ⟨c, hc, hq m c hm⟩
end Go.Proofs.YtngimdmkomkeoaaGreat.K
