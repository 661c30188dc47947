import Derived.Test.YtngimdmkomkeoaaGreatRead
import Derived.Test.YtngimdmkomkeoaaGreatLawPa
set_option linter.unusedVariables false
namespace Go.Proofs.YtngimdmkomkeoaaGreat.K
open Go.RowKit Go.Proofs
theorem rC {η : bA} {v : Value} {w : Nat} {α : Type} {c : α → List ae} {xs : List α} (h : (AL w c xs).p η v) : ∀ x ∈ xs, ∃ us, bw η (c x) us := by
  obtain ⟨a, cp, e, h1, h2, h3, h4⟩ := h
  have key : ∀ (xs : List α) us, bw η (xs.map c).flatten us → ∀ x ∈ xs, ∃ us, bw η (c x) us := by
    intro xs
    induction xs with
    | nil => intro us _ x hx; simp at hx
    | cons y ys ih =>
      intro us hu x hx
      simp only [List.map_cons, List.flatten_cons] at hu
      have h1 := hu.take (c y).length
      have h2 := hu.drop (c y).length
      simp only [List.take_left', List.drop_left'] at h1 h2
      rcases List.mem_cons.1 hx with e | hx
      · subst e; exact ⟨_, h1⟩
      · exact ih _ h2 x hx
  rcases h4 with h | ⟨b, o, _, _, us, hu, _⟩
  · intro x hx
    have : xs = [] := by simpa using h
    subst this; simp at hx
  · exact key xs us hu
theorem li {η : bA} {v : Value} {x : Int} (h : (aj .u8 x).p η v) : U8 x := by
  have := h.2
  simpa [IntKind.has, IntKind.min, IntKind.max, IntKind.signed, IntKind.bits, U8] using this
theorem mz {η : bA} {A : ae} {As : List ae} {us : List Value} (h : bw η (A :: As) us) : (∃ v, A.p η v) ∧ ∃ us, bw η As us := by
  cases h with | cons a b => exact ⟨⟨_, a⟩, _, b⟩
theorem vX {η : bA} {v : Value} {xs : List Int} (h : (AL 1 cj xs).p η v) : ∀ x ∈ xs, U8 x := fun x hx => by
  obtain ⟨us, hu⟩ := rC h x hx
  obtain ⟨⟨v, hv⟩, _⟩ := mz (A := aj .u8 x) (As := []) hu
  exact li hv
theorem AZ {η : bA} {v : Value} {xs : List dY} (h : (AL 2 cw xs).p η v) : ∀ x ∈ xs, U8 x.e0 ∧ U8 x.e1 := fun x hx => by
  obtain ⟨us, hu⟩ := rC h x hx
  obtain ⟨⟨v, hv⟩, us', hu'⟩ := mz (A := aj .u8 x.e0) (As := [aj .u8 x.e1]) hu
  obtain ⟨⟨v', hv'⟩, _⟩ := mz hu'
  exact ⟨li hv, li hv'⟩
theorem rS {η : bA} {v : Value} {xs : List f5} (h : (AL 3 bJ xs).p η v) : ∀ x ∈ xs, U3 x := fun x hx => by
  obtain ⟨us, hu⟩ := rC h x hx
  obtain ⟨⟨v, hv⟩, us', hu'⟩ := mz (A := aj .u8 x.e0) (As := [aj .u8 x.e1, aj .u8 x.e2]) hu
  obtain ⟨⟨v', hv'⟩, us'', hu''⟩ := mz hu'
  obtain ⟨⟨v'', hv''⟩, _⟩ := mz hu''
  exact ⟨li hv, li hv', li hv''⟩
theorem HE {η : bA} {vs : List Value} {d : f6} (ha : bw η (dI d) vs) : DOk d := by
  obtain ⟨_, _, g0⟩ := ha.get 0 (AL 1 cj d.Left.Graph.Nodes) rfl
  obtain ⟨_, _, g1⟩ := ha.get 1 (AL 3 bJ d.Left.Graph.Edges) rfl
  obtain ⟨_, _, g2⟩ := ha.get 2 (AL 3 bJ d.Left.Slots) rfl
  obtain ⟨_, _, g5⟩ := ha.get 5 (AL 1 cj d.Nodes) rfl
  obtain ⟨_, _, g6⟩ := ha.get 6 (AL 3 bJ d.Edges) rfl
  obtain ⟨_, _, g7⟩ := ha.get 7 (AL 3 bJ d.Slots) rfl
  obtain ⟨_, _, g8⟩ := ha.get 14 (AL 1 cj d.Order) rfl
  exact ⟨vX g0, rS g1, rS g2, vX g5, rS g6, rS g7, vX g8⟩
theorem IR {η : bA} {v : Value} {xs : List f6} (h : (AL 15 dI xs).p η v) : ∀ x ∈ xs, DOk x := fun x hx => by
  obtain ⟨us, hu⟩ := rC h x hx
  exact HE hu
theorem LS (ha : lC = some true) (t0 : jP) (t1 t2 : Int) {η : bA} {v0 v1 v2 : Value} (h0 : (ac (jc t0)).p η v0) (h1 : (aj .u8 t1).p η v1) (h2 : (aj .u8 t2).p η v2) (hs : Sm.sm t0) : uw t0 t1 t2 = some true := by
  obtain ⟨vs, _, ha'⟩ := h0
  obtain ⟨_, _, g0⟩ := ha'.get 0 (AL 2 cw t0.Nodes) rfl
  obtain ⟨_, _, g1⟩ := ha'.get 1 (AL 2 cw t0.Edges) rfl
  obtain ⟨_, _, g2⟩ := ha'.get 2 (AL 15 dI t0.Rules) rfl
  exact M8 ha t0 t1 t2 (AZ g0) (AZ g1) (IR g2) (li h2).1
end Go.Proofs.YtngimdmkomkeoaaGreat.K
