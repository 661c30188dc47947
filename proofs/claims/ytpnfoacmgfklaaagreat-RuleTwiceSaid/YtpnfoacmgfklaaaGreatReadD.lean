/- What the readings of a description say of its numbers. -/
import Derived.Test.YtpnfoacmgfklaaaGreatRead
import Derived.Test.YtpnfoacmgfklaaaGreatLawI
set_option linter.unusedVariables false
namespace Go.Proofs.YtpnfoacmgfklaaaGreat.K
open Go.RowKit Go.Proofs
theorem al_mem {η : Env} {v : Value} {w : Nat} {α : Type} {c : α → List Asn} {xs : List α} (h : (AL w c xs).p η v) : ∀ x ∈ xs, ∃ us, All2 η (c x) us := by
  obtain ⟨a, cp, e, h1, h2, h3, h4⟩ := h
  have key : ∀ (xs : List α) us, All2 η (xs.map c).flatten us → ∀ x ∈ xs, ∃ us, All2 η (c x) us := by
    intro xs
    induction xs with
    | nil => intro us _ x hx; simp at hx
    | cons y ys ih =>
      intro us hu x hx
      simp only [List.map_cons, List.flatten_cons] at hu
      have h1 := hu.take (c y).length
      have h2 := hu.drop (c y).length
      simp only [List.take_left', List.drop_left'] at h1 h2
      rcases List.mem_cons.1 hx with e | hx
      · subst e; exact ⟨_, h1⟩
      · exact ih _ h2 x hx
  rcases h4 with h | ⟨b, o, _, _, us, hu, _⟩
  · intro x hx
    have : xs = [] := by simpa using h
    subst this; simp at hx
  · exact key xs us hu
theorem u8_of {η : Env} {v : Value} {x : Int} (h : (AInt .u8 x).p η v) : U8 x := by
  have := h.2
  simpa [IntKind.has, IntKind.min, IntKind.max, IntKind.signed, IntKind.bits, U8] using this
theorem all2_one {η : Env} {A : Asn} {As : List Asn} {us : List Value} (h : All2 η (A :: As) us) : (∃ v, A.p η v) ∧ ∃ us, All2 η As us := by
  cases h with | cons a b => exact ⟨⟨_, a⟩, _, b⟩
theorem u8s_of {η : Env} {v : Value} {xs : List Int} (h : (AL 1 c_u8 xs).p η v) : ∀ x ∈ xs, U8 x := fun x hx => by
  obtain ⟨us, hu⟩ := al_mem h x hx
  obtain ⟨⟨v, hv⟩, _⟩ := all2_one (A := AInt .u8 x) (As := []) hu
  exact u8_of hv
theorem u2s_of {η : Env} {v : Value} {xs : List Arr2_c_u8} (h : (AL 2 c_Arr2_c_u8 xs).p η v) : ∀ x ∈ xs, U8 x.e0 ∧ U8 x.e1 := fun x hx => by
  obtain ⟨us, hu⟩ := al_mem h x hx
  obtain ⟨⟨v, hv⟩, us', hu'⟩ := all2_one (A := AInt .u8 x.e0) (As := [AInt .u8 x.e1]) hu
  obtain ⟨⟨v', hv'⟩, _⟩ := all2_one hu'
  exact ⟨u8_of hv, u8_of hv'⟩
theorem u3s_of {η : Env} {v : Value} {xs : List Arr3_c_u8} (h : (AL 3 c_Arr3_c_u8 xs).p η v) : ∀ x ∈ xs, U3 x := fun x hx => by
  obtain ⟨us, hu⟩ := al_mem h x hx
  obtain ⟨⟨v, hv⟩, us', hu'⟩ := all2_one (A := AInt .u8 x.e0) (As := [AInt .u8 x.e1, AInt .u8 x.e2]) hu
  obtain ⟨⟨v', hv'⟩, us'', hu''⟩ := all2_one hu'
  obtain ⟨⟨v'', hv''⟩, _⟩ := all2_one hu''
  exact ⟨u8_of hv, u8_of hv', u8_of hv''⟩
theorem draft_of {η : Env} {v : Value} {d : ref24_Draft} (h : (AAgg (c_ref24_Draft d)).p η v) : DOk d := by
  obtain ⟨vs, _, ha⟩ := h
  obtain ⟨_, _, g0⟩ := ha.get 0 (AL 1 c_u8 d.Left.Graph.Nodes) rfl
  obtain ⟨_, _, g1⟩ := ha.get 1 (AL 3 c_Arr3_c_u8 d.Left.Graph.Edges) rfl
  obtain ⟨_, _, g2⟩ := ha.get 2 (AL 3 c_Arr3_c_u8 d.Left.Slots) rfl
  obtain ⟨_, _, g5⟩ := ha.get 5 (AL 1 c_u8 d.Nodes) rfl
  obtain ⟨_, _, g6⟩ := ha.get 6 (AL 3 c_Arr3_c_u8 d.Edges) rfl
  obtain ⟨_, _, g7⟩ := ha.get 7 (AL 3 c_Arr3_c_u8 d.Slots) rfl
  obtain ⟨_, _, g8⟩ := ha.get 14 (AL 1 c_u8 d.Order) rfl
  exact ⟨u8s_of g0, u3s_of g1, u3s_of g2, u8s_of g5, u3s_of g6, u3s_of g7, u8s_of g8⟩
theorem ruleTwice_law (ha : law24_awake = some true) (t0 t1 : List Arr2_c_u8) (d : ref24_Draft) {η : Env} {v0 v1 v2 : Value} (h0 : (AL 2 c_Arr2_c_u8 t0).p η v0) (h1 : (AL 2 c_Arr2_c_u8 t1).p η v1) (h2 : (AAgg (c_ref24_Draft d)).p η v2) : law24_RuleTwice t0 t1 d = some true :=
  twice_law ha t0 t1 d (u2s_of h0) (u2s_of h1) (draft_of h2)
end Go.Proofs.YtpnfoacmgfklaaaGreat.K
