/- Abstract states over the kit's machine: assertions on values, owned objects, the frame's slots; text order and drawn order of a region; no program of the seed in sight. -/
import Derived.Calls
import Derived.Orders
import Derived.Tactics
import Derived.OwnWalk
import Derived.WalkKit
import Derived.Below
import Derived.Maps.AppendAt
import Derived.Laws.CopyRow
import Derived.Laws.OwnMore
set_option linter.unusedVariables false
set_option linter.unusedSimpArgs false
namespace Go.Proofs.YtngimdmkomkeoaaGreat.K
open Go.RowKit
structure Env where
  w : World
  I : Nat → Prop
  ρ : Nat → Value
structure Le (ks : Nat → Prop) (η η' : Env) : Prop where
  grow : ∀ b, η.I b → η'.I b
  keep : ∀ b, η.I b → η'.w.heap[b]? = η.w.heap[b]?
  ref : ∀ k, ks k → η'.ρ k = η.ρ k
theorem Le.refl (ks : Nat → Prop) (η : Env) : Le ks η η := ⟨fun _ h => h, fun _ _ => rfl, fun _ _ => rfl⟩
theorem Le.trans {ks : Nat → Prop} {a b c : Env} (h : Le ks a b) (k : Le ks b c) : Le ks a c :=
  ⟨fun x hx => k.grow x (h.grow x hx), fun x hx => (k.keep x (h.grow x hx)).trans (h.keep x hx), fun x hx => (k.ref x hx).trans (h.ref x hx)⟩
theorem Le.sub {ks ks' : Nat → Prop} {a b : Env} (h : Le ks a b) (hs : ∀ k, ks' k → ks k) : Le ks' a b :=
  ⟨h.grow, h.keep, fun k hk => h.ref k (hs k hk)⟩
structure Asn where
  p : Env → Value → Prop
  keys : Nat → Prop
  mono : ∀ {η η' : Env} {v : Value}, Le keys η η' → p η v → p η' v
def noKeys : Nat → Prop := fun _ => False
inductive z5a (η : Env) : List Asn → List Value → Prop
  | nil : z5a η [] []
  | cons {A : Asn} {v : Value} {As : List Asn} {vs : List Value} : A.p η v → z5a η As vs → z5a η (A :: As) (v :: vs)
def z39 (As : List Asn) : Nat → Prop := fun k => ∃ A, A ∈ As ∧ A.keys k
theorem z5a.mono {η η' : Env} {As : List Asn} {vs : List Value} (h : z5a η As vs) (hl : Le (z39 As) η η') : z5a η' As vs := by
  induction h with
  | nil => exact .nil
  | @cons A v As vs hA _ ih =>
    exact .cons (A.mono (hl.sub fun k hk => ⟨A, by simp, hk⟩) hA) (ih (hl.sub fun k ⟨B, hB, hk⟩ => ⟨B, by simp [hB], hk⟩))
theorem z5a.length {η : Env} {As : List Asn} {vs : List Value} (h : z5a η As vs) : As.length = vs.length := by
  induction h with
  | nil => rfl
  | cons _ _ ih => simp [ih]
theorem z5a.get {η : Env} {As : List Asn} {vs : List Value} (h : z5a η As vs) : ∀ (j : Nat) (A : Asn), As[j]? = some A → ∃ v, vs[j]? = some v ∧ A.p η v := by
  induction h with
  | nil => intro j A hj; simp at hj
  | @cons B v Bs vs hB _ ih =>
    intro j A hj
    cases j with
    | zero => simp at hj; subst hj; exact ⟨v, by simp, hB⟩
    | succ j => simp at hj; obtain ⟨u, hu, hp⟩ := ih j A hj; exact ⟨u, by simpa using hu, hp⟩
theorem z5a.of_get {η : Env} : ∀ {As : List Asn} {vs : List Value}, As.length = vs.length → (∀ (j : Nat) (A : Asn) (v : Value), As[j]? = some A → vs[j]? = some v → A.p η v) → z5a η As vs
  | [], [], _, _ => .nil
  | A :: As, v :: vs, hl, h => .cons (h 0 A v rfl rfl) (z5a.of_get (by simpa using hl) fun j B u hj hu => h (j + 1) B u (by simpa using hj) (by simpa using hu))
  | [], _ :: _, hl, _ => by simp at hl
  | _ :: _, [], hl, _ => by simp at hl
theorem z5a.append {η : Env} {As Bs : List Asn} {vs us : List Value} (h : z5a η As vs) (k : z5a η Bs us) : z5a η (As ++ Bs) (vs ++ us) := by
  induction h with
  | nil => exact k
  | cons hA _ ih => exact .cons hA ih
theorem z5a.take {η : Env} {As : List Asn} {vs : List Value} (h : z5a η As vs) : ∀ n, z5a η (As.take n) (vs.take n) := by
  induction h with
  | nil => intro n; simp; exact .nil
  | cons hA _ ih => intro n; cases n with
    | zero => simp; exact .nil
    | succ n => simp; exact .cons hA (ih n)
theorem z5a.drop {η : Env} {As : List Asn} {vs : List Value} (h : z5a η As vs) : ∀ n, z5a η (As.drop n) (vs.drop n) := by
  induction h with
  | nil => intro n; simp; exact .nil
  | cons hA h' ih => intro n; cases n with
    | zero => exact .cons hA h'
    | succ n => exact ih n
theorem z5a.set {η : Env} {As : List Asn} {vs : List Value} (h : z5a η As vs) {B : Asn} {u : Value} (hB : B.p η u) : ∀ n, z5a η (As.set n B) (vs.set n u) := by
  induction h with
  | nil => intro n; exact .nil
  | cons hA h' ih => intro n; cases n with
    | zero => exact .cons hB h'
    | succ n => exact .cons hA (ih n)
def ATop : Asn := ⟨fun _ _ => True, noKeys, fun _ h => h⟩
def AEq (u : Value) : Asn := ⟨fun _ v => v = u, noKeys, fun _ h => h⟩
def z1z (k : IntKind) (n : Int) : Asn := ⟨fun _ v => v = .int k n ∧ k.has n, noKeys, fun _ h => h⟩
def z00 (b : Bool) : Asn := ⟨fun _ v => v = .bool b, noKeys, fun _ h => h⟩
def z1h (s : ByteArray) : Asn := ⟨fun _ v => v = .string s ∧ s.size ≤ maxLen, noKeys, fun _ h => h⟩
def z0i (k : Nat) : Asn := ⟨fun η v => v = η.ρ k ∧ v.oneCell' = true, fun j => j = k, fun hl h => by rw [hl.ref k rfl]; exact h⟩
def z1f (k off : Nat) : Asn := ⟨fun η v => ∃ b, η.ρ k = .pointer (some ⟨b, 0, none⟩) ∧ v = .pointer (some ⟨b, off, none⟩), fun j => j = k, fun hl h => by rw [hl.ref k rfl]; exact h⟩
def ARowAt (k : Nat) (off : Nat) : Asn := ⟨fun η v => ∃ b n c, η.ρ k = .slice (some ⟨b, 0, none⟩) n c ∧ v = .pointer (some ⟨b, off, none⟩), fun j => j = k, fun hl h => by rw [hl.ref k rfl]; exact h⟩
def z0w (As : List Asn) : Asn := ⟨fun η v => ∃ vs, v = .agg vs ∧ z5a η As vs.toList, z39 As, fun hl ⟨vs, e, h⟩ => ⟨vs, e, h.mono hl⟩⟩
def z35 (As : List Asn) : Asn := ⟨fun η v => ∃ vs, v = .tuple vs ∧ z5a η As vs.toList, z39 As, fun hl ⟨vs, e, h⟩ => ⟨vs, e, h.mono hl⟩⟩
def z3n (f : FuncId) (As : List Asn) : Asn := ⟨fun η v => ∃ vs, v = .func (.func f) #[] vs ∧ z5a η As vs.toList, z39 As, fun hl ⟨vs, e, h⟩ => ⟨vs, e, h.mono hl⟩⟩
def CellsAt (η : Env) (b o : Nat) (As : List Asn) : Prop := η.I b ∧ ∃ us, z5a η As us ∧ ∀ j u, us[j]? = some u → η.w.cell? ⟨b, o + j, none⟩ = some u
theorem cell_keep {w w' : World} {b : Nat} (h : w'.heap[b]? = w.heap[b]?) (o : Nat) : w'.cell? ⟨b, o, none⟩ = w.cell? ⟨b, o, none⟩ := World.cell?_of_block h
theorem CellsAt.mono {η η' : Env} {b o : Nat} {As : List Asn} (h : CellsAt η b o As) (hl : Le (z39 As) η η') : CellsAt η' b o As := by
  obtain ⟨hI, us, h1, h2⟩ := h
  exact ⟨hl.grow _ hI, us, h1.mono hl, fun j u hj => (cell_keep (hl.keep b hI) _).trans (h2 j u hj)⟩
theorem CellsAt.drop {η : Env} {b o : Nat} {As : List Asn} (h : CellsAt η b o As) (n : Nat) : CellsAt η b (o + n) (As.drop n) := by
  obtain ⟨hI, us, h1, h2⟩ := h
  refine ⟨hI, us.drop n, h1.drop n, fun j u hj => ?_⟩
  rw [List.getElem?_drop] at hj
  have := h2 _ _ hj
  rwa [← Nat.add_assoc] at this
theorem CellsAt.take {η : Env} {b o : Nat} {As : List Asn} (h : CellsAt η b o As) (n : Nat) : CellsAt η b o (As.take n) := by
  obtain ⟨hI, us, h1, h2⟩ := h
  refine ⟨hI, us.take n, h1.take n, fun j u hj => ?_⟩
  rw [List.getElem?_take] at hj
  split at hj
  · exact h2 _ _ hj
  · simp at hj
def z1r (As : List Asn) : Asn := ⟨fun η v => ∃ b o, v = .pointer (some ⟨b, o, none⟩) ∧ CellsAt η b o As, z39 As, fun hl ⟨b, o, e, h⟩ => ⟨b, o, e, h.mono hl⟩⟩
def zal (n : Nat) (rows : List (List Asn)) : Asn :=
  ⟨fun η v => ∃ a c, v = .slice a rows.length c ∧ rows.length ≤ c ∧ c ≤ maxLen ∧ (∀ r ∈ rows, r.length = n) ∧ (rows.length = 0 ∨ ∃ b o, a = some ⟨b, o, none⟩ ∧ CellsAt η b o rows.flatten),
   z39 rows.flatten, fun hl ⟨a, c, e, h1, h2, h3, h⟩ => ⟨a, c, e, h1, h2, h3, h.imp id fun ⟨b, o, ea, hc⟩ => ⟨b, o, ea, hc.mono hl⟩⟩⟩
theorem z4g (k : Nat) : ¬ z39 [] k := fun ⟨A, h, _⟩ => by simp at h
theorem z9b {As Bs : List Asn} (h : ∀ A, A ∈ As → A ∈ Bs) {k : Nat} (hk : z39 As k) : z39 Bs k := let ⟨A, hA, hk⟩ := hk; ⟨A, h A hA, hk⟩
def constA : Value → Asn
  | .int k n => if k.min ≤ n ∧ n ≤ k.max then z1z k n else AEq (.int k n)
  | .bool b => z00 b
  | .string s => if s.size ≤ 1000000 then z1h s else AEq (.string s)
  | v => AEq v
theorem constA_p (η : Env) (v : Value) : (constA v).p η v := by
  unfold constA
  split
  · split
    · exact ⟨rfl, ‹_›⟩
    · rfl
  · rfl
  · split
    · refine ⟨rfl, ?_⟩; unfold maxLen; omega
    · rfl
  · rfl
theorem constA_keys (v : Value) (k : Nat) : ¬ (constA v).keys k := by
  unfold constA
  split <;> (try split) <;> exact id
inductive z5b where
  | box (E : TypeId) (cs : List Asn)
  | row (E : TypeId) (n : Nat) (rows : List (List Asn))
def z5b.keys : z5b → Nat → Prop
  | .box _ cs => z39 cs
  | .row _ _ rows => z39 rows.flatten
def blk : Value → Option Nat
  | .pointer (some a) => some a.block
  | .slice (some a) _ _ => some a.block
  | _ => none
def Holds (η : Env) (h : Value) : z5b → Prop
  | .box E cs => ∃ b arr, h = .pointer (some ⟨b, 0, none⟩) ∧ η.w.heap[b]? = some (.cells arr E (0, 0)) ∧ z5a η cs arr.toList
  | .row E n rows => (∀ r ∈ rows, r.length = n) ∧ ∃ xs, η.w.ownsRow 0 E n h rows.length xs ∧ z5a η rows.flatten xs
theorem Holds.mono {η η' : Env} {h : Value} {c : z5b} (hh : Holds η h c) (hl : Le c.keys η η') (hb : ∀ b, blk h = some b → η'.w.heap[b]? = η.w.heap[b]?) : Holds η' h c := by
  cases c with
  | box E cs =>
    obtain ⟨b, arr, rfl, h1, h2⟩ := hh
    exact ⟨b, arr, rfl, (hb b rfl).trans h1, h2.mono hl⟩
  | row E n rows =>
    obtain ⟨h0, xs, ho, h5⟩ := hh
    refine ⟨h0, xs, ⟨ho.1, ho.2.imp id ?_⟩, h5.mono hl⟩
    rintro ⟨g, cap, cur, rfl, h1, h2, h3⟩
    exact ⟨g, cap, cur, rfl, h1, (hb g rfl).trans h2, h3⟩
structure Ctx where
  w0 : World
  X : Nat → Prop
  I0 : Nat → Prop
  n : Nat
  N0 : Nat
  ρ0 : Nat → Value
abbrev Heap := Nat → Option z5b
structure z2h (c : Ctx) (η : Env) (H : Heap) : Prop where
  holds : ∀ k x, H k = some x → Holds η (η.ρ k) x
  own : ∀ k x b, H k = some x → blk (η.ρ k) = some b → ¬ η.I b ∧ b < η.w.heap.size ∧ (c.w0.heap.size ≤ b ∨ c.X b)
  apart : ∀ k k' x x' b, H k = some x → H k' = some x' → blk (η.ρ k) = some b → blk (η.ρ k') = some b → k = k'
  lt : ∀ b, η.I b → b < η.w.heap.size
  new : ∀ b, η.I b → c.I0 b ∨ c.w0.heap.size ≤ b ∨ c.X b
  old : ∀ b, c.I0 b → η.I b
  size : c.w0.heap.size ≤ η.w.heap.size
  keep : ∀ b, b < c.w0.heap.size → ¬ c.X b → η.w.heap[b]? = c.w0.heap[b]?
  os : η.w.os = c.w0.os
  tape : η.w.tape = c.w0.tape
  output : η.w.output = c.w0.output
end Go.Proofs.YtngimdmkomkeoaaGreat.K
