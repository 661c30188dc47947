import Derived.Calls
import Derived.Orders
import Derived.Tactics
import Derived.OwnWalk
import Derived.WalkKit
import Derived.Below
import Derived.Maps.AppendAt
import Derived.Laws.CopyRow
import Derived.Laws.OwnMore
set_option linter.unusedVariables false
set_option linter.unusedSimpArgs false
namespace Go.Proofs.YtngimdmkomkeoaaGreat.K
open Go.RowKit
structure bA where
  w : World
  I : Nat → Prop
  ρ : Nat → Value
structure Le (ks : Nat → Prop) (η η' : bA) : Prop where
  grow : ∀ b, η.I b → η'.I b
  keep : ∀ b, η.I b → η'.w.heap[b]? = η.w.heap[b]?
  ref : ∀ k, ks k → η'.ρ k = η.ρ k
theorem Le.refl (ks : Nat → Prop) (η : bA) : Le ks η η := ⟨fun _ h => h, fun _ _ => rfl, fun _ _ => rfl⟩
theorem Le.trans {ks : Nat → Prop} {a b c : bA} (h : Le ks a b) (k : Le ks b c) : Le ks a c :=
  ⟨fun x hx => k.grow x (h.grow x hx), fun x hx => (k.keep x (h.grow x hx)).trans (h.keep x hx), fun x hx => (k.ref x hx).trans (h.ref x hx)⟩
theorem Le.sub {ks ks' : Nat → Prop} {a b : bA} (h : Le ks a b) (hs : ∀ k, ks' k → ks k) : Le ks' a b :=
  ⟨h.grow, h.keep, fun k hk => h.ref k (hs k hk)⟩
structure ae where
  p : bA → Value → Prop
  keys : Nat → Prop
  mono : ∀ {η η' : bA} {v : Value}, Le keys η η' → p η v → p η' v
def kv : Nat → Prop := fun _ => False
inductive bw (η : bA) : List ae → List Value → Prop
  | nil : bw η [] []
  | cons {A : ae} {v : Value} {As : List ae} {vs : List Value} : A.p η v → bw η As vs → bw η (A :: As) (v :: vs)
def d7 (As : List ae) : Nat → Prop := fun k => ∃ A, A ∈ As ∧ A.keys k
theorem bw.mono {η η' : bA} {As : List ae} {vs : List Value} (h : bw η As vs) (hl : Le (d7 As) η η') : bw η' As vs := by
  induction h with
  | nil => exact .nil
  | @cons A v As vs hA _ ih =>
    exact .cons (A.mono (hl.sub fun k hk => ⟨A, by simp, hk⟩) hA) (ih (hl.sub fun k ⟨B, hB, hk⟩ => ⟨B, by simp [hB], hk⟩))
theorem bw.length {η : bA} {As : List ae} {vs : List Value} (h : bw η As vs) : As.length = vs.length := by
  induction h with
  | nil => rfl
  | cons _ _ ih => simp [ih]
theorem bw.get {η : bA} {As : List ae} {vs : List Value} (h : bw η As vs) : ∀ (j : Nat) (A : ae), As[j]? = some A → ∃ v, vs[j]? = some v ∧ A.p η v := by
  induction h with
  | nil => intro j A hj; simp at hj
  | @cons B v Bs vs hB _ ih =>
    intro j A hj
    cases j with
    | zero => simp at hj; subst hj; exact ⟨v, by simp, hB⟩
    | succ j => simp at hj; obtain ⟨u, hu, hp⟩ := ih j A hj; exact ⟨u, by simpa using hu, hp⟩
theorem bw.of_get {η : bA} : ∀ {As : List ae} {vs : List Value}, As.length = vs.length → (∀ (j : Nat) (A : ae) (v : Value), As[j]? = some A → vs[j]? = some v → A.p η v) → bw η As vs
  | [], [], _, _ => .nil
  | A :: As, v :: vs, hl, h => .cons (h 0 A v rfl rfl) (bw.of_get (by simpa using hl) fun j B u hj hu => h (j + 1) B u (by simpa using hj) (by simpa using hu))
  | [], _ :: _, hl, _ => by simp at hl
  | _ :: _, [], hl, _ => by simp at hl
theorem bw.append {η : bA} {As Bs : List ae} {vs us : List Value} (h : bw η As vs) (k : bw η Bs us) : bw η (As ++ Bs) (vs ++ us) := by
  induction h with
  | nil => exact k
  | cons hA _ ih => exact .cons hA ih
theorem bw.take {η : bA} {As : List ae} {vs : List Value} (h : bw η As vs) : ∀ n, bw η (As.take n) (vs.take n) := by
  induction h with
  | nil => intro n; simp; exact .nil
  | cons hA _ ih => intro n; cases n with
    | zero => simp; exact .nil
    | succ n => simp; exact .cons hA (ih n)
theorem bw.drop {η : bA} {As : List ae} {vs : List Value} (h : bw η As vs) : ∀ n, bw η (As.drop n) (vs.drop n) := by
  induction h with
  | nil => intro n; simp; exact .nil
  | cons hA h' ih => intro n; cases n with
    | zero => exact .cons hA h'
    | succ n => exact ih n
theorem bw.set {η : bA} {As : List ae} {vs : List Value} (h : bw η As vs) {B : ae} {u : Value} (hB : B.p η u) : ∀ n, bw η (As.set n B) (vs.set n u) := by
  induction h with
  | nil => intro n; exact .nil
  | cons hA h' ih => intro n; cases n with
    | zero => exact .cons hB h'
    | succ n => exact .cons hA (ih n)
def fA : ae := ⟨fun _ _ => True, kv, fun _ h => h⟩
def fm (u : Value) : ae := ⟨fun _ v => v = u, kv, fun _ h => h⟩
def aj (k : IntKind) (n : Int) : ae := ⟨fun _ v => v = .int k n ∧ k.has n, kv, fun _ h => h⟩
def aa (b : Bool) : ae := ⟨fun _ v => v = .bool b, kv, fun _ h => h⟩
def am (s : ByteArray) : ae := ⟨fun _ v => v = .string s ∧ s.size ≤ maxLen, kv, fun _ h => h⟩
def a8 (k : Nat) : ae := ⟨fun η v => v = η.ρ k ∧ v.oneCell' = true, fun j => j = k, fun hl h => by rw [hl.ref k rfl]; exact h⟩
def aO (k off : Nat) : ae := ⟨fun η v => ∃ b, η.ρ k = .pointer (some ⟨b, 0, none⟩) ∧ v = .pointer (some ⟨b, off, none⟩), fun j => j = k, fun hl h => by rw [hl.ref k rfl]; exact h⟩
def hM (k : Nat) (off : Nat) : ae := ⟨fun η v => ∃ b n c, η.ρ k = .slice (some ⟨b, 0, none⟩) n c ∧ v = .pointer (some ⟨b, off, none⟩), fun j => j = k, fun hl h => by rw [hl.ref k rfl]; exact h⟩
def ac (As : List ae) : ae := ⟨fun η v => ∃ vs, v = .agg vs ∧ bw η As vs.toList, d7 As, fun hl ⟨vs, e, h⟩ => ⟨vs, e, h.mono hl⟩⟩
def bk (As : List ae) : ae := ⟨fun η v => ∃ vs, v = .tuple vs ∧ bw η As vs.toList, d7 As, fun hl ⟨vs, e, h⟩ => ⟨vs, e, h.mono hl⟩⟩
def bj (f : FuncId) (As : List ae) : ae := ⟨fun η v => ∃ vs, v = .func (.func f) #[] vs ∧ bw η As vs.toList, d7 As, fun hl ⟨vs, e, h⟩ => ⟨vs, e, h.mono hl⟩⟩
def gJ (η : bA) (b o : Nat) (As : List ae) : Prop := η.I b ∧ ∃ us, bw η As us ∧ ∀ j u, us[j]? = some u → η.w.cell? ⟨b, o + j, none⟩ = some u
theorem IM {w w' : World} {b : Nat} (h : w'.heap[b]? = w.heap[b]?) (o : Nat) : w'.cell? ⟨b, o, none⟩ = w.cell? ⟨b, o, none⟩ := World.cell?_of_block h
theorem gJ.mono {η η' : bA} {b o : Nat} {As : List ae} (h : gJ η b o As) (hl : Le (d7 As) η η') : gJ η' b o As := by
  obtain ⟨hI, us, h1, h2⟩ := h
  exact ⟨hl.grow _ hI, us, h1.mono hl, fun j u hj => (IM (hl.keep b hI) _).trans (h2 j u hj)⟩
theorem gJ.drop {η : bA} {b o : Nat} {As : List ae} (h : gJ η b o As) (n : Nat) : gJ η b (o + n) (As.drop n) := by
  obtain ⟨hI, us, h1, h2⟩ := h
  refine ⟨hI, us.drop n, h1.drop n, fun j u hj => ?_⟩
  rw [List.getElem?_drop] at hj
  have := h2 _ _ hj
  rwa [← Nat.add_assoc] at this
theorem gJ.take {η : bA} {b o : Nat} {As : List ae} (h : gJ η b o As) (n : Nat) : gJ η b o (As.take n) := by
  obtain ⟨hI, us, h1, h2⟩ := h
  refine ⟨hI, us.take n, h1.take n, fun j u hj => ?_⟩
  rw [List.getElem?_take] at hj
  split at hj
  · exact h2 _ _ hj
  · simp at hj
def ap (As : List ae) : ae := ⟨fun η v => ∃ b o, v = .pointer (some ⟨b, o, none⟩) ∧ gJ η b o As, d7 As, fun hl ⟨b, o, e, h⟩ => ⟨b, o, e, h.mono hl⟩⟩
def dR (n : Nat) (rows : List (List ae)) : ae :=
  ⟨fun η v => ∃ a c, v = .slice a rows.length c ∧ rows.length ≤ c ∧ c ≤ maxLen ∧ (∀ r ∈ rows, r.length = n) ∧ (rows.length = 0 ∨ ∃ b o, a = some ⟨b, o, none⟩ ∧ gJ η b o rows.flatten),
   d7 rows.flatten, fun hl ⟨a, c, e, h1, h2, h3, h⟩ => ⟨a, c, e, h1, h2, h3, h.imp id fun ⟨b, o, ea, hc⟩ => ⟨b, o, ea, hc.mono hl⟩⟩⟩
theorem gu (k : Nat) : ¬ d7 [] k := fun ⟨A, h, _⟩ => by simp at h
theorem jJ {As Bs : List ae} (h : ∀ A, A ∈ As → A ∈ Bs) {k : Nat} (hk : d7 As k) : d7 Bs k := let ⟨A, hA, hk⟩ := hk; ⟨A, h A hA, hk⟩
def fY : Value → ae
  | .int k n => if k.min ≤ n ∧ n ≤ k.max then aj k n else fm (.int k n)
  | .bool b => aa b
  | .string s => if s.size ≤ 1000000 then am s else fm (.string s)
  | v => fm v
theorem wx (η : bA) (v : Value) : (fY v).p η v := by
  unfold fY
  split
  · split
    · exact ⟨rfl, ‹_›⟩
    · rfl
  · rfl
  · split
    · refine ⟨rfl, ?_⟩; unfold maxLen; omega
    · rfl
  · rfl
theorem sW (v : Value) (k : Nat) : ¬ (fY v).keys k := by
  unfold fY
  split <;> (try split) <;> exact id
inductive bB where
  | box (E : TypeId) (cs : List ae)
  | row (E : TypeId) (n : Nat) (rows : List (List ae))
def bB.keys : bB → Nat → Prop
  | .box _ cs => d7 cs
  | .row _ _ rows => d7 rows.flatten
def c8 : Value → Option Nat
  | .pointer (some a) => some a.block
  | .slice (some a) _ _ => some a.block
  | _ => none
def Holds (η : bA) (h : Value) : bB → Prop
  | .box E cs => ∃ b arr, h = .pointer (some ⟨b, 0, none⟩) ∧ η.w.heap[b]? = some (.cells arr E (0, 0)) ∧ bw η cs arr.toList
  | .row E n rows => (∀ r ∈ rows, r.length = n) ∧ ∃ xs, η.w.ownsRow 0 E n h rows.length xs ∧ bw η rows.flatten xs
theorem Holds.mono {η η' : bA} {h : Value} {c : bB} (hh : Holds η h c) (hl : Le c.keys η η') (hb : ∀ b, c8 h = some b → η'.w.heap[b]? = η.w.heap[b]?) : Holds η' h c := by
  cases c with
  | box E cs =>
    obtain ⟨b, arr, rfl, h1, h2⟩ := hh
    exact ⟨b, arr, rfl, (hb b rfl).trans h1, h2.mono hl⟩
  | row E n rows =>
    obtain ⟨h0, xs, ho, h5⟩ := hh
    refine ⟨h0, xs, ⟨ho.1, ho.2.imp id ?_⟩, h5.mono hl⟩
    rintro ⟨g, cap, cur, rfl, h1, h2, h3⟩
    exact ⟨g, cap, cur, rfl, h1, (hb g rfl).trans h2, h3⟩
structure cS where
  w0 : World
  X : Nat → Prop
  I0 : Nat → Prop
  n : Nat
  N0 : Nat
  ρ0 : Nat → Value
abbrev cz := Nat → Option bB
structure bZ (c : cS) (η : bA) (H : cz) : Prop where
  holds : ∀ k x, H k = some x → Holds η (η.ρ k) x
  own : ∀ k x b, H k = some x → c8 (η.ρ k) = some b → ¬ η.I b ∧ b < η.w.heap.size ∧ (c.w0.heap.size ≤ b ∨ c.X b)
  apart : ∀ k k' x x' b, H k = some x → H k' = some x' → c8 (η.ρ k) = some b → c8 (η.ρ k') = some b → k = k'
  lt : ∀ b, η.I b → b < η.w.heap.size
  new : ∀ b, η.I b → c.I0 b ∨ c.w0.heap.size ≤ b ∨ c.X b
  old : ∀ b, c.I0 b → η.I b
  size : c.w0.heap.size ≤ η.w.heap.size
  keep : ∀ b, b < c.w0.heap.size → ¬ c.X b → η.w.heap[b]? = c.w0.heap[b]?
  os : η.w.os = c.w0.os
  tape : η.w.tape = c.w0.tape
  output : η.w.output = c.w0.output
end Go.Proofs.YtngimdmkomkeoaaGreat.K
