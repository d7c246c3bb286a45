/-
 Plain laws: graphs as tables, and recursion.
-/
import Derived.Test.YtngmbcedamphmaaEPl1
import Derived.Test.YtngmbcedamphmaaESp10
set_option linter.unusedSimpArgs false
set_option linter.unusedVariables false
namespace Go.Vm
open Go
abbrev t2 (n R : Nat) (G : Nat → Nat → Bool) : List (List Bool) := tb n (fun i => tb R (G i))
inductive Rch (e : Nat → Nat → Prop) : Nat → Nat → Prop
 | one {i j} : e i j → Rch e i j
 | cons {i m j} : e i m → Rch e m j → Rch e i j
section
variable {e e' : Nat → Nat → Prop} {i j k m : Nat}
theorem Rch.map {f : Nat → Nat} (hf : ∀ i j, e i j → e' (f i) (f j)) (h : Rch e i j) : Rch e' (f i) (f j) := by
 induction h with
 | one h => exact .one (hf _ _ h)
 | cons h _ ih => exact .cons (hf _ _ h) ih
theorem Rch.mono (hf : ∀ i j, e i j → e' i j) (h : Rch e i j) : Rch e' i j := h.map (f := fun x => x) hf
inductive Via (g : Nat → Nat → Prop) (b : Nat) : Nat → Nat → Prop
 | one {p q : Nat} : g p q → Via g b p q
 | cons {p m' q : Nat} : g p m' → m' < b → Via g b m' q → Via g b p q
theorem Via.split (h : Via e (k + 1) i j) : Via e k i j ∨ (Via e k i k ∧ Via e k k j) := by
 induction h with
 | one h => exact .inl (.one h)
 | cons h hm h9 ih =>
  rename_i i m j
  by_cases hmk : m = k
  ·subst hmk
   rcases ih with ih | ⟨_, ih⟩
   ·exact .inr ⟨.one h, ih⟩
   ·exact .inr ⟨.one h, ih⟩
  ·have : m < k := by omega
   rcases ih with ih | ⟨ih1, ih2⟩
   ·exact .inl (.cons h this ih)
   ·exact .inr ⟨.cons h this ih1, ih2⟩
theorem Via.zero (h : Via e 0 i j) : e i j := by
 cases h with
 | one h => exact h
 | cons _ h _ => omega
end
def Ed (n : Nat) (G : Nat → Nat → Bool) (i j : Nat) : Prop := i < n ∧ j < n ∧ G i j = true
theorem Ed.congr {n : Nat} {G G' : Nat → Nat → Bool} (h : ∀ i j, i < n → j < n → G i j = G' i j) (i j : Nat) : Ed n G i j ↔ Ed n G' i j := by
 unfold Ed
 constructor
 ·rintro ⟨h1, h2, h3⟩; exact ⟨h1, h2, by rw [← h i j h1 h2]; exact h3⟩
 ·rintro ⟨h1, h2, h3⟩; exact ⟨h1, h2, by rw [h i j h1 h2]; exact h3⟩
def Lo {α : Type} (o o' : Option α) : Prop := ∀ r, o = some r → o' = some r
section
variable {α β σ ρ : Type}
theorem Lo.refl (o : Option α) : Lo o o := fun _ h => h
theorem Lo.bind {o o' : Option α} {k k' : α → Option β} (h : Lo o o') (hk : ∀ x, Lo (k x) (k' x)) : Lo (o.bind k) (o'.bind k') := by
 intro r hr
 obtain ⟨x, h1, h2⟩ := Option.bind_eq_some_iff.1 hr
 rw [h x h1]
 exact hk x r h2
theorem Lo.bindK {o : Option α} {k k' : α → Option β} (hk : ∀ x, Lo (k x) (k' x)) : Lo (o.bind k) (o.bind k') := (Lo.refl o).bind hk
theorem Lo.ite {p : Prop} [Decidable p] {x y x' y' : Option α} (h1 : Lo x x') (h2 : Lo y y') : Lo (if p then x else y) (if p then x' else y') := by
 split
 ·exact h1
 ·exact h2
theorem Lo.map {o o' : Option α} {f : α → β} (h : Lo o o') : Lo (o.map f) (o'.map f) := by
 intro r hr
 obtain ⟨x, h1, h2⟩ := Option.map_eq_some_iff.1 hr
 rw [h x h1]; exact congrArg some h2
theorem Lo.it {B B' : σ → Option (σ ⊕ ρ)} (h : ∀ s, Lo (B s) (B' s)) : ∀ n s, Lo (itO B n s) (itO B' n s)
 | 0, s => fun r hr => by cases hr
 | n + 1, s => fun r hr => by
  unfold itO at hr ⊢
  cases hb : B s with
  | none => rw [hb] at hr; cases hr
  | some x =>
   rw [hb] at hr
   rw [h s x hb]
   cases x with
   | inl s' => exact Lo.it h n s' r hr
   | inr q => exact hr
theorem Lo.loop {B B' : σ → Option (σ ⊕ ρ)} (h : ∀ s, Lo (B s) (B' s)) (s : σ) : Lo (loopO B s) (loopO B' s) := by
 intro r hr
 obtain ⟨n, hn⟩ := loopO_some.1 hr
 exact loopO_some.2 ⟨n, Lo.it h n s r hn⟩
end
end Go.Vm
