/-
  Part of an evaluator for the model, proved sound: no condition.
-/
import Derived.Test.YtngmbcedamphmaaEVm16
set_option linter.unusedSimpArgs false
set_option linter.unusedVariables false
namespace Go.Vm
open Go
structure OwnH (H0 H : AH) (b : Nat) (x : AObj) : Prop where
 ge : H0.next ≤ b
 lt : b < H.next
 get : H.get b = some x
structure NwH (H : AH) (b : Nat) (H' : AH) (x : AObj) : Prop where
 eq : b = H.next
 heap : H' = H.new x
theorem NwH.own {H0 H H' : AH} {b : Nat} {x : AObj} (h : NwH H b H' x) (he : H0.next ≤ H.next) : OwnH H0 H' b x := by
 obtain ⟨rfl, rfl⟩ := h
 exact ⟨he, by simp [AH.new], by simp [AH.new]⟩
structure StH (H : AH) (b : Nat) (H' : AH) (x : AObj) : Prop where
 heap : H' = H.upd b (some x)
theorem StH.own {H0 H H' : AH} {b : Nat} {x y : AObj} (h : StH H b H' x) (ho : OwnH H0 H b y) : OwnH H0 H' b x := by
 obtain ⟨rfl⟩ := h
 exact ⟨ho.ge, ho.lt, by simp [AH.upd]⟩
theorem OwnH.st {H0 H H' : AH} {b c : Nat} {x y : AObj} (ho : OwnH H0 H c y) (h : StH H b H' x) (hne : c ≠ b) : OwnH H0 H' c y := by
 obtain ⟨rfl⟩ := h
 exact ⟨ho.ge, ho.lt, by simp [AH.upd, hne, ho.get]⟩
structure ApH (H : AH) (b : Option Nat) (b' : Nat) (H' : AH) (x : AObj) : Prop where
 eq : b' = H.next
 heap : H' = (match b with | some b => H.upd b none | none => H).new x
theorem ApH.own {H0 H H' : AH} {b : Option Nat} {b' : Nat} {x : AObj} (h : ApH H b b' H' x) (he : H0.next ≤ H.next) : OwnH H0 H' b' x := by
 obtain ⟨rfl, rfl⟩ := h
 cases b <;> exact ⟨he, by simp [AH.new, AH.upd], by simp [AH.new, AH.upd]⟩
theorem WP.loopI {P : Program} {G N : Nat} {σ : Type} (F : σ → List (Nat × Value)) (I : σ → AH → Prop) (μ : σ → Nat) {c : Code} {Q : XQ}
  (round : ∀ s H, I s H → WP P G N c (sq (fun l H' => ∃ s', I s' H' ∧ μ s' < μ s ∧ ∀ p ∈ F s', fr l p.1 = p.2) Q) (F s) H) (s : σ) (H : AH) (h : I s H) (l : List (Nat × Value)) (hl : ∀ p ∈ F s, fr l p.1 = p.2) : WP P G N (.loop c) Q l H := by
 have key : ∀ (n : Nat) (s : σ) (H : AH), μ s = n → I s H → WP P G N (.loop c) Q (F s) H := by
  intro n
  induction n using Nat.strongRecOn with
  | _ n ih =>
   intro s H hn hI
   refine WP.loop ((round s H hI).mono (fun e l H' hq => ?_))
   cases e with
   | normal =>
    obtain ⟨s', h1, h2, h3⟩ := hq
    exact WP.weak (F s') h3 (ih (μ s') (hn ▸ h2) s' H' rfl h1)
   | exit id => exact hq
   | ret => exact hq
 exact WP.weak (F s) hl (key _ s H rfl h)
theorem allNil {l : List (Nat × Value)} : ∀ p ∈ ([] : List (Nat × Value)), fr l p.1 = p.2 := fun p h => by cases h
theorem allCons {l r : List (Nat × Value)} {i : Nat} {v : Value} (h : aev (fr l) (.tmp i) = v) (hr : ∀ p ∈ r, fr l p.1 = p.2) : ∀ p ∈ (i, v) :: r, fr l p.1 = p.2 := fun p hp => by
 cases hp with
 | head => exact h
 | tail _ hp => exact hr p hp
section
variable {P : Program} {G N : Nat} {ops : Array Oper} {i : Nat} {l : List (Nat × Value)} {H : AH} {Q : LQ} {o : Oper} {d : Tmp}
end
end Go.Vm
