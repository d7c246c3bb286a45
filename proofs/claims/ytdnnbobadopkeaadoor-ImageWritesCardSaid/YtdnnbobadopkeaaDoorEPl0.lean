/-
 Plain laws: what a plain function says, by its steps.
-/
import Derived.Test.YtdnnbobadopkeaaDoorESp3
set_option linter.unusedSimpArgs false
set_option linter.unusedVariables false
namespace Go.Vm
open Go
def Ok {α : Type} (o : Option α) (P : α → Prop) : Prop := ∃ r, o = some r ∧ P r
section
variable {α β σ ρ : Type} {o : Option α} {P Q : α → Prop} {R : β → Prop}
theorem Ok.ret {r : α} (h : P r) : Ok (some r) P := ⟨r, rfl, h⟩
theorem Ok.bind {k : α → Option β} (h : Ok o P) (hk : ∀ x, P x → Ok (k x) R) : Ok (o.bind k) R := by
 obtain ⟨r, rfl, hr⟩ := h
 exact hk r hr
theorem Ok.mono (h : Ok o P) (hk : ∀ x, P x → Q x) : Ok o Q := by
 obtain ⟨r, h1, hr⟩ := h
 exact ⟨r, h1, hk r hr⟩
theorem Ok.ite {b : Bool} {x y : Option α} (h1 : b = true → Ok x P) (h2 : b = false → Ok y P) : Ok (if b = true then x else y) P := by
 cases b with
 | true => exact h1 rfl
 | false => exact h2 rfl
theorem Ok.map {f : α → β} (h : Ok o (fun x => R (f x))) : Ok (o.map f) R := by
 obtain ⟨r, rfl, hr⟩ := h
 exact ⟨_, rfl, hr⟩
theorem Ok.eq (h : Ok o P) {r : α} (he : o = some r) : P r := by
 obtain ⟨x, h1, h2⟩ := h
 rw [he] at h1; cases h1; exact h2
theorem Ok.some_of {r : α} (h : Ok o (fun x => x = r)) : o = some r := by
 obtain ⟨x, h1, rfl⟩ := h; exact h1
theorem Ok.and (h : Ok o P) (h2 : Ok o Q) : Ok o (fun x => P x ∧ Q x) := by
 obtain ⟨r, h3, hr⟩ := h
 exact ⟨r, h3, hr, h2.eq h3⟩
theorem ix_nat {xs : List α} {k : Nat} : ix xs (k : Int) = xs[k]? := by
 unfold ix; rw [if_pos (by omega)]; rfl
theorem ix_some {xs : List α} {k : Nat} (h : k < xs.length) : ix xs (k : Int) = some xs[k] := by
 rw [ix_nat, List.getElem?_eq_getElem h]
theorem Ok.ix {xs : List α} {i : Int} (h0 : 0 ≤ i) (h1 : i < xs.length) : Ok (ix xs i) (fun x => xs[i.toNat]? = some x) := by
 have h2 : i.toNat < xs.length := by omega
 unfold Go.Vm.ix
 rw [if_pos h0, List.getElem?_eq_getElem h2]
 exact .ret rfl
theorem ap_some {xs ys : List α} (h : xs.length + ys.length ≤ 16777216) : ap xs ys = some (xs ++ ys) := by
 unfold ap; rw [if_pos h]
theorem w64_id {x : Int} (h1 : -9223372036854775808 ≤ x) (h2 : x ≤ 9223372036854775807) : w64 x = x := S.i64_ok h1 h2
theorem w64_succ {k : Nat} (h : k < 9223372036854775807) : w64 ((k : Int) + 1) = ((k + 1 : Nat) : Int) := by
 rw [w64_id (by omega) (by omega)]; omega
theorem Ok.loop {B : σ → Option (σ ⊕ ρ)} {P : ρ → Prop} (S : Nat → σ → Prop) (n : Nat)
  (step : ∀ k s, k < n → S k s → Ok (B s) (Sum.elim (S (k + 1)) P)) (fin : ∀ s, S n s → Ok (B s) (Sum.elim (fun _ => False) P)) {s : σ} (h : S 0 s) : Ok (loopO B s) P := by
 have key : ∀ (d k : Nat) (s : σ), k + d = n → S k s → Ok (loopO B s) P := by
  intro d
  induction d with
  | zero =>
   intro k s hk hs
   have : k = n := by omega
   subst this
   obtain ⟨x, h1, h2⟩ := fin s hs
   rw [loopO_eq, h1]
   cases x with
   | inl s' => exact h2.elim
   | inr r => exact ⟨r, rfl, h2⟩
  | succ d ih =>
   intro k s hk hs
   obtain ⟨x, h1, h2⟩ := step k s (by omega) hs
   rw [loopO_eq, h1]
   cases x with
   | inl s' => exact ih (k + 1) s' (by omega) h2
   | inr r => exact ⟨r, rfl, h2⟩
 exact key n 0 s (by omega) h
end
end Go.Vm
