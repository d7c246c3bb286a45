/-
 Plain laws: what a plain function says, by its steps.
-/
import Derived.Test.YtlcjnalocidldaaDoorESp3
set_option linter.unusedSimpArgs false
set_option linter.unusedVariables false
namespace Go.Vm
open Go
def Ok {α : Type} (o : Option α) (P : α → Prop) : Prop := ∃ r, o = some r ∧ P r
section
variable {α β σ ρ : Type} {o : Option α} {P Q : α → Prop} {R : β → Prop}
theorem Ok.ret {r : α} (h : P r) : Ok (some r) P := ⟨r, rfl, h⟩
theorem Ok.bind {k : α → Option β} (h : Ok o P) (hk : ∀ x, P x → Ok (k x) R) : Ok (o.bind k) R := by
 obtain ⟨r, rfl, hr⟩ := h
 exact hk r hr
theorem Ok.mono (h : Ok o P) (hk : ∀ x, P x → Q x) : Ok o Q := by
 obtain ⟨r, h1, hr⟩ := h
 exact ⟨r, h1, hk r hr⟩
theorem Ok.ite {b : Bool} {x y : Option α} (h1 : b = true → Ok x P) (h2 : b = false → Ok y P) : Ok (if b = true then x else y) P := by
 cases b with
 | true => exact h1 rfl
 | false => exact h2 rfl
theorem Ok.map {f : α → β} (h : Ok o (fun x => R (f x))) : Ok (o.map f) R := by
 obtain ⟨r, rfl, hr⟩ := h
 exact ⟨_, rfl, hr⟩
theorem Ok.eq (h : Ok o P) {r : α} (he : o = some r) : P r := by
 obtain ⟨x, h1, h2⟩ := h
 rw [he] at h1; cases h1; exact h2
theorem Ok.some_of {r : α} (h : Ok o (fun x => x = r)) : o = some r := by
 obtain ⟨x, h1, rfl⟩ := h; exact h1
theorem ix_nat {xs : List α} {k : Nat} : ix xs (k : Int) = xs[k]? := by
 unfold ix; rw [if_pos (by omega)]; rfl
theorem ix_some {xs : List α} {k : Nat} (h : k < xs.length) : ix xs (k : Int) = some xs[k] := by
 rw [ix_nat, List.getElem?_eq_getElem h]
theorem Ok.ix {xs : List α} {i : Int} (h0 : 0 ≤ i) (h1 : i < xs.length) : Ok (ix xs i) (fun x => xs[i.toNat]? = some x) := by
 have h2 : i.toNat < xs.length := by omega
 unfold Go.Vm.ix
 rw [if_pos h0, List.getElem?_eq_getElem h2]
 exact .ret rfl
theorem ap_some {xs ys : List α} (h : xs.length + ys.length ≤ 16777216) : ap xs ys = some (xs ++ ys) := by
 unfold ap; rw [if_pos h]
theorem mk_some {n : Nat} {z : α} (h : n ≤ 16777216) : mk (n : Int) z = some (List.replicate n z) := by
 unfold mk; rw [if_pos ⟨by omega, by omega⟩]; rfl
theorem w64_id {x : Int} (h1 : -9223372036854775808 ≤ x) (h2 : x ≤ 9223372036854775807) : w64 x = x := S.i64_ok h1 h2
theorem w64_succ {k : Nat} (h : k < 9223372036854775807) : w64 ((k : Int) + 1) = ((k + 1 : Nat) : Int) := by
 rw [w64_id (by omega) (by omega)]; omega
theorem Ok.loop {B : σ → Option (σ ⊕ ρ)} {P : ρ → Prop} (S : Nat → σ → Prop) (n : Nat)
  (step : ∀ k s, k < n → S k s → Ok (B s) (Sum.elim (S (k + 1)) P)) (fin : ∀ s, S n s → Ok (B s) (Sum.elim (fun _ => False) P)) {s : σ} (h : S 0 s) : Ok (loopO B s) P := by
 have key : ∀ (d k : Nat) (s : σ), k + d = n → S k s → Ok (loopO B s) P := by
  intro d
  induction d with
  | zero =>
   intro k s hk hs
   have : k = n := by omega
   subst this
   obtain ⟨x, h1, h2⟩ := fin s hs
   rw [loopO_eq, h1]
   cases x with
   | inl s' => exact h2.elim
   | inr r => exact ⟨r, rfl, h2⟩
  | succ d ih =>
   intro k s hk hs
   obtain ⟨x, h1, h2⟩ := step k s (by omega) hs
   rw [loopO_eq, h1]
   cases x with
   | inl s' => exact ih (k + 1) s' (by omega) h2
   | inr r => exact ⟨r, rfl, h2⟩
 exact key n 0 s (by omega) h
theorem Ok.loopM {B : σ → Option (σ ⊕ ρ)} {P : ρ → Prop} (I : σ → Prop) (μ : σ → Nat)
  (step : ∀ s, I s → Ok (B s) (Sum.elim (fun s' => I s' ∧ μ s' < μ s) P)) {s : σ} (h : I s) : Ok (loopO B s) P := by
 refine loopO_inv I μ P (fun s hs => ?_) s h
 obtain ⟨x, h1, h2⟩ := step s hs
 cases x with
 | inl s' => exact .inl ⟨s', h1, h2⟩
 | inr r => exact .inr ⟨r, h1, h2⟩
theorem loop_fold {α : Type} {B : σ → Option (σ ⊕ ρ)} (xs : List α) (st : β → Int → σ) (f : β → α → β) (g : β → ρ) (a0 : β) (hn : xs.length ≤ 9223372036854775807)
  (step : ∀ (k : Nat) (x : α) (a : β), xs[k]? = some x → a = (xs.take k).foldl f a0 → B (st a k) = some (.inl (st (f a x) (w64 ((k : Int) + 1)))))
  (fin : ∀ (a : β), a = xs.foldl f a0 → B (st a xs.length) = some (.inr (g a))) : loopO B (st a0 0) = some (g (xs.foldl f a0)) := by
 have := Ok.loop (B := B) (P := fun r => r = g (xs.foldl f a0)) (fun k s => s = st ((xs.take k).foldl f a0) (k : Int)) xs.length (fun k s hk hs => ?_) (fun s hs => ?_) (s := st a0 0) rfl
 ·exact this.some_of
 ·subst hs
  rw [step k xs[k] _ (List.getElem?_eq_getElem hk) rfl]
  refine ⟨_, rfl, ?_⟩
  show _ = _
  rw [w64_succ (by omega), List.take_add_one, List.getElem?_eq_getElem hk, Option.toList_some, List.foldl_append]
  rfl
 ·subst hs
  rw [List.take_length, fin _ rfl]
  exact ⟨_, rfl, rfl⟩
theorem loop_all {α : Type} {B : Int → Option (Int ⊕ ρ)} {P : ρ → Prop} (xs : List α) (hn : xs.length ≤ 9223372036854775807)
  (step : ∀ (k : Nat) (x : α), xs[k]? = some x → Ok (B k) (Sum.elim (fun s => s = w64 ((k : Int) + 1)) P))
  (fin : Ok (B xs.length) (Sum.elim (fun _ => False) P)) : Ok (loopO B 0) P := by
 refine Ok.loop (fun k s => s = (k : Int)) xs.length (fun k s hk hs => ?_) (fun s hs => ?_) rfl
 ·subst hs
  refine (step k xs[k] (List.getElem?_eq_getElem hk)).mono fun x hx => ?_
  cases x with
  | inl s' => show s' = _; rw [show s' = _ from hx, w64_succ (by omega)]
  | inr r => exact hx
 ·subst hs; exact fin
end
end Go.Vm
