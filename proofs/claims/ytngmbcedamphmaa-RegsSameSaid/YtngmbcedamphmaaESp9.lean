/-
  Part of an evaluator for the model, proved sound: no condition.
-/
import Derived.Test.YtngmbcedamphmaaESp8
set_option linter.unusedSimpArgs false
set_option linter.unusedVariables false
namespace Go.Vm
open Go
def Al {α : Type} (hs : List Value) (ys : List (List α)) (sz : Nat) (v : Value) (zs : List α) : Prop :=
 (v = .slice none 0 0 ∧ zs = []) ∨ ∃ (i : Int) (h : Value) (xs : List α) (b o n : Nat), hs[i.toNat]? = some h ∧ ix ys i = some xs ∧ h = .slice (some ⟨b, o, none⟩) n sz ∧ v = .slice (some ⟨b, o, none⟩) zs.length sz ∧ zs <+: xs
section
variable {α : Type} {hs : List Value} {ys : List (List α)} {sz : Nat} {v : Value} {zs : List α}
theorem Al.at (h : Al hs ys sz v zs) {j : Int} {x : α} (hx : ix zs j = some x) : ∃ (i : Int) (h : Value) (xs : List α) (b o n : Nat), hs[i.toNat]? = some h ∧ ix ys i = some xs ∧ h = .slice (some ⟨b, o, none⟩) n sz ∧ v = .slice (some ⟨b, o, none⟩) zs.length sz ∧ ix xs j = some x := by
 rcases h with ⟨_, rfl⟩ | ⟨i, h, xs, b, o, n, h1, h2, h3, h4, h5⟩
 ·have := ix_get hx; simp at this
 ·refine ⟨i, h, xs, b, o, n, h1, h2, h3, h4, ?_⟩
  have h6 := ix_ge hx
  have h7 := ix_get hx
  unfold ix
  rw [if_pos h6]
  obtain ⟨t, rfl⟩ := h5
  rw [List.getElem?_append_left (List.getElem?_eq_some_iff.1 h7).1, h7]
theorem Al.of {i : Int} {h : Value} {xs : List α} {eh : Int} (hh : hs[i.toNat]? = some h) (hx : ix ys i = some xs) (hc : cutL xs 0 eh = some zs) (ha : (v = .slice none 0 0 ∧ zs = []) ∨ ∃ b o n, h = .slice (some ⟨b, o, none⟩) n sz ∧ v = .slice (some ⟨b, o, none⟩) zs.length sz) : Al hs ys sz v zs := by
 rcases ha with h | ⟨b, o, n, h1, h2⟩
 ·exact .inl h
 ·obtain ⟨a, c, h3, h4, h5, h6, rfl⟩ := cutL_eq hc
  have ha : a = 0 := by omega
  subst ha
  exact .inr ⟨i, h, xs, b, o, n, hh, hx, h1, h2, by simpa using List.take_prefix c xs⟩
end
section
variable {P : Program} {o : Oper} {t : T} {H : AH} {As : List At} {k : Nat} {C : CallRel}
end
section
variable {P : Program} {G N : Nat} {dr : Bool} {ops : Array Oper} {i : Nat} {hist : Hist} {l : List (Nat × Value)} {V : Vw} {Q : LQ} {o : Oper} {d : Tmp} {As : List At} {k : Nat}
end
end Go.Vm
