/-
 Plain laws: tables.
-/
import Derived.Test.YtdnnbobadopkeaaDoorEPl0
set_option linter.unusedSimpArgs false
set_option linter.unusedVariables false
namespace Go.Vm
open Go
def tb {α : Type} (n : Nat) (g : Nat → α) : List α := (List.range n).map g
section
variable {α : Type} {n : Nat} {g h : Nat → α}
@[simp] theorem tb_len : (tb n g).length = n := by simp [tb]
theorem tb_get? {k : Nat} : (tb n g)[k]? = if k < n then some (g k) else none := by
 unfold tb
 rw [List.getElem?_map]
 by_cases h : k < n
 ·rw [if_pos h, List.getElem?_eq_getElem (by simpa using h)]; simp
 ·rw [if_neg h, List.getElem?_eq_none (by simpa using h)]; rfl
theorem mem_tb {x : α} (hx : x ∈ tb n g) : ∃ k, k < n ∧ x = g k := by
 simp [tb] at hx
 obtain ⟨k, hk, rfl⟩ := hx
 exact ⟨k, hk, rfl⟩
theorem tb_succ : tb (n + 1) g = tb n g ++ [g n] := by simp [tb, List.range_succ]
end
theorem mem_take_succ {α : Type} {xs : List α} {k : Nat} {x : α} (hk : k < xs.length) : x ∈ xs.take (k + 1) ↔ x ∈ xs.take k ∨ x = xs[k] := by
 rw [List.take_add_one, List.getElem?_eq_getElem hk, Option.toList_some, List.mem_append, List.mem_singleton]
theorem loop_for {α σ ρ : Type} {B : σ → Option (σ ⊕ ρ)} {P : ρ → Prop} (xs : List α) (S : Nat → σ → Prop)
  (step : ∀ (k : Nat) (x : α) (s : σ), k < xs.length → xs[k]? = some x → S k s → Ok (B s) (Sum.elim (S (k + 1)) P))
  (fin : ∀ s, S xs.length s → Ok (B s) (Sum.elim (fun _ => False) P)) {s : σ} (h : S 0 s) : Ok (loopO B s) P :=
 Ok.loop S xs.length (fun k s hk hs => step k xs[k] s hk (List.getElem?_eq_getElem hk) hs) fin h
end Go.Vm
