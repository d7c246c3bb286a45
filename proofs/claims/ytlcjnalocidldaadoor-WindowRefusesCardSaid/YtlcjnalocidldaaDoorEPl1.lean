/-
 Plain laws: tables.
-/
import Derived.Test.YtlcjnalocidldaaDoorEPl0
set_option linter.unusedSimpArgs false
set_option linter.unusedVariables false
namespace Go.Vm
open Go
def tb {α : Type} (n : Nat) (g : Nat → α) : List α := (List.range n).map g
section
variable {α : Type} {n : Nat} {g h : Nat → α}
@[simp] theorem tb_len : (tb n g).length = n := by simp [tb]
theorem tb_get? {k : Nat} : (tb n g)[k]? = if k < n then some (g k) else none := by
 unfold tb
 rw [List.getElem?_map]
 by_cases h : k < n
 ·rw [if_pos h, List.getElem?_eq_getElem (by simpa using h)]; simp
 ·rw [if_neg h, List.getElem?_eq_none (by simpa using h)]; rfl
theorem ix_tb {k : Nat} (hk : k < n) : ix (tb n g) (k : Int) = some (g k) := by rw [ix_nat, tb_get?, if_pos hk]
theorem tb_set {k : Nat} {v : α} : (tb n g).set k v = tb n (fun j => if j = k then v else g j) := by
 apply List.ext_getElem?
 intro j
 rw [List.getElem?_set, tb_get?, tb_get?, tb_len]
 by_cases hj : k = j
 ·subst hj; simp
 ·rw [if_neg hj]
  by_cases h2 : j < n
  ·rw [if_pos h2, if_pos h2, if_neg (fun e => hj e.symm)]
  ·rw [if_neg h2, if_neg h2]
theorem tb_succ : tb (n + 1) g = tb n g ++ [g n] := by simp [tb, List.range_succ]
end
theorem mem_take_succ {α : Type} {xs : List α} {k : Nat} {x : α} (hk : k < xs.length) : x ∈ xs.take (k + 1) ↔ x ∈ xs.take k ∨ x = xs[k] := by
 rw [List.take_add_one, List.getElem?_eq_getElem hk, Option.toList_some, List.mem_append, List.mem_singleton]
theorem loop_for {α σ ρ : Type} {B : σ → Option (σ ⊕ ρ)} {P : ρ → Prop} (xs : List α) (S : Nat → σ → Prop)
  (step : ∀ (k : Nat) (x : α) (s : σ), k < xs.length → xs[k]? = some x → S k s → Ok (B s) (Sum.elim (S (k + 1)) P))
  (fin : ∀ s, S xs.length s → Ok (B s) (Sum.elim (fun _ => False) P)) {s : σ} (h : S 0 s) : Ok (loopO B s) P :=
 Ok.loop S xs.length (fun k s hk hs => step k xs[k] s hk (List.getElem?_eq_getElem hk) hs) fin h
end Go.Vm
