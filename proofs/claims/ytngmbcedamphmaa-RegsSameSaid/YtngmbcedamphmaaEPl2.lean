/-
 Plain laws: maps, and the first part of a list.
-/
import Derived.Test.YtngmbcedamphmaaEPl1
import Derived.Test.YtngmbcedamphmaaESp6
set_option linter.unusedSimpArgs false
set_option linter.unusedVariables false
namespace Go.Vm
open Go
section
variable {β : Type}
end
def pre (l : List Int) (n : Int) : List Int := l.takeWhile (fun k => k != n)
theorem nodup_len : ∀ (m : Nat) (l : List Int), l.Nodup → (∀ x ∈ l, 1 ≤ x ∧ x ≤ m) → l.length ≤ m
 | 0, l, _, h => by
  cases l with
  | nil => exact Nat.le_refl _
  | cons a l => have := h a (by simp); omega
 | m + 1, l, hn, h => by
  by_cases hm : ((m + 1 : Nat) : Int) ∈ l
  ·have h1 := nodup_len m (l.erase ((m + 1 : Nat) : Int)) (hn.erase _) (fun x hx => by
    have hx' := (hn.mem_erase_iff).1 hx
    have := h x hx'.2
    have := hx'.1
    omega)
   rw [List.length_erase_of_mem hm] at h1
   omega
  ·have h1 := nodup_len m l hn (fun x hx => by
    have := h x hx
    have : x ≠ ((m + 1 : Nat) : Int) := fun e => hm (e ▸ hx)
    omega)
   omega
end Go.Vm
