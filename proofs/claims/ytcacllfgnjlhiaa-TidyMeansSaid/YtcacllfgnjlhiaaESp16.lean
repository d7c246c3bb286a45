/-
 Calls by proved contracts of the library: decimal numerals, joined strings, strings without blanks at their ends.
-/
import Derived.Test.YtcacllfgnjlhiaaESp15
import Derived.Below
import Derived.Lib.LaidTab
import Derived.Lib.ItoaNum
import Derived.Lib.Join
import Derived.Lib.Space
import Derived.Lib.ConvBytes
import Derived.Lib.Walk
import Derived.Lib.UnsafeStr
import Derived.Sort.Grow
import Derived.Deep.Draws
set_option linter.unusedSimpArgs false
set_option linter.unusedVariables false
namespace Go.Vm
open Go Go.RowKit
theorem VRs.two {lo : Nat} {ι : Inj} {v v' : Value} {c : Array Value} (h : VRs lo ι #[v, v'] c) : ∃ u u', c = #[u, u'] ∧ VR lo ι v u ∧ VR lo ι v' u' := by
 obtain ⟨h1, h2⟩ := h
 have h3 : c.size = 2 := h1.symm
 refine ⟨c[0], c[1], ?_, h2 0 (by simp) _, h2 1 (by simp) _⟩
 apply Array.ext
 ·simp [h3]
 ·intro i hi _
  match i with
  | 0 => rfl
  | 1 => rfl
  | i + 2 => omega
end Go.Vm
