/-
 Calls by proved contracts of the library: decimal numerals, joined strings, strings without blanks at their ends.
-/
import Derived.Test.YtcacllfgnjlhiaaESp15
import Derived.Below
import Derived.Lib.LaidTab
import Derived.Lib.ItoaNum
import Derived.Lib.Join
import Derived.Lib.Space
import Derived.Lib.ConvBytes
import Derived.Lib.Walk
import Derived.Lib.UnsafeStr
import Derived.Sort.Grow
import Derived.Deep.Draws
set_option linter.unusedSimpArgs false
set_option linter.unusedVariables false
namespace Go.Vm
open Go Go.RowKit
def Tb (V : Vw) (g : Nat) (k : IntKind) (zs : List Int) : Prop := V.F g ∧ V.H.get g = some (.cells 0 (zs.map fun z => .int k z))
theorem Tb.is {P : Program} {V : Vw} {g : Nat} {k : IntKind} {zs : List Int} {name : String} (h : Tb V g k zs) (hlo : g < V.H.lo) (hg : P.globalNamed name = some g) {ι : Inj} {w : World} (hr : R ι V.H w) : Lib.TabIs P w name k zs := by
 obtain ⟨l, h1, h2, h3, h4⟩ := hr.low g hlo
 obtain ⟨cs, elem, fr, h5, h6, h7, h8, h9, h10⟩ := hr.obj g l _ h1 h.2
 have h11 := h4 0 _ h.2
 rw [h2] at h5
 have h12 : cs = (zs.map fun z => Value.int k z).toArray := by
  apply Array.ext
  ·rw [h6, h11]; simp
  ·intro i hi hi'
   have hz : i < (zs.map fun z => Value.int k z).length := by simpa using hi'
   obtain ⟨v', h13, h14⟩ := h9 i _ (List.getElem?_eq_getElem hz)
   rw [h3, Nat.zero_add, Array.getElem?_eq_getElem hi] at h13
   have h15 := Option.some.inj h13
   have h16 : (zs.map fun z => Value.int k z)[i] = Value.int k zs[i]! := by
    simp only [List.getElem_map]
    congr 1
    rw [getElem!_pos zs i (by simpa using hz)]
   rw [h16] at h14
   have h17 := h14.atom_eq (.int _ _)
   rw [h15, h17]
   simp only [List.getElem_toArray, List.getElem_map]
   congr 1
   rw [getElem!_pos zs i (by simpa using hz)]
 unfold Lib.TabIs World.var?
 rw [hg, Option.bind_some, h5, h12]
theorem VRs.two {lo : Nat} {ι : Inj} {v v' : Value} {c : Array Value} (h : VRs lo ι #[v, v'] c) : ∃ u u', c = #[u, u'] ∧ VR lo ι v u ∧ VR lo ι v' u' := by
 obtain ⟨h1, h2⟩ := h
 have h3 : c.size = 2 := h1.symm
 refine ⟨c[0], c[1], ?_, h2 0 (by simp) _, h2 1 (by simp) _⟩
 apply Array.ext
 ·simp [h3]
 ·intro i hi _
  match i with
  | 0 => rfl
  | 1 => rfl
  | i + 2 => omega
end Go.Vm
