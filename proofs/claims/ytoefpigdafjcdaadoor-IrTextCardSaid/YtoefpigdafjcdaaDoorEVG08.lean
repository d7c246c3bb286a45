/-
 The package variables of this seat, out of what the rows list; and a start that holds them.
-/
import Derived.Test.YtoefpigdafjcdaaDoorESp14
import Derived.Test.YtoefpigdafjcdaaDoorEDG08
import Derived.Test.YtoefpigdafjcdaaDoorRows
import Derived.Handed
set_option linter.unusedSimpArgs false
set_option linter.unusedVariables false
namespace Go.Proofs.YtoefpigdafjcdaaDoor
open Go Go.RowKit Go.ChangeShapes Go.WideShapes Go.ChangeAt Go.Vm Go.Vm.G08
theorem bytes_inj {s t : ByteArray} (h : s.data.toList = t.data.toList) : s = t := by
 obtain ⟨⟨s⟩⟩ := s
 obtain ⟨⟨t⟩⟩ := t
 simp only at h
 rw [h]
theorem three {α : Type} {l : List α} (h : l.length = 3) : ∃ a b c, l = [a, b, c] := by
 match l, h with
 | [a, b, c], _ => exact ⟨a, b, c, rfl⟩
theorem single {α : Type} {l : List α} (h : l.length = 1) : ∃ a, l = [a] := by
 match l, h with
 | [a], _ => exact ⟨a, rfl⟩
def enc0 (x : ByteArray) : DataW Unit := .lit (.string x.data.toList)
def val0 (x : ByteArray) : List Value := [.string x]
theorem laidIs0 : (Rows.laid_tourbillon_ir_names : DataW Unit) = .agg (gl0.map enc0) := by kernel_rfl
theorem vcl0 : Tryd.prog.cellsOf 9 = 1 := by kernel_rfl
theorem elem0 {w : World} {fuel : Nat} {cs : List Value} {ps : List MemPlace} {x : ByteArray} (h : DataW.trod (fun _ => ()) Tryd.prog w 0 (fun _ => true) false fuel 9 cs = some (enc0 x, ps)) : cs = val0 x := by
 obtain ⟨s, p, q, _⟩ := DataW.trod_string Tryd.underlying9 h
 have q := congrArg Prod.fst q
 unfold enc0 at q
 subst p
 simp only [DataW.lit.injEq, Lit.string.injEq] at q
 unfold val0
 rw [bytes_inj q]
set_option maxRecDepth 100000 in
theorem glb_of {W : World} (h : laidMet Tryd.prog [("math/bits.deBruijn32tab", Rows.laid_math_bits_deBruijn32tab), ("math/bits.deBruijn64tab", Rows.laid_math_bits_deBruijn64tab), ("internal/strconv.uint64pow10", Rows.laid_internal_strconv_uint64pow10), ("tourbillon/ir.names", Rows.laid_tourbillon_ir_names)] W) : Glb (V0of W) := by
 have v0 := var_fz (P := Tryd.prog) (R := RT.str) (xs := gl0) (enc := enc0) (vals := val0) (t := 39) (e := 9) (b := 0) (by kernel_rfl) (by kernel_rfl) Tryd.underlying39 vcl0 laidIs0 (by decide) (fun fuel cs ps x h => elem0 h)
  (fun x v hv => by
   simp [val0] at hv
   subst hv
   exact ⟨.string _, rfl⟩)
  (fun V x => rfl) (fun x => rfl) (laid_tail (laid_tail (laid_tail h)))
 have v1 := var_tb (P := Tryd.prog) (g := 1) (t := 99) (e := 84) (n := 20) (k := .u64) (zs := Lib.pow10Tab) (by kernel_rfl) (by kernel_rfl) Tryd.underlying99 Tryd.underlying84 (by kernel_rfl) (by kernel_rfl) (show (Rows.laid_internal_strconv_uint64pow10 : DataW Unit) = Lib.tabData .u64 Lib.pow10Tab by kernel_rfl) (laid_tail (laid_tail h))
 exact ⟨v1.2, v0.1, v1.1⟩
def put (cs : Array Value) : Obj → Obj
 | .cells _ t frozen => .cells cs t frozen
 | o => o
noncomputable def varWorld (os : Os) : World :=
 let w0 := World.holding Tryd.prog os ⟨#[], #[], []⟩
 let h3 := w0.heap.modify 3 (put #[.int .u8 0, .int .u8 1, .int .u8 28, .int .u8 2, .int .u8 29, .int .u8 14, .int .u8 24, .int .u8 3, .int .u8 30, .int .u8 22, .int .u8 20, .int .u8 15, .int .u8 25, .int .u8 17, .int .u8 4, .int .u8 8, .int .u8 31, .int .u8 27, .int .u8 13, .int .u8 23, .int .u8 21, .int .u8 19, .int .u8 16, .int .u8 7, .int .u8 26, .int .u8 12, .int .u8 18, .int .u8 6, .int .u8 11, .int .u8 5, .int .u8 10, .int .u8 9])
 let h4 := h3.modify 4 (put #[.int .u8 0, .int .u8 1, .int .u8 56, .int .u8 2, .int .u8 57, .int .u8 49, .int .u8 28, .int .u8 3, .int .u8 61, .int .u8 58, .int .u8 42, .int .u8 50, .int .u8 38, .int .u8 29, .int .u8 17, .int .u8 4, .int .u8 62, .int .u8 47, .int .u8 59, .int .u8 36, .int .u8 45, .int .u8 43, .int .u8 51, .int .u8 22, .int .u8 53, .int .u8 39, .int .u8 33, .int .u8 30, .int .u8 24, .int .u8 18, .int .u8 12, .int .u8 5, .int .u8 63, .int .u8 55, .int .u8 48, .int .u8 27, .int .u8 60, .int .u8 41, .int .u8 37, .int .u8 16, .int .u8 46, .int .u8 35, .int .u8 44, .int .u8 21, .int .u8 52, .int .u8 32, .int .u8 23, .int .u8 11, .int .u8 54, .int .u8 26, .int .u8 40, .int .u8 15, .int .u8 34, .int .u8 20, .int .u8 31, .int .u8 10, .int .u8 25, .int .u8 14, .int .u8 19, .int .u8 9, .int .u8 13, .int .u8 8, .int .u8 7, .int .u8 6])
 let h1 := h4.modify 1 (put (Lib.pow10Tab.map fun z => Value.int .u64 z).toArray)
 let h0 := h1.modify 0 (put (gl0.flatMap val0).toArray)
 { w0 with heap := h0 }
set_option maxRecDepth 100000 in
theorem laid_met (os : Os) (args : Array Value) : laidMet Tryd.prog [("math/bits.deBruijn32tab", Rows.laid_math_bits_deBruijn32tab), ("math/bits.deBruijn64tab", Rows.laid_math_bits_deBruijn64tab), ("internal/strconv.uint64pow10", Rows.laid_internal_strconv_uint64pow10), ("tourbillon/ir.names", Rows.laid_tourbillon_ir_names)] ((varWorld os).forCall (fun _ _ => 0) ⟨#[], args, []⟩).memory :=
 laid_of_run 8 (by kernel_rfl) (by kernel_rfl)
end Go.Proofs.YtoefpigdafjcdaaDoor
