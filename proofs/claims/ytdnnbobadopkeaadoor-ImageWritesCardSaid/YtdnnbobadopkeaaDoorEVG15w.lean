/-
 The package variables of this seat, out of what the rows list; and a start that holds them.
-/
import Derived.Test.YtdnnbobadopkeaaDoorESp14
import Derived.Test.YtdnnbobadopkeaaDoorEDG15w
import Derived.Test.YtdnnbobadopkeaaDoorRows
import Derived.Handed
set_option linter.unusedSimpArgs false
set_option linter.unusedVariables false
namespace Go.Proofs.YtdnnbobadopkeaaDoor
open Go Go.RowKit Go.ChangeShapes Go.WideShapes Go.ChangeAt Go.Vm Go.Vm.G15w
theorem bytes_inj {s t : ByteArray} (h : s.data.toList = t.data.toList) : s = t := by
 obtain ⟨⟨s⟩⟩ := s
 obtain ⟨⟨t⟩⟩ := t
 simp only at h
 rw [h]
theorem three {α : Type} {l : List α} (h : l.length = 3) : ∃ a b c, l = [a, b, c] := by
 match l, h with
 | [a, b, c], _ => exact ⟨a, b, c, rfl⟩
def enc0 (x : ByteArray) : DataW Unit := .lit (.string x.data.toList)
def val0 (x : ByteArray) : List Value := [.string x]
theorem laidIs0 : (Rows.laid_tourbillon_image_roles : DataW Unit) = .agg (gl0.map enc0) := by kernel_rfl
theorem vcl0 : Tryd.prog.cellsOf 9 = 1 := by kernel_rfl
theorem elem0 {w : World} {fuel : Nat} {cs : List Value} {ps : List MemPlace} {x : ByteArray} (h : DataW.trod (fun _ => ()) Tryd.prog w 0 (fun _ => true) false fuel 9 cs = some (enc0 x, ps)) : cs = val0 x := by
 obtain ⟨s, p, q, _⟩ := DataW.trod_string Tryd.underlying9 h
 have q := congrArg Prod.fst q
 unfold enc0 at q
 subst p
 simp only [DataW.lit.injEq, Lit.string.injEq] at q
 unfold val0
 rw [bytes_inj q]
def enc1 (x : Tisa_shape) : DataW Unit := .agg [.lit (.string x.name.data.toList), .lit (.string x.fields.data.toList), .lit (.int .u32 x.word)]
def val1 (x : Tisa_shape) : List Value := [.string x.name, .string x.fields, .int .u32 x.word]
theorem laidIs1 : (Rows.laid_tourbillon_isa_shapes : DataW Unit) = .agg (gl1.map enc1) := by kernel_rfl
theorem vcl1 : Tryd.prog.cellsOf 81 = 3 := by kernel_rfl
set_option maxRecDepth 100000 in
theorem elem1 {w : World} {fuel : Nat} {cs : List Value} {ps : List MemPlace} {x : Tisa_shape} (h : DataW.trod (fun _ => ()) Tryd.prog w 0 (fun _ => true) false fuel 81 cs = some (enc1 x, ps)) : cs = val1 x := by
 obtain ⟨xs, n, _, he, hl, hlen, hf⟩ := DataW.trod_struct Tryd.underlying81 h
 have c9 : Tryd.prog.cellsOf 9 = 1 := by kernel_rfl
 have c39 : Tryd.prog.cellsOf 39 = 1 := by kernel_rfl
 have f0 : DataW.trod (fun _ => ()) Tryd.prog w 0 (fun _ => true) false n 9 ((cs.drop 0).take (Tryd.prog.cellsOf 9)) = xs[0]? := hf 0 _ rfl
 have f1 : DataW.trod (fun _ => ()) Tryd.prog w 0 (fun _ => true) false n 9 ((cs.drop 1).take (Tryd.prog.cellsOf 9)) = xs[1]? := hf 1 _ rfl
 have f2 : DataW.trod (fun _ => ()) Tryd.prog w 0 (fun _ => true) false n 39 ((cs.drop 2).take (Tryd.prog.cellsOf 39)) = xs[2]? := hf 2 _ rfl
 rw [c9] at f0
 rw [c9] at f1
 rw [c39] at f2
 rw [vcl1] at hl
 obtain ⟨a, b, c, rfl⟩ := three hl
 obtain ⟨y0, y1, y2, rfl⟩ := three (show xs.length = 3 from hlen)
 have e1 : enc1 x = .agg [y0.1, y1.1, y2.1] := congrArg Prod.fst he
 unfold enc1 at e1
 injection e1 with e1
 simp only [List.cons.injEq, and_true] at e1
 obtain ⟨e2, e3, e4⟩ := e1
 obtain ⟨s0, p0, q0, _⟩ := DataW.trod_string Tryd.underlying9 f0
 obtain ⟨s1, p1, q1, _⟩ := DataW.trod_string Tryd.underlying9 f1
 obtain ⟨s2, p2, q2, _⟩ := DataW.trod_int Tryd.underlying39 f2
 simp at p0 p1 p2
 subst p0 p1 p2 q0 q1 q2
 simp only [DataW.lit.injEq, Lit.string.injEq, Lit.int.injEq, true_and] at e2 e3 e4
 unfold val1
 rw [bytes_inj e2, bytes_inj e3, e4]
set_option maxRecDepth 100000 in
theorem glb_of {W : World} (h : laidMet Tryd.prog [("math/bits.deBruijn32tab", Rows.laid_math_bits_deBruijn32tab), ("math/bits.deBruijn64tab", Rows.laid_math_bits_deBruijn64tab), ("internal/strconv.uint64pow10", Rows.laid_internal_strconv_uint64pow10), ("unicode/utf8.acceptRanges", Rows.laid_unicode_utf8_acceptRanges), ("unicode.White_Space", Rows.laid_unicode_White_Space), ("strings.asciiSpace", Rows.laid_strings_asciiSpace), ("tourbillon/isa.shapes", Rows.laid_tourbillon_isa_shapes), ("tourbillon/image.roles", Rows.laid_tourbillon_image_roles), ("unicode/utf8.first", Rows.laid_unicode_utf8_first)] W) : Glb (V0of W) := by
 have v0 := var_fz (P := Tryd.prog) (R := RT.str) (xs := gl0) (enc := enc0) (vals := val0) (t := 66) (e := 9) (b := 0) (by kernel_rfl) (by kernel_rfl) Tryd.underlying66 vcl0 laidIs0 (by decide) (fun fuel cs ps x h => elem0 h)
  (fun x v hv => by
   simp [val0] at hv
   subst hv
   exact ⟨.string _, rfl⟩)
  (fun V x => rfl) (fun x => rfl) (laid_tail (laid_tail (laid_tail (laid_tail (laid_tail (laid_tail (laid_tail h)))))))
 have v1 := var_fz (P := Tryd.prog) (R := RT_Tisa_shape) (xs := gl1) (enc := enc1) (vals := val1) (t := 82) (e := 81) (b := 1) (by kernel_rfl) (by kernel_rfl) Tryd.underlying82 vcl1 laidIs1 (by decide) (fun fuel cs ps x h => elem1 h)
  (fun x v hv => by
   simp [val1] at hv
   rcases hv with rfl | rfl | rfl
   ·exact ⟨.string _, rfl⟩
   ·exact ⟨.string _, rfl⟩
   ·exact ⟨.int _ _, rfl⟩)
  (fun V x => rfl) (fun x => rfl) (laid_tail (laid_tail (laid_tail (laid_tail (laid_tail (laid_tail h))))))
 have v2 := var_tb (P := Tryd.prog) (g := 2) (t := 105) (e := 5) (n := 256) (k := .u8) (zs := Lib.asciiSpaceTab) (by kernel_rfl) (by kernel_rfl) Tryd.underlying105 Tryd.underlying5 (by kernel_rfl) (by kernel_rfl) (show (Rows.laid_strings_asciiSpace : DataW Unit) = Lib.tabData .u8 Lib.asciiSpaceTab by kernel_rfl) (laid_tail (laid_tail (laid_tail (laid_tail (laid_tail h)))))
 have v4 := var_tb (P := Tryd.prog) (g := 4) (t := 122) (e := 110) (n := 20) (k := .u64) (zs := Lib.pow10Tab) (by kernel_rfl) (by kernel_rfl) Tryd.underlying122 Tryd.underlying110 (by kernel_rfl) (by kernel_rfl) (show (Rows.laid_internal_strconv_uint64pow10 : DataW Unit) = Lib.tabData .u64 Lib.pow10Tab by kernel_rfl) (laid_tail (laid_tail h))
 exact ⟨v4.2, v0.1, v1.1, v2.1, v4.1⟩
def put (cs : Array Value) : Obj → Obj
 | .cells _ t frozen => .cells cs t frozen
 | o => o
noncomputable def varWorld (os : Os) : World :=
 let w0 := World.holding Tryd.prog os ⟨#[], #[], []⟩
 let h8 := w0.heap.modify 8 (put #[.int .u8 0, .int .u8 1, .int .u8 28, .int .u8 2, .int .u8 29, .int .u8 14, .int .u8 24, .int .u8 3, .int .u8 30, .int .u8 22, .int .u8 20, .int .u8 15, .int .u8 25, .int .u8 17, .int .u8 4, .int .u8 8, .int .u8 31, .int .u8 27, .int .u8 13, .int .u8 23, .int .u8 21, .int .u8 19, .int .u8 16, .int .u8 7, .int .u8 26, .int .u8 12, .int .u8 18, .int .u8 6, .int .u8 11, .int .u8 5, .int .u8 10, .int .u8 9])
 let h9 := h8.modify 9 (put #[.int .u8 0, .int .u8 1, .int .u8 56, .int .u8 2, .int .u8 57, .int .u8 49, .int .u8 28, .int .u8 3, .int .u8 61, .int .u8 58, .int .u8 42, .int .u8 50, .int .u8 38, .int .u8 29, .int .u8 17, .int .u8 4, .int .u8 62, .int .u8 47, .int .u8 59, .int .u8 36, .int .u8 45, .int .u8 43, .int .u8 51, .int .u8 22, .int .u8 53, .int .u8 39, .int .u8 33, .int .u8 30, .int .u8 24, .int .u8 18, .int .u8 12, .int .u8 5, .int .u8 63, .int .u8 55, .int .u8 48, .int .u8 27, .int .u8 60, .int .u8 41, .int .u8 37, .int .u8 16, .int .u8 46, .int .u8 35, .int .u8 44, .int .u8 21, .int .u8 52, .int .u8 32, .int .u8 23, .int .u8 11, .int .u8 54, .int .u8 26, .int .u8 40, .int .u8 15, .int .u8 34, .int .u8 20, .int .u8 31, .int .u8 10, .int .u8 25, .int .u8 14, .int .u8 19, .int .u8 9, .int .u8 13, .int .u8 8, .int .u8 7, .int .u8 6])
 let h4 := h9.modify 4 (put (Lib.pow10Tab.map fun z => Value.int .u64 z).toArray)
 let h6 := h4.modify 6 (put #[.int .u8 128, .int .u8 191, .int .u8 160, .int .u8 191, .int .u8 128, .int .u8 159, .int .u8 144, .int .u8 191, .int .u8 128, .int .u8 143, .int .u8 0, .int .u8 0, .int .u8 0, .int .u8 0, .int .u8 0, .int .u8 0, .int .u8 0, .int .u8 0, .int .u8 0, .int .u8 0, .int .u8 0, .int .u8 0, .int .u8 0, .int .u8 0, .int .u8 0, .int .u8 0, .int .u8 0, .int .u8 0, .int .u8 0, .int .u8 0, .int .u8 0, .int .u8 0])
 let h3 := h6.modify 3 (put #[.pointer (some ⟨w0.heap.size, 0, none⟩)])
 let h2 := h3.modify 2 (put (Lib.asciiSpaceTab.map fun z => Value.int .u8 z).toArray)
 let h1 := h2.modify 1 (put (gl1.flatMap val1).toArray)
 let h0 := h1.modify 0 (put (gl0.flatMap val0).toArray)
 let h5 := h0.modify 5 (put (Pinned.utf8FirstZ.map fun (z : Nat) => Value.int .u8 (z : Int)).toArray)
 let k0 := h5.push (.cells #[.slice (some ⟨w0.heap.size + 1, 0, none⟩) 7 7, .slice none 0 0, .int .i64 2] 128 (0, 0))
 let k1 := k0.push (.cells #[.int .u16 9, .int .u16 13, .int .u16 1, .int .u16 32, .int .u16 133, .int .u16 101, .int .u16 160, .int .u16 5760, .int .u16 5600, .int .u16 8192, .int .u16 8202, .int .u16 1, .int .u16 8232, .int .u16 8233, .int .u16 1, .int .u16 8239, .int .u16 8287, .int .u16 48, .int .u16 12288, .int .u16 12288, .int .u16 1] 131 (0, 0))
 { w0 with heap := k1 }
set_option maxRecDepth 100000 in
theorem laid_met (os : Os) (args : Array Value) : laidMet Tryd.prog [("math/bits.deBruijn32tab", Rows.laid_math_bits_deBruijn32tab), ("math/bits.deBruijn64tab", Rows.laid_math_bits_deBruijn64tab), ("internal/strconv.uint64pow10", Rows.laid_internal_strconv_uint64pow10), ("unicode/utf8.acceptRanges", Rows.laid_unicode_utf8_acceptRanges), ("unicode.White_Space", Rows.laid_unicode_White_Space), ("strings.asciiSpace", Rows.laid_strings_asciiSpace), ("tourbillon/isa.shapes", Rows.laid_tourbillon_isa_shapes), ("tourbillon/image.roles", Rows.laid_tourbillon_image_roles), ("unicode/utf8.first", Rows.laid_unicode_utf8_first)] ((varWorld os).forCall (fun _ _ => 0) ⟨#[], args, []⟩).memory :=
 laid_of_run 8 (by kernel_rfl) (by kernel_rfl)
end Go.Proofs.YtdnnbobadopkeaaDoor
