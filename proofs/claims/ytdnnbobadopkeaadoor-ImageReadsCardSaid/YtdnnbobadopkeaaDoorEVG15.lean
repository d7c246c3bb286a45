/-
 The package variable of this seat, out of what the row lays; and a start that holds it.
-/
import Derived.Test.YtdnnbobadopkeaaDoorESp14
import Derived.Test.YtdnnbobadopkeaaDoorEDG15
import Derived.Test.YtdnnbobadopkeaaDoorRows
import Derived.Handed
set_option linter.unusedSimpArgs false
set_option linter.unusedVariables false
namespace Go.Proofs.YtdnnbobadopkeaaDoor
open Go Go.RowKit Go.ChangeShapes Go.WideShapes Go.ChangeAt Go.Vm Go.Vm.G15
def encS (x : Tisa_shape) : DataW Unit := .agg [.lit (.string x.name.data.toList), .lit (.string x.fields.data.toList), .lit (.int .u32 x.word)]
def valS (x : Tisa_shape) : List Value := [.string x.name, .string x.fields, .int .u32 x.word]
theorem laidIs : (Rows.laid_tourbillon_isa_shapes : DataW Unit) = .agg (gl1.map encS) := by kernel_rfl
theorem vcl : Tryd.prog.cellsOf 81 = 3 := by kernel_rfl
theorem bytes_inj {s t : ByteArray} (h : s.data.toList = t.data.toList) : s = t := by
 obtain ⟨⟨s⟩⟩ := s
 obtain ⟨⟨t⟩⟩ := t
 simp only at h
 rw [h]
theorem three {α : Type} {l : List α} (h : l.length = 3) : ∃ a b c, l = [a, b, c] := by
 match l, h with
 | [a, b, c], _ => exact ⟨a, b, c, rfl⟩
set_option maxRecDepth 100000 in
theorem shape_elem {w : World} {fuel : Nat} {cs : List Value} {ps : List MemPlace} {x : Tisa_shape} (h : DataW.trod (fun _ => ()) Tryd.prog w 0 (fun _ => true) false fuel 81 cs = some (encS x, ps)) : cs = valS x := by
 obtain ⟨xs, n, _, he, hl, hlen, hf⟩ := DataW.trod_struct Tryd.underlying81 h
 have c9 : Tryd.prog.cellsOf 9 = 1 := by kernel_rfl
 have c22 : Tryd.prog.cellsOf 39 = 1 := by kernel_rfl
 have f0 : DataW.trod (fun _ => ()) Tryd.prog w 0 (fun _ => true) false n 9 ((cs.drop 0).take (Tryd.prog.cellsOf 9)) = xs[0]? := hf 0 _ rfl
 have f1 : DataW.trod (fun _ => ()) Tryd.prog w 0 (fun _ => true) false n 9 ((cs.drop 1).take (Tryd.prog.cellsOf 9)) = xs[1]? := hf 1 _ rfl
 have f2 : DataW.trod (fun _ => ()) Tryd.prog w 0 (fun _ => true) false n 39 ((cs.drop 2).take (Tryd.prog.cellsOf 39)) = xs[2]? := hf 2 _ rfl
 rw [c9] at f0 f1
 rw [c22] at f2
 rw [vcl] at hl
 obtain ⟨a, b, c, rfl⟩ := three hl
 obtain ⟨y0, y1, y2, rfl⟩ := three (show xs.length = 3 from hlen)
 have e1 : encS x = .agg [y0.1, y1.1, y2.1] := congrArg Prod.fst he
 unfold encS at e1
 injection e1 with e1
 simp only [List.cons.injEq, and_true] at e1
 obtain ⟨e2, e3, e4⟩ := e1
 obtain ⟨s, h1, h2, _⟩ := DataW.trod_string Tryd.underlying9 f0
 obtain ⟨t, h3, h4, _⟩ := DataW.trod_string Tryd.underlying9 f1
 obtain ⟨m, h5, h6, _⟩ := DataW.trod_int Tryd.underlying39 f2
 simp at h1 h3 h5
 subst h1 h3 h5 h2 h4 h6
 simp only [DataW.lit.injEq, Lit.string.injEq, Lit.int.injEq, true_and] at e2 e3 e4
 unfold valS
 rw [bytes_inj e2, bytes_inj e3, e4]
theorem glb_of {W : World} (h : laidMet Tryd.prog [("tourbillon/isa.shapes", Rows.laid_tourbillon_isa_shapes)] W) : Glb (V0of W) := by
 have := var_fz (P := Tryd.prog) (R := RT_Tisa_shape) (xs := gl1) (enc := encS) (vals := valS) (t := 82) (e := 81) (b := 1) (by kernel_rfl) (by kernel_rfl) Tryd.underlying82 vcl laidIs (by decide) (fun fuel cs ps x h => shape_elem h)
  (fun x v hv => by
   simp [valS] at hv
   rcases hv with rfl | rfl | rfl
   ·exact ⟨.string _, rfl⟩
   ·exact ⟨.string _, rfl⟩
   ·exact ⟨.int _ _, rfl⟩)
  (fun V x => rfl) (fun x => rfl) h
 exact ⟨this.2, this.1⟩
noncomputable def varWorld (os : Os) : World :=
 let w0 := World.holding Tryd.prog os ⟨#[], #[], []⟩
 { w0 with heap := w0.heap.modify 1 fun
   | .cells _ t frozen => .cells (gl1.flatMap valS).toArray t frozen
   | o => o }
theorem laid_met (os : Os) (args : Array Value) : laidMet Tryd.prog [("tourbillon/isa.shapes", Rows.laid_tourbillon_isa_shapes)] ((varWorld os).forCall (fun _ _ => 0) ⟨#[], args, []⟩).memory :=
 laidMet_of_run' 8 (by kernel_rfl) (by kernel_rfl)
end Go.Proofs.YtdnnbobadopkeaaDoor
