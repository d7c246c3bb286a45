/-
 The package variables of this seat, out of what the rows list; and a start that holds them.
-/
import Derived.Test.YtlcjnalocidldaaDoorESp14
import Derived.Test.YtlcjnalocidldaaDoorEDK17
import Derived.Test.YtlcjnalocidldaaDoorRows
import Derived.Handed
set_option linter.unusedSimpArgs false
set_option linter.unusedVariables false
namespace Go.Proofs.YtlcjnalocidldaaDoor
open Go Go.RowKit Go.ChangeShapes Go.WideShapes Go.ChangeAt Go.Vm Go.Vm.K17
def ndB : List Nat → Nat → Bool
 | [], _ => true
 | k :: ks, m => !(m.testBit k) && ndB ks (m ||| 2 ^ k)
theorem ndB_ok : ∀ (ks : List Nat) (m : Nat), ndB ks m = true → ks.Nodup ∧ ∀ k ∈ ks, m.testBit k = false
 | [], m, _ => ⟨List.nodup_nil, fun k h => by cases h⟩
 | k :: ks, m, h => by
  unfold ndB at h
  rw [Bool.and_eq_true] at h
  obtain ⟨h1, h2⟩ := h
  obtain ⟨h3, h4⟩ := ndB_ok ks _ h2
  have h5 : ∀ j ∈ ks, m.testBit j = false ∧ j ≠ k := fun j hj => by
   have := h4 j hj
   rw [Nat.testBit_or, Bool.or_eq_false_iff] at this
   refine ⟨this.1, fun e => ?_⟩
   subst e
   rw [Nat.testBit_two_pow_self] at this
   cases this.2
  refine ⟨List.nodup_cons.2 ⟨fun hk => (h5 k hk).2 rfl, h3⟩, fun j hj => ?_⟩
  rcases List.mem_cons.1 hj with rfl | hj
  ·simpa using h1
  ·exact (h5 j hj).1
def plKey : MemPlace → Nat
 | .cell b o => b * 1024 + o
 | .map m => m * 1024 + 1023
theorem nd_of_map {α β : Type} (f : α → β) {l : List α} (h : (l.map f).Nodup) : l.Nodup := by
 rw [List.Nodup, List.pairwise_map] at h
 exact h.imp (fun {a b} (hn : f a ≠ f b) (e : a = b) => hn (congrArg f e))
theorem laid_of_run {P : Program} {w : World} {l : List (String × DataW Unit)} (fuel : Nat) (h : (DataW.laidRun P w fuel (l.map (·.1))).map (·.1) = some l)
  (hr : (DataW.laidRun P w fuel (l.map (·.1))).map (fun x => ndB (x.2.map plKey) 0 && laidRowsB P w x.2) = some true) : laidMet P l w := by
 cases hx : DataW.laidRun P w fuel (l.map (·.1)) with
 | none => simp [hx] at h
 | some x =>
  obtain ⟨l', ps⟩ := x
  simp only [hx, Option.map_some, Option.some.injEq] at h hr
  subst h
  simp only [Bool.and_eq_true] at hr
  exact laidMet_of_run fuel hx (decide_eq_true (nd_of_map _ (ndB_ok _ _ hr.1).1)) hr.2
theorem bytes_inj {s t : ByteArray} (h : s.data.toList = t.data.toList) : s = t := by
 obtain ⟨⟨s⟩⟩ := s
 obtain ⟨⟨t⟩⟩ := t
 simp only at h
 rw [h]
theorem three {α : Type} {l : List α} (h : l.length = 3) : ∃ a b c, l = [a, b, c] := by
 match l, h with
 | [a, b, c], _ => exact ⟨a, b, c, rfl⟩
def enc0 (x : Tisa_shape) : DataW Unit := .agg [.lit (.string x.name.data.toList), .lit (.string x.fields.data.toList), .lit (.int .u32 x.word)]
def val0 (x : Tisa_shape) : List Value := [.string x.name, .string x.fields, .int .u32 x.word]
theorem laidIs0 : (Rows.laid_tourbillon_isa_shapes : DataW Unit) = .agg (gl0.map enc0) := by kernel_rfl
theorem vcl0 : Tryd.prog.cellsOf 123 = 3 := by kernel_rfl
set_option maxRecDepth 100000 in
theorem elem0 {w : World} {fuel : Nat} {cs : List Value} {ps : List MemPlace} {x : Tisa_shape} (h : DataW.trod (fun _ => ()) Tryd.prog w 0 (fun _ => true) false fuel 123 cs = some (enc0 x, ps)) : cs = val0 x := by
 obtain ⟨xs, n, _, he, hl, hlen, hf⟩ := DataW.trod_struct Tryd.underlying123 h
 have c9 : Tryd.prog.cellsOf 9 = 1 := by kernel_rfl
 have c59 : Tryd.prog.cellsOf 59 = 1 := by kernel_rfl
 have f0 : DataW.trod (fun _ => ()) Tryd.prog w 0 (fun _ => true) false n 9 ((cs.drop 0).take (Tryd.prog.cellsOf 9)) = xs[0]? := hf 0 _ rfl
 have f1 : DataW.trod (fun _ => ()) Tryd.prog w 0 (fun _ => true) false n 9 ((cs.drop 1).take (Tryd.prog.cellsOf 9)) = xs[1]? := hf 1 _ rfl
 have f2 : DataW.trod (fun _ => ()) Tryd.prog w 0 (fun _ => true) false n 59 ((cs.drop 2).take (Tryd.prog.cellsOf 59)) = xs[2]? := hf 2 _ rfl
 rw [c9] at f0
 rw [c9] at f1
 rw [c59] at f2
 rw [vcl0] at hl
 obtain ⟨a, b, c, rfl⟩ := three hl
 obtain ⟨y0, y1, y2, rfl⟩ := three (show xs.length = 3 from hlen)
 have e1 : enc0 x = .agg [y0.1, y1.1, y2.1] := congrArg Prod.fst he
 unfold enc0 at e1
 injection e1 with e1
 simp only [List.cons.injEq, and_true] at e1
 obtain ⟨e2, e3, e4⟩ := e1
 obtain ⟨s0, p0, q0, _⟩ := DataW.trod_string Tryd.underlying9 f0
 obtain ⟨s1, p1, q1, _⟩ := DataW.trod_string Tryd.underlying9 f1
 obtain ⟨s2, p2, q2, _⟩ := DataW.trod_int Tryd.underlying59 f2
 simp at p0 p1 p2
 subst p0 p1 p2 q0 q1 q2
 simp only [DataW.lit.injEq, Lit.string.injEq, Lit.int.injEq, true_and] at e2 e3 e4
 unfold val0
 rw [bytes_inj e2, bytes_inj e3, e4]
set_option maxRecDepth 100000 in
theorem glb_of {W : World} (h : laidMet Tryd.prog [("tourbillon/isa.shapes", Rows.laid_tourbillon_isa_shapes)] W) : Glb (V0of W) := by
 have v0 := var_fz (P := Tryd.prog) (R := RT_Tisa_shape) (xs := gl0) (enc := enc0) (vals := val0) (t := 124) (e := 123) (b := 0) (by kernel_rfl) (by kernel_rfl) Tryd.underlying124 vcl0 laidIs0 (by decide) (fun fuel cs ps x h => elem0 h)
  (fun x v hv => by
   simp [val0] at hv
   rcases hv with rfl | rfl | rfl
   ·exact ⟨.string _, rfl⟩
   ·exact ⟨.string _, rfl⟩
   ·exact ⟨.int _ _, rfl⟩)
  (fun V x => rfl) (fun x => rfl) h
 exact ⟨v0.2, v0.1⟩
def put (cs : Array Value) : Obj → Obj
 | .cells _ t frozen => .cells cs t frozen
 | o => o
noncomputable def varWorld (os : Os) : World :=
 let w0 := World.holding Tryd.prog os ⟨#[], #[], []⟩
 let h0 := w0.heap.modify 0 (put (gl0.flatMap val0).toArray)
 { w0 with heap := h0 }
set_option maxRecDepth 100000 in
theorem laid_met (os : Os) (args : Array Value) : laidMet Tryd.prog [("tourbillon/isa.shapes", Rows.laid_tourbillon_isa_shapes)] ((varWorld os).forCall (fun _ _ => 0) ⟨#[], args, []⟩).memory :=
 laid_of_run 8 (by kernel_rfl) (by kernel_rfl)
end Go.Proofs.YtlcjnalocidldaaDoor
