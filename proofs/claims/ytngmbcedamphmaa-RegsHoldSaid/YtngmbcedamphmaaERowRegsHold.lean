/-
 The row of the law, for every input: no condition.
-/
import Derived.Test.YtngmbcedamphmaaESp12
import Derived.Test.YtngmbcedamphmaaEWG13
import Derived.Test.YtngmbcedamphmaaEWG13b
import Derived.Test.YtngmbcedamphmaaEWG13c
import Derived.Test.YtngmbcedamphmaaEWG13d
import Derived.Test.YtngmbcedamphmaaEOG13
import Derived.Test.YtngmbcedamphmaaEPRegsHold
import Derived.Test.YtngmbcedamphmaaRows
import Derived.WalkKit
import Derived.ProofKit
import Derived.OpenShut
import Derived.ShutString
import Derived.ChangeOld
import Derived.Below
import Derived.SizedLaws
set_option linter.unusedVariables false
set_option linter.unusedSimpArgs false
namespace Go.Proofs.Ytngmbcedamphmaa.regsHold
open Go.ChangeShapes Go.WideShapes Go.ChangeAt Go.RowKit Go.Vm Go.Vm.G13
theorem cl9 : Try.prog.cellsOf 9 = 1 := by kernel_rfl
theorem rd9 : Rd Try.prog 9 1 RT.str.rel (fun x => x.size ≤ 9223372036854775807) := Rd.str Try.underlying9
theorem cl3 : Try.prog.cellsOf 3 = 1 := by kernel_rfl
theorem rd3 : Rd Try.prog 3 1 (RT.int .i64).rel (fun x => InR .i64 x) := Rd.int Try.underlying3
theorem cl27 : Try.prog.cellsOf 27 = 1 := by kernel_rfl
theorem rd27 : Rd Try.prog 27 1 (RT.sl (RT.int .i64)).rel (OKs (fun x => InR .i64 x)) := Rd.sl Try.underlying27 cl3 rfl rd3
theorem cl4 : Try.prog.cellsOf 4 = 1 := by kernel_rfl
theorem rd4 : Rd Try.prog 4 1 RT.bool.rel (fun _ => True) := Rd.bool Try.underlying4
theorem cl29 : Try.prog.cellsOf 29 = 9 := by kernel_rfl
theorem rd29 : Rd Try.prog 29 9 RT_TIns.rel OK_TIns := by
 refine (Rd.struct Try.underlying29 cl29 (RdF.cons (f := ⟨ "Op", 3, 0, false, "", "", 0⟩) rfl cl3 rd3 (RdF.cons (f := ⟨ "D", 3, 1, false, "", "", 8⟩) rfl cl3 rd3 (RdF.cons (f := ⟨ "A", 3, 2, false, "", "", 16⟩) rfl cl3 rd3 (RdF.cons (f := ⟨ "B", 3, 3, false, "", "", 24⟩) rfl cl3 rd3 (RdF.cons (f := ⟨ "Imm", 3, 4, false, "", "", 32⟩) rfl cl3 rd3 (RdF.cons (f := ⟨ "Args", 27, 5, false, "", "", 40⟩) rfl cl27 rd27 (RdF.cons (f := ⟨ "What", 3, 6, false, "", "", 64⟩) rfl cl3 rd3 (RdF.cons (f := ⟨ "Volatile", 4, 7, false, "", "", 72⟩) rfl cl4 rd4 (RdF.cons (f := ⟨ "Final", 4, 8, false, "", "", 73⟩) rfl cl4 rd4 RdF.nil)))))))))).map (fun y => (⟨y.1, y.2.1, y.2.2.1, y.2.2.2.1, y.2.2.2.2.1, y.2.2.2.2.2.1, y.2.2.2.2.2.2.1, y.2.2.2.2.2.2.2.1, y.2.2.2.2.2.2.2.2.1⟩ : TIns)) (fun H cs y hr ho => ?_)
 obtain ⟨_, _, rfl, rfl, _, _, rfl, rfl, _, _, rfl, rfl, _, _, rfl, rfl, _, _, rfl, rfl, _, _, rfl, ⟨w0, rfl, g0⟩, _, _, rfl, rfl, _, _, rfl, rfl, _, _, rfl, rfl, rfl⟩ := hr
 exact ⟨⟨w0, rfl, g0⟩, ho⟩
theorem cl22 : Try.prog.cellsOf 22 = 1 := by kernel_rfl
theorem rd22 : Rd Try.prog 22 1 (RT.sl RT_TIns).rel (OKs OK_TIns) := Rd.sl Try.underlying22 cl29 rfl rd29
theorem cl24 : Try.prog.cellsOf 24 = 4 := by kernel_rfl
theorem rd24 : Rd Try.prog 24 4 RT_TFunc.rel OK_TFunc := by
 refine (Rd.struct Try.underlying24 cl24 (RdF.cons (f := ⟨ "Name", 9, 0, false, "", "", 0⟩) rfl cl9 rd9 (RdF.cons (f := ⟨ "Params", 3, 1, false, "", "", 16⟩) rfl cl3 rd3 (RdF.cons (f := ⟨ "Regs", 3, 2, false, "", "", 24⟩) rfl cl3 rd3 (RdF.cons (f := ⟨ "Code", 22, 3, false, "", "", 32⟩) rfl cl22 rd22 RdF.nil))))).map (fun y => (⟨y.1, y.2.1, y.2.2.1, y.2.2.2.1⟩ : TFunc)) (fun H cs y hr ho => ?_)
 obtain ⟨_, _, rfl, rfl, _, _, rfl, rfl, _, _, rfl, rfl, _, _, rfl, ⟨w0, rfl, g0⟩, rfl⟩ := hr
 exact ⟨⟨w0, rfl, g0⟩, ho⟩
theorem law (V : Vw) (c0 : Array Value) (x0 : TFunc) (r0 : RT_TFunc.rel V c0.toList x0) (o0 : OK_TFunc x0) : ∃ v V', Cl Try.checked.prog 0 3 #[.agg c0] V.H v V'.H ∧ V.le V' ∧ v = .bool true ∧ Ow V' [] := by
 obtain ⟨v0_0, e0, f0_0⟩ := r0
 have e0 : c0 = #[.string x0.name, .int .i64 x0.params, .int .i64 x0.regs, v0_0] := Array.ext' e0
 subst e0
 exact wk_law13_RegsHold V [] x0 v0_0 f0_0 (.start V) true (law13_RegsHold_law x0 o0)
theorem own : ownKnob Try.prog.godebug = none := by kernel_rfl
theorem laidOut : laidOutB Try.prog = true := by kernel_rfl
set_option maxRecDepth 100000 in
theorem lifted (os : Os) (started : os.Started) (H : Type) (enc : TypeId × Value → H) :
  ReturnsInHanded {} Try.checked os 3 .any (Rows.regsHoldSpec.pre6 enc Try.prog Try.f3 Rows.regsHoldRow.domain false) (Rows.regsHoldSpec.post enc Try.prog Try.f3 false true false false) := by
 refine returnsInHanded_of_change_sized (C := Try.checked) own started (by kernel_rfl) Try.func3
  (ChangeSpec.witness6 (enc := enc) (C := Try.checked) false ⟨#[], #[.agg #[.string ByteArray.empty, .int .i64 0, .int .i64 0, .slice none 0 0]], []⟩ 8 (by kernel_rfl) (by kernel_rfl) (by kernel_rfl) (by kernel_rfl)) ?_
 intro W base args ds gs before hval0 hW hcnd hsz0 _
 have hsz : (DataW.weightsEach Try.prog (Try.f3.params.toList ++ Rows.regsHoldSpec.plain.varTypes Try.prog) (ds ++ gs)).all (· ≤ reachBytes) = true := hsz0
 have hval : ∀ (j : Nat) t v, Try.f3.params[j]? = some t → args[j]? = some v → Value.okWide Try.prog W .any base t v := hval0
 have hW' := hW
 obtain ⟨p, q, hA0, hV, rfl, hfz, hnd⟩ := hW
 have hA : DataW.TrodAll enc Try.prog W 0 (fun _ => true) true Try.f3.params.toList args.toList ds p := hA0
 rw [Try.params3] at hA hval hsz
 obtain ⟨v0, vs0, d0, ds0, p0, q0, hargs, rfl, rfl, h0, r0⟩ := trodAll_cons hA
 obtain ⟨rfl, rfl, rfl⟩ := trodAll_nil r0
 obtain rfl : args = #[v0] := by cases args; simp_all
 obtain ⟨rfl, rfl⟩ := trodVars_none hV
 have lt0 : ∀ x ∈ p0, x.block < W.heap.size := by obtain ⟨m, hm⟩ := h0; exact DataW.trod_lt m _ _ _ hm
 obtain ⟨g0, cs0, y0, e0, R0, o0⟩ := arg_struct Try.underlying24 (hval 0 24 v0 rfl rfl) rd24 h0
 clear hA0 hval0 hsz0 hsz
 have hl := law (V0of W) cs0 y0 R0 o0
 refine (law_top2 (G := 0) (n := 3) (args := #[v0]) (w := W) (Checked.mixed Try.checked) (fun v hv => by
  simp at hv
  subst hv
  exact g0) (by simpa [e0] using hl)).mono fun e W' ⟨he, bel⟩ => ?_
 subst he
 exact ⟨_, rfl, _, _, _, [], _, [], hW', trodAll_mk1 (shut_bool Try.underlying4 _), (trodAll_cons_mk (Below.trod laidOut (by kernel_rfl) (of_decide_eq_true (by kernel_rfl)) h0 bel lt0) trodAll_mk0), rfl, bel.frame _, fun h => by cases h⟩
theorem over : Rows.regsHoldRow.holds Try.pinned (OpenSpec.ofChange Rows.regsHoldSpec) :=
 OpenClaim.holds_of_wide 3 Try.f3 rfl rfl rfl rfl rfl rfl rfl ⟨rfl, rfl, rfl, rfl, rfl⟩ rfl rfl rfl rfl rfl (by kernel_rfl) Try.func3 (by kernel_rfl)
  (of_decide_eq_true (by kernel_rfl)) (by unfold Func.isWrapper; first | (rw [if_pos (by decide +kernel)]; kernel_rfl) | (rw [if_neg (by decide +kernel)]; exact ⟨rfl, rfl⟩))
  (fun os started H enc _ => lifted os started H enc)
theorem proved : Rows.RegsHoldSaid := over
end Go.Proofs.Ytngmbcedamphmaa.regsHold
namespace Go.Proofs.Ytngmbcedamphmaa
theorem regsHold_holds : Rows.RegsHoldSaid := regsHold.proved
end Go.Proofs.Ytngmbcedamphmaa
