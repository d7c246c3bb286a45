/-
 The row of the law, for every input: no condition.
-/
import Derived.Test.YtngmbcedamphmaaESp20
import Derived.Test.YtngmbcedamphmaaEWG13s
import Derived.Test.YtngmbcedamphmaaEWG13sb
import Derived.Test.YtngmbcedamphmaaEWG13sc
import Derived.Test.YtngmbcedamphmaaEOG13s
import Derived.Test.YtngmbcedamphmaaEPRegsSame
import Derived.Test.YtngmbcedamphmaaRows
import Derived.WalkKit
import Derived.ProofKit
import Derived.OpenShut
import Derived.ShutString
import Derived.ChangeOld
import Derived.Below
import Derived.SizedLaws
set_option linter.unusedVariables false
set_option linter.unusedSimpArgs false
namespace Go.Proofs.Ytngmbcedamphmaa.regsSame
open Go.ChangeShapes Go.WideShapes Go.ChangeAt Go.RowKit Go.Vm Go.Vm.G13s
theorem cl9 : Try.prog.cellsOf 9 = 1 := by kernel_rfl
theorem rd9 : RdW Try.prog 9 1 RT.str.rel (fun x => x.size ≤ 9223372036854775807) := (Rd.str Try.underlying9).w
theorem cl3 : Try.prog.cellsOf 3 = 1 := by kernel_rfl
theorem rd3 : RdW Try.prog 3 1 (RT.int .i64).rel (fun x => InR .i64 x) := (Rd.int Try.underlying3).w
theorem cl27 : Try.prog.cellsOf 27 = 1 := by kernel_rfl
theorem rd27 : RdW Try.prog 27 1 (RT.sl (RT.int .i64)).rel (OKv 8 (fun x => InR .i64 x)) := RdW.slv Try.underlying27 cl3 rfl (of_decide_eq_true (by kernel_rfl)) (by kernel_rfl) rd3
theorem cl4 : Try.prog.cellsOf 4 = 1 := by kernel_rfl
theorem rd4 : RdW Try.prog 4 1 RT.bool.rel (fun _ => True) := (Rd.bool Try.underlying4).w
theorem cl29 : Try.prog.cellsOf 29 = 9 := by kernel_rfl
theorem rd29 : RdW Try.prog 29 9 RT_TIns.rel OK_TIns := by
 refine (RdW.struct Try.underlying29 cl29 (RdWF.cons (f := ⟨ "Op", 3, 0, false, "", "", 0⟩) rfl cl3 rd3 (RdWF.cons (f := ⟨ "D", 3, 1, false, "", "", 8⟩) rfl cl3 rd3 (RdWF.cons (f := ⟨ "A", 3, 2, false, "", "", 16⟩) rfl cl3 rd3 (RdWF.cons (f := ⟨ "B", 3, 3, false, "", "", 24⟩) rfl cl3 rd3 (RdWF.cons (f := ⟨ "Imm", 3, 4, false, "", "", 32⟩) rfl cl3 rd3 (RdWF.cons (f := ⟨ "Args", 27, 5, false, "", "", 40⟩) rfl cl27 rd27 (RdWF.cons (f := ⟨ "What", 3, 6, false, "", "", 64⟩) rfl cl3 rd3 (RdWF.cons (f := ⟨ "Volatile", 4, 7, false, "", "", 72⟩) rfl cl4 rd4 (RdWF.cons (f := ⟨ "Final", 4, 8, false, "", "", 73⟩) rfl cl4 rd4 RdWF.nil)))))))))).map (fun y => (⟨y.1, y.2.1, y.2.2.1, y.2.2.2.1, y.2.2.2.2.1, y.2.2.2.2.2.1, y.2.2.2.2.2.2.1, y.2.2.2.2.2.2.2.1, y.2.2.2.2.2.2.2.2.1⟩ : TIns)) (fun H cs y hr ho => ?_)
 obtain ⟨_, _, rfl, rfl, _, _, rfl, rfl, _, _, rfl, rfl, _, _, rfl, rfl, _, _, rfl, rfl, _, _, rfl, ⟨w0, rfl, g0⟩, _, _, rfl, rfl, _, _, rfl, rfl, _, _, rfl, rfl, rfl⟩ := hr
 exact ⟨⟨w0, rfl, g0⟩, ho⟩
theorem cl22 : Try.prog.cellsOf 22 = 1 := by kernel_rfl
theorem rd22 : RdW Try.prog 22 1 (RT.sl RT_TIns).rel (OKw OK_TIns) := RdW.sl Try.underlying22 cl29 rfl (of_decide_eq_true (by kernel_rfl)) rd29
theorem cl24 : Try.prog.cellsOf 24 = 4 := by kernel_rfl
theorem rd24 : RdW Try.prog 24 4 RT_TFunc.rel OK_TFunc := by
 refine (RdW.struct Try.underlying24 cl24 (RdWF.cons (f := ⟨ "Name", 9, 0, false, "", "", 0⟩) rfl cl9 rd9 (RdWF.cons (f := ⟨ "Params", 3, 1, false, "", "", 16⟩) rfl cl3 rd3 (RdWF.cons (f := ⟨ "Regs", 3, 2, false, "", "", 24⟩) rfl cl3 rd3 (RdWF.cons (f := ⟨ "Code", 22, 3, false, "", "", 32⟩) rfl cl22 rd22 RdWF.nil))))).map (fun y => (⟨y.1, y.2.1, y.2.2.1, y.2.2.2.1⟩ : TFunc)) (fun H cs y hr ho => ?_)
 obtain ⟨_, _, rfl, rfl, _, _, rfl, rfl, _, _, rfl, rfl, _, _, rfl, ⟨w0, rfl, g0⟩, rfl⟩ := hr
 exact ⟨⟨w0, rfl, g0⟩, ho⟩
theorem law (V : Vw) (c0 : Array Value) (x0 : TFunc) (r0 : RT_TFunc.rel V c0.toList x0) (o0 : OK_TFunc x0) : ∃ v V', Cl Try.checked.prog 0 4 #[.agg c0] V.H v V'.H ∧ V.le V' ∧ v = .bool true ∧ Ow V' [] := by
 obtain ⟨v0_0, e0, f0_0⟩ := r0
 have e0 : c0 = #[.string x0.name, .int .i64 x0.params, .int .i64 x0.regs, v0_0] := Array.ext' e0
 subst e0
 exact wk_law13_RegsSame V [] x0 v0_0 f0_0 (.start V) true (law13_RegsSame_law x0 o0)
theorem own : ownKnob Try.prog.godebug = none := by kernel_rfl
theorem laidOut : laidOutB Try.prog = true := by kernel_rfl
set_option maxRecDepth 100000 in
theorem lifted (os : Os) (started : os.Started) (H : Type) (enc : TypeId × Value → H) :
  ReturnsInHanded {} Try.checked os 4 .any (Rows.regsSameSpec.pre6 enc Try.prog Try.f4 Rows.regsSameRow.domain false) (Rows.regsSameSpec.post enc Try.prog Try.f4 false true false false) := by
 refine returnsInHanded_of_change_sized (C := Try.checked) own started (by kernel_rfl) Try.func4
  (ChangeSpec.witness6 (enc := enc) (C := Try.checked) false ⟨#[], #[.agg #[.string ByteArray.empty, .int .i64 0, .int .i64 0, .slice none 0 0]], []⟩ 8 (by kernel_rfl) (by kernel_rfl) (by kernel_rfl) (by kernel_rfl)) ?_
 intro W base args ds gs before hval0 hW hcnd hsz0 _
 have hsz : (DataW.weightsEach Try.prog (Try.f4.params.toList ++ Rows.regsSameSpec.plain.varTypes Try.prog) (ds ++ gs)).all (· ≤ reachBytes) = true := hsz0
 have hval : ∀ (j : Nat) t v, Try.f4.params[j]? = some t → args[j]? = some v → Value.okWide Try.prog W .any base t v := hval0
 have hW' := hW
 obtain ⟨p, q, hA0, hV, rfl, hfz, hnd⟩ := hW
 have hA : DataW.TrodAll enc Try.prog W 0 (fun _ => true) true Try.f4.params.toList args.toList ds p := hA0
 rw [Try.params4] at hA hval hsz
 obtain ⟨v0, vs0, d0, ds0, p0, q0, hargs, rfl, rfl, h0, r0⟩ := trodAll_cons hA
 obtain ⟨rfl, rfl, rfl⟩ := trodAll_nil r0
 obtain rfl : args = #[v0] := by cases args; simp_all
 obtain ⟨rfl, rfl⟩ := trodVars_none hV
 have lt0 : ∀ x ∈ p0, x.block < W.heap.size := by obtain ⟨m, hm⟩ := h0; exact DataW.trod_lt m _ _ _ hm
 obtain ⟨g0, cs0, y0, e0, R0, o0⟩ := arg_structW Try.underlying24 (hval 0 24 v0 rfl rfl) rd24 h0 (sized_at hsz (j := 0) (t := 24) (d := d0) rfl rfl)
 clear hA0 hval0 hsz0 hsz
 have hl := law (V0of W) cs0 y0 R0 o0
 refine (law_top2 (G := 0) (n := 4) (args := #[v0]) (w := W) (Checked.mixed Try.checked) (fun v hv => by
  simp at hv
  subst hv
  exact g0) (by simpa [e0] using hl)).mono fun e W' ⟨he, bel⟩ => ?_
 subst he
 exact ⟨_, rfl, _, _, _, [], _, [], hW', trodAll_mk1 (shut_bool Try.underlying4 _), (trodAll_cons_mk (Below.trod laidOut (by kernel_rfl) (of_decide_eq_true (by kernel_rfl)) h0 bel lt0) trodAll_mk0), rfl, bel.frame _, fun h => by cases h⟩
theorem over : Rows.regsSameRow.holds Try.pinned (OpenSpec.ofChange Rows.regsSameSpec) :=
 OpenClaim.holds_of_wide 4 Try.f4 rfl rfl rfl rfl rfl rfl rfl ⟨rfl, rfl, rfl, rfl, rfl⟩ rfl rfl rfl rfl rfl (by kernel_rfl) Try.func4 (by kernel_rfl)
  (of_decide_eq_true (by kernel_rfl)) (by unfold Func.isWrapper; first | (rw [if_pos (by decide +kernel)]; kernel_rfl) | (rw [if_neg (by decide +kernel)]; exact ⟨rfl, rfl⟩))
  (fun os started H enc _ => lifted os started H enc)
theorem proved : Rows.RegsSameSaid := over
end Go.Proofs.Ytngmbcedamphmaa.regsSame
namespace Go.Proofs.Ytngmbcedamphmaa
theorem regsSame_holds : Rows.RegsSameSaid := regsSame.proved
end Go.Proofs.Ytngmbcedamphmaa
