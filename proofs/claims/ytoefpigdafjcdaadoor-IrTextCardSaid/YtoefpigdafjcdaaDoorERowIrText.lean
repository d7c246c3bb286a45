/-
 The row of the law, for every input: no condition.
-/
import Derived.Test.YtoefpigdafjcdaaDoorESp14
import Derived.Test.YtoefpigdafjcdaaDoorESp20
import Derived.Test.YtoefpigdafjcdaaDoorEWG08
import Derived.Test.YtoefpigdafjcdaaDoorEWG08b
import Derived.Test.YtoefpigdafjcdaaDoorEOG08
import Derived.Test.YtoefpigdafjcdaaDoorEVG08
import Derived.Test.YtoefpigdafjcdaaDoorEPIrText
import Derived.Test.YtoefpigdafjcdaaDoorRows
import Derived.Test.YtoefpigdafjcdaaDoorCards
import Derived.Test.YtoefpigdafjcdaaDoorTie
import Derived.Handed
import Derived.LaidLaws
import Derived.SevenTiedAt
import Derived.WalkKit
import Derived.ProofKit
import Derived.OpenShut
import Derived.ShutString
import Derived.ChangeOld
import Derived.Below
import Derived.SizedLaws
set_option linter.unusedVariables false
set_option linter.unusedSimpArgs false
namespace Go.Proofs.YtoefpigdafjcdaaDoor.irText
open Go.ChangeShapes Go.WideShapes Go.ChangeAt Go.RowKit Go.Vm Go.Vm.G08
theorem cl9 : Tryd.prog.cellsOf 9 = 1 := by kernel_rfl
theorem rd9 : RdW Tryd.prog 9 1 RT.str.rel (fun x => x.size ≤ 9223372036854775807) := (Rd.str Tryd.underlying9).w
theorem cl3 : Tryd.prog.cellsOf 3 = 1 := by kernel_rfl
theorem rd3 : RdW Tryd.prog 3 1 (RT.int .i64).rel (fun x => InR .i64 x) := (Rd.int Tryd.underlying3).w
theorem cl28 : Tryd.prog.cellsOf 28 = 1 := by kernel_rfl
theorem rd28 : RdW Tryd.prog 28 1 (RT.sl (RT.int .i64)).rel (OKv 8 (fun x => InR .i64 x)) := RdW.slv Tryd.underlying28 cl3 rfl (of_decide_eq_true (by kernel_rfl)) (by kernel_rfl) rd3
theorem cl4 : Tryd.prog.cellsOf 4 = 1 := by kernel_rfl
theorem rd4 : RdW Tryd.prog 4 1 RT.bool.rel (fun _ => True) := (Rd.bool Tryd.underlying4).w
theorem cl30 : Tryd.prog.cellsOf 30 = 9 := by kernel_rfl
theorem rd30 : RdW Tryd.prog 30 9 RT_TIns.rel OK_TIns := by
 refine (RdW.struct Tryd.underlying30 cl30 (RdWF.cons (f := ⟨ "Op", 3, 0, false, "", "", 0⟩) rfl cl3 rd3 (RdWF.cons (f := ⟨ "D", 3, 1, false, "", "", 8⟩) rfl cl3 rd3 (RdWF.cons (f := ⟨ "A", 3, 2, false, "", "", 16⟩) rfl cl3 rd3 (RdWF.cons (f := ⟨ "B", 3, 3, false, "", "", 24⟩) rfl cl3 rd3 (RdWF.cons (f := ⟨ "Imm", 3, 4, false, "", "", 32⟩) rfl cl3 rd3 (RdWF.cons (f := ⟨ "Args", 28, 5, false, "", "", 40⟩) rfl cl28 rd28 (RdWF.cons (f := ⟨ "What", 3, 6, false, "", "", 64⟩) rfl cl3 rd3 (RdWF.cons (f := ⟨ "Volatile", 4, 7, false, "", "", 72⟩) rfl cl4 rd4 (RdWF.cons (f := ⟨ "Final", 4, 8, false, "", "", 73⟩) rfl cl4 rd4 RdWF.nil)))))))))).map (fun y => (⟨y.1, y.2.1, y.2.2.1, y.2.2.2.1, y.2.2.2.2.1, y.2.2.2.2.2.1, y.2.2.2.2.2.2.1, y.2.2.2.2.2.2.2.1, y.2.2.2.2.2.2.2.2.1⟩ : TIns)) (fun H cs y hr ho => ?_)
 obtain ⟨_, _, rfl, rfl, _, _, rfl, rfl, _, _, rfl, rfl, _, _, rfl, rfl, _, _, rfl, rfl, _, _, rfl, ⟨w0, rfl, g0⟩, _, _, rfl, rfl, _, _, rfl, rfl, _, _, rfl, rfl, rfl⟩ := hr
 exact ⟨⟨w0, rfl, g0⟩, ho⟩
theorem cl22 : Tryd.prog.cellsOf 22 = 1 := by kernel_rfl
theorem rd22 : RdW Tryd.prog 22 1 (RT.sl RT_TIns).rel (OKv 80 OK_TIns) := RdW.slv Tryd.underlying22 cl30 rfl (of_decide_eq_true (by kernel_rfl)) (by kernel_rfl) rd30
theorem cl24 : Tryd.prog.cellsOf 24 = 4 := by kernel_rfl
theorem rd24 : RdW Tryd.prog 24 4 RT_TFunc.rel OK_TFunc := by
 refine (RdW.struct Tryd.underlying24 cl24 (RdWF.cons (f := ⟨ "Name", 9, 0, false, "", "", 0⟩) rfl cl9 rd9 (RdWF.cons (f := ⟨ "Params", 3, 1, false, "", "", 16⟩) rfl cl3 rd3 (RdWF.cons (f := ⟨ "Regs", 3, 2, false, "", "", 24⟩) rfl cl3 rd3 (RdWF.cons (f := ⟨ "Code", 22, 3, false, "", "", 32⟩) rfl cl22 rd22 RdWF.nil))))).map (fun y => (⟨y.1, y.2.1, y.2.2.1, y.2.2.2.1⟩ : TFunc)) (fun H cs y hr ho => ?_)
 obtain ⟨_, _, rfl, rfl, _, _, rfl, rfl, _, _, rfl, rfl, _, _, rfl, ⟨w0, rfl, g0⟩, rfl⟩ := hr
 exact ⟨⟨w0, rfl, g0⟩, ho⟩
theorem law (V : Vw) (gl : Glb V) (c0 : Array Value) (x0 : TFunc) (r0 : RT_TFunc.rel V c0.toList x0) (o0 : OK_TFunc x0) : ∃ v V', Cl Tryd.checked.prog NG 3 #[.agg c0] V.H v V'.H ∧ V.le V' ∧ v = .bool true ∧ Ow V' [] := by
 obtain ⟨v0_0, e0, f0_0⟩ := r0
 have e0 : c0 = #[.string x0.name, .int .i64 x0.params, .int .i64 x0.regs, v0_0] := Array.ext' e0
 subst e0
 exact wk_law08_IrText V [] gl x0 v0_0 f0_0 (.start V) true (law08_IrText_law x0 o0)
theorem own : ownKnob Tryd.prog.godebug = none := by kernel_rfl
theorem laidOut : laidOutB Tryd.prog = true := by kernel_rfl
set_option maxRecDepth 100000 in
theorem lifted (os : Os) (started : os.Started) (H : Type) (enc : TypeId × Value → H) :
  ReturnsInHanded {} Tryd.checked os 3 .any (fun w args => (Rows.irTextSpec.pre enc Tryd.prog Tryd.f3 Rows.irTextRow.domain false w args ∧ laidMet Tryd.prog Rows.irTextRow.laid w) ∧ sizedMet enc Tryd.prog Tryd.f3 (OpenSpec.ofChange Rows.irTextSpec) false w args)
   (Rows.irTextSpec.post enc Tryd.prog Tryd.f3 false true false false) := by
 refine returnsInHanded_of_change_and (C := Tryd.checked) (X := fun w _ => laidMet Tryd.prog Rows.irTextRow.laid w) (fun _ _ _ hh h => h.of_heap hh) own started (by kernel_rfl) Tryd.func3
  (ChangeSpec.witness_shaped (enc := enc) (C := Tryd.checked) (os := os) (X := fun w _ => laidMet Tryd.prog Rows.irTextRow.laid w) false (varWorld os) #[.agg #[.string ByteArray.empty, .int .i64 0, .int .i64 0, .slice none 0 0]] 8 rfl (World.shaped_of_RefB (by kernel_rfl) (by kernel_rfl)) (by kernel_rfl) (by kernel_rfl) (by kernel_rfl) (laid_met os _)) ?_
 intro W base args ds gs before hval0 hW hcnd hsz0 hL _
 have gl : Glb (V0of W) := glb_of hL
 have hsz : (DataW.weightsEach Tryd.prog (Tryd.f3.params.toList ++ Rows.irTextSpec.plain.varTypes Tryd.prog) (ds ++ gs)).all (· ≤ reachBytes) = true := hsz0
 have hval : ∀ (j : Nat) t v, Tryd.f3.params[j]? = some t → args[j]? = some v → Value.okWide Tryd.prog W .any base t v := hval0
 have hW' := hW
 obtain ⟨p, q, hA0, hV, rfl, hfz, hnd⟩ := hW
 have hA : DataW.TrodAll enc Tryd.prog W 0 (fun _ => true) true Tryd.f3.params.toList args.toList ds p := hA0
 rw [Tryd.params3] at hA hval hsz
 obtain ⟨v0, vs0, d0, ds0, p0, q0, hargs, rfl, rfl, h0, r0⟩ := trodAll_cons hA
 obtain ⟨rfl, rfl, rfl⟩ := trodAll_nil r0
 obtain rfl : args = #[v0] := by cases args; simp_all
 obtain ⟨rfl, rfl⟩ := trodVars_none hV
 have lt0 : ∀ x ∈ p0, x.block < W.heap.size := by obtain ⟨m, hm⟩ := h0; exact DataW.trod_lt m _ _ _ hm
 obtain ⟨g0, cs0, y0, e0, R0, o0⟩ := arg_structW Tryd.underlying24 (hval 0 24 v0 rfl rfl) rd24 h0 (sized_at hsz (j := 0) (t := 24) (d := d0) rfl rfl)
 clear hA0 hval0 hsz0 hsz
 have hl := law (V0of W) gl cs0 y0 R0 o0
 refine (law_top2 (G := NG) (n := 3) (args := #[v0]) (w := W) (Checked.mixed Tryd.checked) (fun v hv => by
  simp at hv
  subst hv
  exact g0) (by simpa [e0] using hl)).mono fun e W' ⟨he, bel⟩ => ?_
 subst he
 exact ⟨_, rfl, _, _, _, [], _, [], hW', trodAll_mk1 (shut_bool Tryd.underlying4 _), (trodAll_cons_mk (Below.trod laidOut (by kernel_rfl) (of_decide_eq_true (by kernel_rfl)) h0 bel lt0) trodAll_mk0), rfl, bel.frame _, fun h => by cases h⟩
theorem over : Rows.irTextRow.holds Tryd.pinned (OpenSpec.ofChange Rows.irTextSpec) :=
 OpenClaim.holds_of_wide 3 Tryd.f3 rfl rfl rfl rfl rfl rfl rfl ⟨rfl, rfl, rfl, rfl, rfl⟩ rfl rfl rfl rfl rfl (by kernel_rfl) Tryd.func3 (by kernel_rfl)
  (of_decide_eq_true (by kernel_rfl)) (by unfold Func.isWrapper; first | (rw [if_pos (by decide +kernel)]; kernel_rfl) | (rw [if_neg (by decide +kernel)]; exact ⟨rfl, rfl⟩))
  (fun os started H enc _ => lifted os started H enc)
theorem proved : Rows.IrTextSaid := over
set_option maxRecDepth 100000 in
theorem card : Rows.IrTextCardSaid :=
 Claim7.holds_tied_plain_at .later [] [.data, .data, .data, .data] true (true, "0b918efe9f82c9ccad572253c713d496c004e8cca4b0b1efe8a91add2d1d581a") false
  over (fun _ h => by cases h) (by kernel_rfl) (fun _ h => by cases h) irText_row_tie rfl ⟨rfl, rfl⟩ (by kernel_rfl) rfl
  (fun f fn hf hfn => by
   obtain rfl : f = 3 := Option.some.inj ((show Tryd.prog.funcNamed Rows.irTextRow.func = some 3 by kernel_rfl).symm.trans hf) |>.symm
   obtain rfl : fn = Tryd.f3 := (Option.some.inj (Tryd.func3.symm.trans hfn)).symm
   exact ⟨by kernel_rfl, fun j t ht => by
    rw [Tryd.params3] at ht
    have hm := Array.mem_of_getElem? ht
    simp at hm
    subst hm
    exact (show Tryd.prog.wantsStandIn 24 = false by kernel_rfl)⟩)
  (by kernel_rfl)
end Go.Proofs.YtoefpigdafjcdaaDoor.irText
namespace Go.Proofs.YtoefpigdafjcdaaDoor
theorem irText_holds : Rows.IrTextCardSaid := irText.card
end Go.Proofs.YtoefpigdafjcdaaDoor
