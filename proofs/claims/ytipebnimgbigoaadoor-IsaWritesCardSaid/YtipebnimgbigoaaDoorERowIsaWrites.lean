/-
 The row of the law, for every input: no condition.
-/
import Derived.Test.YtipebnimgbigoaaDoorESp14
import Derived.Test.YtipebnimgbigoaaDoorEWG02
import Derived.Test.YtipebnimgbigoaaDoorEWG02b
import Derived.Test.YtipebnimgbigoaaDoorEOG02
import Derived.Test.YtipebnimgbigoaaDoorEVG02
import Derived.Test.YtipebnimgbigoaaDoorEPIsaWrites
import Derived.Test.YtipebnimgbigoaaDoorRows
import Derived.Test.YtipebnimgbigoaaDoorCards
import Derived.Test.YtipebnimgbigoaaDoorTie
import Derived.Handed
import Derived.LaidLaws
import Derived.SevenTiedAt
import Derived.WalkKit
import Derived.ProofKit
import Derived.OpenShut
import Derived.ShutString
import Derived.ChangeOld
import Derived.Below
import Derived.SizedLaws
set_option linter.unusedVariables false
set_option linter.unusedSimpArgs false
namespace Go.Proofs.YtipebnimgbigoaaDoor.isaWrites
open Go.ChangeShapes Go.WideShapes Go.ChangeAt Go.RowKit Go.Vm Go.Vm.G02
theorem cl3 : Tryd.prog.cellsOf 3 = 1 := by kernel_rfl
theorem rd3 : Rd Tryd.prog 3 1 (RT.int .i64).rel (fun x => InR .i64 x) := Rd.int Tryd.underlying3
theorem cl25 : Tryd.prog.cellsOf 25 = 5 := by kernel_rfl
theorem rd25 : Rd Tryd.prog 25 5 RT_TInst.rel OK_TInst := by
 refine (Rd.struct Tryd.underlying25 cl25 (RdF.cons (f := ⟨ "Op", 3, 0, false, "", "", 0⟩) rfl cl3 rd3 (RdF.cons (f := ⟨ "D", 3, 1, false, "", "", 8⟩) rfl cl3 rd3 (RdF.cons (f := ⟨ "A", 3, 2, false, "", "", 16⟩) rfl cl3 rd3 (RdF.cons (f := ⟨ "B", 3, 3, false, "", "", 24⟩) rfl cl3 rd3 (RdF.cons (f := ⟨ "Imm", 3, 4, false, "", "", 32⟩) rfl cl3 rd3 RdF.nil)))))).map (fun y => (⟨y.1, y.2.1, y.2.2.1, y.2.2.2.1, y.2.2.2.2.1⟩ : TInst)) (fun H cs y hr ho => ?_)
 obtain ⟨_, _, rfl, rfl, _, _, rfl, rfl, _, _, rfl, rfl, _, _, rfl, rfl, _, _, rfl, rfl, rfl⟩ := hr
 exact ⟨rfl, ho⟩
theorem law (V : Vw) (gl : Glb V) (c0 : Array Value) (x0 : TInst) (r0 : RT_TInst.rel V c0.toList x0) (o0 : OK_TInst x0) : ∃ v V', Cl Tryd.checked.prog NG 7 #[.agg c0] V.H v V'.H ∧ V.le V' ∧ v = .bool true ∧ Ow V' [] := by
 have e0 := r0
 have e0 : c0 = #[.int .i64 x0.op, .int .i64 x0.d, .int .i64 x0.a, .int .i64 x0.b, .int .i64 x0.imm] := Array.ext' e0
 subst e0
 exact wk_law02_IsaWrites V [] gl x0 (.start V) true (law02_IsaWrites_law x0 o0)
theorem own : ownKnob Tryd.prog.godebug = none := by kernel_rfl
theorem laidOut : laidOutB Tryd.prog = true := by kernel_rfl
set_option maxRecDepth 100000 in
theorem lifted (os : Os) (started : os.Started) (H : Type) (enc : TypeId × Value → H) :
  ReturnsInHanded {} Tryd.checked os 7 .any (fun w args => (Rows.isaWritesSpec.pre enc Tryd.prog Tryd.f7 Rows.isaWritesRow.domain false w args ∧ laidMet Tryd.prog Rows.isaWritesRow.laid w) ∧ sizedMet enc Tryd.prog Tryd.f7 (OpenSpec.ofChange Rows.isaWritesSpec) false w args)
   (Rows.isaWritesSpec.post enc Tryd.prog Tryd.f7 false true false false) := by
 refine returnsInHanded_of_change_and (C := Tryd.checked) (X := fun w _ => laidMet Tryd.prog Rows.isaWritesRow.laid w) (fun _ _ _ hh h => h.of_heap hh) own started (by kernel_rfl) Tryd.func7
  (ChangeSpec.witness_shaped (enc := enc) (C := Tryd.checked) (os := os) (X := fun w _ => laidMet Tryd.prog Rows.isaWritesRow.laid w) false (varWorld os) #[.agg #[.int .i64 0, .int .i64 0, .int .i64 0, .int .i64 0, .int .i64 0]] 8 rfl (World.shaped_of_RefB (by kernel_rfl) (by kernel_rfl)) (by kernel_rfl) (by kernel_rfl) (by kernel_rfl) (laid_met os _)) ?_
 intro W base args ds gs before hval0 hW hcnd hsz0 hL _
 have gl : Glb (V0of W) := glb_of hL
 have hsz : (DataW.weightsEach Tryd.prog (Tryd.f7.params.toList ++ Rows.isaWritesSpec.plain.varTypes Tryd.prog) (ds ++ gs)).all (· ≤ reachBytes) = true := hsz0
 have hval : ∀ (j : Nat) t v, Tryd.f7.params[j]? = some t → args[j]? = some v → Value.okWide Tryd.prog W .any base t v := hval0
 have hW' := hW
 obtain ⟨p, q, hA0, hV, rfl, hfz, hnd⟩ := hW
 have hA : DataW.TrodAll enc Tryd.prog W 0 (fun _ => true) true Tryd.f7.params.toList args.toList ds p := hA0
 rw [Tryd.params7] at hA hval hsz
 obtain ⟨v0, vs0, d0, ds0, p0, q0, hargs, rfl, rfl, h0, r0⟩ := trodAll_cons hA
 obtain ⟨rfl, rfl, rfl⟩ := trodAll_nil r0
 obtain rfl : args = #[v0] := by cases args; simp_all
 obtain ⟨rfl, rfl⟩ := trodVars_none hV
 have lt0 : ∀ x ∈ p0, x.block < W.heap.size := by obtain ⟨m, hm⟩ := h0; exact DataW.trod_lt m _ _ _ hm
 obtain ⟨g0, cs0, y0, e0, R0, o0⟩ := arg_struct Tryd.underlying25 (hval 0 25 v0 rfl rfl) rd25 h0
 clear hA0 hval0 hsz0 hsz
 have hl := law (V0of W) gl cs0 y0 R0 o0
 refine (law_top2 (G := NG) (n := 7) (args := #[v0]) (w := W) (Checked.mixed Tryd.checked) (fun v hv => by
  simp at hv
  subst hv
  exact g0) (by simpa [e0] using hl)).mono fun e W' ⟨he, bel⟩ => ?_
 subst he
 exact ⟨_, rfl, _, _, _, [], _, [], hW', trodAll_mk1 (shut_bool Tryd.underlying4 _), (trodAll_cons_mk (Below.trod laidOut (by kernel_rfl) (of_decide_eq_true (by kernel_rfl)) h0 bel lt0) trodAll_mk0), rfl, bel.frame _, fun h => by cases h⟩
theorem over : Rows.isaWritesRow.holds Tryd.pinned (OpenSpec.ofChange Rows.isaWritesSpec) :=
 OpenClaim.holds_of_wide 7 Tryd.f7 rfl rfl rfl rfl rfl rfl rfl ⟨rfl, rfl, rfl, rfl, rfl⟩ rfl rfl rfl rfl rfl (by kernel_rfl) Tryd.func7 (by kernel_rfl)
  (of_decide_eq_true (by kernel_rfl)) (by unfold Func.isWrapper; first | (rw [if_pos (by decide +kernel)]; kernel_rfl) | (rw [if_neg (by decide +kernel)]; exact ⟨rfl, rfl⟩))
  (fun os started H enc _ => lifted os started H enc)
theorem proved : Rows.IsaWritesSaid := over
theorem card : Rows.IsaWritesCardSaid :=
 Claim7.holds_tied_plain_at .later [] [.data, .data, .data, .data, .listed, .data, .data, .pinned] true (true, "b3d6d68a7063cb582eeeffcf9c0c656dda2c46851ca2169e1c2e6732cfa9f473") false
  over (fun _ h => by cases h) (by kernel_rfl) (fun _ h => by cases h) isaWrites_row_tie rfl ⟨rfl, rfl⟩ (by kernel_rfl) rfl
  (fun f fn hf hfn => by
   obtain rfl : f = 7 := Option.some.inj ((show Tryd.prog.funcNamed Rows.isaWritesRow.func = some 7 by kernel_rfl).symm.trans hf) |>.symm
   obtain rfl : fn = Tryd.f7 := (Option.some.inj (Tryd.func7.symm.trans hfn)).symm
   exact ⟨by kernel_rfl, fun j t ht => by
    rw [Tryd.params7] at ht
    have hm := Array.mem_of_getElem? ht
    simp at hm
    subst hm
    exact (show Tryd.prog.wantsStandIn 25 = false by kernel_rfl)⟩)
  (by kernel_rfl)
end Go.Proofs.YtipebnimgbigoaaDoor.isaWrites
namespace Go.Proofs.YtipebnimgbigoaaDoor
theorem isaWrites_holds : Rows.IsaWritesCardSaid := isaWrites.card
end Go.Proofs.YtipebnimgbigoaaDoor
