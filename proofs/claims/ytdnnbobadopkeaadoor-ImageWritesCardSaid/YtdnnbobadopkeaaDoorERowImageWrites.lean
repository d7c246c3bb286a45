/-
 The row of the law, for every input: no condition.
-/
import Derived.Test.YtdnnbobadopkeaaDoorESp14
import Derived.Test.YtdnnbobadopkeaaDoorEWG15w
import Derived.Test.YtdnnbobadopkeaaDoorEWG15wb
import Derived.Test.YtdnnbobadopkeaaDoorEWG15wc
import Derived.Test.YtdnnbobadopkeaaDoorEOG15w
import Derived.Test.YtdnnbobadopkeaaDoorEVG15w
import Derived.Test.YtdnnbobadopkeaaDoorEPImageWrites
import Derived.Test.YtdnnbobadopkeaaDoorRows
import Derived.Test.YtdnnbobadopkeaaDoorCards
import Derived.Test.YtdnnbobadopkeaaDoorTie
import Derived.Handed
import Derived.LaidLaws
import Derived.SevenTiedAt
import Derived.WalkKit
import Derived.ProofKit
import Derived.OpenShut
import Derived.ShutString
import Derived.ChangeOld
import Derived.Below
import Derived.SizedLaws
set_option linter.unusedVariables false
set_option linter.unusedSimpArgs false
namespace Go.Proofs.YtdnnbobadopkeaaDoor.imageWrites
open Go.ChangeShapes Go.WideShapes Go.ChangeAt Go.RowKit Go.Vm Go.Vm.G15w
theorem cl39 : Tryd.prog.cellsOf 39 = 1 := by kernel_rfl
theorem rd39 : Rd Tryd.prog 39 1 (RT.int .u32).rel (fun x => InR .u32 x) := (Rd.int Tryd.underlying39)
theorem cl23 : Tryd.prog.cellsOf 23 = 1 := by kernel_rfl
theorem rd23 : Rd Tryd.prog 23 1 (RT.sl (RT.int .u32)).rel (OKs (fun x => InR .u32 x)) := Rd.sl Tryd.underlying23 cl39 rfl rd39
theorem cl3 : Tryd.prog.cellsOf 3 = 1 := by kernel_rfl
theorem rd3 : Rd Tryd.prog 3 1 (RT.int .i64).rel (fun x => InR .i64 x) := (Rd.int Tryd.underlying3)
theorem cl4 : Tryd.prog.cellsOf 4 = 1 := by kernel_rfl
theorem rd4 : Rd Tryd.prog 4 1 RT.bool.rel (fun _ => True) := (Rd.bool Tryd.underlying4)
theorem cl42 : Tryd.prog.cellsOf 42 = 4 := by kernel_rfl
theorem rd42 : Rd Tryd.prog 42 4 RT_TNote.rel OK_TNote := by
 refine (Rd.struct Tryd.underlying42 cl42 (RdF.cons (f := ⟨ "Role", 3, 0, false, "", "", 0⟩) rfl cl3 rd3 (RdF.cons (f := ⟨ "What", 3, 1, false, "", "", 8⟩) rfl cl3 rd3 (RdF.cons (f := ⟨ "Volatile", 4, 2, false, "", "", 16⟩) rfl cl4 rd4 (RdF.cons (f := ⟨ "Final", 4, 3, false, "", "", 17⟩) rfl cl4 rd4 RdF.nil))))).map (fun y => (⟨y.1, y.2.1, y.2.2.1, y.2.2.2.1⟩ : TNote)) (fun H cs y hr ho => ?_)
 obtain ⟨_, _, rfl, rfl, _, _, rfl, rfl, _, _, rfl, rfl, _, _, rfl, rfl, rfl⟩ := hr
 exact ⟨rfl, ho⟩
theorem cl24 : Tryd.prog.cellsOf 24 = 1 := by kernel_rfl
theorem rd24 : Rd Tryd.prog 24 1 (RT.sl RT_TNote).rel (OKs OK_TNote) := Rd.sl Tryd.underlying24 cl42 rfl rd42
theorem cl25 : Tryd.prog.cellsOf 25 = 1 := by kernel_rfl
theorem rd25 : Rd Tryd.prog 25 1 (RT.sl (RT.int .i64)).rel (OKs (fun x => InR .i64 x)) := Rd.sl Tryd.underlying25 cl3 rfl rd3
theorem cl27 : Tryd.prog.cellsOf 27 = 3 := by kernel_rfl
theorem rd27 : Rd Tryd.prog 27 3 RT_TImage.rel OK_TImage := by
 refine (Rd.struct Tryd.underlying27 cl27 (RdF.cons (f := ⟨ "Code", 23, 0, false, "", "", 0⟩) rfl cl23 rd23 (RdF.cons (f := ⟨ "Notes", 24, 1, false, "", "", 24⟩) rfl cl24 rd24 (RdF.cons (f := ⟨ "Threads", 25, 2, false, "", "", 48⟩) rfl cl25 rd25 RdF.nil)))).map (fun y => (⟨y.1, y.2.1, y.2.2.1⟩ : TImage)) (fun H cs y hr ho => ?_)
 obtain ⟨_, _, rfl, ⟨w0, rfl, g0⟩, _, _, rfl, ⟨w1, rfl, g1⟩, _, _, rfl, ⟨w2, rfl, g2⟩, rfl⟩ := hr
 exact ⟨⟨w0, w1, w2, rfl, g0, g1, g2⟩, ho⟩
theorem law (V : Vw) (gl : Glb V) (c0 : Array Value) (x0 : TImage) (r0 : RT_TImage.rel V c0.toList x0) (o0 : OK_TImage x0) : ∃ v V', Cl Tryd.checked.prog NG 5 #[.agg c0] V.H v V'.H ∧ V.le V' ∧ v = .bool true ∧ Ow V' [] := by
 obtain ⟨v0_0, v0_1, v0_2, e0, f0_0, f0_1, f0_2⟩ := r0
 have e0 : c0 = #[v0_0, v0_1, v0_2] := Array.ext' e0
 subst e0
 exact wk_law15_ImageWrites V [] gl x0 v0_0 v0_1 v0_2 f0_0 f0_1 f0_2 (.start V) true (law15_ImageWrites_law x0 o0)
theorem own : ownKnob Tryd.prog.godebug = none := by kernel_rfl
theorem laidOut : laidOutB Tryd.prog = true := by kernel_rfl
set_option maxRecDepth 100000 in
theorem lifted (os : Os) (started : os.Started) (H : Type) (enc : TypeId × Value → H) :
  ReturnsInHanded {} Tryd.checked os 5 .any (fun w args => (Rows.imageWritesSpec.pre enc Tryd.prog Tryd.f5 Rows.imageWritesRow.domain false w args ∧ laidMet Tryd.prog Rows.imageWritesRow.laid w) ∧ sizedMet enc Tryd.prog Tryd.f5 (OpenSpec.ofChange Rows.imageWritesSpec) false w args)
   (Rows.imageWritesSpec.post enc Tryd.prog Tryd.f5 false true false false) := by
 refine returnsInHanded_of_change_and (C := Tryd.checked) (X := fun w _ => laidMet Tryd.prog Rows.imageWritesRow.laid w) (fun _ _ _ hh h => h.of_heap hh) own started (by kernel_rfl) Tryd.func5
  (ChangeSpec.witness_shaped (enc := enc) (C := Tryd.checked) (os := os) (X := fun w _ => laidMet Tryd.prog Rows.imageWritesRow.laid w) false (varWorld os) #[.agg #[.slice none 0 0, .slice none 0 0, .slice none 0 0]] 8 rfl (World.shaped_of_RefB (by kernel_rfl) (by kernel_rfl)) (by kernel_rfl) (by kernel_rfl) (by kernel_rfl) (laid_met os _)) ?_
 intro W base args ds gs before hval0 hW hcnd hsz0 hL _
 have gl : Glb (V0of W) := glb_of hL
 have hsz : (DataW.weightsEach Tryd.prog (Tryd.f5.params.toList ++ Rows.imageWritesSpec.plain.varTypes Tryd.prog) (ds ++ gs)).all (· ≤ reachBytes) = true := hsz0
 have hval : ∀ (j : Nat) t v, Tryd.f5.params[j]? = some t → args[j]? = some v → Value.okWide Tryd.prog W .any base t v := hval0
 have hW' := hW
 obtain ⟨p, q, hA0, hV, rfl, hfz, hnd⟩ := hW
 have hA : DataW.TrodAll enc Tryd.prog W 0 (fun _ => true) true Tryd.f5.params.toList args.toList ds p := hA0
 rw [Tryd.params5] at hA hval hsz
 obtain ⟨v0, vs0, d0, ds0, p0, q0, hargs, rfl, rfl, h0, r0⟩ := trodAll_cons hA
 obtain ⟨rfl, rfl, rfl⟩ := trodAll_nil r0
 obtain rfl : args = #[v0] := by cases args; simp_all
 obtain ⟨rfl, rfl⟩ := trodVars_none hV
 have lt0 : ∀ x ∈ p0, x.block < W.heap.size := by obtain ⟨m, hm⟩ := h0; exact DataW.trod_lt m _ _ _ hm
 obtain ⟨g0, cs0, y0, e0, R0, o0⟩ := arg_struct Tryd.underlying27 (hval 0 27 v0 rfl rfl) rd27 h0
 clear hA0 hval0 hsz0 hsz
 have hl := law (V0of W) gl cs0 y0 R0 o0
 refine (law_top2 (G := NG) (n := 5) (args := #[v0]) (w := W) (Checked.mixed Tryd.checked) (fun v hv => by
  simp at hv
  subst hv
  exact g0) (by simpa [e0] using hl)).mono fun e W' ⟨he, bel⟩ => ?_
 subst he
 exact ⟨_, rfl, _, _, _, [], _, [], hW', trodAll_mk1 (shut_bool Tryd.underlying4 _), (trodAll_cons_mk (Below.trod laidOut (by kernel_rfl) (of_decide_eq_true (by kernel_rfl)) h0 bel lt0) trodAll_mk0), rfl, bel.frame _, fun h => by cases h⟩
theorem over : Rows.imageWritesRow.holds Tryd.pinned (OpenSpec.ofChange Rows.imageWritesSpec) :=
 OpenClaim.holds_of_wide 5 Tryd.f5 rfl rfl rfl rfl rfl rfl rfl ⟨rfl, rfl, rfl, rfl, rfl⟩ rfl rfl rfl rfl rfl (by kernel_rfl) Tryd.func5 (by kernel_rfl)
  (of_decide_eq_true (by kernel_rfl)) (by unfold Func.isWrapper; first | (rw [if_pos (by decide +kernel)]; kernel_rfl) | (rw [if_neg (by decide +kernel)]; exact ⟨rfl, rfl⟩))
  (fun os started H enc _ => lifted os started H enc)
theorem proved : Rows.ImageWritesSaid := over
set_option maxRecDepth 100000 in
theorem card : Rows.ImageWritesCardSaid :=
 Claim7.holds_tied_plain_at .later [] [.data, .data, .data, .data, .listed, .data, .data, .data, .pinned] true (true, "b65bc2b3dc6d3942864c480b36d3d94dee2bc1c52e5ee4141c3dac20a8da80d1") false
  over (fun _ h => by cases h) (by kernel_rfl) (fun _ h => by cases h) imageWrites_row_tie rfl ⟨rfl, rfl⟩ (by kernel_rfl) rfl
  (fun f fn hf hfn => by
   obtain rfl : f = 5 := Option.some.inj ((show Tryd.prog.funcNamed Rows.imageWritesRow.func = some 5 by kernel_rfl).symm.trans hf) |>.symm
   obtain rfl : fn = Tryd.f5 := (Option.some.inj (Tryd.func5.symm.trans hfn)).symm
   exact ⟨by kernel_rfl, fun j t ht => by
    rw [Tryd.params5] at ht
    have hm := Array.mem_of_getElem? ht
    simp at hm
    subst hm
    exact (show Tryd.prog.wantsStandIn 27 = false by kernel_rfl)⟩)
  (by kernel_rfl)
end Go.Proofs.YtdnnbobadopkeaaDoor.imageWrites
namespace Go.Proofs.YtdnnbobadopkeaaDoor
theorem imageWrites_holds : Rows.ImageWritesCardSaid := imageWrites.card
end Go.Proofs.YtdnnbobadopkeaaDoor
