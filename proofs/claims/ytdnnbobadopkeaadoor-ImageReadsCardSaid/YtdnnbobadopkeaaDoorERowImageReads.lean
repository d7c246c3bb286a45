/-
 The row of the law, for every input: no condition.
-/
import Derived.Test.YtdnnbobadopkeaaDoorESp14
import Derived.Test.YtdnnbobadopkeaaDoorEWG15
import Derived.Test.YtdnnbobadopkeaaDoorEWG15b
import Derived.Test.YtdnnbobadopkeaaDoorEWG15c
import Derived.Test.YtdnnbobadopkeaaDoorEOG15
import Derived.Test.YtdnnbobadopkeaaDoorEVG15
import Derived.Test.YtdnnbobadopkeaaDoorEPImageReads
import Derived.Test.YtdnnbobadopkeaaDoorRows
import Derived.Test.YtdnnbobadopkeaaDoorCards
import Derived.Test.YtdnnbobadopkeaaDoorTie
import Derived.Handed
import Derived.LaidLaws
import Derived.SevenTiedAt
import Derived.WalkKit
import Derived.ProofKit
import Derived.OpenShut
import Derived.ShutString
import Derived.ChangeOld
import Derived.Below
import Derived.SizedLaws
set_option linter.unusedVariables false
set_option linter.unusedSimpArgs false
namespace Go.Proofs.YtdnnbobadopkeaaDoor.imageReads
open Go.ChangeShapes Go.WideShapes Go.ChangeAt Go.RowKit Go.Vm Go.Vm.G15
theorem cl9 : Tryd.prog.cellsOf 9 = 1 := by kernel_rfl
theorem rd9 : Rd Tryd.prog 9 1 RT.str.rel (fun x => x.size ≤ 9223372036854775807) := Rd.str Tryd.underlying9
theorem law (V : Vw) (gl : Glb V) (c0 : Value) (x0 : ByteArray) (r0 : (RT.str).rel V [c0] x0) (o0 : x0.size ≤ 9223372036854775807) : ∃ v V', Cl Tryd.checked.prog NG 3 #[c0] V.H v V'.H ∧ V.le V' ∧ v = .bool true ∧ Ow V' [] := by
 obtain rfl := (List.cons.inj r0).1
 exact wk_law15_ImageReads V [] gl x0 (.start V) true (law15_ImageReads_law x0 o0)
theorem own : ownKnob Tryd.prog.godebug = none := by kernel_rfl
theorem laidOut : laidOutB Tryd.prog = true := by kernel_rfl
set_option maxRecDepth 100000 in
theorem lifted (os : Os) (started : os.Started) (H : Type) (enc : TypeId × Value → H) :
  ReturnsInHanded {} Tryd.checked os 3 .any (fun w args => (Rows.imageReadsSpec.pre enc Tryd.prog Tryd.f3 Rows.imageReadsRow.domain false w args ∧ laidMet Tryd.prog Rows.imageReadsRow.laid w) ∧ sizedMet enc Tryd.prog Tryd.f3 (OpenSpec.ofChange Rows.imageReadsSpec) false w args)
   (Rows.imageReadsSpec.post enc Tryd.prog Tryd.f3 false true false false) := by
 refine returnsInHanded_of_change_and (C := Tryd.checked) (X := fun w _ => laidMet Tryd.prog Rows.imageReadsRow.laid w) (fun _ _ _ hh h => h.of_heap hh) own started (by kernel_rfl) Tryd.func3
  (ChangeSpec.witness_at (enc := enc) (C := Tryd.checked) (os := os) (X := fun w _ => laidMet Tryd.prog Rows.imageReadsRow.laid w) false (varWorld os) #[.string ByteArray.empty] 8 rfl (by kernel_rfl) (by kernel_rfl) (by kernel_rfl) (by kernel_rfl) (by kernel_rfl) (laid_met os _)) ?_
 intro W base args ds gs before hval0 hW hcnd hsz0 hL _
 have gl : Glb (V0of W) := glb_of hL
 have hsz : (DataW.weightsEach Tryd.prog (Tryd.f3.params.toList ++ Rows.imageReadsSpec.plain.varTypes Tryd.prog) (ds ++ gs)).all (· ≤ reachBytes) = true := hsz0
 have hval : ∀ (j : Nat) t v, Tryd.f3.params[j]? = some t → args[j]? = some v → Value.okWide Tryd.prog W .any base t v := hval0
 have hW' := hW
 obtain ⟨p, q, hA0, hV, rfl, hfz, hnd⟩ := hW
 have hA : DataW.TrodAll enc Tryd.prog W 0 (fun _ => true) true Tryd.f3.params.toList args.toList ds p := hA0
 rw [Tryd.params3] at hA hval hsz
 obtain ⟨v0, vs0, d0, ds0, p0, q0, hargs, rfl, rfl, h0, r0⟩ := trodAll_cons hA
 obtain ⟨rfl, rfl, rfl⟩ := trodAll_nil r0
 obtain rfl : args = #[v0] := by cases args; simp_all
 obtain ⟨rfl, rfl⟩ := trodVars_none hV
 have lt0 : ∀ x ∈ p0, x.block < W.heap.size := by obtain ⟨m, hm⟩ := h0; exact DataW.trod_lt m _ _ _ hm
 obtain ⟨g0, y0, R0, o0⟩ := arg_cell (by rw [Tryd.underlying9]; simp) (by rw [Tryd.underlying9]; simp) (hval 0 9 v0 rfl rfl) rd9 h0
 clear hA0 hval0 hsz0 hsz
 have hl := law (V0of W) gl _ y0 R0 o0
 refine (law_top2 (G := NG) (n := 3) (args := #[v0]) (w := W) (Checked.mixed Tryd.checked) (fun v hv => by
  simp at hv
  subst hv
  exact g0) (by simpa [] using hl)).mono fun e W' ⟨he, bel⟩ => ?_
 subst he
 exact ⟨_, rfl, _, _, _, [], _, [], hW', trodAll_mk1 (shut_bool Tryd.underlying4 _), (trodAll_cons_mk (Below.trod laidOut (by kernel_rfl) (of_decide_eq_true (by kernel_rfl)) h0 bel lt0) trodAll_mk0), rfl, bel.frame _, fun h => by cases h⟩
theorem over : Rows.imageReadsRow.holds Tryd.pinned (OpenSpec.ofChange Rows.imageReadsSpec) :=
 OpenClaim.holds_of_wide 3 Tryd.f3 rfl rfl rfl rfl rfl rfl rfl ⟨rfl, rfl, rfl, rfl, rfl⟩ rfl rfl rfl rfl rfl (by kernel_rfl) Tryd.func3 (by kernel_rfl)
  (of_decide_eq_true (by kernel_rfl)) (by unfold Func.isWrapper; first | (rw [if_pos (by decide +kernel)]; kernel_rfl) | (rw [if_neg (by decide +kernel)]; exact ⟨rfl, rfl⟩))
  (fun os started H enc _ => lifted os started H enc)
theorem proved : Rows.ImageReadsSaid := over
theorem card : Rows.ImageReadsCardSaid :=
 Claim7.holds_tied_plain_at .later [] [.data] true (true, "b65bc2b3dc6d3942864c480b36d3d94dee2bc1c52e5ee4141c3dac20a8da80d1") false
  over (fun _ h => by cases h) (by kernel_rfl) (fun _ h => by cases h) imageReads_row_tie rfl ⟨rfl, rfl⟩ (by kernel_rfl) rfl
  (fun f fn hf hfn => by
   obtain rfl : f = 3 := Option.some.inj ((show Tryd.prog.funcNamed Rows.imageReadsRow.func = some 3 by kernel_rfl).symm.trans hf) |>.symm
   obtain rfl : fn = Tryd.f3 := (Option.some.inj (Tryd.func3.symm.trans hfn)).symm
   exact ⟨by kernel_rfl, fun j t ht => by
    rw [Tryd.params3] at ht
    have hm := Array.mem_of_getElem? ht
    simp at hm
    subst hm
    exact (show Tryd.prog.wantsStandIn 9 = false by kernel_rfl)⟩)
  (by kernel_rfl)
end Go.Proofs.YtdnnbobadopkeaaDoor.imageReads
namespace Go.Proofs.YtdnnbobadopkeaaDoor
theorem imageReads_holds : Rows.ImageReadsCardSaid := imageReads.card
end Go.Proofs.YtdnnbobadopkeaaDoor
