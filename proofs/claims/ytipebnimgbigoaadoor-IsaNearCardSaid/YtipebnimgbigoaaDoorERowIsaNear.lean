/-
 The row of the law, for every input: no condition.
-/
import Derived.Test.YtipebnimgbigoaaDoorESp14
import Derived.Test.YtipebnimgbigoaaDoorEWG02
import Derived.Test.YtipebnimgbigoaaDoorEWG02b
import Derived.Test.YtipebnimgbigoaaDoorEOG02
import Derived.Test.YtipebnimgbigoaaDoorEVG02
import Derived.Test.YtipebnimgbigoaaDoorEPIsaNear
import Derived.Test.YtipebnimgbigoaaDoorRows
import Derived.Test.YtipebnimgbigoaaDoorCards
import Derived.Test.YtipebnimgbigoaaDoorTie
import Derived.Handed
import Derived.LaidLaws
import Derived.SevenTiedAt
import Derived.WalkKit
import Derived.ProofKit
import Derived.OpenShut
import Derived.ShutString
import Derived.ChangeOld
import Derived.Below
import Derived.SizedLaws
set_option linter.unusedVariables false
set_option linter.unusedSimpArgs false
namespace Go.Proofs.YtipebnimgbigoaaDoor.isaNear
open Go.ChangeShapes Go.WideShapes Go.ChangeAt Go.RowKit Go.Vm Go.Vm.G02
theorem cl22 : Tryd.prog.cellsOf 22 = 1 := by kernel_rfl
theorem rd22 : Rd Tryd.prog 22 1 (RT.int .u32).rel (fun x => InR .u32 x) := Rd.int Tryd.underlying22
theorem cl3 : Tryd.prog.cellsOf 3 = 1 := by kernel_rfl
theorem rd3 : Rd Tryd.prog 3 1 (RT.int .i64).rel (fun x => InR .i64 x) := Rd.int Tryd.underlying3
theorem law (V : Vw) (gl : Glb V) (c0 : Value) (x0 : Int) (r0 : ((RT.int .u32)).rel V [c0] x0) (o0 : InR .u32 x0) (c1 : Value) (x1 : Int) (r1 : ((RT.int .i64)).rel V [c1] x1) (o1 : InR .i64 x1) : ∃ v V', Cl Tryd.checked.prog NG 9 #[c0, c1] V.H v V'.H ∧ V.le V' ∧ v = .bool true ∧ Ow V' [] := by
 obtain rfl := (List.cons.inj r0).1
 obtain rfl := (List.cons.inj r1).1
 exact wk_law02_IsaNear V [] gl x0 x1 (.start V) true (law02_IsaNear_law x0 x1 o0 o1)
theorem own : ownKnob Tryd.prog.godebug = none := by kernel_rfl
theorem laidOut : laidOutB Tryd.prog = true := by kernel_rfl
set_option maxRecDepth 100000 in
theorem lifted (os : Os) (started : os.Started) (H : Type) (enc : TypeId × Value → H) :
  ReturnsInHanded {} Tryd.checked os 9 .any (fun w args => (Rows.isaNearSpec.pre enc Tryd.prog Tryd.f9 Rows.isaNearRow.domain false w args ∧ laidMet Tryd.prog Rows.isaNearRow.laid w) ∧ sizedMet enc Tryd.prog Tryd.f9 (OpenSpec.ofChange Rows.isaNearSpec) false w args)
   (Rows.isaNearSpec.post enc Tryd.prog Tryd.f9 false true false false) := by
 refine returnsInHanded_of_change_and (C := Tryd.checked) (X := fun w _ => laidMet Tryd.prog Rows.isaNearRow.laid w) (fun _ _ _ hh h => h.of_heap hh) own started (by kernel_rfl) Tryd.func9
  (ChangeSpec.witness_shaped (enc := enc) (C := Tryd.checked) (os := os) (X := fun w _ => laidMet Tryd.prog Rows.isaNearRow.laid w) false (varWorld os) #[.int .u32 0, .int .i64 0] 8 rfl (World.shaped_of_RefB (by kernel_rfl) (by kernel_rfl)) (by kernel_rfl) (by kernel_rfl) (by kernel_rfl) (laid_met os _)) ?_
 intro W base args ds gs before hval0 hW hcnd hsz0 hL _
 have gl : Glb (V0of W) := glb_of hL
 have hsz : (DataW.weightsEach Tryd.prog (Tryd.f9.params.toList ++ Rows.isaNearSpec.plain.varTypes Tryd.prog) (ds ++ gs)).all (· ≤ reachBytes) = true := hsz0
 have hval : ∀ (j : Nat) t v, Tryd.f9.params[j]? = some t → args[j]? = some v → Value.okWide Tryd.prog W .any base t v := hval0
 have hW' := hW
 obtain ⟨p, q, hA0, hV, rfl, hfz, hnd⟩ := hW
 have hA : DataW.TrodAll enc Tryd.prog W 0 (fun _ => true) true Tryd.f9.params.toList args.toList ds p := hA0
 rw [Tryd.params9] at hA hval hsz
 obtain ⟨v0, vs0, d0, ds0, p0, q0, hargs, rfl, rfl, h0, r0⟩ := trodAll_cons hA
 obtain ⟨v1, vs1, d1, ds1, p1, q1, rfl, rfl, rfl, h1, r1⟩ := trodAll_cons r0
 obtain ⟨rfl, rfl, rfl⟩ := trodAll_nil r1
 obtain rfl : args = #[v0, v1] := by cases args; simp_all
 obtain ⟨rfl, rfl⟩ := trodVars_none hV
 have lt0 : ∀ x ∈ p0, x.block < W.heap.size := by obtain ⟨m, hm⟩ := h0; exact DataW.trod_lt m _ _ _ hm
 have lt1 : ∀ x ∈ p1, x.block < W.heap.size := by obtain ⟨m, hm⟩ := h1; exact DataW.trod_lt m _ _ _ hm
 obtain ⟨g0, y0, R0, o0⟩ := arg_cell (by rw [Tryd.underlying22]; simp) (by rw [Tryd.underlying22]; simp) (hval 0 22 v0 rfl rfl) rd22 h0
 obtain ⟨g1, y1, R1, o1⟩ := arg_cell (by rw [Tryd.underlying3]; simp) (by rw [Tryd.underlying3]; simp) (hval 1 3 v1 rfl rfl) rd3 h1
 clear hA0 hval0 hsz0 hsz
 have hl := law (V0of W) gl _ y0 R0 o0 _ y1 R1 o1
 refine (law_top2 (G := NG) (n := 9) (args := #[v0, v1]) (w := W) (Checked.mixed Tryd.checked) (fun v hv => by
  simp at hv
  rcases hv with rfl | rfl
  ·exact g0
  ·exact g1) (by simpa [] using hl)).mono fun e W' ⟨he, bel⟩ => ?_
 subst he
 exact ⟨_, rfl, _, _, _, [], _, [], hW', trodAll_mk1 (shut_bool Tryd.underlying4 _), (trodAll_cons_mk (Below.trod laidOut (by kernel_rfl) (of_decide_eq_true (by kernel_rfl)) h0 bel lt0) (trodAll_cons_mk (Below.trod laidOut (by kernel_rfl) (of_decide_eq_true (by kernel_rfl)) h1 bel lt1) trodAll_mk0)), rfl, bel.frame _, fun h => by cases h⟩
theorem over : Rows.isaNearRow.holds Tryd.pinned (OpenSpec.ofChange Rows.isaNearSpec) :=
 OpenClaim.holds_of_wide 9 Tryd.f9 rfl rfl rfl rfl rfl rfl rfl ⟨rfl, rfl, rfl, rfl, rfl⟩ rfl rfl rfl rfl rfl (by kernel_rfl) Tryd.func9 (by kernel_rfl)
  (of_decide_eq_true (by kernel_rfl)) (by unfold Func.isWrapper; first | (rw [if_pos (by decide +kernel)]; kernel_rfl) | (rw [if_neg (by decide +kernel)]; exact ⟨rfl, rfl⟩))
  (fun os started H enc _ => lifted os started H enc)
theorem proved : Rows.IsaNearSaid := over
set_option maxRecDepth 100000 in
theorem card : Rows.IsaNearCardSaid :=
 Claim7.holds_tied_plain_at .later [] [.data, .data, .data, .data, .listed, .data, .data, .pinned] true (true, "b3d6d68a7063cb582eeeffcf9c0c656dda2c46851ca2169e1c2e6732cfa9f473") false
  over (fun _ h => by cases h) (by kernel_rfl) (fun _ h => by cases h) isaNear_row_tie rfl ⟨rfl, rfl⟩ (by kernel_rfl) rfl
  (fun f fn hf hfn => by
   obtain rfl : f = 9 := Option.some.inj ((show Tryd.prog.funcNamed Rows.isaNearRow.func = some 9 by kernel_rfl).symm.trans hf) |>.symm
   obtain rfl : fn = Tryd.f9 := (Option.some.inj (Tryd.func9.symm.trans hfn)).symm
   exact ⟨by kernel_rfl, fun j t ht => by
    rw [Tryd.params9] at ht
    have hm := Array.mem_of_getElem? ht
    simp at hm
    rcases hm with rfl | rfl
    ·exact (show Tryd.prog.wantsStandIn 3 = false by kernel_rfl)
    ·exact (show Tryd.prog.wantsStandIn 22 = false by kernel_rfl)⟩)
  (by kernel_rfl)
end Go.Proofs.YtipebnimgbigoaaDoor.isaNear
namespace Go.Proofs.YtipebnimgbigoaaDoor
theorem isaNear_holds : Rows.IsaNearCardSaid := isaNear.card
end Go.Proofs.YtipebnimgbigoaaDoor
