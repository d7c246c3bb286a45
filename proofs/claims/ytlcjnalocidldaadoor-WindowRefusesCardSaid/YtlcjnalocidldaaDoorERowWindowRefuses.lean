/-
 The row of the law, for every input: no condition.
-/
import Derived.Test.YtlcjnalocidldaaDoorESp14
import Derived.Test.YtlcjnalocidldaaDoorESp29
import Derived.Test.YtlcjnalocidldaaDoorEWK17
import Derived.Test.YtlcjnalocidldaaDoorEWK17b
import Derived.Test.YtlcjnalocidldaaDoorEOK17
import Derived.Test.YtlcjnalocidldaaDoorEVK17
import Derived.Test.YtlcjnalocidldaaDoorEPWindowRefuses
import Derived.Test.YtlcjnalocidldaaDoorRows
import Derived.Test.YtlcjnalocidldaaDoorCards
import Derived.Test.YtlcjnalocidldaaDoorTie
import Derived.Handed
import Derived.LaidLaws
import Derived.SevenTiedAt
import Derived.WalkKit
import Derived.ProofKit
import Derived.OpenShut
import Derived.ShutString
import Derived.ChangeOld
import Derived.Below
import Derived.SizedLaws
set_option linter.unusedVariables false
set_option linter.unusedSimpArgs false
namespace Go.Proofs.YtlcjnalocidldaaDoor.windowRefuses
open Go.ChangeShapes Go.WideShapes Go.ChangeAt Go.RowKit Go.Vm Go.Vm.K17
theorem cl59 : Tryd.prog.cellsOf 59 = 1 := by kernel_rfl
theorem rd59 : RdW Tryd.prog 59 1 (RT.int .u32).rel (fun x => InR .u32 x) := (Rd.int Tryd.underlying59).w
theorem cl22 : Tryd.prog.cellsOf 22 = 1 := by kernel_rfl
theorem rd22 : RdW Tryd.prog 22 1 (RT.sl (RT.int .u32)).rel (OKv 4 (fun x => InR .u32 x)) := RdW.slv Tryd.underlying22 cl59 rfl (of_decide_eq_true (by kernel_rfl)) (by kernel_rfl) rd59
theorem cl3 : Tryd.prog.cellsOf 3 = 1 := by kernel_rfl
theorem rd3 : RdW Tryd.prog 3 1 (RT.int .i64).rel (fun x => InR .i64 x) := (Rd.int Tryd.underlying3).w
theorem cl4 : Tryd.prog.cellsOf 4 = 1 := by kernel_rfl
theorem rd4 : RdW Tryd.prog 4 1 RT.bool.rel (fun _ => True) := (Rd.bool Tryd.underlying4).w
theorem cl61 : Tryd.prog.cellsOf 61 = 4 := by kernel_rfl
theorem rd61 : RdW Tryd.prog 61 4 RT_TNote.rel OK_TNote := by
 refine (RdW.struct Tryd.underlying61 cl61 (RdWF.cons (f := ⟨ "Role", 3, 0, false, "", "", 0⟩) rfl cl3 rd3 (RdWF.cons (f := ⟨ "What", 3, 1, false, "", "", 8⟩) rfl cl3 rd3 (RdWF.cons (f := ⟨ "Volatile", 4, 2, false, "", "", 16⟩) rfl cl4 rd4 (RdWF.cons (f := ⟨ "Final", 4, 3, false, "", "", 17⟩) rfl cl4 rd4 RdWF.nil))))).map (fun y => (⟨y.1, y.2.1, y.2.2.1, y.2.2.2.1⟩ : TNote)) (fun H cs y hr ho => ?_)
 obtain ⟨_, _, rfl, rfl, _, _, rfl, rfl, _, _, rfl, rfl, _, _, rfl, rfl, rfl⟩ := hr
 exact ⟨rfl, ho⟩
theorem cl23 : Tryd.prog.cellsOf 23 = 1 := by kernel_rfl
theorem rd23 : RdW Tryd.prog 23 1 (RT.sl RT_TNote).rel (OKv 24 OK_TNote) := RdW.slv Tryd.underlying23 cl61 rfl (of_decide_eq_true (by kernel_rfl)) (by kernel_rfl) rd61
theorem cl24 : Tryd.prog.cellsOf 24 = 1 := by kernel_rfl
theorem rd24 : RdW Tryd.prog 24 1 (RT.sl (RT.int .i64)).rel (OKv 8 (fun x => InR .i64 x)) := RdW.slv Tryd.underlying24 cl3 rfl (of_decide_eq_true (by kernel_rfl)) (by kernel_rfl) rd3
theorem cl26 : Tryd.prog.cellsOf 26 = 3 := by kernel_rfl
theorem rd26 : RdW Tryd.prog 26 3 RT_TImage.rel OK_TImage := by
 refine (RdW.struct Tryd.underlying26 cl26 (RdWF.cons (f := ⟨ "Code", 22, 0, false, "", "", 0⟩) rfl cl22 rd22 (RdWF.cons (f := ⟨ "Notes", 23, 1, false, "", "", 24⟩) rfl cl23 rd23 (RdWF.cons (f := ⟨ "Threads", 24, 2, false, "", "", 48⟩) rfl cl24 rd24 RdWF.nil)))).map (fun y => (⟨y.1, y.2.1, y.2.2.1⟩ : TImage)) (fun H cs y hr ho => ?_)
 obtain ⟨_, _, rfl, ⟨w0, rfl, g0⟩, _, _, rfl, ⟨w1, rfl, g1⟩, _, _, rfl, ⟨w2, rfl, g2⟩, rfl⟩ := hr
 exact ⟨⟨w0, w1, w2, rfl, g0, g1, g2⟩, ho⟩
theorem cl28 : Tryd.prog.cellsOf 28 = 3 := by kernel_rfl
theorem rd28 : RdW Tryd.prog 28 3 RT_Tlaw17_Move.rel OK_Tlaw17_Move := by
 refine (RdW.struct Tryd.underlying28 cl28 (RdWF.cons (f := ⟨ "Kind", 3, 0, false, "", "", 0⟩) rfl cl3 rd3 (RdWF.cons (f := ⟨ "K", 3, 1, false, "", "", 8⟩) rfl cl3 rd3 (RdWF.cons (f := ⟨ "Yes", 4, 2, false, "", "", 16⟩) rfl cl4 rd4 RdWF.nil)))).map (fun y => (⟨y.1, y.2.1, y.2.2.1⟩ : Tlaw17_Move)) (fun H cs y hr ho => ?_)
 obtain ⟨_, _, rfl, rfl, _, _, rfl, rfl, _, _, rfl, rfl, rfl⟩ := hr
 exact ⟨rfl, ho⟩
theorem law (V : Vw) (gl : Glb V) (c0 : Array Value) (x0 : TImage) (r0 : RT_TImage.rel V c0.toList x0) (o0 : OK_TImage x0) (c1 : Value) (x1 : Int) (r1 : ((RT.int .i64)).rel V [c1] x1) (o1 : InR .i64 x1) (c2 : Value) (x2 : List Int) (r2 : ((RT.sl (RT.int .i64))).rel V [c2] x2) (o2 : OKv 8 (fun x => InR .i64 x) x2) (c3 : Array Value) (x3 : Tlaw17_Move) (r3 : RT_Tlaw17_Move.rel V c3.toList x3) (o3 : OK_Tlaw17_Move x3) : ∃ v V', Cl Tryd.checked.prog NG 3 #[.agg c0, c1, c2, .agg c3] V.H v V'.H ∧ V.le V' ∧ v = .bool true ∧ Ow V' [] := by
 obtain ⟨v0_0, v0_1, v0_2, e0, f0_0, f0_1, f0_2⟩ := r0
 have e0 : c0 = #[v0_0, v0_1, v0_2] := Array.ext' e0
 subst e0
 obtain rfl := (List.cons.inj r1).1
 obtain ⟨v2, e2, f2⟩ := r2
 obtain rfl := (List.cons.inj e2).1
 have e3 := r3
 have e3 : c3 = #[.int .i64 x3.kind, .int .i64 x3.k, .bool x3.yes] := Array.ext' e3
 subst e3
 exact wk_law17_WindowRefuses (law17_WindowRefuses_law x0 x1 x2 x3 o0 o1 o2 o3) gl f0_0 f0_1 f0_2 f2 (.start V)
theorem own : ownKnob Tryd.prog.godebug = none := by kernel_rfl
theorem laidOut : laidOutB Tryd.prog = true := by kernel_rfl
set_option maxRecDepth 100000 in
theorem lifted (os : Os) (started : os.Started) (H : Type) (enc : TypeId × Value → H) :
  ReturnsInHanded {} Tryd.checked os 3 .any (fun w args => (Rows.windowRefusesSpec.pre enc Tryd.prog Tryd.f3 Rows.windowRefusesRow.domain false w args ∧ laidMet Tryd.prog Rows.windowRefusesRow.laid w) ∧ sizedMet enc Tryd.prog Tryd.f3 (OpenSpec.ofChange Rows.windowRefusesSpec) false w args)
   (Rows.windowRefusesSpec.post enc Tryd.prog Tryd.f3 false true false false) := by
 refine returnsInHanded_of_change_and (C := Tryd.checked) (X := fun w _ => laidMet Tryd.prog Rows.windowRefusesRow.laid w) (fun _ _ _ hh h => h.of_heap hh) own started (by kernel_rfl) Tryd.func3
  (ChangeSpec.witness_shaped (enc := enc) (C := Tryd.checked) (os := os) (X := fun w _ => laidMet Tryd.prog Rows.windowRefusesRow.laid w) false (varWorld os) #[.agg #[.slice none 0 0, .slice none 0 0, .slice none 0 0], .int .i64 0, .slice none 0 0, .agg #[.int .i64 0, .int .i64 0, .bool false]] 8 rfl (World.shaped_of_RefB (by kernel_rfl) (by kernel_rfl)) (by kernel_rfl) (by kernel_rfl) (by kernel_rfl) (laid_met os _)) ?_
 intro W base args ds gs before hval0 hW hcnd hsz0 hL _
 have gl : Glb (V0of W) := glb_of hL
 have hsz : (DataW.weightsEach Tryd.prog (Tryd.f3.params.toList ++ Rows.windowRefusesSpec.plain.varTypes Tryd.prog) (ds ++ gs)).all (· ≤ reachBytes) = true := hsz0
 have hval : ∀ (j : Nat) t v, Tryd.f3.params[j]? = some t → args[j]? = some v → Value.okWide Tryd.prog W .any base t v := hval0
 have hW' := hW
 obtain ⟨p, q, hA0, hV, rfl, hfz, hnd⟩ := hW
 have hA : DataW.TrodAll enc Tryd.prog W 0 (fun _ => true) true Tryd.f3.params.toList args.toList ds p := hA0
 rw [Tryd.params3] at hA hval hsz
 obtain ⟨v0, vs0, d0, ds0, p0, q0, hargs, rfl, rfl, h0, r0⟩ := trodAll_cons hA
 obtain ⟨v1, vs1, d1, ds1, p1, q1, rfl, rfl, rfl, h1, r1⟩ := trodAll_cons r0
 obtain ⟨v2, vs2, d2, ds2, p2, q2, rfl, rfl, rfl, h2, r2⟩ := trodAll_cons r1
 obtain ⟨v3, vs3, d3, ds3, p3, q3, rfl, rfl, rfl, h3, r3⟩ := trodAll_cons r2
 obtain ⟨rfl, rfl, rfl⟩ := trodAll_nil r3
 obtain rfl : args = #[v0, v1, v2, v3] := by cases args; simp_all
 obtain ⟨rfl, rfl⟩ := trodVars_none hV
 have lt0 : ∀ x ∈ p0, x.block < W.heap.size := by obtain ⟨m, hm⟩ := h0; exact DataW.trod_lt m _ _ _ hm
 have lt1 : ∀ x ∈ p1, x.block < W.heap.size := by obtain ⟨m, hm⟩ := h1; exact DataW.trod_lt m _ _ _ hm
 have lt2 : ∀ x ∈ p2, x.block < W.heap.size := by obtain ⟨m, hm⟩ := h2; exact DataW.trod_lt m _ _ _ hm
 have lt3 : ∀ x ∈ p3, x.block < W.heap.size := by obtain ⟨m, hm⟩ := h3; exact DataW.trod_lt m _ _ _ hm
 obtain ⟨g0, cs0, y0, e0, R0, o0⟩ := arg_structW Tryd.underlying26 (hval 0 26 v0 rfl rfl) rd26 h0 (sized_at hsz (j := 0) (t := 26) (d := d0) rfl rfl)
 obtain ⟨g1, y1, R1, o1⟩ := arg_cellW (by rw [Tryd.underlying3]; simp) (by rw [Tryd.underlying3]; simp) (hval 1 3 v1 rfl rfl) rd3 h1 (sized_at hsz (j := 1) (t := 3) (d := d1) rfl rfl)
 obtain ⟨g2, y2, R2, o2⟩ := arg_cellW (by rw [Tryd.underlying24]; simp) (by rw [Tryd.underlying24]; simp) (hval 2 24 v2 rfl rfl) rd24 h2 (sized_at hsz (j := 2) (t := 24) (d := d2) rfl rfl)
 obtain ⟨g3, cs3, y3, e3, R3, o3⟩ := arg_structW Tryd.underlying28 (hval 3 28 v3 rfl rfl) rd28 h3 (sized_at hsz (j := 3) (t := 28) (d := d3) rfl rfl)
 clear hA0 hval0 hsz0 hsz
 have hl := law (V0of W) gl cs0 y0 R0 o0 _ y1 R1 o1 _ y2 R2 o2 cs3 y3 R3 o3
 refine (law_top2 (G := NG) (n := 3) (args := #[v0, v1, v2, v3]) (w := W) (Checked.mixed Tryd.checked) (fun v hv => by
  simp at hv
  rcases hv with rfl | rfl | rfl | rfl
  ·exact g0
  ·exact g1
  ·exact g2
  ·exact g3) (by simpa [e0, e3] using hl)).mono fun e W' ⟨he, bel⟩ => ?_
 subst he
 exact ⟨_, rfl, _, _, _, [], _, [], hW', trodAll_mk1 (shut_bool Tryd.underlying4 _), (trodAll_cons_mk (Below.trod laidOut (by kernel_rfl) (of_decide_eq_true (by kernel_rfl)) h0 bel lt0) (trodAll_cons_mk (Below.trod laidOut (by kernel_rfl) (of_decide_eq_true (by kernel_rfl)) h1 bel lt1) (trodAll_cons_mk (Below.trod laidOut (by kernel_rfl) (of_decide_eq_true (by kernel_rfl)) h2 bel lt2) (trodAll_cons_mk (Below.trod laidOut (by kernel_rfl) (of_decide_eq_true (by kernel_rfl)) h3 bel lt3) trodAll_mk0)))), rfl, bel.frame _, fun h => by cases h⟩
theorem over : Rows.windowRefusesRow.holds Tryd.pinned (OpenSpec.ofChange Rows.windowRefusesSpec) :=
 OpenClaim.holds_of_wide 3 Tryd.f3 rfl rfl rfl rfl rfl rfl rfl ⟨rfl, rfl, rfl, rfl, rfl⟩ rfl rfl rfl rfl rfl (by kernel_rfl) Tryd.func3 (by kernel_rfl)
  (of_decide_eq_true (by kernel_rfl)) (by unfold Func.isWrapper; first | (rw [if_pos (by decide +kernel)]; kernel_rfl) | (rw [if_neg (by decide +kernel)]; exact ⟨rfl, rfl⟩))
  (fun os started H enc _ => lifted os started H enc)
theorem proved : Rows.WindowRefusesSaid := over
set_option maxRecDepth 100000 in
theorem card : Rows.WindowRefusesCardSaid :=
 Claim7.holds_tied_plain_at .later [] [.data] true (true, "ab524d7ccb22c4445ff236f6342b98112513a2120d9d0246f54fe7caf101f78e") false
  over (fun _ h => by cases h) (by kernel_rfl) (fun _ h => by cases h) windowRefuses_row_tie rfl ⟨rfl, rfl⟩ (by kernel_rfl) rfl
  (fun f fn hf hfn => by
   obtain rfl : f = 3 := Option.some.inj ((show Tryd.prog.funcNamed Rows.windowRefusesRow.func = some 3 by kernel_rfl).symm.trans hf) |>.symm
   obtain rfl : fn = Tryd.f3 := (Option.some.inj (Tryd.func3.symm.trans hfn)).symm
   exact ⟨by kernel_rfl, fun j t ht => by
    rw [Tryd.params3] at ht
    have hm := Array.mem_of_getElem? ht
    simp at hm
    rcases hm with rfl | rfl | rfl | rfl
    ·exact (show Tryd.prog.wantsStandIn 3 = false by kernel_rfl)
    ·exact (show Tryd.prog.wantsStandIn 24 = false by kernel_rfl)
    ·exact (show Tryd.prog.wantsStandIn 26 = false by kernel_rfl)
    ·exact (show Tryd.prog.wantsStandIn 28 = false by kernel_rfl)⟩)
  (by kernel_rfl)
end Go.Proofs.YtlcjnalocidldaaDoor.windowRefuses
namespace Go.Proofs.YtlcjnalocidldaaDoor
theorem windowRefuses_holds : Rows.WindowRefusesCardSaid := windowRefuses.card
end Go.Proofs.YtlcjnalocidldaaDoor
