/-
 The row of the law, for every input: no condition.
-/
import Derived.Test.YthbllmihobbcgaaESp12
import Derived.Test.YthbllmihobbcgaaEWG16s
import Derived.Test.YthbllmihobbcgaaEWG16sb
import Derived.Test.YthbllmihobbcgaaEOG16s
import Derived.Test.YthbllmihobbcgaaEPStorageDoes
import Derived.Test.YthbllmihobbcgaaRows
import Derived.WalkKit
import Derived.ProofKit
import Derived.OpenShut
import Derived.ShutString
import Derived.ChangeOld
import Derived.Below
import Derived.SizedLaws
set_option linter.unusedVariables false
set_option linter.unusedSimpArgs false
namespace Go.Proofs.Ythbllmihobbcgaa.storageDoes
open Go.ChangeShapes Go.WideShapes Go.ChangeAt Go.RowKit Go.Vm Go.Vm.G16s
theorem cl3 : Try.prog.cellsOf 3 = 1 := by kernel_rfl
theorem rd3 : Rd Try.prog 3 1 (RT.int .i64).rel (fun x => InR .i64 x) := (Rd.int Try.underlying3)
theorem cl35 : Try.prog.cellsOf 35 = 5 := by kernel_rfl
theorem rd35 : Rd Try.prog 35 5 RT_Tlaw16_Call.rel OK_Tlaw16_Call := by
 refine (Rd.struct Try.underlying35 cl35 (RdF.cons (f := ⟨ "Kind", 3, 0, false, "", "", 0⟩) rfl cl3 rd3 (RdF.cons (f := ⟨ "T", 3, 1, false, "", "", 8⟩) rfl cl3 rd3 (RdF.cons (f := ⟨ "N", 3, 2, false, "", "", 16⟩) rfl cl3 rd3 (RdF.cons (f := ⟨ "At", 3, 3, false, "", "", 24⟩) rfl cl3 rd3 (RdF.cons (f := ⟨ "Val", 3, 4, false, "", "", 32⟩) rfl cl3 rd3 RdF.nil)))))).map (fun y => (⟨y.1, y.2.1, y.2.2.1, y.2.2.2.1, y.2.2.2.2.1⟩ : Tlaw16_Call)) (fun H cs y hr ho => ?_)
 obtain ⟨_, _, rfl, rfl, _, _, rfl, rfl, _, _, rfl, rfl, _, _, rfl, rfl, _, _, rfl, rfl, rfl⟩ := hr
 exact ⟨rfl, ho⟩
theorem cl22 : Try.prog.cellsOf 22 = 1 := by kernel_rfl
theorem rd22 : Rd Try.prog 22 1 (RT.sl RT_Tlaw16_Call).rel (OKs OK_Tlaw16_Call) := Rd.sl Try.underlying22 cl35 rfl rd35
theorem law (V : Vw) (c0 : Value) (x0 : Int) (r0 : ((RT.int .i64)).rel V [c0] x0) (o0 : InR .i64 x0) (c1 : Value) (x1 : List Tlaw16_Call) (r1 : ((RT.sl RT_Tlaw16_Call)).rel V [c1] x1) (o1 : OKs OK_Tlaw16_Call x1) : ∃ v V', Cl Try.checked.prog 0 8 #[c0, c1] V.H v V'.H ∧ V.le V' ∧ v = .bool true ∧ Ow V' [] := by
 obtain rfl := (List.cons.inj r0).1
 obtain ⟨v1, e1, f1⟩ := r1
 obtain rfl := (List.cons.inj e1).1
 exact wk_law16_StorageDoes V [] x0 x1 c1 f1 (.start V) true (law16_StorageDoes_law x0 x1 o0 o1)
theorem own : ownKnob Try.prog.godebug = none := by kernel_rfl
theorem laidOut : laidOutB Try.prog = true := by kernel_rfl
set_option maxRecDepth 100000 in
theorem lifted (os : Os) (started : os.Started) (H : Type) (enc : TypeId × Value → H) :
  ReturnsInHanded {} Try.checked os 8 .any (Rows.storageDoesSpec.pre6 enc Try.prog Try.f8 Rows.storageDoesRow.domain false) (Rows.storageDoesSpec.post enc Try.prog Try.f8 false true false false) := by
 refine returnsInHanded_of_change_sized (C := Try.checked) own started (by kernel_rfl) Try.func8
  (ChangeSpec.witness6 (enc := enc) (C := Try.checked) false ⟨#[], #[.int .i64 0, .slice none 0 0], []⟩ 8 (by kernel_rfl) (by kernel_rfl) (by kernel_rfl) (by kernel_rfl)) ?_
 intro W base args ds gs before hval0 hW hcnd hsz0 _
 have hsz : (DataW.weightsEach Try.prog (Try.f8.params.toList ++ Rows.storageDoesSpec.plain.varTypes Try.prog) (ds ++ gs)).all (· ≤ reachBytes) = true := hsz0
 have hval : ∀ (j : Nat) t v, Try.f8.params[j]? = some t → args[j]? = some v → Value.okWide Try.prog W .any base t v := hval0
 have hW' := hW
 obtain ⟨p, q, hA0, hV, rfl, hfz, hnd⟩ := hW
 have hA : DataW.TrodAll enc Try.prog W 0 (fun _ => true) true Try.f8.params.toList args.toList ds p := hA0
 rw [Try.params8] at hA hval hsz
 obtain ⟨v0, vs0, d0, ds0, p0, q0, hargs, rfl, rfl, h0, r0⟩ := trodAll_cons hA
 obtain ⟨v1, vs1, d1, ds1, p1, q1, rfl, rfl, rfl, h1, r1⟩ := trodAll_cons r0
 obtain ⟨rfl, rfl, rfl⟩ := trodAll_nil r1
 obtain rfl : args = #[v0, v1] := by cases args; simp_all
 obtain ⟨rfl, rfl⟩ := trodVars_none hV
 have lt0 : ∀ x ∈ p0, x.block < W.heap.size := by obtain ⟨m, hm⟩ := h0; exact DataW.trod_lt m _ _ _ hm
 have lt1 : ∀ x ∈ p1, x.block < W.heap.size := by obtain ⟨m, hm⟩ := h1; exact DataW.trod_lt m _ _ _ hm
 obtain ⟨g0, y0, R0, o0⟩ := arg_cell (by rw [Try.underlying3]; simp) (by rw [Try.underlying3]; simp) (hval 0 3 v0 rfl rfl) rd3 h0
 obtain ⟨g1, y1, R1, o1⟩ := arg_cell (by rw [Try.underlying22]; simp) (by rw [Try.underlying22]; simp) (hval 1 22 v1 rfl rfl) rd22 h1
 clear hA0 hval0 hsz0 hsz
 have hl := law (V0of W) _ y0 R0 o0 _ y1 R1 o1
 refine (law_top2 (G := 0) (n := 8) (args := #[v0, v1]) (w := W) (Checked.mixed Try.checked) (fun v hv => by
  simp at hv
  rcases hv with rfl | rfl
  ·exact g0
  ·exact g1) (by simpa [] using hl)).mono fun e W' ⟨he, bel⟩ => ?_
 subst he
 exact ⟨_, rfl, _, _, _, [], _, [], hW', trodAll_mk1 (shut_bool Try.underlying4 _), (trodAll_cons_mk (Below.trod laidOut (by kernel_rfl) (of_decide_eq_true (by kernel_rfl)) h0 bel lt0) (trodAll_cons_mk (Below.trod laidOut (by kernel_rfl) (of_decide_eq_true (by kernel_rfl)) h1 bel lt1) trodAll_mk0)), rfl, bel.frame _, fun h => by cases h⟩
theorem over : Rows.storageDoesRow.holds Try.pinned (OpenSpec.ofChange Rows.storageDoesSpec) :=
 OpenClaim.holds_of_wide 8 Try.f8 rfl rfl rfl rfl rfl rfl rfl ⟨rfl, rfl, rfl, rfl, rfl⟩ rfl rfl rfl rfl rfl (by kernel_rfl) Try.func8 (by kernel_rfl)
  (of_decide_eq_true (by kernel_rfl)) (by unfold Func.isWrapper; first | (rw [if_pos (by decide +kernel)]; kernel_rfl) | (rw [if_neg (by decide +kernel)]; exact ⟨rfl, rfl⟩))
  (fun os started H enc _ => lifted os started H enc)
theorem proved : Rows.StorageDoesSaid := over
end Go.Proofs.Ythbllmihobbcgaa.storageDoes
namespace Go.Proofs.Ythbllmihobbcgaa
theorem storageDoes_holds : Rows.StorageDoesSaid := storageDoes.proved
end Go.Proofs.Ythbllmihobbcgaa
