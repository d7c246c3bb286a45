/-
  The row of the law, for every input: no condition.
-/
import Derived.Test.YthbllmihobbcgaaESp5
import Derived.Test.YthbllmihobbcgaaEWG16
import Derived.Test.YthbllmihobbcgaaEWG16b
import Derived.Test.YthbllmihobbcgaaEOG16
import Derived.Test.YthbllmihobbcgaaEPStorageOwn
import Derived.Test.YthbllmihobbcgaaRows
import Derived.WalkKit
import Derived.ProofKit
import Derived.OpenShut
import Derived.ShutString
import Derived.ChangeOld
import Derived.Below
import Derived.SizedLaws
set_option linter.unusedVariables false
set_option linter.unusedSimpArgs false
namespace Go.Proofs.Ythbllmihobbcgaa.storageOwn
open Go.ChangeShapes Go.WideShapes Go.ChangeAt Go.RowKit Go.Vm Go.Vm.G16

theorem cl3 : Try.prog.cellsOf 3 = 1 := by kernel_rfl
theorem rd3 : Rd Try.prog 3 1 (RT.int .i64).rel (fun x => InR .i64 x) := Rd.int Try.underlying3
theorem cl35 : Try.prog.cellsOf 35 = 5 := by kernel_rfl
theorem rd35 : Rd Try.prog 35 5 RT_Tlaw16_Call.rel OK_Tlaw16_Call := by
  refine (Rd.struct Try.underlying35 cl35 (RdF.cons (f := ⟨ "Kind", 3, 0, false, "", "", 0⟩) rfl cl3 rd3 (RdF.cons (f := ⟨ "T", 3, 1, false, "", "", 8⟩) rfl cl3 rd3 (RdF.cons (f := ⟨ "N", 3, 2, false, "", "", 16⟩) rfl cl3 rd3 (RdF.cons (f := ⟨ "At", 3, 3, false, "", "", 24⟩) rfl cl3 rd3 (RdF.cons (f := ⟨ "Val", 3, 4, false, "", "", 32⟩) rfl cl3 rd3 RdF.nil)))))).map (fun y => (⟨y.1, y.2.1, y.2.2.1, y.2.2.2.1, y.2.2.2.2.1⟩ : Tlaw16_Call)) (fun H cs y hr ho => ?_)
  obtain ⟨_, _, rfl, rfl, _, _, rfl, rfl, _, _, rfl, rfl, _, _, rfl, rfl, _, _, rfl, rfl, rfl⟩ := hr
  exact ⟨rfl, ho⟩
theorem cl22 : Try.prog.cellsOf 22 = 1 := by kernel_rfl
theorem rd22 : Rd Try.prog 22 1 (RT.sl RT_Tlaw16_Call).rel (OKs OK_Tlaw16_Call) := Rd.sl Try.underlying22 cl35 rfl rd35

theorem law (V : Vw) (c0 : Value) (x0 : Int) (r0 : ((RT.int .i64)).rel V [c0] x0) (o0 : InR .i64 x0) (c1 : Value) (x1 : List Tlaw16_Call) (r1 : ((RT.sl RT_Tlaw16_Call)).rel V [c1] x1) (o1 : OKs OK_Tlaw16_Call x1) (c2 : Value) (x2 : Int) (r2 : ((RT.int .i64)).rel V [c2] x2) (o2 : InR .i64 x2) (c3 : Value) (x3 : Int) (r3 : ((RT.int .i64)).rel V [c3] x3) (o3 : InR .i64 x3) (c4 : Value) (x4 : Int) (r4 : ((RT.int .i64)).rel V [c4] x4) (o4 : InR .i64 x4) : ∃ v V', Cl Try.checked.prog 0 5 #[c0, c1, c2, c3, c4] V.H v V'.H ∧ V.le V' ∧ v = .bool true ∧ Ow V' [] := by
  obtain rfl := (List.cons.inj r0).1
  obtain ⟨v1, e1, f1⟩ := r1
  obtain rfl := (List.cons.inj e1).1
  obtain rfl := (List.cons.inj r2).1
  obtain rfl := (List.cons.inj r3).1
  obtain rfl := (List.cons.inj r4).1
  exact wk_law16_StorageOwn V [] x0 x1 x2 x3 x4 c1 f1 (.start V) true (law16_StorageOwn_law x0 x1 x2 x3 x4 o0 o1 o2 o3 o4)

theorem own : ownKnob Try.prog.godebug = none := by kernel_rfl
theorem laidOut : laidOutB Try.prog = true := by kernel_rfl
set_option maxRecDepth 100000 in
theorem lifted (os : Os) (started : os.Started) (H : Type) (enc : TypeId × Value → H) :
    ReturnsInHanded {} Try.checked os 5 .any (Rows.storageOwnSpec.pre6 enc Try.prog Try.f5 Rows.storageOwnRow.domain false) (Rows.storageOwnSpec.post enc Try.prog Try.f5 false true false false) := by
  refine returnsInHanded_of_change_sized (C := Try.checked) own started (by kernel_rfl) Try.func5
    (ChangeSpec.witness6 (enc := enc) (C := Try.checked) false ⟨#[], #[.int .i64 0, .slice none 0 0, .int .i64 0, .int .i64 0, .int .i64 0], []⟩ 8 (by kernel_rfl) (by kernel_rfl) (by kernel_rfl) (by kernel_rfl)) ?_
  intro W base args ds gs before hval0 hW hcnd hsz0 _
  have hsz : (DataW.weightsEach Try.prog (Try.f5.params.toList ++ Rows.storageOwnSpec.plain.varTypes Try.prog) (ds ++ gs)).all (· ≤ reachBytes) = true := hsz0
  have hval : ∀ (j : Nat) t v, Try.f5.params[j]? = some t → args[j]? = some v → Value.okWide Try.prog W .any base t v := hval0
  have hW' := hW
  obtain ⟨p, q, hA0, hV, rfl, hfz, hnd⟩ := hW
  have hA : DataW.TrodAll enc Try.prog W 0 (fun _ => true) true Try.f5.params.toList args.toList ds p := hA0
  rw [Try.params5] at hA hval hsz
  obtain ⟨v0, vs0, d0, ds0, p0, q0, hargs, rfl, rfl, h0, r0⟩ := trodAll_cons hA
  obtain ⟨v1, vs1, d1, ds1, p1, q1, rfl, rfl, rfl, h1, r1⟩ := trodAll_cons r0
  obtain ⟨v2, vs2, d2, ds2, p2, q2, rfl, rfl, rfl, h2, r2⟩ := trodAll_cons r1
  obtain ⟨v3, vs3, d3, ds3, p3, q3, rfl, rfl, rfl, h3, r3⟩ := trodAll_cons r2
  obtain ⟨v4, vs4, d4, ds4, p4, q4, rfl, rfl, rfl, h4, r4⟩ := trodAll_cons r3
  obtain ⟨rfl, rfl, rfl⟩ := trodAll_nil r4
  obtain rfl : args = #[v0, v1, v2, v3, v4] := by cases args; simp_all
  obtain ⟨rfl, rfl⟩ := trodVars_none hV
  have lt0 : ∀ x ∈ p0, x.block < W.heap.size := by obtain ⟨m, hm⟩ := h0; exact DataW.trod_lt m _ _ _ hm
  have lt1 : ∀ x ∈ p1, x.block < W.heap.size := by obtain ⟨m, hm⟩ := h1; exact DataW.trod_lt m _ _ _ hm
  have lt2 : ∀ x ∈ p2, x.block < W.heap.size := by obtain ⟨m, hm⟩ := h2; exact DataW.trod_lt m _ _ _ hm
  have lt3 : ∀ x ∈ p3, x.block < W.heap.size := by obtain ⟨m, hm⟩ := h3; exact DataW.trod_lt m _ _ _ hm
  have lt4 : ∀ x ∈ p4, x.block < W.heap.size := by obtain ⟨m, hm⟩ := h4; exact DataW.trod_lt m _ _ _ hm
  obtain ⟨g0, y0, R0, o0⟩ := arg_cell (by rw [Try.underlying3]; simp) (by rw [Try.underlying3]; simp) (hval 0 3 v0 rfl rfl) rd3 h0
  obtain ⟨g1, y1, R1, o1⟩ := arg_cell (by rw [Try.underlying22]; simp) (by rw [Try.underlying22]; simp) (hval 1 22 v1 rfl rfl) rd22 h1
  obtain ⟨g2, y2, R2, o2⟩ := arg_cell (by rw [Try.underlying3]; simp) (by rw [Try.underlying3]; simp) (hval 2 3 v2 rfl rfl) rd3 h2
  obtain ⟨g3, y3, R3, o3⟩ := arg_cell (by rw [Try.underlying3]; simp) (by rw [Try.underlying3]; simp) (hval 3 3 v3 rfl rfl) rd3 h3
  obtain ⟨g4, y4, R4, o4⟩ := arg_cell (by rw [Try.underlying3]; simp) (by rw [Try.underlying3]; simp) (hval 4 3 v4 rfl rfl) rd3 h4
  clear hA0 hval0 hsz0 hsz
  have hl := law (V0of W) _ y0 R0 o0 _ y1 R1 o1 _ y2 R2 o2 _ y3 R3 o3 _ y4 R4 o4
  refine (law_top2 (G := 0) (n := 5) (args := #[v0, v1, v2, v3, v4]) (w := W) (Checked.mixed Try.checked) (fun v hv => by
    simp at hv
    rcases hv with rfl | rfl | rfl | rfl | rfl
    · exact g0
    · exact g1
    · exact g2
    · exact g3
    · exact g4) (by simpa [] using hl)).mono fun e W' ⟨he, bel⟩ => ?_
  subst he
  exact ⟨_, rfl, _, _, _, [], _, [], hW', trodAll_mk1 (shut_bool Try.underlying4 _), (trodAll_cons_mk (Below.trod laidOut (by kernel_rfl) (of_decide_eq_true (by kernel_rfl)) h0 bel lt0) (trodAll_cons_mk (Below.trod laidOut (by kernel_rfl) (of_decide_eq_true (by kernel_rfl)) h1 bel lt1) (trodAll_cons_mk (Below.trod laidOut (by kernel_rfl) (of_decide_eq_true (by kernel_rfl)) h2 bel lt2) (trodAll_cons_mk (Below.trod laidOut (by kernel_rfl) (of_decide_eq_true (by kernel_rfl)) h3 bel lt3) (trodAll_cons_mk (Below.trod laidOut (by kernel_rfl) (of_decide_eq_true (by kernel_rfl)) h4 bel lt4) trodAll_mk0))))), rfl, bel.frame _, fun h => by cases h⟩

theorem over : Rows.storageOwnRow.holds Try.pinned (OpenSpec.ofChange Rows.storageOwnSpec) :=
  OpenClaim.holds_of_wide 5 Try.f5 rfl rfl rfl rfl rfl rfl rfl ⟨rfl, rfl, rfl, rfl, rfl⟩ rfl rfl rfl rfl rfl (by kernel_rfl) Try.func5 (by kernel_rfl)
    (of_decide_eq_true (by kernel_rfl)) (by unfold Func.isWrapper; first | (rw [if_pos (by decide +kernel)]; kernel_rfl) | (rw [if_neg (by decide +kernel)]; exact ⟨rfl, rfl⟩))
    (fun os started H enc _ => lifted os started H enc)
theorem proved : Rows.StorageOwnSaid := over
end Go.Proofs.Ythbllmihobbcgaa.storageOwn
namespace Go.Proofs.Ythbllmihobbcgaa
/-- The row, under a short name, for the claim. -/
theorem storageOwn_holds : Rows.StorageOwnSaid := storageOwn.proved
end Go.Proofs.Ythbllmihobbcgaa
