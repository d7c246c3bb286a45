/-
  The row of the law, for every input: no condition.
-/
import Derived.Test.YtbmkccjfldmgiaaESp12
import Derived.Test.YtbmkccjfldmgiaaEWGO21
import Derived.Test.YtbmkccjfldmgiaaEWGO21b
import Derived.Test.YtbmkccjfldmgiaaEWGO21c
import Derived.Test.YtbmkccjfldmgiaaEWGO21d
import Derived.Test.YtbmkccjfldmgiaaEOGO21
import Derived.Test.YtbmkccjfldmgiaaEPOrderAlone
import Derived.Test.YtbmkccjfldmgiaaRows
import Derived.WalkKit
import Derived.ProofKit
import Derived.OpenShut
import Derived.ShutString
import Derived.ChangeOld
import Derived.Below
import Derived.SizedLaws
set_option linter.unusedVariables false
set_option linter.unusedSimpArgs false
namespace Go.Proofs.Ytbmkccjfldmgiaa.orderAlone
open Go.ChangeShapes Go.WideShapes Go.ChangeAt Go.RowKit Go.Vm Go.Vm.GO21

theorem cl3 : Try.prog.cellsOf 3 = 1 := by kernel_rfl
theorem rd3 : Rd Try.prog 3 1 (RT.int .i64).rel (fun x => InR .i64 x) := Rd.int Try.underlying3
theorem cl32 : Try.prog.cellsOf 32 = 1 := by kernel_rfl
theorem rd32 : RdW Try.prog 32 1 (RT.sl (RT.int .i64)).rel (OKw (fun x => InR .i64 x)) := RdW.sl Try.underlying32 cl3 rfl (of_decide_eq_true (by kernel_rfl)) (Rd.w rd3)

theorem law (V : Vw) (c0 : Value) (x0 : List Int) (r0 : ((RT.sl (RT.int .i64))).rel V [c0] x0) (o0 : OKw (fun x => InR .i64 x) x0) (c1 : Value) (x1 : List Int) (r1 : ((RT.sl (RT.int .i64))).rel V [c1] x1) (o1 : OKw (fun x => InR .i64 x) x1) : ∃ v V', Cl Try.checked.prog 0 7 #[c0, c1] V.H v V'.H ∧ V.le V' ∧ v = .bool true ∧ Ow V' [] := by
  obtain ⟨v0, e0, f0⟩ := r0
  obtain rfl := (List.cons.inj e0).1
  obtain ⟨v1, e1, f1⟩ := r1
  obtain rfl := (List.cons.inj e1).1
  exact wk_law21_OrderAlone V [] x0 x1 c0 c1 f0 f1 (.start V) true (law21_OrderAlone_law x0 x1 o0 o1)

theorem own : ownKnob Try.prog.godebug = none := by kernel_rfl
theorem laidOut : laidOutB Try.prog = true := by kernel_rfl
set_option maxRecDepth 100000 in
theorem lifted (os : Os) (started : os.Started) (H : Type) (enc : TypeId × Value → H) :
    ReturnsInHanded {} Try.checked os 7 .any (Rows.orderAloneSpec.pre6 enc Try.prog Try.f7 Rows.orderAloneRow.domain false) (Rows.orderAloneSpec.post enc Try.prog Try.f7 false true false false) := by
  refine returnsInHanded_of_change_sized (C := Try.checked) own started (by kernel_rfl) Try.func7
    (ChangeSpec.witness6 (enc := enc) (C := Try.checked) false ⟨#[], #[.slice none 0 0, .slice none 0 0], []⟩ 8 (by kernel_rfl) (by kernel_rfl) (by kernel_rfl) (by kernel_rfl)) ?_
  intro W base args ds gs before hval0 hW hcnd hsz0 _
  have hsz : (DataW.weightsEach Try.prog (Try.f7.params.toList ++ Rows.orderAloneSpec.plain.varTypes Try.prog) (ds ++ gs)).all (· ≤ reachBytes) = true := hsz0
  have hval : ∀ (j : Nat) t v, Try.f7.params[j]? = some t → args[j]? = some v → Value.okWide Try.prog W .any base t v := hval0
  have hW' := hW
  obtain ⟨p, q, hA0, hV, rfl, hfz, hnd⟩ := hW
  have hA : DataW.TrodAll enc Try.prog W 0 (fun _ => true) true Try.f7.params.toList args.toList ds p := hA0
  rw [Try.params7] at hA hval hsz
  obtain ⟨v0, vs0, d0, ds0, p0, q0, hargs, rfl, rfl, h0, r0⟩ := trodAll_cons hA
  obtain ⟨v1, vs1, d1, ds1, p1, q1, rfl, rfl, rfl, h1, r1⟩ := trodAll_cons r0
  obtain ⟨rfl, rfl, rfl⟩ := trodAll_nil r1
  obtain rfl : args = #[v0, v1] := by cases args; simp_all
  obtain ⟨rfl, rfl⟩ := trodVars_none hV
  have lt0 : ∀ x ∈ p0, x.block < W.heap.size := by obtain ⟨m, hm⟩ := h0; exact DataW.trod_lt m _ _ _ hm
  have lt1 : ∀ x ∈ p1, x.block < W.heap.size := by obtain ⟨m, hm⟩ := h1; exact DataW.trod_lt m _ _ _ hm
  obtain ⟨g0, y0, R0, o0⟩ := arg_cellW (by rw [Try.underlying32]; simp) (by rw [Try.underlying32]; simp) (hval 0 32 v0 rfl rfl) rd32 h0 (sized_at hsz (j := 0) (t := 32) (d := d0) rfl rfl)
  obtain ⟨g1, y1, R1, o1⟩ := arg_cellW (by rw [Try.underlying32]; simp) (by rw [Try.underlying32]; simp) (hval 1 32 v1 rfl rfl) rd32 h1 (sized_at hsz (j := 1) (t := 32) (d := d1) rfl rfl)
  clear hA0 hval0 hsz0 hsz
  have hl := law (V0of W) _ y0 R0 o0 _ y1 R1 o1
  refine (law_top2 (G := 0) (n := 7) (args := #[v0, v1]) (w := W) (Checked.mixed Try.checked) (fun v hv => by
    simp at hv
    rcases hv with rfl | rfl
    · exact g0
    · exact g1) (by simpa [] using hl)).mono fun e W' ⟨he, bel⟩ => ?_
  subst he
  exact ⟨_, rfl, _, _, _, [], _, [], hW', trodAll_mk1 (shut_bool Try.underlying4 _), (trodAll_cons_mk (Below.trod laidOut (by kernel_rfl) (of_decide_eq_true (by kernel_rfl)) h0 bel lt0) (trodAll_cons_mk (Below.trod laidOut (by kernel_rfl) (of_decide_eq_true (by kernel_rfl)) h1 bel lt1) trodAll_mk0)), rfl, bel.frame _, fun h => by cases h⟩

theorem over : Rows.orderAloneRow.holds Try.pinned (OpenSpec.ofChange Rows.orderAloneSpec) :=
  OpenClaim.holds_of_wide 7 Try.f7 rfl rfl rfl rfl rfl rfl rfl ⟨rfl, rfl, rfl, rfl, rfl⟩ rfl rfl rfl rfl rfl (by kernel_rfl) Try.func7 (by kernel_rfl)
    (of_decide_eq_true (by kernel_rfl)) (by unfold Func.isWrapper; first | (rw [if_pos (by decide +kernel)]; kernel_rfl) | (rw [if_neg (by decide +kernel)]; exact ⟨rfl, rfl⟩))
    (fun os started H enc _ => lifted os started H enc)
theorem proved : Rows.OrderAloneSaid := over
end Go.Proofs.Ytbmkccjfldmgiaa.orderAlone
namespace Go.Proofs.Ytbmkccjfldmgiaa
/-- The row, under a short name, for the claim. -/
theorem orderAlone_holds : Rows.OrderAloneSaid := orderAlone.proved
end Go.Proofs.Ytbmkccjfldmgiaa
