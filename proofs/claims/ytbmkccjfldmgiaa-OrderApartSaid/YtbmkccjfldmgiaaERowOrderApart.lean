/-
 The row of the law, for every input: no condition.
-/
import Derived.Test.YtbmkccjfldmgiaaESp12
import Derived.Test.YtbmkccjfldmgiaaEWGA21
import Derived.Test.YtbmkccjfldmgiaaEWGA21b
import Derived.Test.YtbmkccjfldmgiaaEWGA21c
import Derived.Test.YtbmkccjfldmgiaaEOGA21
import Derived.Test.YtbmkccjfldmgiaaEPOrderApart
import Derived.Test.YtbmkccjfldmgiaaRows
import Derived.WalkKit
import Derived.ProofKit
import Derived.OpenShut
import Derived.ShutString
import Derived.ChangeOld
import Derived.Below
import Derived.SizedLaws
set_option linter.unusedVariables false
set_option linter.unusedSimpArgs false
namespace Go.Proofs.Ytbmkccjfldmgiaa.orderApart
open Go.ChangeShapes Go.WideShapes Go.ChangeAt Go.RowKit Go.Vm Go.Vm.GA21
theorem cl3 : Try.prog.cellsOf 3 = 1 := by kernel_rfl
theorem rd3 : Rd Try.prog 3 1 (RT.int .i64).rel (fun x => InR .i64 x) := Rd.int Try.underlying3
theorem cl4 : Try.prog.cellsOf 4 = 1 := by kernel_rfl
theorem rd4 : Rd Try.prog 4 1 RT.bool.rel (fun _ => True) := Rd.bool Try.underlying4
theorem cl29 : Try.prog.cellsOf 29 = 6 := by kernel_rfl
theorem rd29 : Rd Try.prog 29 6 RT_TAct.rel OK_TAct := by
 refine (Rd.struct Try.underlying29 cl29 (RdF.cons (f := ⟨ "Kind", 3, 0, false, "", "", 0⟩) rfl cl3 rd3 (RdF.cons (f := ⟨ "At", 3, 1, false, "", "", 8⟩) rfl cl3 rd3 (RdF.cons (f := ⟨ "Val", 3, 2, false, "", "", 16⟩) rfl cl3 rd3 (RdF.cons (f := ⟨ "What", 3, 3, false, "", "", 24⟩) rfl cl3 rd3 (RdF.cons (f := ⟨ "Volatile", 4, 4, false, "", "", 32⟩) rfl cl4 rd4 (RdF.cons (f := ⟨ "Final", 4, 5, false, "", "", 33⟩) rfl cl4 rd4 RdF.nil))))))).map (fun y => (⟨y.1, y.2.1, y.2.2.1, y.2.2.2.1, y.2.2.2.2.1, y.2.2.2.2.2.1⟩ : TAct)) (fun H cs y hr ho => ?_)
 obtain ⟨_, _, rfl, rfl, _, _, rfl, rfl, _, _, rfl, rfl, _, _, rfl, rfl, _, _, rfl, rfl, _, _, rfl, rfl, rfl⟩ := hr
 exact ⟨rfl, ho⟩
theorem cl31 : Try.prog.cellsOf 31 = 9 := by kernel_rfl
theorem rd31 : Rd Try.prog 31 9 RT_TEvent.rel OK_TEvent := by
 refine (Rd.struct Try.underlying31 cl31 (RdF.cons (f := ⟨ "T", 3, 0, false, "", "", 0⟩) rfl cl3 rd3 (RdF.cons (f := ⟨ "Act", 29, 1, false, "", "", 8⟩) rfl cl29 rd29 (RdF.cons (f := ⟨ "Rf", 3, 7, false, "", "", 48⟩) rfl cl3 rd3 (RdF.cons (f := ⟨ "Id", 3, 8, false, "", "", 56⟩) rfl cl3 rd3 RdF.nil))))).map (fun y => (⟨y.1, y.2.1, y.2.2.1, y.2.2.2.1⟩ : TEvent)) (fun H cs y hr ho => ?_)
 obtain ⟨_, _, rfl, rfl, _, _, rfl, rfl, _, _, rfl, rfl, _, _, rfl, rfl, rfl⟩ := hr
 exact ⟨rfl, ho⟩
theorem cl27 : Try.prog.cellsOf 27 = 1 := by kernel_rfl
theorem rd27 : RdW Try.prog 27 1 (RT.sl RT_TEvent).rel (OKw OK_TEvent) := RdW.sl Try.underlying27 cl31 rfl (of_decide_eq_true (by kernel_rfl)) (Rd.w rd31)
theorem cl22 : Try.prog.cellsOf 22 = 1 := by kernel_rfl
theorem rd22 : RdW Try.prog 22 1 (RT.sl (RT.sl RT_TEvent)).rel (OKw (OKw OK_TEvent)) := RdW.sl Try.underlying22 cl27 rfl (of_decide_eq_true (by kernel_rfl)) rd27
theorem law (V : Vw) (c0 : Value) (x0 : List (List TEvent)) (r0 : ((RT.sl (RT.sl RT_TEvent))).rel V [c0] x0) (o0 : OKw (OKw OK_TEvent) x0) : ∃ v V', Cl Try.checked.prog 0 6 #[c0] V.H v V'.H ∧ V.le V' ∧ v = .bool true ∧ Ow V' [] := by
 obtain ⟨v0, e0, f0⟩ := r0
 obtain rfl := (List.cons.inj e0).1
 exact wk_law21_OrderApart V [] x0 c0 f0 (.start V) true (law21_OrderApart_law x0 o0)
theorem own : ownKnob Try.prog.godebug = none := by kernel_rfl
theorem laidOut : laidOutB Try.prog = true := by kernel_rfl
set_option maxRecDepth 100000 in
theorem lifted (os : Os) (started : os.Started) (H : Type) (enc : TypeId × Value → H) :
  ReturnsInHanded {} Try.checked os 6 .any (Rows.orderApartSpec.pre6 enc Try.prog Try.f6 Rows.orderApartRow.domain false) (Rows.orderApartSpec.post enc Try.prog Try.f6 false true false false) := by
 refine returnsInHanded_of_change_sized (C := Try.checked) own started (by kernel_rfl) Try.func6
  (ChangeSpec.witness6 (enc := enc) (C := Try.checked) false ⟨#[], #[.slice none 0 0], []⟩ 8 (by kernel_rfl) (by kernel_rfl) (by kernel_rfl) (by kernel_rfl)) ?_
 intro W base args ds gs before hval0 hW hcnd hsz0 _
 have hsz : (DataW.weightsEach Try.prog (Try.f6.params.toList ++ Rows.orderApartSpec.plain.varTypes Try.prog) (ds ++ gs)).all (· ≤ reachBytes) = true := hsz0
 have hval : ∀ (j : Nat) t v, Try.f6.params[j]? = some t → args[j]? = some v → Value.okWide Try.prog W .any base t v := hval0
 have hW' := hW
 obtain ⟨p, q, hA0, hV, rfl, hfz, hnd⟩ := hW
 have hA : DataW.TrodAll enc Try.prog W 0 (fun _ => true) true Try.f6.params.toList args.toList ds p := hA0
 rw [Try.params6] at hA hval hsz
 obtain ⟨v0, vs0, d0, ds0, p0, q0, hargs, rfl, rfl, h0, r0⟩ := trodAll_cons hA
 obtain ⟨rfl, rfl, rfl⟩ := trodAll_nil r0
 obtain rfl : args = #[v0] := by cases args; simp_all
 obtain ⟨rfl, rfl⟩ := trodVars_none hV
 have lt0 : ∀ x ∈ p0, x.block < W.heap.size := by obtain ⟨m, hm⟩ := h0; exact DataW.trod_lt m _ _ _ hm
 obtain ⟨g0, y0, R0, o0⟩ := arg_cellW (by rw [Try.underlying22]; simp) (by rw [Try.underlying22]; simp) (hval 0 22 v0 rfl rfl) rd22 h0 (sized_at hsz (j := 0) (t := 22) (d := d0) rfl rfl)
 clear hA0 hval0 hsz0 hsz
 have hl := law (V0of W) _ y0 R0 o0
 refine (law_top2 (G := 0) (n := 6) (args := #[v0]) (w := W) (Checked.mixed Try.checked) (fun v hv => by
  simp at hv
  subst hv
  exact g0) (by simpa [] using hl)).mono fun e W' ⟨he, bel⟩ => ?_
 subst he
 exact ⟨_, rfl, _, _, _, [], _, [], hW', trodAll_mk1 (shut_bool Try.underlying4 _), (trodAll_cons_mk (Below.trod laidOut (by kernel_rfl) (of_decide_eq_true (by kernel_rfl)) h0 bel lt0) trodAll_mk0), rfl, bel.frame _, fun h => by cases h⟩
theorem over : Rows.orderApartRow.holds Try.pinned (OpenSpec.ofChange Rows.orderApartSpec) :=
 OpenClaim.holds_of_wide 6 Try.f6 rfl rfl rfl rfl rfl rfl rfl ⟨rfl, rfl, rfl, rfl, rfl⟩ rfl rfl rfl rfl rfl (by kernel_rfl) Try.func6 (by kernel_rfl)
  (of_decide_eq_true (by kernel_rfl)) (by unfold Func.isWrapper; first | (rw [if_pos (by decide +kernel)]; kernel_rfl) | (rw [if_neg (by decide +kernel)]; exact ⟨rfl, rfl⟩))
  (fun os started H enc _ => lifted os started H enc)
theorem proved : Rows.OrderApartSaid := over
end Go.Proofs.Ytbmkccjfldmgiaa.orderApart
namespace Go.Proofs.Ytbmkccjfldmgiaa
theorem orderApart_holds : Rows.OrderApartSaid := orderApart.proved
end Go.Proofs.Ytbmkccjfldmgiaa
