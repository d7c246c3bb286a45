/-
  The row of the law, for every input: no condition.
-/
import Derived.Test.YtdgkhadbanbmhaaVm24
import Derived.Test.YtdgkhadbanbmhaaWalks1
import Derived.Test.YtdgkhadbanbmhaaRows
import Derived.WalkKit
import Derived.ProofKit
import Derived.OpenShut
import Derived.ShutString
import Derived.ChangeOld
import Derived.Below
import Derived.SizedLaws
set_option linter.unusedVariables false
namespace Go.Proofs.Ytdgkhadbanbmhaa.fenceMerges
open Go.ChangeShapes Go.WideShapes Go.ChangeAt Go.RowKit Go.Vm

theorem law (V : Vw) (cs ds : Array Value) (x : Mod) (y : Opt) (hx : RMod V cs.toList x) (hy : ROpt V ds.toList y) : Cc Try.checked.prog 0 5 #[.agg cs, .agg ds] V (fun _ => False) (fun v _ => v = .bool true) := by
  obtain ⟨vf, vt, h1, hf, ht⟩ := hx
  have e1 : cs = #[vf, vt] := Array.ext' h1
  have e2 : ds = #[.bool y.naive, .bool y.bare, .bool y.merged] := Array.ext' hy
  subst e1 e2
  exact S12.fnc5 V x vf vt hf ht y

theorem c3 : Try.prog.cellsOf 3 = 1 := by kernel_rfl
theorem c4 : Try.prog.cellsOf 4 = 1 := by kernel_rfl
theorem c9 : Try.prog.cellsOf 9 = 1 := by kernel_rfl
theorem c22 : Try.prog.cellsOf 22 = 1 := by kernel_rfl
theorem c23 : Try.prog.cellsOf 23 = 1 := by kernel_rfl
theorem c31 : Try.prog.cellsOf 31 = 1 := by kernel_rfl
theorem c33 : Try.prog.cellsOf 33 = 4 := by kernel_rfl
theorem c42 : Try.prog.cellsOf 42 = 9 := by kernel_rfl
theorem c25 : Try.prog.cellsOf 25 = 2 := by kernel_rfl
theorem c27 : Try.prog.cellsOf 27 = 3 := by kernel_rfl
theorem rd42 : Rd Try.prog 42 9 RIns Ins.Ok := Rd.ins Try.underlying42 c42 Try.underlying3 Try.underlying23 Try.underlying4 c3 c23 c4 rfl
theorem rd33 : Rd Try.prog 33 4 RFn Fn.Ok := Rd.fn Try.underlying33 c33 Try.underlying3 Try.underlying9 c3 c9 c31 Try.underlying31 c42 rfl rd42
theorem rd25 : Rd Try.prog 25 2 RMod Mod.Ok := Rd.mod Try.underlying25 c25 Try.underlying22 Try.underlying23 Try.underlying3 c3 c33 c22 c23 rfl rd33
theorem rd27 : Rd Try.prog 27 3 ROpt (fun _ => True) := Rd.opt Try.underlying27 c27 Try.underlying4 c4 rfl

theorem own : ownKnob Try.prog.godebug = none := by kernel_rfl
theorem laidOut : laidOutB Try.prog = true := by kernel_rfl
set_option maxRecDepth 100000 in
theorem lifted (os : Os) (started : os.Started) (H : Type) (enc : TypeId × Value → H) :
    ReturnsInHanded {} Try.checked os 5 .any (Rows.fenceMergesSpec.pre6 enc Try.prog Try.f5 Rows.fenceMergesRow.domain false) (Rows.fenceMergesSpec.post enc Try.prog Try.f5 false true false false) := by
  refine returnsInHanded_of_change_sized (C := Try.checked) own started (by kernel_rfl) Try.func5
    (ChangeSpec.witness6 (enc := enc) (C := Try.checked) false ⟨#[], #[.agg #[.slice none 0 0, .slice none 0 0], .agg #[.bool false, .bool false, .bool false]], []⟩ 8 (by kernel_rfl) (by kernel_rfl) (by kernel_rfl) (by kernel_rfl)) ?_
  intro W base args ds gs before hval0 hW hcnd hsz0 _
  have hsz : (DataW.weightsEach Try.prog (Try.f5.params.toList ++ Rows.fenceMergesSpec.plain.varTypes Try.prog) (ds ++ gs)).all (· ≤ reachBytes) = true := hsz0
  have hval : ∀ (j : Nat) t v, Try.f5.params[j]? = some t → args[j]? = some v → Value.okWide Try.prog W .any base t v := hval0
  have hW' := hW
  obtain ⟨p, q, hA0, hV, rfl, hfz, hnd⟩ := hW
  have hA : DataW.TrodAll enc Try.prog W 0 (fun _ => true) true Try.f5.params.toList args.toList ds p := hA0
  rw [Try.params5] at hA hval hsz
  obtain ⟨v0, vs0, d0, ds0, p0, q0, hargs, rfl, rfl, h0, r0⟩ := trodAll_cons hA
  obtain ⟨v1, vs1, d1, ds1, p1, q1, rfl, rfl, rfl, h1, r1⟩ := trodAll_cons r0
  obtain ⟨rfl, rfl, rfl⟩ := trodAll_nil r1
  obtain rfl : args = #[v0, v1] := by cases args; simp_all
  obtain ⟨rfl, rfl⟩ := trodVars_none hV
  have lt0 : ∀ x ∈ p0, x.block < W.heap.size := by obtain ⟨m, hm⟩ := h0; exact DataW.trod_lt m _ _ _ hm
  have lt1 : ∀ x ∈ p1, x.block < W.heap.size := by obtain ⟨m, hm⟩ := h1; exact DataW.trod_lt m _ _ _ hm
  obtain ⟨g0, cs0, y0, e0, R0, o0⟩ := arg_struct Try.underlying25 (hval 0 25 v0 rfl rfl) rd25 h0
  obtain ⟨g1, cs1, y1, e1, R1, o1⟩ := arg_struct Try.underlying27 (hval 1 27 v1 rfl rfl) rd27 h1
  clear hA0 hval0 hsz0 hsz
  have hl := law (V0of W) cs0 cs1 y0 y1 R0 R1
  refine (law_top (G := 0) (n := 5) (args := #[v0, v1]) (w := W) (Checked.mixed Try.checked) (fun v hv => by
    simp at hv
    rcases hv with rfl | rfl
    · exact g0
    · exact g1) (by simpa [e0, e1] using hl)).mono fun e W' ⟨he, bel⟩ => ?_
  subst he
  exact ⟨_, rfl, _, _, _, [], _, [], hW', trodAll_mk1 (shut_bool Try.underlying4 _), (trodAll_cons_mk (Below.trod laidOut (by kernel_rfl) (of_decide_eq_true (by kernel_rfl)) h0 bel lt0) (trodAll_cons_mk (Below.trod laidOut (by kernel_rfl) (of_decide_eq_true (by kernel_rfl)) h1 bel lt1) trodAll_mk0)), rfl, bel.frame _, fun h => by cases h⟩

theorem over : Rows.fenceMergesRow.holds Try.pinned (OpenSpec.ofChange Rows.fenceMergesSpec) :=
  OpenClaim.holds_of_wide 5 Try.f5 rfl rfl rfl rfl rfl rfl rfl ⟨rfl, rfl, rfl, rfl, rfl⟩ rfl rfl rfl rfl rfl (by kernel_rfl) Try.func5 (by kernel_rfl)
    (of_decide_eq_true (by kernel_rfl)) (by unfold Func.isWrapper; first | (rw [if_pos (by decide +kernel)]; kernel_rfl) | (rw [if_neg (by decide +kernel)]; exact ⟨rfl, rfl⟩))
    (fun os started H enc _ => lifted os started H enc)
theorem proved : Rows.FenceMergesSaid := over
#print axioms proved
end Go.Proofs.Ytdgkhadbanbmhaa.fenceMerges
namespace Go.Proofs.Ytdgkhadbanbmhaa
/-- The row, under a short name, for the claim. -/
theorem fenceMerges_holds : Rows.FenceMergesSaid := fenceMerges.proved
end Go.Proofs.Ytdgkhadbanbmhaa
