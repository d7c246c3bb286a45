/-
 A map of one's own: a key is struck, what the machine does.
-/
import Derived.Test.YtcacllfgnjlhiaaESp16
import Derived.Maps.RangeRun
set_option linter.unusedSimpArgs false
set_option linter.unusedVariables false
namespace Go.Vm
open Go Go.RowKit
theorem run_del {P : Program} {H : AH} {ι : Inj} {w : World} {b : Nat} {l : Loc} {es : List (Int × Value)} {k : Int} {t kt e ty : TypeId} (hr : R ι H w) (hl : ι b = some l) (hlo : H.lo ≤ b) (hg : H.get b = some (.amap es))
  (hu : P.underlying t = some (.map kt e)) (hk : P.underlying kt = some (.int .i64)) {cs : Array MapEntry} {clock : Nat} (h3 : w.heap[l.blk]? = some (.map cs clock)) :
  ∃ w', (Builtin.delete_ #[t, kt] ty #[.map (some l.blk), .int .i64 k]).run P w = .ok (.tuple #[]) w' ∧ After ι H (H.upd b (some (.amap (mdel es k)))) w w' ι ∧ w' = { w with heap := w.heap.setIfInBounds l.blk (.map (match mix es k with | some j => cs.eraseIdxIfInBounds j | none => cs) clock) } := by
 obtain ⟨cs', clock', h3', h4, h5, hst⟩ := hr.obj b l _ hl hg
 rw [h3] at h3'
 cases h3'
 have hlt := (hr.dom b l hl).2
 have h6 := findNow_rel (lo := H.lo) (ι := ι) (k := k) es cs.toList 0 (by simpa using h4) (fun i q v hi => by
  obtain ⟨e, h7, h8, h9⟩ := h5 i q v hi
  exact ⟨e, by simpa using h7, h8, h9⟩)
 have hck : ∀ em, (Instr.checkKey em 10000 kt (.int .i64 k)).run P w = .ok () w := fun em => by
  unfold Instr.checkKey
  simp [run_und hk]
 have ho1 := ObjRel.mdel (b := b) (l := l) (w := w) (k := k) (clock := clock) hlt h4 hst h5
 obtain ⟨h17, h18, h19⟩ := hr.write (w' := { w with heap := w.heap.setIfInBounds l.blk _ }) hl hlo (by rw [hg]; simp) (by simp) (fun c hc => by simp [Array.getElem?_setIfInBounds, Ne.symm hc]) ⟨rfl, rfl, rfl⟩ ho1
 refine ⟨_, ?_, ⟨h18, h17, h19⟩, rfl⟩
 cases hm : mix es k with
 | none =>
  rw [hm] at h6
  obtain ⟨h7, h8⟩ := h6
  simp [Builtin.delete_, run_und hu, run_getObj_map h3, hck, Instr.findKey, run_und hk, h8, run_setObj_map _ h3]
 | some j =>
  rw [hm] at h6
  obtain ⟨e', v, q1, q2, q3, q4, q5, q6⟩ := h6
  simp [Builtin.delete_, run_und hu, run_getObj_map h3, hck, Instr.findKey, run_und hk, q6, run_setObj_map _ h3]
noncomputable def forgetO (n s : List (Int × Int)) (r : Int) : Option (List (Int × Int) × List (Int × Int)) :=
 if (s.map Prod.fst).Nodup then some (mD n r, (mD s r).filter fun q => decide (q.2 ≠ r)) else none
end Go.Vm
