/-
 The law: images that are not the same have encodings that are not.
-/
import Derived.Test.YtdnnbobadopkeaaDoorEP15B
set_option linter.unusedSimpArgs false
set_option linter.unusedVariables false
namespace Go.Vm.G15
open Go
def img0 : TImage := ⟨[266338304], [⟨0, 0, false, false⟩], [0]⟩
theorem img0_ok : OK_TImage img0 := by
 refine ⟨⟨fun x hx => ?_, by decide⟩, ⟨fun x hx => ?_, by decide⟩, ⟨fun x hx => ?_, by decide⟩, trivial⟩
 ·rw [List.mem_singleton.1 hx]; unfold InR; decide
 ·rw [List.mem_singleton.1 hx]; exact ⟨by unfold InR; decide, by unfold InR; decide, trivial, trivial, trivial⟩
 ·rw [List.mem_singleton.1 hx]; unfold InR; decide
theorem img0_dec : isa_Decode 266338304 = some (⟨21, 0, 0, 0, 0⟩, 0) :=
 (back (p := ⟨21, 0, 0, 0, 0⟩) (w := 266338304) (by decide) (by decide) ((ig_21 0 0 0 0).trans (congrArg some (by decide))) ((en_21 0 0 0 0 (by decide)).trans rfl)).1
theorem img0_good : image_Good img0 = some true := by
 have h2 : image_Good_l2 img0 0 = some true := (loop_step (s' := 1) rfl).trans (loop_ret rfl)
 unfold image_Good
 rw [if_neg (by decide)]
 unfold image_Good_l1
 refine (loop_step (s' := 1) ?_).trans (loop_ret ?_)
 ·show image_Good_l1b img0 0 = _
  unfold image_Good_l1b
  rw [if_pos (by decide), show ix img0.code 0 = some 266338304 from rfl, Option.bind_some, img0_dec]
  rfl
 ·show image_Good_l1b img0 1 = _
  unfold image_Good_l1b
  rw [if_neg (by decide), h2]
  rfl
theorem alive : law15_alive = some true := by
 unfold law15_alive
 have h1 : image_Decode ByteArray.empty = some (⟨[], [], []⟩, 4) := rfl
 have h2 : mk 1 (⟨0, 0, false, false⟩ : TNote) = some [⟨0, 0, false, false⟩] := rfl
 obtain ⟨r, hr, hg⟩ := good_i img0 img0_ok
 obtain rfl := Option.some.inj (img0_good.symm.trans hr)
 have h3 : image_Encode ⟨[266338304], [⟨0, 0, false, false⟩], [0]⟩ = some (toB (EncB img0), 0) := enc_is img0 img0_good (hg rfl) img0_ok
 rw [h1, Option.bind_some, h2, Option.bind_some, h3]
 rfl
theorem law15_ImageOne_law (a b : TImage) (oa : OK_TImage a) (ob : OK_TImage b) : law15_ImageOne a b = some true := by
 unfold law15_ImageOne
 rw [alive, Option.bind_some, if_neg (by decide)]
 have e1 : law15_great a = some (((decide (200 < (a.code.length : Int))) || (decide (200 < (a.notes.length : Int)))) || (decide (20 < (a.threads.length : Int)))) := rfl
 have e2 : law15_great b = some (((decide (200 < (b.code.length : Int))) || (decide (200 < (b.notes.length : Int)))) || (decide (20 < (b.threads.length : Int)))) := rfl
 rw [e1, e2]
 simp only [Option.bind_some]
 cases g1 : (((decide (200 < (a.code.length : Int))) || (decide (200 < (a.notes.length : Int)))) || (decide (20 < (a.threads.length : Int)))) with
 | true => rfl
 | false =>
  rw [if_neg (by decide)]
  cases g2 : (((decide (200 < (b.code.length : Int))) || (decide (200 < (b.notes.length : Int)))) || (decide (20 < (b.threads.length : Int)))) with
  | true => rfl
  | false =>
   simp only [Option.bind_some]
   rw [if_neg (by decide)]
   simp only [Bool.or_eq_false_iff, decide_eq_false_iff_not] at g1
   obtain ⟨ra, ha, hga⟩ := good_i a oa
   obtain ⟨rb, hb, hgb⟩ := good_i b ob
   cases ra with
   | false =>
    rw [enc_not a ha, Option.bind_some]
    cases rb with
    | false => rw [enc_not b hb]; rfl
    | true => rw [enc_is b hb (hgb rfl) ob]; rfl
   | true =>
    rw [enc_is a ha (hga rfl) oa, Option.bind_some]
    cases rb with
    | false => rw [enc_not b hb]; rfl
    | true =>
     rw [enc_is b hb (hgb rfl) ob, Option.bind_some, if_neg (by simp)]
     obtain ⟨s, hs, hi⟩ := same_is a b (by omega)
     rw [hs, Option.bind_some, Option.bind_some]
     congr 1
     cases s with
     | true =>
      have := hi.1 rfl
      subst this
      simp
     | false =>
      have hne : toB (EncB a) ≠ toB (EncB b) := fun h => by
       have := hi.2 (encb_inj a b (hga rfl) (hgb rfl) oa ob (toB_inj (encb_byte a (hga rfl) oa) (encb_byte b (hgb rfl) ob) h))
       cases this
      simp [hne]
end Go.Vm.G15
