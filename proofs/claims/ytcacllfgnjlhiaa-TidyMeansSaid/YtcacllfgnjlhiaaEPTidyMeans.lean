/-
 What code does it does tidied, too.
-/
import Derived.Test.YtcacllfgnjlhiaaEP11Y
set_option linter.unusedSimpArgs false
set_option linter.unusedVariables false
set_option linter.unusedSectionVars false
namespace Go.Vm.G11
open Go
namespace Means
theorem same_is (a : List TAct) (h : a.length ≤ 3000) : ref07_Same_2 a a = some true := by
 unfold ref07_Same_2
 rw [if_neg (by simp)]
 unfold ref07_Same_2_l1
 refine Ok.some_of (loop_all a (by omega) (fun k x hk => ?_) ?_)
 ·have hk' := (List.getElem?_eq_some_iff.1 hk).1
  unfold ref07_Same_2_l1b
  rw [if_pos (by simp; omega), ix_nat, hk]
  simp only [Option.bind_some]
  rw [if_neg (by simp)]
  exact .ret rfl
 ·unfold ref07_Same_2_l1b
  rw [if_neg (by simp)]
  exact .map (.ret rfl)
end Means
theorem law11_TidyMeans_law (p0 : TModule) (p1 : Ttidy_Options) (p2 : Int) (p3 : List Int) (o0 : OK_TModule p0) (o1 : OK_Ttidy_Options p1) (o2 : InR .i64 p2) (o3 : OKs (fun x => InR .i64 x) p3) : law11_TidyMeans p0 p1 p2 p3 = some true := by
 unfold law11_TidyMeans
 rw [alive_is]
 simp only [Option.bind_some]
 rw [if_neg (by decide)]
 refine Ok.some_of ((great_is o0).bind fun b hb => .ite (fun _ => .ret rfl) fun hbf => ?_)
 obtain ⟨hm, hl⟩ := small_mod o0 (hb (by simp only [Bool.or_eq_false_iff] at hbf; exact hbf.1))
 refine (tidy_is p1 hm fun f hf => by have := hl f hf; omega).bind fun t ht => ?_
 refine (whole_is ht.mod.bnd).bind fun w hw => ?_
 rw [if_neg (by rw [hw.2 ht.mod.whole]; decide), run_is hm, run_is ht.mod]
 simp only [Option.bind_some]
 have hr := run_rel hm ht p2 p3
 have hla := run_len (m := p0) p2 p3
 generalize runP p0 p2 p3 = a at hr hla
 generalize runP t p2 p3 = b at hr
 obtain ⟨a1, a2⟩ := a
 obtain ⟨b1, b2⟩ := b
 have hpre : a1 <+: b1 := by
  rcases hr with h | h
  ·exact h.2
  ·cases h; exact List.prefix_refl _
 have hle := hpre.length_le
 have h2 : a2 = false ∨ (a1, a2) = (b1, b2) := hr.imp (fun h => h.1) id
 rw [if_neg ?_, cut_pre hpre]
 ·simp only [Option.bind_some]
  rw [Means.same_is _ hla]
  simp only [Option.bind_some]
  refine .ret ?_
  rcases h2 with h | h
  ·simp [h]
  ·cases h; simp
 ·simp only [Bool.or_eq_true, decide_eq_true_iff, not_or]
  refine ⟨by omega, ?_⟩
  rcases h2 with h | h
  ·simp [h]
  ·cases h; simp
end Go.Vm.G11
