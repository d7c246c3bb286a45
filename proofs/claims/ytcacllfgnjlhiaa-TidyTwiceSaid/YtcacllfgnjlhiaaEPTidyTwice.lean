/-
 What is tidied once more does the same.
-/
import Derived.Test.YtcacllfgnjlhiaaEP11Y
set_option linter.unusedSimpArgs false
set_option linter.unusedVariables false
set_option linter.unusedSectionVars false
namespace Go.Vm.G11
open Go
namespace Twice
theorem same_is (a : List TAct) (h : a.length ≤ 3000) : ref07_Same_3 a a = some true := by
 unfold ref07_Same_3
 rw [if_neg (by simp)]
 unfold ref07_Same_3_l1
 refine Ok.some_of (loop_all a (by omega) (fun k x hk => ?_) ?_)
 ·have hk' := (List.getElem?_eq_some_iff.1 hk).1
  unfold ref07_Same_3_l1b
  rw [if_pos (by simp; omega), ix_nat, hk]
  simp only [Option.bind_some]
  rw [if_neg (by simp)]
  exact .ret rfl
 ·unfold ref07_Same_3_l1b
  rw [if_neg (by simp)]
  exact .map (.ret rfl)
end Twice
theorem law11_TidyTwice_law (p0 : TModule) (p1 : Ttidy_Options) (p2 : List Int) (o0 : OK_TModule p0) (o1 : OK_Ttidy_Options p1) (o2 : OKs (fun x => InR .i64 x) p2) : law11_TidyTwice p0 p1 p2 = some true := by
 unfold law11_TidyTwice
 rw [alive_is]
 simp only [Option.bind_some]
 rw [if_neg (by decide)]
 refine Ok.some_of ((great_is o0).bind fun b hb => .ite (fun _ => .ret rfl) fun hbf => ?_)
 obtain ⟨hm, hl⟩ := small_mod o0 (hb (by simp only [Bool.or_eq_false_iff] at hbf; exact hbf.1))
 refine (tidy_is p1 hm fun f hf => by have := hl f hf; omega).bind fun t ht => ?_
 have hl2 : ∀ g ∈ t.funcs, g.code.length ≤ 900 := fun g hg => by
  obtain ⟨i, hi⟩ := List.mem_iff_getElem?.1 hg
  have hi2 := (List.getElem?_eq_some_iff.1 hi).1
  have hf : p0.funcs[i]? = some (p0.funcs[i]'(by rw [← ht.len]; exact hi2)) := List.getElem?_eq_getElem _
  have := ht.code i _ g hf hi
  have := hl _ (List.mem_of_getElem? hf)
  omega
 refine (tidy_is p1 ht.mod hl2).bind fun u hu => ?_
 have hn := ht.mod.nf
 unfold law11_TidyTwice_l1
 refine loop_all t.funcs (by omega) (fun k f hk => ?_) ?_
 ·have hk' := (List.getElem?_eq_some_iff.1 hk).1
  have e2 : u.funcs[k]? = some (u.funcs[k]'(by rw [hu.len]; exact hk')) := List.getElem?_eq_getElem _
  have := hu.code k f _ hk e2
  have := hl2 f (List.mem_of_getElem? hk)
  unfold law11_TidyTwice_l1b
  rw [if_pos (by simp; omega), ix_nat, e2]
  simp only [Option.bind_some]
  rw [ix_nat, hk]
  simp only [Option.bind_some]
  rw [w64_succ (by omega), if_neg (by simp; omega)]
  exact .ret rfl
 ·unfold law11_TidyTwice_l1b
  rw [if_neg (by simp), run_is ht.mod, run_is hu.mod]
  simp only [Option.bind_some]
  have hr := run_rel ht.mod hu 0 p2
  have hla := run_len (m := t) 0 p2
  generalize runP t 0 p2 = a at hr hla
  generalize runP u 0 p2 = b at hr
  obtain ⟨a1, a2⟩ := a
  obtain ⟨b1, b2⟩ := b
  have hpre : a1 <+: b1 := by
   rcases hr with h | h
   ·exact h.2
   ·cases h; exact List.prefix_refl _
  have hle := hpre.length_le
  have h2 : a2 = false ∨ (a1, a2) = (b1, b2) := hr.imp (fun h => h.1) id
  rw [if_pos (by simpa using hle), cut_pre hpre]
  simp only [Option.bind_some]
  rw [Twice.same_is _ hla]
  simp only [Option.bind_some]
  refine .map (.ret ?_)
  rcases h2 with h | h
  ·simp [h]
  ·cases h
   cases a2 <;> simp
end Go.Vm.G11
