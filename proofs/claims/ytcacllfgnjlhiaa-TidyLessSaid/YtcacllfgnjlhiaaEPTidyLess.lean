/-
 Code gets no longer.
-/
import Derived.Test.YtcacllfgnjlhiaaEP11e
set_option linter.unusedSimpArgs false
set_option linter.unusedVariables false
set_option linter.unusedSectionVars false
namespace Go.Vm.G11
open Go
theorem ops_is {o : Ttidy_Options} {f g : TFunc} (hf : Fine f) (hl : Less o f g) (j : Int) : law11_TidyLess_l2 o j f g 9 = some (.inl (w64 (j + 1))) := by
 unfold law11_TidyLess_l2
 have hg := hl.2.2.2.1
 refine Ok.some_of (Ok.loop (fun (k : Nat) (s : Int) => s = (k : Int) + 9) 14 (fun k s hk hs => ?_) (fun s hs => ?_) rfl)
 ·subst hs
  unfold law11_TidyLess_l2b
  have next : Ok (law11_TidyLess_k2 ((k : Int) + 9) false) (Sum.elim (fun s => s = ((k + 1 : Nat) : Int) + 9) (fun r => r = .inl (w64 (j + 1)))) := by
   refine .ret ?_
   show w64 _ = _
   rw [w64_id (by omega) (by omega)]; omega
  rw [if_pos (by simp; omega)]
  refine .ite (fun hb => ?_) fun _ => next
  simp only [Bool.and_eq_true, decide_eq_true_iff] at hb
  have hk2 : Keeps ((k : Int) + 9) := ⟨by omega, hb.1.1, hb.1.2, hb.2⟩
  rw [acts_is g _ hg.len, acts_is f _ hf.len]
  simp only [Option.bind_some]
  have h1 := hl.2.2.2.2.2.1 _ hk2
  rw [if_neg (by simp; omega)]
  refine .ite (fun hd => ?_) fun _ => next
  have h2 := hl.2.2.2.2.2.2 (by simpa using hd) _ hk2
  rw [show decide ((nOp ((k : Int) + 9) g.code : Int) ≠ (nOp ((k : Int) + 9) f.code : Int)) = false by simp [h2]]
  exact next
 ·subst hs
  unfold law11_TidyLess_l2b
  rw [if_neg (by simp)]
  exact .map (.ret rfl)
theorem law11_TidyLess_law (p0 : TModule) (p1 : Ttidy_Options) (o0 : OK_TModule p0) (o1 : OK_Ttidy_Options p1) : law11_TidyLess p0 p1 = some true := by
 unfold law11_TidyLess
 rw [alive_is]
 simp only [Option.bind_some]
 rw [if_neg (by decide)]
 refine Ok.some_of ((great_is o0).bind fun b hb => .ite (fun _ => .ret rfl) fun hbf => ?_)
 have hs := hb hbf
 have hfine : ∀ f ∈ p0.funcs, Fine f := fun f hf => by
  have h1 := hs.code f hf
  exact good_fine (hs.whole.1 f hf).1 (by omega) (by omega) (fun x hx => by
   have := small_args hs hf (fun x hx => ((o0.1.1 f hf).2.2.2.1.1 x hx).2.2.2.2.2.1.2) x hx
   omega)
 have hfn := hs.funcs
 have htn := hs.threads
 refine (module_is p1 (by omega) (by omega) (Less p1) fun f hf => func_less p1 (hfine f hf) (by have := hs.code f hf; omega)).bind fun t ht => ?_
 refine (module_is ⟨false, false, false⟩ (by omega) (by omega) (fun f g => g = rowF ⟨false, false, false⟩ f) fun f hf => (func_is _ (hfine f hf) (by have := hs.code f hf; omega) (fun _ => True) trivial (fun _ _ _ _ _ => trivial)).mono fun g hg => hg.2.2.2 rfl).bind fun u hu => ?_
 rw [if_neg (by simp [ht.1, ht.2.1])]
 unfold law11_TidyLess_l1
 refine loop_all p0.funcs (by omega) (fun k f hk => ?_) ?_
 ·have hk' := (List.getElem?_eq_some_iff.1 hk).1
  have hmem := List.mem_of_getElem? hk
  have hf := hfine f hmem
  unfold law11_TidyLess_l1b
  have e1 : t.funcs[k]? = some t.funcs[k] := List.getElem?_eq_getElem (by rw [ht.2.1]; exact hk')
  have e2 : u.funcs[k]? = some u.funcs[k] := List.getElem?_eq_getElem (by rw [hu.2.1]; exact hk')
  have hl := ht.2.2 k f _ hk e1
  have hu2 := hu.2.2 k f _ hk e2
  have hfu : rowF ⟨false, false, false⟩ f = f := by unfold rowF; rw [row_none]
  rw [hfu] at hu2
  rw [if_pos (by simp; omega), ix_nat, hk]
  simp only [Option.bind_some]
  rw [ix_nat, e1]
  simp only [Option.bind_some]
  generalize t.funcs[k] = g at hl
  have hfl := hf.len
  have h5 := hl.2.2.2.2.1
  rw [w64_succ (by omega), if_neg (by simp; omega), if_neg (by simp [hl.1]), if_neg (by simp [hl.2.1]), if_neg (by simp [hl.2.2.1]), ix_nat, e2, hu2]
  simp only [Option.bind_some]
  rw [same_is f hf.len hf.args]
  simp only [Option.bind_some]
  unfold law11_TidyLess_k1
  rw [if_neg (by decide), ops_is hf hl]
  exact .ret rfl
 ·unfold law11_TidyLess_l1b
  rw [if_neg (by simp)]
  exact .map (.ret rfl)
end Go.Vm.G11
