/-
 RegsHold, plain.
-/
import Derived.Test.YtngmbcedamphmaaEP13H
set_option linter.unusedSimpArgs false
set_option linter.unusedVariables false
set_option linter.unusedSectionVars false
namespace Go.Vm.G13
open Go
theorem law13_RegsHold_law (f : TFunc) (o : OK_TFunc f) : law13_RegsHold f = some true := by
 obtain ⟨_, hpar, hrg, ⟨hcode, hclen⟩, _⟩ := o
 unfold law13_RegsHold
 rw [alive_is]
 simp only [Option.bind_some]
 rw [if_neg (by decide)]
 refine Ok.some_of (Ok.bind (P := fun b => b = false → f.code.length ≤ 60 ∧ f.regs ≤ 40 ∧ Good f) (.ite (fun _ => .ret (by simp)) fun hb => ?_) fun b hb => .ite (fun _ => .ret rfl) fun hbf => ?_)
 ·simp at hb
  refine (good_is f (by omega) (fun x hx => (hcode x hx).2.2.2.2.2.1.2)).bind fun g hg => .ret fun h => ⟨by omega, by omega, hg.1 (by simpa using h)⟩
 ·obtain ⟨h1, h2, hg⟩ := hb hbf
  have hp0 := hg.2.1
  have hp1 := hg.2.2.1
  obtain ⟨R, hR⟩ := Int.eq_ofNat_of_zero_le (Int.le_trans hp0 hp1)
  unfold law13_RegsHold_l1
  refine loop_for (P := fun r => r = true) f.code (fun k s => s = (k : Int) ∧ ∀ x ∈ f.code.take k, x.args.length ≤ 40) (fun k x s hk' hk hs => ?_) (fun s hs => ?_) ⟨rfl, by simp⟩
  ·obtain ⟨rfl, hs⟩ := hs
   unfold law13_RegsHold_l1b
   rw [if_pos (by simp; omega), ix_nat, hk]
   simp only [Option.bind_some]
   refine .ite (fun _ => .map (.ret rfl)) fun hb => .ret ⟨w64_succ (by omega), fun y hy => ?_⟩
   rw [mem_take_succ hk'] at hy
   rcases hy with hy | rfl
   ·exact hs y hy
   ·rw [List.getElem?_eq_getElem hk'] at hk
    have e := Option.some.inj hk
    rw [e]
    simp at hb
    omega
  ·obtain ⟨rfl, hs⟩ := hs
   rw [List.take_length] at hs
   unfold law13_RegsHold_l1b
   rw [if_neg (by simp)]
   have y : Hy f R := ⟨h1, hR, by omega, fun x hx => by have := hs x hx; omega, hs, hg⟩
   refine .map ((Assign_is y).bind fun m hm => (Holds_is y hm).bind fun t ht => .ret ?_)
   obtain ⟨t1, t2⟩ := t
   obtain ⟨h3, h4⟩ := ht
   simp only at h3 h4
   subst h3
   show (true && ((decide (10 < t2)) || (decide (m.spill = 0)))) = true
   by_cases h0 : m.spill = 0
   ·simp [h0]
   ·simp [h4 h0]
end Go.Vm.G13
