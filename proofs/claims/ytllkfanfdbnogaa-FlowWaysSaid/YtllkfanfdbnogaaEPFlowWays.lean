/-
  Every way stays within the code, and what is reached goes on to what is reached.
-/
import Derived.Test.YtllkfanfdbnogaaEP10w
set_option linter.unusedSimpArgs false
set_option linter.unusedVariables false
set_option linter.unusedSectionVars false
namespace Go.Vm.G10
open Go

theorem law10_FlowWays_law (f : TFunc) (o : OK_TFunc f) : law10_FlowWays f = some true := by
  unfold law10_FlowWays
  rw [alive_is]
  simp only [Option.bind_some, Bool.not_true, Bool.false_eq_true, if_false]
  refine ((great_ok f o).bind fun b hb => ?_).some_of
  refine .ite (fun _ => .ret rfl) (fun hbf => ?_)
  obtain ⟨h1, h2, h3, hg⟩ := hb hbf
  have h0 : 0 < f.code.length := by
    obtain ⟨l, hl, _⟩ := hg.1
    cases hc : f.code with
    | nil => rw [hc] at hl; cases hl
    | cons a as => simp
  refine (Reached_is (by omega) h0).bind fun L hL => ?_
  obtain ⟨V, rfl, hV⟩ := hL
  rw [show (0 : Int) = ((0 : Nat) : Int) from rfl, ix_tb h0]
  simp only [Option.bind_some]
  rw [if_neg (by simp [(hV 0 h0).2 .zero])]
  unfold law10_FlowWays_l1
  refine Ok.loop (fun k s => s = (k : Int)) f.code.length (fun k s hk hs => ?_) (fun s hs => ?_) rfl
  · subst hs
    have hn := nx_at f (by omega) k hk
    unfold law10_FlowWays_l1b
    rw [if_pos (by simp; omega), ix_tb hk]
    simp only [Option.bind_some]
    rw [Next_at f (by omega) k hk]
    simp only [Option.bind_some]
    unfold law10_FlowWays_l2
    refine loop_for (nx f k) (fun m s => s = (m : Int)) (fun m y s hm' hm hs => ?_) (fun s hs => ?_) rfl
    · subst hs
      have hym := List.mem_of_getElem? hm
      have hy := hn.2 y hym
      obtain ⟨q, rfl⟩ := Int.eq_ofNat_of_zero_le hy.1
      have hqn : q < f.code.length := by omega
      unfold law10_FlowWays_l2b
      rw [if_pos (by simp; omega), ix_nat, hm]
      simp only [Option.bind_some]
      rw [if_neg (by simp; omega), ix_tb hqn]
      simp only [Option.bind_some]
      refine Ok.bind (P := fun e => e = false) ?_ (fun e he => .ite (fun h => by rw [he] at h; cases h) (fun _ => .ret (w64_succ (by omega))))
      refine Ok.bind (P := fun e => e = false) (.ite (fun hv => .ret ?_) (fun hv => .ret rfl)) (fun e he => .ret he)
      have := (hV q hqn).2 (.go k q hk hym ((hV k hk).1 hv))
      simp [this]
    · subst hs
      unfold law10_FlowWays_l2b
      rw [if_neg (by simp)]
      exact .map (.ret (w64_succ (by omega)))
  · subst hs
    unfold law10_FlowWays_l1b
    rw [if_neg (by simp)]
    exact .map (.ret rfl)
end Go.Vm.G10
