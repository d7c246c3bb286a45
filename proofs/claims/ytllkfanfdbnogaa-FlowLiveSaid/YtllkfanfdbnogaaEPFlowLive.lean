/-
  What flow.Live says is what the reference says.
-/
import Derived.Test.YtllkfanfdbnogaaEP10w
set_option linter.unusedSimpArgs false
set_option linter.unusedVariables false
set_option linter.unusedSectionVars false
namespace Go.Vm.G10
open Go

theorem law10_FlowLive_law (f : TFunc) (o : OK_TFunc f) : law10_FlowLive f = some true := by
  unfold law10_FlowLive
  rw [alive_is]
  simp only [Option.bind_some, Bool.not_true, Bool.false_eq_true, if_false]
  refine ((great_ok f o).bind fun b hb => ?_).some_of
  refine .ite (fun _ => .ret rfl) (fun hbf => ?_)
  obtain ⟨h1, h2, h3, hg⟩ := hb hbf
  have hreg : 0 ≤ f.regs := by have := hg.2.1; have := hg.2.2.1; omega
  obtain ⟨R, hR⟩ := Int.eq_ofNat_of_zero_le hreg
  have hargs : ∀ x ∈ f.code, x.args.length ≤ 1000 := fun x hx => by have := h3 x hx; omega
  refine (Live_is f R (by omega) (by omega) (by omega) hargs).bind fun L hL => ?_
  obtain ⟨G, rfl, hG⟩ := hL
  rw [if_neg (by simp)]
  unfold law10_FlowLive_l1
  refine Ok.loop (fun k s => s = (k : Int)) f.code.length (fun k s hk hs => ?_) (fun s hs => ?_) rfl
  · subst hs
    unfold law10_FlowLive_l1b
    rw [if_pos (by simp; omega), ix_tb hk]
    simp only [Option.bind_some]
    rw [if_neg (by simp [hR])]
    unfold law10_FlowLive_l2
    refine Ok.loop (fun r s => s = (r : Int)) R (fun r s hr hs => ?_) (fun s hs => ?_) rfl
    · subst hs
      unfold law10_FlowLive_l2b
      rw [if_pos (by simp; omega), ix_tb hr]
      simp only [Option.bind_some]
      refine (Needed_is hg (by omega) hargs r k hk).bind fun c hc => ?_
      have : G k r = c := by rw [Bool.eq_iff_iff, hc]; exact hG k r hk hr
      rw [if_neg (by simp [this])]
      exact .ret (w64_succ (by omega))
    · subst hs
      unfold law10_FlowLive_l2b
      rw [if_neg (by simp)]
      exact .map (.ret (w64_succ (by omega)))
  · subst hs
    unfold law10_FlowLive_l1b
    rw [if_neg (by simp)]
    exact .map (.ret rfl)
end Go.Vm.G10
