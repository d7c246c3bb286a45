/-
  Where the code goes on is what the reference says.
-/
import Derived.Test.YtllkfanfdbnogaaEP10w
set_option linter.unusedSimpArgs false
set_option linter.unusedVariables false
set_option linter.unusedSectionVars false
namespace Go.Vm.G10
open Go

theorem law10_FlowNext_law (f : TFunc) (i0 : Int) (o : OK_TFunc f) (oi : InR .i64 i0) : law10_FlowNext f i0 = some true := by
  unfold law10_FlowNext
  rw [alive_is]
  simp only [Option.bind_some, Bool.not_true, Bool.false_eq_true, if_false]
  refine ((great_ok f o).bind fun b hb => ?_).some_of
  refine .ite (fun _ => .ret rfl) (fun hbf => ?_)
  obtain ⟨h1, h2, h3, hg⟩ := hb hbf
  have h0 : 0 < f.code.length := by
    obtain ⟨l, hl, _⟩ := hg.1
    cases hc : f.code with
    | nil => rw [hc] at hl; cases hl
    | cons a as => simp
  refine (Reached_is (by omega) h0).bind fun L hL => ?_
  obtain ⟨V, rfl, hV⟩ := hL
  rw [if_neg (by simp)]
  have hnx : ∀ i : Int, ∃ l, flow_Next f i = some l ∧ ref10_Next f i = some l ∧ l.length ≤ 2 := by
    intro i
    by_cases hi : 0 ≤ i ∧ i < f.code.length
    · obtain ⟨k, rfl⟩ := Int.eq_ofNat_of_zero_le hi.1
      exact ⟨nx f k, Next_at f (by omega) k (by omega), RNext_is hg (by omega) k (by omega), (nx_at f (by omega) k (by omega)).1⟩
    · exact ⟨[], Next_out f i (by omega), RNext_out f i (by omega), by simp⟩
  unfold law10_FlowNext_l1
  have key : ∀ (k : Nat) (i : Int), k ≤ f.code.length + 1 → Ok (law10_FlowNext_k1 f (tb f.code.length V) ((k : Int) - 1) i) (Sum.elim (fun s => s = ((k + 1 : Nat) : Int) - 1) (fun r => r = true)) := by
    intro k i hk
    obtain ⟨l, e1, e2, hl⟩ := hnx i
    unfold law10_FlowNext_k1
    rw [e1, e2]
    simp only [Option.bind_some]
    rw [if_neg (by simp)]
    unfold law10_FlowNext_l2
    refine loop_for l (fun m s => s = (m : Int)) (fun m y s hm' hm hs => ?_) (fun s hs => ?_) rfl
    · subst hs
      unfold law10_FlowNext_l2b
      rw [if_pos (by simp; omega), ix_nat, hm]
      simp only [Option.bind_some]
      rw [if_neg (by simp)]
      exact .ret (w64_succ (by omega))
    · subst hs
      unfold law10_FlowNext_l2b law10_FlowNext_k2
      rw [if_neg (by simp)]
      refine .map (.ite (fun hb => ?_) (fun hb => ?_))
      · simp at hb
        obtain ⟨t, ht⟩ := Int.eq_ofNat_of_zero_le (a := (k : Int) - 1) (by omega)
        have htn : t < f.code.length := by omega
        rw [ht, ix_tb htn]
        simp only [Option.bind_some]
        refine (RReached_is hg (by omega) h0 t htn).bind fun c hc => ?_
        have : V t = c := by rw [Bool.eq_iff_iff, hc]; exact hV t htn
        rw [if_neg (by simp [this])]
        refine .ret ?_
        show w64 _ = _
        rw [w64_id (by omega) (by omega)]; omega
      · rw [if_neg (by decide)]
        refine .ret ?_
        show w64 _ = _
        rw [w64_id (by omega) (by omega)]; omega
  refine Ok.loop (fun k s => s = (k : Int) - 1) (f.code.length + 2) (fun k s hk hs => ?_) (fun s hs => ?_) rfl
  · subst hs
    unfold law10_FlowNext_l1b
    rw [if_pos (by simp; omega)]
    exact .ite (fun _ => key k i0 (by omega)) (fun _ => key k _ (by omega))
  · subst hs
    unfold law10_FlowNext_l1b
    rw [if_neg (by simp; omega)]
    exact .map (.ret rfl)
end Go.Vm.G10
