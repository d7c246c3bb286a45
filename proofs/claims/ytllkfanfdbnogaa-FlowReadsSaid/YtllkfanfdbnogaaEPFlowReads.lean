/-
  What is read is live; what is live is read or comes from behind.
-/
import Derived.Test.YtllkfanfdbnogaaEP10w
set_option linter.unusedSimpArgs false
set_option linter.unusedVariables false
set_option linter.unusedSectionVars false
namespace Go.Vm.G10
open Go

theorem law10_FlowReads_law (f : TFunc) (o : OK_TFunc f) : law10_FlowReads f = some true := by
  unfold law10_FlowReads
  rw [alive_is]
  simp only [Option.bind_some, Bool.not_true, Bool.false_eq_true, if_false]
  refine ((great_ok f o).bind fun b hb => ?_).some_of
  refine .ite (fun _ => .ret rfl) (fun hbf => ?_)
  obtain ⟨h1, h2, h3, hg⟩ := hb hbf
  have hreg : 0 ≤ f.regs := by have := hg.2.1; have := hg.2.2.1; omega
  obtain ⟨R, hR⟩ := Int.eq_ofNat_of_zero_le hreg
  have hargs : ∀ x ∈ f.code, x.args.length ≤ 1000 := fun x hx => by have := h3 x hx; omega
  refine (Live_is f R (by omega) (by omega) (by omega) hargs).bind fun L hL => ?_
  obtain ⟨G, rfl, hG⟩ := hL
  unfold law10_FlowReads_l1
  refine Ok.loop (fun k s => s = (k : Int)) f.code.length (fun k s hk hs => ?_) (fun s hs => ?_) rfl
  · subst hs
    have hx : f.code[k]? = some f.code[k] := List.getElem?_eq_getElem hk
    have hxm : f.code[k] ∈ f.code := List.getElem_mem hk
    generalize f.code[k] = x at hx hxm
    unfold law10_FlowReads_l1b
    rw [if_pos (by simp; omega), ix_nat, hx]
    simp only [Option.bind_some]
    refine (Uses_ok x (hargs x hxm)).bind fun l hl => ?_
    have hin : ∀ r : Int, 0 ≤ r → us x r → r < R := by
      intro r h0 hu
      have hi := ins_inv (by have := hargs x hxm; omega) (hg.2.2.2 x hxm).1
      rcases hu with hu | hu | hu
      · rcases hi.1 with h | h <;> omega
      · rcases hi.2.1 with h | h <;> omega
      · have := hi.2.2 r hu; omega
    unfold law10_FlowReads_l2
    refine loop_for l (fun m s => s = (m : Int)) (fun m y s hm' hm hs => ?_) (fun s hs => ?_) rfl
    · subst hs
      have hy := (hl.2 y).1 (List.mem_of_getElem? hm)
      obtain ⟨r, rfl⟩ := Int.eq_ofNat_of_zero_le hy.1
      have hr : r < R := by have := hin r (by omega) hy.2; omega
      have hll := hl.1
      unfold law10_FlowReads_l2b
      rw [if_pos (by simp; omega), ix_nat, hm]
      simp only [Option.bind_some]
      rw [ix_tb hk]
      simp only [Option.bind_some]
      rw [ix_tb hr]
      simp only [Option.bind_some]
      have : G k r = true := (hG k r hk hr).2 (.use k x hx hy.2)
      rw [if_neg (by simp [this])]
      exact .ret (w64_succ (by omega))
    · subst hs
      unfold law10_FlowReads_l2b
      rw [if_neg (by simp), ix_tb hk]
      simp only [Option.bind_some]
      refine .map ?_
      unfold law10_FlowReads_l3
      refine Ok.loop (fun r s => s = (r : Int)) R (fun r s hr hs => ?_) (fun s hs => ?_) rfl
      · subst hs
        unfold law10_FlowReads_l3b law10_FlowReads_k1
        rw [if_pos (by simp; omega), ix_tb hk]
        simp only [Option.bind_some]
        rw [ix_tb hr]
        simp only [Option.bind_some]
        refine .ite (fun _ => .ret (w64_succ (by omega))) (fun hgr => ?_)
        have hgr' : G k r = true := by simpa using hgr
        refine (Uses_ok x (hargs x hxm)).bind fun l2 hl2 => ?_
        unfold law10_FlowReads_l4
        refine loop_for (B := fun s => law10_FlowReads_l4b f (tt f.code.length R G) k x r l2 s.1 s.2) l2 (fun m s => s.2 = (m : Int) ∧ (s.1 = true ↔ (r : Int) ∈ l2.take m)) (fun m y s hm' hm hs => ?_) (fun s hs => ?_) ⟨rfl, by simp⟩
        · obtain ⟨c, i⟩ := s
          obtain ⟨h5, h6⟩ := hs
          simp only at h5 h6
          subst h5
          have hll := hl2.1
          show Ok (law10_FlowReads_l4b f _ k x r l2 c m) _
          unfold law10_FlowReads_l4b
          rw [if_pos (by simp; omega), ix_nat, hm]
          simp only [Option.bind_some]
          rw [List.getElem?_eq_getElem hm'] at hm
          refine .ret ⟨w64_succ (by omega), ?_⟩
          rw [mem_take_succ hm', Option.some.inj hm]
          show (c || decide (y = (r : Int))) = true ↔ _
          rw [Bool.or_eq_true, h6]
          simp only [decide_eq_true_eq]
          constructor
          · rintro (h | h)
            · exact .inl h
            · exact .inr h.symm
          · rintro (h | h)
            · exact .inl h
            · exact .inr h.symm
        · obtain ⟨c, i⟩ := s
          obtain ⟨h5, h6⟩ := hs
          simp only at h5 h6
          rw [List.take_length] at h6
          subst h5
          show Ok (law10_FlowReads_l4b f _ k x r l2 c _) _
          unfold law10_FlowReads_l4b
          rw [if_neg (by simp), Next_at f (by omega) k hk]
          simp only [Option.bind_some]
          refine .map ?_
          unfold law10_FlowReads_l5
          have hn := nx_at f (by omega) k hk
          refine loop_for (B := fun s => law10_FlowReads_l5b (tt f.code.length R G) x r (nx f k) s.1 s.2) (nx f k) (fun m s => s.2 = (m : Int) ∧ (s.1 = true ↔ c = true ∨ ∃ j ∈ (nx f k).take m, G j.toNat r = true ∧ x.d ≠ (r : Int))) (fun m y s hm' hm hs => ?_) (fun s hs => ?_) ⟨rfl, by simp⟩
          · obtain ⟨e, i⟩ := s
            obtain ⟨h7, h8⟩ := hs
            simp only at h7 h8
            subst h7
            have hy := hn.2 y (List.mem_of_getElem? hm)
            obtain ⟨q, rfl⟩ := Int.eq_ofNat_of_zero_le hy.1
            show Ok (law10_FlowReads_l5b _ x r (nx f k) e m) _
            unfold law10_FlowReads_l5b ir_Def
            rw [if_pos (by simp; omega), ix_nat, hm]
            simp only [Option.bind_some]
            rw [List.getElem?_eq_getElem hm'] at hm
            have hmm : (∃ j ∈ (nx f k).take (m + 1), G j.toNat r = true ∧ x.d ≠ (r : Int)) ↔ (∃ j ∈ (nx f k).take m, G j.toNat r = true ∧ x.d ≠ (r : Int)) ∨ (G q r = true ∧ x.d ≠ (r : Int)) := by
              constructor
              · rintro ⟨j, hj, hjj⟩
                rw [mem_take_succ hm', Option.some.inj hm] at hj
                rcases hj with hj | rfl
                · exact .inl ⟨j, hj, hjj⟩
                · exact .inr (by simpa using hjj)
              · rintro (⟨j, hj, hjj⟩ | hjj)
                · exact ⟨j, (mem_take_succ hm').2 (.inl hj), hjj⟩
                · exact ⟨q, (mem_take_succ hm').2 (.inr (Option.some.inj hm).symm), by simpa using hjj⟩
            refine Ok.bind (P := fun e' => e' = true ↔ c = true ∨ ∃ j ∈ (nx f k).take (m + 1), G j.toNat r = true ∧ x.d ≠ (r : Int)) (.ite (fun he => .ret ?_) (fun he => ?_)) (fun e' he' => .ret ⟨w64_succ (by omega), he'⟩)
            · rw [hmm]
              rcases h8.1 he with h | h
              · exact ⟨fun _ => .inl h, fun _ => rfl⟩
              · exact ⟨fun _ => .inr (.inl h), fun _ => rfl⟩
            · have hno : ¬ (c = true ∨ ∃ j ∈ (nx f k).take m, G j.toNat r = true ∧ x.d ≠ (r : Int)) := fun hh => by rw [h8.2 hh] at he; cases he
              rw [ix_tb (by omega)]
              simp only [Option.bind_some]
              rw [ix_tb hr]
              simp only [Option.bind_some]
              refine Ok.bind (P := fun e' => e' = true ↔ G q r = true ∧ x.d ≠ (r : Int)) (.ite (fun hq => .ret (by simp [hq])) (fun hq => .ret (by simp [hq]))) (fun e' he' => .ret ?_)
              rw [he', hmm]
              constructor
              · exact fun h => .inr (.inr h)
              · rintro (h | h | h)
                · exact (hno (.inl h)).elim
                · exact (hno (.inr h)).elim
                · exact h
          · obtain ⟨e, i⟩ := s
            obtain ⟨h7, h8⟩ := hs
            simp only at h7 h8
            rw [List.take_length] at h8
            subst h7
            show Ok (law10_FlowReads_l5b _ x r (nx f k) e _) _
            unfold law10_FlowReads_l5b
            rw [if_neg (by simp)]
            have he : e = true := by
              rw [h8]
              cases (hG k r hk hr).1 hgr' with
              | use k' x' hk' hu =>
                rw [hx] at hk'; cases hk'
                exact .inl (h6.2 ((hl2.2 r).2 ⟨by omega, hu⟩))
              | go k' x' j hk' hd hj hjn =>
                rw [hx] at hk'; cases hk'
                have hj2 := hn.2 j hj
                exact .inr ⟨(j : Int), hj, (hG j r (by omega) hr).2 hjn, hd⟩
            rw [if_neg (by simp [he])]
            exact .map (.ret (w64_succ (by omega)))
      · subst hs
        unfold law10_FlowReads_l3b
        rw [if_neg (by simp)]
        exact .map (.ret (w64_succ (by omega)))
  · subst hs
    unfold law10_FlowReads_l1b
    rw [if_neg (by simp)]
    exact .map (.ret rfl)
end Go.Vm.G10
