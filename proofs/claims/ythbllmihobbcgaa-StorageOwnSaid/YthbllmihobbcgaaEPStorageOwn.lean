/-
  What a thread writes it reads at once.
-/
import Derived.Test.YthbllmihobbcgaaEP16s
set_option linter.unusedSimpArgs false
set_option linter.unusedVariables false
namespace Go.Vm.G16
open Go

theorem law16_StorageOwn_law (p : Int) (cs : List Ca) (t at_ v : Int) (o0 : InR .i64 p) (o : OKs OK_Tlaw16_Call cs) (o1 : InR .i64 t) (o2 : InR .i64 at_) (o3 : InR .i64 v) : law16_StorageOwn p cs t at_ v = some true := by
  unfold law16_StorageOwn
  rw [alive_is]
  simp only [Option.bind_some, Bool.not_true, Bool.false_eq_true, if_false]
  refine Ok.some_of ?_
  refine .ite (fun _ => .ret rfl) (fun hc => ?_)
  have hl : cs.length ≤ 40 := by simp at hc; omega
  rw [made_is p cs (by omega)]
  simp only [Option.bind_some]
  have hN := nN_le p
  have hr := run_ok (N := nN p) cs (by omega)
  generalize cs.foldl (stp (nN p)) a0 = a at *
  obtain ⟨i, hE⟩ := hr
  generalize nN p = N at *
  rw [tb_rep]
  unfold law16_StorageOwn_l1
  refine Ok.loop (B := fun s => law16_StorageOwn_l1b t at_ v (a.st N) s.1 s.2) (fun k s => s = (tb 8 (fun j => if j < k then rd a j at_ else 0), (k : Int))) N (fun k s hk hs => ?_) (fun s hs => ?_) (by simp)
  · subst hs
    show Ok (law16_StorageOwn_l1b t at_ v (a.st N) _ k) _
    unfold law16_StorageOwn_l1b storage_Storage_Threads
    simp only [Option.bind_some]
    rw [if_pos (by show decide ((k : Int) < ((tb N a.S).length : Int)) = true; simp; omega)]
    refine (Read_in i hk at_).bind fun r hr => ?_
    rw [ix_tb (by omega)]
    simp only [Option.bind_some]
    rw [Int.toNat_natCast, tb_set]
    refine .ret ?_
    show _ = _
    rw [w64_succ (by omega)]
    congr 1
    apply tb_ext
    intro j hj
    by_cases hjm : j = k
    · subst hjm; simp [hr.1]
    · simp only [hjm, if_false]
      by_cases h2 : j < k
      · rw [if_pos h2, if_pos (by omega)]
      · rw [if_neg h2, if_neg (by omega)]
  · subst hs
    show Ok (law16_StorageOwn_l1b t at_ v (a.st N) _ _) _
    unfold law16_StorageOwn_l1b storage_Storage_Threads
    simp only [Option.bind_some]
    rw [if_neg (by show ¬ decide ((N : Int) < ((tb N a.S).length : Int)) = true; simp)]
    refine .map ?_
    by_cases ht : 0 ≤ t ∧ t < (N : Int)
    · obtain ⟨T, hT⟩ := Int.eq_ofNat_of_zero_le ht.1
      have hTN : T < N := by omega
      rw [Write_in i ht]
      simp only [Option.bind_some]
      rw [if_neg (by simp; omega)]
      have hacc := i.acc (e := ⟨t, false, at_, v⟩) (by omega) ht
      have i' := hacc.1
      have hen : ev (pu a ⟨t, false, at_, v⟩) ((a.E.length : Int) + 1) ⟨t, false, at_, v⟩ := ev_pu.2 (.inr ⟨rfl, rfl⟩)
      have hrd : ∀ j, rd (ac a ⟨t, false, at_, v⟩) j at_ = if j = T then (a.E.length : Int) + 1 else rd a j at_ := by
        intro j
        unfold ac
        rw [rd_cm hen]
        have : (⟨t, false, at_, v⟩ : Ev).thread.toNat = T := by show t.toNat = T; omega
        rw [this]
        by_cases hj : j = T
        · subst hj; simp
        · simp only [hj, false_and, if_false]; rfl
      have hls : ls (ac a ⟨t, false, at_, v⟩) at_ = (a.E.length : Int) + 1 := by
        show (mG (mS a.L at_ ((a.E.length : Int) + 1)) at_).getD 0 = _
        rw [mG_mS, if_pos rfl]; rfl
      have hin : (a.E.length : Int) + 1 ∈ (ac a ⟨t, false, at_, v⟩).S T := by
        have := i'.own _ _ (show ev (ac a ⟨t, false, at_, v⟩) _ _ from hen)
        rw [show (⟨t, false, at_, v⟩ : Ev).thread.toNat = T from by show t.toNat = T; omega] at this
        exact this
      have hev : ev (ac a ⟨t, false, at_, v⟩) ((a.E.length : Int) + 1) ⟨t, false, at_, v⟩ := hen
      generalize ac a ⟨t, false, at_, v⟩ = b at *
      unfold law16_StorageOwn_l2
      refine Ok.loop (fun k s => s = (k : Int)) N (fun k s hk hs => ?_) (fun s hs => ?_) rfl
      · subst hs
        unfold law16_StorageOwn_l2b storage_Storage_Threads
        simp only [Option.bind_some]
        rw [if_pos (by show decide ((k : Int) < ((tb N b.S).length : Int)) = true; simp; omega)]
        refine (Read_in i' hk at_).bind fun r hr => ?_
        rw [hrd k] at hr
        by_cases hkT : k = T
        · subst hkT
          rw [if_pos rfl] at hr
          have h1 : r.1 = v := hr.2.2 _ hev
          have h2 := hr.1
          rw [h1, h2, hT]
          simp only [ne_eq, not_true, decide_false, Bool.or_false, Bool.and_false, Bool.false_eq_true, if_false, Option.bind_some]
          exact .ret (w64_succ (by omega))
        · rw [if_neg hkT] at hr
          have hkt : ¬ (k : Int) = t := by omega
          rw [if_neg (by simp [hkt]), if_pos (by simpa using hkt), ix_tb (by omega)]
          simp only [Option.bind_some]
          rw [if_pos hk, if_neg (by simp [hr.1])]
          exact .ret (w64_succ (by omega))
      · subst hs
        unfold law16_StorageOwn_l2b storage_Storage_Threads
        simp only [Option.bind_some]
        rw [if_neg (by show ¬ decide ((N : Int) < ((tb N b.S).length : Int)) = true; simp)]
        refine .map ?_
        show Ok ((some (ls b at_)).bind _) _
        rw [hls]
        simp only [Option.bind_some, decide_true, if_true]
        rw [hT]
        obtain ⟨c, hc1, hc2⟩ := Seen_in i' hTN ((a.E.length : Int) + 1)
        rw [hc1]
        exact .ret (hc2.2 hin)
    · rw [Write_out (by omega)]
      simp only [Option.bind_some, decide_true, if_true]
      refine Ok.bind (P := fun b => b = true) (.ite (fun _ => .ret rfl) (fun hneg => .ret ?_)) (fun b hb => .ret hb)
      show decide (((tb N a.S).length : Int) ≤ t) = true
      simp at hneg ⊢; omega
end Go.Vm.G16
