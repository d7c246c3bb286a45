/-
  No thread reads an earlier write of a place behind a later one.
-/
import Derived.Test.YthbllmihobbcgaaEP16s
set_option linter.unusedSimpArgs false
set_option linter.unusedVariables false
namespace Go.Vm.G16
open Go

theorem law16_StorageForward_law (p : Int) (cs : List Ca) (q : Int) (o0 : InR .i64 p) (o : OKs OK_Tlaw16_Call cs) (o2 : InR .i64 q) : law16_StorageForward p cs q = some true := by
  unfold law16_StorageForward
  rw [alive_is]
  simp only [Option.bind_some, Bool.not_true, Bool.false_eq_true, if_false]
  refine Ok.some_of ?_
  refine .ite (fun _ => .ret rfl) (fun hc => ?_)
  have hl : cs.length ≤ 40 := by simp at hc; omega
  rw [New_is]
  simp only [Option.bind_some]
  have hN := nN_le p
  show Ok ((mk ((tb (nN p) a0.S).length : Int) 0).bind _) _
  rw [tb_len, mk_tb (by omega)]
  simp only [Option.bind_some]
  unfold law16_StorageForward_l1
  refine Ok.loop (B := fun s => law16_StorageForward_l1b p cs q s.1 s.2) (fun k s => s = (tb (nN p) (fun t => rd ((cs.take k).foldl (stp (nN p)) a0) t q), (k : Int))) cs.length (fun k s hk hs => ?_) (fun s hs => ?_) rfl
  · subst hs
    show Ok (law16_StorageForward_l1b p cs q _ k) _
    unfold law16_StorageForward_l1b
    rw [if_pos (by simp; omega), w64_succ (by omega), cutL_take _ _ (by omega)]
    simp only [Option.bind_some]
    rw [made_is p _ (by simp; omega)]
    simp only [Option.bind_some]
    have hr := run_ok (N := nN p) (cs.take k) (by simp; omega)
    have hr1 := run_ok (N := nN p) (cs.take (k + 1)) (by simp; omega)
    have hst : (cs.take (k + 1)).foldl (stp (nN p)) a0 = stp (nN p) ((cs.take k).foldl (stp (nN p)) a0) cs[k] := by
      rw [List.take_add_one, List.getElem?_eq_getElem hk, Option.toList_some, List.foldl_append]; rfl
    have hmono := (stp_ok (N := nN p) cs[k] hr.1 (by have := hr.2; simp at this; omega)).2.2
    rw [← hst] at hmono
    generalize (cs.take k).foldl (stp (nN p)) a0 = b at *
    generalize (cs.take (k + 1)).foldl (stp (nN p)) a0 = b' at *
    unfold law16_StorageForward_l2
    refine Ok.loop (B := fun s => law16_StorageForward_l2b q (tb (nN p) (fun t => rd b t q)) k (b'.st (nN p)) s.1 s.2) (fun m s => s = (tb (nN p) (fun t => if t < m then rd b' t q else rd b t q), (m : Int))) (nN p) (fun m s hm hs => ?_) (fun s hs => ?_) (by simp)
    · subst hs
      show Ok (law16_StorageForward_l2b q _ k (b'.st (nN p)) _ m) _
      unfold law16_StorageForward_l2b
      rw [if_pos (by simp; omega)]
      refine (Read_in hr1.1 hm q).bind fun r hr => ?_
      rw [ix_tb hm]
      simp only [Option.bind_some, Nat.lt_irrefl, if_false]
      rw [if_neg (by rw [hr.1]; have := hmono m hm q; simp; omega)]
      rw [Int.toNat_natCast, tb_set]
      refine .ret ?_
      show _ = _
      rw [w64_succ (by omega)]
      congr 1
      apply tb_ext
      intro j hj
      by_cases hjm : j = m
      · subst hjm; simp [hr.1]
      · simp only [hjm, if_false]
        by_cases h2 : j < m
        · rw [if_pos h2, if_pos (by omega)]
        · rw [if_neg h2, if_neg (by omega)]
    · subst hs
      show Ok (law16_StorageForward_l2b q _ k (b'.st (nN p)) _ _) _
      unfold law16_StorageForward_l2b
      rw [if_neg (by simp)]
      refine .map (.ret ?_)
      show _ = _
      rw [w64_succ (by omega)]
      congr 1
      exact tb_ext (fun j hj => by rw [if_pos hj])
  · subst hs
    show Ok (law16_StorageForward_l1b p cs q _ _) _
    unfold law16_StorageForward_l1b
    rw [if_neg (by simp)]
    exact .map (.ret rfl)
end Go.Vm.G16
