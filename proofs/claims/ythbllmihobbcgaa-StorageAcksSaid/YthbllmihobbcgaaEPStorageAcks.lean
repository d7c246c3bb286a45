/-
  A barrier that is acked has come to all.
-/
import Derived.Test.YthbllmihobbcgaaEP16s
set_option linter.unusedSimpArgs false
set_option linter.unusedVariables false
namespace Go.Vm.G16
open Go
theorem StorageAcks_go (N : Nat) (cs : List Ca) (h : cs.length ≤ 800) (hN : N ≤ 8) (P : Bool → Prop) (hf : Ok (law16_StorageAcks_l2 N (cs.foldl (stp N) a0).E (tb N (cs.foldl (stp N) a0).S) (cs.foldl (stp N) a0).E (tb N (cs.foldl (stp N) a0).S) (tb N (cs.foldl (stp N) a0).H) (tb N (cs.foldl (stp N) a0).W) (cs.foldl (stp N) a0).L 0) P) :
    Ok (law16_StorageAcks_l1 cs N a0.E (tb N a0.S) a0.E (tb N a0.S) (tb N a0.H) (tb N a0.W) a0.L 0) P := by
  unfold law16_StorageAcks_l1
  refine loop_for (B := fun s => law16_StorageAcks_l1b cs s.1 s.2.1 s.2.2.1 s.2.2.2.1 s.2.2.2.2.1 s.2.2.2.2.2.1 s.2.2.2.2.2.2.1 s.2.2.2.2.2.2.2.1 s.2.2.2.2.2.2.2.2) cs (fun k s => ∃ a : A, a = (cs.take k).foldl (stp N) a0 ∧ s = ((N : Int), a.E, tb N a.S, a.E, tb N a.S, tb N a.H, tb N a.W, a.L, (k : Int))) (fun k c s hk' hk hs => ?_) (fun s hs => ?_) ⟨a0, rfl, rfl⟩
  · obtain ⟨a, ha, rfl⟩ := hs
    have hr := run_ok (N := N) (cs.take k) (by simp; omega)
    have hst : (cs.take (k + 1)).foldl (stp N) a0 = stp N a c := by
      rw [List.take_add_one, hk, Option.toList_some, List.foldl_append, ← ha]; rfl
    rw [← ha] at hr
    have i := hr.1
    have hE := hr.2
    rw [hst]
    show Ok (law16_StorageAcks_l1b cs N a.E (tb N a.S) a.E (tb N a.S) (tb N a.H) (tb N a.W) a.L k) _
    unfold law16_StorageAcks_l1b law16_StorageAcks_k1
    rw [if_pos (by simp; omega), ix_nat, hk]
    simp only [Option.bind_some]
    unfold stp
    by_cases h0 : c.kind = 0
    · simp only [h0, decide_true, if_true]
      by_cases ht : 0 ≤ c.t ∧ c.t < (N : Int)
      · show Ok ((storage_Storage_Write (a.st N) c.t c.at_ c.val).bind _) _
        rw [Write_in i ht, if_pos ht]
        simp only [Option.bind_some]
        show Ok ((ref16_Storage_Accept (a.rf N) ⟨c.t, false, c.at_, c.val⟩).bind _) _
        rw [RAccept_in i ht]
        simp only [Option.bind_some]
        exact .ret ⟨_, rfl, by rw [w64_succ (by omega)]; rfl⟩
      · show Ok ((storage_Storage_Write (a.st N) c.t c.at_ c.val).bind _) _
        rw [Write_out (by omega), if_neg ht]
        simp only [Option.bind_some]
        show Ok ((ref16_Storage_Accept (a.rf N) ⟨c.t, false, c.at_, c.val⟩).bind _) _
        rw [RAccept_out (by show c.t < 0 ∨ (N : Int) ≤ c.t; omega)]
        simp only [Option.bind_some]
        exact .ret ⟨_, rfl, by rw [w64_succ (by omega)]; rfl⟩
    · simp only [h0, decide_false, Bool.false_eq_true, if_false]
      by_cases h1 : c.kind = 1
      · simp only [h1, decide_true, if_true]
        by_cases ht : 0 ≤ c.t ∧ c.t < (N : Int)
        · show Ok ((storage_Storage_Barrier (a.st N) c.t).bind _) _
          rw [Barrier_in i ht, if_pos ht]
          simp only [Option.bind_some]
          show Ok ((ref16_Storage_Accept (a.rf N) ⟨c.t, true, 0, 0⟩).bind _) _
          rw [RAccept_in i ht]
          simp only [Option.bind_some]
          exact .ret ⟨_, rfl, by rw [w64_succ (by omega)]; rfl⟩
        · show Ok ((storage_Storage_Barrier (a.st N) c.t).bind _) _
          rw [Barrier_out (by omega), if_neg ht]
          simp only [Option.bind_some]
          show Ok ((ref16_Storage_Accept (a.rf N) ⟨c.t, true, 0, 0⟩).bind _) _
          rw [RAccept_out (by show c.t < 0 ∨ (N : Int) ≤ c.t; omega)]
          simp only [Option.bind_some]
          exact .ret ⟨_, rfl, by rw [w64_succ (by omega)]; rfl⟩
      · simp only [h1, decide_false, Bool.false_eq_true, if_false]
        by_cases h2 : c.kind = 2
        · simp only [h2, decide_true, if_true]
          show Ok ((storage_Storage_Go (a.st N) c.t c.n).bind _) _
          obtain ⟨r, hr1, hr2⟩ := Go_is i c.t c.n
          rw [hr1]
          simp only [Option.bind_some]
          rcases hr2 with ⟨hz, q, e, hq, hm, hst2⟩ | ⟨hz, hst2, hno⟩
          · have hex : ∃ (q : Nat) (e : Ev), c.t = (q : Int) ∧ May N a q c.n e := ⟨q, e, hq, hm⟩
            rw [hz, if_pos (by decide), hst2, hq, ix_tb hm.ht]
            simp only [Option.bind_some]
            rw [ap_some (by have := i.len hm.ht; simp at *; omega)]
            simp only [Option.bind_some, Int.toNat_natCast]
            rw [tb_set]
            refine .ret ⟨_, rfl, ?_⟩
            rw [w64_succ (by omega), if_pos (by rw [← hq]; exact hex)]
            rfl
          · rw [hz, if_neg (by decide), hst2]
            refine .ret ⟨_, rfl, ?_⟩
            rw [w64_succ (by omega), if_neg hno]
            rfl
        · simp only [h2, decide_false, Bool.false_eq_true, if_false]
          exact .ret ⟨_, rfl, by rw [w64_succ (by omega)]⟩
  · obtain ⟨a, ha, rfl⟩ := hs
    rw [List.take_length] at ha
    show Ok (law16_StorageAcks_l1b cs N a.E (tb N a.S) a.E (tb N a.S) (tb N a.H) (tb N a.W) a.L cs.length) _
    unfold law16_StorageAcks_l1b
    rw [if_neg (by simp), ha]
    exact .map hf
theorem law16_StorageAcks_law (p : Int) (cs : List Ca) (o0 : InR .i64 p) (o : OKs OK_Tlaw16_Call cs) : law16_StorageAcks p cs = some true := by
  unfold law16_StorageAcks
  rw [alive_is]
  simp only [Option.bind_some, Bool.not_true, Bool.false_eq_true, if_false]
  refine Ok.some_of ?_
  refine .ite (fun _ => .ret rfl) (fun hc => ?_)
  have hl : cs.length ≤ 40 := by simp at hc; omega
  rw [RNew_is, New_is]
  simp only [Option.bind_some]
  have hN := nN_le p
  show Ok (law16_StorageAcks_l1 cs (nN p) a0.E (tb (nN p) a0.S) a0.E (tb (nN p) a0.S) (tb (nN p) a0.H) (tb (nN p) a0.W) a0.L 0) _
  refine StorageAcks_go (nN p) cs (by omega) hN _ ?_
  have hr := run_ok (N := nN p) cs (by omega)
  generalize cs.foldl (stp (nN p)) a0 = a at *
  obtain ⟨i, hE⟩ := hr
  generalize nN p = N at *
  unfold law16_StorageAcks_l2
  refine loop_for (B := fun s => law16_StorageAcks_l2b N a.E (tb N a.S) a.E (tb N a.S) (tb N a.H) (tb N a.W) a.L s) a.E (fun k s => s = (k : Int)) (fun k e s hk' hk hs => ?_) (fun s hs => ?_) rfl
  · subst hs
    unfold law16_StorageAcks_l2b law16_StorageAcks_k2
    rw [if_pos (by simp; omega), ix_nat, hk]
    simp only [Option.bind_some]
    rw [w64_succ (by omega)]
    have he : ev a ((k + 1 : Nat) : Int) e := ⟨k, rfl, hk⟩
    show Ok ((storage_Storage_Acked (a.st N) _).bind _) _
    refine (Acked_is i hN _).bind fun c hc => .ite (fun _ => .ret rfl) (fun hcf => ?_)
    obtain ⟨⟨e0, he0, hb0⟩, hall⟩ := hc.1 (by simpa using hcf)
    have := ev_inj he he0
    subst this
    have hT := i.thr _ e he
    have hTt : e.thread = ((e.thread.toNat : Nat) : Int) := by omega
    have hTN : e.thread.toNat < N := by omega
    have hpl := pre_len (a.S e.thread.toNat) ((k + 1 : Nat) : Int)
    have hSl := i.len hTN
    unfold law16_StorageAcks_l3
    refine Ok.loop (B := fun s => law16_StorageAcks_l3b N a.E (tb N a.S) a.E (tb N a.S) (tb N a.H) (tb N a.W) a.L k e s) (fun t s => s = (t : Int)) N (fun t s ht hs => ?_) (fun s hs => ?_) rfl
    · subst hs
      unfold law16_StorageAcks_l3b storage_Storage_Threads
      simp only [Option.bind_some]
      rw [if_pos (by simp; omega), w64_succ (by omega)]
      show Ok ((storage_Storage_Seen (a.st N) t _).bind _) _
      refine (Seen_in i ht _).bind fun c hc => .ite (fun hcf => ?_) (fun _ => ?_)
      · rw [hc.2 (hall t ht)] at hcf; cases hcf
      · rw [hTt]
        show Ok ((law16_ahead (a.rf N) (e.thread.toNat : Int) _).bind _) _
        rw [Rahead_is i hTN (i.own _ e he)]
        simp only [Option.bind_some]
        unfold law16_StorageAcks_l4
        refine loop_for (B := fun s => law16_StorageAcks_l4b a.E a.E (tb N a.S) (tb N a.H) (tb N a.W) a.L t (pre (a.S e.thread.toNat) ((k + 1 : Nat) : Int)) s) (pre (a.S e.thread.toNat) ((k + 1 : Nat) : Int)) (fun k s => s = (k : Int)) (fun q y s hq' hq hs => ?_) (fun s hs => ?_) rfl
        · subst hs
          unfold law16_StorageAcks_l4b
          rw [if_pos (decide_eq_true (by omega)), ix_nat, hq]
          simp only [Option.bind_some]
          have hym := List.mem_of_getElem? hq
          have hyr := i.rng _ hTN y (mem_pre hym).1
          obtain ⟨e2, he2⟩ := ev_of (a := a) hyr.1 hyr.2
          obtain ⟨k2, hk12, hk22⟩ := id he2
          rw [w64_id (by omega) (by omega), show y - 1 = (k2 : Int) from by omega, ix_nat, hk22]
          simp only [Option.bind_some]
          show Ok ((storage_Storage_Read (a.st N) t e2.at_).bind _) _
          refine (Read_in i ht e2.at_).bind fun r hr => ?_
          refine .ite (fun hct => ?_) (fun _ => .ret (w64_succ (by omega)))
          simp only [Bool.and_eq_true, decide_eq_true_eq, Bool.not_eq_true'] at hct
          have h5 := i.wrts t ht _ (hall t ht) e he hb0 y hym e2.at_ ⟨e2, he2, hct.1, rfl⟩
          have h6 := hct.2
          rw [hr.1] at h6
          omega
        · subst hs
          unfold law16_StorageAcks_l4b
          rw [if_neg (by simp)]
          exact .map (.ret (w64_succ (by omega)))
    · subst hs
      unfold law16_StorageAcks_l3b law16_StorageAcks_k2 storage_Storage_Threads
      simp only [Option.bind_some]
      rw [if_neg (by simp)]
      exact .map (.ret (w64_succ (by omega)))
  · subst hs
    unfold law16_StorageAcks_l2b
    rw [if_neg (by simp)]
    exact .map (.ret rfl)
end Go.Vm.G16
