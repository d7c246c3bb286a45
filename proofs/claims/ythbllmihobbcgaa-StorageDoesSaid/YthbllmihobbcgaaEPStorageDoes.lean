/-
 The two memories answer alike in every script.
-/
import Derived.Test.YthbllmihobbcgaaEPSF
set_option linter.unusedSimpArgs false
set_option linter.unusedVariables false
namespace Go.Vm.G16s
open Go Go.Proofs
section
variable {N : Nat} {a : A}
theorem k1_is (i : Inv N a) (hN : N ≤ 8) (k : Nat) (hk : k ≤ 1000) (c : Ca) : law16_StorageDoes_k1 k c a.E (tb N a.S) (tb N a.H) (tb N a.W) a.L N a.E (tb N a.S) = some (Sum.inl (a.E, tb N a.S, tb N a.H, tb N a.W, a.L, (N : Int), a.E, tb N a.S, ((k + 1 : Nat) : Int))) := by
 unfold law16_StorageDoes_k1
 show (law16_same (a.st N) (a.rf N) c).bind _ = _
 rw [same_is i hN]
 simp only [Option.bind_some, Bool.not_true, Bool.false_eq_true, if_false]
 rw [w64_succ (by omega)]
theorem Rl2_is (i : Inv N a) (hN : N ≤ 8) (k : Nat) (hk : k ≤ 1000) (c : Ca) : law16_StorageDoes_l2 N a.E k c ((stl N a N).st N) (tb N a.S) 0 = some (Sum.inl ((stl N a N).E, tb N (stl N a N).S, tb N (stl N a N).H, tb N (stl N a N).W, (stl N a N).L, (N : Int), (stl N a N).E, tb N (stl N a N).S, ((k + 1 : Nat) : Int))) := by
 have hE := i.hE
 unfold law16_StorageDoes_l2
 refine (Ok.loop (B := fun s => law16_StorageDoes_l2b N a.E k c ((stl N a N).st N) s.1 s.2) (P := fun r => r = Sum.inl ((stl N a N).E, tb N (stl N a N).S, tb N (stl N a N).H, tb N (stl N a N).W, (stl N a N).L, (N : Int), (stl N a N).E, tb N (stl N a N).S, ((k + 1 : Nat) : Int))) (fun t s => s = (tb N (stl N a t).S, (t : Int))) N (fun t s ht hs => ?_) (fun s hs => ?_) rfl).some_of
 ·subst hs
  obtain ⟨ib, hbE⟩ := stl_ok i t
  have hsu := stl_succ (N := N) (a := a) t
  generalize stl N a N = d
  generalize stl N a t = b at *
  show Ok (law16_StorageDoes_l2b N a.E k c (d.st N) (tb N b.S) t) _
  unfold law16_StorageDoes_l2b
  rw [if_pos (by simp; omega), ← hbE, Rl3_is ib hN ht]
  refine .ret ?_
  show _ = _
  rw [hsu, hbE, w64_succ (by omega)]
 ·subst hs
  obtain ⟨ib, hbE⟩ := stl_ok i N
  generalize stl N a N = b at *
  show Ok (law16_StorageDoes_l2b N a.E k c (b.st N) (tb N b.S) N) _
  unfold law16_StorageDoes_l2b
  rw [if_neg (by simp), ← hbE]
  show Ok ((law16_StorageDoes_k1 k c b.E (tb N b.S) (tb N b.H) (tb N b.W) b.L N b.E (tb N b.S)).map _) _
  rw [k1_is ib hN k hk c]
  exact .map (.ret rfl)
end
theorem none_is : (storage_Storage_Settle_2).bind (fun x606 =>
  (storage_Storage_Read_2 0 0).bind fun x614 =>
  (storage_Storage_Go_2 0 1).bind fun x622 =>
  (if decide (x622 = 2) then
  (storage_Storage_Write_2 0 0 0).bind fun x738 =>
  (storage_Storage_Barrier_2 0).bind fun x746 =>
  (storage_Storage_Last_2 0).bind fun x754 =>
  (storage_Storage_Threads_2).bind fun x762 =>
  (storage_Storage_Events_2).bind fun x770 =>
  (storage_Storage_Order_2 0).bind fun x780 =>
  some (decide ((w64 ((w64 ((w64 ((w64 ((w64 ((w64 ((w64 (x614.1 + x614.2)) + x738)) + x746)) + x754)) + x762)) + (x770.length : Int))) + (x780.length : Int))) = 0))
  else
  some false).bind fun y630 =>
  (if y630 then
  (storage_Storage_Seen_2 0 1).bind fun x725 =>
  some (!x725)
  else
  some false).bind fun y660 =>
  (if y660 then
  (storage_Storage_May_2 0 1).bind fun x712 =>
  some (!x712)
  else
  some false).bind fun y669 =>
  (if y669 then
  (storage_Storage_Acked_2 1).bind fun x699 =>
  some (!x699)
  else
  some false).bind fun y678 =>
  some y678) = some true := by
 have h1 : storage_Storage_Settle_2 = some () := by
  unfold storage_Storage_Settle_2 storage_Storage_Threads_2 storage_Storage_Settle_2_l1
  simp only [Option.bind_some]
  rw [loopO_eq]
  unfold storage_Storage_Settle_2_l1b
  rfl
 have h2 : storage_Storage_Order_2 0 = some [] := by
  unfold storage_Storage_Order_2 orderO
  rw [if_pos (by simp)]
  rfl
 rw [h1, h2]
 rfl
theorem law16_StorageDoes_law (p : Int) (cs : List Ca) (o0 : InR .i64 p) (o : OKs OK_Tlaw16_Call cs) : law16_StorageDoes p cs = some true := by
 unfold law16_StorageDoes
 rw [alive_is]
 simp only [Option.bind_some, Bool.not_true, Bool.false_eq_true, if_false]
 refine Ok.some_of ?_
 refine .ite (fun _ => .ret rfl) (fun hc => ?_)
 have hl : cs.length ≤ 30 := by simp at hc; omega
 rw [New_is, RNew_is]
 simp only [Option.bind_some]
 have hN := nN_le p
 have h0 := Inv.zero (nN p)
 generalize nN p = N at *
 show Ok (law16_StorageDoes_l1 cs a0.E (tb N a0.S) (tb N a0.H) (tb N a0.W) a0.L N a0.E (tb N a0.S) 0) _
 unfold law16_StorageDoes_l1
 refine loop_for (B := fun s => law16_StorageDoes_l1b cs s.1 s.2.1 s.2.2.1 s.2.2.2.1 s.2.2.2.2.1 s.2.2.2.2.2.1 s.2.2.2.2.2.2.1 s.2.2.2.2.2.2.2.1 s.2.2.2.2.2.2.2.2) (P := fun r => r = true) cs
  (fun k s => ∃ a : A, s = (a.E, tb N a.S, tb N a.H, tb N a.W, a.L, (N : Int), a.E, tb N a.S, (k : Int)) ∧ Inv N a ∧ a.E.length ≤ k) (fun k c s hk' hk hs => ?_) (fun s hs => ?_) ⟨a0, rfl, h0, Nat.le_refl _⟩
 ·obtain ⟨a, rfl, i, hak⟩ := hs
  show Ok (law16_StorageDoes_l1b cs a.E (tb N a.S) (tb N a.H) (tb N a.W) a.L N a.E (tb N a.S) k) _
  have go : ∀ b : A, Inv N b → b.E.length ≤ k + 1 → Ok (law16_StorageDoes_k1 k c b.E (tb N b.S) (tb N b.H) (tb N b.W) b.L N b.E (tb N b.S)) (Sum.elim (fun s => ∃ a : A, s = (a.E, tb N a.S, tb N a.H, tb N a.W, a.L, (N : Int), a.E, tb N a.S, ((k + 1 : Nat) : Int)) ∧ Inv N a ∧ a.E.length ≤ k + 1) (fun r => r = true)) := fun b ib hb => by
   rw [k1_is ib hN k (by omega) c]
   exact .ret ⟨b, rfl, ib, hb⟩
  unfold law16_StorageDoes_l1b
  rw [if_pos (by simp; omega), ix_nat, hk]
  simp only [Option.bind_some]
  refine .ite (fun _ => ?_) (fun _ => .ite (fun _ => ?_) (fun _ => .ite (fun _ => ?_) (fun _ => .ite (fun _ => ?_) (fun _ => ?_))))
  ·show Ok ((storage_Storage_Write (a.st N) c.t c.at_ c.val).bind fun x201 => (ref16_Storage_Accept (a.rf N) ⟨c.t, false, c.at_, c.val⟩).bind _) _
   by_cases ht : 0 ≤ c.t ∧ c.t < (N : Int)
   ·rw [Write_in i ht, RAccept_in i (e := ⟨c.t, false, c.at_, c.val⟩) ht]
    simp only [Option.bind_some]
    rw [if_neg (by simp)]
    have hi := i.acc (e := ⟨c.t, false, c.at_, c.val⟩) (by omega) ht
    exact go _ hi.1 (by rw [ac_len]; omega)
   ·rw [Write_out (by omega), RAccept_out (e := ⟨c.t, false, c.at_, c.val⟩) (by show c.t < 0 ∨ (N : Int) ≤ c.t; omega)]
    simp only [Option.bind_some]
    rw [if_neg (by simp)]
    exact go a i (by omega)
  ·show Ok ((storage_Storage_Barrier (a.st N) c.t).bind fun x201 => (ref16_Storage_Accept (a.rf N) ⟨c.t, true, 0, 0⟩).bind _) _
   by_cases ht : 0 ≤ c.t ∧ c.t < (N : Int)
   ·rw [Barrier_in i ht, RAccept_in i (e := ⟨c.t, true, 0, 0⟩) ht]
    simp only [Option.bind_some]
    rw [if_neg (by simp)]
    have hi := i.acc (e := ⟨c.t, true, 0, 0⟩) (by omega) ht
    exact go _ hi.1 (by rw [ac_len]; omega)
   ·rw [Barrier_out (by omega), RAccept_out (e := ⟨c.t, true, 0, 0⟩) (by show c.t < 0 ∨ (N : Int) ≤ c.t; omega)]
    simp only [Option.bind_some]
    rw [if_neg (by simp)]
    exact go a i (by omega)
  ·show Ok ((ref16_Storage_May (a.rf N) c.t c.n).bind fun x340 => (storage_Storage_Go (a.st N) c.t c.n).bind _) _
   refine (RMay_in i c.t c.n).bind fun m hm => (Go_is i c.t c.n).bind fun r hr => ?_
   rcases hr with ⟨hr1, q, e, hq, hmay, hr2⟩ | ⟨hr1, hr2, hno⟩
   ·have hmt : m = true := hm.2 ⟨q, e, hq, hmay⟩
    rw [hmt, hr1, if_neg (by decide), if_pos rfl, hq, ix_tb hmay.ht]
    simp only [Option.bind_some]
    have hlen := i.len1 hmay.ht
    rw [ap_some (by simp; omega)]
    simp only [Option.bind_some]
    rw [hr2, Int.toNat_natCast, tb_set]
    exact go (cm a q c.n) (i.come hmay) (by show a.E.length ≤ k + 1; omega)
   ·have hmf : m = false := by
     cases m with
     | false => rfl
     | true => exact (hno (hm.1 rfl)).elim
    rw [hmf, hr1, if_neg (by decide), if_neg (by decide), hr2]
    exact go a i (by omega)
  ·show Ok ((storage_Storage_Settle (a.st N)).bind _) _
   rw [Settle_eq i hN]
   simp only [Option.bind_some]
   rw [Rl2_is i hN k (by omega) c]
   obtain ⟨ib, hbE⟩ := stl_ok i N
   exact .ret ⟨stl N a N, rfl, ib, by rw [hbE]; omega⟩
  ·exact go a i (by omega)
 ·obtain ⟨a, rfl, i, hak⟩ := hs
  show Ok (law16_StorageDoes_l1b cs a.E (tb N a.S) (tb N a.H) (tb N a.W) a.L N a.E (tb N a.S) cs.length) _
  unfold law16_StorageDoes_l1b
  rw [if_neg (by simp)]
  exact .map ⟨true, none_is, rfl⟩
end Go.Vm.G16s
