/-
 The reference's memory beside the program's.
-/
import Derived.Test.YthbllmihobbcgaaEPSC
set_option linter.unusedSimpArgs false
set_option linter.unusedVariables false
namespace Go.Vm.G16s
open Go
section
variable {N : Nat} {a : A}
def A.rf (a : A) (N : Nat) : Tref16_Storage := ⟨N, a.E, tb N a.S⟩
theorem RNew_is (p : Int) : ref16_New p = some (a0.rf (nN p)) := by
 have h8 := nN_le p
 have k2 : ∀ x : Int, x = (nN p : Int) → ref16_New_k2 x = some (a0.rf (nN p)) := by
  intro x hx
  unfold ref16_New_k2
  rw [hx, mk_tb (by omega)]; rfl
 have k1 : ∀ x : Int, min x 8 = (nN p : Int) → ref16_New_k1 x = some (a0.rf (nN p)) := by
  intro x hx
  unfold ref16_New_k1
  by_cases h : 8 < x
  ·rw [if_pos (by simpa using h)]; exact k2 8 (by omega)
  ·rw [if_neg (by simpa using h)]; exact k2 x (by omega)
 unfold ref16_New
 by_cases h : p < 0
 ·rw [if_pos (by simpa using h)]; exact k1 0 (by unfold nN; omega)
 ·rw [if_neg (by simpa using h)]; exact k1 p (by unfold nN; omega)
theorem RAccept_in (i : Inv N a) {e : Ev} (ht : 0 ≤ e.thread ∧ e.thread < N) : ref16_Storage_Accept (a.rf N) e = some ((a.E.length : Int) + 1, (ac a e).rf N) := by
 have hT : e.thread = ((e.thread.toNat : Nat) : Int) := by omega
 have hTN : e.thread.toNat < N := by omega
 have hl := i.len1 hTN
 have hE := i.hE
 unfold ref16_Storage_Accept
 rw [if_neg (by simp; omega)]
 rw [show decide ((a.rf N).n ≤ e.thread) = false from by show decide ((N : Int) ≤ e.thread) = false; simp; omega]
 unfold ref16_Storage_Accept_k1
 rw [if_neg (by decide)]
 show (ap a.E [e]).bind _ = _
 rw [ap_some (by simp; omega)]
 simp only [Option.bind_some]
 show (ix (tb N a.S) e.thread).bind _ = _
 rw [hT, ix_tb hTN]
 simp only [Option.bind_some]
 rw [ap_some (by simp; omega)]
 simp only [Option.bind_some, List.nil_append]
 rw [ap_some (by simp; omega)]
 simp only [Option.bind_some]
 show (ix (tb N a.S) _).bind _ = _
 rw [ix_tb hTN]
 simp only [Option.bind_some]
 show some (((a.E ++ [e]).length : Int), (⟨(N : Int), a.E ++ [e], (tb N a.S).set (Int.toNat (e.thread.toNat : Int)) (a.S e.thread.toNat ++ [((a.E ++ [e]).length : Int)])⟩ : Tref16_Storage)) = _
 rw [Int.toNat_natCast, tb_set]
 have hn : ((a.E ++ [e]).length : Int) = (a.E.length : Int) + 1 := by simp
 rw [hn]
 rfl
theorem RAccept_out {e : Ev} (ht : e.thread < 0 ∨ (N : Int) ≤ e.thread) : ref16_Storage_Accept (a.rf N) e = some (0, a.rf N) := by
 unfold ref16_Storage_Accept ref16_Storage_Accept_k1
 by_cases h : e.thread < 0
 ·rw [if_pos (by simpa using h), if_pos rfl]
 ·rw [if_neg (by simpa using h)]
  rw [show decide ((a.rf N).n ≤ e.thread) = true from by show decide ((N : Int) ≤ e.thread) = true; simp; omega]
  rw [if_pos rfl]
theorem Acked_is (i : Inv N a) (hN : N ≤ 8) (n : Int) : Ok (storage_Storage_Acked (a.st N) n) (fun b => b = true ↔ (∃ e, ev a n e ∧ e.bar = true) ∧ ∀ t, t < N → n ∈ a.S t) := by
 unfold storage_Storage_Acked
 have hE := i.hE
 refine Ok.bind (P := fun b => b = false ↔ ∃ e, ev a n e ∧ e.bar = true) (.ite (fun hb => .ret ?_) (fun hb => ?_)) fun b hb => ?_
 ·constructor
  ·intro h; cases h
  ·rintro ⟨e, he, _⟩
   have := ev_rng he
   have h9 : n < 1 ∨ (a.E.length : Int) < n := by
    simp only [Bool.or_eq_true, decide_eq_true_eq] at hb
    exact hb
   omega
 ·have h9 : ¬ n < 1 ∧ ¬ (a.E.length : Int) < n := by
   simp only [Bool.or_eq_false_iff, decide_eq_false_iff_not] at hb
   exact hb
  obtain ⟨e, he⟩ := ev_of (a := a) (n := n) (by omega) (by omega)
  obtain ⟨k, hk1, hk2⟩ := id he
  show Ok ((ix a.E (w64 (n - 1))).bind _) _
  rw [w64_id (by omega) (by omega), show n - 1 = (k : Int) from by omega, ix_nat, hk2]
  simp only [Option.bind_some]
  refine .ret ?_
  constructor
  ·intro h; exact ⟨e, he, by simpa using h⟩
  ·rintro ⟨e', he', hb'⟩
   rw [ev_inj he he', hb']; rfl
 ·refine .ite (fun hbt => .ret ?_) (fun hbf => ?_)
  ·constructor
   ·intro h; cases h
   ·rintro ⟨h, _⟩
    rw [hb.2 h] at hbt; cases hbt
  ·unfold storage_Storage_Acked_l1
   have hex := hb.1 hbf
   refine Ok.loop (fun k s => s = (k : Int) ∧ ∀ t, t < k → n ∈ a.S t) N (fun k s hk hs => ?_) (fun s hs => ?_) ⟨rfl, by simp⟩
   ·obtain ⟨rfl, hs⟩ := hs
    unfold storage_Storage_Acked_l1b
    rw [if_pos (by show decide ((k : Int) < ((tb N a.S).length : Int)) = true; simp; omega)]
    refine (Seen_in i hk n).bind fun c hc => .ite (fun hcf => .map (.ret ?_)) (fun hct => .ret ⟨w64_succ (by omega), ?_⟩)
    ·constructor
     ·intro h; cases h
     ·rintro ⟨_, h⟩
      rw [hc.2 (h k hk)] at hcf; cases hcf
    ·intro t ht
     by_cases htk : t = k
     ·rw [htk]; exact hc.1 (by simpa using hct)
     ·exact hs t (by omega)
   ·obtain ⟨rfl, hs⟩ := hs
    unfold storage_Storage_Acked_l1b
    rw [if_neg (by show ¬ decide ((N : Int) < ((tb N a.S).length : Int)) = true; simp)]
    exact .map (.ret ⟨fun _ => ⟨hex, hs⟩, fun _ => rfl⟩)
end
end Go.Vm.G16s
