/-
 Scripts of the memory.
-/
import Derived.Test.YthbllmihobbcgaaEPSB
set_option linter.unusedSimpArgs false
set_option linter.unusedVariables false
namespace Go.Vm.G16s
open Go
abbrev Ca := Tlaw16_Call
section
variable {N : Nat} {a : A}
theorem Inv.len1 (i : Inv N a) {t : Nat} (ht : t < N) : (a.S t).length ≤ 1001 := by have := i.len ht; have := i.hE; omega
theorem Write_in (i : Inv N a) {t : Int} (ht : 0 ≤ t ∧ t < N) (p v : Int) : storage_Storage_Write (a.st N) t p v = some ((a.E.length : Int) + 1, (ac a ⟨t, false, p, v⟩).st N) := by
 unfold storage_Storage_Write
 rw [thread_is]
 simp only [Option.bind_some]
 rw [if_neg (by simp; omega), accept_is i.hE ht (i.len1 (by show t.toNat < N; omega))]
 rfl
theorem Write_out {t : Int} (ht : t < 0 ∨ (N : Int) ≤ t) (p v : Int) : storage_Storage_Write (a.st N) t p v = some (0, a.st N) := by
 unfold storage_Storage_Write
 rw [thread_is]
 simp only [Option.bind_some]
 rw [if_pos (by simp; omega)]
theorem Barrier_in (i : Inv N a) {t : Int} (ht : 0 ≤ t ∧ t < N) : storage_Storage_Barrier (a.st N) t = some ((a.E.length : Int) + 1, (ac a ⟨t, true, 0, 0⟩).st N) := by
 unfold storage_Storage_Barrier
 rw [thread_is]
 simp only [Option.bind_some]
 rw [if_neg (by simp; omega), accept_is i.hE ht (i.len1 (by show t.toNat < N; omega))]
 rfl
theorem Barrier_out {t : Int} (ht : t < 0 ∨ (N : Int) ≤ t) : storage_Storage_Barrier (a.st N) t = some (0, a.st N) := by
 unfold storage_Storage_Barrier
 rw [thread_is]
 simp only [Option.bind_some]
 rw [if_pos (by simp; omega)]
theorem Go_is (i : Inv N a) (t n : Int) : Ok (storage_Storage_Go (a.st N) t n) (fun r => (r.1 = 0 ∧ ∃ (q : Nat) (e : Ev), t = (q : Int) ∧ May N a q n e ∧ r.2 = (cm a q n).st N) ∨ (r.1 = 1 ∧ r.2 = a.st N ∧ ¬ ∃ (q : Nat) (e : Ev), t = (q : Int) ∧ May N a q n e)) := by
 unfold storage_Storage_Go
 refine (May_in i t n).bind fun b hb => .ite (fun hf => .ret ?_) (fun ht => ?_)
 ·refine .inr ⟨rfl, rfl, fun h => ?_⟩
  rw [hb.2 h] at hf; cases hf
 ·have hbt : b = true := by simpa using ht
  obtain ⟨q, e, rfl, hm⟩ := hb.1 hbt
  rw [come_is (by have := i.hE; omega) hm.ht (i.len1 hm.ht) hm.he]
  simp only [Option.bind_some]
  exact .ret (.inl ⟨rfl, q, e, rfl, hm, rfl⟩)
end
open Classical in
noncomputable def stp (N : Nat) (a : A) (c : Ca) : A :=
 if c.kind = 0 then if 0 ≤ c.t ∧ c.t < N then ac a ⟨c.t, false, c.at_, c.val⟩ else a
 else if c.kind = 1 then if 0 ≤ c.t ∧ c.t < N then ac a ⟨c.t, true, 0, 0⟩ else a
 else if c.kind = 2 then if ∃ (q : Nat) (e : Ev), c.t = (q : Int) ∧ May N a q c.n e then cm a c.t.toNat c.n else a
 else a
theorem ac_len {a : A} {e : Ev} : (ac a e).E.length = a.E.length + 1 := by show (a.E ++ [e]).length = _; simp
theorem stp_ok {N : Nat} {a : A} (c : Ca) (i : Inv N a) (hE : a.E.length < 1000) : Inv N (stp N a c) ∧ (stp N a c).E.length ≤ a.E.length + 1 ∧ ∀ j, j < N → ∀ p, rd a j p ≤ rd (stp N a c) j p := by
 unfold stp
 split
 ·split
  ·rename_i h
   have := i.acc (e := ⟨c.t, false, c.at_, c.val⟩) hE h
   exact ⟨this.1, Nat.le_of_eq ac_len, this.2⟩
  ·exact ⟨i, Nat.le_succ _, fun _ _ _ => Int.le_refl _⟩
 ·split
  ·split
   ·rename_i h
    have := i.acc (e := ⟨c.t, true, 0, 0⟩) hE h
    exact ⟨this.1, Nat.le_of_eq ac_len, this.2⟩
   ·exact ⟨i, Nat.le_succ _, fun _ _ _ => Int.le_refl _⟩
  ·split
   ·split
    ·rename_i h
     obtain ⟨q, e, hq, hm⟩ := h
     rw [hq, Int.toNat_natCast]
     refine ⟨i.come hm, Nat.le_succ _, fun j hj p => ?_⟩
     rw [rd_cm hm.he]
     split
     ·rename_i h
      have := hm.np h.2.1
      rw [h.2.2] at this
      rw [h.1]; omega
     ·omega
    ·exact ⟨i, Nat.le_succ _, fun _ _ _ => Int.le_refl _⟩
   ·exact ⟨i, Nat.le_succ _, fun _ _ _ => Int.le_refl _⟩
theorem run_ok {N : Nat} (cs : List Ca) (h : cs.length ≤ 900) : Inv N (cs.foldl (stp N) a0) ∧ (cs.foldl (stp N) a0).E.length ≤ cs.length := by
 have key : ∀ (cs : List Ca) (a : A), a.E.length + cs.length ≤ 900 → Inv N a → Inv N (cs.foldl (stp N) a) ∧ (cs.foldl (stp N) a).E.length ≤ a.E.length + cs.length := by
  intro cs
  induction cs with
  | nil => intro a h i; exact ⟨i, by simp⟩
  | cons c cs ih =>
   intro a h i
   rw [List.length_cons] at h
   have hs := stp_ok c i (by omega)
   have := ih (stp N a c) (by omega) hs.1
   rw [List.foldl_cons, List.length_cons]
   exact ⟨this.1, by omega⟩
 have := key cs a0 (by simp [a0]; omega) (.zero N)
 have h0 : a0.E.length = 0 := rfl
 exact ⟨this.1, by have := this.2; omega⟩
theorem alive_is : law16_alive = some true := by
 unfold law16_alive
 rw [New_is]
 simp only [Option.bind_some]
 have hN : nN 2 = 2 := rfl
 rw [hN]
 have i0 := Inv.zero 2
 rw [Write_in i0 (by omega)]
 simp only [Option.bind_some]
 have i1 := (i0.acc (e := ⟨0, false, 8, 1⟩) (by simp [a0]) ⟨by simp, by simp⟩).1
 rw [Write_in i1 (by omega)]
 simp only [Option.bind_some]
 have i2 := (i1.acc (e := ⟨1, false, 8, 2⟩) (by rw [ac_len]; simp [a0]) ⟨by simp, by simp⟩).1
 generalize ha2 : ac (ac a0 ⟨0, false, 8, 1⟩) ⟨1, false, 8, 2⟩ = a2 at i2
 have hE : a2.E = [⟨0, false, 8, 1⟩, ⟨1, false, 8, 2⟩] := by rw [← ha2]; rfl
 have hS0 : a2.S 0 = [1] := by rw [← ha2]; rfl
 have hS1 : a2.S 1 = [2] := by rw [← ha2]; rfl
 have hW0 : rd a2 0 8 = 1 := by rw [← ha2]; rfl
 have hW1 : rd a2 1 8 = 2 := by rw [← ha2]; rfl
 have he1 : ev a2 1 ⟨0, false, 8, 1⟩ := ⟨0, rfl, by rw [hE]; rfl⟩
 have he2 : ev a2 2 ⟨1, false, 8, 2⟩ := ⟨1, rfl, by rw [hE]; rfl⟩
 obtain ⟨r, hr1, hr2, _, hr3⟩ := Read_in i2 (t := 0) (by omega) 8
 rw [show ((0 : Nat) : Int) = 0 from rfl] at hr1
 rw [hr1]
 simp only [Option.bind_some]
 have hr1' : r.1 = 1 := hr3 _ (by rw [hW0]; exact he1)
 rw [hW0] at hr2
 rw [hr1', hr2, ac_len]
 have m1 : Ok (storage_Storage_May (a2.st 2) 1 1) (fun b => b = false) := (May_in i2 1 1).mono fun b hb => by
  cases b with
  | false => rfl
  | true =>
   obtain ⟨q, e, hq, hm⟩ := hb.1 rfl
   have : q = 1 := by omega
   subst this
   have := ev_inj he1 hm.he
   subst this
   exact (hm.np rfl (by rw [hW1]; decide)).elim
 have m2 : Ok (storage_Storage_May (a2.st 2) 0 2) (fun b => b = true) := (May_in i2 0 2).mono fun b hb => by
  refine hb.2 ⟨0, _, rfl, ⟨by omega, he2, by rw [hS0]; decide, fun _ => by rw [hW0]; decide, ?_, ?_⟩⟩
  ·intro k hk
   rw [show (⟨1, false, 8, 2⟩ : Ev).thread.toNat = 1 from rfl, hS1] at hk
   cases hk
  ·intro h; cases h
 obtain ⟨b1, hb1, rfl⟩ := m1
 obtain ⟨b2, hb2, rfl⟩ := m2
 rw [hb1, hb2]
 simp [a0]
end Go.Vm.G16s
