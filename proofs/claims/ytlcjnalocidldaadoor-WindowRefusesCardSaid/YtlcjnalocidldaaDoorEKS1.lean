/-
 The memory whose writes come to each thread by themselves, as plain facts.
-/
import Derived.Test.YtlcjnalocidldaaDoorEPl2
import Derived.Test.YtlcjnalocidldaaDoorEOK17
set_option linter.unusedSimpArgs false
set_option linter.unusedVariables false
namespace Go.Vm.K17.M
open Go
abbrev Ev := TStored
structure A where
 E : List Ev
 S : Nat → List Int
 H : Nat → List (Int × Bool)
 W : Nat → List (Int × Int)
 L : List (Int × Int)
def A.st (a : A) (N : Nat) : Tstorage_Storage := ⟨a.E, tb N a.S, tb N a.H, tb N a.W, a.L⟩
def ev (a : A) (n : Int) (e : Ev) : Prop := ∃ k : Nat, n = ((k + 1 : Nat) : Int) ∧ a.E[k]? = some e
def wr (a : A) (n : Int) (p : Int) : Prop := ∃ e, ev a n e ∧ e.bar = false ∧ e.at_ = p
def rd (a : A) (t : Nat) (p : Int) : Int := (mG (a.W t) p).getD 0
def ls (a : A) (p : Int) : Int := (mG a.L p).getD 0
theorem ev_inj {a : A} {n : Int} {e e' : Ev} (h : ev a n e) (h' : ev a n e') : e = e' := by
 obtain ⟨k, h1, h2⟩ := h
 obtain ⟨k', h1', h2'⟩ := h'
 have : k = k' := by omega
 subst this
 rw [h2] at h2'; exact Option.some.inj h2'
theorem ev_rng {a : A} {n : Int} {e : Ev} (h : ev a n e) : 1 ≤ n ∧ n ≤ a.E.length := by
 obtain ⟨k, h1, h2⟩ := h
 have := (List.getElem?_eq_some_iff.1 h2).1
 omega
theorem ev_of {a : A} {n : Int} (h1 : 1 ≤ n) (h2 : n ≤ a.E.length) : ∃ e, ev a n e := by
 refine ⟨a.E[(n - 1).toNat]'(by omega), (n - 1).toNat, by omega, List.getElem?_eq_getElem _⟩
structure Inv (N : Nat) (a : A) : Prop where
 hE : a.E.length ≤ 1000
 thr : ∀ n e, ev a n e → 0 ≤ e.thread ∧ e.thread < N
 has : ∀ t, t < N → ∀ n, (mG (a.H t) n).getD false = true ↔ n ∈ a.S t
 rng : ∀ t, t < N → ∀ n ∈ a.S t, 1 ≤ n ∧ n ≤ a.E.length
 nodup : ∀ t, t < N → (a.S t).Nodup
 now1 : ∀ t, t < N → ∀ p, rd a t p = 0 ∨ (rd a t p ∈ a.S t ∧ wr a (rd a t p) p)
 now2 : ∀ t, t < N → ∀ n ∈ a.S t, ∀ p, wr a n p → n ≤ rd a t p
 own : ∀ n e, ev a n e → n ∈ a.S e.thread.toNat
 last1 : ∀ p, ls a p = 0 ∨ wr a (ls a p) p
 last2 : ∀ n p, wr a n p → n ≤ ls a p
 ord : ∀ n e, ev a n e → ∀ k ∈ pre (a.S e.thread.toNat) n, k < n
 bars : ∀ t, t < N → ∀ n ∈ a.S t, ∀ e, ev a n e → ∀ k ∈ pre (a.S e.thread.toNat) n, ∀ e', ev a k e' → e'.bar = true → k ∈ a.S t
 wrts : ∀ t, t < N → ∀ n ∈ a.S t, ∀ e, ev a n e → e.bar = true → ∀ k ∈ pre (a.S e.thread.toNat) n, ∀ p, wr a k p → k ≤ rd a t p
section
variable {N : Nat} {a : A}
theorem Inv.len (i : Inv N a) {t : Nat} (ht : t < N) : (a.S t).length ≤ a.E.length := nodup_len _ _ (i.nodup t ht) (i.rng t ht)
theorem rd_rng (i : Inv N a) {t : Nat} (ht : t < N) (p : Int) : 0 ≤ rd a t p ∧ rd a t p ≤ a.E.length := by
 rcases i.now1 t ht p with h | ⟨h, _⟩
 ·omega
 ·have := i.rng t ht _ h; omega
theorem thread_is (t : Int) : storage_Storage_thread (a.st N) t = some ((decide (0 ≤ t)) && (decide (t < (N : Int)))) := by
 unfold storage_Storage_thread A.st
 simp only [tb_len]
theorem Read_in (i : Inv N a) {t : Nat} (ht : t < N) (p : Int) : Ok (storage_Storage_Read (a.st N) t p) (fun r => r.2 = rd a t p ∧ (rd a t p = 0 → r.1 = 0) ∧ ∀ e, ev a (rd a t p) e → r.1 = e.val) := by
 unfold storage_Storage_Read
 rw [thread_is]
 simp only [Option.bind_some]
 rw [if_neg (by simp; omega)]
 show Ok ((ix (tb N a.W) t).bind _) _
 rw [ix_tb ht]
 simp only [Option.bind_some]
 have hr := rd_rng i ht p
 have hE := i.hE
 refine .ite (fun hb => ?_) (fun hb => ?_)
 ·have h0 : rd a t p = 0 := of_decide_eq_true hb
  refine .ret ⟨h0.symm, fun _ => rfl, fun e he => ?_⟩
  have := ev_rng he; omega
 ·have h0 : rd a t p ≠ 0 := of_decide_eq_false hb
  show Ok ((ix a.E (w64 (rd a t p - 1))).bind _) _
  rw [w64_id (by omega) (by omega)]
  obtain ⟨e, k, h1, h2⟩ := ev_of (a := a) (n := rd a t p) (by omega) hr.2
  rw [show rd a t p - 1 = (k : Int) from by omega, ix_nat, h2]
  simp only [Option.bind_some]
  refine .ret ⟨rfl, fun h => (h0 h).elim, fun e' he' => ?_⟩
  rw [ev_inj he' ⟨k, h1, h2⟩]
theorem Seen_in (i : Inv N a) {t : Nat} (ht : t < N) (n : Int) : Ok (storage_Storage_Seen (a.st N) t n) (fun b => b = true ↔ n ∈ a.S t) := by
 unfold storage_Storage_Seen
 rw [thread_is]
 simp only [Option.bind_some]
 rw [if_pos (by simp; omega)]
 show Ok (((ix (tb N a.H) t).bind _).bind _) _
 rw [ix_tb ht]
 simp only [Option.bind_some]
 exact .ret (i.has t ht n)
theorem passed_in (i : Inv N a) {t : Nat} (ht : t < N) {n : Int} {e : Ev} (he : ev a n e) : Ok (storage_Storage_passed (a.st N) t n) (fun b => b = true ↔ n ≤ rd a t e.at_) := by
 unfold storage_Storage_passed
 obtain ⟨k, h1, h2⟩ := he
 have hE := i.hE
 have hk := (List.getElem?_eq_some_iff.1 h2).1
 show Ok ((ix a.E (w64 (n - 1))).bind _) _
 rw [w64_id (by omega) (by omega), show n - 1 = (k : Int) from by omega, ix_nat, h2]
 simp only [Option.bind_some]
 refine (Read_in i ht e.at_).bind fun r hr => .ret ?_
 rw [hr.1]; simp
theorem Index_in {l : List Int} {n : Int} (hl : l.length ≤ 1000) (h : n ∈ l) : slices_Index l n = some ((pre l n).length : Int) := by
 unfold slices_Index slices_Index_l1
 refine (loop_for (P := fun r => r = ((pre l n).length : Int)) l (fun k s => s = (k : Int) ∧ ∀ y ∈ l.take k, y ≠ n) (fun k x s hk' hk hs => ?_) (fun s hs => ?_) ⟨rfl, by simp⟩).some_of
 ·obtain ⟨rfl, hs⟩ := hs
  unfold slices_Index_l1b
  rw [if_pos (by simp; omega), ix_nat, hk]
  simp only [Option.bind_some]
  refine .ite (fun hb => .map (.ret ?_)) (fun hb => .ret ⟨w64_succ (by omega), fun y hy => ?_⟩)
  ·have : n = x := by simpa using hb
   show (k : Int) = ((pre l n).length : Int)
   rw [pre_at l n k (by rw [hk, this]) hs, List.length_take, Nat.min_eq_left (by omega)]
  ·rw [mem_take_succ hk'] at hy
   rcases hy with hy | rfl
   ·exact hs y hy
   ·rw [List.getElem?_eq_getElem hk'] at hk
    rw [Option.some.inj hk]
    have : ¬ n = x := by simpa using hb
    exact fun e => this e.symm
 ·obtain ⟨rfl, hs⟩ := hs
  rw [List.take_length] at hs
  exact (hs n h rfl).elim
theorem ahead_in (i : Inv N a) {n : Int} {e : Ev} (he : ev a n e) : storage_Storage_ahead (a.st N) n = some (pre (a.S e.thread.toNat) n) := by
 unfold storage_Storage_ahead
 have ht := i.thr n e he
 have hown := i.own n e he
 obtain ⟨k, h1, h2⟩ := he
 have hE := i.hE
 have hk := (List.getElem?_eq_some_iff.1 h2).1
 show (ix a.E (w64 (n - 1))).bind _ = _
 rw [w64_id (by omega) (by omega), show n - 1 = (k : Int) from by omega, ix_nat, h2]
 simp only [Option.bind_some]
 show (ix (tb N a.S) e.thread).bind _ = _
 have hT : e.thread = ((e.thread.toNat : Nat) : Int) := by omega
 have hTN : e.thread.toNat < N := by omega
 rw [hT, ix_tb hTN]
 simp only [Option.bind_some, Int.toNat_natCast]
 rw [Index_in (by have := i.len hTN; omega) hown]
 simp only [Option.bind_some]
 rw [cutL_take _ _ (pre_len _ _)]
 simp only [Option.bind_some]
 rw [← pre_take]
structure May (N : Nat) (a : A) (t : Nat) (n : Int) (e : Ev) : Prop where
 ht : t < N
 he : ev a n e
 new : n ∉ a.S t
 np : e.bar = false → ¬ n ≤ rd a t e.at_
 bar : ∀ k ∈ pre (a.S e.thread.toNat) n, ∀ e', ev a k e' → e'.bar = true → k ∈ a.S t
 wrt : e.bar = true → ∀ k ∈ pre (a.S e.thread.toNat) n, ∀ p, wr a k p → k ≤ rd a t p
theorem May_in (i : Inv N a) (t n : Int) : Ok (storage_Storage_May (a.st N) t n) (fun b => b = true ↔ ∃ (q : Nat) (e : Ev), t = (q : Int) ∧ May N a q n e) := by
 unfold storage_Storage_May
 rw [thread_is]
 simp only [Option.bind_some]
 have hE := i.hE
 by_cases h0 : (0 ≤ t ∧ t < N) ∧ 1 ≤ n ∧ n ≤ a.E.length
 ·obtain ⟨⟨h1, h2⟩, h3, h4⟩ := h0
  obtain ⟨q, rfl⟩ := Int.eq_ofNat_of_zero_le h1
  have hq : q < N := by omega
  obtain ⟨e, he⟩ := ev_of (a := a) h3 h4
  have huni : (∃ (q' : Nat) (e' : Ev), (q : Int) = (q' : Int) ∧ May N a q' n e') ↔ May N a q n e := by
   constructor
   ·rintro ⟨q', e', h5, h6⟩
    have : q = q' := by omega
    subst this
    rw [ev_inj he h6.he]; exact h6
   ·exact fun h => ⟨q, e, rfl, h⟩
  have hc : (((!((decide (0 ≤ (q : Int))) && (decide ((q : Int) < (N : Int))))) || (decide (n < 1))) || (decide (((a.st N).events.length : Int) < n))) = false := by
   simp only [Bool.or_eq_false_iff, Bool.not_eq_false', Bool.and_eq_true, decide_eq_true_eq, decide_eq_false_iff_not]
   exact ⟨⟨⟨by omega, by omega⟩, by omega⟩, by show ¬ ((a.E.length : Int) < n); omega⟩
  rw [hc]
  simp only [Bool.false_eq_true, if_false]
  refine Ok.bind (P := fun b => b = true ↔ n ∈ a.S q) ((Seen_in i hq n).bind fun b hb => .ret hb) fun b hb => ?_
  refine .ite (fun hbt => .ret ?_) (fun hbf => ?_)
  ·rw [huni]; exact ⟨fun h => (by cases h), fun h => (h.new (hb.1 hbt)).elim⟩
  ·have hnew : n ∉ a.S q := fun h => by rw [hb.2 h] at hbf; cases hbf
   obtain ⟨k, hk1, hk2⟩ := id he
   have hk := (List.getElem?_eq_some_iff.1 hk2).1
   show Ok ((ix a.E (w64 (n - 1))).bind _) _
   rw [w64_id (by omega) (by omega), show n - 1 = (k : Int) from by omega, ix_nat, hk2]
   simp only [Option.bind_some]
   refine Ok.bind (P := fun b => b = true ↔ e.bar = false ∧ n ≤ rd a q e.at_) (.ite (fun hbb => (passed_in i hq he).bind fun b hb => .ret ?_) (fun hbb => .ret ?_)) fun b hb => ?_
   ·have : e.bar = false := by simpa using hbb
    rw [hb]; simp [this]
   ·have : e.bar = true := by simpa using hbb
    simp [this]
   ·refine .ite (fun hbt => .ret ?_) (fun hbf2 => ?_)
    ·rw [huni]; exact ⟨fun h => (by cases h), fun h => (h.np (hb.1 hbt).1 (hb.1 hbt).2).elim⟩
    ·have hnp : e.bar = false → ¬ n ≤ rd a q e.at_ := fun h1 h2 => by rw [hb.2 ⟨h1, h2⟩] at hbf2; cases hbf2
     rw [ahead_in i he]
     simp only [Option.bind_some]
     have hT := i.thr n e he
     have hTN : e.thread.toNat < N := by omega
     have hpl := pre_len (a.S e.thread.toNat) n
     have hSl := i.len hTN
     unfold storage_Storage_May_l1
     refine loop_for (pre (a.S e.thread.toNat) n) (fun m s => s = (m : Int) ∧ ∀ k ∈ (pre (a.S e.thread.toNat) n).take m, (∀ e', ev a k e' → e'.bar = true → k ∈ a.S q) ∧ (e.bar = true → ∀ p, wr a k p → k ≤ rd a q p)) (fun m x s hm' hm hs => ?_) (fun s hs => ?_) ⟨rfl, by simp⟩
     ·obtain ⟨rfl, hs⟩ := hs
      unfold storage_Storage_May_l1b
      rw [if_pos (by simp; omega), ix_nat, hm]
      simp only [Option.bind_some]
      have hxm := mem_pre (List.mem_of_getElem? hm)
      have hxr := i.rng _ hTN x hxm.1
      obtain ⟨e', he'⟩ := ev_of (a := a) hxr.1 hxr.2
      obtain ⟨k', hk1', hk2'⟩ := id he'
      show Ok ((ix a.E (w64 (x - 1))).bind _) _
      rw [w64_id (by omega) (by omega), show x - 1 = (k' : Int) from by omega, ix_nat, hk2']
      simp only [Option.bind_some]
      refine Ok.bind (P := fun b => b = true ↔ e'.bar = true ∧ x ∉ a.S q) (.ite (fun hbb => (Seen_in i hq x).bind fun b hb => .ret ?_) (fun hbb => .ret ?_)) fun b1 hb1 => ?_
      ·simp [hbb, ← hb]
      ·simp [hbb]
      ·refine Ok.bind (P := fun b => b = true ↔ (e'.bar = true ∧ x ∉ a.S q) ∨ (e'.bar = false ∧ e.bar = true ∧ ¬ x ≤ rd a q e'.at_)) (.ite (fun hbb => .ret ?_) (fun hbb => Ok.bind (P := fun b => b = true ↔ (e'.bar = false ∧ e.bar = true ∧ ¬ x ≤ rd a q e'.at_)) (.ite (fun hbb2 => (passed_in i hq he').bind fun b hb => .ret ?_) (fun hbb2 => .ret ?_)) fun b hb => .ret ?_)) fun b2 hb2 => ?_
       ·exact ⟨fun _ => .inl (hb1.1 hbb), fun _ => rfl⟩
       ·simp at hbb2
        simp [hbb2.1, hbb2.2, ← hb]
       ·simp at hbb2
        constructor
        ·intro h; cases h
        ·rintro ⟨h1, h2, _⟩
         have := hbb2 h1
         rw [this] at h2; cases h2
       ·rw [hb]
        have : ¬ (e'.bar = true ∧ x ∉ a.S q) := fun h => by rw [hb1.2 h] at hbb; cases hbb
        exact ⟨.inr, fun h => h.resolve_left this⟩
       ·refine .ite (fun hbb => .map (.ret ?_)) (fun hbb => .ret ⟨w64_succ (by omega), fun y hy => ?_⟩)
        ·rw [huni]
         refine ⟨fun h => (by cases h), fun h => ?_⟩
         rcases hb2.1 hbb with ⟨h1, h2⟩ | ⟨h1, h2, h3⟩
         ·exact (h2 (h.bar x (List.mem_of_getElem? hm) e' he' h1)).elim
         ·exact (h3 (h.wrt h2 x (List.mem_of_getElem? hm) e'.at_ ⟨e', he', h1, rfl⟩)).elim
        ·rw [mem_take_succ hm'] at hy
         rcases hy with hy | hy
         ·exact hs y hy
         ·rw [List.getElem?_eq_getElem hm'] at hm
          have hyx : y = x := by rw [hy]; exact Option.some.inj hm
          subst hyx
          have hno : ¬ ((e'.bar = true ∧ y ∉ a.S q) ∨ (e'.bar = false ∧ e.bar = true ∧ ¬ y ≤ rd a q e'.at_)) := fun h => by rw [hb2.2 h] at hbb; cases hbb
          refine ⟨fun e2 he2 hb2' => ?_, fun hbe p hp => ?_⟩
          ·have := ev_inj he' he2
           subst this
           by_cases hin : y ∈ a.S q
           ·exact hin
           ·exact (hno (.inl ⟨hb2', hin⟩)).elim
          ·obtain ⟨e2, he2, hb3, hp3⟩ := hp
           have := ev_inj he' he2
           subst this
           by_cases hin : y ≤ rd a q e'.at_
           ·rw [← hp3]; exact hin
           ·exact (hno (.inr ⟨hb3, hbe, hin⟩)).elim
     ·obtain ⟨rfl, hs⟩ := hs
      unfold storage_Storage_May_l1b
      rw [if_neg (by simp)]
      rw [List.take_length] at hs
      refine .map (.ret ?_)
      rw [huni]
      exact ⟨fun _ => ⟨hq, he, hnew, hnp, fun k hk => (hs k hk).1, fun hb k hk => (hs k hk).2 hb⟩, fun _ => rfl⟩
 ·have hc : (((!((decide (0 ≤ t)) && (decide (t < (N : Int))))) || (decide (n < 1))) || (decide (((a.st N).events.length : Int) < n))) = true := by
   cases hcc : (((!((decide (0 ≤ t)) && (decide (t < (N : Int))))) || (decide (n < 1))) || (decide (((a.st N).events.length : Int) < n))) with
   | true => rfl
   | false =>
    simp only [Bool.or_eq_false_iff, Bool.not_eq_false', Bool.and_eq_true, decide_eq_true_eq, decide_eq_false_iff_not] at hcc
    have h9 : ¬ ((a.E.length : Int) < n) := hcc.2
    exact (h0 ⟨hcc.1.1, by omega, by omega⟩).elim
  rw [hc]
  simp only [Option.bind_some, if_true]
  refine .ret ⟨fun h => (by cases h), ?_⟩
  rintro ⟨q, e, rfl, h⟩
  have := ev_rng h.he
  have := h.ht
  omega
end
end Go.Vm.K17.M
