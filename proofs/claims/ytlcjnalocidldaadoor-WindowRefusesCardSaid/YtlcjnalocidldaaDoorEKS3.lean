/-
 The memory: its operations, and what each says.
-/
import Derived.Test.YtlcjnalocidldaaDoorEKS2
set_option linter.unusedSimpArgs false
set_option linter.unusedVariables false
namespace Go.Vm.K17.M
open Go
section
variable {N : Nat} {a : A}
theorem Inv.len1 (i : Inv N a) {t : Nat} (ht : t < N) : (a.S t).length ≤ 1001 := by have := i.len ht; have := i.hE; omega
theorem Write_in (i : Inv N a) {t : Int} (ht : 0 ≤ t ∧ t < N) (p v : Int) : storage_Storage_Write (a.st N) t p v = some ((a.E.length : Int) + 1, (ac a ⟨t, false, p, v⟩).st N) := by
 unfold storage_Storage_Write
 rw [thread_is]
 simp only [Option.bind_some]
 rw [if_neg (by simp; omega), accept_is i.hE ht (i.len1 (by show t.toNat < N; omega))]
 rfl
theorem Barrier_in (i : Inv N a) {t : Int} (ht : 0 ≤ t ∧ t < N) : storage_Storage_Barrier (a.st N) t = some ((a.E.length : Int) + 1, (ac a ⟨t, true, 0, 0⟩).st N) := by
 unfold storage_Storage_Barrier
 rw [thread_is]
 simp only [Option.bind_some]
 rw [if_neg (by simp; omega), accept_is i.hE ht (i.len1 (by show t.toNat < N; omega))]
 rfl
theorem Go_is (i : Inv N a) (t n : Int) : Ok (storage_Storage_Go (a.st N) t n) (fun r => (r.1 = 0 ∧ ∃ (q : Nat) (e : Ev), t = (q : Int) ∧ May N a q n e ∧ r.2 = (cm a q n).st N) ∨ (r.1 = 1 ∧ r.2 = a.st N ∧ ¬ ∃ (q : Nat) (e : Ev), t = (q : Int) ∧ May N a q n e)) := by
 unfold storage_Storage_Go
 refine (May_in i t n).bind fun b hb => .ite (fun hf => .ret ?_) (fun ht => ?_)
 ·refine .inr ⟨rfl, rfl, fun h => ?_⟩
  rw [hb.2 h] at hf; cases hf
 ·have hbt : b = true := by simpa using ht
  obtain ⟨q, e, rfl, hm⟩ := hb.1 hbt
  rw [come_is (by have := i.hE; omega) hm.ht (i.len1 hm.ht) hm.he]
  simp only [Option.bind_some]
  exact .ret (.inl ⟨rfl, q, e, rfl, hm, rfl⟩)
end
theorem ac_len {a : A} {e : Ev} : (ac a e).E.length = a.E.length + 1 := by show (a.E ++ [e]).length = _; simp
section
variable {N : Nat} {a : A}
theorem Acked_is (i : Inv N a) (hN : N ≤ 8) (n : Int) : Ok (storage_Storage_Acked (a.st N) n) (fun b => b = true ↔ (∃ e, ev a n e ∧ e.bar = true) ∧ ∀ t, t < N → n ∈ a.S t) := by
 unfold storage_Storage_Acked
 have hE := i.hE
 refine Ok.bind (P := fun b => b = false ↔ ∃ e, ev a n e ∧ e.bar = true) (.ite (fun hb => .ret ?_) (fun hb => ?_)) fun b hb => ?_
 ·constructor
  ·intro h; cases h
  ·rintro ⟨e, he, _⟩
   have := ev_rng he
   have h9 : n < 1 ∨ (a.E.length : Int) < n := by
    simp only [Bool.or_eq_true, decide_eq_true_eq] at hb
    exact hb
   omega
 ·have h9 : ¬ n < 1 ∧ ¬ (a.E.length : Int) < n := by
   simp only [Bool.or_eq_false_iff, decide_eq_false_iff_not] at hb
   exact hb
  obtain ⟨e, he⟩ := ev_of (a := a) (n := n) (by omega) (by omega)
  obtain ⟨k, hk1, hk2⟩ := id he
  show Ok ((ix a.E (w64 (n - 1))).bind _) _
  rw [w64_id (by omega) (by omega), show n - 1 = (k : Int) from by omega, ix_nat, hk2]
  simp only [Option.bind_some]
  refine .ret ?_
  constructor
  ·intro h; exact ⟨e, he, by simpa using h⟩
  ·rintro ⟨e', he', hb'⟩
   rw [ev_inj he he', hb']; rfl
 ·refine .ite (fun hbt => .ret ?_) (fun hbf => ?_)
  ·constructor
   ·intro h; cases h
   ·rintro ⟨h, _⟩
    rw [hb.2 h] at hbt; cases hbt
  ·unfold storage_Storage_Acked_l1
   have hex := hb.1 hbf
   refine Ok.loop (fun k s => s = (k : Int) ∧ ∀ t, t < k → n ∈ a.S t) N (fun k s hk hs => ?_) (fun s hs => ?_) ⟨rfl, by simp⟩
   ·obtain ⟨rfl, hs⟩ := hs
    unfold storage_Storage_Acked_l1b
    rw [if_pos (by show decide ((k : Int) < ((tb N a.S).length : Int)) = true; simp; omega)]
    refine (Seen_in i hk n).bind fun c hc => .ite (fun hcf => .map (.ret ?_)) (fun hct => .ret ⟨w64_succ (by omega), ?_⟩)
    ·constructor
     ·intro h; cases h
     ·rintro ⟨_, h⟩
      rw [hc.2 (h k hk)] at hcf; cases hcf
    ·intro t ht
     by_cases htk : t = k
     ·rw [htk]; exact hc.1 (by simpa using hct)
     ·exact hs t (by omega)
   ·obtain ⟨rfl, hs⟩ := hs
    unfold storage_Storage_Acked_l1b
    rw [if_neg (by show ¬ decide ((N : Int) < ((tb N a.S).length : Int)) = true; simp)]
    exact .map (.ret ⟨fun _ => ⟨hex, hs⟩, fun _ => rfl⟩)
end
def Done (a : A) (t : Nat) (m : Int) : Prop := ∀ n e, ev a n e → n ≤ m → (e.bar = true → n ∈ a.S t) ∧ (e.bar = false → n ≤ rd a t e.at_)
theorem done_may {N : Nat} {a : A} (i : Inv N a) {t : Nat} (ht : t < N) {n : Int} {e : Ev} (he : ev a n e) (hd : Done a t (n - 1)) (hm : ¬ May N a t n e) : (e.bar = true → n ∈ a.S t) ∧ (e.bar = false → n ≤ rd a t e.at_) := by
 by_cases h : (e.bar = true → n ∈ a.S t) ∧ (e.bar = false → n ≤ rd a t e.at_)
 ·exact h
 ·refine (hm ⟨ht, he, fun hin => ?_, fun hb hle => ?_, fun k hk e' he' hb => ?_, fun hb k hk p hp => ?_⟩).elim
  ·exact h ⟨fun _ => hin, fun hb => i.now2 t ht n hin e.at_ ⟨e, he, hb, rfl⟩⟩
  ·exact h ⟨fun hb' => (by rw [hb] at hb'; cases hb'), fun _ => hle⟩
  ·have := i.ord n e he k hk
   exact (hd k e' he' (by omega)).1 hb
  ·have := i.ord n e he k hk
   obtain ⟨e', he', hb', hp'⟩ := hp
   have h2 := (hd k e' he' (by omega)).2 hb'
   rw [hp'] at h2
   exact h2
theorem Settle_is {N : Nat} {a : A} (i : Inv N a) (hN : N ≤ 8) : Ok (storage_Storage_Settle (a.st N)) (fun s => ∃ b : A, s = b.st N ∧ Inv N b ∧ b.E = a.E ∧ ∀ t, t < N → Done b t a.E.length) := by
 have hE := i.hE
 unfold storage_Storage_Settle storage_Storage_Threads
 simp only [Option.bind_some]
 show Ok (storage_Storage_Settle_l1 ((tb N a.S).length : Int) a.E (tb N a.S) (tb N a.H) (tb N a.W) a.L 0) _
 rw [tb_len]
 unfold storage_Storage_Settle_l1
 refine Ok.loop (B := fun s => storage_Storage_Settle_l1b N s.1 s.2.1 s.2.2.1 s.2.2.2.1 s.2.2.2.2.1 s.2.2.2.2.2) (fun t s => ∃ b : A, s = (b.E, tb N b.S, tb N b.H, tb N b.W, b.L, (t : Int)) ∧ Inv N b ∧ b.E = a.E ∧ ∀ j, j < t → Done b j a.E.length) N (fun t s ht hs => ?_) (fun s hs => ?_) ⟨a, rfl, i, rfl, fun j hj => by omega⟩
 ·obtain ⟨b, rfl, ib, hbE, hbd⟩ := hs
  show Ok (storage_Storage_Settle_l1b N b.E (tb N b.S) (tb N b.H) (tb N b.W) b.L t) _
  unfold storage_Storage_Settle_l1b
  rw [if_pos (by simp; omega)]
  unfold storage_Storage_Settle_l2
  refine Ok.loop (B := fun s => storage_Storage_Settle_l2b b.E t s.1 s.2.1 s.2.2.1 s.2.2.2.1 s.2.2.2.2.1 s.2.2.2.2.2) (fun k s => ∃ c : A, s = (c.E, tb N c.S, tb N c.H, tb N c.W, c.L, (k : Int)) ∧ Inv N c ∧ c.E = a.E ∧ (∀ j, j < t → Done c j a.E.length) ∧ Done c t k) b.E.length (fun k s hk hs => ?_) (fun s hs => ?_) ⟨b, rfl, ib, hbE, hbd, fun n e he hn => by have := ev_rng he; omega⟩
  ·obtain ⟨c, rfl, ic, hcE, hcd, hck⟩ := hs
   show Ok (storage_Storage_Settle_l2b b.E t c.E (tb N c.S) (tb N c.H) (tb N c.W) c.L k) _
   unfold storage_Storage_Settle_l2b storage_Storage_Settle_k1
   rw [if_pos (by simp; omega), w64_succ (by rw [hbE] at hk; omega)]
   have hkE : k < c.E.length := by rw [hcE, ← hbE]; exact hk
   obtain ⟨e, he⟩ : ∃ e, ev c ((k + 1 : Nat) : Int) e := ⟨c.E[k], k, rfl, List.getElem?_eq_getElem hkE⟩
   show Ok ((storage_Storage_May (c.st N) t ((k + 1 : Nat) : Int)).bind _) _
   refine (May_in ic t ((k + 1 : Nat) : Int)).bind fun m hm => ?_
   have ext : ∀ d : A, d.E = c.E → (∀ n e, ev c n e → n ≤ (k : Int) → (e.bar = true → n ∈ d.S t) ∧ (e.bar = false → n ≤ rd d t e.at_)) → ((e.bar = true → ((k + 1 : Nat) : Int) ∈ d.S t) ∧ (e.bar = false → ((k + 1 : Nat) : Int) ≤ rd d t e.at_)) → Done d t ((k + 1 : Nat) : Int) := by
    intro d hd h1 h2 n e' he' hn
    have he'' : ev c n e' := by unfold ev at he' ⊢; rw [hd] at he'; exact he'
    by_cases hnk : n ≤ (k : Int)
    ·exact h1 n e' he'' hnk
    ·have : n = ((k + 1 : Nat) : Int) := by omega
     subst this
     rw [ev_inj he'' he]; exact h2
   refine .ite (fun hmt => ?_) (fun hmf => ?_)
   ·show Ok ((storage_Storage_Go (c.st N) t ((k + 1 : Nat) : Int)).bind _) _
    refine (Go_is ic t ((k + 1 : Nat) : Int)).bind fun r hr => ?_
    rcases hr with ⟨_, q, e2, hq, hm2, hst⟩ | ⟨_, _, hno⟩
    ·have hqt : q = t := by omega
     subst hqt
     have := ev_inj he hm2.he
     subst this
     rw [hst]
     refine .ret ⟨cm c q ((k + 1 : Nat) : Int), ?_, ic.come hm2, hcE, fun j hj n e' he' hn => ?_, ?_⟩
     ·rfl
     ·have h1 := hcd j hj n e' he' hn
      refine ⟨fun hb => ?_, fun hb => ?_⟩
      ·show n ∈ up c.S q _ j
       rw [up_ne (by omega)]; exact h1.1 hb
      ·rw [rd_cm he, if_neg (by omega)]; exact h1.2 hb
     ·refine ext _ rfl (fun n e' he' hn => ?_) ⟨fun hb => ?_, fun hb => ?_⟩
      ·have h1 := hck n e' he' hn
       refine ⟨fun hb => ?_, fun hb => ?_⟩
       ·show n ∈ up c.S q _ q
        rw [up_self]; exact List.mem_append_left _ (h1.1 hb)
       ·rw [rd_cm he]
        have := h1.2 hb
        split
        ·omega
        ·exact this
      ·show _ ∈ up c.S q _ q
       rw [up_self]; simp
      ·rw [rd_cm he, if_pos ⟨rfl, hb, rfl⟩]; exact Int.le_refl _
    ·exact (hno (hm.1 hmt)).elim
   ·refine .ret ⟨c, ?_, ic, hcE, hcd, ext c rfl hck ?_⟩
    ·rfl
    ·refine done_may ic ht he ?_ (fun h => ?_)
     ·have : (((k + 1 : Nat) : Int) - 1) = (k : Int) := by omega
      rw [this]; exact hck
     ·rw [hm.2 ⟨t, e, rfl, h⟩] at hmf; cases hmf
  ·obtain ⟨c, rfl, ic, hcE, hcd, hck⟩ := hs
   show Ok (storage_Storage_Settle_l2b b.E t c.E (tb N c.S) (tb N c.H) (tb N c.W) c.L _) _
   unfold storage_Storage_Settle_l2b
   rw [if_neg (by simp)]
   refine .map (.ret ⟨c, ?_, ic, hcE, fun j hj => ?_⟩)
   ·show _ = _
    rw [w64_succ (by omega)]
   ·by_cases hjt : j = t
    ·subst hjt; rw [hbE] at hck; exact hck
    ·exact hcd j (by omega)
 ·obtain ⟨b, rfl, ib, hbE, hbd⟩ := hs
  show Ok (storage_Storage_Settle_l1b N b.E (tb N b.S) (tb N b.H) (tb N b.W) b.L N) _
  unfold storage_Storage_Settle_l1b
  rw [if_neg (by simp)]
  exact .map (.ret ⟨b, rfl, ib, hbE, hbd⟩)
end Go.Vm.K17.M
