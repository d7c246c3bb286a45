/-
 The reference's memory: what it says of the same events.
-/
import Derived.Test.YthbllmihobbcgaaEPSD
set_option linter.unusedSimpArgs false
set_option linter.unusedVariables false
namespace Go.Vm.G16s
open Go
theorem mem_pre_of : ∀ (l : List Int) (n x : Int) (m : Nat), l[m]? = some x → (∀ y ∈ l.take (m + 1), y ≠ n) → x ∈ pre l n
 | [], _, _, _, h, _ => by simp at h
 | a :: l, n, x, m, h, hn => by
  have ha : a ≠ n := hn a (by simp)
  rw [pre_cons, if_neg ha]
  cases m with
  | zero => simp at h; simp [h]
  | succ m =>
   refine List.mem_cons_of_mem _ (mem_pre_of l n x m (by simpa using h) fun y hy => hn y ?_)
   rw [List.take_succ_cons]
   exact List.mem_cons_of_mem _ hy
section
variable {N : Nat} {a : A}
theorem RHas_in (i : Inv N a) {t : Nat} (ht : t < N) (n : Int) : Ok (ref16_Storage_Has (a.rf N) t n) (fun b => b = true ↔ n ∈ a.S t) := by
 have hl := i.len ht
 have hE := i.hE
 unfold ref16_Storage_Has
 rw [if_neg (by show ¬ ((decide ((t : Int) < 0)) || (decide ((N : Int) ≤ (t : Int)))) = true; simp; omega)]
 show Ok ((ix (tb N a.S) t).bind _) _
 rw [ix_tb ht]
 simp only [Option.bind_some]
 unfold ref16_Storage_Has_l1
 refine loop_for (a.S t) (fun k s => s = (k : Int) ∧ n ∉ (a.S t).take k) (fun k x s hk' hk hs => ?_) (fun s hs => ?_) ⟨rfl, by simp⟩
 ·obtain ⟨rfl, hs⟩ := hs
  unfold ref16_Storage_Has_l1b
  rw [if_pos (by simp; omega)]
  show Ok ((ix (tb N a.S) t).bind _) _
  rw [ix_tb ht]
  simp only [Option.bind_some]
  rw [ix_nat, hk]
  simp only [Option.bind_some]
  refine .ite (fun hb => .map (.ret ?_)) (fun hb => .ret ⟨w64_succ (by omega), fun hy => ?_⟩)
  ·have hx : x = n := of_decide_eq_true hb
   exact ⟨fun _ => hx ▸ List.mem_of_getElem? hk, fun _ => rfl⟩
  ·rw [mem_take_succ hk'] at hy
   rcases hy with hy | hy
   ·exact hs hy
   ·rw [List.getElem?_eq_getElem hk'] at hk
    rw [Option.some.inj hk] at hy
    exact of_decide_eq_false hb hy.symm
 ·obtain ⟨rfl, hs⟩ := hs
  rw [List.take_length] at hs
  unfold ref16_Storage_Has_l1b
  rw [if_neg (by simp)]
  exact .map (.ret ⟨fun h => (by cases h), fun h => (hs h).elim⟩)
theorem RHas_out (t n : Int) (h : t < 0 ∨ (N : Int) ≤ t) : ref16_Storage_Has (a.rf N) t n = some false := by
 unfold ref16_Storage_Has
 rw [if_pos (by show ((decide (t < 0)) || (decide ((N : Int) ≤ t))) = true; simp; omega)]
theorem Rpassed_in (i : Inv N a) {t : Nat} (ht : t < N) {n : Int} {e : Ev} (he : ev a n e) : Ok (ref16_Storage_passed (a.rf N) t n) (fun b => b = true ↔ n ≤ rd a t e.at_) := by
 have hE := i.hE
 have hr := ev_rng he
 obtain ⟨k0, hk1, hk2⟩ := id he
 unfold ref16_Storage_passed ref16_Storage_passed_l1
 have hC : (∃ j, n ≤ j ∧ wr a j e.at_ ∧ j ∈ a.S t) ↔ n ≤ rd a t e.at_ := by
  constructor
  ·rintro ⟨j, h1, h2, h3⟩
   have := i.now2 t ht j h3 _ h2
   omega
  ·intro h
   rcases i.now1 t ht e.at_ with h0 | ⟨h1, h2⟩
   ·omega
   ·exact ⟨_, h, h2, h1⟩
 refine Ok.loop (fun k s => s = n + (k : Int) ∧ ∀ j, n ≤ j → j < n + (k : Int) → ¬ (wr a j e.at_ ∧ j ∈ a.S t)) (a.E.length + 1 - n.toNat) (fun k s hk hs => ?_) (fun s hs => ?_) ⟨by simp, fun j h1 h2 => by simp at h2; omega⟩
 ·obtain ⟨rfl, hs⟩ := hs
  obtain ⟨e', he'⟩ := ev_of (a := a) (n := n + (k : Int)) (by omega) (by omega)
  obtain ⟨k1, hk3, hk4⟩ := id he'
  have kt : wr a (n + (k : Int)) e.at_ ∧ n + (k : Int) ∈ a.S t → Ok (ref16_Storage_passed_k1 (n + (k : Int)) true) (Sum.elim (fun s => s = n + ((k + 1 : Nat) : Int) ∧ ∀ j, n ≤ j → j < n + ((k + 1 : Nat) : Int) → ¬ (wr a j e.at_ ∧ j ∈ a.S t)) fun b => b = true ↔ n ≤ rd a t e.at_) := fun h => by
   unfold ref16_Storage_passed_k1
   rw [if_pos rfl]
   exact .map (.ret ⟨fun _ => hC.1 ⟨_, by omega, h⟩, fun _ => rfl⟩)
  have kf : ¬ (wr a (n + (k : Int)) e.at_ ∧ n + (k : Int) ∈ a.S t) → Ok (ref16_Storage_passed_k1 (n + (k : Int)) false) (Sum.elim (fun s => s = n + ((k + 1 : Nat) : Int) ∧ ∀ j, n ≤ j → j < n + ((k + 1 : Nat) : Int) → ¬ (wr a j e.at_ ∧ j ∈ a.S t)) fun b => b = true ↔ n ≤ rd a t e.at_) := fun h => by
   unfold ref16_Storage_passed_k1
   rw [if_neg (by decide)]
   refine .ret ⟨?_, fun j h1 h2 => ?_⟩
   ·rw [w64_id (by omega) (by omega)]; omega
   ·by_cases hj : j = n + (k : Int)
    ·rw [hj]; exact h
    ·exact hs j h1 (by omega)
  unfold ref16_Storage_passed_l1b
  rw [if_pos (by show decide (n + (k : Int) ≤ (a.E.length : Int)) = true; simp; omega)]
  have hix : ix (a.rf N).e (w64 (n + (k : Int) - 1)) = some e' := by
   show ix a.E _ = _
   rw [w64_id (by omega) (by omega), show n + (k : Int) - 1 = (k1 : Int) from by omega, ix_nat, hk4]
  have hixn : ix (a.rf N).e (w64 (n - 1)) = some e := by
   show ix a.E _ = _
   rw [w64_id (by omega) (by omega), show n - 1 = (k0 : Int) from by omega, ix_nat, hk2]
  rw [hix]
  simp only [Option.bind_some]
  refine .ite (fun hb => ?_) (fun hb => kf ?_)
  ·have hbf : e'.bar = false := by simpa using hb
   rw [hixn]
   simp only [Option.bind_some]
   refine .ite (fun hb2 => ?_) (fun hb2 => kf ?_)
   ·have hat : e'.at_ = e.at_ := of_decide_eq_true hb2
    refine (RHas_in i ht _).bind fun b hb3 => ?_
    cases b with
    | true => exact kt ⟨⟨e', he', hbf, hat⟩, hb3.1 rfl⟩
    | false => exact kf fun h => by have := hb3.2 h.2; cases this
   ·rintro ⟨⟨e2, he2, _, hp⟩, _⟩
    have := ev_inj he' he2
    subst this
    exact of_decide_eq_false hb2 hp
  ·rintro ⟨⟨e2, he2, h3, _⟩, _⟩
   have := ev_inj he' he2
   subst this
   rw [h3] at hb; cases hb
 ·obtain ⟨rfl, hs⟩ := hs
  unfold ref16_Storage_passed_l1b
  rw [if_neg (by show ¬ decide (n + ((a.E.length + 1 - n.toNat : Nat) : Int) ≤ (a.E.length : Int)) = true; simp; omega)]
  refine .map (.ret ⟨fun h => (by cases h), fun h => ?_⟩)
  obtain ⟨j, h1, h2, h3⟩ := hC.2 h
  have : j ≤ a.E.length := by
   obtain ⟨e2, he2, _⟩ := h2
   exact (ev_rng he2).2
  exact (hs j h1 (by omega) ⟨h2, h3⟩).elim
theorem RMay_in (i : Inv N a) (t n : Int) : Ok (ref16_Storage_May (a.rf N) t n) (fun b => b = true ↔ ∃ (q : Nat) (e : Ev), t = (q : Int) ∧ May N a q n e) := by
 unfold ref16_Storage_May
 have hE := i.hE
 by_cases h0 : (0 ≤ t ∧ t < N) ∧ 1 ≤ n ∧ n ≤ a.E.length
 ·obtain ⟨⟨h1, h2⟩, h3, h4⟩ := h0
  obtain ⟨q, rfl⟩ := Int.eq_ofNat_of_zero_le h1
  have hq : q < N := by omega
  obtain ⟨e, he⟩ := ev_of (a := a) h3 h4
  have huni : (∃ (q' : Nat) (e' : Ev), (q : Int) = (q' : Int) ∧ May N a q' n e') ↔ May N a q n e := by
   constructor
   ·rintro ⟨q', e', h5, h6⟩
    have : q = q' := by omega
    subst this
    rw [ev_inj he h6.he]; exact h6
   ·exact fun h => ⟨q, e, rfl, h⟩
  have hc : ((((decide ((q : Int) < 0)) || (decide ((a.rf N).n ≤ (q : Int)))) || (decide (n < 1))) || (decide (((a.rf N).e.length : Int) < n))) = false := by
   simp only [Bool.or_eq_false_iff, decide_eq_false_iff_not]
   exact ⟨⟨⟨by omega, by show ¬ ((N : Int) ≤ (q : Int)); omega⟩, by omega⟩, by show ¬ ((a.E.length : Int) < n); omega⟩
  rw [hc]
  simp only [Bool.false_eq_true, if_false]
  refine Ok.bind (P := fun b => b = true ↔ n ∈ a.S q) ((RHas_in i hq n).bind fun b hb => .ret hb) fun b hb => ?_
  refine .ite (fun hbt => .ret ?_) (fun hbf => ?_)
  ·rw [huni]; exact ⟨fun h => (by cases h), fun h => (h.new (hb.1 hbt)).elim⟩
  ·have hnew : n ∉ a.S q := fun h => by rw [hb.2 h] at hbf; cases hbf
   obtain ⟨k, hk1, hk2⟩ := id he
   have hk := (List.getElem?_eq_some_iff.1 hk2).1
   show Ok ((ix a.E (w64 (n - 1))).bind _) _
   rw [w64_id (by omega) (by omega), show n - 1 = (k : Int) from by omega, ix_nat, hk2]
   simp only [Option.bind_some]
   refine Ok.bind (P := fun b => b = true ↔ e.bar = false ∧ n ≤ rd a q e.at_) (.ite (fun hbb => (Rpassed_in i hq he).bind fun b hb => .ret ?_) (fun hbb => .ret ?_)) fun b hb => ?_
   ·have : e.bar = false := by simpa using hbb
    rw [hb]; simp [this]
   ·have : e.bar = true := by simpa using hbb
    simp [this]
   ·refine .ite (fun hbt => .ret ?_) (fun hbf2 => ?_)
    ·rw [huni]; exact ⟨fun h => (by cases h), fun h => (h.np (hb.1 hbt).1 (hb.1 hbt).2).elim⟩
    ·have hnp : e.bar = false → ¬ n ≤ rd a q e.at_ := fun h1 h2 => by rw [hb.2 ⟨h1, h2⟩] at hbf2; cases hbf2
     have hT := i.thr n e he
     have hTN : e.thread.toNat < N := by omega
     have hTt : e.thread = ((e.thread.toNat : Nat) : Int) := by omega
     have hSl := i.len hTN
     have hown := i.own n e he
     have hcome : ix (a.rf N).come e.thread = some (a.S e.thread.toNat) := by
      show ix (tb N a.S) e.thread = _
      rw [hTt, ix_tb hTN, Int.toNat_natCast]
     rw [hcome]
     simp only [Option.bind_some]
     unfold ref16_Storage_May_l1
     refine loop_for (a.S e.thread.toNat) (fun m s => s = (m : Int) ∧ ∀ k ∈ (a.S e.thread.toNat).take m, k ≠ n ∧ (∀ e', ev a k e' → e'.bar = true → k ∈ a.S q) ∧ (e.bar = true → ∀ p, wr a k p → k ≤ rd a q p)) (fun m x s hm' hm hs => ?_) (fun s hs => ?_) ⟨rfl, by simp⟩
     ·obtain ⟨rfl, hs⟩ := hs
      unfold ref16_Storage_May_l1b
      rw [if_pos (by simp; omega), hcome]
      simp only [Option.bind_some]
      rw [ix_nat, hm]
      simp only [Option.bind_some]
      refine .ite (fun hxn => .map (.ret ?_)) (fun hxn => ?_)
      ·have hxn : x = n := of_decide_eq_true hxn
       rw [huni]
       have hpre := pre_at (a.S e.thread.toNat) n m (by rw [hm, hxn]) (fun y hy => (hs y hy).1)
       refine ⟨fun _ => ⟨hq, he, hnew, hnp, fun k hk => ?_, fun hb k hk => ?_⟩, fun _ => rfl⟩
       ·rw [hpre] at hk; exact (hs k hk).2.1
       ·rw [hpre] at hk; exact (hs k hk).2.2 hb
      have hxn : x ≠ n := of_decide_eq_false hxn
      have hxS := List.mem_of_getElem? hm
      have hxr := i.rng _ hTN x hxS
      have hxp : x ∈ pre (a.S e.thread.toNat) n := mem_pre_of _ n x m hm fun y hy => by
       rw [mem_take_succ hm'] at hy
       rcases hy with hy | hy
       ·exact (hs y hy).1
       ·rw [List.getElem?_eq_getElem hm'] at hm
        rw [hy, Option.some.inj hm]; exact hxn
      obtain ⟨e', he'⟩ := ev_of (a := a) hxr.1 hxr.2
      obtain ⟨k', hk1', hk2'⟩ := id he'
      show Ok ((ix a.E (w64 (x - 1))).bind _) _
      rw [w64_id (by omega) (by omega), show x - 1 = (k' : Int) from by omega, ix_nat, hk2']
      simp only [Option.bind_some]
      refine Ok.bind (P := fun b => b = true ↔ e'.bar = true ∧ x ∉ a.S q) (.ite (fun hbb => (RHas_in i hq x).bind fun b hb => .ret ?_) (fun hbb => .ret ?_)) fun b1 hb1 => ?_
      ·simp [hbb, ← hb]
      ·simp [hbb]
      ·refine Ok.bind (P := fun b => b = true ↔ (e'.bar = true ∧ x ∉ a.S q) ∨ (e'.bar = false ∧ e.bar = true ∧ ¬ x ≤ rd a q e'.at_)) (.ite (fun hbb => .ret ?_) (fun hbb => Ok.bind (P := fun b => b = true ↔ (e'.bar = false ∧ e.bar = true ∧ ¬ x ≤ rd a q e'.at_)) (.ite (fun hbb2 => (Rpassed_in i hq he').bind fun b hb => .ret ?_) (fun hbb2 => .ret ?_)) fun b hb => .ret ?_)) fun b2 hb2 => ?_
       ·exact ⟨fun _ => .inl (hb1.1 hbb), fun _ => rfl⟩
       ·simp at hbb2
        simp [hbb2.1, hbb2.2, ← hb]
       ·simp at hbb2
        constructor
        ·intro h; cases h
        ·rintro ⟨h1, h2, _⟩
         have := hbb2 h1
         rw [this] at h2; cases h2
       ·rw [hb]
        have : ¬ (e'.bar = true ∧ x ∉ a.S q) := fun h => by rw [hb1.2 h] at hbb; cases hbb
        exact ⟨.inr, fun h => h.resolve_left this⟩
       ·refine .ite (fun hbb => .map (.ret ?_)) (fun hbb => .ret ⟨w64_succ (by omega), fun y hy => ?_⟩)
        ·rw [huni]
         refine ⟨fun h => (by cases h), fun h => ?_⟩
         rcases hb2.1 hbb with ⟨h1, h2⟩ | ⟨h1, h2, h3⟩
         ·exact (h2 (h.bar x hxp e' he' h1)).elim
         ·exact (h3 (h.wrt h2 x hxp e'.at_ ⟨e', he', h1, rfl⟩)).elim
        ·rw [mem_take_succ hm'] at hy
         rcases hy with hy | hy
         ·exact hs y hy
         ·rw [List.getElem?_eq_getElem hm'] at hm
          have hyx : y = x := by rw [hy]; exact Option.some.inj hm
          subst hyx
          have hno : ¬ ((e'.bar = true ∧ y ∉ a.S q) ∨ (e'.bar = false ∧ e.bar = true ∧ ¬ y ≤ rd a q e'.at_)) := fun h => by rw [hb2.2 h] at hbb; cases hbb
          refine ⟨hxn, fun e2 he2 hb2' => ?_, fun hbe p hp => ?_⟩
          ·have := ev_inj he' he2
           subst this
           by_cases hin : y ∈ a.S q
           ·exact hin
           ·exact (hno (.inl ⟨hb2', hin⟩)).elim
          ·obtain ⟨e2, he2, hb3, hp3⟩ := hp
           have := ev_inj he' he2
           subst this
           by_cases hin : y ≤ rd a q e'.at_
           ·rw [← hp3]; exact hin
           ·exact (hno (.inr ⟨hb3, hbe, hin⟩)).elim
     ·obtain ⟨rfl, hs⟩ := hs
      rw [List.take_length] at hs
      exact ((hs n hown).1 rfl).elim
 ·have hc : ((((decide (t < 0)) || (decide ((a.rf N).n ≤ t))) || (decide (n < 1))) || (decide (((a.rf N).e.length : Int) < n))) = true := by
   show ((((decide (t < 0)) || (decide ((N : Int) ≤ t))) || (decide (n < 1))) || (decide ((a.E.length : Int) < n))) = true
   simp only [Bool.or_eq_true, decide_eq_true_eq]
   omega
  rw [hc]
  simp only [Option.bind_some, if_true]
  refine .ret ⟨fun h => (by cases h), ?_⟩
  rintro ⟨q, e, rfl, h⟩
  have := ev_rng h.he
  have := h.ht
  omega
theorem RAcked_is (i : Inv N a) (hN : N ≤ 8) (n : Int) : Ok (ref16_Storage_Acked (a.rf N) n) (fun b => b = true ↔ (∃ e, ev a n e ∧ e.bar = true) ∧ ∀ t, t < N → n ∈ a.S t) := by
 unfold ref16_Storage_Acked
 have hE := i.hE
 refine Ok.bind (P := fun b => b = false ↔ ∃ e, ev a n e ∧ e.bar = true) (.ite (fun hb => .ret ?_) (fun hb => ?_)) fun b hb => ?_
 ·constructor
  ·intro h; cases h
  ·rintro ⟨e, he, _⟩
   have := ev_rng he
   have h9 : n < 1 ∨ (a.E.length : Int) < n := by
    simp only [Bool.or_eq_true, decide_eq_true_eq] at hb
    exact hb
   omega
 ·have h9 : ¬ n < 1 ∧ ¬ (a.E.length : Int) < n := by
   simp only [Bool.or_eq_false_iff, decide_eq_false_iff_not] at hb
   exact hb
  obtain ⟨e, he⟩ := ev_of (a := a) (n := n) (by omega) (by omega)
  obtain ⟨k, hk1, hk2⟩ := id he
  show Ok ((ix a.E (w64 (n - 1))).bind _) _
  rw [w64_id (by omega) (by omega), show n - 1 = (k : Int) from by omega, ix_nat, hk2]
  simp only [Option.bind_some]
  refine .ret ?_
  constructor
  ·intro h; exact ⟨e, he, by simpa using h⟩
  ·rintro ⟨e', he', hb'⟩
   rw [ev_inj he he', hb']; rfl
 ·refine .ite (fun hbt => .ret ?_) (fun hbf => ?_)
  ·constructor
   ·intro h; cases h
   ·rintro ⟨h, _⟩
    rw [hb.2 h] at hbt; cases hbt
  ·unfold ref16_Storage_Acked_l1
   have hex := hb.1 hbf
   refine Ok.loop (fun k s => s = (k : Int) ∧ ∀ t, t < k → n ∈ a.S t) N (fun k s hk hs => ?_) (fun s hs => ?_) ⟨rfl, by simp⟩
   ·obtain ⟨rfl, hs⟩ := hs
    unfold ref16_Storage_Acked_l1b
    rw [if_pos (by show decide ((k : Int) < (N : Int)) = true; simp; omega)]
    refine (RHas_in i hk n).bind fun c hc => .ite (fun hcf => .map (.ret ?_)) (fun hct => .ret ⟨w64_succ (by omega), ?_⟩)
    ·constructor
     ·intro h; cases h
     ·rintro ⟨_, h⟩
      rw [hc.2 (h k hk)] at hcf; cases hcf
    ·intro t ht
     by_cases htk : t = k
     ·rw [htk]; exact hc.1 (by simpa using hct)
     ·exact hs t (by omega)
   ·obtain ⟨rfl, hs⟩ := hs
    unfold ref16_Storage_Acked_l1b
    rw [if_neg (by show ¬ decide ((N : Int) < (N : Int)) = true; simp)]
    exact .map (.ret ⟨fun _ => ⟨hex, hs⟩, fun _ => rfl⟩)
theorem RRead_in (i : Inv N a) {t : Nat} (ht : t < N) (p : Int) : Ok (ref16_Storage_Read (a.rf N) t p) (fun r => r.2 = rd a t p ∧ (rd a t p = 0 → r.1 = 0) ∧ ∀ e, ev a (rd a t p) e → r.1 = e.val) := by
 have hE := i.hE
 unfold ref16_Storage_Read ref16_Storage_Read_l1
 refine Ok.loop (B := fun s => ref16_Storage_Read_l1b (a.rf N) t p s.1 s.2) (fun k s => s.2 = ((k + 1 : Nat) : Int) ∧ (s.1 = 0 ∨ (s.1 ∈ a.S t ∧ wr a s.1 p)) ∧ ∀ m, m ∈ a.S t → wr a m p → m ≤ (k : Int) → m ≤ s.1) a.E.length (fun k s hk hs => ?_) (fun s hs => ?_) ⟨rfl, .inl rfl, fun m hm _ h => by have := (i.rng t ht m hm).1; simp at h; omega⟩
 ·obtain ⟨best, s2⟩ := s
  obtain ⟨h1, h2, h3⟩ := hs
  simp only at h1 h2 h3
  subst h1
  show Ok (ref16_Storage_Read_l1b (a.rf N) t p best ((k + 1 : Nat) : Int)) _
  unfold ref16_Storage_Read_l1b ref16_Storage_Read_k1
  rw [if_pos (by show decide (((k + 1 : Nat) : Int) ≤ (a.E.length : Int)) = true; simp; omega)]
  obtain ⟨e, he⟩ : ∃ e, ev a ((k + 1 : Nat) : Int) e := ⟨a.E[k], k, rfl, List.getElem?_eq_getElem hk⟩
  obtain ⟨k1, hk3, hk4⟩ := id he
  have hix : ix (a.rf N).e (w64 (((k + 1 : Nat) : Int) - 1)) = some e := by
   show ix a.E _ = _
   rw [w64_id (by omega) (by omega), show ((k + 1 : Nat) : Int) - 1 = (k1 : Int) from by omega, ix_nat, hk4]
  refine (RHas_in i ht _).bind fun b hb => ?_
  refine Ok.bind (P := fun y => y = true ↔ (((k + 1 : Nat) : Int) ∈ a.S t ∧ e.bar = false)) (.ite (fun hbt => ?_) (fun hbf => .ret ?_)) fun y hy => ?_
  ·rw [hix]
   simp only [Option.bind_some]
   refine .ret ?_
   have h8 := hb.1 hbt
   exact ⟨fun h => ⟨h8, by simpa using h⟩, fun h => by rw [h.2]; rfl⟩
  ·constructor
   ·intro h; cases h
   ·rintro ⟨h, _⟩
    rw [hb.2 h] at hbf; cases hbf
  refine Ok.bind (P := fun z => z = true ↔ (((k + 1 : Nat) : Int) ∈ a.S t ∧ wr a ((k + 1 : Nat) : Int) p)) (.ite (fun hbt => ?_) (fun hbf => .ret ?_)) fun z hz => ?_
  ·rw [hix]
   simp only [Option.bind_some]
   refine .ret ?_
   have h9 := hy.1 hbt
   rw [decide_eq_true_eq]
   constructor
   ·intro h; exact ⟨h9.1, e, he, h9.2, h⟩
   ·rintro ⟨_, e2, he2, _, h⟩
    rw [ev_inj he he2]; exact h
  ·constructor
   ·intro h; cases h
   ·rintro ⟨h4, e2, he2, h5, _⟩
    have := ev_inj he he2
    subst this
    rw [hy.2 ⟨h4, h5⟩] at hbf; cases hbf
  refine .ite (fun hzt => .ret ?_) (fun hzf => .ret ?_)
  ·have h9 := hz.1 hzt
   refine ⟨w64_succ (by omega), .inr h9, fun m hm hw hle => ?_⟩
   show m ≤ ((k + 1 : Nat) : Int)
   omega
  ·refine ⟨w64_succ (by omega), h2, fun m hm hw hle => ?_⟩
   by_cases hmk : m = ((k + 1 : Nat) : Int)
   ·rw [hmk] at hm hw
    rw [hz.2 ⟨hm, hw⟩] at hzf; cases hzf
   ·exact h3 m hm hw (by omega)
 ·obtain ⟨best, s2⟩ := s
  obtain ⟨h1, h2, h3⟩ := hs
  simp only at h1 h2 h3
  subst h1
  have hbest : best = rd a t p := by
   have hle : rd a t p ≤ best ∨ rd a t p = 0 := by
    rcases i.now1 t ht p with h | ⟨h4, h5⟩
    ·exact .inr h
    ·exact .inl (h3 _ h4 h5 (i.rng t ht _ h4).2)
   rcases h2 with h | ⟨h4, h5⟩
   ·have := (rd_rng i ht p).1
    omega
   ·have := i.now2 t ht _ h4 p h5
    have := (i.rng t ht _ h4).1
    omega
  show Ok (ref16_Storage_Read_l1b (a.rf N) t p best ((a.E.length + 1 : Nat) : Int)) _
  unfold ref16_Storage_Read_l1b
  rw [if_neg (by show ¬ decide (((a.E.length + 1 : Nat) : Int) ≤ (a.E.length : Int)) = true; simp; omega)]
  refine .map (.ite (fun hb => .ret ?_) (fun hb => ?_))
  ·have h0 : best = 0 := of_decide_eq_true hb
   refine ⟨?_, fun _ => rfl, fun e he => ?_⟩
   ·show (0 : Int) = _; omega
   ·have := ev_rng he; omega
  ·have h0 : best ≠ 0 := of_decide_eq_false hb
   have hr := rd_rng i ht p
   obtain ⟨e, k, hk1, hk2⟩ := ev_of (a := a) (n := best) (by omega) (by omega)
   show Ok ((ix a.E (w64 (best - 1))).bind _) _
   rw [w64_id (by omega) (by omega), show best - 1 = (k : Int) from by omega, ix_nat, hk2]
   simp only [Option.bind_some]
   refine .ret ⟨hbest, fun h => by omega, fun e' he' => ?_⟩
   rw [ev_inj he' ⟨k, by omega, hk2⟩]
theorem RRead_out (i : Inv N a) (t p : Int) (h : t < 0 ∨ (N : Int) ≤ t) : ref16_Storage_Read (a.rf N) t p = some (0, 0) := by
 have hE := i.hE
 unfold ref16_Storage_Read ref16_Storage_Read_l1
 refine (Ok.loop (B := fun s => ref16_Storage_Read_l1b (a.rf N) t p s.1 s.2) (P := fun r => r = (0, 0)) (fun k s => s = (0, ((k + 1 : Nat) : Int))) a.E.length (fun k s hk hs => ?_) (fun s hs => ?_) rfl).some_of
 ·subst hs
  show Ok (ref16_Storage_Read_l1b (a.rf N) t p 0 ((k + 1 : Nat) : Int)) _
  unfold ref16_Storage_Read_l1b ref16_Storage_Read_k1
  rw [if_pos (by show decide (((k + 1 : Nat) : Int) ≤ (a.E.length : Int)) = true; simp; omega), RHas_out t _ h]
  simp only [Option.bind_some, Bool.false_eq_true, if_false]
  refine .ret ?_
  show _ = _
  rw [w64_succ (by omega)]
 ·subst hs
  show Ok (ref16_Storage_Read_l1b (a.rf N) t p 0 ((a.E.length + 1 : Nat) : Int)) _
  unfold ref16_Storage_Read_l1b
  rw [if_neg (by show ¬ decide (((a.E.length + 1 : Nat) : Int) ≤ (a.E.length : Int)) = true; simp; omega)]
  exact .map (.ret rfl)
end
end Go.Vm.G16s
