/-
 The two memories side by side: order, all that is asked, settling.
-/
import Derived.Test.YthbllmihobbcgaaEPSE
set_option linter.unusedSimpArgs false
set_option linter.unusedVariables false
namespace Go.Vm.G16s
open Go Go.Proofs
def g4 (e : Ev) : Ev4 := (e.thread, e.bar, e.at_, e.val)
def fE (a : A) : Nat → Ev4 := fun j => (a.E.map g4)[j]?.getD ev0
def ol (a : A) (p : Int) (k : Nat) : List Int := ordW p (evUp (fE a) k)
section
variable {N : Nat} {a : A}
theorem ol_succ (hE : a.E.length ≤ 1000) (p : Int) {k : Nat} {e : Ev} (hk : a.E[k]? = some e) : ol a p (k + 1) = if e.bar = false ∧ e.at_ = p then ol a p k ++ [((k + 1 : Nat) : Int)] else ol a p k := by
 have hkl := (List.getElem?_eq_some_iff.1 hk).1
 have hf : fE a k = g4 e := by unfold fE; rw [List.getElem?_map, hk]; rfl
 unfold ol
 rw [evUp_succ, hf]
 have hw : RowKit.wrap64 ((k : Int) + 1) = ((k + 1 : Nat) : Int) := by unfold RowKit.wrap64; omega
 cases hb : e.bar with
 | true =>
  rw [ordW_bar _ (show ((k, g4 e) : Nat × Ev4).2.2.1 = true from hb), if_neg (by simp)]
 | false =>
  by_cases hp : e.at_ = p
  ·rw [ordW_hit _ (show ((k, g4 e) : Nat × Ev4).2.2.1 = false from hb) (show ((k, g4 e) : Nat × Ev4).2.2.2.1 = p from hp), if_pos ⟨rfl, hp⟩]
   show _ ++ [RowKit.wrap64 ((k : Int) + 1)] = _
   rw [hw]
  ·rw [ordW_miss _ (show ((k, g4 e) : Nat × Ev4).2.2.2.1 ≠ p from hp), if_neg (fun h => hp h.2)]
theorem ol_zero (p : Int) : ol a p 0 = [] := rfl
theorem ol_len (p : Int) (k : Nat) : (ol a p k).length ≤ k := by
 have := ordW_len p (evUp (fE a) k)
 rw [evUp_length] at this
 exact this
theorem ol_last (hE : a.E.length ≤ 1000) (p : Int) : ∀ k, k ≤ a.E.length → ((ol a p k).getLast?.getD 0 = 0 ∨ wr a ((ol a p k).getLast?.getD 0) p) ∧ ∀ m, wr a m p → m ≤ (k : Int) → m ≤ (ol a p k).getLast?.getD 0
 | 0, _ => ⟨.inl rfl, fun m hm h => by
   obtain ⟨e, he, _⟩ := hm
   have := ev_rng he
   simp at h; omega⟩
 | k + 1, hk => by
  have ih := ol_last hE p k (by omega)
  have hk' : k < a.E.length := hk
  have he : ev a ((k + 1 : Nat) : Int) a.E[k] := ⟨k, rfl, List.getElem?_eq_getElem hk'⟩
  rw [ol_succ hE p (List.getElem?_eq_getElem hk')]
  split
  ·rename_i h
   rw [List.getLast?_append, List.getLast?_singleton]
   exact ⟨.inr ⟨_, he, h⟩, fun m _ h => h⟩
  ·rename_i h
   refine ⟨ih.1, fun m hm hle => ?_⟩
   by_cases hmk : m = ((k + 1 : Nat) : Int)
   ·subst hmk
    obtain ⟨e2, he2, h2⟩ := hm
    have := ev_inj he he2
    subst this
    exact (h h2).elim
   ·exact ih.2 m hm (by omega)
theorem ls_is (i : Inv N a) (p : Int) : ls a p = (ol a p a.E.length).getLast?.getD 0 := by
 obtain ⟨h1, h2⟩ := ol_last i.hE p a.E.length (Nat.le_refl _)
 have h0 : ∀ m, wr a m p → 1 ≤ m ∧ m ≤ (a.E.length : Int) := fun m hm => by
  obtain ⟨e, he, _⟩ := hm
  exact ev_rng he
 rcases i.last1 p with h3 | h3
 ·rcases h1 with h4 | h4
  ·rw [h3, h4]
  ·have := i.last2 _ p h4
   have := h0 _ h4
   omega
 ·have h5 := h2 _ h3 (h0 _ h3).2
  rcases h1 with h4 | h4
  ·have := h0 _ h3; omega
  ·have := i.last2 _ p h4; omega
theorem Events_is (i : Inv N a) : storage_Storage_Events (a.st N) = some a.E := by
 have hE := i.hE
 unfold storage_Storage_Events slices_Clone
 show ((ap [] a.E).bind _).bind _ = _
 rw [ap_some (by simp; omega)]
 rfl
theorem Order_is (i : Inv N a) (p : Int) : storage_Storage_Order (a.st N) p = some (ol a p a.E.length) := by
 have hE := i.hE
 unfold storage_Storage_Order
 rw [Events_is i]
 simp only [Option.bind_some]
 unfold orderO
 rw [if_pos (by rw [List.length_map]; omega)]
 unfold ordL
 rw [List.length_map]
 rfl
theorem ROrder_is (i : Inv N a) (p : Int) : ref16_Storage_Order (a.rf N) p = some (ol a p a.E.length) := by
 have hE := i.hE
 unfold ref16_Storage_Order ref16_Storage_Order_l1
 refine (loop_for (B := fun s => ref16_Storage_Order_l1b (a.rf N) p s.1 s.2) (P := fun r => r = ol a p a.E.length) a.E (fun k s => s = (ol a p k, (k : Int))) (fun k e s hk' hk hs => ?_) (fun s hs => ?_) rfl).some_of
 ·subst hs
  show Ok (ref16_Storage_Order_l1b (a.rf N) p (ol a p k) k) _
  unfold ref16_Storage_Order_l1b ref16_Storage_Order_k1
  rw [if_pos (by show decide ((k : Int) < (a.E.length : Int)) = true; simp; omega)]
  show Ok ((ix a.E k).bind _) _
  rw [ix_nat, hk]
  simp only [Option.bind_some]
  have hs := ol_succ hE p hk
  have hl := ol_len (a := a) p k
  refine .ite (fun hb => ?_) (fun hb => .ret ?_)
  ·simp only [Bool.and_eq_true, Bool.not_eq_true', decide_eq_true_eq] at hb
   rw [ap_some (by simp; omega)]
   simp only [Option.bind_some]
   refine .ret ?_
   rw [if_pos hb] at hs
   show _ = _
   rw [w64_succ (by omega), hs]
  ·have hno : ¬ (e.bar = false ∧ e.at_ = p) := fun h => by simp [h.1, h.2] at hb
   rw [if_neg hno] at hs
   show _ = _
   rw [w64_succ (by omega), hs]
 ·subst hs
  show Ok (ref16_Storage_Order_l1b (a.rf N) p (ol a p a.E.length) a.E.length) _
  unfold ref16_Storage_Order_l1b
  rw [if_neg (by show ¬ decide ((a.E.length : Int) < (a.E.length : Int)) = true; simp)]
  exact .map (.ret rfl)
theorem reads_eq (i : Inv N a) (t p : Int) : ∃ r, storage_Storage_Read (a.st N) t p = some r ∧ ref16_Storage_Read (a.rf N) t p = some r := by
 by_cases h : 0 ≤ t ∧ t < N
 ·obtain ⟨q, rfl⟩ := Int.eq_ofNat_of_zero_le h.1
  have hq : q < N := by omega
  obtain ⟨r, h1, h2, h3, h4⟩ := Read_in i hq p
  obtain ⟨r', k1, k2, k3, k4⟩ := RRead_in i hq p
  refine ⟨r, h1, k1.trans ?_⟩
  have e2 : r'.2 = r.2 := k2.trans h2.symm
  have e1 : r'.1 = r.1 := by
   by_cases h0 : rd a q p = 0
   ·rw [h3 h0, k3 h0]
   ·have := rd_rng i hq p
    obtain ⟨e, he⟩ := ev_of (a := a) (n := rd a q p) (by omega) this.2
    rw [h4 e he, k4 e he]
  rw [Prod.ext e1 e2]
 ·exact ⟨_, Read_out t p (by omega), RRead_out i t p (by omega)⟩
theorem bool_eq {b c : Bool} {C : Prop} (h : b = true ↔ C) (h' : c = true ↔ C) : b = c := by
 cases b <;> cases c <;> simp_all
theorem mays_eq (i : Inv N a) (t n : Int) : ∃ b, storage_Storage_May (a.st N) t n = some b ∧ ref16_Storage_May (a.rf N) t n = some b := by
 obtain ⟨b, h1, h2⟩ := May_in i t n
 obtain ⟨c, k1, k2⟩ := RMay_in i t n
 exact ⟨b, h1, by rw [k1, bool_eq k2 h2]⟩
theorem seens_eq (i : Inv N a) (t n : Int) : ∃ b, storage_Storage_Seen (a.st N) t n = some b ∧ ref16_Storage_Has (a.rf N) t n = some b := by
 by_cases h : 0 ≤ t ∧ t < N
 ·obtain ⟨q, rfl⟩ := Int.eq_ofNat_of_zero_le h.1
  have hq : q < N := by omega
  obtain ⟨b, h1, h2⟩ := Seen_in i hq n
  obtain ⟨c, k1, k2⟩ := RHas_in i hq n
  exact ⟨b, h1, by rw [k1, bool_eq k2 h2]⟩
 ·exact ⟨_, Seen_out t n (by omega), RHas_out t n (by omega)⟩
theorem acks_eq (i : Inv N a) (hN : N ≤ 8) (n : Int) : ∃ b, storage_Storage_Acked (a.st N) n = some b ∧ ref16_Storage_Acked (a.rf N) n = some b := by
 obtain ⟨b, h1, h2⟩ := Acked_is i hN n
 obtain ⟨c, k1, k2⟩ := RAcked_is i hN n
 exact ⟨b, h1, by rw [k1, bool_eq k2 h2]⟩
theorem l5_is (i : Inv N a) (c : Ca) : law16_same_l5 (a.st N) c (ol a c.at_ a.E.length) (ol a c.at_ a.E.length) 0 0 = some true := by
 have hE := i.hE
 have hl := ol_len (a := a) c.at_ a.E.length
 unfold law16_same_l5
 generalize hL : ol a c.at_ a.E.length = L at *
 refine (loop_for (B := fun s => law16_same_l5b (a.st N) c L L s.1 s.2) (P := fun r => r = true) L (fun k s => s = ((L.take k).getLast?.getD 0, (k : Int))) (fun k x s hk' hk hs => ?_) (fun s hs => ?_) rfl).some_of
 ·subst hs
  show Ok (law16_same_l5b (a.st N) c L L _ k) _
  unfold law16_same_l5b
  rw [if_pos (by simp; omega), ix_nat, hk]
  simp only [Option.bind_some]
  rw [if_neg (by simp)]
  refine .ret ?_
  show _ = _
  rw [w64_succ (by omega), List.take_add_one, hk, Option.toList_some, List.getLast?_append, List.getLast?_singleton]
  rfl
 ·subst hs
  show Ok (law16_same_l5b (a.st N) c L L _ L.length) _
  unfold law16_same_l5b
  rw [if_neg (by simp)]
  show Ok ((((some (ls a c.at_)).bind _)).map _) _
  simp only [Option.bind_some]
  refine .map (.ret ?_)
  rw [List.take_length, ls_is i, hL]
  simp
theorem l4_is (i : Inv N a) (hN : N ≤ 8) (c : Ca) : law16_same_l4 (a.st N) (a.rf N) c (-1) = some true := by
 unfold law16_same_l4
 refine (Ok.loop (B := fun s => law16_same_l4b (a.st N) (a.rf N) c s) (P := fun r => r = true) (fun k s => s = (k : Int) - 1) (N + 2) (fun k s hk hs => ?_) (fun s hs => ?_) (by simp)).some_of
 ·subst hs
  unfold law16_same_l4b
  rw [if_pos (by show decide ((k : Int) - 1 ≤ (N : Int)) = true; simp; omega)]
  obtain ⟨r, h1, h2⟩ := reads_eq i ((k : Int) - 1) c.at_
  rw [h1, h2]
  simp only [Option.bind_some]
  rw [if_neg (by simp)]
  refine .ret ?_
  show _ = _
  rw [w64_id (by omega) (by omega)]
  omega
 ·subst hs
  unfold law16_same_l4b
  rw [if_neg (by show ¬ decide (((N + 2 : Nat) : Int) - 1 ≤ (N : Int)) = true; simp; omega), Order_is i, ROrder_is i]
  simp only [Option.bind_some]
  rw [if_neg (by simp), l5_is i]
  exact .map (.ret rfl)
theorem l3_is (i : Inv N a) (hN : N ≤ 8) (n : Int) : law16_same_l3 (a.st N) (a.rf N) n (-1) = some (Sum.inl (w64 (n + 1))) := by
 unfold law16_same_l3
 refine (Ok.loop (B := fun s => law16_same_l3b (a.st N) (a.rf N) n s) (P := fun r => r = Sum.inl (w64 (n + 1))) (fun k s => s = (k : Int) - 1) (N + 2) (fun k s hk hs => ?_) (fun s hs => ?_) (by simp)).some_of
 ·subst hs
  unfold law16_same_l3b
  rw [if_pos (by show decide ((k : Int) - 1 ≤ (N : Int)) = true; simp; omega)]
  obtain ⟨b, h1, h2⟩ := seens_eq i ((k : Int) - 1) n
  obtain ⟨m, h3, h4⟩ := mays_eq i ((k : Int) - 1) n
  rw [h1, h2]
  simp only [Option.bind_some]
  rw [if_neg (by simp), h3, h4]
  simp only [Option.bind_some]
  rw [if_neg (by simp)]
  refine .ret ?_
  show _ = _
  rw [w64_id (by omega) (by omega)]
  omega
 ·subst hs
  unfold law16_same_l3b
  rw [if_neg (by show ¬ decide (((N + 2 : Nat) : Int) - 1 ≤ (N : Int)) = true; simp; omega)]
  obtain ⟨b, h1, h2⟩ := acks_eq i hN n
  rw [h1, h2]
  simp only [Option.bind_some]
  rw [if_neg (by simp)]
  exact .map (.ret rfl)
theorem same_is (i : Inv N a) (hN : N ≤ 8) (c : Ca) : law16_same (a.st N) (a.rf N) c = some true := by
 have hE := i.hE
 have l2 : law16_same_l2 (a.st N) (a.rf N) c a.E 0 = some true := by
  unfold law16_same_l2
  refine (Ok.loop (B := fun s => law16_same_l2b (a.st N) (a.rf N) c a.E s) (P := fun r => r = true) (fun k s => s = (k : Int)) (a.E.length + 2) (fun k s hk hs => ?_) (fun s hs => ?_) rfl).some_of
  ·subst hs
   unfold law16_same_l2b
   rw [w64_succ (by omega), if_pos (by simp; omega), l3_is i hN]
   refine .ret ?_
   exact w64_succ (by omega)
  ·subst hs
   unfold law16_same_l2b
   rw [w64_succ (by omega), if_neg (by simp), l4_is i hN]
   exact .map (.ret rfl)
 have l1 : law16_same_l1 (a.st N) (a.rf N) c a.E 0 = some true := by
  unfold law16_same_l1
  refine (loop_for (B := fun s => law16_same_l1b (a.st N) (a.rf N) c a.E s) (P := fun r => r = true) a.E (fun k s => s = (k : Int)) (fun k e s hk' hk hs => ?_) (fun s hs => ?_) rfl).some_of
  ·subst hs
   unfold law16_same_l1b
   rw [if_pos (by simp; omega)]
   show Ok ((ix a.E k).bind fun x70 => (ix a.E k).bind _) _
   rw [ix_nat, hk]
   simp only [Option.bind_some]
   rw [if_neg (by simp)]
   exact .ret (w64_succ (by omega))
  ·subst hs
   unfold law16_same_l1b
   rw [if_neg (by simp), l2]
   exact .map (.ret rfl)
 unfold law16_same
 rw [Events_is i]
 unfold storage_Storage_Threads law16_same_k1
 simp only [Option.bind_some]
 rw [if_neg (by show ¬ decide (((tb N a.S).length : Int) ≠ (N : Int)) = true; simp), show decide ((a.E.length : Int) ≠ ((a.rf N).e.length : Int)) = false from by show decide ((a.E.length : Int) ≠ (a.E.length : Int)) = false; simp, if_neg (by decide)]
 exact l1
end
open Classical in
noncomputable def sg (N : Nat) (a : A) (t : Nat) (n : Int) : A := if ∃ e, May N a t n e then cm a t n else a
noncomputable def rw_ (N : Nat) (a : A) (t : Nat) (k : Nat) : A := (List.range k).foldl (fun c j => sg N c t ((j + 1 : Nat) : Int)) a
noncomputable def stl (N : Nat) (a : A) (T : Nat) : A := (List.range T).foldl (fun c t => rw_ N c t a.E.length) a
section
variable {N : Nat} {a : A}
theorem sg_ok (i : Inv N a) (t : Nat) (n : Int) : Inv N (sg N a t n) ∧ (sg N a t n).E = a.E := by
 unfold sg
 split
 ·rename_i h
  obtain ⟨e, h⟩ := h
  exact ⟨i.come h, rfl⟩
 ·exact ⟨i, rfl⟩
theorem rw_succ (t k : Nat) : rw_ N a t (k + 1) = sg N (rw_ N a t k) t ((k + 1 : Nat) : Int) := by
 unfold rw_
 rw [List.range_succ, List.foldl_append]
 rfl
theorem rw_ok (i : Inv N a) (t : Nat) : ∀ k, Inv N (rw_ N a t k) ∧ (rw_ N a t k).E = a.E
 | 0 => ⟨i, rfl⟩
 | k + 1 => by
  have ih := rw_ok i t k
  have h := sg_ok ih.1 t ((k + 1 : Nat) : Int)
  rw [rw_succ]
  exact ⟨h.1, h.2.trans ih.2⟩
theorem stl_succ (T : Nat) : stl N a (T + 1) = rw_ N (stl N a T) T a.E.length := by
 unfold stl
 rw [List.range_succ, List.foldl_append]
 rfl
theorem stl_ok (i : Inv N a) : ∀ T, Inv N (stl N a T) ∧ (stl N a T).E = a.E
 | 0 => ⟨i, rfl⟩
 | T + 1 => by
  have ih := stl_ok i T
  have h := rw_ok ih.1 T a.E.length
  rw [stl_succ]
  exact ⟨h.1, h.2.trans ih.2⟩
theorem may_one {t : Nat} {n : Int} : (∃ (q : Nat) (e : Ev), (t : Int) = (q : Int) ∧ May N a q n e) ↔ ∃ e, May N a t n e := by
 constructor
 ·rintro ⟨q, e, h, m⟩
  have : t = q := by omega
  subst this
  exact ⟨e, m⟩
 ·rintro ⟨e, m⟩
  exact ⟨t, e, rfl, m⟩
theorem Settle_eq (i : Inv N a) (hN : N ≤ 8) : storage_Storage_Settle (a.st N) = some ((stl N a N).st N) := by
 have hE := i.hE
 unfold storage_Storage_Settle storage_Storage_Threads
 simp only [Option.bind_some]
 show storage_Storage_Settle_l1 ((tb N a.S).length : Int) a.E (tb N a.S) (tb N a.H) (tb N a.W) a.L 0 = _
 rw [tb_len]
 unfold storage_Storage_Settle_l1
 refine (Ok.loop (B := fun s => storage_Storage_Settle_l1b N s.1 s.2.1 s.2.2.1 s.2.2.2.1 s.2.2.2.2.1 s.2.2.2.2.2) (P := fun r => r = (stl N a N).st N) (fun t s => s = ((stl N a t).E, tb N (stl N a t).S, tb N (stl N a t).H, tb N (stl N a t).W, (stl N a t).L, (t : Int))) N (fun t s ht hs => ?_) (fun s hs => ?_) rfl).some_of
 ·subst hs
  obtain ⟨ib, hbE⟩ := stl_ok i t
  have hsu := stl_succ (N := N) (a := a) t
  generalize stl N a t = b at *
  show Ok (storage_Storage_Settle_l1b N b.E (tb N b.S) (tb N b.H) (tb N b.W) b.L t) _
  unfold storage_Storage_Settle_l1b
  rw [if_pos (by simp; omega)]
  unfold storage_Storage_Settle_l2
  refine Ok.loop (B := fun s => storage_Storage_Settle_l2b b.E t s.1 s.2.1 s.2.2.1 s.2.2.2.1 s.2.2.2.2.1 s.2.2.2.2.2) (fun k s => s = ((rw_ N b t k).E, tb N (rw_ N b t k).S, tb N (rw_ N b t k).H, tb N (rw_ N b t k).W, (rw_ N b t k).L, (k : Int))) b.E.length (fun k s hk hs => ?_) (fun s hs => ?_) rfl
  ·subst hs
   obtain ⟨ic, hcE⟩ := rw_ok ib t k
   have hsu2 := rw_succ (N := N) (a := b) t k
   generalize rw_ N b t k = c at *
   show Ok (storage_Storage_Settle_l2b b.E t c.E (tb N c.S) (tb N c.H) (tb N c.W) c.L k) _
   unfold storage_Storage_Settle_l2b storage_Storage_Settle_k1
   rw [if_pos (by simp; omega), w64_succ (by rw [hbE] at hk; omega)]
   show Ok ((storage_Storage_May (c.st N) t ((k + 1 : Nat) : Int)).bind _) _
   refine (May_in ic t ((k + 1 : Nat) : Int)).bind fun m hm => ?_
   rw [may_one] at hm
   refine .ite (fun hmt => ?_) (fun hmf => ?_)
   ·show Ok ((storage_Storage_Go (c.st N) t ((k + 1 : Nat) : Int)).bind _) _
    refine (Go_is ic t ((k + 1 : Nat) : Int)).bind fun r hr => ?_
    rcases hr with ⟨_, q, e2, hq, hm2, hst⟩ | ⟨_, _, hno⟩
    ·have hqt : t = q := by omega
     subst hqt
     rw [hst]
     have : sg N c t ((k + 1 : Nat) : Int) = cm c t ((k + 1 : Nat) : Int) := by unfold sg; rw [if_pos ⟨e2, hm2⟩]
     rw [this] at hsu2
     refine .ret ?_
     show _ = _
     rw [hsu2]
     rfl
    ·exact (hno (may_one.2 (hm.1 hmt))).elim
   ·have : sg N c t ((k + 1 : Nat) : Int) = c := by
     unfold sg
     rw [if_neg (fun h => by rw [hm.2 h] at hmf; cases hmf)]
    rw [this] at hsu2
    refine .ret ?_
    show _ = _
    rw [hsu2]
  ·subst hs
   rw [← hbE] at hsu
   generalize rw_ N b t b.E.length = c at *
   show Ok (storage_Storage_Settle_l2b b.E t c.E (tb N c.S) (tb N c.H) (tb N c.W) c.L _) _
   unfold storage_Storage_Settle_l2b
   rw [if_neg (by simp)]
   refine .map (.ret ?_)
   show _ = _
   rw [w64_succ (by omega), hsu]
 ·subst hs
  generalize stl N a N = b
  show Ok (storage_Storage_Settle_l1b N b.E (tb N b.S) (tb N b.H) (tb N b.W) b.L N) _
  unfold storage_Storage_Settle_l1b
  rw [if_neg (by simp)]
  exact .map (.ret rfl)
theorem Rl3_is (i : Inv N a) (hN : N ≤ 8) {t : Nat} (ht : t < N) : law16_StorageDoes_l3 N a.E t (tb N a.S) 1 = some (Sum.inl (tb N (rw_ N a t a.E.length).S, w64 ((t : Int) + 1))) := by
 have hE := i.hE
 unfold law16_StorageDoes_l3
 refine (Ok.loop (B := fun s => law16_StorageDoes_l3b N a.E t s.1 s.2) (P := fun r => r = Sum.inl (tb N (rw_ N a t a.E.length).S, w64 ((t : Int) + 1))) (fun k s => s = (tb N (rw_ N a t k).S, ((k + 1 : Nat) : Int))) a.E.length (fun k s hk hs => ?_) (fun s hs => ?_) rfl).some_of
 ·subst hs
  obtain ⟨ic, hcE⟩ := rw_ok i t k
  have hsu2 := rw_succ (N := N) (a := a) t k
  generalize rw_ N a t k = c at *
  show Ok (law16_StorageDoes_l3b N a.E t (tb N c.S) ((k + 1 : Nat) : Int)) _
  unfold law16_StorageDoes_l3b law16_StorageDoes_k2
  rw [if_pos (by simp; omega), ← hcE]
  show Ok ((ref16_Storage_May (c.rf N) t ((k + 1 : Nat) : Int)).bind _) _
  refine (RMay_in ic t ((k + 1 : Nat) : Int)).bind fun m hm => ?_
  rw [may_one] at hm
  have hl := ic.len ht
  have hcE2 := ic.hE
  refine .ite (fun hmt => ?_) (fun hmf => ?_)
  ·rw [ix_tb ht]
   simp only [Option.bind_some]
   rw [ap_some (by simp; omega)]
   simp only [Option.bind_some]
   have : sg N c t ((k + 1 : Nat) : Int) = cm c t ((k + 1 : Nat) : Int) := by unfold sg; rw [if_pos (hm.1 hmt)]
   rw [this] at hsu2
   refine .ret ?_
   show _ = _
   rw [hsu2, w64_succ (by omega), Int.toNat_natCast, tb_set]
   rfl
  ·have : sg N c t ((k + 1 : Nat) : Int) = c := by
    unfold sg
    rw [if_neg (fun h => by rw [hm.2 h] at hmf; cases hmf)]
   rw [this] at hsu2
   refine .ret ?_
   show _ = _
   rw [hsu2, w64_succ (by omega)]
 ·subst hs
  show Ok (law16_StorageDoes_l3b N a.E t (tb N (rw_ N a t a.E.length).S) ((a.E.length + 1 : Nat) : Int)) _
  unfold law16_StorageDoes_l3b
  rw [if_neg (by simp; omega)]
  exact .map (.ret rfl)
end
end Go.Vm.G16s
