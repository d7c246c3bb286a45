/-
  Behind Settle nothing may come any more.
-/
import Derived.Test.YthbllmihobbcgaaEP16s
set_option linter.unusedSimpArgs false
set_option linter.unusedVariables false
namespace Go.Vm.G16
open Go

/-- All events up to m have come to t, or are passed. -/
def Done (a : A) (t : Nat) (m : Int) : Prop := ∀ n e, ev a n e → n ≤ m → (e.bar = true → n ∈ a.S t) ∧ (e.bar = false → n ≤ rd a t e.at_)
theorem done_may {N : Nat} {a : A} (i : Inv N a) {t : Nat} (ht : t < N) {n : Int} {e : Ev} (he : ev a n e) (hd : Done a t (n - 1)) (hm : ¬ May N a t n e) : (e.bar = true → n ∈ a.S t) ∧ (e.bar = false → n ≤ rd a t e.at_) := by
  by_cases h : (e.bar = true → n ∈ a.S t) ∧ (e.bar = false → n ≤ rd a t e.at_)
  · exact h
  · refine (hm ⟨ht, he, fun hin => ?_, fun hb hle => ?_, fun k hk e' he' hb => ?_, fun hb k hk p hp => ?_⟩).elim
    · exact h ⟨fun _ => hin, fun hb => i.now2 t ht n hin e.at_ ⟨e, he, hb, rfl⟩⟩
    · exact h ⟨fun hb' => (by rw [hb] at hb'; cases hb'), fun _ => hle⟩
    · have := i.ord n e he k hk
      exact (hd k e' he' (by omega)).1 hb
    · have := i.ord n e he k hk
      obtain ⟨e', he', hb', hp'⟩ := hp
      have h2 := (hd k e' he' (by omega)).2 hb'
      rw [hp'] at h2
      exact h2
theorem Settle_is {N : Nat} {a : A} (i : Inv N a) (hN : N ≤ 8) : Ok (storage_Storage_Settle (a.st N)) (fun s => ∃ b : A, s = b.st N ∧ Inv N b ∧ b.E = a.E ∧ ∀ t, t < N → Done b t a.E.length) := by
  have hE := i.hE
  unfold storage_Storage_Settle storage_Storage_Threads
  simp only [Option.bind_some]
  show Ok (storage_Storage_Settle_l1 ((tb N a.S).length : Int) a.E (tb N a.S) (tb N a.H) (tb N a.W) a.L 0) _
  rw [tb_len]
  unfold storage_Storage_Settle_l1
  refine Ok.loop (B := fun s => storage_Storage_Settle_l1b N s.1 s.2.1 s.2.2.1 s.2.2.2.1 s.2.2.2.2.1 s.2.2.2.2.2) (fun t s => ∃ b : A, s = (b.E, tb N b.S, tb N b.H, tb N b.W, b.L, (t : Int)) ∧ Inv N b ∧ b.E = a.E ∧ ∀ j, j < t → Done b j a.E.length) N (fun t s ht hs => ?_) (fun s hs => ?_) ⟨a, rfl, i, rfl, fun j hj => by omega⟩
  · obtain ⟨b, rfl, ib, hbE, hbd⟩ := hs
    show Ok (storage_Storage_Settle_l1b N b.E (tb N b.S) (tb N b.H) (tb N b.W) b.L t) _
    unfold storage_Storage_Settle_l1b
    rw [if_pos (by simp; omega)]
    unfold storage_Storage_Settle_l2
    refine Ok.loop (B := fun s => storage_Storage_Settle_l2b b.E t s.1 s.2.1 s.2.2.1 s.2.2.2.1 s.2.2.2.2.1 s.2.2.2.2.2) (fun k s => ∃ c : A, s = (c.E, tb N c.S, tb N c.H, tb N c.W, c.L, (k : Int)) ∧ Inv N c ∧ c.E = a.E ∧ (∀ j, j < t → Done c j a.E.length) ∧ Done c t k) b.E.length (fun k s hk hs => ?_) (fun s hs => ?_) ⟨b, rfl, ib, hbE, hbd, fun n e he hn => by have := ev_rng he; omega⟩
    · obtain ⟨c, rfl, ic, hcE, hcd, hck⟩ := hs
      show Ok (storage_Storage_Settle_l2b b.E t c.E (tb N c.S) (tb N c.H) (tb N c.W) c.L k) _
      unfold storage_Storage_Settle_l2b storage_Storage_Settle_k1
      rw [if_pos (by simp; omega), w64_succ (by rw [hbE] at hk; omega)]
      have hkE : k < c.E.length := by rw [hcE, ← hbE]; exact hk
      obtain ⟨e, he⟩ : ∃ e, ev c ((k + 1 : Nat) : Int) e := ⟨c.E[k], k, rfl, List.getElem?_eq_getElem hkE⟩
      show Ok ((storage_Storage_May (c.st N) t ((k + 1 : Nat) : Int)).bind _) _
      refine (May_in ic t ((k + 1 : Nat) : Int)).bind fun m hm => ?_
      have ext : ∀ d : A, d.E = c.E → (∀ n e, ev c n e → n ≤ (k : Int) → (e.bar = true → n ∈ d.S t) ∧ (e.bar = false → n ≤ rd d t e.at_)) → ((e.bar = true → ((k + 1 : Nat) : Int) ∈ d.S t) ∧ (e.bar = false → ((k + 1 : Nat) : Int) ≤ rd d t e.at_)) → Done d t ((k + 1 : Nat) : Int) := by
        intro d hd h1 h2 n e' he' hn
        have he'' : ev c n e' := by unfold ev at he' ⊢; rw [hd] at he'; exact he'
        by_cases hnk : n ≤ (k : Int)
        · exact h1 n e' he'' hnk
        · have : n = ((k + 1 : Nat) : Int) := by omega
          subst this
          rw [ev_inj he'' he]; exact h2
      refine .ite (fun hmt => ?_) (fun hmf => ?_)
      · show Ok ((storage_Storage_Go (c.st N) t ((k + 1 : Nat) : Int)).bind _) _
        refine (Go_is ic t ((k + 1 : Nat) : Int)).bind fun r hr => ?_
        rcases hr with ⟨_, q, e2, hq, hm2, hst⟩ | ⟨_, _, hno⟩
        · have hqt : q = t := by omega
          subst hqt
          have := ev_inj he hm2.he
          subst this
          rw [hst]
          refine .ret ⟨cm c q ((k + 1 : Nat) : Int), ?_, ic.come hm2, hcE, fun j hj n e' he' hn => ?_, ?_⟩
          · rfl
          · have h1 := hcd j hj n e' he' hn
            refine ⟨fun hb => ?_, fun hb => ?_⟩
            · show n ∈ up c.S q _ j
              rw [up_ne (by omega)]; exact h1.1 hb
            · rw [rd_cm he, if_neg (by omega)]; exact h1.2 hb
          · refine ext _ rfl (fun n e' he' hn => ?_) ⟨fun hb => ?_, fun hb => ?_⟩
            · have h1 := hck n e' he' hn
              refine ⟨fun hb => ?_, fun hb => ?_⟩
              · show n ∈ up c.S q _ q
                rw [up_self]; exact List.mem_append_left _ (h1.1 hb)
              · rw [rd_cm he]
                have := h1.2 hb
                split
                · omega
                · exact this
            · show _ ∈ up c.S q _ q
              rw [up_self]; simp
            · rw [rd_cm he, if_pos ⟨rfl, hb, rfl⟩]; exact Int.le_refl _
        · exact (hno (hm.1 hmt)).elim
      · refine .ret ⟨c, ?_, ic, hcE, hcd, ext c rfl hck ?_⟩
        · rfl
        · refine done_may ic ht he ?_ (fun h => ?_)
          · have : (((k + 1 : Nat) : Int) - 1) = (k : Int) := by omega
            rw [this]; exact hck
          · rw [hm.2 ⟨t, e, rfl, h⟩] at hmf; cases hmf
    · obtain ⟨c, rfl, ic, hcE, hcd, hck⟩ := hs
      show Ok (storage_Storage_Settle_l2b b.E t c.E (tb N c.S) (tb N c.H) (tb N c.W) c.L _) _
      unfold storage_Storage_Settle_l2b
      rw [if_neg (by simp)]
      refine .map (.ret ⟨c, ?_, ic, hcE, fun j hj => ?_⟩)
      · show _ = _
        rw [w64_succ (by omega)]
      · by_cases hjt : j = t
        · subst hjt; rw [hbE] at hck; exact hck
        · exact hcd j (by omega)
  · obtain ⟨b, rfl, ib, hbE, hbd⟩ := hs
    show Ok (storage_Storage_Settle_l1b N b.E (tb N b.S) (tb N b.H) (tb N b.W) b.L N) _
    unfold storage_Storage_Settle_l1b
    rw [if_neg (by simp)]
    exact .map (.ret ⟨b, rfl, ib, hbE, hbd⟩)
theorem law16_StorageSettles_law (p : Int) (cs : List Ca) (o0 : InR .i64 p) (o : OKs OK_Tlaw16_Call cs) : law16_StorageSettles p cs = some true := by
  unfold law16_StorageSettles
  rw [alive_is]
  simp only [Option.bind_some, Bool.not_true, Bool.false_eq_true, if_false]
  refine Ok.some_of ?_
  refine .ite (fun _ => .ret rfl) (fun hc => ?_)
  have hl : cs.length ≤ 40 := by simp at hc; omega
  rw [made_is p cs (by omega)]
  simp only [Option.bind_some]
  have hN := nN_le p
  have hr := run_ok (N := nN p) cs (by omega)
  generalize cs.foldl (stp (nN p)) a0 = a at *
  obtain ⟨i, hE⟩ := hr
  generalize nN p = N at *
  refine (Settle_is i hN).bind fun s hs => ?_
  obtain ⟨b, rfl, ib, hbE, hbd⟩ := hs
  rw [← hbE] at hbd hE
  unfold storage_Storage_Events slices_Clone
  show Ok ((((ap [] b.E).bind _).bind _).bind _) _
  rw [ap_some (by simp; omega)]
  simp only [Option.bind_some, List.nil_append]
  unfold law16_StorageSettles_l1
  refine loop_for b.E (fun k s => s = (k : Int)) (fun k e s hk' hk hs => ?_) (fun s hs => ?_) rfl
  · subst hs
    unfold law16_StorageSettles_l1b
    rw [if_pos (by simp; omega), ix_nat, hk]
    simp only [Option.bind_some]
    rw [w64_succ (by omega)]
    have he : ev b ((k + 1 : Nat) : Int) e := ⟨k, rfl, hk⟩
    refine Ok.bind (P := fun y => y = false) (.ite (fun hb => (Acked_is ib hN _).bind fun c hc => .ret ?_) (fun hb => .ret rfl)) fun y hy => ?_
    · have : c = true := hc.2 ⟨⟨e, he, hb⟩, fun t ht => (hbd t ht _ e he (by omega)).1 hb⟩
      rw [this]; rfl
    · rw [hy, if_neg (by decide)]
      unfold law16_StorageSettles_l2
      refine Ok.loop (fun t s => s = (t : Int)) N (fun t s ht hs => ?_) (fun s hs => ?_) rfl
      · subst hs
        unfold law16_StorageSettles_l2b storage_Storage_Threads
        simp only [Option.bind_some]
        rw [if_pos (by show decide ((t : Int) < ((tb N b.S).length : Int)) = true; simp; omega)]
        refine (Read_in ib ht e.at_).bind fun r hr => ?_
        rw [w64_succ (by omega)]
        refine (May_in ib t _).bind fun m hm => ?_
        have hd := hbd t ht _ e he (by omega)
        have hmf : m = false := by
          cases m with
          | false => rfl
          | true =>
            obtain ⟨q, e', hq, h⟩ := hm.1 rfl
            have : t = q := by omega
            subst this
            have := ev_inj he h.he
            subst this
            cases hb : e.bar with
            | true => exact (h.new (hd.1 hb)).elim
            | false => exact (h.np hb (hd.2 hb)).elim
        rw [hmf, if_neg (by decide)]
        refine Ok.bind (P := fun y => y = false) (Ok.bind (P := fun y => y = false) (.ite (fun hb => ?_) (fun hb => .ret rfl)) (fun y hy => .ret hy)) fun y hy => ?_
        · show Ok ((some (ls b e.at_)).bind _) _
          simp only [Option.bind_some]
          refine .ret ?_
          have hbf : e.bar = false := by simpa using hb
          have h1 := hd.2 hbf
          have h2 := ib.last2 _ e.at_ ⟨e, he, hbf, rfl⟩
          have h3 : ls b e.at_ ≤ rd b t e.at_ := by
            rcases ib.last1 e.at_ with h | ⟨e', he', hb', hp'⟩
            · omega
            · have := (hbd t ht _ e' he' (ev_rng he').2).2 hb'
              rw [hp'] at this; exact this
          have h4 : rd b t e.at_ ≤ ls b e.at_ := by
            rcases ib.now1 t ht e.at_ with h | ⟨_, h⟩
            · omega
            · exact ib.last2 _ _ h
          rw [hr.1]
          simp; omega
        · rw [hy, if_neg (by decide)]
          exact .ret (w64_succ (by omega))
      · subst hs
        unfold law16_StorageSettles_l2b storage_Storage_Threads
        simp only [Option.bind_some]
        rw [if_neg (by show ¬ decide ((N : Int) < ((tb N b.S).length : Int)) = true; simp)]
        exact .map (.ret (w64_succ (by omega)))
  · subst hs
    unfold law16_StorageSettles_l1b
    rw [if_neg (by simp)]
    exact .map (.ret rfl)
end Go.Vm.G16
