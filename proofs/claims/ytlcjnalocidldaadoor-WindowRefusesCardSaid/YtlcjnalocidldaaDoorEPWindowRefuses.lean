/-
 What may not be done is refused.
-/
import Derived.Test.YtlcjnalocidldaaDoorEKAL
set_option linter.unusedSimpArgs false
set_option linter.unusedVariables false
namespace Go.Vm.K17
open Go
theorem same_is (xs : List TSlot) (h : xs.length ≤ 1000) : law17_same xs xs = some true := by
 unfold law17_same
 rw [if_neg (by simp)]
 unfold law17_same_l1
 refine (loop_all (P := fun r => r = true) xs (by omega) (fun j x hx => ?_) ?_).some_of
 ·have hj := (List.getElem?_eq_some_iff.1 hx).1
  unfold law17_same_l1b
  rw [if_pos (decide_eq_true (by omega)), ix_nat, hx, Option.bind_some, Option.bind_some, if_neg (by simp)]
  exact ⟨_, rfl, rfl⟩
 ·unfold law17_same_l1b
  rw [if_neg (by simp)]
  exact ⟨_, rfl, rfl⟩
section
variable {img : TImage} {t : Int} {N : Nat}
theorem went_ok (g : GI img) (hg : image_Good img = some true) (h8 : img.threads.length ≤ 8) (ht : 0 ≤ t ∧ t < (img.threads.length : Int)) (ps : List Int) (hps : ps.length ≤ 200) :
  Ok (law17_went img t ps) (fun r => ∃ a : M.A, WI img t 200 r.1 ∧ r.2 = a.st (M.nN (t + 1)) ∧ M.Inv (M.nN (t + 1)) a ∧ a.E.length ≤ 200) := by
 have hN : M.nN (t + 1) ≤ 8 := M.nN_le _
 have htN : 0 ≤ t ∧ t < (M.nN (t + 1) : Int) := by unfold M.nN; omega
 unfold law17_went window_New
 rw [hg, Option.bind_some, if_neg (by simp; omega)]
 rw [w64_id (x := t + 1) (by omega) (by omega)]
 obtain ⟨p, hp, _⟩ := Ok.ix (xs := img.threads) ht.1 ht.2
 rw [hp, Option.bind_some, Option.bind_some, M.New_is, Option.bind_some]
 unfold law17_went_l1
 refine Ok.loop (B := fun s => law17_went_l1b ps s.1 s.2.1 s.2.2.1 s.2.2.2.1 s.2.2.2.2.1 s.2.2.2.2.2.1 s.2.2.2.2.2.2.1 s.2.2.2.2.2.2.2.1 s.2.2.2.2.2.2.2.2.1 s.2.2.2.2.2.2.2.2.2.1 s.2.2.2.2.2.2.2.2.2.2.1 s.2.2.2.2.2.2.2.2.2.2.2.1 s.2.2.2.2.2.2.2.2.2.2.2.2.1 s.2.2.2.2.2.2.2.2.2.2.2.2.2.1 s.2.2.2.2.2.2.2.2.2.2.2.2.2.2.1 s.2.2.2.2.2.2.2.2.2.2.2.2.2.2.2.1 s.2.2.2.2.2.2.2.2.2.2.2.2.2.2.2.2.1 s.2.2.2.2.2.2.2.2.2.2.2.2.2.2.2.2.2.1 s.2.2.2.2.2.2.2.2.2.2.2.2.2.2.2.2.2.2)
  (fun k s => ∃ (W : Twindow_Window) (a : M.A), s = (W.img.code, W.img.notes, W.img.threads, W.t, W.regs, W.slots, W.pc, W.seq, W.ended, W.held, W.at_, W.from_, W.log, (a.st (M.nN (t + 1))).events, (a.st (M.nN (t + 1))).seen, (a.st (M.nN (t + 1))).has, (a.st (M.nN (t + 1))).now, (a.st (M.nN (t + 1))).last, (k : Int)) ∧ WI img t k W ∧ M.Inv (M.nN (t + 1)) a ∧ a.E.length ≤ k)
  ps.length (fun k s hk hs => ?_) (fun s hs => ?_) ⟨⟨img, t, _, [], p, 0, false, false, 0, 0, []⟩, M.a0, rfl, ⟨rfl, rfl, Nat.le_refl _, fun s hs => by cases hs⟩, M.Inv.zero _, Nat.le_refl _⟩
 ·obtain ⟨W, a, rfl, h, i, hE⟩ := hs
  show Ok (law17_went_l1b ps W.img.code W.img.notes W.img.threads W.t W.regs W.slots W.pc W.seq W.ended W.held W.at_ W.from_ W.log (a.st (M.nN (t + 1))).events (a.st (M.nN (t + 1))).seen (a.st (M.nN (t + 1))).has (a.st (M.nN (t + 1))).now (a.st (M.nN (t + 1))).last (k : Int)) _
  have up : ∀ {k k' : Nat}, k ≤ k' → ∀ {W : Twindow_Window}, WI img t k W → WI img t k' W := fun hk _ h => ⟨h.im, h.tt, Nat.le_trans h.tot hk, h.rg⟩
  unfold law17_went_l1b law17_went_k1
  rw [if_pos (decide_eq_true (by omega))]
  refine (Ok.ix (xs := ps) (i := (k : Int)) (by omega) (by omega)).bind fun x _ => ?_
  show Ok ((law17_moves W (a.st (M.nN (t + 1)))).bind _) _
  refine (moves_ok g i hN htN h (by omega)).bind fun l hl => .ite (fun _ => ?_) (fun hne => ?_)
  ·exact ⟨_, rfl, a, up (by omega) h, rfl, i, by omega⟩
  ·have hne : (l.length : Int) ≠ 0 := of_decide_eq_false hne
   have hu : ∀ y : Int, IntKind.wrap .u64 y = y % 18446744073709551616 := fun y => by unfold IntKind.wrap; simp [IntKind.signed, IntKind.bits]
   have hll := hl.1
   unfold remO
   rw [hu, hu, if_neg (by omega), Option.bind_some]
   have e1 : (l.length : Int) % 18446744073709551616 = (l.length : Int) := by omega
   have e2 : (x % 18446744073709551616).tmod (l.length : Int) = (x % 18446744073709551616) % (l.length : Int) := Int.tmod_eq_emod_of_nonneg (Int.emod_nonneg _ (by decide))
   have h3 : 0 ≤ (x % 18446744073709551616) % (l.length : Int) := Int.emod_nonneg _ hne
   have h4 : (x % 18446744073709551616) % (l.length : Int) < l.length := Int.emod_lt_of_pos _ (by omega)
   rw [e1, e2]
   have e3 : w64 ((x % 18446744073709551616) % (l.length : Int)) = (x % 18446744073709551616) % (l.length : Int) := w64_id (by omega) (by omega)
   rw [e3]
   refine (Ok.ix h3 h4).bind fun v hv => ?_
   have hc := hl.2 v (List.mem_of_getElem? hv)
   show Ok ((law17_do W (a.st (M.nN (t + 1))) v).bind _) _
   refine (do_ok g i hN htN (by omega) h (by omega) v (r := true) hc).bind fun q hq => ?_
   obtain ⟨h5, h6, b, h7, ib, hb⟩ := hq.1 rfl
   rw [h5, if_neg (by decide), h7]
   refine (M.Settle_is ib hN).bind fun s hs => ?_
   obtain ⟨c, rfl, ic, hc2, _⟩ := hs
   refine (retire_ok (st_ok ic hN htN) h6 (by omega)).bind fun W' hW => ?_
   exact ⟨_, rfl, W', c, by rw [w64_succ (by omega)], hW, ic, by rw [hc2]; omega⟩
 ·obtain ⟨W, a, rfl, h, i, hE⟩ := hs
  show Ok (law17_went_l1b ps W.img.code W.img.notes W.img.threads W.t W.regs W.slots W.pc W.seq W.ended W.held W.at_ W.from_ W.log (a.st (M.nN (t + 1))).events (a.st (M.nN (t + 1))).seen (a.st (M.nN (t + 1))).has (a.st (M.nN (t + 1))).now (a.st (M.nN (t + 1))).last (ps.length : Int)) _
  unfold law17_went_l1b law17_went_k1
  rw [if_neg (by simp)]
  exact ⟨_, rfl, a, ⟨h.im, h.tt, Nat.le_trans h.tot hps, h.rg⟩, rfl, i, Nat.le_trans hE hps⟩
theorem none_ok (S : Tstorage_Storage) : window_Window_Retire_2 S = some () := loop_ret rfl
theorem k2_ok (g : GI img) {a : M.A} (i : M.Inv N a) (hN : N ≤ 8) (ht : 0 ≤ t ∧ t < N) (hE : a.E.length ≤ 200) {W : Twindow_Window} (h : WI img t 200 W) (v : Tlaw17_Move) {r : Bool}
  (hr : (v.kind = 1 ∧ window_Window_MayFetch W = some r) ∨ (v.kind = 2 ∧ window_Window_MayExec W v.k (a.st N) = some r) ∨ (v.kind = 3 ∧ window_Window_MayCommit W v.k v.yes (a.st N) = some r)) :
  law17_WindowRefuses_k2 v (W, a.st N) r = some true := by
 have hs : W.slots.length ≤ 1000 := by have := h.tot; omega
 have hl : W.log.length ≤ 1000 := by have := h.tot; omega
 have e1 : window_Window_Slots W = some W.slots := by unfold window_Window_Slots; rw [clone_is _ hs]; rfl
 have e2 : window_Window_Log W = some W.log := by unfold window_Window_Log; rw [clone_is _ hl]; rfl
 obtain ⟨q, hq, hq1, hq2⟩ := do_ok g i hN ht (by omega) h (by omega) v hr
 unfold law17_WindowRefuses_k2
 show ((window_Window_Slots W).bind _) = _
 rw [e1, Option.bind_some]
 show ((window_Window_Log W).bind _) = _
 rw [e2, Option.bind_some]
 show ((law17_do W (a.st N) v).bind _) = _
 rw [hq, Option.bind_some]
 have key : (if (!(r == (decide (q.1 = 0)))) = true then some true else (if (!r) = true then
   (if decide (q.1 ≠ 1) = true then some true else (window_Window_Slots q.2.1).bind fun x442 => (law17_same W.slots x442).bind fun x453 => some (!x453)).bind fun y395 =>
   (if y395 = true then some true else (window_Window_Log q.2.1).bind fun x418 => (law17_same W.log x418).bind fun x429 => some (!x429)).bind fun y402 => some y402
   else some false).bind fun y384 => some y384) = some false := by
  cases r with
  | true =>
   rw [(hq1 rfl).1]
   rfl
  | false =>
   rw [hq2 rfl]
   show (if _ then _ else (if _ then (if _ then _ else (window_Window_Slots W).bind _).bind _ else _).bind _) = _
   rw [if_neg (show ¬ ((!false == decide ((1 : Int) = 0)) = true) by decide), if_pos (by decide), if_neg (show ¬ (decide ((1 : Int) ≠ 1) = true) by decide), e1, Option.bind_some, same_is _ hs, Option.bind_some, Option.bind_some, if_neg (by decide)]
   show (((window_Window_Log W).bind _).bind _).bind _ = _
   rw [e2, Option.bind_some, same_is _ hl]
   rfl
 rw [key, Option.bind_some, if_neg (by decide), none_ok]
 rfl
end
theorem law17_WindowRefuses_law (x0 : TImage) (x1 : Int) (x2 : List Int) (x3 : Tlaw17_Move) (o0 : OK_TImage x0) (o1 : InR .i64 x1) (o2 : OKv 8 (fun x => InR .i64 x) x2) (o3 : OK_Tlaw17_Move x3) : law17_WindowRefuses x0 x1 x2 x3 = some true := by
 unfold law17_WindowRefuses
 rw [alive_is, Option.bind_some, if_neg (by decide)]
 cases hsz : ((decide (60 < (x0.code.length : Int))) || (decide (60 < (x0.notes.length : Int)))) || (decide (200 < (x2.length : Int))) with
 | true => rfl
 | false =>
  rw [if_neg (by decide)]
  simp only [Bool.or_eq_false_iff, decide_eq_false_iff_not] at hsz
  obtain ⟨b, hb, hgf⟩ := good_i x0 o0
  have hsame := good_same x0 o0
  rw [hb] at hsame
  cases hc : ((!b) || (decide (x1 < 0))) || (decide ((x0.threads.length : Int) ≤ x1)) with
  | true =>
   have e : window_New_2 x0 x1 = some () := by
    unfold window_New_2
    rw [hb, Option.bind_some, hc]
    rfl
   rw [e, if_pos (by decide), Option.bind_some, hsame, Option.bind_some, hc]
   rfl
  | false =>
   simp only [Bool.or_eq_false_iff, decide_eq_false_iff_not, Bool.not_eq_false'] at hc
   obtain ⟨⟨rfl, h1⟩, h2⟩ := hc
   have hc : (((!true) || (decide (x1 < 0))) || (decide ((x0.threads.length : Int) ≤ x1))) = false := by simp; omega
   obtain ⟨p, hp, _⟩ := Ok.ix (xs := x0.threads) (i := x1) (by omega) (by omega)
   have e : window_New_2 x0 x1 = none := by
    unfold window_New_2
    rw [hb, Option.bind_some, hc, if_neg (by decide), hp]
    rfl
   have e2 : ∃ W, window_New x0 x1 = some W := by
    unfold window_New
    rw [hb, Option.bind_some, hc, if_neg (by decide), hp]
    exact ⟨_, rfl⟩
   obtain ⟨W, e2⟩ := e2
   rw [e, if_neg (by decide), e2, Option.bind_some, hsame, Option.bind_some, hc, if_neg (by decide)]
   have gf := hgf rfl
   have g : GI x0 := ⟨o0.1.1, gf.nl, by omega⟩
   have h8 : x0.threads.length ≤ 8 := gf.t8
   unfold law17_WindowRefuses_k1
   obtain ⟨r, hr, a, hW, hS, i, hE⟩ := went_ok g hb h8 (t := x1) (by omega) x2 (by omega)
   obtain ⟨W1, S1⟩ := r
   have hS : S1 = a.st (M.nN (x1 + 1)) := hS
   subst hS
   have hN := M.nN_le (x1 + 1)
   have htN : 0 ≤ x1 ∧ x1 < (M.nN (x1 + 1) : Int) := by unfold M.nN; omega
   rw [hr, Option.bind_some]
   have hsl := hW.sl (by omega)
   have hS := st_ok (t := x1) i hN htN
   have hS' : ST W1.t (a.st (M.nN (x1 + 1))) := by rw [hW.tt]; exact hS
   by_cases k1 : x3.kind = 1
   ·rw [if_pos (decide_eq_true k1)]
    obtain ⟨q, hq, _⟩ := mayFetch_ok g hW (by omega)
    show ((window_Window_MayFetch W1).bind _) = _
    rw [hq, Option.bind_some]
    exact k2_ok g i hN htN hE hW x3 (.inl ⟨k1, hq⟩)
   ·rw [if_neg (by simpa using k1)]
    by_cases k2 : x3.kind = 2
    ·rw [if_pos (decide_eq_true k2)]
     obtain ⟨q, hq, _⟩ := mayExec_ok (k := x3.k) hS' hsl
     show ((window_Window_MayExec W1 x3.k (a.st (M.nN (x1 + 1)))).bind _) = _
     rw [hq, Option.bind_some]
     exact k2_ok g i hN htN hE hW x3 (.inr (.inl ⟨k2, hq⟩))
    ·rw [if_neg (by simpa using k2)]
     by_cases k3 : x3.kind = 3
     ·rw [if_pos (decide_eq_true k3)]
      obtain ⟨q, hq, _⟩ := mayCommit_ok (k := x3.k) (yes := x3.yes) hS hsl
      show ((window_Window_MayCommit W1 x3.k x3.yes (a.st (M.nN (x1 + 1)))).bind _) = _
      rw [hq, Option.bind_some]
      exact k2_ok g i hN htN hE hW x3 (.inr (.inr ⟨k3, hq⟩))
     ·rw [if_neg (by simpa using k3)]
end Go.Vm.K17
