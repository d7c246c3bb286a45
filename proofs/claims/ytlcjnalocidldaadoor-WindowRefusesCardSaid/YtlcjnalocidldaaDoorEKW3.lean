/-
 A window's commits; what may be done, done; a thread that is alone.
-/
import Derived.Test.YtlcjnalocidldaaDoorEKW2
set_option linter.unusedSimpArgs false
set_option linter.unusedVariables false
namespace Go.Vm.K17
open Go
theorem clone_is (xs : List TSlot) (h : xs.length ≤ 1000) : slices_Clone xs = some xs := by
 unfold slices_Clone
 rw [ap_some (by simp; omega)]
 rfl
theorem grow_is {n : Nat} (h : n ≤ 1000) : slices_Grow (n : Int) = some [] := by
 unfold slices_Grow slices_Grow_k1
 have e : w64 ((n : Int) - w64 (0 - 0)) = (n : Int) := by
  have : w64 (0 - 0) = 0 := by decide
  rw [this, Int.sub_zero]; exact w64_id (by omega) (by omega)
 rw [e, if_neg (by simp)]
 by_cases hn : 0 < n
 ·rw [if_pos (decide_eq_true (by omega))]
  unfold mkP
  rw [if_pos (by omega), mk_some (by omega), Option.bind_some]
  rfl
 ·rw [if_neg (by simp; omega)]
theorem concat_is (a b : List TSlot) (h : a.length + b.length ≤ 1000) : slices_Concat [a, b] = some (a ++ b) := by
 have e1 : slices_Concat_l1b [a, b] 0 0 = some (.inl ((a.length : Int), 1)) := by
  unfold slices_Concat_l1b
  have e : w64 (0 + (a.length : Int)) = a.length := by rw [Int.zero_add]; exact w64_id (by omega) (by omega)
  rw [if_pos (by simp), show ix [a, b] 0 = some a from rfl, Option.bind_some, e, if_neg (by simp)]
  rfl
 have e2 : slices_Concat_l1b [a, b] (a.length : Int) 1 = some (.inl (((a.length + b.length : Nat) : Int), 2)) := by
  unfold slices_Concat_l1b
  have e : w64 ((a.length : Int) + (b.length : Int)) = ((a.length + b.length : Nat) : Int) := by rw [w64_id (by omega) (by omega)]; omega
  rw [if_pos (by simp), show ix [a, b] 1 = some b from rfl, Option.bind_some, e, if_neg (by simp; omega)]
  rfl
 have e4 : slices_Concat_l2b [a, b] [] 0 = some (.inl (a, 1)) := by
  unfold slices_Concat_l2b
  rw [if_pos (by simp), show ix [a, b] 0 = some a from rfl, Option.bind_some, ap_some (by simp; omega)]
  rfl
 have e5 : slices_Concat_l2b [a, b] a 1 = some (.inl (a ++ b, 2)) := by
  unfold slices_Concat_l2b
  rw [if_pos (by simp), show ix [a, b] 1 = some b from rfl, Option.bind_some, ap_some (by omega)]
  rfl
 have e6 : slices_Concat_l2b [a, b] (a ++ b) 2 = some (.inr (a ++ b)) := by
  unfold slices_Concat_l2b
  rw [if_neg (by simp)]
  rfl
 have e3 : slices_Concat_l1b [a, b] ((a.length + b.length : Nat) : Int) 2 = some (.inr (a ++ b)) := by
  unfold slices_Concat_l1b
  rw [if_neg (by simp), grow_is h, Option.bind_some]
  unfold slices_Concat_l2
  rw [loopO_eq]
  show Option.map _ ((slices_Concat_l2b [a, b] [] 0).bind _) = _
  rw [e4]
  show Option.map _ (loopO (fun s => slices_Concat_l2b [a, b] s.1 s.2) (a, 1)) = _
  rw [loopO_eq]
  show Option.map _ ((slices_Concat_l2b [a, b] a 1).bind _) = _
  rw [e5]
  show Option.map _ (loopO (fun s => slices_Concat_l2b [a, b] s.1 s.2) (a ++ b, 2)) = _
  rw [loopO_eq]
  show Option.map _ ((slices_Concat_l2b [a, b] (a ++ b) 2).bind _) = _
  rw [e6]
  rfl
 unfold slices_Concat slices_Concat_l1
 rw [loopO_eq]
 show ((slices_Concat_l1b [a, b] 0 0).bind _) = _
 rw [e1]
 show loopO (fun s => slices_Concat_l1b [a, b] s.1 s.2) ((a.length : Int), 1) = _
 rw [loopO_eq]
 show ((slices_Concat_l1b [a, b] (a.length : Int) 1).bind _) = _
 rw [e2]
 show loopO (fun s => slices_Concat_l1b [a, b] s.1 s.2) (((a.length + b.length : Nat) : Int), 2) = _
 rw [loopO_eq]
 show ((slices_Concat_l1b [a, b] ((a.length + b.length : Nat) : Int) 2).bind _) = _
 rw [e3]
 rfl
theorem number_ok {W : Twindow_Window} (h : W.slots.length + W.log.length ≤ 1000) (n : Int) : Tt (window_Window_number W n) := by
 unfold window_Window_number
 rw [concat_is _ _ h, Option.bind_some]
 unfold window_Window_number_l1
 refine loop_all (W.slots ++ W.log) (by simp; omega) (fun j x hx => ?_) ?_
 ·have hj := (List.getElem?_eq_some_iff.1 hx).1
  unfold window_Window_number_l1b
  exact .ite (fun _ => (Ok.ix (by omega) (by omega)).bind fun y _ => .ite (fun _ => ⟨_, rfl, trivial⟩) (fun _ => ⟨_, rfl, rfl⟩)) (fun hf => by simp at hf hj; omega)
 ·unfold window_Window_number_l1b
  rw [if_neg (by simp)]
  exact ⟨_, rfl, trivial⟩
section
variable {img : TImage} {t : Int} {m N : Nat} {a : M.A} {W : Twindow_Window} {k : Int}
theorem st_ok (i : M.Inv N a) (hN : N ≤ 8) (ht : 0 ≤ t ∧ t < N) : ST t (a.st N) := ⟨fun n => (M.Acked_is i hN n).mono fun _ _ => trivial, fun p => by
 obtain ⟨q, rfl⟩ : ∃ q : Nat, t = (q : Int) := ⟨t.toNat, by omega⟩
 exact (M.Read_in i (t := q) (by omega) p).mono fun _ _ => trivial⟩
def CQ (img : TImage) (t : Int) (m N : Nat) (a : M.A) (q : Int × Twindow_Window × Tstorage_Storage) : Prop := q.1 = 0 ∧ WI img t m q.2.1 ∧ ∃ b : M.A, q.2.2 = b.st N ∧ M.Inv N b ∧ b.E.length ≤ a.E.length + 1
theorem commit_ok (i : M.Inv N a) (hN : N ≤ 8) (ht : 0 ≤ t ∧ t < N) (hE : a.E.length < 900) (h : WI img t m W) (hm : m ≤ 900) {yes r : Bool} (hr : window_Window_MayCommit W k yes (a.st N) = some r) :
  Ok (window_Window_Commit W k yes (a.st N)) (fun q => (r = true → CQ img t m N a q) ∧ (r = false → q = (1, W, a.st N))) := by
 have hsl := h.sl hm
 have hS := st_ok (t := t) i hN ht
 unfold window_Window_Commit
 rw [hr, Option.bind_some]
 cases r with
 | false => exact ⟨_, rfl, (fun h => by cases h), fun _ => rfl⟩
 | true =>
  rw [if_neg (by decide)]
  obtain ⟨h0, h1⟩ := (mayCommit_ok hS hsl).eq hr rfl
  refine Ok.mono (P := CQ img t m N a) ?_ fun q hq => ⟨fun _ => hq, fun h => by cases h⟩
  have htot := h.tot
  have fin : ∀ (xs : List TSlot), SL xs → xs.length = W.slots.length → ∀ (e hd : Bool) (at' fr : Int) (b : M.A), M.Inv N b → b.E.length ≤ a.E.length + 1 →
    Ok (window_Window_Commit_k1 W xs e hd at' fr (b.st N).events (b.st N).seen (b.st N).has (b.st N).now (b.st N).last) (CQ img t m N a) := by
   intro xs hx hl e hd at' fr b ib hb
   show Ok ((window_Window_Retire (⟨W.img, W.t, W.regs, xs, W.pc, W.seq, e, hd, at', fr, W.log⟩ : Twindow_Window) (b.st N)).bind fun x117 => some (0, x117, b.st N)) _
   exact (retire_ok (W := ⟨W.img, W.t, W.regs, xs, W.pc, W.seq, e, hd, at', fr, W.log⟩) (st_ok ib hN ht) (m := m) (img := img) ⟨h.im, h.tt, by show xs.length + W.log.length ≤ m; omega, hx.rg⟩ hm).bind fun q hq => ⟨_, rfl, rfl, hq, b, rfl, ib, hb⟩
  have finA := fun xs (hx : SL xs) (hl : xs.length = W.slots.length) e hd at' fr => fin xs hx hl e hd at' fr a i (by omega)
  refine (Ok.ix h0 h1).bind fun x hx => ?_
  have hg := hsl.at hx
  have go : ∀ xs : List TSlot, SL xs → xs.length = W.slots.length → ∃ s, ix xs k = some s ∧ Rg s.i := fun xs hx hl => by
   obtain ⟨s, h2, h3⟩ := Ok.ix (xs := xs) h0 (by omega)
   exact ⟨s, h2, hx.at h3⟩
  have ST1 : ∀ (xs : List TSlot) (y : TSlot), SL xs → xs.length = W.slots.length → Rg y.i → SL (xs.set (Int.toNat k) y) ∧ (xs.set (Int.toNat k) y).length = W.slots.length := fun xs y h2 h3 h4 => ⟨h2.set h4, by rw [List.length_set, h3]⟩
  have k3 : ∀ xs : List TSlot, SL xs → xs.length = W.slots.length → Ok (window_Window_Commit_k3 W k (a.st N) xs) (CQ img t m N a) := by
   intro xs hx hl
   obtain ⟨s, hs, _⟩ := go xs hx hl
   unfold window_Window_Commit_k3
   simp only [hs, Option.bind_some]
   exact .ite (fun _ => finA _ hx hl _ _ _ _) (fun _ => finA _ hx hl _ _ _ _)
  have wrt : ∀ (xs : List TSlot) (y : TSlot) (p v : Int), SL xs → xs.length = W.slots.length → Rg y.i → ∀ (hd : Bool), Ok ((storage_Storage_Write (a.st N) W.t p v).bind fun x258 => (some y).bind fun x279 =>
    window_Window_Commit_k1 W (xs.set (Int.toNat k) (⟨x279.seq, x279.pc, x279.i, x279.note, x279.next, x279.done, x279.committed, x279.val, x279.at_, x279.from_, x258.1⟩ : TSlot)) W.ended hd W.at_ W.from_ x258.2.events x258.2.seen x258.2.has x258.2.now x258.2.last) (CQ img t m N a) := by
   intro xs y p v hx hl hy hd
   rw [h.tt, M.Write_in i ht, Option.bind_some, Option.bind_some]
   obtain ⟨s2, l2⟩ := ST1 xs (⟨y.seq, y.pc, y.i, y.note, y.next, y.done, y.committed, y.val, y.at_, y.from_, (a.E.length : Int) + 1⟩ : TSlot) hx hl hy
   exact fin _ s2 l2 _ _ _ _ _ (M.Inv.acc i (by omega) ht).1 (Nat.le_of_eq M.ac_len)
  have brr : ∀ (xs : List TSlot) (y : TSlot), SL xs → xs.length = W.slots.length → Rg y.i → Ok ((storage_Storage_Barrier (a.st N) W.t).bind fun x258 => (some y).bind fun x279 =>
    window_Window_Commit_k1 W (xs.set (Int.toNat k) (⟨x279.seq, x279.pc, x279.i, x279.note, x279.next, x279.done, x279.committed, x279.val, x279.at_, x279.from_, x258.1⟩ : TSlot)) W.ended W.held W.at_ W.from_ x258.2.events x258.2.seen x258.2.has x258.2.now x258.2.last) (CQ img t m N a) := by
   intro xs y hx hl hy
   rw [h.tt, M.Barrier_in i ht, Option.bind_some, Option.bind_some]
   obtain ⟨s2, l2⟩ := ST1 xs (⟨y.seq, y.pc, y.i, y.note, y.next, y.done, y.committed, y.val, y.at_, y.from_, (a.E.length : Int) + 1⟩ : TSlot) hx hl hy
   exact fin _ s2 l2 _ _ _ _ _ (M.Inv.acc i (by omega) ht).1 (Nat.le_of_eq M.ac_len)
  obtain ⟨s1, l1⟩ := ST1 W.slots (⟨x.seq, x.pc, x.i, x.note, x.next, x.done, true, x.val, x.at_, x.from_, x.id⟩ : TSlot) hsl rfl hg
  have k4 : ∀ (y : TSlot) (b : Bool), Ok (window_Window_Commit_k4 W k (a.st N) x y b) (CQ img t m N a) := by
   intro y b
   unfold window_Window_Commit_k4
   generalize W.slots.set (Int.toNat k) (⟨x.seq, x.pc, x.i, x.note, x.next, x.done, true, x.val, x.at_, x.from_, x.id⟩ : TSlot) = A at s1 l1 ⊢
   obtain ⟨z, hz, gz⟩ := go A s1 l1
   simp only [hz]
   exact .ite (fun _ => brr A z s1 l1 gz) (fun _ => .ite (fun _ => finA _ s1 l1 _ _ _ _) (fun _ => finA _ s1 l1 _ _ _ _))
  have k2 : ∀ (y : TSlot) (b : Bool), Ok (window_Window_Commit_k2 W k yes (a.st N) x y b) (CQ img t m N a) := by
   intro y b
   unfold window_Window_Commit_k2
   have k4 := k4 y
   generalize W.slots.set (Int.toNat k) (⟨x.seq, x.pc, x.i, x.note, x.next, x.done, true, x.val, x.at_, x.from_, x.id⟩ : TSlot) = A at s1 l1 ⊢
   obtain ⟨z, hz, gz⟩ := go A s1 l1
   simp only [hz]
   refine .ite (fun _ => ?_) (fun _ => .ite (fun _ => ?_) (fun _ => .ite (fun _ => .ite (fun _ => ?_) (fun _ => finA _ s1 l1 _ _ _ _)) (fun _ => .ite (fun _ => k4 _) (fun _ => k4 _))))
   ·rw [Option.bind_some]
    refine .ite (fun _ => ?_) (fun _ => k3 _ s1 l1)
    rw [Option.bind_some]
    refine (number_ok (by show A.length + W.log.length ≤ 1000; omega) _).bind fun q _ => ?_
    rw [Option.bind_some]
    obtain ⟨s2, l2⟩ := ST1 A (⟨z.seq, z.pc, z.i, z.note, z.next, z.done, z.committed, z.val, z.at_, q, z.id⟩ : TSlot) s1 l1 gz
    exact k3 _ s2 l2
   ·rw [Option.bind_some, Option.bind_some]
    exact wrt A z _ _ s1 l1 gz _
   ·rw [Option.bind_some, Option.bind_some]
    exact wrt A z _ _ s1 l1 gz _
  obtain ⟨y, hy, gy⟩ := go _ s1 l1
  rw [hy, Option.bind_some]
  exact .ite (fun _ => k2 _ _) (fun _ => k2 _ _)
def Can (W : Twindow_Window) (S : Tstorage_Storage) (v : Tlaw17_Move) : Prop := (v.kind = 1 ∧ window_Window_MayFetch W = some true) ∨ (v.kind = 2 ∧ window_Window_MayExec W v.k S = some true) ∨ (v.kind = 3 ∧ window_Window_MayCommit W v.k v.yes S = some true)
theorem moves_ok (g : GI img) (i : M.Inv N a) (hN : N ≤ 8) (ht : 0 ≤ t ∧ t < N) (h : WI img t m W) (hm : m ≤ 900) : Ok (law17_moves W (a.st N)) (fun l => l.length ≤ 3000 ∧ ∀ v ∈ l, Can W (a.st N) v) := by
 have hsl := h.sl hm
 have hS := st_ok (t := t) i hN ht
 have hS' : ST W.t (a.st N) := by rw [h.tt]; exact hS
 have htot := h.tot
 have k1 : ∀ l : List Tlaw17_Move, l.length ≤ 2 → (∀ v ∈ l, Can W (a.st N) v) → Ok (law17_moves_k1 W (a.st N) l) (fun l => l.length ≤ 3000 ∧ ∀ v ∈ l, Can W (a.st N) v) := by
  intro l hl hc
  unfold law17_moves_k1 window_Window_Slots
  rw [clone_is _ hsl.len, Option.bind_some, Option.bind_some]
  unfold law17_moves_l1
  refine Ok.loop (B := fun s => law17_moves_l1b W (a.st N) W.slots s.1 s.2) (fun k s => s.2 = (k : Int) ∧ s.1.length ≤ 2 + 3 * k ∧ ∀ v ∈ s.1, Can W (a.st N) v) W.slots.length (fun k s hk hs => ?_) (fun s hs => ?_) (s := (l, 0)) ⟨rfl, hl, hc⟩
  ·obtain ⟨l, j⟩ := s
   obtain ⟨hj, hl, hc⟩ := hs
   have hj : j = (k : Int) := hj
   subst hj
   show Ok (law17_moves_l1b W (a.st N) W.slots l (k : Int)) _
   have hs := hsl.len
   have hl : l.length ≤ 2 + 3 * k := hl
   have end_ : ∀ l' : List Tlaw17_Move, l'.length ≤ 2 + 3 * (k + 1) → (∀ v ∈ l', Can W (a.st N) v) → Ok (law17_moves_k2 (k : Int) l') (Sum.elim (fun s => s.2 = ((k + 1 : Nat) : Int) ∧ s.1.length ≤ 2 + 3 * (k + 1) ∧ ∀ v ∈ s.1, Can W (a.st N) v) (fun l => l.length ≤ 3000 ∧ ∀ v ∈ l, Can W (a.st N) v)) := fun l' h1 h2 => ⟨_, rfl, w64_succ (by omega), h1, h2⟩
   have app : ∀ (l' : List Tlaw17_Move) (v : Tlaw17_Move), (∀ v ∈ l', Can W (a.st N) v) → Can W (a.st N) v → ∀ u ∈ l' ++ [v], Can W (a.st N) u := fun l' v h1 h2 u hu => by
    rcases List.mem_append.1 hu with h3 | h3
    ·exact h1 u h3
    ·rw [List.mem_singleton.1 h3]; exact h2
   have e4 : ∀ (x : TSlot) (l' : List Tlaw17_Move), l'.length ≤ 2 + 3 * k + 2 → (∀ v ∈ l', Can W (a.st N) v) → Ok (law17_moves_k4 W (a.st N) (k : Int) x l') (Sum.elim (fun s => s.2 = ((k + 1 : Nat) : Int) ∧ s.1.length ≤ 2 + 3 * (k + 1) ∧ ∀ v ∈ s.1, Can W (a.st N) v) (fun l => l.length ≤ 3000 ∧ ∀ v ∈ l, Can W (a.st N) v)) := by
    intro x l' h1 h2
    unfold law17_moves_k4
    refine Ok.bind (P := fun b => b = true → window_Window_MayCommit W k true (a.st N) = some true) (.ite (fun _ => ?_) (fun _ => ⟨_, rfl, fun h => by cases h⟩)) fun b hb => .ite (fun hbt => ?_) (fun _ => end_ _ (by omega) h2)
    ·obtain ⟨r, h3, _⟩ := mayCommit_ok (k := (k : Int)) hS hsl (yes := true)
     rw [h3, Option.bind_some]
     exact ⟨_, rfl, fun h => by rw [h]⟩
    ·rw [ap_some (by simp; omega), Option.bind_some]
     exact end_ _ (by simp; omega) (app _ _ h2 (.inr (.inr ⟨rfl, hb hbt⟩)))
   have e3 : ∀ (x : TSlot) (l' : List Tlaw17_Move), l'.length ≤ 2 + 3 * k + 1 → (∀ v ∈ l', Can W (a.st N) v) → Ok (law17_moves_k3 W (a.st N) (k : Int) x l') (Sum.elim (fun s => s.2 = ((k + 1 : Nat) : Int) ∧ s.1.length ≤ 2 + 3 * (k + 1) ∧ ∀ v ∈ s.1, Can W (a.st N) v) (fun l => l.length ≤ 3000 ∧ ∀ v ∈ l, Can W (a.st N) v)) := by
    intro x l' h1 h2
    unfold law17_moves_k3
    obtain ⟨r, h3, _⟩ := mayCommit_ok (k := (k : Int)) hS hsl (yes := false)
    rw [h3, Option.bind_some]
    refine .ite (fun hbt => ?_) (fun _ => e4 _ _ (by omega) h2)
    rw [ap_some (by simp; omega), Option.bind_some]
    exact e4 _ _ (by simp; omega) (app _ _ h2 (.inr (.inr ⟨rfl, by rw [h3, hbt]⟩)))
   unfold law17_moves_l1b
   refine .ite (fun _ => (Ok.ix (by omega) (by omega)).bind fun x _ => ?_) (fun hf => by simp at hf; omega)
   obtain ⟨r, h3, _⟩ := mayExec_ok (k := (k : Int)) hS' hsl
   rw [h3, Option.bind_some]
   refine .ite (fun hbt => ?_) (fun _ => e3 _ _ (by omega) hc)
   rw [ap_some (by simp; omega), Option.bind_some]
   exact e3 _ _ (by simp; omega) (app _ _ hc (.inr (.inl ⟨rfl, by rw [h3, hbt]⟩)))
  ·obtain ⟨l, j⟩ := s
   obtain ⟨hj, hl, hc⟩ := hs
   have hj : j = (W.slots.length : Int) := hj
   subst hj
   show Ok (law17_moves_l1b W (a.st N) W.slots l (W.slots.length : Int)) _
   unfold law17_moves_l1b
   rw [if_neg (by simp)]
   have hs := hsl.len
   have hl : l.length ≤ 2 + 3 * W.slots.length := hl
   exact ⟨_, rfl, by show l.length ≤ 3000; omega, hc⟩
 unfold law17_moves
 obtain ⟨r, h3, hp⟩ := mayFetch_ok g h hm
 rw [h3, Option.bind_some]
 refine .ite (fun hr => ?_) (fun _ => k1 [] (by simp) fun v hv => by cases hv)
 rw [hr] at h3
 have hp := hp hr
 rw [show ap [] [(⟨1, 0, false⟩ : Tlaw17_Move)] = some [⟨1, 0, false⟩] from rfl, Option.bind_some]
 have hpar : Tt (window_Window_Parts W) := by
  unfold window_Window_Parts
  rw [h3, Option.bind_some, if_neg (by decide), h.im]
  exact (Ok.ix hp.1 hp.2).bind fun x hx => (dec_ok (g.code x (List.mem_of_getElem? hx))).bind fun d _ => Tt.r _
 refine hpar.bind fun b _ => .ite (fun _ => ?_) (fun _ => k1 _ (by simp) fun v hv => .inl ⟨by rw [List.mem_singleton.1 hv], h3⟩)
 rw [show ap [(⟨1, 0, false⟩ : Tlaw17_Move)] [(⟨1, 0, true⟩ : Tlaw17_Move)] = some [⟨1, 0, false⟩, ⟨1, 0, true⟩] from rfl, Option.bind_some]
 refine k1 _ (by simp) fun v hv => .inl ⟨?_, h3⟩
 rcases List.mem_cons.1 hv with h1 | h1
 ·rw [h1]
 ·rw [List.mem_singleton.1 h1]
theorem do_ok (g : GI img) (i : M.Inv N a) (hN : N ≤ 8) (ht : 0 ≤ t ∧ t < N) (hE : a.E.length < 900) (h : WI img t m W) (hm : m ≤ 800) (v : Tlaw17_Move) {r : Bool}
  (hr : (v.kind = 1 ∧ window_Window_MayFetch W = some r) ∨ (v.kind = 2 ∧ window_Window_MayExec W v.k (a.st N) = some r) ∨ (v.kind = 3 ∧ window_Window_MayCommit W v.k v.yes (a.st N) = some r)) :
  Ok (law17_do W (a.st N) v) (fun q => (r = true → CQ img t (m + 1) N a q) ∧ (r = false → q = (1, W, a.st N))) := by
 have up : ∀ {W' : Twindow_Window}, WI img t m W' → WI img t (m + 1) W' := fun h => ⟨h.im, h.tt, Nat.le_succ_of_le h.tot, h.rg⟩
 unfold law17_do
 rcases hr with ⟨h1, h2⟩ | ⟨h1, h2⟩ | ⟨h1, h2⟩
 ·rw [h1, if_pos (by decide)]
  exact (fetch_ok g h (by omega) _ h2).bind fun q hq => ⟨_, rfl, fun e => ⟨(hq.1 e).1, (hq.1 e).2, a, rfl, i, by omega⟩, fun e => by rw [hq.2 e]⟩
 ·rw [h1, if_neg (by decide), if_pos (by decide)]
  exact (exec_ok (st_ok i hN ht) h (by omega) h2).bind fun q hq => ⟨_, rfl, fun e => ⟨(hq.1 e).1, up (hq.1 e).2, a, rfl, i, by omega⟩, fun e => by rw [hq.2 e]⟩
 ·rw [h1, if_neg (by decide), if_neg (by decide)]
  exact (commit_ok i hN ht hE h (by omega) h2).bind fun q hq => ⟨_, rfl, fun e => ⟨(hq.1 e).1, up (hq.1 e).2.1, (hq.1 e).2.2⟩, fun e => by rw [hq.2 e]⟩
end
end Go.Vm.K17
