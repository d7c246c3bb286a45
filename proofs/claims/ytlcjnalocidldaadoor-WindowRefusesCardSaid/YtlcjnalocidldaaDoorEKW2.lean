/-
 A window's steps: none of them fails, and what stays true.
-/
import Derived.Test.YtlcjnalocidldaaDoorEKW1
set_option linter.unusedSimpArgs false
set_option linter.unusedVariables false
namespace Go.Vm.K17
open Go
structure WI (img : TImage) (t : Int) (m : Nat) (W : Twindow_Window) : Prop where
 im : W.img = img
 tt : W.t = t
 tot : W.slots.length + W.log.length ≤ m
 rg : ∀ s ∈ W.slots, Rg s.i
theorem WI.sl {img : TImage} {t : Int} {m : Nat} {W : Twindow_Window} (h : WI img t m W) (hm : m ≤ 900) : SL W.slots := ⟨by have := h.tot; omega, h.rg⟩
structure GI (img : TImage) : Prop where
 code : ∀ x ∈ img.code, InR .u32 x
 notes : img.notes.length = img.code.length
 small : img.code.length ≤ 8000
section
variable {img : TImage} {t : Int} {m : Nat} {W : Twindow_Window} {S : Tstorage_Storage} {k : Int}
theorem mayFetch_ok (g : GI img) (h : WI img t m W) (hm : m ≤ 900) : Ok (window_Window_MayFetch W) (fun r => r = true → (0 ≤ W.pc ∧ W.pc < img.code.length)) := by
 have hsl := h.sl hm
 have hk : ∀ b : Bool, (b = false → 0 ≤ W.pc ∧ W.pc < img.code.length) → Ok (window_Window_MayFetch_k1 W b) (fun r => r = true → (0 ≤ W.pc ∧ W.pc < img.code.length)) := by
  intro b hb
  unfold window_Window_MayFetch_k1
  refine .ite (fun _ => ⟨_, rfl, fun h => by cases h⟩) (fun hbf => ?_)
  have hp := hb hbf
  rw [c1_is _ hsl.len, Option.bind_some]
  refine .ite (fun _ => ⟨_, rfl, fun h => by cases h⟩) (fun _ => Ok.mono (P := fun _ => True) ?_ fun _ _ _ => hp)
  rw [h.im]
  refine (Ok.ix hp.1 hp.2).bind fun x hx => (dec_ok (g.code x (List.mem_of_getElem? hx))).bind fun d _ => .ite (fun _ => (reg_ok hsl (by omega) (by omega) ⟨by decide, by decide⟩).bind fun _ _ => Tt.r _) (fun _ => Tt.r _)
 unfold window_Window_MayFetch
 refine .ite (fun _ => hk _ fun h => by cases h) (fun _ => .ite (fun _ => hk _ fun h => by cases h) (fun _ => .ite (fun _ => hk _ fun h => by cases h) (fun h1 => hk _ fun h2 => ?_)))
 rw [h.im] at h2
 have := of_decide_eq_false h1
 have := of_decide_eq_false h2
 omega
theorem fetch_ok (g : GI img) (h : WI img t m W) (hm : m ≤ 900) (b : Bool) {r : Bool} (hr : window_Window_MayFetch W = some r) :
  Ok (window_Window_Fetch W b) (fun q => (r = true → q.1 = 0 ∧ WI img t (m + 1) q.2) ∧ (r = false → q = (1, W))) := by
 have hsl := h.sl hm
 unfold window_Window_Fetch
 rw [hr, Option.bind_some]
 cases r with
 | false => exact ⟨_, rfl, (fun h => by cases h), fun _ => rfl⟩
 | true =>
  rw [if_neg (by decide)]
  have hp := (mayFetch_ok g h hm).eq hr rfl
  refine Ok.mono (P := fun q => q.1 = 0 ∧ WI img t (m + 1) q.2) ?_ fun q hq => ⟨fun _ => hq, fun h => by cases h⟩
  rw [h.im]
  refine (Ok.ix hp.1 hp.2).bind fun x hx => (dec_ok (g.code x (List.mem_of_getElem? hx))).bind fun d hd => (Ok.ix hp.1 (by rw [g.notes]; exact hp.2)).bind fun n _ => ?_
  have f : ∀ (x87 : Int) (x88 : Bool) (x89 : Int), Ok (window_Window_Fetch_k1 W d n x87 x88 x89) (fun q => q.1 = 0 ∧ WI img t (m + 1) q.2) := by
   intro a b c
   unfold window_Window_Fetch_k1
   have htot := h.tot
   rw [ap_some (by simp; omega), Option.bind_some]
   refine ⟨_, rfl, rfl, h.im, h.tt, by simp; omega, fun s hs => ?_⟩
   rcases List.mem_append.1 hs with h1 | h1
   ·exact h.rg s h1
   ·rw [List.mem_singleton.1 h1]; exact hd
  have f2 : ∀ b, Ok (window_Window_Fetch_k2 W d n b) (fun q => q.1 = 0 ∧ WI img t (m + 1) q.2) := fun b => .ite (fun _ => f _ _ _) (fun _ => f _ _ _)
  refine .ite (fun _ => f _ _ _) (fun _ => .ite (fun _ => f _ _ _) (fun _ => .ite (fun _ => ?_) (fun _ => .ite (fun _ => .ite (fun _ => f _ _ _) (fun _ => f _ _ _)) (fun _ => .ite (fun _ => f2 _) (fun _ => .ite (fun _ => f2 _) (fun _ => .ite (fun _ => f2 _) (fun _ => f2 _)))))))
  exact (reg_ok (W := ⟨img, W.t, W.regs, W.slots, W.pc, w64 (W.seq + 1), W.ended, W.held, W.at_, W.from_, W.log⟩) hsl (by omega) (by simp) ⟨by decide, by decide⟩).bind fun _ _ => f _ _ _
theorem exec1_ok {xs : List TSlot} (hx : SL xs) (h0 : 0 ≤ k) (h1 : k < xs.length) : Ok (window_Window_Exec_k1 W k xs) (fun q => q.1 = 0 ∧ ∃ ys pc, q.2 = ⟨W.img, W.t, W.regs, ys, pc, W.seq, W.ended, W.held, W.at_, W.from_, W.log⟩ ∧ ys.length ≤ xs.length ∧ ∀ s ∈ ys, Rg s.i) := by
 have hl := hx.len
 have I : Ok (ix xs k) (fun s => Rg s.i) := (Ok.ix h0 h1).mono fun s hs => hx.at hs
 have f : ∀ p, Ok (window_Window_Exec_k2 W k xs p) (fun q => q.1 = 0 ∧ ∃ ys pc, q.2 = ⟨W.img, W.t, W.regs, ys, pc, W.seq, W.ended, W.held, W.at_, W.from_, W.log⟩ ∧ ys.length ≤ xs.length ∧ ∀ s ∈ ys, Rg s.i) := by
  intro p
  unfold window_Window_Exec_k2 window_Window_Exec_k3
  refine I.bind fun _ _ => .ite (fun _ => I.bind fun s hs => ?_) (fun _ => ⟨_, rfl, rfl, _, _, rfl, Nat.le_refl _, hx.rg⟩)
  have e : w64 (k + 1) = k + 1 := w64_id (by omega) (by omega)
  rw [e, cut_ok (by omega) (by rw [List.length_set]; omega), Option.bind_some]
  refine ⟨_, rfl, rfl, _, _, rfl, ?_, ?_⟩
  ·rw [List.length_take, List.length_set]; omega
  ·exact ((hx.set (y := ⟨s.seq, s.pc, s.i, s.note, p, s.done, s.committed, s.val, s.at_, s.from_, s.id⟩) hs).take _).rg
 unfold window_Window_Exec_k1
 refine I.bind fun _ _ => .ite (fun _ => ⟨_, rfl, rfl, _, _, rfl, Nat.le_refl _, hx.rg⟩) (fun _ => I.bind fun _ _ => I.bind fun _ _ => I.bind fun _ _ => I.bind fun _ _ => .ite (fun _ => I.bind fun _ _ => I.bind fun _ _ => f _) (fun _ => f _))
theorem exec_ok (hS : ST t S) (h : WI img t m W) (hm : m ≤ 900) {r : Bool} (hr : window_Window_MayExec W k S = some r) :
  Ok (window_Window_Exec W k S) (fun q => (r = true → q.1 = 0 ∧ WI img t m q.2) ∧ (r = false → q = (1, W))) := by
 have hsl := h.sl hm
 unfold window_Window_Exec
 rw [hr, Option.bind_some]
 cases r with
 | false => exact ⟨_, rfl, (fun h => by cases h), fun _ => rfl⟩
 | true =>
  rw [if_neg (by decide)]
  have hS' : ST W.t S := by rw [h.tt]; exact hS
  obtain ⟨h0, h1⟩ := (mayExec_ok hS' hsl).eq hr rfl
  refine Ok.mono (P := fun q => q.1 = 0 ∧ ∃ ys pc, q.2 = ⟨W.img, W.t, W.regs, ys, pc, W.seq, W.ended, W.held, W.at_, W.from_, W.log⟩ ∧ ys.length ≤ W.slots.length ∧ ∀ s ∈ ys, Rg s.i) ?_ fun q hq => ⟨fun _ => ?_, fun h => by cases h⟩
  ·refine (Ok.ix h0 h1).bind fun x hx => ?_
   have hg := hsl.at hx
   have go : ∀ xs : List TSlot, SL xs → xs.length = W.slots.length → ∃ s, ix xs k = some s ∧ Rg s.i := fun xs hx hl => by
    obtain ⟨s, h2, h3⟩ := Ok.ix (xs := xs) h0 (by omega)
    exact ⟨s, h2, hx.at h3⟩
   have ST1 : ∀ (xs : List TSlot) (y : TSlot), SL xs → xs.length = W.slots.length → Rg y.i → SL (xs.set (Int.toNat k) y) ∧ (xs.set (Int.toNat k) y).length = W.slots.length := fun xs y h2 h3 h4 => ⟨h2.set h4, by rw [List.length_set, h3]⟩
   have fin : ∀ xs : List TSlot, SL xs → xs.length = W.slots.length → Ok (window_Window_Exec_k1 W k xs) (fun q => q.1 = 0 ∧ ∃ ys pc, q.2 = ⟨W.img, W.t, W.regs, ys, pc, W.seq, W.ended, W.held, W.at_, W.from_, W.log⟩ ∧ ys.length ≤ W.slots.length ∧ ∀ s ∈ ys, Rg s.i) := fun xs h2 h3 => by
    rw [← h3]; exact exec1_ok h2 h0 (by omega)
   obtain ⟨s1, l1⟩ := ST1 W.slots (⟨x.seq, x.pc, x.i, x.note, x.next, true, x.committed, x.val, x.at_, x.from_, x.id⟩ : TSlot) hsl rfl hg
   generalize W.slots.set (Int.toNat k) (⟨x.seq, x.pc, x.i, x.note, x.next, true, x.committed, x.val, x.at_, x.from_, x.id⟩ : TSlot) = A at s1 l1
   obtain ⟨y, hy, gy⟩ := go A s1 l1
   rw [hy, Option.bind_some]
   unfold window_load window_store
   simp only [Option.bind_some]
   refine .ite (fun _ => ?_) (fun _ => .ite (fun _ => ?_) (fun _ => ?_))
   ·refine (source_ok (W := ⟨W.img, W.t, W.regs, A, W.pc, W.seq, W.ended, W.held, W.at_, W.from_, W.log⟩) hS' s1 h0 (by show k < (A.length : Int); omega)).bind fun q _ => ?_
    obtain ⟨s2, l2⟩ := ST1 A (⟨y.seq, y.pc, y.i, y.note, y.next, y.done, y.committed, y.val, q.1, y.from_, y.id⟩ : TSlot) s1 l1 gy
    generalize A.set (Int.toNat k) (⟨y.seq, y.pc, y.i, y.note, y.next, y.done, y.committed, y.val, q.1, y.from_, y.id⟩ : TSlot) = B at s2 l2
    obtain ⟨z, hz, gz⟩ := go B s2 l2
    simp only [hz, Option.bind_some]
    obtain ⟨s3, l3⟩ := ST1 B (⟨z.seq, z.pc, z.i, z.note, z.next, z.done, z.committed, q.2.1, z.at_, z.from_, z.id⟩ : TSlot) s2 l2 gz
    generalize B.set (Int.toNat k) (⟨z.seq, z.pc, z.i, z.note, z.next, z.done, z.committed, q.2.1, z.at_, z.from_, z.id⟩ : TSlot) = C at s3 l3
    obtain ⟨u, hu, gu⟩ := go C s3 l3
    simp only [hu, Option.bind_some]
    obtain ⟨s4, l4⟩ := ST1 C (⟨u.seq, u.pc, u.i, u.note, u.next, u.done, u.committed, u.val, u.at_, q.2.2.1, u.id⟩ : TSlot) s3 l3 gu
    exact fin _ s4 l4
   ·refine (place_ok (W := ⟨W.img, W.t, W.regs, A, W.pc, W.seq, W.ended, W.held, W.at_, W.from_, W.log⟩) s1 h0 (by show k < (A.length : Int); omega)).bind fun q _ => ?_
    obtain ⟨s2, l2⟩ := ST1 A (⟨y.seq, y.pc, y.i, y.note, y.next, y.done, y.committed, y.val, q.1, y.from_, y.id⟩ : TSlot) s1 l1 gy
    generalize A.set (Int.toNat k) (⟨y.seq, y.pc, y.i, y.note, y.next, y.done, y.committed, y.val, q.1, y.from_, y.id⟩ : TSlot) = B at s2 l2
    obtain ⟨z, hz, gz⟩ := go B s2 l2
    simp only [hz, Option.bind_some]
    refine (reg_ok (W := ⟨W.img, W.t, W.regs, B, W.pc, W.seq, W.ended, W.held, W.at_, W.from_, W.log⟩) s2 h0 (by show k ≤ (B.length : Int); omega) gz.d).bind fun p _ => ?_
    obtain ⟨s3, l3⟩ := ST1 B (⟨z.seq, z.pc, z.i, z.note, z.next, z.done, z.committed, p.1, z.at_, z.from_, z.id⟩ : TSlot) s2 l2 gz
    exact fin _ s3 l3
   ·refine (reckon_ok (W := ⟨W.img, W.t, W.regs, A, W.pc, W.seq, W.ended, W.held, W.at_, W.from_, W.log⟩) s1 h0 (by show k < (A.length : Int); omega)).bind fun q _ => ?_
    obtain ⟨s2, l2⟩ := ST1 A (⟨y.seq, y.pc, y.i, y.note, y.next, y.done, y.committed, q.1, y.at_, y.from_, y.id⟩ : TSlot) s1 l1 gy
    exact fin _ s2 l2
  ·obtain ⟨e1, ys, pc, e2, e3, e4⟩ := hq
   have := h.tot
   rw [e2]
   exact ⟨e1, h.im, h.tt, by show ys.length + W.log.length ≤ m; omega, e4⟩
theorem retire_ok (hS : ST t S) (h : WI img t m W) (hm : m ≤ 900) : Ok (window_Window_Retire W S) (WI img t m) := by
 unfold window_Window_Retire window_Window_Retire_l1
 refine Ok.loopM (B := fun s => window_Window_Retire_l1b W S s.1 s.2.1 s.2.2) (fun s => s.2.1.length + s.2.2.length ≤ m ∧ ∀ x ∈ s.2.1, Rg x.i) (fun s => s.2.1.length) (fun s hs => ?_) (s := (W.regs, W.slots, W.log)) ⟨h.tot, h.rg⟩
 obtain ⟨f, xs, ys⟩ := s
 obtain ⟨htot, hrg⟩ := hs
 have htot : xs.length + ys.length ≤ m := htot
 have hrg : ∀ x ∈ xs, Rg x.i := hrg
 show Ok (window_Window_Retire_l1b W S f xs ys) _
 unfold window_Window_Retire_l1b
 refine Ok.bind (P := fun b => b = true → 0 < xs.length) (.ite (fun hp => ?_) (fun _ => ⟨_, rfl, fun h => by cases h⟩)) fun b hb => ?_
 ·have hp : 0 < (xs.length : Int) := of_decide_eq_true hp
  exact (Ok.ix (by omega) hp).bind fun _ _ => ⟨_, rfl, fun _ => by omega⟩
 refine Ok.bind (P := fun c => c = true → 0 < xs.length) (.ite (fun hbt => ?_) (fun _ => ⟨_, rfl, fun h => by cases h⟩)) fun c hc => ?_
 ·have hp := hb hbt
  exact (Ok.ix (by omega) (by omega)).bind fun _ _ => (passed_ok hS _).bind fun _ _ => ⟨_, rfl, fun _ => hp⟩
 refine .ite (fun hct => ?_) (fun _ => ⟨_, rfl, h.im, h.tt, htot, hrg⟩)
 have hp := hc hct
 refine (Ok.ix (xs := xs) (i := 0) (by omega) (by omega)).bind fun x hx => ?_
 have hg := hrg x (List.mem_of_getElem? hx)
 have go : ∀ q, Ok (window_Window_Retire_k1 xs ys x q) (Sum.elim (fun s' => (s'.2.1.length + s'.2.2.length ≤ m ∧ ∀ x ∈ s'.2.1, Rg x.i) ∧ s'.2.1.length < xs.length) (WI img t m)) := by
  intro q
  unfold window_Window_Retire_k1
  rw [ap_some (by simp; omega), Option.bind_some]
  have e : cutL xs 1 (xs.length : Int) = some (xs.drop 1) := by
   unfold cutL
   rw [if_pos ⟨by omega, by omega, by omega⟩]
   simp
  rw [e, Option.bind_some]
  refine ⟨_, rfl, ⟨?_, fun s hs => hrg s (List.mem_of_mem_drop hs)⟩, ?_⟩
  ·show (xs.drop 1).length + (ys ++ [x]).length ≤ m
   simp; omega
  ·show (xs.drop 1).length < xs.length
   simp; omega
 refine (wr_ok x.i).bind fun w hw => .ite (fun h2 => (res_ok x).bind fun v _ => ?_) (fun _ => go _)
 have h2 : 0 ≤ w := of_decide_eq_true h2
 have := hg.d
 exact (inA_ok h2 (by rcases hw with rfl | rfl | rfl | rfl <;> omega)).bind fun _ _ => go _
end
end Go.Vm.K17
