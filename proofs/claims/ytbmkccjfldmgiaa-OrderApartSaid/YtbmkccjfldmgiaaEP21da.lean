/-
 Races, and what the document tells of two threads.
-/
import Derived.Test.YtbmkccjfldmgiaaEP21ca
import Derived.Test.YtbmkccjfldmgiaaEPl2
set_option linter.unusedSimpArgs false
set_option linter.unusedVariables false
namespace Go.Vm.GA21
open Go
def prB (x y : Tnd) : Bool := ((((!syB x.e.act) || (!syB y.e.act)) && decide (x.e.t ≠ y.e.t)) && decide (x.e.act.at_ = y.e.act.at_)) && (wrB x.e.act || wrB y.e.act)
def Rc (l : List Tnd) (H : Nat → Nat → Bool) (i k : Nat) : Prop := ∃ x y, l[i]? = some x ∧ l[k]? = some y ∧ prB x y = true ∧ H i k = false ∧ H k i = false
theorem Racy_l1_is (l : List Tnd) (hl : l.length ≤ 1000) (H : Nat → Nat → Bool) : Ok (order_Run_Racy_l1 l (t2 l.length l.length H) l l 0) (fun b => b = true ↔ ∃ i k, k < i ∧ Rc l H i k) := by
 generalize hn : l.length = n
 unfold order_Run_Racy_l1
 refine Ok.loop (B := fun s => order_Run_Racy_l1b l (t2 n n H) s.1 s.2.1 s.2.2) (fun i s => s = (l, l, (i : Int)) ∧ ∀ a k, a < i → k < a → ¬ Rc l H a k) n (fun i s hi hs => ?_) (fun s hs => ?_) ⟨rfl, fun a k h => by omega⟩
 ·obtain ⟨rfl, hs⟩ := hs
  have hx : l[i]? = some l[i] := List.getElem?_eq_getElem (by omega)
  generalize l[i]'(by omega) = x at hx
  show Ok (order_Run_Racy_l1b l (t2 n n H) l l i) _
  unfold order_Run_Racy_l1b
  rw [hn, if_pos (decide_eq_true (by omega)), ix_nat, hx]
  simp only [Option.bind_some]
  rw [cutL_take l i (by omega)]
  simp only [Option.bind_some]
  unfold order_Run_Racy_l2
  have hlen : (l.take i).length = i := by rw [List.length_take]; omega
  refine Ok.loop (B := fun s => order_Run_Racy_l2b (t2 n n H) l l i x (l.take i) s) (fun k s => s = (k : Int) ∧ ∀ k', k' < k → ¬ Rc l H i k') i (fun k s hk hs2 => ?_) (fun s hs2 => ?_) ⟨rfl, fun k h => by omega⟩
  ·obtain ⟨rfl, hs2⟩ := hs2
   have hkn : k < n := by omega
   have hy : l[k]? = some l[k] := List.getElem?_eq_getElem (by omega)
   generalize l[k]'(by omega) = y at hy
   have hy2 : (l.take i)[k]? = some y := by rw [List.getElem?_take, if_pos hk]; exact hy
   unfold order_Run_Racy_l2b
   rw [hlen, if_pos (decide_eq_true (by omega)), ix_nat, hy2]
   simp only [Option.bind_some, syncs_is, writes_is, ifor, ifand, ix_tb hi, ix_tb hkn]
   show Ok (if ((prB x y && !(H i k)) && !(H k i)) = true then _ else _) _
   ·have key : Rc l H i k ↔ (((prB x y && !(H i k)) && !(H k i)) = true) := by
     unfold Rc
     rw [hx, hy]
     constructor
     ·rintro ⟨x', y', e1, e2, h1, h2, h3⟩
      cases e1; cases e2
      rw [h1, h2, h3]; rfl
     ·intro h
      refine ⟨x, y, rfl, rfl, ?_⟩
      simpa [and_assoc] using h
    refine .ite (fun hb => .map (.map (.ret ⟨fun _ => ⟨i, k, hk, key.2 hb⟩, fun _ => rfl⟩))) (fun hb => .ret ⟨w64_succ (by omega), fun k' hk' => ?_⟩)
    by_cases h : k' = k
    ·subst h; intro hr; rw [key.1 hr] at hb; cases hb
    ·exact hs2 k' (by omega)
  ·obtain ⟨rfl, hs2⟩ := hs2
   unfold order_Run_Racy_l2b
   rw [hlen, if_neg (by simp)]
   refine .map (.ret ⟨by rw [w64_succ (by omega)], fun a k ha hk => ?_⟩)
   by_cases h : a = i
   ·subst h; exact hs2 k hk
   ·exact hs a k (by omega) hk
 ·obtain ⟨rfl, hs⟩ := hs
  show Ok (order_Run_Racy_l1b l (t2 n n H) l l n) _
  unfold order_Run_Racy_l1b
  rw [hn, if_neg (by simp)]
  refine .map (.ret ⟨(fun h => by cases h), ?_⟩)
  rintro ⟨i, k, hk, hr⟩
  refine absurd hr (hs i k ?_ hk)
  obtain ⟨x, y, h1, _⟩ := hr
  have := (List.getElem?_eq_some_iff.1 h1).1
  omega
def cyc (l : List Tnd) (ks : List Nat) : Prop := ∃ i, Rch (Ed l.length (gr l ks)) i i
theorem ways_is (l : List Tnd) (hl : l.length ≤ 1000) (ks : List Nat) (hks : ∀ k ∈ ks, k ≤ 5) (hk2 : ks.length ≤ 1000) : Ok ((order_join l ks).bind fun x => (order_graph_cyclic x).bind fun b => some (!b)) (fun r => r = true ↔ ¬ cyc l ks) := by
 rw [join_is l hl ks hks hk2]
 simp only [Option.bind_some]
 refine (cyclic_is hl (gr l ks)).bind fun b hb => .ret ?_
 unfold cyc
 rw [← hb]
 cases b <;> simp
theorem hb_is (l : List Tnd) (hl : l.length ≤ 1000) (run : List (List TEvent)) : Ok (order_Run_happens run l) (fun r => ∃ H, r = t2 l.length l.length H ∧ ∀ i j, i < l.length → j < l.length → (H i j = true ↔ Rch (Ed l.length (gr l [1, 5])) i j)) := by
 unfold order_Run_happens
 rw [join_is l hl [1, 5] (by decide) (by decide)]
 simp only [Option.bind_some]
 exact (closed_is hl _).bind fun r hr => .ret hr
def l0 : List Tnd := [⟨⟨0, ⟨2, 8, 1, 0, false, false⟩, 0, 1⟩, 0⟩, ⟨⟨0, ⟨1, 16, 0, 0, false, false⟩, 0, 0⟩, 1⟩, ⟨⟨1, ⟨2, 16, 1, 0, false, false⟩, 0, 2⟩, 0⟩, ⟨⟨1, ⟨1, 8, 0, 0, false, false⟩, 0, 0⟩, 1⟩]
theorem cyc0 : cyc l0 [1, 2, 3, 4] :=
 ⟨0, .cons (m := 1) ⟨by decide, by decide, by decide⟩ (.cons (m := 2) ⟨by decide, by decide, by decide⟩ (.cons (m := 3) ⟨by decide, by decide, by decide⟩ (.one ⟨by decide, by decide, by decide⟩)))⟩
theorem acyc0 : ¬ cyc l0 [0, 2, 3, 4] := by
 rintro ⟨i, hi⟩
 have h1 : ∀ i, i < 4 → ∀ j, j < 4 → gr l0 [0, 2, 3, 4] i j = true → (fun k => if k = 0 ∨ k = 2 then 1 else 0) i < (fun k => if k = 0 ∨ k = 2 then 1 else 0) j := by decide
 have := hi.rank (f := fun k => if k = 0 ∨ k = 2 then 1 else 0) fun i j h => h1 i h.1 j h.2.1 h.2.2
 omega
theorem hb0 {i j : Nat} (h : Rch (Ed 4 (gr l0 [1, 5])) i j) : (i < 2 ↔ j < 2) := by
 have h1 : ∀ i, i < 4 → ∀ j, j < 4 → gr l0 [1, 5] i j = true → (i < 2 ↔ j < 2) := by decide
 induction h with
 | one h => exact h1 _ h.1 _ h.2.1 h.2.2
 | cons h _ ih => exact (h1 _ h.1 _ h.2.1 h.2.2).trans ih
def run0 : List (List TEvent) := [[⟨0, ⟨2, 8, 1, 0, false, false⟩, 0, 1⟩, ⟨0, ⟨1, 16, 0, 0, false, false⟩, 0, 0⟩], [⟨1, ⟨2, 16, 1, 0, false, false⟩, 0, 2⟩, ⟨1, ⟨1, 8, 0, 0, false, false⟩, 0, 0⟩]]
theorem nods0 : order_Run_nodes run0 = some l0 := nodes1_is run0 (by decide) (by decide)
theorem serial0 : order_Run_Serial run0 = some false := by
 unfold order_Run_Serial
 rw [nods0]
 refine Ok.some_of ((ways_is l0 (by decide) [1, 2, 3, 4] (by decide) (by decide)).mono fun r hr => ?_)
 cases r with
 | false => rfl
 | true => exact absurd cyc0 (hr.1 rfl)
theorem coherent0 : order_Run_Coherent run0 = some true := by
 unfold order_Run_Coherent
 rw [nods0]
 exact Ok.some_of ((ways_is l0 (by decide) [0, 2, 3, 4] (by decide) (by decide)).mono fun r hr => hr.2 acyc0)
theorem racy0 : order_Run_Racy run0 = some true := by
 unfold order_Run_Racy
 rw [nods0]
 simp only [Option.bind_some]
 refine Ok.some_of ((hb_is l0 (by decide) run0).bind fun r hr => ?_)
 obtain ⟨H, rfl, hH⟩ := hr
 refine (Racy_l1_is l0 (by decide) H).mono fun b hb => hb.2 ⟨3, 0, by decide, _, _, rfl, rfl, by decide, ?_, ?_⟩
 ·cases h : H 3 0 with
  | false => rfl
  | true => have := hb0 ((hH 3 0 (by decide) (by decide)).1 h); omega
 ·cases h : H 0 3 with
  | false => rfl
  | true => have := hb0 ((hH 0 3 (by decide) (by decide)).1 h); omega
theorem alive_is : law21_alive = some true := by
 unfold law21_alive law21_w law21_r
 simp only [Option.bind_some]
 show (order_Run_Serial run0).bind _ = _
 rw [serial0]
 simp only [Option.bind_some, Bool.not_false, if_true]
 show ((order_Run_Coherent run0).bind fun x91 => some x91).bind _ = _
 rw [coherent0]
 simp only [Option.bind_some, if_true]
 show ((order_Run_Racy run0).bind fun x77 => some x77).bind _ = _
 rw [racy0]
 rfl
def OKrun (run : List (List TEvent)) : Prop := OKw (OKw OK_TEvent) run
theorem great_is (run : List (List TEvent)) (h : OKrun run) : Ok (law21_great run) (fun b => b = false → run.length ≤ 5 ∧ total run ≤ 24) := by
 have hr : reachBytes = 140737488351232 := rfl
 have h2 := h.2
 unfold law21_great law21_great_l1
 refine loop_for (B := fun s => law21_great_l1b run s.1 s.2) run (fun k s => s.2 = (k : Int) ∧ (k ≤ 5 → s.1 = (total (run.take k) : Int) ∧ total (run.take k) ≤ k * reachBytes)) (fun k l s hk' hk hs => ?_) (fun s hs => ?_) ⟨rfl, fun _ => ⟨by simp [total], by simp [total]⟩⟩
 ·obtain ⟨m, i⟩ := s
  obtain ⟨h1, h3⟩ := hs
  simp only at h1 h3
  subst h1
  show Ok (law21_great_l1b run m k) _
  unfold law21_great_l1b
  rw [if_pos (decide_eq_true (by omega)), ix_nat, hk]
  simp only [Option.bind_some]
  refine .ret ⟨w64_succ (by omega), fun hk5 => ?_⟩
  obtain ⟨h4, h5⟩ := h3 (by omega)
  have hl := (h.1 l (List.mem_of_getElem? hk)).2
  rw [total_take hk]
  have : k * reachBytes ≤ 5 * reachBytes := Nat.mul_le_mul_right _ (by omega)
  refine ⟨?_, by rw [Nat.add_mul, Nat.one_mul]; omega⟩
  show w64 (m + (l.length : Int)) = _
  rw [h4, w64_id (by omega) (by omega)]
  omega
 ·obtain ⟨m, i⟩ := s
  obtain ⟨h1, h3⟩ := hs
  simp only at h1 h3
  subst h1
  show Ok (law21_great_l1b run m _) _
  unfold law21_great_l1b
  rw [if_neg (by simp)]
  refine .map (.ret fun hb => ?_)
  have hb : ¬ 5 < (run.length : Int) ∧ ¬ 24 < m := by simpa using hb
  have h4 := (h3 (by omega)).1
  rw [List.take_length] at h4
  omega
theorem good_ok (run : List (List TEvent)) (h : OKrun run) : Ok (ref21_Good run) (fun _ => True) := by
 have hr : reachBytes = 140737488351232 := rfl
 have h2 := h.2
 unfold ref21_Good ref21_Good_l1
 refine loop_for (B := fun s => ref21_Good_l1b run s.1 s.2) run (fun k s => s.2 = (k : Int)) (fun k l s hk' hk hs => ?_) (fun s hs => ?_) rfl
 ·obtain ⟨m, i⟩ := s
  simp only at hs
  subst hs
  show Ok (ref21_Good_l1b run m k) _
  unfold ref21_Good_l1b
  rw [if_pos (decide_eq_true (by omega)), ix_nat, hk]
  simp only [Option.bind_some]
  have hl := (h.1 l (List.mem_of_getElem? hk)).2
  unfold ref21_Good_l2
  refine loop_for (B := fun s => ref21_Good_l2b k l s.1 s.2) l (fun j s => s.2 = (j : Int)) (fun j e s hj' hj hs => ?_) (fun s hs => ?_) rfl
  ·obtain ⟨m, i⟩ := s
   simp only at hs
   subst hs
   show Ok (ref21_Good_l2b k l m j) _
   unfold ref21_Good_l2b
   rw [if_pos (decide_eq_true (by omega)), ix_nat, hj]
   simp only [Option.bind_some]
   exact .ite (fun _ => .map (.map (.ret trivial))) (fun _ => .ite (fun _ => .map (.map (.ret trivial))) (fun _ => .ret (w64_succ (by omega))))
  ·obtain ⟨m, i⟩ := s
   simp only at hs
   subst hs
   show Ok (ref21_Good_l2b k l m _) _
   unfold ref21_Good_l2b
   rw [if_neg (by simp)]
   exact .map (.ret (w64_succ (by omega)))
 ·obtain ⟨m, i⟩ := s
  simp only at hs
  subst hs
  show Ok (ref21_Good_l1b run m _) _
  unfold ref21_Good_l1b
  rw [if_neg (by simp)]
  exact .map (.ret trivial)
end Go.Vm.GA21
