/-
 Events, their relations, and the tables of these.
-/
import Derived.Test.YtbmkccjfldmgiaaEP21xa
set_option linter.unusedSimpArgs false
set_option linter.unusedVariables false
namespace Go.Vm.GA21
open Go
def rdB (a : TAct) : Bool := (decide (a.kind = 1)) || (decide (a.kind = 5))
def wrB (a : TAct) : Bool := ((decide (a.kind = 2)) || (decide (a.kind = 5))) || (decide (a.kind = 6))
def syB (a : TAct) : Bool := ((a.volatile && ((decide (a.kind = 1)) || (decide (a.kind = 2)))) || (decide (a.kind = 5))) || (decide (a.kind = 6))
def eqE (p0 p1 : TEvent) (i j : Int) : Bool := (((decide (p0.t = p1.t)) && (((decide (p0.act.kind = p1.act.kind)) && ((decide (p0.act.at_ = p1.act.at_)) && ((decide (p0.act.val = p1.act.val)) && ((decide (p0.act.what = p1.act.what)) && ((p0.act.volatile == p1.act.volatile) && ((p0.act.final == p1.act.final) && true)))))) && ((decide (p0.rf = p1.rf)) && ((decide (p0.id = p1.id)) && true)))) && ((decide (i = j)) && true))
def poB (a b : Tnd) : Bool := (decide (a.e.t = b.e.t)) && (decide (a.at_ < b.at_))
def sameB (a b : Tnd) : Bool := decide (a.e.act.at_ = b.e.act.at_)
def rfB (a b : Tnd) : Bool := (decide (0 < a.e.id) && rdB b.e.act) && decide (b.e.rf = a.e.id)
def coB (a b : Tnd) : Bool := ((wrB a.e.act && wrB b.e.act) && sameB a b) && decide (a.e.id < b.e.id)
def frB (a b : Tnd) : Bool := (((rdB a.e.act && wrB b.e.act) && sameB a b) && decide (a.e.rf < b.e.id)) && !(eqE a.e b.e a.at_ b.at_)
def rlB (p0 p1 : Tnd) : Bool := ((((((decide (p0.e.act.kind = 6)) || (p0.e.act.volatile && (decide (p0.e.act.kind = 2)))) && ((decide (p1.e.act.kind = 5)) || (p1.e.act.volatile && (decide (p1.e.act.kind = 1))))) && (decide (p0.e.act.at_ = p1.e.act.at_))) && (decide (0 < p0.e.id))) && (decide (p0.e.id ≤ p1.e.rf)))
def rl (k : Nat) (a b : Tnd) : Bool :=
 if k = 0 then poB a b && sameB a b else if k = 1 then poB a b else if k = 2 then rfB a b else if k = 3 then coB a b else if k = 4 then frB a b else rlB a b
theorem ifand {b c : Bool} : (if b = true then some c else some false) = some (b && c) := by cases b <;> rfl
theorem ifor {b c : Bool} : (if b = true then some true else some c) = some (b || c) := by cases b <;> rfl
theorem writes_is (a : TAct) : order_writes a = some (wrB a) := rfl
theorem reads_is (a : TAct) : order_reads a = some (rdB a) := rfl
theorem syncs_is (a : TAct) : order_syncs a = some (syB a) := rfl
theorem every_is (a : TAct) : order_every a = some true := rfl
theorem rf_is (a b : Tnd) : order_rf a b = some (rfB a b) := by
 unfold order_rf
 simp only [reads_is, Option.bind_some, ifand]
 rfl
theorem co_is (a b : Tnd) : order_co a b = some (coB a b) := by
 unfold order_co
 simp only [writes_is, Option.bind_some, ifand]
 rfl
theorem fr_is (a b : Tnd) : order_fr a b = some (frB a b) := by
 unfold order_fr
 simp only [writes_is, reads_is, Option.bind_some, ifand]
 rfl
theorem join_c1_is {k : Nat} (hk : k ≤ 5) (a b : Tnd) : order_join_c1 k a b = some (rl k a b) := by
 unfold order_join_c1 rl order_Run_Coherent_c1
 simp only [rf_is, co_is, fr_is, show order_po a b = some (poB a b) from rfl, show order_released a b = some (rlB a b) from rfl, Option.bind_some]
 have h : k = 0 ∨ k = 1 ∨ k = 2 ∨ k = 3 ∨ k = 4 ∨ k = 5 := by omega
 rcases h with rfl | rfl | rfl | rfl | rfl | rfl <;> rfl
theorem contains_is (ks : List Nat) (hks : ∀ k ∈ ks, k ≤ 5) (hl : ks.length ≤ 1000) (x y : Tnd) : slices_ContainsFunc ks x y = some (ks.any (fun k => rl k x y)) := by
 unfold slices_ContainsFunc slices_IndexFunc slices_IndexFunc_l1
 refine Ok.some_of (Ok.bind (P := fun i => (i = -1 ∧ ks.any (fun k => rl k x y) = false) ∨ (0 ≤ i ∧ ks.any (fun k => rl k x y) = true)) ?_ (fun i hi => .ret ?_))
 ·refine loop_for ks (fun k s => s = (k : Int) ∧ ∀ q ∈ ks.take k, rl q x y = false) (fun k z s hk' hk hs => ?_) (fun s hs => ?_) ⟨rfl, by simp⟩
  ·obtain ⟨rfl, hs⟩ := hs
   unfold slices_IndexFunc_l1b
   rw [if_pos (by simp; omega), ix_nat, hk]
   simp only [Option.bind_some]
   rw [join_c1_is (hks z (List.mem_of_getElem? hk))]
   simp only [Option.bind_some]
   refine .ite (fun hb => .map (.ret (.inr ⟨by omega, List.any_eq_true.2 ⟨z, List.mem_of_getElem? hk, hb⟩⟩))) (fun hb => .ret ⟨w64_succ (by omega), fun q hq => ?_⟩)
   rw [mem_take_succ hk'] at hq
   rcases hq with hq | rfl
   ·exact hs q hq
   ·rw [List.getElem?_eq_getElem hk'] at hk
    rw [Option.some.inj hk]; exact hb
  ·obtain ⟨rfl, hs⟩ := hs
   unfold slices_IndexFunc_l1b
   rw [if_neg (by simp)]
   rw [List.take_length] at hs
   exact .map (.ret (.inl ⟨rfl, List.any_eq_false.2 (fun q hq => by rw [hs q hq]; decide)⟩))
 ·rcases hi with ⟨rfl, h⟩ | ⟨h1, h⟩
  ·rw [h]; rfl
  ·rw [h]; exact decide_eq_true h1
def gr (l : List Tnd) (ks : List Nat) (a b : Nat) : Bool := match l[a]?, l[b]? with
 | some x, some y => decide (a ≠ b) && ks.any (fun k => rl k x y)
 | _, _ => false
def rowJ (n : Nat) (g : Nat → Nat → Bool) (i j a : Nat) : List Bool := if a < i then tb n (g a) else if a = i then tb n (fun b => if b < j then g i b else false) else []
theorem rowJ_set {n : Nat} {g : Nat → Nat → Bool} {i j : Nat} {v : Bool} (hi : i < n) (hv : v = g i j) : (tb n (rowJ n g i j)).set i ((tb n (fun b => if b < j then g i b else false)).set j v) = tb n (rowJ n g i (j + 1)) := by
 rw [tb_set, tb_set]
 apply tb_ext
 intro a ha
 unfold rowJ
 by_cases h1 : a = i
 ·subst h1
  rw [if_pos rfl, if_neg (Nat.lt_irrefl _), if_pos rfl]
  apply tb_ext
  intro b hb
  by_cases h2 : b = j
  ·subst h2; rw [if_pos rfl, if_pos (by omega)]; exact hv
  ·rw [if_neg h2]
   by_cases h3 : b < j
   ·rw [if_pos h3, if_pos (by omega)]
   ·rw [if_neg h3, if_neg (by omega)]
 ·rw [if_neg h1, if_neg h1, if_neg h1]
theorem rowJ_at {n : Nat} {g : Nat → Nat → Bool} {i j : Nat} : rowJ n g i j i = tb n (fun b => if b < j then g i b else false) := by
 unfold rowJ; rw [if_neg (Nat.lt_irrefl _), if_pos rfl]
theorem rowJ_end {n : Nat} {g : Nat → Nat → Bool} {i : Nat} : tb n (rowJ n g i n) = tb n (fun a => if a < i + 1 then tb n (g a) else []) := by
 apply tb_ext
 intro a ha
 unfold rowJ
 by_cases h1 : a < i
 ·rw [if_pos h1, if_pos (by omega)]
 ·rw [if_neg h1]
  by_cases h2 : a = i
  ·subst h2
   rw [if_pos rfl, if_pos (by omega)]
   exact tb_ext fun b hb => by rw [if_pos hb]
  ·rw [if_neg h2, if_neg (by omega)]
theorem rowJ_new {n : Nat} {g : Nat → Nat → Bool} {i : Nat} : (tb n (fun a => if a < i then tb n (g a) else [])).set i (tb n (fun _ => false)) = tb n (rowJ n g i 0) := by
 rw [tb_set]
 apply tb_ext
 intro a ha
 unfold rowJ
 by_cases h2 : a = i
 ·subst h2
  rw [if_pos rfl, if_neg (Nat.lt_irrefl _), if_pos rfl]
  rfl
 ·rw [if_neg h2]
  by_cases h1 : a < i
  ·rw [if_pos h1, if_pos h1]
  ·rw [if_neg h1, if_neg h1, if_neg h2]
theorem join_is (l : List Tnd) (hl : l.length ≤ 1000) (ks : List Nat) (hks : ∀ k ∈ ks, k ≤ 5) (hk2 : ks.length ≤ 1000) : order_join l ks = some (t2 l.length l.length (gr l ks)) := by
 generalize hn : l.length = n
 unfold order_join
 rw [hn, mk_tb (by omega)]
 simp only [Option.bind_some]
 unfold order_join_l1
 refine Ok.some_of ?_
 refine Ok.loop (B := fun s => order_join_l1b l ks s.1 s.2) (fun i s => s.2 = (i : Int) ∧ s.1 = tb n (fun a => if a < i then tb n (gr l ks a) else [])) n (fun i s hi hs => ?_) (fun s hs => ?_) ⟨rfl, tb_ext fun a ha => by rw [if_neg (by omega)]⟩
 ·obtain ⟨xs, i'⟩ := s
  obtain ⟨h1, h2⟩ := hs
  simp only at h1 h2
  subst h1 h2
  have hx : l[i]? = some l[i] := List.getElem?_eq_getElem (by omega)
  generalize l[i]'(by omega) = x at hx
  show Ok (order_join_l1b l ks _ i) _
  unfold order_join_l1b
  rw [hn, if_pos (decide_eq_true (by omega)), ix_nat, hx, mk_tb (by omega)]
  simp only [Option.bind_some, ix_tb hi, Int.toNat_natCast]
  rw [rowJ_new]
  unfold order_join_l2
  refine Ok.loop (B := fun s => order_join_l2b l ks i x s.1 s.2) (fun j s => s.2 = (j : Int) ∧ s.1 = tb n (rowJ n (gr l ks) i j)) n (fun j s hj hs => ?_) (fun s hs => ?_) ⟨rfl, rfl⟩
  ·obtain ⟨xs, j'⟩ := s
   obtain ⟨h1, h2⟩ := hs
   simp only at h1 h2
   subst h1 h2
   have hy : l[j]? = some l[j] := List.getElem?_eq_getElem (by omega)
   generalize l[j]'(by omega) = y at hy
   show Ok (order_join_l2b l ks i x _ j) _
   unfold order_join_l2b order_join_k1
   rw [hn, if_pos (decide_eq_true (by omega)), ix_nat, hy]
   simp only [Option.bind_some, ix_tb hi, rowJ_at, ix_tb hj, Int.toNat_natCast]
   rw [contains_is ks hks hk2]
   simp only [Option.bind_some]
   have hg : gr l ks i j = (decide (i ≠ j) && ks.any (fun k => rl k x y)) := by unfold gr; rw [hx, hy]
   refine .ite (fun hb => .ret ⟨w64_succ (by omega), rowJ_set hi ?_⟩) (fun hb => .ret ⟨w64_succ (by omega), rowJ_set hi ?_⟩)
   ·have : i ≠ j := by have := of_decide_eq_true hb; omega
    rw [hg, decide_eq_true this]; rfl
   ·have : ¬ i ≠ j := by have := of_decide_eq_false hb; omega
    rw [hg, decide_eq_false this]; rfl
  ·obtain ⟨xs, j'⟩ := s
   obtain ⟨h1, h2⟩ := hs
   simp only at h1 h2
   subst h1 h2
   show Ok (order_join_l2b l ks i x _ n) _
   unfold order_join_l2b
   rw [hn, if_neg (by simp)]
   exact .map (.ret ⟨w64_succ (by omega), rowJ_end⟩)
 ·obtain ⟨xs, i'⟩ := s
  obtain ⟨h1, h2⟩ := hs
  simp only at h1 h2
  subst h1 h2
  show Ok (order_join_l1b l ks _ n) _
  unfold order_join_l1b
  rw [hn, if_neg (by simp)]
  exact .map (.ret (tb_ext fun a ha => by rw [if_pos ha]))
def toR (x : Tnd) : Tref21_Node := ⟨x.e, x.at_⟩
def wayB (x y : Tnd) (place : Bool) : Bool := (poB x y && (sameB x y || !place)) || (((rdB y.e.act && decide (0 < x.e.id)) && decide (y.e.rf = x.e.id)) || (coB x y || frB x y))
theorem Reads_is (x : Tnd) : ref21_Reads (toR x) = some (rdB x.e.act) := rfl
theorem Writes_is (x : Tnd) : ref21_Writes (toR x) = some (wrB x.e.act) := rfl
theorem sy_comm : ∀ (a b c d v : Bool), ((a || b) || (v && (c || d))) = (((v && (c || d)) || a) || b) := by decide
theorem Synced_is (x : Tnd) : ref21_Synced (toR x) = some (syB x.e.act) := congrArg some (sy_comm _ _ _ _ _)
def rowI (q : TAct → Bool) : List TEvent → Nat → List Tnd
 | [], _ => []
 | e :: l, i => (if (wrB e.act || rdB e.act) && q e.act then [⟨e, (i : Int)⟩] else []) ++ rowI q l (i + 1)
theorem rowI_app (q : TAct → Bool) : ∀ (l m : List TEvent) (i : Nat), rowI q (l ++ m) i = rowI q l i ++ rowI q m (i + l.length)
 | [], m, i => by simp [rowI]
 | e :: l, m, i => by
  rw [List.cons_append, rowI, rowI, rowI_app q l m (i + 1), List.append_assoc, List.length_cons, show i + 1 + l.length = i + (l.length + 1) from by omega]
theorem rowI_len (q : TAct → Bool) : ∀ (l : List TEvent) (i : Nat), (rowI q l i).length ≤ l.length
 | [], _ => Nat.le_refl _
 | e :: l, i => by
  rw [rowI, List.length_append, List.length_cons]
  have := rowI_len q l (i + 1)
  split <;> simp <;> omega
theorem rowI_take {q : TAct → Bool} {l : List TEvent} {k : Nat} {e : TEvent} (hk : l[k]? = some e) : rowI q (l.take (k + 1)) 0 = rowI q (l.take k) 0 ++ (if (wrB e.act || rdB e.act) && q e.act then [⟨e, (k : Int)⟩] else []) := by
 have hk' := (List.getElem?_eq_some_iff.1 hk).1
 rw [List.take_add_one, hk, Option.toList_some, rowI_app, List.length_take, Nat.min_eq_left (by omega), Nat.zero_add]
 simp [rowI]
def nods (q : TAct → Bool) (run : List (List TEvent)) : List Tnd := run.flatMap (fun l => rowI q l 0)
def total (run : List (List TEvent)) : Nat := (run.map List.length).sum
theorem nods_len (q : TAct → Bool) : ∀ (run : List (List TEvent)), (nods q run).length ≤ total run
 | [] => Nat.le_refl _
 | l :: run => by
  have h1 := nods_len q run
  have h2 := rowI_len q l 0
  unfold nods total at *
  simp at *
  omega
theorem nods_take {q : TAct → Bool} {run : List (List TEvent)} {k : Nat} {l : List TEvent} (hk : run[k]? = some l) : nods q (run.take (k + 1)) = nods q (run.take k) ++ rowI q l 0 := by
 unfold nods
 rw [List.take_add_one, hk, Option.toList_some, List.flatMap_append]
 simp
theorem total_take {run : List (List TEvent)} {k : Nat} {l : List TEvent} (hk : run[k]? = some l) : total (run.take (k + 1)) = total (run.take k) + l.length := by
 unfold total
 rw [List.take_add_one, hk, Option.toList_some, List.map_append, List.sum_append]
 simp
theorem total_le : ∀ (run : List (List TEvent)) (k : Nat), total (run.take k) ≤ total run
 | [], k => by simp [total]
 | l :: run, 0 => by simp [total]
 | l :: run, k + 1 => by
  have := total_le run k
  unfold total at *
  simp at *
  omega
theorem total_row {run : List (List TEvent)} {k : Nat} {l : List TEvent} (hk : run[k]? = some l) : total (run.take k) + l.length ≤ total run := by
 rw [← total_take hk]; exact total_le run _
theorem q_all : (fun (a : TAct) => true) = (fun _ => true) := rfl
def lkB (a : TAct) : Bool := (decide (a.kind = 5)) || (decide (a.kind = 6))
theorem lk_is (a : TAct) : order_Run_Apart_c1 a = some (lkB a) := rfl
theorem nodes2_is (run : List (List TEvent)) (hr : run.length ≤ 1000) (ht : total run ≤ 1000) : order_Run_nodes_2 run = some (nods lkB run) := by
 unfold order_Run_nodes_2 order_Run_nodes_2_l1
 refine Ok.some_of ?_
 refine loop_for (B := fun s => order_Run_nodes_2_l1b run s.1 s.2) run (fun k s => s.2 = (k : Int) ∧ s.1 = nods lkB (run.take k)) (fun k l s hk' hk hs => ?_) (fun s hs => ?_) ⟨rfl, rfl⟩
 ·obtain ⟨xs, i'⟩ := s
  obtain ⟨h1, h2⟩ := hs
  simp only at h1 h2
  subst h1 h2
  show Ok (order_Run_nodes_2_l1b run _ k) _
  unfold order_Run_nodes_2_l1b
  rw [if_pos (decide_eq_true (by omega)), ix_nat, hk]
  simp only [Option.bind_some]
  unfold order_Run_nodes_2_l2
  have hrow := total_row hk
  have hnl := nods_len lkB (run.take k)
  refine loop_for (B := fun s => order_Run_nodes_2_l2b k l s.1 s.2) l (fun j s => s.2 = (j : Int) ∧ s.1 = (nods lkB (run.take k) ++ rowI lkB (l.take j) 0)) (fun j e s hj' hj hs => ?_) (fun s hs => ?_) ⟨rfl, by simp [rowI]⟩
  ·obtain ⟨xs, j'⟩ := s
   obtain ⟨h1, h2⟩ := hs
   simp only at h1 h2
   subst h1 h2
   have hrl := rowI_len lkB (l.take j) 0
   rw [List.length_take] at hrl
   show Ok (order_Run_nodes_2_l2b k l _ j) _
   unfold order_Run_nodes_2_l2b order_Run_nodes_2_k1
   rw [if_pos (decide_eq_true (by omega)), ix_nat, hj]
   simp only [Option.bind_some, writes_is, reads_is, lk_is, ifor, ifand]
   rw [rowI_take hj]
   refine .ite (fun hb => ?_) (fun hb => ?_)
   ·rw [hb, ap_some (by simp; omega)]
    refine .ret ⟨w64_succ (by omega), ?_⟩
    simp []
   ·rw [hb]
    refine .ret ⟨w64_succ (by omega), ?_⟩
    simp
  ·obtain ⟨xs, j'⟩ := s
   obtain ⟨h1, h2⟩ := hs
   simp only at h1 h2
   subst h1 h2
   show Ok (order_Run_nodes_2_l2b k l _ _) _
   unfold order_Run_nodes_2_l2b
   rw [if_neg (by simp), List.take_length]
   exact .map (.ret ⟨w64_succ (by omega), by rw [nods_take hk]⟩)
 ·obtain ⟨xs, i'⟩ := s
  obtain ⟨h1, h2⟩ := hs
  simp only at h1 h2
  subst h1 h2
  show Ok (order_Run_nodes_2_l1b run _ _) _
  unfold order_Run_nodes_2_l1b
  rw [if_neg (by simp), List.take_length]
  exact .map (.ret rfl)
theorem nodes1_is (run : List (List TEvent)) (hr : run.length ≤ 1000) (ht : total run ≤ 1000) : order_Run_nodes run = some (nods (fun _ => true) run) := by
 unfold order_Run_nodes order_Run_nodes_l1
 refine Ok.some_of ?_
 refine loop_for (B := fun s => order_Run_nodes_l1b run s.1 s.2) run (fun k s => s.2 = (k : Int) ∧ s.1 = nods (fun _ => true) (run.take k)) (fun k l s hk' hk hs => ?_) (fun s hs => ?_) ⟨rfl, rfl⟩
 ·obtain ⟨xs, i'⟩ := s
  obtain ⟨h1, h2⟩ := hs
  simp only at h1 h2
  subst h1 h2
  show Ok (order_Run_nodes_l1b run _ k) _
  unfold order_Run_nodes_l1b
  rw [if_pos (decide_eq_true (by omega)), ix_nat, hk]
  simp only [Option.bind_some]
  unfold order_Run_nodes_l2
  have hrow := total_row hk
  have hnl := nods_len (fun _ => true) (run.take k)
  refine loop_for (B := fun s => order_Run_nodes_l2b run k l s.1 s.2) l (fun j s => s.2 = (j : Int) ∧ s.1 = (nods (fun _ => true) (run.take k) ++ rowI (fun _ => true) (l.take j) 0)) (fun j e s hj' hj hs => ?_) (fun s hs => ?_) ⟨rfl, by simp [rowI]⟩
  ·obtain ⟨xs, j'⟩ := s
   obtain ⟨h1, h2⟩ := hs
   simp only at h1 h2
   subst h1 h2
   have hrl := rowI_len (fun _ => true) (l.take j) 0
   rw [List.length_take] at hrl
   show Ok (order_Run_nodes_l2b run k l _ j) _
   unfold order_Run_nodes_l2b order_Run_nodes_k1
   rw [if_pos (decide_eq_true (by omega)), ix_nat, hk, Option.bind_some, ix_nat, hj]
   simp only [Option.bind_some, writes_is, reads_is, every_is, ifor, ifand]
   rw [rowI_take hj]
   refine .ite (fun hb => ?_) (fun hb => ?_)
   ·rw [hb, ap_some (by simp; omega)]
    refine .ret ⟨w64_succ (by omega), ?_⟩
    simp []
   ·rw [hb]
    refine .ret ⟨w64_succ (by omega), ?_⟩
    simp
  ·obtain ⟨xs, j'⟩ := s
   obtain ⟨h1, h2⟩ := hs
   simp only at h1 h2
   subst h1 h2
   show Ok (order_Run_nodes_l2b run k l _ _) _
   unfold order_Run_nodes_l2b
   rw [if_neg (by simp), List.take_length]
   exact .map (.ret ⟨w64_succ (by omega), by rw [nods_take hk]⟩)
 ·obtain ⟨xs, i'⟩ := s
  obtain ⟨h1, h2⟩ := hs
  simp only at h1 h2
  subst h1 h2
  show Ok (order_Run_nodes_l1b run _ _) _
  unfold order_Run_nodes_l1b
  rw [if_neg (by simp), List.take_length]
  exact .map (.ret rfl)
theorem Nodes_is (run : List (List TEvent)) (hr : run.length ≤ 1000) (ht : total run ≤ 1000) (only : Bool) : ref21_Nodes run only = some ((nods (fun a => !only || syB a) run).map toR) := by
 unfold ref21_Nodes ref21_Nodes_l1
 refine Ok.some_of ?_
 refine loop_for (B := fun s => ref21_Nodes_l1b run only s.1 s.2) run (fun k s => s.2 = (k : Int) ∧ s.1 = (nods (fun a => !only || syB a) (run.take k)).map toR) (fun k l s hk' hk hs => ?_) (fun s hs => ?_) ⟨rfl, rfl⟩
 ·obtain ⟨xs, i'⟩ := s
  obtain ⟨h1, h2⟩ := hs
  simp only at h1 h2
  subst h1 h2
  show Ok (ref21_Nodes_l1b run only _ k) _
  unfold ref21_Nodes_l1b
  rw [if_pos (decide_eq_true (by omega)), ix_nat, hk]
  simp only [Option.bind_some]
  unfold ref21_Nodes_l2
  have hrow := total_row hk
  have hnl := nods_len (fun a => !only || syB a) (run.take k)
  refine loop_for (B := fun s => ref21_Nodes_l2b only k l s.1 s.2) l (fun j s => s.2 = (j : Int) ∧ s.1 = ((nods (fun a => !only || syB a) (run.take k) ++ rowI (fun a => !only || syB a) (l.take j) 0)).map toR) (fun j e s hj' hj hs => ?_) (fun s hs => ?_) ⟨rfl, by simp [rowI]⟩
  ·obtain ⟨xs, j'⟩ := s
   obtain ⟨h1, h2⟩ := hs
   simp only at h1 h2
   subst h1 h2
   have hrl := rowI_len (fun a => !only || syB a) (l.take j) 0
   rw [List.length_take] at hrl
   show Ok (ref21_Nodes_l2b only k l _ j) _
   unfold ref21_Nodes_l2b ref21_Nodes_k1
   rw [if_pos (decide_eq_true (by omega)), ix_nat, hj]
   simp only [Option.bind_some, show ∀ (e : TEvent) (i : Int), (⟨e, i⟩ : Tref21_Node) = toR ⟨e, i⟩ from fun _ _ => rfl, Reads_is, Writes_is, Synced_is, ifor, ifand]
   rw [rowI_take hj]
   rw [Bool.or_comm (rdB e.act) (wrB e.act)]
   refine .ite (fun hb => ?_) (fun hb => ?_)
   ·rw [hb, ap_some (by simp; omega)]
    refine .ret ⟨w64_succ (by omega), ?_⟩
    simp [toR]
   ·rw [hb]
    refine .ret ⟨w64_succ (by omega), ?_⟩
    simp
  ·obtain ⟨xs, j'⟩ := s
   obtain ⟨h1, h2⟩ := hs
   simp only at h1 h2
   subst h1 h2
   show Ok (ref21_Nodes_l2b only k l _ _) _
   unfold ref21_Nodes_l2b
   rw [if_neg (by simp), List.take_length]
   exact .map (.ret ⟨w64_succ (by omega), by rw [nods_take hk]⟩)
 ·obtain ⟨xs, i'⟩ := s
  obtain ⟨h1, h2⟩ := hs
  simp only at h1 h2
  subst h1 h2
  show Ok (ref21_Nodes_l1b run only _ _) _
  unfold ref21_Nodes_l1b
  rw [if_neg (by simp), List.take_length]
  exact .map (.ret rfl)
end Go.Vm.GA21
