/-
 Nobody is within a lock of another one.
-/
import Derived.Test.YtbmkccjfldmgiaaEP21da
import Derived.Test.YtbmkccjfldmgiaaEP21u
set_option linter.unusedSimpArgs false
set_option linter.unusedVariables false
namespace Go.Vm.GA21
open Go
structure GoodIds (l : List TEvent) : Prop where
 nn : ∀ e ∈ l, 0 ≤ e.id
 ds : l.Pairwise (fun x y => 0 < x.id → x.id ≠ y.id)
theorem GoodIds.snoc {l : List TEvent} (g : GoodIds l) {e : TEvent} (h0 : 0 ≤ e.id) (h1 : 0 < e.id → ∀ x ∈ l, x.id ≠ e.id) : GoodIds (l ++ [e]) := by
 refine ⟨fun x hx => ?_, ?_⟩
 ·rcases List.mem_append.1 hx with hx | hx
  ·exact g.nn x hx
  ·rcases List.mem_singleton.1 hx with rfl; exact h0
 ·rw [List.pairwise_append]
  refine ⟨g.ds, by simp, fun a ha b hb h2 e2 => ?_⟩
  rcases List.mem_singleton.1 hb with rfl
  exact h1 (by omega) a ha e2
def Seen (l : List TEvent) (m : List (Int × Bool)) : Prop := ∀ e ∈ l, mG m e.id = some true
theorem Seen.snoc {l : List TEvent} {m : List (Int × Bool)} (h : Seen l m) (e : TEvent) : Seen (l ++ [e]) (mS m e.id true) := by
 intro x hx
 rw [mG_mS]
 by_cases h1 : e.id = x.id
 ·rw [if_pos h1]
 ·rw [if_neg h1]
  rcases List.mem_append.1 hx with hx | hx
  ·exact h x hx
  ·rcases List.mem_singleton.1 hx with rfl; exact absurd rfl h1
theorem flat_take {run : List (List TEvent)} {k : Nat} {l : List TEvent} (hk : run[k]? = some l) : (run.take (k + 1)).flatten = (run.take k).flatten ++ l := by
 rw [List.take_add_one, hk, Option.toList_some, List.flatten_append]
 simp
theorem good_is (run : List (List TEvent)) (h : OKrun run) : Ok (ref21_Good run) (fun b => b = true → GoodIds run.flatten) := by
 have hr : reachBytes = 140737488351232 := rfl
 have h2 := h.2
 unfold ref21_Good ref21_Good_l1
 refine loop_for (B := fun s => ref21_Good_l1b run s.1 s.2) run (fun k s => s.2 = (k : Int) ∧ GoodIds (run.take k).flatten ∧ Seen (run.take k).flatten s.1) (fun k l s hk' hk hs => ?_) (fun s hs => ?_) ⟨rfl, ⟨by simp, by simp⟩, by intro e he; simp at he⟩
 ·obtain ⟨m, i⟩ := s
  obtain ⟨h1, hg, hs⟩ := hs
  simp only at h1 hs
  subst h1
  show Ok (ref21_Good_l1b run m k) _
  unfold ref21_Good_l1b
  rw [if_pos (decide_eq_true (by omega)), ix_nat, hk]
  simp only [Option.bind_some]
  have hl := (h.1 l (List.mem_of_getElem? hk)).2
  unfold ref21_Good_l2
  refine loop_for (B := fun s => ref21_Good_l2b k l s.1 s.2) l (fun j s => s.2 = (j : Int) ∧ GoodIds ((run.take k).flatten ++ l.take j) ∧ Seen ((run.take k).flatten ++ l.take j) s.1) (fun j e s hj' hj hs2 => ?_) (fun s hs2 => ?_) ⟨rfl, by simpa using hg, by simpa using hs⟩
  ·obtain ⟨m, i⟩ := s
   obtain ⟨h1, hg2, hs2⟩ := hs2
   simp only at h1 hs2
   subst h1
   show Ok (ref21_Good_l2b k l m j) _
   unfold ref21_Good_l2b
   rw [if_pos (decide_eq_true (by omega)), ix_nat, hj]
   simp only [Option.bind_some]
   have et : l.take (j + 1) = l.take j ++ [e] := by rw [List.take_add_one, hj, Option.toList_some]
   refine .ite (fun _ => .map (.map (.ret (fun h => by cases h)))) (fun hb => .ite (fun _ => .map (.map (.ret (fun h => by cases h)))) (fun hc => .ret ⟨w64_succ (by omega), ?_, ?_⟩))
   ·rw [et, ← List.append_assoc]
    have h3 : (e.t = (k : Int) ∧ 0 ≤ e.rf) ∧ 0 ≤ e.id := by simpa using hb
    refine hg2.snoc h3.2 fun hpos x hx hxe => ?_
    have := hs2 x hx
    rw [hxe] at this
    rw [this, decide_eq_true hpos] at hc
    cases hc
   ·rw [et, ← List.append_assoc]
    exact hs2.snoc e
  ·obtain ⟨m, i⟩ := s
   obtain ⟨h1, hg2, hs2⟩ := hs2
   simp only at h1 hs2
   subst h1
   rw [List.take_length] at hg2 hs2
   show Ok (ref21_Good_l2b k l m _) _
   unfold ref21_Good_l2b
   rw [if_neg (by simp)]
   exact .map (.ret ⟨w64_succ (by omega), by rw [flat_take hk]; exact hg2, by rw [flat_take hk]; exact hs2⟩)
 ·obtain ⟨m, i⟩ := s
  obtain ⟨h1, hg, hs⟩ := hs
  simp only at h1 hs
  subst h1
  rw [List.take_length] at hg
  show Ok (ref21_Good_l1b run m _) _
  unfold ref21_Good_l1b
  rw [if_neg (by simp)]
  exact .map (.ret fun _ => hg)
theorem rowI_ev (q : TAct → Bool) : ∀ (l : List TEvent) (i : Nat), ((rowI q l i).map (fun x => x.e)).Sublist l
 | [], _ => .slnil
 | e :: l, i => by
  rw [rowI, List.map_append]
  have ih := rowI_ev q l (i + 1)
  split
  ·exact .cons_cons e ih
  ·exact .cons e ih
theorem nods_ev (q : TAct → Bool) : ∀ (run : List (List TEvent)), ((nods q run).map (fun x => x.e)).Sublist run.flatten
 | [] => .slnil
 | l :: run => by
  unfold nods
  rw [List.flatMap_cons, List.map_append, List.flatten_cons]
  exact List.Sublist.append (rowI_ev q l 0) (nods_ev q run)
theorem rowI_q (q : TAct → Bool) : ∀ (l : List TEvent) (i : Nat) (x : Nd), x ∈ rowI q l i → q x.e.act = true
 | [], _, _, h => by cases h
 | e :: l, i, x, h => by
  rw [rowI] at h
  rcases List.mem_append.1 h with h | h
  ·split at h
   ·rename_i hc
    rcases List.mem_singleton.1 h with rfl
    exact ((Bool.and_eq_true _ _).mp hc).2
   ·cases h
  ·exact rowI_q q l (i + 1) x h
theorem nods_q (q : TAct → Bool) (run : List (List TEvent)) (x : Nd) (h : x ∈ nods q run) : q x.e.act = true := by
 unfold nods at h
 obtain ⟨l, _, hx⟩ := List.mem_flatMap.1 h
 exact rowI_q q l 0 x hx
theorem lk_sy {a : TAct} (h : lkB a = true) : syB a = true := by
 unfold lkB at h
 unfold syB
 cases h5 : decide (a.kind = 5) with
 | true => simp
 | false => rw [h5] at h; simp at h; simp [h]
theorem rowI_lk : ∀ (l : List TEvent) (i : Nat), (rowI syB l i).filter (fun x => lkB x.e.act) = rowI lkB l i
 | [], _ => rfl
 | e :: l, i => by
  rw [rowI, rowI, List.filter_append, rowI_lk l (i + 1)]
  congr 1
  cases h1 : wrB e.act || rdB e.act with
  | false => rfl
  | true =>
   rw [Bool.true_and, Bool.true_and]
   cases h2 : lkB e.act with
   | true => rw [lk_sy h2]; simp [h2]
   | false =>
    cases syB e.act with
    | true => simp [h2]
    | false => rfl
theorem nods_lk : ∀ (run : List (List TEvent)), (nods syB run).filter (fun x => lkB x.e.act) = nods lkB run
 | [] => rfl
 | l :: run => by
  unfold nods
  rw [List.flatMap_cons, List.flatMap_cons, List.filter_append, rowI_lk]
  congr 1
  exact nods_lk run
def Pv (mem : Nd → Prop) (x y : Nd) : Prop := mem y ∧ y.e.act.at_ = x.e.act.at_ ∧ ky y < ky x ∧ ∀ z, mem z → z.e.act.at_ = x.e.act.at_ → ky z < ky x → ky z ≤ ky y
def Bad (mem : Nd → Prop) (x : Nd) : Prop := (∃ y, Pv mem x y ∧ y.e.t ≠ x.e.t ∧ (y.e.act.val ≠ 0 ∨ x.e.act.kind = 6)) ∨ ((¬ ∃ y, Pv mem x y) ∧ x.e.act.kind = 6)
theorem Pv.one {mem : Nd → Prop} (hi : ∀ y z, mem y → mem z → ky y = ky z → y = z) {x y z : Nd} (h1 : Pv mem x y) (h2 : Pv mem x z) : y = z := by
 have := h1.2.2.2 z h2.1 h2.2.1 h2.2.2.1
 have := h2.2.2.2 y h1.1 h1.2.1 h1.2.2.1
 exact hi y z h1.1 h2.1 (by omega)
theorem Bad.some {mem : Nd → Prop} (hi : ∀ y z, mem y → mem z → ky y = ky z → y = z) {x y : Nd} (h : Pv mem x y) : Bad mem x ↔ (y.e.t ≠ x.e.t ∧ (y.e.act.val ≠ 0 ∨ x.e.act.kind = 6)) := by
 constructor
 ·rintro (⟨z, h1, h2⟩ | ⟨h1, _⟩)
  ·rw [h.one hi h1]; exact h2
  ·exact absurd ⟨y, h⟩ h1
 ·intro h2; exact .inl ⟨y, h, h2⟩
theorem Bad.none {mem : Nd → Prop} {x : Nd} (h : ¬ ∃ y, Pv mem x y) : Bad mem x ↔ x.e.act.kind = 6 := by
 constructor
 ·rintro (⟨y, h1, _⟩ | ⟨_, h1⟩)
  ·exact absurd ⟨y, h1⟩ h
  ·exact h1
 ·intro h2; exact .inr ⟨h, h2⟩
section
variable {n : Nat} {h : Nat → Nd}
def Mem (n : Nat) (h : Nat → Nd) (z : Nd) : Prop := ∃ j, j < n ∧ z = h j
theorem Mem.inj (hi : Inj n h) (y z : Nd) (hy : Mem n h y) (hz : Mem n h z) (e : ky y = ky z) : y = z := by
 obtain ⟨i, h1, rfl⟩ := hy
 obtain ⟨j, h2, rfl⟩ := hz
 rw [hi i j h1 h2 e]
theorem Mem.pm {h' : Nat → Nd} (hp : Pm 0 n h h') (z : Nd) : Mem n h z ↔ Mem n h' z := by
 obtain ⟨p, q, h1, h2, h3, h4⟩ := hp
 have qlt : ∀ k, k < n → q k < n := by
  intro k hk
  by_cases hq : q k < n
  ·exact hq
  ·have := h3 (q k) (.inr (by omega))
   rw [(h2 k).1] at this
   omega
 constructor
 ·rintro ⟨j, hj, rfl⟩
  exact ⟨q j, qlt j hj, by rw [h1, (h2 j).1]⟩
 ·rintro ⟨j, hj, rfl⟩
  exact ⟨p j, (h4 j (Nat.zero_le _) hj).2, h1 j⟩
def Last (h : Nat → Nd) (k : Nat) (m : List (Int × TEvent)) (p : Int) : Prop := (mG m p = none ∧ ∀ j, j < k → (h j).e.act.at_ ≠ p) ∨ ∃ j, j < k ∧ mG m p = some (h j).e ∧ (h j).e.act.at_ = p ∧ ∀ j', j < j' → j' < k → (h j').e.act.at_ ≠ p
theorem Last.next {k : Nat} {m : List (Int × TEvent)} (hl : ∀ p, Last h k m p) (p : Int) : Last h (k + 1) (mS m (h k).e.act.at_ (h k).e) p := by
 unfold Last
 rw [mG_mS]
 by_cases hp : (h k).e.act.at_ = p
 ·rw [if_pos hp]
  exact .inr ⟨k, by omega, rfl, hp, fun j' h1 h2 => by omega⟩
 ·rw [if_neg hp]
  rcases hl p with ⟨h1, h2⟩ | ⟨j, h1, h2, h3, h4⟩
  ·refine .inl ⟨h1, fun j hj => ?_⟩
   by_cases e : j = k
   ·subst e; exact hp
   ·exact h2 j (by omega)
  ·refine .inr ⟨j, by omega, h2, h3, fun j' h5 h6 => ?_⟩
   by_cases e : j' = k
   ·subst e; exact hp
   ·exact h4 j' h5 (by omega)
theorem key_lt (hi : Inj n h) (hs : Srt 0 n h) {i j : Nat} (hin : i < n) (hjn : j < n) : ky (h i) < ky (h j) ↔ i < j := by
 constructor
 ·intro h1
  rcases Nat.lt_trichotomy i j with h2 | h2 | h2
  ·exact h2
  ·subst h2; omega
  ·have := hs j i (Nat.zero_le _) h2 hin; omega
 ·intro h1
  have h2 := hs i j (Nat.zero_le _) h1 hjn
  have h3 : ky (h i) ≠ ky (h j) := fun e => by have := hi i j hin hjn e; omega
  omega
theorem pass_is (hn : n ≤ 1000) (hi : Inj n h) (hs : Srt 0 n h) : Ok (order_Run_Apart_l1 (tb n h) [] 0) (fun b => b = true ↔ ∀ k, k < n → ¬ Bad (Mem n h) (h k)) := by
 unfold order_Run_Apart_l1
 refine Ok.loop (B := fun s => order_Run_Apart_l1b (tb n h) s.1 s.2) (fun k s => s.2 = (k : Int) ∧ (∀ p, Last h k s.1 p) ∧ ∀ j, j < k → ¬ Bad (Mem n h) (h j)) n (fun k s hk hs0 => ?_) (fun s hs0 => ?_) ⟨rfl, fun p => .inl ⟨rfl, fun j hj => by omega⟩, fun j hj => by omega⟩
 ·obtain ⟨m, i⟩ := s
  obtain ⟨h1, hl, hb⟩ := hs0
  simp only at h1 hl
  subst h1
  show Ok (order_Run_Apart_l1b (tb n h) m k) _
  unfold order_Run_Apart_l1b
  rw [tb_len, if_pos (decide_eq_true (by omega)), ix_tb hk]
  simp only [Option.bind_some]
  have key : Bad (Mem n h) (h k) ↔ ((((((mG m (h k).e.act.at_).isSome) && (decide (((mG m (h k).e.act.at_).getD (⟨0, (⟨0, 0, 0, 0, false, false⟩ : TAct), 0, 0⟩ : TEvent)).act.val ≠ 0))) && (decide (((mG m (h k).e.act.at_).getD (⟨0, (⟨0, 0, 0, 0, false, false⟩ : TAct), 0, 0⟩ : TEvent)).t ≠ (h k).e.t))) || ((decide ((h k).e.act.kind = 6)) && ((!((mG m (h k).e.act.at_).isSome)) || (decide (((mG m (h k).e.act.at_).getD (⟨0, (⟨0, 0, 0, 0, false, false⟩ : TAct), 0, 0⟩ : TEvent)).t ≠ (h k).e.t))))) = true) := by
   rcases hl (h k).e.act.at_ with ⟨h1, h2⟩ | ⟨j, h1, h2, h3, h4⟩
   ·rw [Bad.none, h1]
    ·simp
    ·rintro ⟨y, ⟨j, hj, rfl⟩, h3, h4, _⟩
     exact h2 j ((key_lt hi hs hj hk).1 h4) h3
   ·have hp : Pv (Mem n h) (h k) (h j) := by
     refine ⟨⟨j, by omega, rfl⟩, h3, (key_lt hi hs (by omega) hk).2 h1, ?_⟩
     rintro z ⟨j', hj', rfl⟩ h5 h6
     have h7 := (key_lt hi hs hj' hk).1 h6
     have h8 : ¬ j < j' := fun h9 => h4 j' h9 h7 h5
     by_cases e : j' = j
     ·subst e; exact Int.le_refl _
     ·exact hs j' j (Nat.zero_le _) (by omega) (by omega)
    rw [Bad.some (Mem.inj hi) hp, h2]
    simp only [Option.isSome_some, Option.getD_some, Bool.true_and, Bool.not_true, Bool.false_or, Bool.or_eq_true, Bool.and_eq_true, decide_eq_true_eq]
    constructor
    ·rintro ⟨h5, h6 | h6⟩
     ·exact .inl ⟨h6, h5⟩
     ·exact .inr ⟨h6, h5⟩
    ·rintro (⟨h5, h6⟩ | ⟨h5, h6⟩)
     ·exact ⟨h6, .inl h5⟩
     ·exact ⟨h6, .inr h5⟩
  refine .ite (fun hc => .map (.ret ⟨(fun h => by cases h), fun h => absurd (key.2 hc) (h k hk)⟩)) (fun hc => .ret ⟨w64_succ (by omega), Last.next hl, fun j hj => ?_⟩)
  by_cases e : j = k
  ·subst e; intro h9; rw [key.1 h9] at hc; cases hc
  ·exact hb j (by omega)
 ·obtain ⟨m, i⟩ := s
  obtain ⟨h1, hl, hb⟩ := hs0
  simp only at h1 hl
  subst h1
  show Ok (order_Run_Apart_l1b (tb n h) m n) _
  unfold order_Run_Apart_l1b
  rw [tb_len, if_neg (by simp)]
  exact .map (.ret ⟨fun _ => hb, fun _ => rfl⟩)
theorem rix {i : Nat} (hin : i < n) : ix ((tb n h).map toR) (i : Int) = some (toR (h i)) := by
 rw [ix_nat, List.getElem?_map, tb_get?, if_pos hin]; rfl
def Prv (h : Nat → Nd) (x : Nd) (k : Nat) (p : Int) : Prop := (p = -1 ∧ ∀ j, j < k → ¬ ((h j).e.act.at_ = x.e.act.at_ ∧ ky (h j) < ky x)) ∨ ∃ j : Nat, p = (j : Int) ∧ j < k ∧ (h j).e.act.at_ = x.e.act.at_ ∧ ky (h j) < ky x ∧ ∀ j', j' < k → (h j').e.act.at_ = x.e.act.at_ → ky (h j') < ky x → ky (h j') ≤ ky (h j)
theorem look_is (hn : n ≤ 1000) (hi : Inj n h) : Ok (ref21_Apart_l2 ((tb n h).map toR) 0) (fun b => b = true ↔ ∀ k, k < n → ¬ Bad (Mem n h) (h k)) := by
 have hlen : ((tb n h).map toR).length = n := by rw [List.length_map, tb_len]
 unfold ref21_Apart_l2
 refine Ok.loop (B := fun s => ref21_Apart_l2b ((tb n h).map toR) s) (fun k s => s = (k : Int) ∧ ∀ j, j < k → ¬ Bad (Mem n h) (h j)) n (fun k s hk hs0 => ?_) (fun s hs0 => ?_) ⟨rfl, fun j hj => by omega⟩
 ·obtain ⟨rfl, hb⟩ := hs0
  unfold ref21_Apart_l2b
  rw [hlen, if_pos (decide_eq_true (by omega)), rix hk]
  simp only [Option.bind_some]
  unfold ref21_Apart_l3
  have bad : Bad (Mem n h) (h k) → Ok ((some false).map Sum.inr : Option (Int ⊕ Bool)) (Sum.elim (fun s => s = ((k + 1 : Nat) : Int) ∧ ∀ j, j < k + 1 → ¬ Bad (Mem n h) (h j)) (fun b => b = true ↔ ∀ k, k < n → ¬ Bad (Mem n h) (h k))) := fun hB => .map (.ret ⟨(fun h => by cases h), fun h9 => absurd hB (h9 k hk)⟩)
  have good : ¬ Bad (Mem n h) (h k) → Ok (ref21_Apart_k2 (k : Int)) (Sum.elim (fun s => s = ((k + 1 : Nat) : Int) ∧ ∀ j, j < k + 1 → ¬ Bad (Mem n h) (h j)) (fun b => b = true ↔ ∀ k, k < n → ¬ Bad (Mem n h) (h k))) := by
   intro hB
   unfold ref21_Apart_k2
   refine .ret ⟨w64_succ (by omega), fun j hj => ?_⟩
   by_cases e : j = k
   ·subst e; exact hB
   ·exact hb j (by omega)
  refine Ok.loop (B := fun s => ref21_Apart_l3b ((tb n h).map toR) k (toR (h k)) s.1 s.2) (fun q s => s.2 = (q : Int) ∧ Prv h (h k) q s.1) n (fun q s hq hs => ?_) (fun s hs => ?_) ⟨rfl, .inl ⟨rfl, fun j hj => by omega⟩⟩
  ·obtain ⟨p, q'⟩ := s
   obtain ⟨h1, hP⟩ := hs
   simp only at h1 hP
   subst h1
   show Ok (ref21_Apart_l3b ((tb n h).map toR) k (toR (h k)) p q) _
   unfold ref21_Apart_l3b
   rw [hlen, if_pos (decide_eq_true (by omega)), rix hq]
   simp only [Option.bind_some]
   have stay : ¬ ((h q).e.act.at_ = (h k).e.act.at_ ∧ ky (h q) < ky (h k)) ∨ (∃ j : Nat, p = (j : Int) ∧ ky (h q) ≤ ky (h j)) → Ok (ref21_Apart_k4 p (q : Int) false) (Sum.elim (fun s => s.2 = ((q + 1 : Nat) : Int) ∧ Prv h (h k) (q + 1) s.1) (Sum.elim (fun s => s = ((k + 1 : Nat) : Int) ∧ ∀ j, j < k + 1 → ¬ Bad (Mem n h) (h j)) (fun b => b = true ↔ ∀ k, k < n → ¬ Bad (Mem n h) (h k)))) := by
    intro hst
    unfold ref21_Apart_k4 ref21_Apart_k3
    rw [if_neg (by decide)]
    refine .ret ⟨w64_succ (by omega), ?_⟩
    show Prv h (h k) (q + 1) p
    rcases hP with ⟨h1, h2⟩ | ⟨j, h1, h2, h3, h4, h5⟩
    ·refine .inl ⟨h1, fun j hj => ?_⟩
     by_cases e : j = q
     ·subst e
      rcases hst with h9 | ⟨j', h9, _⟩
      ·exact h9
      ·omega
     ·exact h2 j (by omega)
    ·refine .inr ⟨j, h1, by omega, h3, h4, fun j' h6 h7 h8 => ?_⟩
     by_cases e : j' = q
     ·subst e
      rcases hst with h9 | ⟨j'', h9, h10⟩
      ·exact absurd ⟨h7, h8⟩ h9
      ·have : j'' = j := by omega
       subst this; exact h10
     ·exact h5 j' (by omega) h7 h8
   have take : (h q).e.act.at_ = (h k).e.act.at_ → ky (h q) < ky (h k) → (p < 0 ∨ ∃ j : Nat, p = (j : Int) ∧ ky (h j) < ky (h q)) → Ok (ref21_Apart_k4 p (q : Int) true) (Sum.elim (fun s => s.2 = ((q + 1 : Nat) : Int) ∧ Prv h (h k) (q + 1) s.1) (Sum.elim (fun s => s = ((k + 1 : Nat) : Int) ∧ ∀ j, j < k + 1 → ¬ Bad (Mem n h) (h j)) (fun b => b = true ↔ ∀ k, k < n → ¬ Bad (Mem n h) (h k)))) := by
    intro h1 h2 h3
    unfold ref21_Apart_k4 ref21_Apart_k3
    rw [if_pos rfl]
    refine .ret ⟨w64_succ (by omega), .inr ⟨q, rfl, by omega, h1, h2, fun j' h6 h7 h8 => ?_⟩⟩
    by_cases e : j' = q
    ·subst e; exact Int.le_refl _
    ·rcases hP with ⟨h9, h10⟩ | ⟨j, h9, h10, h11, h12, h13⟩
     ·exact absurd ⟨h7, h8⟩ (h10 j' (by omega))
     ·have := h13 j' (by omega) h7 h8
      rcases h3 with h3 | ⟨j'', h3, h14⟩
      ·omega
      ·have : j'' = j := by omega
       subst this; omega
   refine .ite (fun hc1 => .ite (fun hc2 => .ite (fun hc3 => ?_) (fun hc3 => ?_)) (fun hc2 => stay (.inl fun h9 => ?_))) (fun hc1 => stay (.inl fun h9 => ?_))
   ·exact take (of_decide_eq_true hc1) (of_decide_eq_true hc2) (.inl (of_decide_eq_true hc3))
   ·rcases hP with ⟨h9, h10⟩ | ⟨j, h9, h10, h11, h12, h13⟩
    ·subst h9; cases hc3
    ·subst h9
     rw [rix (show j < n by omega)]
     simp only [Option.bind_some]
     show Ok (ref21_Apart_k4 _ _ (decide (ky (h j) < ky (h q)))) _
     cases hd : decide (ky (h j) < ky (h q)) with
     | true => exact take (of_decide_eq_true hc1) (of_decide_eq_true hc2) (.inr ⟨j, rfl, of_decide_eq_true hd⟩)
     | false => exact stay (.inr ⟨j, rfl, by have := of_decide_eq_false hd; omega⟩)
   ·have h10 : ky (h q) < ky (h k) := h9.2
    exact of_decide_eq_false hc2 h10
   ·exact of_decide_eq_false hc1 h9.1
  ·obtain ⟨p, q'⟩ := s
   obtain ⟨h1, hP⟩ := hs
   simp only at h1 hP
   subst h1
   show Ok (ref21_Apart_l3b ((tb n h).map toR) k (toR (h k)) p n) _
   unfold ref21_Apart_l3b
   rw [hlen, if_neg (by simp)]
   refine .map ?_
   rcases hP with ⟨h1, h2⟩ | ⟨j, h1, h2, h3, h4, h5⟩
   ·have hno : ¬ ∃ y, Pv (Mem n h) (h k) y := by
     rintro ⟨y, ⟨j, hj, rfl⟩, h3, h4, _⟩
     exact h2 j hj ⟨h3, h4⟩
    have hB := Bad.none hno
    subst h1
    rw [if_pos (by decide)]
    refine .ite (fun hc => bad (hB.2 (of_decide_eq_true hc))) (fun hc => good fun h9 => of_decide_eq_false hc (hB.1 h9))
   ·subst h1
    have hp : Pv (Mem n h) (h k) (h j) := ⟨⟨j, h2, rfl⟩, h3, h4, by rintro z ⟨j', hj', rfl⟩ h6 h7; exact h5 j' hj' h6 h7⟩
    have hB := Bad.some (Mem.inj hi) hp
    rw [if_neg (by simp), rix h2]
    simp only [Option.bind_some]
    unfold ref21_Apart_k5
    refine .ite (fun hc => .ite (fun hv => ?_) (fun hv => .ite (fun h6 => ?_) (fun h6 => ?_))) (fun hc => ?_)
    ·rw [if_pos rfl]
     exact bad (hB.2 ⟨of_decide_eq_true hc, .inl (of_decide_eq_true hv)⟩)
    ·exact bad (hB.2 ⟨of_decide_eq_true hc, .inr (of_decide_eq_true h6)⟩)
    ·refine good fun h9 => ?_
     rcases (hB.1 h9).2 with h10 | h10
     ·exact of_decide_eq_false hv h10
     ·exact of_decide_eq_false h6 h10
    ·rw [if_neg (by decide)]
     exact good fun h9 => of_decide_eq_false hc (hB.1 h9).1
 ·obtain ⟨rfl, hb⟩ := hs0
  unfold ref21_Apart_l2b
  rw [hlen, if_neg (by simp)]
  exact .map (.ret ⟨fun _ => hb, fun _ => rfl⟩)
end
theorem RApart_is (run : List (List TEvent)) (hr : run.length ≤ 1000) (ht : total run ≤ 1000) {r0 : Bool} (hR : ref21_Apart_l2 ((nods lkB run).map toR) 0 = some r0) : ref21_Apart run = some r0 := by
 unfold ref21_Apart
 have hs : (fun a => !true || syB a) = syB := by funext a; rfl
 rw [Nodes_is run hr ht true, hs]
 simp only [Option.bind_some]
 rw [← nods_lk run] at hR
 have hl := Nat.le_trans (nods_len syB run) ht
 generalize nods syB run = L at hl hR
 unfold ref21_Apart_l1
 have hlen : (L.map toR).length = L.length := List.length_map _
 have key := Ok.loop (B := fun s => ref21_Apart_l1b (L.map toR) s.1 s.2) (P := fun r => r = r0)
  (fun k s => s.2 = (k : Int) ∧ s.1 = ((L.take k).filter (fun x => lkB x.e.act)).map toR) L.length
 refine Ok.some_of (key (fun k s hk hs => ?_) (fun s hs => ?_) (s := ([], 0)) ⟨rfl, by simp⟩)
 ·obtain ⟨xs, i⟩ := s
  obtain ⟨h1, h2⟩ := hs
  simp only at h1 h2
  subst h1 h2
  have hx : L[k]? = some L[k] := List.getElem?_eq_getElem hk
  generalize L[k]'hk = x at hx
  have hx2 : ix (L.map toR) (k : Int) = some (toR x) := by rw [ix_nat, List.getElem?_map, hx]; rfl
  show Ok (ref21_Apart_l1b (L.map toR) _ k) _
  unfold ref21_Apart_l1b ref21_Apart_k1
  rw [hlen, if_pos (decide_eq_true (by omega)), hx2]
  simp only [Option.bind_some]
  have et : (L.take (k + 1)).filter (fun x => lkB x.e.act) = (L.take k).filter (fun x => lkB x.e.act) ++ [x].filter (fun x => lkB x.e.act) := by
   rw [List.take_add_one, hx, Option.toList_some, List.filter_append]
  have hlf : ((L.take k).filter (fun x => lkB x.e.act)).length ≤ k := Nat.le_trans (List.length_filter_le _ _) (List.length_take_le _ _)
  refine .ite (fun hb => ?_) (fun hb => .ret ⟨w64_succ (by omega), ?_⟩)
  ·rw [ap_some (by rw [List.length_map, List.length_singleton]; omega)]
   refine .ret ⟨w64_succ (by omega), ?_⟩
   show _ ++ [toR x] = _
   have hb : lkB x.e.act = true := hb
   rw [et]
   simp [hb]
  ·have hb : lkB x.e.act = false := hb
   show List.map toR _ = List.map toR _
   rw [et]
   simp [hb]
 ·obtain ⟨xs, i⟩ := s
  obtain ⟨h1, h2⟩ := hs
  simp only at h1 h2
  subst h1 h2
  show Ok (ref21_Apart_l1b (L.map toR) _ _) _
  unfold ref21_Apart_l1b
  rw [hlen, if_neg (by simp), List.take_length, hR]
  exact .map (.ret rfl)
theorem beq_of {a b : Bool} {P : Prop} (h1 : a = true ↔ P) (h2 : b = true ↔ P) : (a == b) = true := by
 cases a <;> cases b <;> simp_all
theorem tb_of' (L : List Nd) : ∃ h, L = tb L.length h ∧ ∀ i, i < L.length → L[i]? = some (h i) := by
 refine ⟨fun i => L.getD i ⟨⟨0, ⟨0, 0, 0, 0, false, false⟩, 0, 0⟩, 0⟩, tb_of L _, fun i hi => ?_⟩
 show L[i]? = some (L.getD i _)
 rw [List.getD_eq_getElem?_getD, List.getElem?_eq_getElem hi]; rfl
theorem both_is (run : List (List TEvent)) (hr : run.length ≤ 1000) (ht : total run ≤ 24) (hok : ∀ l ∈ run, ∀ e ∈ l, OK_TEvent e) (hg : GoodIds run.flatten) (hz : ∀ l ∈ run, ∀ e ∈ l, lkB e.act = true → e.id ≠ 0) :
  Ok ((order_Run_Apart run).bind fun x125 => (ref21_Apart run).bind fun x134 => some (x125 == x134)) (fun r => r = true) := by
 have hl := Nat.le_trans (nods_len lkB run) ht
 have hsub := nods_ev lkB run
 obtain ⟨h, hL, hat⟩ := tb_of' (nods lkB run)
 have hmem : ∀ i, i < (nods lkB run).length → h i ∈ nods lkB run := fun i hi => List.mem_of_getElem? (hat i hi)
 have hev : ∀ i, i < (nods lkB run).length → ∃ l ∈ run, (h i).e ∈ l := fun i hi => by
  have := hsub.subset (List.mem_map.2 ⟨_, hmem i hi, rfl⟩)
  obtain ⟨l, h1, h2⟩ := List.mem_flatten.1 this
  exact ⟨l, h1, h2⟩
 have hpos : ∀ i, i < (nods lkB run).length → 0 < (h i).e.id := fun i hi => by
  obtain ⟨l, h1, h2⟩ := hev i hi
  have h3 := hg.nn _ (List.mem_flatten.2 ⟨l, h1, h2⟩)
  have h4 := hz l h1 _ h2 (nods_q lkB run _ (hmem i hi))
  omega
 have hT : Tb (nods lkB run).length h := ⟨fun i hi => by
  obtain ⟨l, h1, h2⟩ := hev i hi
  have h3 := (hok l h1 _ h2).2.2.2.1.i64
  exact ⟨by have := hpos i hi; omega, h3.2⟩⟩
 have hP : (nods lkB run).Pairwise (fun x y => 0 < x.e.id → x.e.id ≠ y.e.id) := List.pairwise_map.1 (hg.ds.sublist hsub)
 have hI : Inj (nods lkB run).length h := by
  have lt : ∀ i j, i < j → j < (nods lkB run).length → ky (h i) ≠ ky (h j) := by
   intro i j hij hj
   rw [List.pairwise_iff_getElem] at hP
   have h1 := hP i j (by omega) hj hij
   have e1 := (List.getElem?_eq_some_iff.1 (hat i (by omega))).2
   have e2 := (List.getElem?_eq_some_iff.1 (hat j hj)).2
   rw [e1, e2] at h1
   exact h1 (hpos i (by omega))
  intro i j hi hj e
  rcases Nat.lt_trichotomy i j with h1 | h1 | h1
  ·exact absurd e (lt i j h1 hj)
  ·exact h1
  ·exact absurd e.symm (lt j i h1 hi)
 obtain ⟨r, hs1, h', rfl, hp, hs⟩ := Sort_is (show (nods lkB run).length < 25 by omega) hT hI
 obtain ⟨b, hb1, hb2⟩ := pass_is (show (nods lkB run).length ≤ 1000 by omega) (hp.inj (Nat.le_refl _) hI) hs
 obtain ⟨c, hc1, hc2⟩ := look_is (show (nods lkB run).length ≤ 1000 by omega) hI
 have hA : order_Run_Apart run = some b := by
  unfold order_Run_Apart
  rw [nodes2_is run hr (by omega)]
  simp only [Option.bind_some]
  rw [hL, hs1]
  exact hb1
 have hB : ref21_Apart run = some c := RApart_is run hr (by omega) (by rw [hL]; exact hc1)
 rw [hA, hB]
 refine .ret (beq_of hb2 (hc2.trans ?_))
 have hm : Mem (nods lkB run).length h = Mem (nods lkB run).length h' := by
  funext z
  exact propext (Mem.pm hp z)
 rw [hm]
 constructor
 ·intro h1 k hk
  obtain ⟨j, hj, e⟩ := (Mem.pm hp (h' k)).2 ⟨k, hk, rfl⟩
  rw [e]; exact h1 j hj
 ·intro h1 k hk
  obtain ⟨j, hj, e⟩ := (Mem.pm hp (h k)).1 ⟨k, hk, rfl⟩
  rw [e]; exact h1 j hj
theorem law21_OrderApart_law (run : List (List TEvent)) (h : OKw (OKw OK_TEvent) run) : law21_OrderApart run = some true := by
 have hrb : reachBytes = 140737488351232 := rfl
 unfold law21_OrderApart
 rw [alive_is]
 simp only [Option.bind_some, Bool.not_true, Bool.false_eq_true, if_false]
 refine Ok.some_of ((great_is run h).bind fun g hg => ?_)
 refine Ok.bind (P := fun b => b = false → g = false ∧ GoodIds run.flatten) (.ite (fun _ => .ret (fun h => by cases h)) (fun hgf => (good_is run h).bind fun q hq => .ret fun hf => ⟨hgf, hq (by simpa using hf)⟩)) (fun b hb => ?_)
 refine .ite (fun _ => .ret rfl) (fun hbf => ?_)
 obtain ⟨hgf, hgood⟩ := hb hbf
 obtain ⟨hr5, ht24⟩ := hg hgf
 have hr : run.length ≤ 1000 := by omega
 unfold law21_OrderApart_l1
 refine loop_for (B := fun s => law21_OrderApart_l1b run s) run (fun k s => s = (k : Int) ∧ ∀ l ∈ run.take k, ∀ e ∈ l, lkB e.act = true → e.id ≠ 0) (fun k l s hk' hk hs => ?_) (fun s hs => ?_) ⟨rfl, by simp⟩
 ·obtain ⟨rfl, hs⟩ := hs
  unfold law21_OrderApart_l1b
  rw [if_pos (decide_eq_true (by omega)), ix_nat, hk]
  simp only [Option.bind_some]
  have hl := (h.1 l (List.mem_of_getElem? hk)).2
  unfold law21_OrderApart_l2
  refine loop_for (B := fun s => law21_OrderApart_l2b k l s) l (fun j s => s = (j : Int) ∧ ∀ e ∈ l.take j, lkB e.act = true → e.id ≠ 0) (fun j e s hj' hj hs2 => ?_) (fun s hs2 => ?_) ⟨rfl, by simp⟩
  ·obtain ⟨rfl, hs2⟩ := hs2
   unfold law21_OrderApart_l2b
   rw [if_pos (decide_eq_true (by omega)), ix_nat, hj]
   simp only [Option.bind_some]
   refine .ite (fun _ => .map (.map (.ret rfl))) (fun hc => .ret ⟨w64_succ (by omega), fun x hx hlk h0 => ?_⟩)
   rw [mem_take_succ hj'] at hx
   rcases hx with hx | rfl
   ·exact hs2 x hx hlk h0
   ·rw [List.getElem?_eq_getElem hj'] at hj
    have e1 := Option.some.inj hj
    rw [e1] at hlk h0
    have h1 : (lkB e.act && decide (e.id = 0)) = false := hc
    rw [hlk, decide_eq_true h0] at h1
    cases h1
  ·obtain ⟨rfl, hs2⟩ := hs2
   rw [List.take_length] at hs2
   unfold law21_OrderApart_l2b
   rw [if_neg (by simp)]
   refine .map (.ret ⟨w64_succ (by omega), fun l' hl' => ?_⟩)
   rw [mem_take_succ hk'] at hl'
   rcases hl' with hl' | rfl
   ·exact hs l' hl'
   ·rw [List.getElem?_eq_getElem hk'] at hk
    rw [Option.some.inj hk]; exact hs2
 ·obtain ⟨rfl, hs⟩ := hs
  rw [List.take_length] at hs
  unfold law21_OrderApart_l1b
  rw [if_neg (by simp)]
  exact .map (both_is run hr ht24 (fun l hl e he => (h.1 l hl).1 e he) hgood hs)
end Go.Vm.GA21
