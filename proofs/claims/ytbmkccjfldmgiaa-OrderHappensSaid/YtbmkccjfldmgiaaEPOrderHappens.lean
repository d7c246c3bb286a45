/-
  Consistent and Racy are what the reference says.
-/
import Derived.Test.YtbmkccjfldmgiaaEP21hc
set_option linter.unusedSimpArgs false
set_option linter.unusedVariables false
namespace Go.Vm.GH21
open Go

theorem Racy2_l1_is (l : List Torder_node) (hl : l.length ≤ 1000) (H : Nat → Nat → Bool) : Ok (order_Run_Racy_2_l1 l (t2 l.length l.length H) l l 0) (fun b => b = true ↔ ∃ i k, k < i ∧ Rc l H i k) := Racy_l1_is l hl H
theorem hb2_is (l : List Torder_node) (hl : l.length ≤ 1000) (run : List (List TEvent)) : Ok (order_Run_happens_2 run l) (fun r => ∃ H, r = t2 l.length l.length H ∧ ∀ i j, i < l.length → j < l.length → (H i j = true ↔ Rch (Ed l.length (gr l [1, 5])) i j)) := hb_is l hl run
theorem Rc_symm {l : List Torder_node} {H : Nat → Nat → Bool} {i k : Nat} (h : Rc l H i k) : Rc l H k i := by
  obtain ⟨x, y, h1, h2, h3, h4, h5⟩ := h
  refine ⟨y, x, h2, h1, ?_, h5, h4⟩
  unfold prB at h3 ⊢
  simp only [Bool.and_eq_true, Bool.or_eq_true, decide_eq_true_eq] at h3 ⊢
  exact ⟨⟨⟨h3.1.1.1.symm, fun e => h3.1.1.2 e.symm⟩, h3.1.2.symm⟩, h3.2.symm⟩
theorem Rc_ne {l : List Torder_node} {H : Nat → Nat → Bool} {i : Nat} : ¬ Rc l H i i := by
  rintro ⟨x, y, h1, h2, h3, _⟩
  rw [h1] at h2; cases h2
  unfold prB at h3
  simp at h3
theorem RRacy_l1_is (l : List Torder_node) (hl : l.length ≤ 1000) (H : Nat → Nat → Bool) : Ok (ref21_Racy_l1 (l.map toR) (t2 l.length l.length H) 0) (fun b => b = true ↔ ∃ i k, Rc l H i k) := by
  have hn2 : (l.map toR).length = l.length := List.length_map _
  unfold ref21_Racy_l1
  refine loop_for l (fun i s => s = (i : Int) ∧ ∀ i' k, i' < i → ¬ Rc l H i' k) (fun i x s hi hx s0 => ?_) (fun s hs => ?_) ⟨rfl, fun i k h => by omega⟩
  · obtain ⟨rfl, hs⟩ := s0
    unfold ref21_Racy_l1b
    rw [hn2, if_pos (decide_eq_true (by omega)), ixR l hx]
    simp only [Option.bind_some]
    unfold ref21_Racy_l2
    refine loop_for l (fun k s => s = (k : Int) ∧ ∀ k', k' < k → ¬ Rc l H i k') (fun k y s hk hy s0 => ?_) (fun s s0 => ?_) ⟨rfl, fun k h => by omega⟩
    · obtain ⟨rfl, hs2⟩ := s0
      unfold ref21_Racy_l2b
      rw [hn2, if_pos (decide_eq_true (by omega)), ixR l hy]
      simp only [Option.bind_some, Writes_is, Synced_is, ifor, ifand, ix_tb hi, ix_tb hk]
      have key : Rc l H i k ↔ ((((((decide ((i : Int) ≠ (k : Int)) && decide ((toR x).e.t ≠ (toR y).e.t)) && decide ((toR x).e.act.at_ = (toR y).e.act.at_)) && (wrB x.e.act || wrB y.e.act)) && !(syB x.e.act && syB y.e.act)) && !(H i k)) && !(H k i)) = true := by
        unfold Rc
        rw [hx, hy]
        constructor
        · rintro ⟨x', y', e1, e2, h1, h2, h3⟩
          have hik : (i : Int) ≠ (k : Int) := by
            rintro e
            have e : i = k := by omega
            subst e
            rw [hx] at hy; cases hy; cases e1; cases e2
            unfold prB at h1
            simp at h1
          cases e1; cases e2
          unfold prB at h1
          simp only [Bool.and_eq_true, decide_eq_true_eq] at h1
          rw [decide_eq_true hik, decide_eq_true (show (toR x).e.t ≠ (toR y).e.t from h1.1.1.2), decide_eq_true (show (toR x).e.act.at_ = (toR y).e.act.at_ from h1.1.2), h1.2, h2, h3, Bool.not_and, h1.1.1.1]
          rfl
        · intro h
          simp only [Bool.and_eq_true, decide_eq_true_eq, Bool.not_and, Bool.not_eq_true'] at h
          refine ⟨x, y, rfl, rfl, ?_, h.1.2, h.2⟩
          unfold prB
          rw [h.1.1.2, decide_eq_true (show x.e.t ≠ y.e.t from h.1.1.1.1.1.2), decide_eq_true (show x.e.act.at_ = y.e.act.at_ from h.1.1.1.1.2), h.1.1.1.2]
          rfl
      refine .ite (fun hb => .map (.map (.ret ⟨fun _ => ⟨i, k, key.2 hb⟩, fun _ => rfl⟩))) (fun hb => .ret ⟨w64_succ (by omega), fun k' hk' => ?_⟩)
      by_cases h : k' = k
      · subst h; intro hr; rw [key.1 hr] at hb; cases hb
      · exact hs2 k' (by omega)
    · obtain ⟨rfl, hs2⟩ := s0
      unfold ref21_Racy_l2b
      rw [hn2, if_neg (by simp)]
      refine .map (.ret ⟨w64_succ (by omega), fun i' k hi' hr => ?_⟩)
      by_cases e : i' = i
      · subst e
        have hr2 := hr
        obtain ⟨_, y, _, h2, _⟩ := hr
        exact hs2 k (List.getElem?_eq_some_iff.1 h2).1 hr2
      · exact hs i' k (by omega) hr
  · obtain ⟨rfl, hs⟩ := hs
    unfold ref21_Racy_l1b
    rw [hn2, if_neg (by simp)]
    refine .map (.ret ⟨(fun h => by cases h), ?_⟩)
    rintro ⟨i, k, hr⟩
    have hr2 := hr
    obtain ⟨x, _, h1, _⟩ := hr
    exact absurd hr2 (hs i k (List.getElem?_eq_some_iff.1 h1).1)
theorem Rc_congr {l : List Torder_node} {H H' : Nat → Nat → Bool} (h : ∀ i j, i < l.length → j < l.length → H i j = H' i j) {i k : Nat} (hr : Rc l H i k) : Rc l H' i k := by
  obtain ⟨x, y, h1, h2, h3, h4, h5⟩ := hr
  have hi := (List.getElem?_eq_some_iff.1 h1).1
  have hk := (List.getElem?_eq_some_iff.1 h2).1
  exact ⟨x, y, h1, h2, h3, by rw [← h i k hi hk]; exact h4, by rw [← h k i hk hi]; exact h5⟩
theorem Bd_congr {l : List Torder_node} {H H' : Nat → Nat → Bool} (h : ∀ i j, i < l.length → j < l.length → H i j = H' i j) {i k : Nat} (hr : Bd l H i k) : Bd l H' i k := by
  obtain ⟨b, a, h1, h2, h3, h4, h5, h6, h7⟩ := hr
  have hi := (List.getElem?_eq_some_iff.1 h1).1
  have hk := (List.getElem?_eq_some_iff.1 h2).1
  refine ⟨b, a, h1, h2, h3, h4, h5, h6, ?_⟩
  rcases h7 with h7 | h7 | ⟨h7, j, w, h8, h9, h10⟩
  · exact .inl ⟨h7.1, by rw [← h i k hi hk]; exact h7.2⟩
  · exact .inr (.inl ⟨by rw [← h k i hk hi]; exact h7.1, h7.2⟩)
  · exact .inr (.inr ⟨by rw [← h k i hk hi]; exact h7, j, w, h8, h9, by rw [← h j k (List.getElem?_eq_some_iff.1 h8).1 hk]; exact h10⟩)
theorem beq_of {a b : Bool} {P : Prop} (h1 : a = true ↔ P) (h2 : b = true ↔ P) : (a == b) = true := by
  cases a <;> cases b <;> simp_all
theorem law21_OrderHappens_law (run : List (List TEvent)) (h : OKw (OKw OK_TEvent) run) : law21_OrderHappens run = some true := by
  unfold law21_OrderHappens
  rw [alive_is]
  simp only [Option.bind_some, Bool.not_true, Bool.false_eq_true, if_false]
  refine Ok.some_of ((great_is run h).bind fun g hg => ?_)
  refine Ok.bind (P := fun b => b = false → g = false ∧ Own 0 run) (.ite (fun _ => .ret (fun h => by cases h)) (fun hgf => (good_is run h).bind fun q hq => .ret fun hf => ⟨hgf, hq (by simpa using hf)⟩)) (fun b hb => ?_)
  refine .ite (fun _ => .ret rfl) (fun hbf => ?_)
  obtain ⟨hgf, hown⟩ := hb hbf
  obtain ⟨hr5, ht24⟩ := hg hgf
  have hr : run.length ≤ 1000 := by omega
  have ht : total run ≤ 1000 := by omega
  have hd := nods_dst (fun _ => true) run 0 hown
  have hn2 := nodes2_is run hr ht
  have hN : ref21_Nodes run false = some ((nods (fun _ => true) run).map toR) := Nodes_is run hr ht false
  have hl := Nat.le_trans (nods_len (fun _ => true) run) ht
  unfold order_Run_Consistent ref21_Consistent order_Run_Racy_2 ref21_Racy
  rw [hn2, hN]
  simp only [Option.bind_some]
  generalize nods (fun _ => true) run = l at hd hl
  obtain ⟨r, hb1, H, rfl, hH⟩ := hb2_is l hl run
  obtain ⟨r', hb2, H', rfl, hH'⟩ := Ahead_is l hl
  have hb3 : order_Run_happens_3 run l = some (t2 l.length l.length H) := hb1
  rw [hb1, hb2, hb3]
  simp only [Option.bind_some]
  have e : ∀ i j, i < l.length → j < l.length → H i j = H' i j := by
    intro i j hi hj
    have h1 := hH i j hi hj
    have h2 := hH' i j hi hj
    cases h3 : H i j <;> cases h4 : H' i j <;> simp_all
  refine (Con_l1_is l H hl hd).bind fun c hc => (RCon_l1_is l H' hl).bind fun c' hc' => ?_
  have hc2 : c = true ↔ ∀ i k, ¬ Bd l H' i k := hc.trans ⟨fun h i k hk => h i k (Bd_congr (fun i j hi hj => (e i j hi hj).symm) hk), fun h i k hk => h i k (Bd_congr e hk)⟩
  rw [if_pos (beq_of hc2 hc')]
  refine Ok.bind (P := fun y => y = true) ((Racy2_l1_is l hl H).bind fun c hc => (RRacy_l1_is l hl H').bind fun c' hc' => .ret ?_) (fun y hy => .ret hy)
  refine beq_of hc (hc'.trans ⟨?_, ?_⟩)
  · rintro ⟨i, k, hk⟩
    have hk := Rc_congr (fun i j hi hj => (e i j hi hj).symm) hk
    rcases Nat.lt_trichotomy i k with h | h | h
    · exact ⟨k, i, h, Rc_symm hk⟩
    · subst h; exact absurd hk Rc_ne
    · exact ⟨i, k, h, hk⟩
  · rintro ⟨i, k, _, hk⟩
    exact ⟨i, k, Rc_congr e hk⟩
end Go.Vm.GH21
