/-
  What happens ahead of what, and what a read may see.
-/
import Derived.Test.YtbmkccjfldmgiaaEP21dh
set_option linter.unusedSimpArgs false
set_option linter.unusedVariables false
namespace Go.Vm.GH21
open Go

/-! ## A good run -/
def Own (t0 : Nat) (run : List (List TEvent)) : Prop := ∀ (t : Nat) l, run[t]? = some l → ∀ e ∈ l, e.t = ((t0 + t : Nat) : Int)
theorem good_is (run : List (List TEvent)) (h : OKrun run) : Ok (ref21_Good run) (fun b => b = true → Own 0 run) := by
  have hr : reachBytes = 140737488351232 := rfl
  have h2 := h.2
  unfold ref21_Good ref21_Good_l1
  refine loop_for (B := fun s => ref21_Good_l1b run s.1 s.2) run (fun k s => s.2 = (k : Int) ∧ ∀ (t : Nat) l, t < k → run[t]? = some l → ∀ e ∈ l, e.t = (t : Int)) (fun k l s hk' hk hs => ?_) (fun s hs => ?_) ⟨rfl, fun t l h => by omega⟩
  · obtain ⟨m, i⟩ := s
    obtain ⟨h1, hs⟩ := hs
    simp only at h1 hs
    subst h1
    show Ok (ref21_Good_l1b run m k) _
    unfold ref21_Good_l1b
    rw [if_pos (decide_eq_true (by omega)), ix_nat, hk]
    simp only [Option.bind_some]
    have hl := (h.1 l (List.mem_of_getElem? hk)).2
    unfold ref21_Good_l2
    refine loop_for (B := fun s => ref21_Good_l2b k l s.1 s.2) l (fun j s => s.2 = (j : Int) ∧ ∀ e ∈ l.take j, e.t = (k : Int)) (fun j e s hj' hj hs2 => ?_) (fun s hs2 => ?_) ⟨rfl, by simp⟩
    · obtain ⟨m, i⟩ := s
      obtain ⟨h1, hs2⟩ := hs2
      simp only at h1 hs2
      subst h1
      show Ok (ref21_Good_l2b k l m j) _
      unfold ref21_Good_l2b
      rw [if_pos (decide_eq_true (by omega)), ix_nat, hj]
      simp only [Option.bind_some]
      refine .ite (fun _ => .map (.map (.ret (fun h => by cases h)))) (fun hb => .ite (fun _ => .map (.map (.ret (fun h => by cases h)))) (fun _ => .ret ⟨w64_succ (by omega), fun e' he' => ?_⟩))
      rw [mem_take_succ hj'] at he'
      rcases he' with he' | rfl
      · exact hs2 e' he'
      · rw [List.getElem?_eq_getElem hj'] at hj
        rw [Option.some.inj hj]
        have : (e.t = (k : Int) ∧ 0 ≤ e.rf) ∧ 0 ≤ e.id := by simpa using hb
        exact this.1.1
    · obtain ⟨m, i⟩ := s
      obtain ⟨h1, hs2⟩ := hs2
      simp only at h1 hs2
      subst h1
      rw [List.take_length] at hs2
      show Ok (ref21_Good_l2b k l m _) _
      unfold ref21_Good_l2b
      rw [if_neg (by simp)]
      refine .map (.ret ⟨w64_succ (by omega), fun t l' ht hl' => ?_⟩)
      by_cases htk : t = k
      · subst htk
        rw [hk] at hl'; cases hl'
        exact hs2
      · exact hs t l' (by omega) hl'
  · obtain ⟨m, i⟩ := s
    obtain ⟨h1, hs⟩ := hs
    simp only at h1 hs
    subst h1
    show Ok (ref21_Good_l1b run m _) _
    unfold ref21_Good_l1b
    rw [if_neg (by simp)]
    refine .map (.ret fun _ t l hl e he => ?_)
    rw [Nat.zero_add]
    exact hs t l (List.getElem?_eq_some_iff.1 hl).1 hl e he
def Dst (x y : Torder_node) : Prop := x.e.t = y.e.t → x.at_ ≠ y.at_
theorem rowI_ge (q : TAct → Bool) : ∀ (l : List TEvent) (i : Nat) (x : Torder_node), x ∈ rowI q l i → (i : Int) ≤ x.at_ ∧ x.e ∈ l
  | [], i, x, h => by cases h
  | e :: l, i, x, h => by
    rw [rowI] at h
    rcases List.mem_append.1 h with h | h
    · split at h
      · rcases List.mem_singleton.1 h with rfl
        exact ⟨Int.le_refl _, by simp⟩
      · cases h
    · have := rowI_ge q l (i + 1) x h
      exact ⟨by omega, List.mem_cons_of_mem _ this.2⟩
theorem rowI_dst (q : TAct → Bool) : ∀ (l : List TEvent) (i : Nat), (rowI q l i).Pairwise Dst
  | [], i => .nil
  | e :: l, i => by
    rw [rowI, List.pairwise_append]
    refine ⟨by split <;> simp, rowI_dst q l (i + 1), fun a ha b hb _ => ?_⟩
    have := (rowI_ge q l (i + 1) b hb).1
    split at ha
    · rcases List.mem_singleton.1 ha with rfl
      show (i : Int) ≠ b.at_
      omega
    · cases ha
theorem nods_own (q : TAct → Bool) : ∀ (run : List (List TEvent)) (t0 : Nat), Own t0 run → ∀ x ∈ nods q run, (t0 : Int) ≤ x.e.t
  | [], t0, _, x, h => by cases h
  | l :: run, t0, ho, x, h => by
    unfold nods at h
    rw [List.flatMap_cons] at h
    rcases List.mem_append.1 h with h | h
    · have := ho 0 l rfl x.e (rowI_ge q l 0 x h).2
      omega
    · have := nods_own q run (t0 + 1) (fun t l' hl' e he => by rw [ho (t + 1) l' (by simpa using hl') e he]; omega) x h
      omega
theorem nods_dst (q : TAct → Bool) : ∀ (run : List (List TEvent)) (t0 : Nat), Own t0 run → (nods q run).Pairwise Dst
  | [], t0, _ => .nil
  | l :: run, t0, ho => by
    have ho' : Own (t0 + 1) run := fun t l' hl' e he => by rw [ho (t + 1) l' (by simpa using hl') e he]; omega
    unfold nods
    rw [List.flatMap_cons, List.pairwise_append]
    refine ⟨rowI_dst q l 0, nods_dst q run (t0 + 1) ho', fun a ha b hb hab => ?_⟩
    have h1 := ho 0 l rfl a.e (rowI_ge q l 0 a ha).2
    have h2 := nods_own q run (t0 + 1) ho' b hb
    omega
theorem dst_at {l : List Torder_node} (hd : l.Pairwise Dst) {i j : Nat} {x y : Torder_node} (hx : l[i]? = some x) (hy : l[j]? = some y) (h1 : x.e.t = y.e.t) (h2 : x.at_ = y.at_) : i = j := by
  have hi := (List.getElem?_eq_some_iff.1 hx)
  have hj := (List.getElem?_eq_some_iff.1 hy)
  rw [List.pairwise_iff_getElem] at hd
  rcases Nat.lt_trichotomy i j with h | h | h
  · have := hd i j hi.1 hj.1 h
    rw [hi.2, hj.2] at this
    exact absurd h2 (this h1)
  · exact h
  · have := hd j i hj.1 hi.1 h
    rw [hi.2, hj.2] at this
    exact absurd h2.symm (this h1.symm)
theorem eqE_inv {a b : TEvent} {i j : Int} (h : eqE a b i j = true) : a.t = b.t ∧ i = j := by
  unfold eqE at h
  simp only [Bool.and_eq_true, decide_eq_true_eq] at h
  exact ⟨h.1.1, h.2.1⟩
theorem eqE_refl (a : TEvent) (i : Int) : eqE a a i i = true := by
  unfold eqE; simp
theorem index_is (l : List Torder_node) (hl : l.length ≤ 1000) (hd : l.Pairwise Dst) (j : Nat) (w : Torder_node) (hw : l[j]? = some w) : slices_Index l w = some (j : Int) := by
  have hj := (List.getElem?_eq_some_iff.1 hw).1
  unfold slices_Index slices_Index_l1
  refine Ok.some_of (loop_for l (fun k s => s = (k : Int) ∧ k ≤ j) (fun k x s hk' hk hs => ?_) (fun s hs => ?_) ⟨rfl, Nat.zero_le _⟩)
  · obtain ⟨rfl, hs⟩ := hs
    unfold slices_Index_l1b
    rw [if_pos (decide_eq_true (by omega)), ix_nat, hk]
    simp only [Option.bind_some]
    show Ok (if eqE w.e x.e w.at_ x.at_ = true then _ else _) _
    refine .ite (fun hb => .map (.ret ?_)) (fun hb => .ret ⟨w64_succ (by omega), ?_⟩)
    · have := eqE_inv hb
      rw [dst_at hd hk hw this.1.symm this.2.symm]
      exact rfl
    · by_cases h : k = j
      · subst h
        rw [hw] at hk; cases hk
        rw [eqE_refl] at hb; cases hb
      · omega
  · obtain ⟨rfl, hs⟩ := hs
    omega

/-! ## What a read may not see -/
def Bd (l : List Torder_node) (H : Nat → Nat → Bool) (i k : Nat) : Prop := ∃ b a, l[i]? = some b ∧ l[k]? = some a ∧ i ≠ k ∧ rdB b.e.act = true ∧ wrB a.e.act = true ∧ a.e.act.at_ = b.e.act.at_ ∧
  ((rfB a b = true ∧ H i k = true) ∨ (H k i = true ∧ 0 < a.e.id ∧ b.e.rf = 0) ∨ (H k i = true ∧ ∃ j w, l[j]? = some w ∧ rfB w b = true ∧ H j k = true))
section
variable (l : List Torder_node) (hl : l.length ≤ 1000) (hd : l.Pairwise Dst) (H : Nat → Nat → Bool)
theorem c1_is (hl : l.length ≤ 1000) (hd : l.Pairwise Dst) {j k : Nat} {w b : Torder_node} (hw : l[j]? = some w) (hk : k < l.length) : order_Run_Consistent_c1 w b (t2 l.length l.length H) l k = some (rfB w b && H j k) := by
  have hj := (List.getElem?_eq_some_iff.1 hw).1
  unfold order_Run_Consistent_c1 order_Run_Consistent_c1_k1
  rw [rf_is, index_is l hl hd j w hw]
  simp only [Option.bind_some, ix_tb hj, ix_tb hk]
  cases rfB w b <;> rfl
theorem any_is (hl : l.length ≤ 1000) (hd : l.Pairwise Dst) {k : Nat} {b : Torder_node} (hk : k < l.length) : Ok (slices_ContainsFunc_2 l b (t2 l.length l.length H) l k) (fun r => r = true ↔ ∃ j w, l[j]? = some w ∧ rfB w b = true ∧ H j k = true) := by
  unfold slices_ContainsFunc_2 slices_IndexFunc_2 slices_IndexFunc_2_l1
  refine Ok.bind (P := fun i => (0 : Int) ≤ i ↔ ∃ j w, l[j]? = some w ∧ rfB w b = true ∧ H j k = true) ?_ (fun i hi => .ret (by simpa using hi))
  refine loop_for l (fun m s => s = (m : Int) ∧ ∀ j w, j < m → l[j]? = some w → ¬ (rfB w b = true ∧ H j k = true)) (fun m w s hm' hm hs => ?_) (fun s hs => ?_) ⟨rfl, fun j w h => by omega⟩
  · obtain ⟨rfl, hs⟩ := hs
    unfold slices_IndexFunc_2_l1b
    rw [if_pos (decide_eq_true (by omega)), ix_nat, hm]
    simp only [Option.bind_some, c1_is l H hl hd hm hk]
    refine .ite (fun hb => .map (.ret ⟨fun _ => ⟨m, w, hm, by simpa using hb⟩, fun _ => by omega⟩)) (fun hb => .ret ⟨w64_succ (by omega), fun j w' hj hw' => ?_⟩)
    by_cases h : j = m
    · subst h
      rw [hm] at hw'; cases hw'
      rintro ⟨h1, h2⟩
      rw [h1, h2] at hb; cases hb
    · exact hs j w' (by omega) hw'
  · obtain ⟨rfl, hs⟩ := hs
    unfold slices_IndexFunc_2_l1b
    rw [if_neg (by simp)]
    refine .map (.ret ⟨(fun h => absurd h (by decide)), ?_⟩)
    rintro ⟨j, w, h1, h2⟩
    exact absurd h2 (hs j w (List.getElem?_eq_some_iff.1 h1).1 h1)
theorem Con_l1_is (hl : l.length ≤ 1000) (hd : l.Pairwise Dst) : Ok (order_Run_Consistent_l1 l (t2 l.length l.length H) 0) (fun r => r = true ↔ ∀ i k, ¬ Bd l H i k) := by
  unfold order_Run_Consistent_l1
  refine loop_for l (fun i s => s = (i : Int) ∧ ∀ i' k, i' < i → ¬ Bd l H i' k) (fun i b s hi hb s0 => ?_) (fun s hs => ?_) ⟨rfl, fun i k h => by omega⟩
  · obtain ⟨rfl, hs⟩ := s0
    have next : (∀ k, ¬ Bd l H i k) → ∀ i' k, i' < i + 1 → ¬ Bd l H i' k := by
      intro h i' k hi'
      by_cases e : i' = i
      · subst e; exact h k
      · exact hs i' k (by omega)
    unfold order_Run_Consistent_l1b order_Run_Consistent_k1
    rw [if_pos (decide_eq_true (by omega)), ix_nat, hb]
    simp only [Option.bind_some, reads_is]
    refine .ite (fun hr => .ret ⟨w64_succ (by omega), next fun k => ?_⟩) (fun hr => ?_)
    · rintro ⟨b', a, h1, h2, h3, h4, _⟩
      rw [hb] at h1; cases h1
      rw [h4] at hr; cases hr
    have hr : rdB b.e.act = true := by simpa using hr
    unfold order_Run_Consistent_l2
    refine loop_for l (fun k s => s = (k : Int) ∧ ∀ k', k' < k → ¬ Bd l H i k') (fun k a s hk hka s0 => ?_) (fun s s0 => ?_) ⟨rfl, fun k h => by omega⟩
    · obtain ⟨rfl, hs2⟩ := s0
      have go : ¬ Bd l H i k → Ok (order_Run_Consistent_k2 (k : Int)) (Sum.elim (fun s => s = ((k + 1 : Nat) : Int) ∧ ∀ k', k' < k + 1 → ¬ Bd l H i k') (Sum.elim (fun s => s = ((i + 1 : Nat) : Int) ∧ ∀ i' k, i' < i + 1 → ¬ Bd l H i' k) (fun r => r = true ↔ ∀ i k, ¬ Bd l H i k))) := by
        intro h
        unfold order_Run_Consistent_k2
        refine .ret ⟨w64_succ (by omega), fun k' hk' => ?_⟩
        by_cases e : k' = k
        · subst e; exact h
        · exact hs2 k' (by omega)
      have bad : Bd l H i k → Ok ((((some false).map Sum.inr).map Sum.inr : Option (Int ⊕ (Int ⊕ Bool)))) (Sum.elim (fun s => s = ((k + 1 : Nat) : Int) ∧ ∀ k', k' < k + 1 → ¬ Bd l H i k') (Sum.elim (fun s => s = ((i + 1 : Nat) : Int) ∧ ∀ i' k, i' < i + 1 → ¬ Bd l H i' k) (fun r => r = true ↔ ∀ i k, ¬ Bd l H i k))) :=
        fun h => .map (.map (.ret ⟨(fun h => by cases h), fun h2 => absurd h (h2 i k)⟩))
      have inv : Bd l H i k → i ≠ k ∧ wrB a.e.act = true ∧ a.e.act.at_ = b.e.act.at_ ∧ ((rfB a b = true ∧ H i k = true) ∨ (H k i = true ∧ 0 < a.e.id ∧ b.e.rf = 0) ∨ (H k i = true ∧ ∃ j w, l[j]? = some w ∧ rfB w b = true ∧ H j k = true)) := by
        rintro ⟨b', a', h1, h2, h3, h4, h5, h6, h7⟩
        rw [hb] at h1; cases h1
        rw [hka] at h2; cases h2
        exact ⟨h3, h5, h6, h7⟩
      unfold order_Run_Consistent_l2b
      rw [if_pos (decide_eq_true (by omega)), ix_nat, hka]
      simp only [Option.bind_some, writes_is, rf_is, ifor, ix_tb hi, ix_tb hk]
      refine .ite (fun hc => go fun h => ?_) (fun hc => ?_)
      · obtain ⟨h1, h2, h3, _⟩ := inv h
        have : ¬ (i : Int) = (k : Int) := by omega
        rw [decide_eq_false this, h2, h3] at hc
        simp at hc
      · have hc : ((i : Int) ≠ (k : Int) ∧ wrB a.e.act = true) ∧ a.e.act.at_ = b.e.act.at_ := by simpa using hc
        have hik : i ≠ k := by have := hc.1.1; omega
        have key : ∀ v, v = (rfB a b && H i k) → Ok (order_Run_Consistent_k3 l (t2 l.length l.length H) i b k a v) (Sum.elim (fun s => s = ((k + 1 : Nat) : Int) ∧ ∀ k', k' < k + 1 → ¬ Bd l H i k') (Sum.elim (fun s => s = ((i + 1 : Nat) : Int) ∧ ∀ i' k, i' < i + 1 → ¬ Bd l H i' k) (fun r => r = true ↔ ∀ i k, ¬ Bd l H i k))) := by
          intro v hv
          have mk : ((rfB a b = true ∧ H i k = true) ∨ (H k i = true ∧ 0 < a.e.id ∧ b.e.rf = 0) ∨ (H k i = true ∧ ∃ j w, l[j]? = some w ∧ rfB w b = true ∧ H j k = true)) → Bd l H i k := fun h => ⟨b, a, hb, hka, hik, hr, hc.1.2, hc.2, h⟩
          unfold order_Run_Consistent_k3
          refine .ite (fun h1 => bad (mk (.inl ?_))) (fun h1 => ?_)
          · rw [hv] at h1; simpa using h1
          simp only [ix_tb hk, ix_tb hi, Option.bind_some]
          refine .ite (fun h2 => bad (mk (.inr (.inl ?_)))) (fun h2 => ?_)
          · have h2 : (H k i = true ∧ b.e.rf < a.e.id) ∧ b.e.rf = 0 := by simpa using h2
            exact ⟨h2.1.1, by omega, h2.2⟩
          refine Ok.bind (P := fun y => y = true ↔ (H k i = true ∧ ∃ j w, l[j]? = some w ∧ rfB w b = true ∧ H j k = true)) (.ite (fun h3 => (any_is l H hl hd hk).bind fun y hy => .ret ?_) (fun h3 => .ret ?_)) (fun y hy => ?_)
          · rw [hy, h3]; simp
          · rw [h3]; simp
          · refine .ite (fun h4 => bad (mk (.inr (.inr (hy.1 h4))))) (fun h4 => go fun h => ?_)
            rcases (inv h).2.2.2 with h5 | h5 | h5
            · rw [hv, h5.1, h5.2] at h1; cases h1
            · rw [h5.1, decide_eq_true (show b.e.rf < a.e.id by omega), decide_eq_true h5.2.2] at h2; cases h2
            · rw [hy.2 h5] at h4; cases h4
        exact .ite (fun h0 => key _ (by rw [h0]; rfl)) (fun h0 => key _ (by rw [h0]; rfl))
    · obtain ⟨rfl, hs2⟩ := s0
      unfold order_Run_Consistent_l2b order_Run_Consistent_k1
      rw [if_neg (by simp)]
      refine .map (.ret ⟨w64_succ (by omega), next fun k hk => ?_⟩)
      have hk2 := hk
      obtain ⟨_, a, _, h2, _⟩ := hk
      exact hs2 k (List.getElem?_eq_some_iff.1 h2).1 hk2
  · obtain ⟨rfl, hs⟩ := hs
    unfold order_Run_Consistent_l1b
    rw [if_neg (by simp)]
    refine .map (.ret ⟨fun _ i k h => ?_, fun _ => rfl⟩)
    have h2 := h
    obtain ⟨b, _, h1, _⟩ := h
    exact hs i k (List.getElem?_eq_some_iff.1 h1).1 h2

/-! ## The reference's -/
theorem ixR {i : Nat} {x : Torder_node} (h : l[i]? = some x) : ix (l.map toR) (i : Int) = some (toR x) := by rw [ix_nat, List.getElem?_map, h]; rfl
theorem from_is {i j : Nat} {w b : Torder_node} (hw : l[j]? = some w) (hb : l[i]? = some b) : ref21_from (l.map toR) j i = some (rfB w b) := by
  unfold ref21_from ref21_from_k1
  simp only [ixR l hw, ixR l hb, Option.bind_some, Reads_is]
  show (if rdB b.e.act = true then if decide (0 < w.e.id) = true then some (decide (b.e.rf = w.e.id)) else some false else some false) = _
  unfold rfB
  cases rdB b.e.act <;> cases decide (0 < w.e.id) <;> rfl
theorem Release_is (x y : Torder_node) : ref21_Release (toR x) (toR y) = some (rlB x y) := by
  have e : decide (1 ≤ x.e.id) = decide (0 < x.e.id) := by rw [decide_eq_decide]; omega
  unfold ref21_Release rlB
  show some _ = some _
  congr 1
  show (((((decide (x.e.act.kind = 6) || (decide (x.e.act.kind = 2) && x.e.act.volatile)) && (decide (y.e.act.kind = 5) || (decide (y.e.act.kind = 1) && y.e.act.volatile))) && (decide (x.e.act.at_ = y.e.act.at_))) && (decide (1 ≤ x.e.id))) && (decide (x.e.id ≤ y.e.rf))) = _
  rw [e, Bool.and_comm (decide (x.e.act.kind = 2)), Bool.and_comm (decide (y.e.act.kind = 1))]
def uj (g : Nat → Nat → Bool) (i j a b : Nat) : Bool := if a < i ∨ (a = i ∧ b < j) then g a b else false
theorem uj_set {n : Nat} {g : Nat → Nat → Bool} {i j : Nat} (hi : i < n) {v : Bool} (hv : v = g i j) : (t2 n n (uj g i j)).set i ((tb n (uj g i j i)).set j v) = t2 n n (uj g i (j + 1)) := by
  rw [t2_set hi]
  apply t2_ext
  intro a b ha hb
  unfold uj
  by_cases h : a = i ∧ b = j
  · rw [if_pos h, if_pos (by omega), h.1, h.2]; exact hv
  · rw [if_neg h]
    by_cases h2 : a < i ∨ (a = i ∧ b < j)
    · rw [if_pos h2, if_pos (by omega)]
    · rw [if_neg h2, if_neg (by omega)]
theorem uj_end {n : Nat} {g : Nat → Nat → Bool} {i : Nat} : t2 n n (uj g i n) = t2 n n (uj g (i + 1) 0) := by
  apply t2_ext
  intro a b ha hb
  unfold uj
  by_cases h2 : a < i ∨ (a = i ∧ b < n)
  · rw [if_pos h2, if_pos (by omega)]
  · rw [if_neg h2, if_neg (by omega)]
theorem Ahead_is (hl : l.length ≤ 1000) : Ok (ref21_Ahead (l.map toR)) (fun r => ∃ H, r = t2 l.length l.length H ∧ ∀ i j, i < l.length → j < l.length → (H i j = true ↔ Rch (Ed l.length (gr l [1, 5])) i j)) := by
  generalize hn : l.length = n
  have hn2 : (l.map toR).length = n := by rw [List.length_map, hn]
  unfold ref21_Ahead
  rw [hn2, matrix_is n (by omega)]
  simp only [Option.bind_some]
  unfold ref21_Ahead_l1
  refine Ok.loop (B := fun s => ref21_Ahead_l1b (l.map toR) s.1 s.2) (fun i s => s.2 = (i : Int) ∧ s.1 = t2 n n (uj (gr l [1, 5]) i 0)) n (fun i s hi hs => ?_) (fun s hs => ?_) ⟨rfl, t2_ext fun a b ha hb => by unfold uj; rw [if_neg (by omega)]⟩
  · obtain ⟨xs, i'⟩ := s
    obtain ⟨h1, h2⟩ := hs
    simp only at h1 h2
    subst h1 h2
    have hx : l[i]? = some l[i] := List.getElem?_eq_getElem (by omega)
    generalize l[i]'(by omega) = x at hx
    show Ok (ref21_Ahead_l1b _ _ i) _
    unfold ref21_Ahead_l1b
    rw [hn2, if_pos (decide_eq_true (by omega)), ixR l hx]
    simp only [Option.bind_some]
    unfold ref21_Ahead_l2
    refine Ok.loop (B := fun s => ref21_Ahead_l2b (l.map toR) i (toR x) s.1 s.2) (fun j s => s.2 = (j : Int) ∧ s.1 = t2 n n (uj (gr l [1, 5]) i j)) n (fun j s hj hs => ?_) (fun s hs => ?_) ⟨rfl, rfl⟩
    · obtain ⟨xs, j'⟩ := s
      obtain ⟨h1, h2⟩ := hs
      simp only at h1 h2
      subst h1 h2
      have hy : l[j]? = some l[j] := List.getElem?_eq_getElem (by omega)
      generalize l[j]'(by omega) = y at hy
      show Ok (ref21_Ahead_l2b _ i (toR x) _ j) _
      unfold ref21_Ahead_l2b ref21_Ahead_k1
      rw [hn2, if_pos (decide_eq_true (by omega)), ixR l hy]
      simp only [Option.bind_some, ix_tb hi, ix_tb hj, Int.toNat_natCast, Release_is]
      have hg : gr l [1, 5] i j = (decide (i ≠ j) && (poB x y || (rlB x y || false))) := by unfold gr; rw [hx, hy]; rfl
      have hp : poB x y = (decide ((toR x).e.t = (toR y).e.t) && decide ((toR x).at_ < (toR y).at_)) := rfl
      refine .ite (fun hb => .ite (fun ht => .ite (fun ha => .ret ⟨w64_succ (by omega), uj_set hi ?_⟩) (fun ha => .ret ⟨w64_succ (by omega), uj_set hi ?_⟩)) (fun ht => .ret ⟨w64_succ (by omega), uj_set hi ?_⟩)) (fun hb => .ret ⟨w64_succ (by omega), uj_set hi ?_⟩)
      · have : i ≠ j := by have := of_decide_eq_true hb; omega
        rw [hg, hp, ht, ha, decide_eq_true this]; rfl
      · have : i ≠ j := by have := of_decide_eq_true hb; omega
        rw [hg, hp, ht, ha, decide_eq_true this]; simp
      · have : i ≠ j := by have := of_decide_eq_true hb; omega
        rw [hg, hp, ht, decide_eq_true this]; simp
      · have : ¬ i ≠ j := by have := of_decide_eq_false hb; omega
        rw [hg, decide_eq_false this]; rfl
    · obtain ⟨xs, j'⟩ := s
      obtain ⟨h1, h2⟩ := hs
      simp only at h1 h2
      subst h1 h2
      show Ok (ref21_Ahead_l2b _ i (toR x) _ n) _
      unfold ref21_Ahead_l2b
      rw [hn2, if_neg (by simp)]
      exact .map (.ret ⟨w64_succ (by omega), uj_end⟩)
  · obtain ⟨xs, i'⟩ := s
    obtain ⟨h1, h2⟩ := hs
    simp only at h1 h2
    subst h1 h2
    show Ok (ref21_Ahead_l1b _ _ n) _
    unfold ref21_Ahead_l1b
    rw [hn2, if_neg (by simp), show t2 n n (uj (gr l [1, 5]) n 0) = t2 n n (gr l [1, 5]) from t2_ext fun a b ha hb => by unfold uj; rw [if_pos (.inl ha)]]
    exact .map ((closure_is n (by omega) (gr l [1, 5])).bind fun r hr => .ret hr)
theorem RCon_l1_is (hl : l.length ≤ 1000) : Ok (ref21_Consistent_l1 (l.map toR) (t2 l.length l.length H) 0) (fun r => r = true ↔ ∀ i k, ¬ Bd l H i k) := by
  have hn2 : (l.map toR).length = l.length := List.length_map _
  unfold ref21_Consistent_l1
  refine loop_for l (fun i s => s = (i : Int) ∧ ∀ i' k, i' < i → ¬ Bd l H i' k) (fun i b s hi hb s0 => ?_) (fun s hs => ?_) ⟨rfl, fun i k h => by omega⟩
  · obtain ⟨rfl, hs⟩ := s0
    have next : (∀ k, ¬ Bd l H i k) → ∀ i' k, i' < i + 1 → ¬ Bd l H i' k := by
      intro h i' k hi'
      by_cases e : i' = i
      · subst e; exact h k
      · exact hs i' k (by omega)
    unfold ref21_Consistent_l1b
    rw [hn2, if_pos (decide_eq_true (by omega))]
    unfold ref21_Consistent_l2
    refine loop_for l (fun k s => s = (k : Int) ∧ ∀ k', k' < k → ¬ Bd l H i k') (fun k a s hk hka s0 => ?_) (fun s s0 => ?_) ⟨rfl, fun k h => by omega⟩
    · obtain ⟨rfl, hs2⟩ := s0
      have go : ¬ Bd l H i k → Ok (ref21_Consistent_k1 (k : Int)) (Sum.elim (fun s => s = ((k + 1 : Nat) : Int) ∧ ∀ k', k' < k + 1 → ¬ Bd l H i k') (Sum.elim (fun s => s = ((i + 1 : Nat) : Int) ∧ ∀ i' k, i' < i + 1 → ¬ Bd l H i' k) (fun r => r = true ↔ ∀ i k, ¬ Bd l H i k))) := by
        intro h
        unfold ref21_Consistent_k1
        refine .ret ⟨w64_succ (by omega), fun k' hk' => ?_⟩
        by_cases e : k' = k
        · subst e; exact h
        · exact hs2 k' (by omega)
      have bad : Bd l H i k → Ok ((((some false).map Sum.inr).map Sum.inr : Option (Int ⊕ (Int ⊕ Bool)))) (Sum.elim (fun s => s = ((k + 1 : Nat) : Int) ∧ ∀ k', k' < k + 1 → ¬ Bd l H i k') (Sum.elim (fun s => s = ((i + 1 : Nat) : Int) ∧ ∀ i' k, i' < i + 1 → ¬ Bd l H i' k) (fun r => r = true ↔ ∀ i k, ¬ Bd l H i k))) :=
        fun h => .map (.map (.ret ⟨(fun h => by cases h), fun h2 => absurd h (h2 i k)⟩))
      have inv : Bd l H i k → i ≠ k ∧ rdB b.e.act = true ∧ wrB a.e.act = true ∧ a.e.act.at_ = b.e.act.at_ ∧ ((rfB a b = true ∧ H i k = true) ∨ (H k i = true ∧ 0 < a.e.id ∧ b.e.rf = 0) ∨ (H k i = true ∧ ∃ j w, l[j]? = some w ∧ rfB w b = true ∧ H j k = true)) := by
        rintro ⟨b', a', h1, h2, h3, h4, h5, h6, h7⟩
        rw [hb] at h1; cases h1
        rw [hka] at h2; cases h2
        exact ⟨h3, h4, h5, h6, h7⟩
      unfold ref21_Consistent_l2b
      rw [hn2, if_pos (decide_eq_true (by omega))]
      simp only [ixR l hb, ixR l hka, Option.bind_some, Reads_is, Writes_is]
      have skip : ¬ Bd l H i k → Ok (ref21_Consistent_k2 (l.map toR) (t2 l.length l.length H) i k true) (Sum.elim (fun s => s = ((k + 1 : Nat) : Int) ∧ ∀ k', k' < k + 1 → ¬ Bd l H i k') (Sum.elim (fun s => s = ((i + 1 : Nat) : Int) ∧ ∀ i' k, i' < i + 1 → ¬ Bd l H i' k) (fun r => r = true ↔ ∀ i k, ¬ Bd l H i k))) := by
        intro h
        unfold ref21_Consistent_k2
        rw [if_pos rfl]
        exact go h
      refine .ite (fun hc => skip fun h => ?_) (fun hc => .ite (fun hr => skip fun h => ?_) (fun hr => .ite (fun hw => skip fun h => ?_) (fun hw => ?_)))
      · have := of_decide_eq_true hc
        exact (inv h).1 (by omega)
      · rw [(inv h).2.1] at hr; cases hr
      · rw [(inv h).2.2.1] at hw; cases hw
      · have hik : i ≠ k := by have := of_decide_eq_false hc; omega
        have hr : rdB b.e.act = true := by simpa using hr
        have hw : wrB a.e.act = true := by simpa using hw
        show Ok (ref21_Consistent_k2 _ _ i k (decide (a.e.act.at_ ≠ b.e.act.at_))) _
        by_cases hat : a.e.act.at_ = b.e.act.at_
        · have mk : ((rfB a b = true ∧ H i k = true) ∨ (H k i = true ∧ 0 < a.e.id ∧ b.e.rf = 0) ∨ (H k i = true ∧ ∃ j w, l[j]? = some w ∧ rfB w b = true ∧ H j k = true)) → Bd l H i k := fun h => ⟨b, a, hb, hka, hik, hr, hw, hat, h⟩
          rw [show decide (a.e.act.at_ ≠ b.e.act.at_) = false from decide_eq_false (fun h => h hat)]
          unfold ref21_Consistent_k2
          rw [if_neg (by decide), from_is l hka hb]
          simp only [ixR l hb, ixR l hka, Option.bind_some, ix_tb hi, ix_tb hk, ifand]
          refine .ite (fun h1 => bad (mk (.inl (by simpa using h1)))) (fun h1 => ?_)
          refine .ite (fun h2 => bad (mk (.inr (.inl ?_)))) (fun h2 => ?_)
          · have h2 : (H k i = true ∧ 0 < a.e.id) ∧ b.e.rf = 0 := by
              have := (Bool.and_eq_true _ _).mp h2
              have h3 := (Bool.and_eq_true _ _).mp this.1
              exact ⟨⟨h3.1, of_decide_eq_true h3.2⟩, of_decide_eq_true this.2⟩
            exact ⟨h2.1.1, h2.1.2, h2.2⟩
          unfold ref21_Consistent_l3
          refine loop_for l (fun j s => s = (j : Int) ∧ ∀ j' w, j' < j → l[j']? = some w → ¬ (H k i = true ∧ rfB w b = true ∧ H j' k = true)) (fun j w s hj hjw s0 => ?_) (fun s s0 => ?_) ⟨rfl, fun j w h => by omega⟩
          · obtain ⟨rfl, hs3⟩ := s0
            unfold ref21_Consistent_l3b
            rw [hn2, if_pos (decide_eq_true (by omega))]
            simp only [Option.bind_some, ix_tb hi, ix_tb hk, ix_tb hj, from_is l hjw hb, ifand]
            refine .ite (fun h3 => ?_) (fun h3 => .ret ⟨w64_succ (by omega), fun j' w' hj' hw' => ?_⟩)
            · have h3 : (H k i = true ∧ rfB w b = true) ∧ H j k = true := by simpa using h3
              exact .map (bad (mk (.inr (.inr ⟨h3.1.1, j, w, hjw, h3.1.2, h3.2⟩))))
            · by_cases e : j' = j
              · subst e
                rw [hjw] at hw'; cases hw'
                rintro ⟨e1, e2, e3⟩
                rw [e1, e2, e3] at h3; cases h3
              · exact hs3 j' w' (by omega) hw'
          · obtain ⟨rfl, hs3⟩ := s0
            unfold ref21_Consistent_l3b
            rw [hn2, if_neg (by simp)]
            refine .map (go fun h => ?_)
            rcases (inv h).2.2.2.2 with h5 | h5 | ⟨h5, j, w, h6, h7⟩
            · rw [h5.1, h5.2] at h1; cases h1
            · rw [h5.1] at h2
              have e1 : decide (0 < (toR a).e.id) = true := decide_eq_true h5.2.1
              have e2 : decide ((toR b).e.rf = 0) = true := decide_eq_true h5.2.2
              rw [e1, e2] at h2; cases h2
            · exact hs3 j w (List.getElem?_eq_some_iff.1 h6).1 h6 ⟨h5, h7⟩
        · rw [show decide (a.e.act.at_ ≠ b.e.act.at_) = true from decide_eq_true hat]
          exact skip fun h => hat (inv h).2.2.2.1
    · obtain ⟨rfl, hs2⟩ := s0
      unfold ref21_Consistent_l2b
      rw [hn2, if_neg (by simp)]
      refine .map (.ret ⟨w64_succ (by omega), next fun k hk => ?_⟩)
      have hk2 := hk
      obtain ⟨_, a, _, h2, _⟩ := hk
      exact hs2 k (List.getElem?_eq_some_iff.1 h2).1 hk2
  · obtain ⟨rfl, hs⟩ := hs
    unfold ref21_Consistent_l1b
    rw [hn2, if_neg (by simp)]
    refine .map (.ret ⟨fun _ i k h => ?_, fun _ => rfl⟩)
    have h2 := h
    obtain ⟨b, _, h1, _⟩ := h
    exact hs i k (List.getElem?_eq_some_iff.1 h1).1 h2
end
end Go.Vm.GH21
