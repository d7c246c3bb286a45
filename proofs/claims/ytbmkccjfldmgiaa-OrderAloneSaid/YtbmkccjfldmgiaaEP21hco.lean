/-
  What happens ahead of what, and what a read may see.
-/
import Derived.Test.YtbmkccjfldmgiaaEP21do
set_option linter.unusedSimpArgs false
set_option linter.unusedVariables false
namespace Go.Vm.GO21
open Go

/-! ## A good run -/
def Own (t0 : Nat) (run : List (List TEvent)) : Prop := ∀ (t : Nat) l, run[t]? = some l → ∀ e ∈ l, e.t = ((t0 + t : Nat) : Int)
def Dst (x y : Torder_node) : Prop := x.e.t = y.e.t → x.at_ ≠ y.at_
theorem rowI_ge (q : TAct → Bool) : ∀ (l : List TEvent) (i : Nat) (x : Torder_node), x ∈ rowI q l i → (i : Int) ≤ x.at_ ∧ x.e ∈ l
  | [], i, x, h => by cases h
  | e :: l, i, x, h => by
    rw [rowI] at h
    rcases List.mem_append.1 h with h | h
    · split at h
      · rcases List.mem_singleton.1 h with rfl
        exact ⟨Int.le_refl _, by simp⟩
      · cases h
    · have := rowI_ge q l (i + 1) x h
      exact ⟨by omega, List.mem_cons_of_mem _ this.2⟩
theorem rowI_dst (q : TAct → Bool) : ∀ (l : List TEvent) (i : Nat), (rowI q l i).Pairwise Dst
  | [], i => .nil
  | e :: l, i => by
    rw [rowI, List.pairwise_append]
    refine ⟨by split <;> simp, rowI_dst q l (i + 1), fun a ha b hb _ => ?_⟩
    have := (rowI_ge q l (i + 1) b hb).1
    split at ha
    · rcases List.mem_singleton.1 ha with rfl
      show (i : Int) ≠ b.at_
      omega
    · cases ha
theorem nods_own (q : TAct → Bool) : ∀ (run : List (List TEvent)) (t0 : Nat), Own t0 run → ∀ x ∈ nods q run, (t0 : Int) ≤ x.e.t
  | [], t0, _, x, h => by cases h
  | l :: run, t0, ho, x, h => by
    unfold nods at h
    rw [List.flatMap_cons] at h
    rcases List.mem_append.1 h with h | h
    · have := ho 0 l rfl x.e (rowI_ge q l 0 x h).2
      omega
    · have := nods_own q run (t0 + 1) (fun t l' hl' e he => by rw [ho (t + 1) l' (by simpa using hl') e he]; omega) x h
      omega
theorem nods_dst (q : TAct → Bool) : ∀ (run : List (List TEvent)) (t0 : Nat), Own t0 run → (nods q run).Pairwise Dst
  | [], t0, _ => .nil
  | l :: run, t0, ho => by
    have ho' : Own (t0 + 1) run := fun t l' hl' e he => by rw [ho (t + 1) l' (by simpa using hl') e he]; omega
    unfold nods
    rw [List.flatMap_cons, List.pairwise_append]
    refine ⟨rowI_dst q l 0, nods_dst q run (t0 + 1) ho', fun a ha b hb hab => ?_⟩
    have h1 := ho 0 l rfl a.e (rowI_ge q l 0 a ha).2
    have h2 := nods_own q run (t0 + 1) ho' b hb
    omega
theorem dst_at {l : List Torder_node} (hd : l.Pairwise Dst) {i j : Nat} {x y : Torder_node} (hx : l[i]? = some x) (hy : l[j]? = some y) (h1 : x.e.t = y.e.t) (h2 : x.at_ = y.at_) : i = j := by
  have hi := (List.getElem?_eq_some_iff.1 hx)
  have hj := (List.getElem?_eq_some_iff.1 hy)
  rw [List.pairwise_iff_getElem] at hd
  rcases Nat.lt_trichotomy i j with h | h | h
  · have := hd i j hi.1 hj.1 h
    rw [hi.2, hj.2] at this
    exact absurd h2 (this h1)
  · exact h
  · have := hd j i hj.1 hi.1 h
    rw [hi.2, hj.2] at this
    exact absurd h2.symm (this h1.symm)
theorem eqE_inv {a b : TEvent} {i j : Int} (h : eqE a b i j = true) : a.t = b.t ∧ i = j := by
  unfold eqE at h
  simp only [Bool.and_eq_true, decide_eq_true_eq] at h
  exact ⟨h.1.1, h.2.1⟩
theorem eqE_refl (a : TEvent) (i : Int) : eqE a a i i = true := by
  unfold eqE; simp
theorem index_is (l : List Torder_node) (hl : l.length ≤ 1000) (hd : l.Pairwise Dst) (j : Nat) (w : Torder_node) (hw : l[j]? = some w) : slices_Index l w = some (j : Int) := by
  have hj := (List.getElem?_eq_some_iff.1 hw).1
  unfold slices_Index slices_Index_l1
  refine Ok.some_of (loop_for l (fun k s => s = (k : Int) ∧ k ≤ j) (fun k x s hk' hk hs => ?_) (fun s hs => ?_) ⟨rfl, Nat.zero_le _⟩)
  · obtain ⟨rfl, hs⟩ := hs
    unfold slices_Index_l1b
    rw [if_pos (decide_eq_true (by omega)), ix_nat, hk]
    simp only [Option.bind_some]
    show Ok (if eqE w.e x.e w.at_ x.at_ = true then _ else _) _
    refine .ite (fun hb => .map (.ret ?_)) (fun hb => .ret ⟨w64_succ (by omega), ?_⟩)
    · have := eqE_inv hb
      rw [dst_at hd hk hw this.1.symm this.2.symm]
      exact rfl
    · by_cases h : k = j
      · subst h
        rw [hw] at hk; cases hk
        rw [eqE_refl] at hb; cases hb
      · omega
  · obtain ⟨rfl, hs⟩ := hs
    omega

/-! ## What a read may not see -/
def Bd (l : List Torder_node) (H : Nat → Nat → Bool) (i k : Nat) : Prop := ∃ b a, l[i]? = some b ∧ l[k]? = some a ∧ i ≠ k ∧ rdB b.e.act = true ∧ wrB a.e.act = true ∧ a.e.act.at_ = b.e.act.at_ ∧
  ((rfB a b = true ∧ H i k = true) ∨ (H k i = true ∧ 0 < a.e.id ∧ b.e.rf = 0) ∨ (H k i = true ∧ ∃ j w, l[j]? = some w ∧ rfB w b = true ∧ H j k = true))
section
variable (l : List Torder_node) (hl : l.length ≤ 1000) (hd : l.Pairwise Dst) (H : Nat → Nat → Bool)
theorem c1_is (hl : l.length ≤ 1000) (hd : l.Pairwise Dst) {j k : Nat} {w b : Torder_node} (hw : l[j]? = some w) (hk : k < l.length) : order_Run_Consistent_c1 w b (t2 l.length l.length H) l k = some (rfB w b && H j k) := by
  have hj := (List.getElem?_eq_some_iff.1 hw).1
  unfold order_Run_Consistent_c1 order_Run_Consistent_c1_k1
  rw [rf_is, index_is l hl hd j w hw]
  simp only [Option.bind_some, ix_tb hj, ix_tb hk]
  cases rfB w b <;> rfl
theorem any_is (hl : l.length ≤ 1000) (hd : l.Pairwise Dst) {k : Nat} {b : Torder_node} (hk : k < l.length) : Ok (slices_ContainsFunc_2 l b (t2 l.length l.length H) l k) (fun r => r = true ↔ ∃ j w, l[j]? = some w ∧ rfB w b = true ∧ H j k = true) := by
  unfold slices_ContainsFunc_2 slices_IndexFunc_2 slices_IndexFunc_2_l1
  refine Ok.bind (P := fun i => (0 : Int) ≤ i ↔ ∃ j w, l[j]? = some w ∧ rfB w b = true ∧ H j k = true) ?_ (fun i hi => .ret (by simpa using hi))
  refine loop_for l (fun m s => s = (m : Int) ∧ ∀ j w, j < m → l[j]? = some w → ¬ (rfB w b = true ∧ H j k = true)) (fun m w s hm' hm hs => ?_) (fun s hs => ?_) ⟨rfl, fun j w h => by omega⟩
  · obtain ⟨rfl, hs⟩ := hs
    unfold slices_IndexFunc_2_l1b
    rw [if_pos (decide_eq_true (by omega)), ix_nat, hm]
    simp only [Option.bind_some, c1_is l H hl hd hm hk]
    refine .ite (fun hb => .map (.ret ⟨fun _ => ⟨m, w, hm, by simpa using hb⟩, fun _ => by omega⟩)) (fun hb => .ret ⟨w64_succ (by omega), fun j w' hj hw' => ?_⟩)
    by_cases h : j = m
    · subst h
      rw [hm] at hw'; cases hw'
      rintro ⟨h1, h2⟩
      rw [h1, h2] at hb; cases hb
    · exact hs j w' (by omega) hw'
  · obtain ⟨rfl, hs⟩ := hs
    unfold slices_IndexFunc_2_l1b
    rw [if_neg (by simp)]
    refine .map (.ret ⟨(fun h => absurd h (by decide)), ?_⟩)
    rintro ⟨j, w, h1, h2⟩
    exact absurd h2 (hs j w (List.getElem?_eq_some_iff.1 h1).1 h1)
theorem Con_l1_is (hl : l.length ≤ 1000) (hd : l.Pairwise Dst) : Ok (order_Run_Consistent_l1 l (t2 l.length l.length H) 0) (fun r => r = true ↔ ∀ i k, ¬ Bd l H i k) := by
  unfold order_Run_Consistent_l1
  refine loop_for l (fun i s => s = (i : Int) ∧ ∀ i' k, i' < i → ¬ Bd l H i' k) (fun i b s hi hb s0 => ?_) (fun s hs => ?_) ⟨rfl, fun i k h => by omega⟩
  · obtain ⟨rfl, hs⟩ := s0
    have next : (∀ k, ¬ Bd l H i k) → ∀ i' k, i' < i + 1 → ¬ Bd l H i' k := by
      intro h i' k hi'
      by_cases e : i' = i
      · subst e; exact h k
      · exact hs i' k (by omega)
    unfold order_Run_Consistent_l1b order_Run_Consistent_k1
    rw [if_pos (decide_eq_true (by omega)), ix_nat, hb]
    simp only [Option.bind_some, reads_is]
    refine .ite (fun hr => .ret ⟨w64_succ (by omega), next fun k => ?_⟩) (fun hr => ?_)
    · rintro ⟨b', a, h1, h2, h3, h4, _⟩
      rw [hb] at h1; cases h1
      rw [h4] at hr; cases hr
    have hr : rdB b.e.act = true := by simpa using hr
    unfold order_Run_Consistent_l2
    refine loop_for l (fun k s => s = (k : Int) ∧ ∀ k', k' < k → ¬ Bd l H i k') (fun k a s hk hka s0 => ?_) (fun s s0 => ?_) ⟨rfl, fun k h => by omega⟩
    · obtain ⟨rfl, hs2⟩ := s0
      have go : ¬ Bd l H i k → Ok (order_Run_Consistent_k2 (k : Int)) (Sum.elim (fun s => s = ((k + 1 : Nat) : Int) ∧ ∀ k', k' < k + 1 → ¬ Bd l H i k') (Sum.elim (fun s => s = ((i + 1 : Nat) : Int) ∧ ∀ i' k, i' < i + 1 → ¬ Bd l H i' k) (fun r => r = true ↔ ∀ i k, ¬ Bd l H i k))) := by
        intro h
        unfold order_Run_Consistent_k2
        refine .ret ⟨w64_succ (by omega), fun k' hk' => ?_⟩
        by_cases e : k' = k
        · subst e; exact h
        · exact hs2 k' (by omega)
      have bad : Bd l H i k → Ok ((((some false).map Sum.inr).map Sum.inr : Option (Int ⊕ (Int ⊕ Bool)))) (Sum.elim (fun s => s = ((k + 1 : Nat) : Int) ∧ ∀ k', k' < k + 1 → ¬ Bd l H i k') (Sum.elim (fun s => s = ((i + 1 : Nat) : Int) ∧ ∀ i' k, i' < i + 1 → ¬ Bd l H i' k) (fun r => r = true ↔ ∀ i k, ¬ Bd l H i k))) :=
        fun h => .map (.map (.ret ⟨(fun h => by cases h), fun h2 => absurd h (h2 i k)⟩))
      have inv : Bd l H i k → i ≠ k ∧ wrB a.e.act = true ∧ a.e.act.at_ = b.e.act.at_ ∧ ((rfB a b = true ∧ H i k = true) ∨ (H k i = true ∧ 0 < a.e.id ∧ b.e.rf = 0) ∨ (H k i = true ∧ ∃ j w, l[j]? = some w ∧ rfB w b = true ∧ H j k = true)) := by
        rintro ⟨b', a', h1, h2, h3, h4, h5, h6, h7⟩
        rw [hb] at h1; cases h1
        rw [hka] at h2; cases h2
        exact ⟨h3, h5, h6, h7⟩
      unfold order_Run_Consistent_l2b
      rw [if_pos (decide_eq_true (by omega)), ix_nat, hka]
      simp only [Option.bind_some, writes_is, rf_is, ifor, ix_tb hi, ix_tb hk]
      refine .ite (fun hc => go fun h => ?_) (fun hc => ?_)
      · obtain ⟨h1, h2, h3, _⟩ := inv h
        have : ¬ (i : Int) = (k : Int) := by omega
        rw [decide_eq_false this, h2, h3] at hc
        simp at hc
      · have hc : ((i : Int) ≠ (k : Int) ∧ wrB a.e.act = true) ∧ a.e.act.at_ = b.e.act.at_ := by simpa using hc
        have hik : i ≠ k := by have := hc.1.1; omega
        have key : ∀ v, v = (rfB a b && H i k) → Ok (order_Run_Consistent_k3 l (t2 l.length l.length H) i b k a v) (Sum.elim (fun s => s = ((k + 1 : Nat) : Int) ∧ ∀ k', k' < k + 1 → ¬ Bd l H i k') (Sum.elim (fun s => s = ((i + 1 : Nat) : Int) ∧ ∀ i' k, i' < i + 1 → ¬ Bd l H i' k) (fun r => r = true ↔ ∀ i k, ¬ Bd l H i k))) := by
          intro v hv
          have mk : ((rfB a b = true ∧ H i k = true) ∨ (H k i = true ∧ 0 < a.e.id ∧ b.e.rf = 0) ∨ (H k i = true ∧ ∃ j w, l[j]? = some w ∧ rfB w b = true ∧ H j k = true)) → Bd l H i k := fun h => ⟨b, a, hb, hka, hik, hr, hc.1.2, hc.2, h⟩
          unfold order_Run_Consistent_k3
          refine .ite (fun h1 => bad (mk (.inl ?_))) (fun h1 => ?_)
          · rw [hv] at h1; simpa using h1
          simp only [ix_tb hk, ix_tb hi, Option.bind_some]
          refine .ite (fun h2 => bad (mk (.inr (.inl ?_)))) (fun h2 => ?_)
          · have h2 : (H k i = true ∧ b.e.rf < a.e.id) ∧ b.e.rf = 0 := by simpa using h2
            exact ⟨h2.1.1, by omega, h2.2⟩
          refine Ok.bind (P := fun y => y = true ↔ (H k i = true ∧ ∃ j w, l[j]? = some w ∧ rfB w b = true ∧ H j k = true)) (.ite (fun h3 => (any_is l H hl hd hk).bind fun y hy => .ret ?_) (fun h3 => .ret ?_)) (fun y hy => ?_)
          · rw [hy, h3]; simp
          · rw [h3]; simp
          · refine .ite (fun h4 => bad (mk (.inr (.inr (hy.1 h4))))) (fun h4 => go fun h => ?_)
            rcases (inv h).2.2.2 with h5 | h5 | h5
            · rw [hv, h5.1, h5.2] at h1; cases h1
            · rw [h5.1, decide_eq_true (show b.e.rf < a.e.id by omega), decide_eq_true h5.2.2] at h2; cases h2
            · rw [hy.2 h5] at h4; cases h4
        exact .ite (fun h0 => key _ (by rw [h0]; rfl)) (fun h0 => key _ (by rw [h0]; rfl))
    · obtain ⟨rfl, hs2⟩ := s0
      unfold order_Run_Consistent_l2b order_Run_Consistent_k1
      rw [if_neg (by simp)]
      refine .map (.ret ⟨w64_succ (by omega), next fun k hk => ?_⟩)
      have hk2 := hk
      obtain ⟨_, a, _, h2, _⟩ := hk
      exact hs2 k (List.getElem?_eq_some_iff.1 h2).1 hk2
  · obtain ⟨rfl, hs⟩ := hs
    unfold order_Run_Consistent_l1b
    rw [if_neg (by simp)]
    refine .map (.ret ⟨fun _ i k h => ?_, fun _ => rfl⟩)
    have h2 := h
    obtain ⟨b, _, h1, _⟩ := h
    exact hs i k (List.getElem?_eq_some_iff.1 h1).1 h2

end
end Go.Vm.GO21
