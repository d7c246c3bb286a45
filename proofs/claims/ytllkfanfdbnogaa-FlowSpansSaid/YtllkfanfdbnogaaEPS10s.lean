/-
  A short list is sorted by insertion.
-/
import Derived.Test.YtllkfanfdbnogaaEPS10w
set_option linter.unusedSimpArgs false
set_option linter.unusedVariables false
namespace Go.Vm.G10s
open Go

abbrev Sp := Tflow_Span
def le (a b : Sp) : Prop := a.from_ < b.from_ ∨ (a.from_ = b.from_ ∧ a.reg ≤ b.reg)
def bnd (s : Sp) : Prop := 0 ≤ s.from_ ∧ s.from_ ≤ 1000 ∧ 0 ≤ s.reg ∧ s.reg ≤ 1000
theorem cmp_is {a b : Sp} (ha : bnd a) (hb : bnd b) : Ok (flow_Spans_c1 a b) (fun r => (r < 0 → le a b) ∧ (¬ r < 0 → le b a)) := by
  obtain ⟨h1, h2, h3, h4⟩ := ha
  obtain ⟨h5, h6, h7, h8⟩ := hb
  unfold flow_Spans_c1
  refine .ite (fun hc => .ret ?_) (fun hc => .ret ?_)
  · have : a.from_ ≠ b.from_ := of_decide_eq_true hc
    rw [w64_id (by omega) (by omega)]
    exact ⟨fun h => .inl (by omega), fun h => .inl (by omega)⟩
  · have : a.from_ = b.from_ := by simpa using hc
    rw [w64_id (by omega) (by omega)]
    exact ⟨fun h => .inr ⟨this, by omega⟩, fun h => .inr ⟨this.symm, by omega⟩⟩
theorem le_trans {a b c : Sp} (h1 : le a b) (h2 : le b c) : le a c := by unfold le at *; omega

def sw (i j k : Nat) : Nat := if k = i then j else if k = j then i else k
theorem sw_sw (i j k : Nat) : sw i j (sw i j k) = k := by
  unfold sw
  by_cases h1 : k = i
  · subst h1; rw [if_pos rfl]
    by_cases h2 : j = k
    · rw [if_pos h2]; exact h2
    · rw [if_neg h2, if_pos rfl]
  · rw [if_neg h1]
    by_cases h2 : k = j
    · rw [if_pos h2, if_pos rfl]; exact h2.symm
    · rw [if_neg h2, if_neg h1, if_neg h2]
theorem sw_lt {n i j k : Nat} (hi : i < n) (hj : j < n) (hk : k < n) : sw i j k < n := by
  unfold sw; split
  · exact hj
  · split
    · exact hi
    · exact hk
def swp (g : Nat → Sp) (i j : Nat) : Nat → Sp := fun k => g (sw i j k)
/-- The same elements, in another order. -/
def Prm (n : Nat) (g h : Nat → Sp) : Prop := ∃ p : Nat → Nat, (∀ k, k < n → p k < n ∧ h k = g (p k)) ∧ (∀ i j, i < n → j < n → p i = p j → i = j) ∧ ∀ k, k < n → ∃ i, i < n ∧ p i = k
theorem Prm.refl (n : Nat) (g : Nat → Sp) : Prm n g g := ⟨fun k => k, fun k hk => ⟨hk, rfl⟩, fun _ _ _ _ h => h, fun k hk => ⟨k, hk, rfl⟩⟩
theorem Prm.swp {n : Nat} {g h : Nat → Sp} (hp : Prm n g h) {i j : Nat} (hi : i < n) (hj : j < n) : Prm n g (swp h i j) := by
  obtain ⟨p, h1, h2, h3⟩ := hp
  refine ⟨fun k => p (sw i j k), fun k hk => h1 _ (sw_lt hi hj hk), fun a b ha hb hab => ?_, fun k hk => ?_⟩
  · have := h2 _ _ (sw_lt hi hj ha) (sw_lt hi hj hb) hab
    rw [← sw_sw i j a, this, sw_sw]
  · obtain ⟨m, hm, rfl⟩ := h3 k hk
    exact ⟨sw i j m, sw_lt hi hj hm, by simp only [sw_sw]⟩
theorem insertion_is (n : Nat) (hn : n ≤ 1000) (g : Nat → Sp) (hb : ∀ k, k < n → bnd (g k)) : Ok (slices_insertionSortCmpFunc (tb n g) 0 n) (fun r => ∃ h, r = tb n h ∧ Prm n g h ∧ ∀ p q, p < q → q < n → le (h p) (h q)) := by
  have hbp : ∀ h, Prm n g h → ∀ k, k < n → bnd (h k) := by
    rintro h ⟨p, h1, _⟩ k hk
    rw [(h1 k hk).2]; exact hb _ (h1 k hk).1
  unfold slices_insertionSortCmpFunc slices_insertionSortCmpFunc_l1
  rw [show w64 ((0 : Int) + 1) = 1 from rfl]
  by_cases h0 : n = 0
  · subst h0
    rw [loopO_eq]
    show Ok ((slices_insertionSortCmpFunc_l1b 0 ((0 : Nat) : Int) (tb 0 g) 1).bind _) _
    unfold slices_insertionSortCmpFunc_l1b
    rw [if_neg (by decide)]
    exact ⟨_, rfl, g, rfl, Prm.refl 0 g, fun p q _ h => by omega⟩
  refine Ok.loop (B := fun s => slices_insertionSortCmpFunc_l1b 0 n s.1 s.2) (fun k s => s.2 = ((k + 1 : Nat) : Int) ∧ ∃ h, s.1 = tb n h ∧ Prm n g h ∧ ∀ p q, p < q → q < k + 1 → le (h p) (h q)) (n - 1) (fun k s hk hs => ?_) (fun s hs => ?_) ⟨rfl, g, rfl, Prm.refl n g, fun p q h1 h2 => by omega⟩
  · obtain ⟨xs, i⟩ := s
    obtain ⟨h1, h, h2, hp, hle⟩ := hs
    simp only at h1 h2
    subst h1 h2
    show Ok (slices_insertionSortCmpFunc_l1b 0 n (tb n h) ((k + 1 : Nat) : Int)) _
    unfold slices_insertionSortCmpFunc_l1b
    rw [if_pos (decide_eq_true (by omega))]
    unfold slices_insertionSortCmpFunc_l2
    refine Ok.loopM (B := fun s => slices_insertionSortCmpFunc_l2b 0 ((k + 1 : Nat) : Int) s.1 s.2) (fun s => ∃ (j : Nat) (h' : Nat → Sp), s = (tb n h', (j : Int)) ∧ j ≤ k + 1 ∧ Prm n g h' ∧ (∀ p q, p < q → q < k + 2 → p ≠ j → q ≠ j → le (h' p) (h' q)) ∧ (∀ q, j < q → q < k + 2 → le (h' j) (h' q))) (fun s => s.2.toNat) (fun s hs => ?_) ⟨k + 1, h, rfl, Nat.le_refl _, hp, fun p q h1 h2 h3 h4 => hle p q h1 (by omega), fun q h1 h2 => by omega⟩
    obtain ⟨j, h', rfl, hj, hp', hA, hB⟩ := hs
    show Ok (slices_insertionSortCmpFunc_l2b 0 ((k + 1 : Nat) : Int) (tb n h') (j : Int)) _
    unfold slices_insertionSortCmpFunc_l2b
    have fin : (∀ p, p < j → le (h' p) (h' j)) → Ok (slices_insertionSortCmpFunc_k1 ((k + 1 : Nat) : Int) (tb n h') (j : Int) false) (Sum.elim (fun s' => (∃ (j : Nat) (h' : Nat → Sp), s' = (tb n h', (j : Int)) ∧ j ≤ k + 1 ∧ Prm n g h' ∧ (∀ p q, p < q → q < k + 2 → p ≠ j → q ≠ j → le (h' p) (h' q)) ∧ (∀ q, j < q → q < k + 2 → le (h' j) (h' q))) ∧ s'.2.toNat < ((tb n h', (j : Int)) : List Sp × Int).2.toNat) (Sum.elim (fun s => s.2 = ((k + 1 + 1 : Nat) : Int) ∧ ∃ h, s.1 = tb n h ∧ Prm n g h ∧ ∀ p q, p < q → q < k + 1 + 1 → le (h p) (h q)) (fun r => ∃ h, r = tb n h ∧ Prm n g h ∧ ∀ p q, p < q → q < n → le (h p) (h q)))) := by
      intro hC
      unfold slices_insertionSortCmpFunc_k1
      rw [if_neg (by decide)]
      refine .map (.ret ⟨w64_succ (by omega), h', rfl, hp', fun p q h1 h2 => ?_⟩)
      by_cases hpj : p = j
      · subst hpj; exact hB q h1 (by omega)
      · by_cases hqj : q = j
        · subst hqj; exact hC p h1
        · exact hA p q h1 (by omega) hpj hqj
    refine .ite (fun hc => ?_) (fun hc => ?_)
    · have hj0 : 0 < j := by simp at hc; exact hc
      have hjn : j < n := by omega
      have hw : w64 ((j : Int) - 1) = ((j - 1 : Nat) : Int) := by rw [w64_id (by omega) (by omega)]; omega
      rw [ix_tb hjn, hw, ix_tb (show j - 1 < n by omega)]
      simp only [Option.bind_some]
      refine (cmp_is (hbp h' hp' j hjn) (hbp h' hp' (j - 1) (by omega))).bind fun r hr => ?_
      cases hd : decide (r < 0) with
      | false =>
        have hr0 : ¬ r < 0 := by simpa using hd
        refine fin fun p hpj => ?_
        by_cases h5 : p = j - 1
        · subst h5; exact hr.2 hr0
        · exact le_trans (hA p (j - 1) (by omega) (by omega) (by omega) (by omega)) (hr.2 hr0)
      | true =>
        have hr0 : r < 0 := by simpa using hd
        unfold slices_insertionSortCmpFunc_k1
        rw [if_pos rfl, hw, ix_tb (show j - 1 < n by omega), ix_tb hjn]
        simp only [Option.bind_some]
        rw [Int.toNat_natCast, Int.toNat_natCast, tb_set, ix_tb (show j - 1 < n by omega)]
        simp only [Option.bind_some]
        rw [tb_set]
        have hsw : tb n (fun q => if q = j - 1 then h' j else if q = j then h' (j - 1) else h' q) = tb n (swp h' j (j - 1)) := by
          apply tb_ext
          intro q hq
          unfold swp sw
          by_cases h5 : q = j
          · subst h5; rw [if_neg (by omega), if_pos rfl, if_pos rfl]
          · by_cases h6 : q = j - 1
            · rw [if_pos h6, if_neg h5, if_pos h6]
            · rw [if_neg h6, if_neg h5, if_neg h5, if_neg h6]
        rw [hsw]
        have e1 : swp h' j (j - 1) (j - 1) = h' j := by unfold swp sw; rw [if_neg (by omega), if_pos rfl]
        have e2 : swp h' j (j - 1) j = h' (j - 1) := by unfold swp sw; rw [if_pos rfl]
        have e3 : ∀ q, q ≠ j → q ≠ j - 1 → swp h' j (j - 1) q = h' q := fun q h1 h2 => by unfold swp sw; rw [if_neg h1, if_neg h2]
        refine .ret ⟨⟨j - 1, swp h' j (j - 1), rfl, by omega, hp'.swp hjn (by omega), fun p q h1 h2 h3 h4 => ?_, fun q h1 h2 => ?_⟩, ?_⟩
        · by_cases hpj : p = j
          · subst hpj
            rw [e2, e3 q (by omega) h4]
            exact hA (p - 1) q (by omega) h2 (by omega) (by omega)
          · by_cases hqj : q = j
            · subst hqj
              rw [e2, e3 p hpj h3]
              exact hA p (q - 1) (by omega) (by omega) hpj (by omega)
            · rw [e3 p hpj h3, e3 q hqj h4]
              exact hA p q h1 h2 hpj hqj
        · rw [e1]
          by_cases hqj : q = j
          · subst hqj; rw [e2]; exact hr.1 hr0
          · rw [e3 q hqj (by omega)]; exact hB q (by omega) h2
        · show ((j - 1 : Nat) : Int).toNat < (j : Int).toNat
          omega
    · have hj0 : j = 0 := by simp at hc; omega
      exact fin fun p hp => by omega
  · obtain ⟨xs, i⟩ := s
    obtain ⟨h1, h, h2, hp, hle⟩ := hs
    simp only at h1 h2
    subst h1 h2
    show Ok (slices_insertionSortCmpFunc_l1b 0 n (tb n h) ((n - 1 + 1 : Nat) : Int)) _
    unfold slices_insertionSortCmpFunc_l1b
    rw [if_neg (by simp; omega)]
    exact .map (.ret ⟨h, rfl, hp, fun p q h1 h2 => hle p q h1 (by omega)⟩)
end Go.Vm.G10s
