/-
 Plain laws, one behind the other.
-/
import Derived.Test.YtngmbcedamphmaaEPl3
import Derived.Test.YtngmbcedamphmaaEOG13s
set_option linter.unusedSimpArgs false
set_option linter.unusedVariables false
set_option linter.unusedSectionVars false
namespace Go.Vm.G13s.Q
open Go
section
abbrev Nd := Tflow_Span
def ky (x : Nd) : Int := x.from_ * 2048 + x.reg
def kb (x : Nd) : Prop := 0 ≤ x.from_ ∧ x.from_ ≤ 1000 ∧ 0 ≤ x.reg ∧ x.reg ≤ 1000
def cv (x y : Nd) : Int := if x.from_ ≠ y.from_ then x.from_ - y.from_ else x.reg - y.reg
theorem cmp_is {x y : Nd} (hx : kb x) (hy : kb y) : flow_Spans_c1 x y = some (cv x y) := by
 unfold flow_Spans_c1 cv
 obtain ⟨h1, h2, h3, h4⟩ := hx
 obtain ⟨h5, h6, h7, h8⟩ := hy
 by_cases h : x.from_ ≠ y.from_
 ·rw [if_pos (by simpa using h), if_pos h, w64_id (by omega) (by omega)]
 ·rw [if_neg (by simpa using h), if_neg h, w64_id (by omega) (by omega)]
theorem cv_lt {x y : Nd} (hx : kb x) (hy : kb y) : decide (cv x y < 0) = decide (ky x - ky y < 0) := by
 unfold cv ky
 obtain ⟨h1, h2, h3, h4⟩ := hx
 obtain ⟨h5, h6, h7, h8⟩ := hy
 apply decide_eq_decide.2
 split <;> omega
def sw (i j k : Nat) : Nat := if k = i then j else if k = j then i else k
theorem sw_i (i j : Nat) : sw i j i = j := if_pos rfl
theorem sw_j (i j : Nat) : sw i j j = i := by
 unfold sw
 split
 ·rename_i h; exact h
 ·rw [if_pos rfl]
theorem sw_o {i j k : Nat} (h1 : k ≠ i) (h2 : k ≠ j) : sw i j k = k := by unfold sw; rw [if_neg h1, if_neg h2]
theorem sw_sw (i j k : Nat) : sw i j (sw i j k) = k := by
 by_cases h1 : k = i
 ·subst h1; rw [sw_i, sw_j]
 ·by_cases h2 : k = j
  ·subst h2; rw [sw_j, sw_i]
  ·rw [sw_o h1 h2, sw_o h1 h2]
def swp (h : Nat → Nd) (i j : Nat) : Nat → Nd := fun k => h (sw i j k)
theorem swap_tb {n : Nat} {h : Nat → Nd} {i j : Nat} : ((tb n h).set i (h j)).set j (h i) = tb n (swp h i j) := by
 rw [tb_set, tb_set]
 apply tb_ext
 intro k hk
 unfold swp sw
 by_cases h1 : k = j
 ·subst h1
  rw [if_pos rfl]
  by_cases h2 : k = i
  ·rw [if_pos h2, h2]
  ·rw [if_neg h2, if_pos rfl]
 ·rw [if_neg h1]
  by_cases h2 : k = i
  ·rw [if_pos h2, if_pos h2]
  ·rw [if_neg h2, if_neg h2, if_neg h1]
structure PR (a b : Nat) (g h : Nat → Nd) (p q : Nat → Nat) : Prop where
 map : ∀ k, h k = g (p k)
 inv : ∀ k, p (q k) = k ∧ q (p k) = k
 out : ∀ k, (k < a ∨ b ≤ k) → p k = k
 ins : ∀ k, a ≤ k → k < b → a ≤ p k ∧ p k < b
def Pm (a b : Nat) (g h : Nat → Nd) : Prop := ∃ p q, PR a b g h p q
section
variable {a b a' b' i j n : Nat} {g h h' : Nat → Nd}
theorem Pm.refl (a b : Nat) (g : Nat → Nd) : Pm a b g g := ⟨fun k => k, fun k => k, fun _ => rfl, fun _ => ⟨rfl, rfl⟩, fun _ _ => rfl, fun _ h1 h2 => ⟨h1, h2⟩⟩
theorem Pm.trans (h1 : Pm a b g h) (h2 : Pm a b h h') : Pm a b g h' := by
 obtain ⟨p, q, a1, a2, a3, a4⟩ := h1
 obtain ⟨p', q', b1, b2, b3, b4⟩ := h2
 refine ⟨fun k => p (p' k), fun k => q' (q k), fun k => by rw [b1, a1], fun k => ⟨?_, ?_⟩, fun k hk => ?_, fun k hk1 hk2 => ?_⟩
 ·show p (p' (q' (q k))) = k
  rw [(b2 _).1, (a2 _).1]
 ·show q' (q (p (p' k))) = k
  rw [(a2 _).2, (b2 _).2]
 ·show p (p' k) = k
  rw [b3 k hk, a3 k hk]
 ·have := b4 k hk1 hk2
  exact a4 _ this.1 this.2
theorem Pm.one (hi : a ≤ i) (hi2 : i < b) (hj : a ≤ j) (hj2 : j < b) : Pm a b h (swp h i j) := by
 refine ⟨sw i j, sw i j, fun _ => rfl, fun k => ⟨sw_sw i j k, sw_sw i j k⟩, fun k hk => sw_o (by omega) (by omega), fun k h1 h2 => ?_⟩
 unfold sw
 split
 ·exact ⟨hj, hj2⟩
 ·split
  ·exact ⟨hi, hi2⟩
  ·exact ⟨h1, h2⟩
theorem Pm.swp (h1 : Pm a b g h) (hi : a ≤ i) (hi2 : i < b) (hj : a ≤ j) (hj2 : j < b) : Pm a b g (swp h i j) := h1.trans (.one hi hi2 hj hj2)
theorem Pm.wide (h1 : Pm a b g h) (ha : a' ≤ a) (hb : b ≤ b') : Pm a' b' g h := by
 obtain ⟨p, q, a1, a2, a3, a4⟩ := h1
 refine ⟨p, q, a1, a2, fun k hk => a3 k (by omega), fun k h1 h2 => ?_⟩
 by_cases hk : k < a ∨ b ≤ k
 ·rw [a3 k hk]; exact ⟨h1, h2⟩
 ·have := a4 k (by omega) (by omega)
  omega
theorem Pm.same (h1 : Pm a b g h) {k : Nat} (hk : k < a ∨ b ≤ k) : h k = g k := by
 obtain ⟨p, q, a1, a2, a3, a4⟩ := h1
 rw [a1, a3 k hk]
theorem Pm.all (h1 : Pm a b g h) {Q : Nd → Prop} (hq : ∀ k, a ≤ k → k < b → Q (g k)) : ∀ k, a ≤ k → k < b → Q (h k) := by
 obtain ⟨p, q, a1, a2, a3, a4⟩ := h1
 intro k hk1 hk2
 rw [a1]
 have := a4 k hk1 hk2
 exact hq _ this.1 this.2
theorem Pm.every (h1 : Pm a b g h) (hb : b ≤ n) {Q : Nd → Prop} (hq : ∀ k, k < n → Q (g k)) : ∀ k, k < n → Q (h k) := by
 intro k hk
 by_cases hk2 : k < a ∨ b ≤ k
 ·rw [h1.same hk2]; exact hq k hk
 ·exact h1.all (fun k _ h2 => hq k (by omega)) k (by omega) (by omega)
theorem Pm.inj (h1 : Pm a b g h) (hb : b ≤ n) (hg : ∀ i j, i < n → j < n → ky (g i) = ky (g j) → i = j) : ∀ i j, i < n → j < n → ky (h i) = ky (h j) → i = j := by
 obtain ⟨p, q, a1, a2, a3, a4⟩ := h1
 have lt : ∀ k, k < n → p k < n := by
  intro k hk
  by_cases hk2 : k < a ∨ b ≤ k
  ·rw [a3 k hk2]; exact hk
  ·have := a4 k (by omega) (by omega); omega
 intro i j hi hj hij
 rw [a1, a1] at hij
 have := hg _ _ (lt i hi) (lt j hj) hij
 rw [← (a2 i).2, this, (a2 j).2]
end
def Srt (a b : Nat) (h : Nat → Nd) : Prop := ∀ p q, a ≤ p → p < q → q < b → ky (h p) ≤ ky (h q)
structure Tb (n : Nat) (h : Nat → Nd) : Prop where
 key : ∀ k, k < n → kb (h k)
theorem Tb.pm {n a b : Nat} {g h : Nat → Nd} (t : Tb n g) (hp : Pm a b g h) (hb : b ≤ n) : Tb n h := ⟨hp.every hb t.key⟩
section
variable {n : Nat} {h : Nat → Nd}
theorem Tb.cmp (t : Tb n h) {i j : Nat} (hi : i < n) (hj : j < n) : flow_Spans_c1 (h i) (h j) = some (cv (h i) (h j)) := cmp_is (t.key i hi) (t.key j hj)
theorem Tb.lt (t : Tb n h) {i j : Nat} (hi : i < n) (hj : j < n) : decide (cv (h i) (h j) < 0) = decide (ky (h i) - ky (h j) < 0) := cv_lt (t.key i hi) (t.key j hj)
theorem wadd {i j : Nat} (h1 : i + j ≤ 1000000) : w64 ((i : Int) + (j : Int)) = ((i + j : Nat) : Int) := by rw [w64_id (by omega) (by omega)]; omega
theorem wsub {i j : Nat} (h1 : j ≤ i) (h2 : i ≤ 1000000) : w64 ((i : Int) - (j : Int)) = ((i - j : Nat) : Int) := by rw [w64_id (by omega) (by omega)]; omega
theorem wsub1 {i : Nat} (h1 : 1 ≤ i) (h2 : i ≤ 1000000) : w64 ((i : Int) - 1) = ((i - 1 : Nat) : Int) := wsub (j := 1) h1 h2
theorem wadd1 {i : Nat} (h2 : i ≤ 1000000) : w64 ((i : Int) + 1) = ((i + 1 : Nat) : Int) := w64_succ (by omega)
theorem insertion_is (hn : n ≤ 1000) (t : Tb n h) (a b : Nat) (hab : a ≤ b) (hb : b ≤ n) : Ok (s_insertionSort (tb n h) a b) (fun r => ∃ h', r = tb n h' ∧ Pm a b h h' ∧ Srt a b h') := by
 unfold s_insertionSort s_insertionSort_l1
 rw [wadd1 (by omega)]
 by_cases h0 : a = b
 ·subst h0
  rw [loopO_eq]
  show Ok ((s_insertionSort_l1b a a (tb n h) ((a + 1 : Nat) : Int)).bind _) _
  unfold s_insertionSort_l1b
  rw [if_neg (by simp; omega)]
  exact ⟨_, rfl, h, rfl, .refl _ _ _, fun p q h1 h2 h3 => by omega⟩
 refine Ok.loop (B := fun s => s_insertionSort_l1b a b s.1 s.2) (fun k s => s.2 = ((a + k + 1 : Nat) : Int) ∧ ∃ h', s.1 = tb n h' ∧ Pm a b h h' ∧ Srt a (a + k + 1) h') (b - a - 1) (fun k s hk hs => ?_) (fun s hs => ?_) ⟨rfl, h, rfl, .refl _ _ _, fun p q h1 h2 h3 => by omega⟩
 ·obtain ⟨xs, i⟩ := s
  obtain ⟨h1, g, h2, hp, hle⟩ := hs
  simp only at h1 h2
  subst h1 h2
  show Ok (s_insertionSort_l1b a b (tb n g) ((a + k + 1 : Nat) : Int)) _
  unfold s_insertionSort_l1b
  rw [if_pos (decide_eq_true (by omega))]
  unfold s_insertionSort_l2
  let E : Nat := a + k + 2
  refine Ok.loopM (B := fun s => s_insertionSort_l2b a ((a + k + 1 : Nat) : Int) s.1 s.2) (fun s => ∃ (j : Nat) (g' : Nat → Nd), s = (tb n g', (j : Int)) ∧ a ≤ j ∧ j < a + k + 2 ∧ Pm a b h g' ∧ (∀ p q, a ≤ p → p < q → q < a + k + 2 → p ≠ j → q ≠ j → ky (g' p) ≤ ky (g' q)) ∧ (∀ q, j < q → q < a + k + 2 → ky (g' j) ≤ ky (g' q))) (fun s => s.2.toNat) (fun s hs => ?_) ⟨a + k + 1, g, rfl, by omega, by omega, hp, fun p q h1 h2 h3 h4 h5 => hle p q h1 h2 (by omega), fun q h1 h2 => by omega⟩
  obtain ⟨j, g', rfl, hja, hj, hp', hA, hB⟩ := hs
  have t' := t.pm hp' hb
  show Ok (s_insertionSort_l2b a ((a + k + 1 : Nat) : Int) (tb n g') (j : Int)) _
  unfold s_insertionSort_l2b
  have fin : (∀ p, a ≤ p → p < j → ky (g' p) ≤ ky (g' j)) → Ok (s_insertionSort_k1 ((a + k + 1 : Nat) : Int) (tb n g') (j : Int) false) (Sum.elim (fun s' => (∃ (j : Nat) (g' : Nat → Nd), s' = (tb n g', (j : Int)) ∧ a ≤ j ∧ j < a + k + 2 ∧ Pm a b h g' ∧ (∀ p q, a ≤ p → p < q → q < a + k + 2 → p ≠ j → q ≠ j → ky (g' p) ≤ ky (g' q)) ∧ (∀ q, j < q → q < a + k + 2 → ky (g' j) ≤ ky (g' q))) ∧ s'.2.toNat < ((tb n g', (j : Int)) : List Nd × Int).2.toNat) (Sum.elim (fun s => s.2 = ((a + (k + 1) + 1 : Nat) : Int) ∧ ∃ h', s.1 = tb n h' ∧ Pm a b h h' ∧ Srt a (a + (k + 1) + 1) h') (fun r => ∃ h', r = tb n h' ∧ Pm a b h h' ∧ Srt a b h'))) := by
   intro hC
   unfold s_insertionSort_k1
   rw [if_neg (by decide)]
   refine .map (.ret ⟨w64_succ (by omega), g', rfl, hp', fun p q h0 h1 h2 => ?_⟩)
   by_cases hpj : p = j
   ·subst hpj; exact hB q h1 (by omega)
   ·by_cases hqj : q = j
    ·subst hqj; exact hC p h0 h1
    ·exact hA p q h0 h1 (by omega) hpj hqj
  refine .ite (fun hc => ?_) (fun hc => ?_)
  ·have hj0 : a < j := by simp at hc; exact hc
   have hjn : j < n := by omega
   have hw : w64 ((j : Int) - 1) = ((j - 1 : Nat) : Int) := wsub1 (by omega) (by omega)
   rw [ix_tb hjn, hw, ix_tb (show j - 1 < n by omega)]
   simp only [Option.bind_some]
   rw [t'.cmp hjn (by omega)]
   simp only [Option.bind_some]
   rw [t'.lt hjn (by omega)]
   cases hd : decide (ky (g' j) - ky (g' (j - 1)) < 0) with
   | false =>
    have hr0 : ky (g' (j - 1)) ≤ ky (g' j) := by have := of_decide_eq_false hd; omega
    refine fin fun p hpa hpj => ?_
    by_cases h5 : p = j - 1
    ·subst h5; exact hr0
    ·exact Int.le_trans (hA p (j - 1) hpa (by omega) (by omega) (by omega) (by omega)) hr0
   | true =>
    have hr0 : ky (g' j) ≤ ky (g' (j - 1)) := by have := of_decide_eq_true hd; omega
    unfold s_insertionSort_k1
    rw [if_pos rfl, hw, ix_tb (show j - 1 < n by omega), ix_tb hjn]
    simp only [Option.bind_some, Int.toNat_natCast]
    rw [show ix ((tb n g').set j (g' (j - 1))) ((j - 1 : Nat) : Int) = some (g' (j - 1)) from by rw [tb_set, ix_tb (show j - 1 < n by omega), if_neg (by omega)]]
    simp only [Option.bind_some]
    rw [swap_tb]
    have e1 : swp g' j (j - 1) (j - 1) = g' j := by unfold swp; rw [sw_j]
    have e2 : swp g' j (j - 1) j = g' (j - 1) := by unfold swp; rw [sw_i]
    have e3 : ∀ q, q ≠ j → q ≠ j - 1 → swp g' j (j - 1) q = g' q := fun q h1 h2 => by unfold swp; rw [sw_o h1 h2]
    refine .ret ⟨⟨j - 1, swp g' j (j - 1), rfl, by omega, by omega, hp'.swp (by omega) (by omega) (by omega) (by omega), fun p q h0 h1 h2 h3 h4 => ?_, fun q h1 h2 => ?_⟩, ?_⟩
    ·by_cases hpj : p = j
     ·subst hpj
      rw [e2, e3 q (by omega) h4]
      exact hA (p - 1) q (by omega) (by omega) h2 (by omega) (by omega)
     ·by_cases hqj : q = j
      ·subst hqj
       rw [e2, e3 p hpj h3]
       exact hA p (q - 1) h0 (by omega) (by omega) hpj (by omega)
      ·rw [e3 p hpj h3, e3 q hqj h4]
       exact hA p q h0 h1 h2 hpj hqj
    ·rw [e1]
     by_cases hqj : q = j
     ·subst hqj; rw [e2]; exact hr0
     ·rw [e3 q hqj (by omega)]; exact hB q (by omega) h2
    ·show ((j - 1 : Nat) : Int).toNat < (j : Int).toNat
     omega
  ·have hj0 : j = a := by simp at hc; omega
   exact fin fun p hpa hp => by omega
 ·obtain ⟨xs, i⟩ := s
  obtain ⟨h1, g, h2, hp, hle⟩ := hs
  simp only at h1 h2
  subst h1 h2
  show Ok (s_insertionSort_l1b a b (tb n g) ((a + (b - a - 1) + 1 : Nat) : Int)) _
  unfold s_insertionSort_l1b
  rw [if_neg (by simp; omega)]
  exact .map (.ret ⟨g, rfl, hp, fun p q h1 h2 h3 => hle p q h1 h2 (by omega)⟩)
def par (c : Nat) : Nat := (c - 1) / 2
structure HP (f lo hi : Nat) (h : Nat → Nd) (r : Nat) : Prop where
 heap : ∀ c, 1 ≤ c → c < hi → lo ≤ par c → par c ≠ r → ky (h (f + c)) ≤ ky (h (f + par c))
 up : ∀ c, 1 ≤ c → c < hi → par c = r → 1 ≤ r → lo ≤ par r → ky (h (f + c)) ≤ ky (h (f + par r))
def Heap (f lo hi : Nat) (h : Nat → Nd) : Prop := ∀ c, 1 ≤ c → c < hi → lo ≤ par c → ky (h (f + c)) ≤ ky (h (f + par c))
theorem siftDown_is (hn : n ≤ 1000) (t : Tb n h) (f lo hi : Nat) (hl2 : lo ≤ 1000) (hf : f + hi ≤ n) (h0 : Heap f (lo + 1) hi h) : Ok (s_siftDown (tb n h) lo hi f) (fun r => ∃ h', r = tb n h' ∧ Pm (f + lo) (f + hi) h h' ∧ Heap f lo hi h') := by
 unfold s_siftDown s_siftDown_l1
 by_cases hlo : hi ≤ lo
 ·rw [loopO_eq]
  show Ok ((s_siftDown_l1b hi f (tb n h) lo).bind _) _
  unfold s_siftDown_l1b
  have w1 : w64 (2 * (lo : Int)) = ((2 * lo : Nat) : Int) := by rw [w64_id (by omega) (by omega)]; omega
  rw [w1, wadd1 (by omega), if_pos (decide_eq_true (by omega))]
  exact ⟨_, rfl, h, rfl, .refl _ _ _, fun c h1 h2 h3 => by unfold par at h3; omega⟩
 refine Ok.loopM (B := fun s => s_siftDown_l1b hi f s.1 s.2) (fun s => ∃ (r : Nat) (g : Nat → Nd), s = (tb n g, (r : Int)) ∧ lo ≤ r ∧ r < hi ∧ Pm (f + lo) (f + hi) h g ∧ HP f lo hi g r) (fun s => hi - s.2.toNat) (fun s hs => ?_) ⟨lo, h, rfl, Nat.le_refl _, by omega, .refl _ _ _, ⟨fun c h1 h2 h3 h4 => h0 c h1 h2 (by omega), fun c h1 h2 h3 h4 h5 => by unfold par at h5; omega⟩⟩
 obtain ⟨r, g, rfl, hr1, hr2, hp, hH⟩ := hs
 have t' := t.pm hp hf
 show Ok (s_siftDown_l1b hi f (tb n g) (r : Int)) _
 unfold s_siftDown_l1b
 have w1 : w64 (2 * (r : Int)) = ((2 * r : Nat) : Int) := by rw [w64_id (by omega) (by omega)]; omega
 rw [w1, wadd1 (by omega), wadd1 (by omega)]
 refine .ite (fun hc => .map (.ret ⟨g, rfl, hp, fun c h1 h2 h3 => ?_⟩)) (fun hc => ?_)
 ·by_cases h4 : par c = r
  ·unfold par at h4; have := of_decide_eq_true hc; omega
  ·exact hH.heap c h1 h2 h3 h4
 have hc1 : 2 * r + 1 < hi := by have := of_decide_eq_false hc; omega
 -- the greater child
 have key : ∀ (ch : Nat), (ch = 2 * r + 1 ∨ ch = 2 * r + 2) → ch < hi → (∀ c, par c = r → 1 ≤ c → c < hi → ky (g (f + c)) ≤ ky (g (f + ch))) →
   Ok (s_siftDown_k1 f (tb n g) r ch) (Sum.elim (fun s' => (∃ (r : Nat) (g : Nat → Nd), s' = (tb n g, (r : Int)) ∧ lo ≤ r ∧ r < hi ∧ Pm (f + lo) (f + hi) h g ∧ HP f lo hi g r) ∧ hi - s'.2.toNat < hi - ((tb n g, (r : Int)) : List Nd × Int).2.toNat) (fun r => ∃ h', r = tb n h' ∧ Pm (f + lo) (f + hi) h h' ∧ Heap f lo hi h')) := by
  intro ch hch hlt hmx
  have hpc : par ch = r := by unfold par; omega
  unfold s_siftDown_k1
  rw [wadd (by omega), wadd (by omega), ix_tb (show f + r < n by omega), ix_tb (show f + ch < n by omega)]
  simp only [Option.bind_some, Int.toNat_natCast]
  rw [t'.cmp (by omega) (by omega)]
  simp only [Option.bind_some]
  rw [t'.lt (by omega) (by omega)]
  refine .ite (fun hd => .map (.ret ⟨g, rfl, hp, fun c h1 h2 h3 => ?_⟩)) (fun hd => ?_)
  ·by_cases h4 : par c = r
   ·have := hmx c h4 h1 h2
    rw [h4]
    have : ky (g (f + ch)) ≤ ky (g (f + r)) := by
     have : ¬ ky (g (f + r)) - ky (g (f + ch)) < 0 := by simpa using hd
     omega
    omega
   ·exact hH.heap c h1 h2 h3 h4
  ·have hlt2 : ky (g (f + r)) ≤ ky (g (f + ch)) := by
    have : ky (g (f + r)) - ky (g (f + ch)) < 0 := by simpa using hd
    omega
   rw [show ix ((tb n g).set (f + r) (g (f + ch))) ((f + ch : Nat) : Int) = some (g (f + ch)) from by rw [tb_set, ix_tb (show f + ch < n by omega), if_neg (by omega)]]
   simp only [Option.bind_some]
   rw [swap_tb]
   have e1 : swp g (f + r) (f + ch) (f + r) = g (f + ch) := by unfold swp; rw [sw_i]
   have e2 : swp g (f + r) (f + ch) (f + ch) = g (f + r) := by unfold swp; rw [sw_j]
   have e3 : ∀ q, q ≠ r → q ≠ ch → swp g (f + r) (f + ch) (f + q) = g (f + q) := fun q h1 h2 => by unfold swp; rw [sw_o (by omega) (by omega)]
   refine .ret ⟨⟨ch, swp g (f + r) (f + ch), rfl, by omega, hlt, hp.swp (by omega) (by omega) (by omega) (by omega), ⟨fun c h1 h2 h3 h4 => ?_, fun c h1 h2 h3 h4 h5 => ?_⟩⟩, ?_⟩
   ·by_cases h5 : par c = r
    ·rw [h5, e1]
     by_cases h6 : c = ch
     ·subst h6; rw [e2]; exact hlt2
     ·have h7 : c ≠ r := by unfold par at h5; omega
      rw [e3 c h7 h6]; exact hmx c h5 h1 h2
    ·have h8 : par c ≠ ch := h4
     rw [e3 (par c) h5 h8]
     by_cases h6 : c = r
     ·subst h6
      rw [e1]
      exact hH.up ch (by omega) hlt hpc h1 h3
     ·have h7 : c ≠ ch := by rintro rfl; exact h5 hpc
      rw [e3 c h6 h7]
      exact hH.heap c h1 h2 h3 h5
   ·rw [hpc, e1]
    have h6 : c ≠ r := by unfold par at h3; omega
    have h7 : c ≠ ch := by unfold par at h3; omega
    rw [e3 c h6 h7, ← h3]
    exact hH.heap c h1 h2 (by rw [h3]; omega) (by rw [h3]; omega)
   ·show hi - ((ch : Nat) : Int).toNat < hi - (r : Int).toNat
    omega
 have lone : ∀ c, par c = r → 1 ≤ c → c = 2 * r + 1 ∨ c = 2 * r + 2 := fun c h1 h2 => by unfold par at h1; omega
 refine .ite (fun h2 => ?_) (fun h2 => ?_)
 ·have hc2 : 2 * r + 2 < hi := by have := of_decide_eq_true h2; omega
  rw [wadd (by omega), wadd1 (by omega), ix_tb (show f + (2 * r + 1) < n by omega), ix_tb (show f + (2 * r + 1) + 1 < n by omega)]
  simp only [Option.bind_some]
  rw [t'.cmp (by omega) (by omega)]
  simp only [Option.bind_some]
  rw [t'.lt (by omega) (by omega)]
  unfold s_siftDown_k2
  refine .ite (fun h3 => ?_) (fun h3 => ?_)
  ·rw [w1, wadd1 (by omega), wadd1 (by omega)]
   refine key (2 * r + 1 + 1) (.inr rfl) hc2 fun c h4 h5 h6 => ?_
   have : ky (g (f + (2 * r + 1))) - ky (g (f + (2 * r + 1) + 1)) < 0 := of_decide_eq_true h3
   rcases lone c h4 h5 with rfl | rfl
   ·show ky (g (f + (2 * r + 1))) ≤ ky (g (f + (2 * r + 1) + 1)); omega
   ·exact Int.le_refl _
  ·rw [w1, wadd1 (by omega)]
   refine key (2 * r + 1) (.inl rfl) hc1 fun c h4 h5 h6 => ?_
   have : ¬ ky (g (f + (2 * r + 1))) - ky (g (f + (2 * r + 1) + 1)) < 0 := of_decide_eq_false h3
   rcases lone c h4 h5 with rfl | rfl
   ·exact Int.le_refl _
   ·show ky (g (f + (2 * r + 1) + 1)) ≤ ky (g (f + (2 * r + 1))); omega
 ·have hc2 : ¬ 2 * r + 2 < hi := by have := of_decide_eq_false h2; omega
  unfold s_siftDown_k2
  rw [if_neg (by decide), w1, wadd1 (by omega)]
  refine key (2 * r + 1) (.inl rfl) hc1 fun c h4 h5 h6 => ?_
  rcases lone c h4 h5 with rfl | rfl
  ·exact Int.le_refl _
  ·omega
end
end
section
section
variable {n : Nat} {h : Nat → Nd}
theorem ix_set_tb {i j : Nat} {v : Nd} (hj : j < n) : ix ((tb n h).set i v) (j : Int) = some (if j = i then v else h j) := by rw [tb_set, ix_tb hj]
theorem quo_nat {i j : Nat} (hj : 0 < j) (hi : i ≤ 1000000) : quoO .i64 (i : Int) (j : Int) = some ((i / j : Nat) : Int) := by
 unfold quoO
 rw [if_neg (by omega)]
 have e : Int.tdiv (i : Int) (j : Int) = ((i / j : Nat) : Int) := by rw [Int.tdiv_eq_ediv_of_nonneg (by omega)]; rfl
 rw [e]
 have : i / j ≤ i := Nat.div_le_self i j
 refine congrArg some ?_
 generalize i / j = q at this ⊢
 exact w64_id (by omega) (by omega)
theorem Heap.top {f hi : Nat} (hh : Heap f 0 hi h) : ∀ c, c < hi → ky (h (f + c)) ≤ ky (h f) := by
 intro c
 induction c using Nat.strongRecOn with
 | _ c ih =>
  intro hc
  by_cases h0 : c = 0
  ·subst h0; exact Int.le_refl _
  ·have h1 : par c < c := by unfold par; omega
   exact Int.le_trans (hh c (by omega) hc (Nat.zero_le _)) (ih (par c) h1 (by omega))
theorem heap_is (hn : n ≤ 1000) (t : Tb n h) (a m : Nat) (hm : 1 ≤ m) (hb : a + m ≤ n) : Ok (s_heapSort (tb n h) a (a + m : Nat)) (fun r => ∃ h', r = tb n h' ∧ Pm a (a + m) h h' ∧ Srt a (a + m) h') := by
 unfold s_heapSort
 have w1 : w64 (((a + m : Nat) : Int) - (a : Int)) = (m : Int) := by rw [wsub (by omega) (by omega)]; congr 1; omega
 rw [w1, wsub1 hm (by omega), show (2 : Int) = ((2 : Nat) : Int) from rfl, quo_nat (by omega) (by omega)]
 simp only [Option.bind_some]
 unfold s_heapSort_l1
 generalize hK : (m - 1) / 2 = K
 refine Ok.loop (B := fun s => s_heapSort_l1b a (a + m : Nat) s.1 s.2) (fun k s => s.2 = (K : Int) - k ∧ ∃ g, s.1 = tb n g ∧ Pm a (a + m) h g ∧ Heap a (K + 1 - k) m g) (K + 1) (fun k s hk hs => ?_) (fun s hs => ?_) ⟨by simp, h, rfl, .refl _ _ _, fun c h1 h2 h3 => by unfold par at h3; omega⟩
 ·obtain ⟨xs, i⟩ := s
  obtain ⟨h1, g, h2, hp, hH⟩ := hs
  simp only at h1 h2
  subst h1 h2
  have e : (K : Int) - k = ((K - k : Nat) : Int) := by omega
  show Ok (s_heapSort_l1b a (a + m : Nat) (tb n g) ((K : Int) - k)) _
  rw [e]
  unfold s_heapSort_l1b
  rw [if_pos (decide_eq_true (by omega)), w1]
  refine (siftDown_is hn (t.pm hp hb) a (K - k) m (by omega) hb (by rw [show K - k + 1 = K + 1 - k by omega]; exact hH)).bind fun r hr => ?_
  obtain ⟨g2, rfl, hp2, hH2⟩ := hr
  refine .ret ⟨?_, g2, rfl, hp.trans (hp2.wide (by omega) (Nat.le_refl _)), by rw [show K + 1 - (k + 1) = K - k by omega]; exact hH2⟩
  show w64 (((K - k : Nat) : Int) - 1) = _
  rw [w64_id (by omega) (by omega)]; omega
 ·obtain ⟨xs, i⟩ := s
  obtain ⟨h1, g, h2, hp, hH⟩ := hs
  simp only at h1 h2
  subst h1 h2
  show Ok (s_heapSort_l1b a (a + m : Nat) (tb n g) ((K : Int) - ((K + 1 : Nat) : Int))) _
  unfold s_heapSort_l1b
  rw [if_neg (by simp; omega), w1, wsub1 hm (by omega)]
  refine .map ?_
  unfold s_heapSort_l2
  rw [Nat.sub_self] at hH
  refine Ok.loop (B := fun s => s_heapSort_l2b a s.1 s.2) (fun k s => s.2 = ((m : Int) - 1) - k ∧ ∃ g, s.1 = tb n g ∧ Pm a (a + m) h g ∧ Heap a 0 (m - k) g ∧ (∀ p q, m - k ≤ p → p < q → q < m → ky (g (a + p)) ≤ ky (g (a + q))) ∧ (∀ p q, p < m - k → m - k ≤ q → q < m → ky (g (a + p)) ≤ ky (g (a + q)))) m (fun k s hk hs => ?_) (fun s hs => ?_) ⟨by show ((m - 1 : Nat) : Int) = _; omega, g, rfl, hp, hH, fun p q h1 h2 h3 => by omega, fun p q h1 h2 h3 => by omega⟩
  ·obtain ⟨xs, i⟩ := s
   obtain ⟨h1, g, h2, hp, hH, hT, hL⟩ := hs
   simp only at h1 h2
   subst h1 h2
   generalize hI : m - 1 - k = I
   have e : (m : Int) - 1 - k = (I : Int) := by omega
   show Ok (s_heapSort_l2b a (tb n g) ((m : Int) - 1 - k)) _
   rw [e]
   unfold s_heapSort_l2b
   rw [if_pos (decide_eq_true (by omega)), wadd (by omega), ix_tb (show a + I < n by omega), ix_tb (show a < n by omega)]
   simp only [Option.bind_some, Int.toNat_natCast, ix_set_tb (show a + I < n by omega)]
   rw [swap_tb]
   have hp1 : Pm a (a + m) h (swp g a (a + I)) := hp.swp (by omega) (by omega) (by omega) (by omega)
   have e1 : swp g a (a + I) a = g (a + I) := by unfold swp; rw [sw_i]
   have e2 : swp g a (a + I) (a + I) = g a := by unfold swp; rw [sw_j]
   have e3 : ∀ q, 0 < q → q ≠ I → swp g a (a + I) (a + q) = g (a + q) := fun q h1 h2 => by unfold swp; rw [sw_o (by omega) (by omega)]
   have hmk : m - k = I + 1 := by omega
   rw [hmk] at hH hT hL
   have top := hH.top
   have hs := siftDown_is hn (t.pm hp1 hb) a 0 I (by omega) (by omega) (fun c h1 h2 h3 => by
    have h4 : par c < c := by unfold par; omega
    rw [e3 c (by omega) (by omega), e3 (par c) (by omega) (by omega)]
    exact hH c h1 (by omega) (Nat.zero_le _))
   refine hs.bind fun r hr => ?_
   obtain ⟨g2, rfl, hp2, hH2⟩ := hr
   have same : ∀ q, I ≤ q → g2 (a + q) = swp g a (a + I) (a + q) := fun q hq => hp2.same (.inr (by omega))
   have low : ∀ p, p < I → ky (g2 (a + p)) ≤ ky (g a) ∧ ∀ q, I + 1 ≤ q → q < m → ky (g2 (a + p)) ≤ ky (g (a + q)) := by
    intro p hpI
    have := hp2.all (Q := fun x => ky x ≤ ky (g a) ∧ ∀ q, I + 1 ≤ q → q < m → ky x ≤ ky (g (a + q))) (fun k h1 h2 => by
     obtain ⟨c, rfl⟩ := Nat.exists_eq_add_of_le (show a ≤ k by omega)
     by_cases hc : c = 0
     ·subst hc
      rw [Nat.add_zero, e1]
      exact ⟨top I (by omega), fun q h3 h4 => hL I q (by omega) h3 h4⟩
     ·rw [e3 c (by omega) (by omega)]
      exact ⟨top c (by omega), fun q h3 h4 => hL c q (by omega) h3 h4⟩) (a + p) (by omega) (by omega)
    exact this
   refine .ret ⟨?_, g2, rfl, hp1.trans (hp2.wide (by omega) (by omega)), by rw [show m - (k + 1) = I by omega]; exact hH2, fun p q h1 h2 h3 => ?_, fun p q h1 h2 h3 => ?_⟩
   ·show w64 ((I : Int) - 1) = _
    rw [w64_id (by omega) (by omega)]; omega
   ·rw [same p (by omega), same q (by omega)]
    by_cases hpI : p = I
    ·subst hpI
     rw [e2, e3 q (by omega) (by omega)]
     have := hL 0 q (by omega) (by omega) h3
     exact this
    ·rw [e3 p (by omega) hpI, e3 q (by omega) (by omega)]
     exact hT p q (by omega) h2 h3
   ·have hpI : p < I := by omega
    rw [same q (by omega)]
    by_cases hqI : q = I
    ·subst hqI; rw [e2]; exact (low p hpI).1
    ·rw [e3 q (by omega) hqI]; exact (low p hpI).2 q (by omega) h3
  ·obtain ⟨xs, i⟩ := s
   obtain ⟨h1, g, h2, hp, hH, hT, hL⟩ := hs
   simp only at h1 h2
   subst h1 h2
   show Ok (s_heapSort_l2b a (tb n g) ((m : Int) - 1 - m)) _
   unfold s_heapSort_l2b
   rw [if_neg (by simp; omega)]
   refine .map (.ret ⟨g, rfl, hp, fun p q h1 h2 h3 => ?_⟩)
   obtain ⟨p', rfl⟩ := Nat.exists_eq_add_of_le h1
   obtain ⟨q', rfl⟩ := Nat.exists_eq_add_of_le (show a ≤ q by omega)
   exact hT p' q' (by omega) (by omega) (by omega)
theorem order2_is (t : Tb n h) {i j : Nat} (hi : i < n) (hj : j < n) (s : Int) : Ok (s_order2 (tb n h) i j s) (fun r => (r.1 = (i : Int) ∧ r.2.1 = (j : Int)) ∨ (r.1 = (j : Int) ∧ r.2.1 = (i : Int))) := by
 unfold s_order2
 rw [ix_tb hj, ix_tb hi]
 simp only [Option.bind_some]
 rw [t.cmp hj hi]
 simp only [Option.bind_some]
 rw [t.lt hj hi]
 exact .ite (fun _ => .ret (.inr ⟨rfl, rfl⟩)) (fun _ => .ret (.inl ⟨rfl, rfl⟩))
theorem median_is (t : Tb n h) {i j k : Nat} (hi : i < n) (hj : j < n) (hk : k < n) (s : Int) : Ok (s_median (tb n h) i j k s) (fun r => r.1 = (i : Int) ∨ r.1 = (j : Int) ∨ r.1 = (k : Int)) := by
 unfold s_median
 refine (order2_is t hi hj s).bind fun r hr => ?_
 obtain ⟨x, y, z⟩ := r
 have key : ∀ (p q : Nat), (p = i ∨ p = j ∨ p = k) → (q = i ∨ q = j ∨ q = k) → p < n → q < n → Ok ((s_order2 (tb n h) (q : Int) k z).bind fun x18 => (s_order2 (tb n h) (p : Int) x18.1 x18.2.2).bind fun x28 => some (x28.2.1, x28.2.2)) (fun r => r.1 = (i : Int) ∨ r.1 = (j : Int) ∨ r.1 = (k : Int)) := by
  intro p q hp hq hpn hqn
  refine (order2_is t hqn hk z).bind fun r2 hr2 => ?_
  obtain ⟨x2, y2, z2⟩ := r2
  have fin : ∀ (u : Nat), (u = i ∨ u = j ∨ u = k) → u < n → Ok ((s_order2 (tb n h) (p : Int) (u : Int) z2).bind fun x28 => some (x28.2.1, x28.2.2)) (fun r => r.1 = (i : Int) ∨ r.1 = (j : Int) ∨ r.1 = (k : Int)) := by
   intro u hu hun
   refine (order2_is t hpn hun z2).bind fun r3 hr3 => .ret ?_
   rcases hr3 with ⟨_, h4⟩ | ⟨_, h4⟩
   ·show r3.2.1 = _ ∨ r3.2.1 = _ ∨ r3.2.1 = _
    rw [h4]; omega
   ·show r3.2.1 = _ ∨ r3.2.1 = _ ∨ r3.2.1 = _
    rw [h4]; omega
  rcases hr2 with ⟨h3, h4⟩ | ⟨h3, h4⟩
  ·simp only at h3 ⊢
   rw [h3]; exact fin q hq hqn
  ·simp only at h3 ⊢
   rw [h3]; exact fin k (by omega) hk
 rcases hr with ⟨h1, h2⟩ | ⟨h1, h2⟩
 ·simp only at h1 h2 ⊢
  rw [h1, h2]; exact key i j (by omega) (by omega) hi hj
 ·simp only at h1 h2 ⊢
  rw [h1, h2]; exact key j i (by omega) (by omega) hj hi
theorem pivot_is (hn : n ≤ 1000) (t : Tb n h) (a m : Nat) (hm : 8 ≤ m) (hm2 : m < 50) (hb : a + m ≤ n) : Ok (s_choosePivot (tb n h) a (a + m : Nat)) (fun r => ∃ p : Nat, r.1 = (p : Int) ∧ a ≤ p ∧ p < a + m) := by
 unfold s_choosePivot
 have w1 : w64 (((a + m : Nat) : Int) - (a : Int)) = (m : Int) := by rw [wsub (by omega) (by omega)]; congr 1; omega
 rw [w1, show (4 : Int) = ((4 : Nat) : Int) from rfl, quo_nat (by omega) (by omega)]
 simp only [Option.bind_some]
 rw [if_pos (decide_eq_true (by omega)), if_neg (by simp; omega)]
 generalize hq : m / 4 = q
 have e1 : w64 ((a : Int) + (w64 ((q : Int) * 1))) = ((a + q : Nat) : Int) := by rw [w64_id (x := (q : Int) * 1) (by omega) (by omega), w64_id (by omega) (by omega)]; omega
 have e2 : w64 ((a : Int) + (w64 ((q : Int) * 2))) = ((a + 2 * q : Nat) : Int) := by rw [w64_id (x := (q : Int) * 2) (by omega) (by omega), w64_id (by omega) (by omega)]; omega
 have e3 : w64 ((a : Int) + (w64 ((q : Int) * 3))) = ((a + 3 * q : Nat) : Int) := by rw [w64_id (x := (q : Int) * 3) (by omega) (by omega), w64_id (by omega) (by omega)]; omega
 rw [e1, e2, e3]
 unfold s_choosePivot_k2
 refine (median_is t (show a + q < n by omega) (show a + 2 * q < n by omega) (show a + 3 * q < n by omega) 0).bind fun r hr => ?_
 have : ∃ p : Nat, r.1 = (p : Int) ∧ a ≤ p ∧ p < a + m := by
  rcases hr with h | h | h
  ·exact ⟨_, h, by omega, by omega⟩
  ·exact ⟨_, h, by omega, by omega⟩
  ·exact ⟨_, h, by omega, by omega⟩
 unfold s_choosePivot_k1
 exact .ite (fun _ => .ret this) (fun _ => .ite (fun _ => .ret this) (fun _ => .ret this))
theorem reverse_is (hn : n ≤ 1000) (a m : Nat) (hm : 1 ≤ m) (hb : a + m ≤ n) : Ok (s_reverseRange (tb n h) a (a + m : Nat)) (fun r => ∃ h', r = tb n h' ∧ Pm a (a + m) h h') := by
 unfold s_reverseRange s_reverseRange_l1
 rw [wsub1 (by omega) (by omega)]
 refine Ok.loopM (B := fun s => s_reverseRange_l1b s.1 s.2.1 s.2.2) (fun s => ∃ (i j : Nat) (g : Nat → Nd), s = (tb n g, (i : Int), (j : Int)) ∧ a ≤ i ∧ i ≤ j + 1 ∧ j < a + m ∧ Pm a (a + m) h g) (fun s => s.2.2.toNat) (fun s hs => ?_) ⟨a, a + m - 1, h, rfl, Nat.le_refl _, by omega, by omega, .refl _ _ _⟩
 obtain ⟨i, j, g, rfl, h1, h2, h3, hp⟩ := hs
 show Ok (s_reverseRange_l1b (tb n g) i j) _
 unfold s_reverseRange_l1b
 refine .ite (fun hc => ?_) (fun hc => .map (.ret ⟨g, rfl, hp⟩))
 have hij : i < j := by have := of_decide_eq_true hc; omega
 rw [ix_tb (show j < n by omega), ix_tb (show i < n by omega)]
 simp only [Option.bind_some, Int.toNat_natCast, ix_set_tb (show j < n by omega)]
 rw [swap_tb, wadd1 (by omega), wsub1 (by omega) (by omega)]
 refine .ret ⟨⟨i + 1, j - 1, _, rfl, by omega, by omega, by omega, hp.swp (by omega) (by omega) (by omega) (by omega)⟩, ?_⟩
 show ((j - 1 : Nat) : Int).toNat < (j : Int).toNat
 omega
theorem partial_is (hn : n ≤ 1000) (t : Tb n h) (a m : Nat) (hm : 1 ≤ m) (hm2 : m < 50) (hb : a + m ≤ n) : Ok (s_partialInsertionSort (tb n h) a (a + m : Nat)) (fun r => r.2 = tb n h ∧ (r.1 = true → Srt a (a + m) h)) := by
 have w1 : w64 (((a + m : Nat) : Int) - (a : Int)) = (m : Int) := by rw [wsub (by omega) (by omega)]; congr 1; omega
 unfold s_partialInsertionSort s_partialInsertionSort_l1
 rw [wadd1 (by omega), loopO_eq]
 show Ok ((s_partialInsertionSort_l1b a (a + m : Nat) (tb n h) ((a + 1 : Nat) : Int) 0).bind _) _
 unfold s_partialInsertionSort_l1b
 rw [if_pos (by decide)]
 refine Ok.bind (P := fun x => ∃ r, x = Sum.inr r ∧ r.2 = tb n h ∧ (r.1 = true → Srt a (a + m) h)) ?_ (fun x hx => ?_)
 ·unfold s_partialInsertionSort_l2
  refine Ok.loopM (B := fun s => s_partialInsertionSort_l2b a (a + m : Nat) (tb n h) 0 s) (fun s => ∃ i : Nat, s = (i : Int) ∧ a + 1 ≤ i ∧ i ≤ a + m ∧ Srt a i h) (fun s => a + m - s.toNat) (fun s hs => ?_) ⟨a + 1, rfl, by omega, by omega, fun p q h1 h2 h3 => by omega⟩
  obtain ⟨i, rfl, h1, h2, hS⟩ := hs
  unfold s_partialInsertionSort_l2b
  refine .ite (fun hc => ?_) (fun hc => ?_)
  ·have hi : i < a + m := by have := of_decide_eq_true hc; omega
   rw [ix_tb (show i < n by omega), wsub1 (by omega) (by omega), ix_tb (show i - 1 < n by omega)]
   simp only [Option.bind_some]
   rw [t.cmp (by omega) (by omega)]
   simp only [Option.bind_some]
   rw [t.lt (by omega) (by omega)]
   unfold s_partialInsertionSort_k2
   refine .ite (fun hd => ?_) (fun hd => ?_)
   ·have hle : ky (h (i - 1)) ≤ ky (h i) := by
     have : ¬ ky (h i) - ky (h (i - 1)) < 0 := by simpa using hd
     omega
    rw [wadd1 (by omega)]
    refine .ret ⟨⟨i + 1, rfl, by omega, by omega, fun p q h3 h4 h5 => ?_⟩, by show a + m - ((i + 1 : Nat) : Int).toNat < a + m - (i : Int).toNat; omega⟩
    by_cases hq : q = i
    ·subst hq
     by_cases hp : p = q - 1
     ·subst hp; exact hle
     ·exact Int.le_trans (hS p (q - 1) h3 (by omega) (by omega)) hle
    ·exact hS p q h3 h4 (by omega)
   ·rw [if_neg (by simp; omega), w1, if_pos (decide_eq_true (by omega))]
    exact .map (.map (.ret ⟨_, rfl, rfl, fun h => by cases h⟩))
  ·have hi : i = a + m := by have := of_decide_eq_false hc; omega
   unfold s_partialInsertionSort_k2
   rw [if_neg (by decide), if_pos (by simp [hi])]
   exact .map (.map (.ret ⟨_, rfl, rfl, fun _ => by rw [← hi]; exact hS⟩))
 ·obtain ⟨r, rfl, hr⟩ := hx
  exact .ret hr
def Split (a b m : Nat) (g : Nat → Nd) : Prop := (∀ k, a ≤ k → k < m → ky (g k) ≤ ky (g m)) ∧ ∀ k, m < k → k < b → ky (g m) ≤ ky (g k)
structure PI (a b : Nat) (h g : Nat → Nd) (i j : Nat) : Prop where
 i1 : a + 1 ≤ i
 ij : i ≤ j + 1
 jb : j < b
 pm : Pm a b h g
 lo : ∀ k, a + 1 ≤ k → k < i → ky (g k) ≤ ky (g a)
 hi : ∀ k, j < k → k < b → ky (g a) ≤ ky (g k)
def PR3 (n a b : Nat) (h : Nat → Nd) (r : Int × Bool × List Nd) : Prop := ∃ (m : Nat) (g : Nat → Nd), r.1 = (m : Int) ∧ r.2.2 = tb n g ∧ a ≤ m ∧ m < b ∧ Pm a b h g ∧ Split a b m g
theorem part_fin {a b i j : Nat} {g : Nat → Nd} (P : PI a b h g i j) (hji : j < i) : a ≤ j ∧ j < b ∧ Pm a b h (swp g j a) ∧ Split a b j (swp g j a) := by
 have h1 := P.i1
 have h2 := P.ij
 have h3 := P.jb
 have e1 : swp g j a j = g a := by unfold swp; rw [sw_i]
 have e2 : swp g j a a = g j := by unfold swp; rw [sw_j]
 have e3 : ∀ q, q ≠ j → q ≠ a → swp g j a q = g q := fun q h1 h2 => by unfold swp; rw [sw_o h1 h2]
 refine ⟨by omega, h3, P.pm.swp (by omega) h3 (Nat.le_refl _) (by omega), fun k hk1 hk2 => ?_, fun k hk1 hk2 => ?_⟩
 ·rw [e1]
  by_cases hka : k = a
  ·subst hka; rw [e2]; exact P.lo j (by omega) (by omega)
  ·rw [e3 k (by omega) hka]; exact P.lo k (by omega) (by omega)
 ·rw [e1, e3 k (by omega) (by omega)]; exact P.hi k hk1 hk2
theorem PI.swap {a b i j : Nat} {g : Nat → Nd} (P : PI a b h g i j) (hij : i < j) (h1 : ky (g a) ≤ ky (g i)) (h2 : ky (g j) ≤ ky (g a)) : PI a b h (swp g i j) (i + 1) (j - 1) := by
 have h3 := P.i1
 have h4 := P.jb
 have e1 : swp g i j i = g j := by unfold swp; rw [sw_i]
 have e2 : swp g i j j = g i := by unfold swp; rw [sw_j]
 have e3 : ∀ q, q ≠ i → q ≠ j → swp g i j q = g q := fun q h1 h2 => by unfold swp; rw [sw_o h1 h2]
 refine ⟨by omega, by omega, by omega, P.pm.swp (by omega) (by omega) (by omega) h4, fun k hk1 hk2 => ?_, fun k hk1 hk2 => ?_⟩
 ·rw [e3 a (by omega) (by omega)]
  by_cases hk : k = i
  ·subst hk; rw [e1]; exact h2
  ·rw [e3 k hk (by omega)]; exact P.lo k hk1 (by omega)
 ·rw [e3 a (by omega) (by omega)]
  by_cases hk : k = j
  ·subst hk; rw [e2]; exact h1
  ·rw [e3 k (by omega) hk]; exact P.hi k (by omega) hk2
theorem l3_is (hn : n ≤ 1000) (t : Tb n h) (a b : Nat) (hb : b ≤ n) (g : Nat → Nd) (i j : Nat) (P : PI a b h g i j) : Ok (s_partition_l3 a (tb n g) i j) (PR3 n a b h) := by
 unfold s_partition_l3
 refine Ok.loopM (B := fun s => s_partition_l3b a s.1 s.2.1 s.2.2) (fun s => ∃ (i j : Nat) (g : Nat → Nd), s = (tb n g, (i : Int), (j : Int)) ∧ PI a b h g i j) (fun s => s.2.2.toNat + 1 - s.2.1.toNat) (fun s hs => ?_) ⟨i, j, g, rfl, P⟩
 clear P
 obtain ⟨i, j, g, rfl, P⟩ := hs
 have t' := t.pm P.pm hb
 have ha : a < n := by have := P.i1; have := P.ij; have := P.jb; omega
 show Ok (s_partition_l3b a (tb n g) i j) _
 unfold s_partition_l3b
 unfold s_partition_l4
 refine Ok.loopM (B := fun s => s_partition_l4b a (tb n g) j s) (fun s => ∃ i' : Nat, s = (i' : Int) ∧ i ≤ i' ∧ PI a b h g i' j) (fun s => j + 1 - s.toNat) (fun s hs => ?_) ⟨i, rfl, Nat.le_refl _, P⟩
 obtain ⟨i', rfl, hii, P'⟩ := hs
 have hjb := P'.jb
 have hi1 := P'.i1
 have hij := P'.ij
 unfold s_partition_l4b
 -- the way down
 have down : (i' ≤ j → ky (g a) ≤ ky (g i')) → Ok (s_partition_k3 a (tb n g) j i' false) (Sum.elim (fun s' => (∃ i'' : Nat, s' = (i'' : Int) ∧ i ≤ i'' ∧ PI a b h g i'' j) ∧ j + 1 - s'.toNat < j + 1 - (i' : Int).toNat) (Sum.elim (fun s' => (∃ (i j : Nat) (g : Nat → Nd), s' = (tb n g, (i : Int), (j : Int)) ∧ PI a b h g i j) ∧ s'.2.2.toNat + 1 - s'.2.1.toNat < ((tb n g, (i : Int), (j : Int)) : List Nd × Int × Int).2.2.toNat + 1 - ((tb n g, (i : Int), (j : Int)) : List Nd × Int × Int).2.1.toNat) (PR3 n a b h))) := by
  intro hgi
  unfold s_partition_k3
  rw [if_neg (by decide)]
  refine .map ?_
  unfold s_partition_l5
  refine Ok.loopM (B := fun s => s_partition_l5b a (tb n g) i' s) (fun s => ∃ j' : Nat, s = (j' : Int) ∧ j' ≤ j ∧ PI a b h g i' j') (fun s => s.toNat) (fun s hs => ?_) ⟨j, rfl, Nat.le_refl _, P'⟩
  obtain ⟨j', rfl, hjj, Q⟩ := hs
  have hij2 := Q.ij
  unfold s_partition_l5b
  refine .ite (fun hc => ?_) (fun hc => ?_)
  ·have hle : i' ≤ j' := by have := of_decide_eq_true hc; omega
   rw [ix_tb (show j' < n by omega), ix_tb ha]
   simp only [Option.bind_some]
   rw [t'.cmp (by omega) ha]
   simp only [Option.bind_some]
   rw [t'.lt (by omega) ha]
   unfold s_partition_k4
   refine .ite (fun hd => ?_) (fun hd => .map ?_)
   ·have hge : ky (g a) ≤ ky (g j') := by
     have : ¬ ky (g j') - ky (g a) < 0 := by simpa using hd
     omega
    rw [wsub1 (by omega) (by omega)]
    refine .ret ⟨⟨j' - 1, rfl, by omega, ⟨Q.i1, by omega, by omega, Q.pm, Q.lo, fun k hk1 hk2 => ?_⟩⟩, by show ((j' - 1 : Nat) : Int).toNat < (j' : Int).toNat; omega⟩
    by_cases hk : k = j'
    ·subst hk; exact hge
    ·exact Q.hi k (by omega) hk2
   ·have hlt : ky (g j') < ky (g a) := by
     have : ky (g j') - ky (g a) < 0 := by simpa using hd
     omega
    have hgi' := hgi (by omega)
    have hne : i' ≠ j' := by rintro rfl; omega
    rw [if_neg (by simp; omega), ix_tb (show j' < n by omega), ix_tb (show i' < n by omega)]
    simp only [Option.bind_some, Int.toNat_natCast, ix_set_tb (show j' < n by omega)]
    rw [swap_tb, wadd1 (by omega), wsub1 (by omega) (by omega)]
    refine .map (.ret ⟨⟨i' + 1, j' - 1, _, rfl, Q.swap (by omega) hgi' (by omega)⟩, ?_⟩)
    show ((j' - 1 : Nat) : Int).toNat + 1 - ((i' + 1 : Nat) : Int).toNat < (j : Int).toNat + 1 - (i : Int).toNat
    omega
  ·have hlt : j' < i' := by have := of_decide_eq_false hc; omega
   unfold s_partition_k4
   rw [if_neg (by decide), if_pos (decide_eq_true (by omega)), ix_tb ha, ix_tb (show j' < n by omega)]
   simp only [Option.bind_some, Int.toNat_natCast, ix_set_tb ha]
   rw [swap_tb]
   have F := part_fin Q hlt
   exact .map (.map (.map (.ret ⟨j', _, rfl, rfl, F.1, F.2.1, F.2.2.1, F.2.2.2⟩)))
 refine .ite (fun hc => ?_) (fun hc => ?_)
 ·have hle : i' ≤ j := by have := of_decide_eq_true hc; omega
  rw [ix_tb (show i' < n by omega), ix_tb ha]
  simp only [Option.bind_some]
  rw [t'.cmp (by omega) ha]
  simp only [Option.bind_some]
  rw [t'.lt (by omega) ha]
  cases hd : decide (ky (g i') - ky (g a) < 0) with
  | false => exact down fun _ => by have := of_decide_eq_false hd; omega
  | true =>
   have hlt : ky (g i') < ky (g a) := by have := of_decide_eq_true hd; omega
   unfold s_partition_k3
   rw [if_pos rfl, wadd1 (by omega)]
   refine .ret ⟨⟨i' + 1, rfl, by omega, ⟨by omega, by omega, hjb, P'.pm, fun k hk1 hk2 => ?_, P'.hi⟩⟩, by show j + 1 - ((i' + 1 : Nat) : Int).toNat < j + 1 - (i' : Int).toNat; omega⟩
   by_cases hk : k = i'
   ·subst hk; omega
   ·exact P'.lo k hk1 (by omega)
 ·have hlt : j < i' := by have := of_decide_eq_false hc; omega
  exact down fun h => by omega
theorem partition_is (hn : n ≤ 1000) (t : Tb n h) (a b p : Nat) (hab : a + 1 < b) (hb : b ≤ n) (hp1 : a ≤ p) (hp2 : p < b) : Ok (s_partition (tb n h) a b p) (PR3 n a b h) := by
 have ha : a < n := by omega
 unfold s_partition
 rw [ix_tb (show p < n by omega), ix_tb ha]
 simp only [Option.bind_some, Int.toNat_natCast, ix_set_tb (show p < n by omega)]
 unfold s_partition_l1
 rw [wadd1 (by omega)]
 generalize hg : swp h a p = g
 have hdat : ((tb n h).set a (h p)).set p (h a) = tb n g := by rw [swap_tb, hg]
 have P0 : PI a b h g (a + 1) (b - 1) := ⟨Nat.le_refl _, by omega, by omega, by rw [← hg]; exact .one (Nat.le_refl _) (by omega) hp1 hp2, fun k h1 h2 => by omega, fun k h1 h2 => by omega⟩
 have t' := t.pm P0.pm hb
 refine Ok.loopM (B := fun s => s_partition_l1b (tb n h) a b p (h p) (h a) s) (fun s => ∃ i : Nat, s = (i : Int) ∧ PI a b h g i (b - 1)) (fun s => b - s.toNat) (fun s hs => ?_) ⟨a + 1, rfl, P0⟩
 obtain ⟨i, rfl, P⟩ := hs
 have hi1 := P.i1
 have hij := P.ij
 unfold s_partition_l1b
 rw [wsub1 (by omega) (by omega)]
 simp only [Int.toNat_natCast, hdat]
 have down : (i ≤ b - 1 → ky (g a) ≤ ky (g i)) → Ok (s_partition_k1 (tb n h) a b p (h p) (h a) i false) (Sum.elim (fun s' => (∃ i : Nat, s' = (i : Int) ∧ PI a b h g i (b - 1)) ∧ b - s'.toNat < b - (i : Int).toNat) (PR3 n a b h)) := by
  intro hgi
  unfold s_partition_k1
  rw [if_neg (by decide), wsub1 (by omega) (by omega)]
  refine .map ?_
  unfold s_partition_l2
  refine Ok.loopM (B := fun s => s_partition_l2b (tb n h) a p (h p) (h a) i s) (fun s => ∃ j' : Nat, s = (j' : Int) ∧ j' ≤ b - 1 ∧ PI a b h g i j') (fun s => s.toNat) (fun s hs => ?_) ⟨b - 1, rfl, Nat.le_refl _, P⟩
  obtain ⟨j', rfl, hjj, Q⟩ := hs
  have hij2 := Q.ij
  unfold s_partition_l2b
  simp only [Int.toNat_natCast, hdat]
  refine .ite (fun hc => ?_) (fun hc => ?_)
  ·have hle : i ≤ j' := by have := of_decide_eq_true hc; omega
   rw [ix_tb (show j' < n by omega), ix_tb ha]
   simp only [Option.bind_some]
   rw [t'.cmp (by omega) ha]
   simp only [Option.bind_some]
   rw [t'.lt (by omega) ha]
   unfold s_partition_k2
   simp only [Int.toNat_natCast, hdat]
   refine .ite (fun hd => ?_) (fun hd => .map ?_)
   ·have hge : ky (g a) ≤ ky (g j') := by
     have : ¬ ky (g j') - ky (g a) < 0 := by simpa using hd
     omega
    rw [wsub1 (by omega) (by omega)]
    refine .ret ⟨⟨j' - 1, rfl, by omega, ⟨Q.i1, by omega, by omega, Q.pm, Q.lo, fun k hk1 hk2 => ?_⟩⟩, by show ((j' - 1 : Nat) : Int).toNat < (j' : Int).toNat; omega⟩
    by_cases hk : k = j'
    ·subst hk; exact hge
    ·exact Q.hi k (by omega) hk2
   ·have hlt : ky (g j') < ky (g a) := by
     have : ky (g j') - ky (g a) < 0 := by simpa using hd
     omega
    have hgi' := hgi (by omega)
    have hne : i ≠ j' := by rintro rfl; omega
    rw [if_neg (by simp; omega), ix_tb (show j' < n by omega), ix_tb (show i < n by omega)]
    simp only [Option.bind_some, ix_set_tb (show j' < n by omega)]
    rw [swap_tb, wadd1 (by omega), wsub1 (by omega) (by omega)]
    exact l3_is hn t a b hb _ _ _ (Q.swap (by omega) hgi' (by omega))
  ·have hlt : j' < i := by have := of_decide_eq_false hc; omega
   unfold s_partition_k2
   simp only [Int.toNat_natCast, hdat]
   rw [if_neg (by decide), if_pos (decide_eq_true (by omega)), ix_tb ha, ix_tb (show j' < n by omega)]
   simp only [Option.bind_some, ix_set_tb ha]
   rw [swap_tb]
   have F := part_fin Q hlt
   exact .map (.ret ⟨j', _, rfl, rfl, F.1, F.2.1, F.2.2.1, F.2.2.2⟩)
 refine .ite (fun hc => ?_) (fun hc => ?_)
 ·have hle : i ≤ b - 1 := by have := of_decide_eq_true hc; omega
  rw [ix_tb (show i < n by omega), ix_tb ha]
  simp only [Option.bind_some]
  rw [t'.cmp (by omega) ha]
  simp only [Option.bind_some]
  rw [t'.lt (by omega) ha]
  cases hd : decide (ky (g i) - ky (g a) < 0) with
  | false => exact down fun _ => by have := of_decide_eq_false hd; omega
  | true =>
   have hlt : ky (g i) < ky (g a) := by have := of_decide_eq_true hd; omega
   unfold s_partition_k1
   rw [if_pos rfl, wadd1 (by omega)]
   refine .ret ⟨⟨i + 1, rfl, ⟨by omega, by omega, by omega, P.pm, fun k hk1 hk2 => ?_, P.hi⟩⟩, by show b - ((i + 1 : Nat) : Int).toNat < b - (i : Int).toNat; omega⟩
   by_cases hk : k = i
   ·subst hk; omega
   ·exact P.lo k hk1 (by omega)
 ·have hlt : b - 1 < i := by have := of_decide_eq_false hc; omega
  exact down fun h => by omega
end
end
section
section
variable {n : Nat} {h : Nat → Nd}
theorem wrap_u64 {x : Int} (h1 : 0 ≤ x) (h2 : x < 18446744073709551616) : IntKind.wrap .u64 x = x := by
 unfold IntKind.wrap
 simp [IntKind.signed, IntKind.bits]
 omega
theorem andB_le (x : Int) (m : Nat) (hm : m < 1000000) : ∃ k : Nat, andB .u64 x (m : Int) = (k : Int) ∧ k ≤ m := by
 unfold andB
 have e : (BitVec.ofInt (IntKind.bits .u64) (m : Int)).toNat = m := by
  show (BitVec.ofInt 64 (m : Int)).toNat = m
  rw [BitVec.toNat_ofInt]
  omega
 have h1 : (BitVec.ofInt (IntKind.bits .u64) x &&& BitVec.ofInt (IntKind.bits .u64) (m : Int)).toNat ≤ m := by
  rw [BitVec.toNat_and, e]
  exact Nat.and_le_right
 exact ⟨_, wrap_u64 (by omega) (by omega), h1⟩
theorem L13 : ixS str1 13 = some 4 := by decide +kernel
theorem L14 : ixS str1 14 = some 4 := by decide +kernel
theorem L15 : ixS str1 15 = some 4 := by decide +kernel
theorem L16 : ixS str1 16 = some 5 := by decide +kernel
theorem L17 : ixS str1 17 = some 5 := by decide +kernel
theorem L18 : ixS str1 18 = some 5 := by decide +kernel
theorem L19 : ixS str1 19 = some 5 := by decide +kernel
theorem L20 : ixS str1 20 = some 5 := by decide +kernel
theorem L21 : ixS str1 21 = some 5 := by decide +kernel
theorem L22 : ixS str1 22 = some 5 := by decide +kernel
theorem L23 : ixS str1 23 = some 5 := by decide +kernel
theorem L24 : ixS str1 24 = some 5 := by decide +kernel
theorem L25 : ixS str1 25 = some 5 := by decide +kernel
theorem L26 : ixS str1 26 = some 5 := by decide +kernel
theorem L27 : ixS str1 27 = some 5 := by decide +kernel
theorem L28 : ixS str1 28 = some 5 := by decide +kernel
theorem L29 : ixS str1 29 = some 5 := by decide +kernel
theorem L30 : ixS str1 30 = some 5 := by decide +kernel
theorem L31 : ixS str1 31 = some 5 := by decide +kernel
theorem L32 : ixS str1 32 = some 6 := by decide +kernel
theorem L33 : ixS str1 33 = some 6 := by decide +kernel
theorem L34 : ixS str1 34 = some 6 := by decide +kernel
theorem L35 : ixS str1 35 = some 6 := by decide +kernel
theorem L36 : ixS str1 36 = some 6 := by decide +kernel
theorem L37 : ixS str1 37 = some 6 := by decide +kernel
theorem L38 : ixS str1 38 = some 6 := by decide +kernel
theorem L39 : ixS str1 39 = some 6 := by decide +kernel
theorem L40 : ixS str1 40 = some 6 := by decide +kernel
theorem L41 : ixS str1 41 = some 6 := by decide +kernel
theorem Len_small (k : Nat) (h2 : k < 42) (h1 : 13 ≤ k) : math_bits_Len (IntKind.wrap .u64 (k : Int)) = some (if k < 16 then 4 else if k < 32 then 5 else 6) := by
 have hw : IntKind.wrap .u64 (k : Int) = (k : Int) := wrap_u64 (by omega) (by omega)
 have hw8 : IntKind.wrap .u8 (k : Int) = (k : Int) := by
  unfold IntKind.wrap
  simp [IntKind.signed, IntKind.bits]
  omega
 rw [hw]
 unfold math_bits_Len math_bits_Len64 math_bits_Len64_k1 math_bits_Len64_k2
 rw [if_neg (by simp; omega), if_neg (by simp; omega), if_neg (by simp; omega)]
 unfold math_bits_Len64_k3
 rw [hw8]
 have h3 : k = 13 ∨ k = 14 ∨ k = 15 ∨ k = 16 ∨ k = 17 ∨ k = 18 ∨ k = 19 ∨ k = 20 ∨ k = 21 ∨ k = 22 ∨ k = 23 ∨ k = 24 ∨ k = 25 ∨ k = 26 ∨ k = 27 ∨ k = 28 ∨ k = 29 ∨ k = 30 ∨ k = 31 ∨ k = 32 ∨ k = 33 ∨ k = 34 ∨ k = 35 ∨ k = 36 ∨ k = 37 ∨ k = 38 ∨ k = 39 ∨ k = 40 ∨ k = 41 := by omega
 have h4 : ixS str1 (k : Int) = some (if k < 16 then 4 else if k < 32 then 5 else 6) := by
  rcases h3 with rfl | rfl | rfl | rfl | rfl | rfl | rfl | rfl | rfl | rfl | rfl | rfl | rfl | rfl | rfl | rfl | rfl | rfl | rfl | rfl | rfl | rfl | rfl | rfl | rfl | rfl | rfl | rfl | rfl
  ·exact L13
  ·exact L14
  ·exact L15
  ·exact L16
  ·exact L17
  ·exact L18
  ·exact L19
  ·exact L20
  ·exact L21
  ·exact L22
  ·exact L23
  ·exact L24
  ·exact L25
  ·exact L26
  ·exact L27
  ·exact L28
  ·exact L29
  ·exact L30
  ·exact L31
  ·exact L32
  ·exact L33
  ·exact L34
  ·exact L35
  ·exact L36
  ·exact L37
  ·exact L38
  ·exact L39
  ·exact L40
  ·exact L41
 rw [h4]
 split
 ·rfl
 ·split <;> rfl
theorem pow2_is {m : Nat} (h1 : 13 ≤ m) (h2 : m < 42) : slices_nextPowerOfTwo (m : Int) = some (if m < 16 then 16 else if m < 32 then 32 else 64) := by
 unfold slices_nextPowerOfTwo
 rw [Len_small m h2 h1]
 split
 ·rfl
 ·split <;> rfl
theorem next_ok (x : Int) : Ok (slices_xorshift_Next x) (fun _ => True) := by
 unfold slices_xorshift_Next shlO shrO
 rw [if_pos (by decide)]
 simp only [Option.bind_some]
 rw [if_pos (by decide)]
 simp only [Option.bind_some]
 rw [if_pos (by decide)]
 exact .ret trivial
theorem break_is (hn : n ≤ 1000) (a m : Nat) (hm : 13 ≤ m) (hm2 : m < 42) (hb : a + m ≤ n) : Ok (s_breakPatterns (tb n h) a (a + m : Nat)) (fun r => ∃ h', r = tb n h' ∧ Pm a (a + m) h h') := by
 have w1 : w64 (((a + m : Nat) : Int) - (a : Int)) = (m : Int) := by rw [wsub (by omega) (by omega)]; omega
 unfold s_breakPatterns
 rw [w1, if_pos (decide_eq_true (by omega)), pow2_is hm hm2, Option.bind_some]
 obtain ⟨M, hM, hM2⟩ : ∃ M : Nat, (if m < 16 then (16 : Int) else if m < 32 then 32 else 64) = (M : Int) ∧ 1 ≤ M ∧ M ≤ 2 * m := by
  by_cases hm16 : m < 16
  ·exact ⟨16, by rw [if_pos hm16]; rfl, by omega, by omega⟩
  ·by_cases hm32 : m < 32
   ·exact ⟨32, by rw [if_neg hm16, if_pos hm32]; rfl, by omega, by omega⟩
   ·exact ⟨64, by rw [if_neg hm16, if_neg hm32]; rfl, by omega, by omega⟩
 rw [hM, show (4 : Int) = ((4 : Nat) : Int) from rfl, quo_nat (by omega) (by omega)]
 simp only [Option.bind_some]
 generalize hq : m / 4 = q
 have e2 : w64 ((a : Int) + (w64 ((q : Int) * 2))) = ((a + 2 * q : Nat) : Int) := by rw [w64_id (x := (q : Int) * 2) (by omega) (by omega), w64_id (by omega) (by omega)]; omega
 rw [e2, wsub1 (by omega) (by omega)]
 unfold s_breakPatterns_l1
 refine Ok.loopM (B := fun s => s_breakPatterns_l1b a (a + m : Nat) M s.1 s.2.1 s.2.2) (fun s => ∃ (i : Nat) (g : Nat → Nd), s.1 = tb n g ∧ s.2.2 = (i : Int) ∧ a ≤ i ∧ Pm a (a + m) h g) (fun s => a + m + 2 - s.2.2.toNat) (fun s hs => ?_) ⟨a + 2 * q - 1, h, rfl, rfl, by omega, .refl _ _ _⟩
 obtain ⟨xs, rnd, i'⟩ := s
 obtain ⟨i, g, h1, h2, h3, hp⟩ := hs
 simp only at h1 h2
 subst h1 h2
 show Ok (s_breakPatterns_l1b a (a + m : Nat) M (tb n g) rnd i) _
 unfold s_breakPatterns_l1b
 rw [w1, show (4 : Int) = ((4 : Nat) : Int) from rfl, quo_nat (by omega) (by omega), hq]
 simp only [Option.bind_some]
 rw [e2, wadd1 (by omega)]
 refine .ite (fun hc => ?_) (fun hc => .map (.ret ⟨g, rfl, hp⟩))
 have hi : i ≤ a + 2 * q + 1 := by have := of_decide_eq_true hc; omega
 refine (next_ok rnd).bind fun x _ => ?_
 have e3 : IntKind.wrap .u64 ((M : Int) - 1) = ((M - 1 : Nat) : Int) := by rw [wrap_u64 (by omega) (by omega)]; omega
 rw [e3]
 obtain ⟨k, hk, hk2⟩ := andB_le x.1 (M - 1) (by omega)
 rw [hk, w64_id (x := (k : Int)) (by omega) (by omega)]
 have key : ∀ (o : Nat), o < m → Ok (s_breakPatterns_k1 a (tb n g) i x o) (Sum.elim (fun s' => (∃ (i : Nat) (g : Nat → Nd), s'.1 = tb n g ∧ s'.2.2 = (i : Int) ∧ a ≤ i ∧ Pm a (a + m) h g) ∧ a + m + 2 - s'.2.2.toNat < a + m + 2 - ((tb n g, rnd, (i : Int)) : List Nd × Int × Int).2.2.toNat) (fun r => ∃ h', r = tb n h' ∧ Pm a (a + m) h h')) := by
  intro o ho
  unfold s_breakPatterns_k1
  rw [wadd (by omega), ix_tb (show a + o < n by omega), ix_tb (show i < n by omega)]
  simp only [Option.bind_some, Int.toNat_natCast, ix_set_tb (show a + o < n by omega)]
  rw [swap_tb, wadd1 (by omega)]
  refine .ret ⟨⟨i + 1, _, rfl, rfl, by omega, hp.swp h3 (by omega) (by omega) (by omega)⟩, ?_⟩
  show a + m + 2 - ((i + 1 : Nat) : Int).toNat < a + m + 2 - (i : Int).toNat
  omega
 refine .ite (fun hd => ?_) (fun hd => ?_)
 ·have hkm : m ≤ k := by have := of_decide_eq_true hd; omega
  rw [wsub hkm (by omega)]
  exact key (k - m) (by omega)
 ·have hkm : ¬ m ≤ k := by have := of_decide_eq_false hd; omega
  exact key k (by omega)
def Out (a0 b0 a b : Nat) (g : Nat → Nd) : Prop := ∀ p q, a0 ≤ p → p < q → q < b0 → ¬ (a ≤ p ∧ q < b) → ky (g p) ≤ ky (g q)
theorem Out.pm {a0 b0 a b : Nat} {g g' : Nat → Nd} (ho : Out a0 b0 a b g) (ha : a0 ≤ a) (hb : b ≤ b0) (hp : Pm a b g g') : Out a0 b0 a b g' := by
 intro p q h1 h2 h3 h4
 by_cases hpi : p < a ∨ b ≤ p
 ·rw [hp.same hpi]
  by_cases hqi : q < a ∨ b ≤ q
  ·rw [hp.same hqi]; exact ho p q h1 h2 h3 h4
  ·exact hp.all (Q := fun x => ky (g p) ≤ ky x) (fun k hk1 hk2 => ho p k h1 (by omega) (by omega) (by omega)) q (by omega) (by omega)
 ·have hqi : q < a ∨ b ≤ q := by omega
  rw [hp.same hqi]
  exact hp.all (Q := fun x => ky x ≤ ky (g q)) (fun k hk1 hk2 => ho k q (by omega) (by omega) h3 (by omega)) p (by omega) (by omega)
theorem Out.end {a0 b0 a b : Nat} {g g' : Nat → Nd} (ho : Out a0 b0 a b g) (ha : a0 ≤ a) (hb : b ≤ b0) (hp : Pm a b g g') (hs : Srt a b g') : Srt a0 b0 g' := by
 intro p q h1 h2 h3
 by_cases h4 : a ≤ p ∧ q < b
 ·exact hs p q h4.1 h2 h4.2
 ·exact ho.pm ha hb hp p q h1 h2 h3 h4
def Lo0 (a b : Nat) (g : Nat → Nd) : Prop := a = 0 ∨ ∀ q, a ≤ q → q < b → ky (g (a - 1)) < ky (g q)
theorem Lo0.pm {a b c d : Nat} {g g' : Nat → Nd} (hl : Lo0 a b g) (hp : Pm c d g g') (ha : a ≤ c) (hd : d ≤ b) : Lo0 a b g' := by
 rcases hl with h | h
 ·exact .inl h
 ·by_cases h0 : a = 0
  ·exact .inl h0
  ·refine .inr fun q h1 h2 => ?_
   rw [hp.same (.inl (show a - 1 < c by omega))]
   by_cases hq : q < c ∨ d ≤ q
   ·rw [hp.same hq]; exact h q h1 h2
   ·exact hp.all (Q := fun x => ky (g (a - 1)) < ky x) (fun k hk1 hk2 => h k (by omega) (by omega)) q (by omega) (by omega)
def Inj (n : Nat) (g : Nat → Nd) : Prop := ∀ i j, i < n → j < n → ky (g i) = ky (g j) → i = j
abbrev QA := List Nd × Int × Int × Int
noncomputable abbrev qF : (QA → Option (List Nd)) → QA → Option (List Nd) := fun rec_ a => s_pdqsort_F (fun p0 p1 p2 p3 => rec_ (p0, p1, p2, p3)) a.1 a.2.1 a.2.2.1 a.2.2.2
theorem qsort_mo : Mo qF := by
 intro f g hfg a
 show Lo (s_pdqsort_F (fun p0 p1 p2 p3 => f (p0, p1, p2, p3)) a.1 a.2.1 a.2.2.1 a.2.2.2) (s_pdqsort_F (fun p0 p1 p2 p3 => g (p0, p1, p2, p3)) a.1 a.2.1 a.2.2.1 a.2.2.2)
 have k4 : ∀ x4 x5 x7 x8 x46 x60 xs66 x71, Lo (s_pdqsort_k4 (fun p0 p1 p2 p3 => f (p0, p1, p2, p3)) x4 x5 x7 x8 x46 x60 xs66 x71) (s_pdqsort_k4 (fun p0 p1 p2 p3 => g (p0, p1, p2, p3)) x4 x5 x7 x8 x46 x60 xs66 x71) := by
  intro x4 x5 x7 x8 x46 x60 xs66 x71
  unfold s_pdqsort_k4
  exact .ite (.refl _) (.bindK fun x => .bindK fun x => .ite (.bind (fun r h => hfg _ r h) fun _ => .refl _) (.bind (fun r h => hfg _ r h) fun _ => .refl _))
 have k3 : ∀ x4 x5 x7 x8 x46 x60 xs66, Lo (s_pdqsort_k3 (fun p0 p1 p2 p3 => f (p0, p1, p2, p3)) x4 x5 x7 x8 x46 x60 xs66) (s_pdqsort_k3 (fun p0 p1 p2 p3 => g (p0, p1, p2, p3)) x4 x5 x7 x8 x46 x60 xs66) := by
  intro x4 x5 x7 x8 x46 x60 xs66
  unfold s_pdqsort_k3
  exact .ite (.bindK fun x => .bindK fun x => .bindK fun x => k4 _ _ _ _ _ _ _ _) (k4 _ _ _ _ _ _ _ _)
 have k2 : ∀ x4 x5 x7 x8 x46 xs59 x60 x61, Lo (s_pdqsort_k2 (fun p0 p1 p2 p3 => f (p0, p1, p2, p3)) x4 x5 x7 x8 x46 xs59 x60 x61) (s_pdqsort_k2 (fun p0 p1 p2 p3 => g (p0, p1, p2, p3)) x4 x5 x7 x8 x46 xs59 x60 x61) := by
  intro x4 x5 x7 x8 x46 xs59 x60 x61
  unfold s_pdqsort_k2
  exact .ite (.bindK fun x => .ite (.refl _) (k3 _ _ _ _ _ _ _)) (k3 _ _ _ _ _ _ _)
 have k1 : ∀ x4 x5 x7 x8 xs45 x46, Lo (s_pdqsort_k1 (fun p0 p1 p2 p3 => f (p0, p1, p2, p3)) x4 x5 x7 x8 xs45 x46) (s_pdqsort_k1 (fun p0 p1 p2 p3 => g (p0, p1, p2, p3)) x4 x5 x7 x8 xs45 x46) := by
  intro x4 x5 x7 x8 xs45 x46
  unfold s_pdqsort_k1
  exact .bindK fun x => .ite (.bindK fun x => k2 _ _ _ _ _ _ _ _) (k2 _ _ _ _ _ _ _ _)
 unfold s_pdqsort_F s_pdqsort_l1
 refine .loop (fun s => ?_) _
 unfold s_pdqsort_l1b
 exact .ite (.refl _) (.ite (.refl _) (.ite (.bindK fun x => k1 _ _ _ _ _ _) (k1 _ _ _ _ _ _)))
theorem qsort_it (hn : n < 42) : ∀ (f : Nat) (h : Nat → Nd) (a0 b0 : Nat) (lim : Int), Tb n h → Inj n h → a0 ≤ b0 → b0 ≤ n → Lo0 a0 b0 h → b0 - a0 < f → Ok (itF qF f (tb n h, (a0 : Int), (b0 : Int), lim)) (fun r => ∃ h', r = tb n h' ∧ Pm a0 b0 h h' ∧ Srt a0 b0 h') := by
 intro f
 induction f with
 | zero => intro h a0 b0 lim t hi hab hb hl hf; omega
 | succ f ih =>
  intro h a0 b0 lim t hinj hab hbn hl hf
  show Ok (s_pdqsort_F (fun p0 p1 p2 p3 => itF qF f (p0, p1, p2, p3)) (tb n h) a0 b0 lim) _
  unfold s_pdqsort_F s_pdqsort_l1
  refine Ok.loopM (B := fun s => s_pdqsort_l1b (fun p0 p1 p2 p3 => itF qF f (p0, p1, p2, p3)) s.1 s.2.1 s.2.2.1 s.2.2.2.1 s.2.2.2.2.1 s.2.2.2.2.2)
   (fun s => ∃ (a b : Nat) (g : Nat → Nd), s.1 = tb n g ∧ s.2.1 = (a : Int) ∧ s.2.2.1 = (b : Int) ∧ a0 ≤ a ∧ a ≤ b ∧ b ≤ b0 ∧ Pm a0 b0 h g ∧ Out a0 b0 a b g) (fun s => s.2.2.1.toNat - s.2.1.toNat) (fun s hs => ?_) ⟨a0, b0, h, rfl, rfl, rfl, Nat.le_refl _, hab, Nat.le_refl _, .refl _ _ _, fun p q h1 h2 h3 h4 => absurd ⟨h1, h3⟩ h4⟩
  obtain ⟨xs, ai, bi, l, wb, wp⟩ := s
  obtain ⟨a, b, g, e1, e2, e3, ha, hab2, hb, hp, ho⟩ := hs
  simp only at e1 e2 e3
  subst e1 e2 e3
  have hbn' : b ≤ n := by omega
  have tg := t.pm hp (by omega)
  have ig : Inj n g := hp.inj hbn hinj
  show Ok (s_pdqsort_l1b _ (tb n g) a b l wb wp) _
  unfold s_pdqsort_l1b
  generalize hm : b - a = m
  obtain rfl : b = a + m := by omega
  have w1 : w64 (((a + m : Nat) : Int) - (a : Int)) = (m : Int) := by rw [wsub (by omega) (by omega)]; omega
  rw [w1]
  have finish : ∀ g', Pm a (a + m) g g' → Srt a (a + m) g' → ∃ h', tb n g' = tb n h' ∧ Pm a0 b0 h h' ∧ Srt a0 b0 h' := fun g' hp' hs' => ⟨g', rfl, hp.trans (hp'.wide ha hb), ho.end ha hb hp' hs'⟩
  refine .ite (fun hc => ?_) (fun hc => ?_)
  ·refine (insertion_is (by omega) tg a (a + m) (by omega) hbn').bind fun r hr => ?_
   obtain ⟨g', rfl, hp', hs'⟩ := hr
   exact .map (.ret (finish g' hp' hs'))
  have hm12 : 12 < m := by have := of_decide_eq_false hc; omega
  refine .ite (fun hc => ?_) (fun hc => ?_)
  ·refine (heap_is (by omega) tg a m (by omega) hbn').bind fun r hr => ?_
   obtain ⟨g', rfl, hp', hs'⟩ := hr
   exact .map (.ret (finish g' hp' hs'))
  -- behind the breaking of patterns
  have main : ∀ (g1 : Nat → Nd) (l1 : Int), Pm a (a + m) g g1 → Ok (s_pdqsort_k1 (fun p0 p1 p2 p3 => itF qF f (p0, p1, p2, p3)) a (a + m : Nat) wb wp (tb n g1) l1) (Sum.elim (fun s' => (∃ (a b : Nat) (g : Nat → Nd), s'.1 = tb n g ∧ s'.2.1 = (a : Int) ∧ s'.2.2.1 = (b : Int) ∧ a0 ≤ a ∧ a ≤ b ∧ b ≤ b0 ∧ Pm a0 b0 h g ∧ Out a0 b0 a b g) ∧ s'.2.2.1.toNat - s'.2.1.toNat < ((tb n g, (a : Int), ((a + m : Nat) : Int), l, wb, wp) : List Nd × Int × Int × Int × Bool × Bool).2.2.1.toNat - ((tb n g, (a : Int), ((a + m : Nat) : Int), l, wb, wp) : List Nd × Int × Int × Int × Bool × Bool).2.1.toNat) (fun r => ∃ h', r = tb n h' ∧ Pm a0 b0 h h' ∧ Srt a0 b0 h')) := by
   intro g1 l1 hp1
   -- behind the choice of a pivot
   have k3 : ∀ (g2 : Nat → Nd) (p : Nat), Pm a (a + m) g g2 → a ≤ p → p < a + m → Ok (s_pdqsort_k3 (fun p0 p1 p2 p3 => itF qF f (p0, p1, p2, p3)) a (a + m : Nat) wb wp l1 p (tb n g2)) (Sum.elim (fun s' => (∃ (a b : Nat) (g : Nat → Nd), s'.1 = tb n g ∧ s'.2.1 = (a : Int) ∧ s'.2.2.1 = (b : Int) ∧ a0 ≤ a ∧ a ≤ b ∧ b ≤ b0 ∧ Pm a0 b0 h g ∧ Out a0 b0 a b g) ∧ s'.2.2.1.toNat - s'.2.1.toNat < ((tb n g, (a : Int), ((a + m : Nat) : Int), l, wb, wp) : List Nd × Int × Int × Int × Bool × Bool).2.2.1.toNat - ((tb n g, (a : Int), ((a + m : Nat) : Int), l, wb, wp) : List Nd × Int × Int × Int × Bool × Bool).2.1.toNat) (fun r => ∃ h', r = tb n h' ∧ Pm a0 b0 h h' ∧ Srt a0 b0 h')) := by
    intro g2 p hp2 hpa hpb
    have hg2 := hp.trans (hp2.wide ha hb)
    have t2 := tg.pm hp2 hbn'
    have i2 : Inj n g2 := hp2.inj hbn' ig
    have o2 := ho.pm ha hb hp2
    have l2 : Lo0 a (a + m) g2 := by
     by_cases ha0 : a = 0
     ·exact .inl ha0
     ·refine .inr fun q h1 h2 => ?_
      by_cases haa : a = a0
      ·subst haa
       rcases (hl.pm hg2 (Nat.le_refl _) (Nat.le_refl _)) with h0 | h0
       ·exact absurd h0 ha0
       ·exact h0 q h1 (by omega)
      ·have h3 := o2 (a - 1) q (by omega) (by omega) (by omega) (by omega)
       have h4 : ky (g2 (a - 1)) ≠ ky (g2 q) := fun e => by have := i2 _ _ (by omega) (by omega) e; omega
       omega
    have k4 : Ok (s_pdqsort_k4 (fun p0 p1 p2 p3 => itF qF f (p0, p1, p2, p3)) a (a + m : Nat) wb wp l1 p (tb n g2) false) (Sum.elim (fun s' => (∃ (a b : Nat) (g : Nat → Nd), s'.1 = tb n g ∧ s'.2.1 = (a : Int) ∧ s'.2.2.1 = (b : Int) ∧ a0 ≤ a ∧ a ≤ b ∧ b ≤ b0 ∧ Pm a0 b0 h g ∧ Out a0 b0 a b g) ∧ s'.2.2.1.toNat - s'.2.1.toNat < ((tb n g, (a : Int), ((a + m : Nat) : Int), l, wb, wp) : List Nd × Int × Int × Int × Bool × Bool).2.2.1.toNat - ((tb n g, (a : Int), ((a + m : Nat) : Int), l, wb, wp) : List Nd × Int × Int × Int × Bool × Bool).2.1.toNat) (fun r => ∃ h', r = tb n h' ∧ Pm a0 b0 h h' ∧ Srt a0 b0 h')) := by
     unfold s_pdqsort_k4
     rw [if_neg (by decide)]
     refine (partition_is (by omega) t2 a (a + m) p (by omega) hbn' hpa hpb).bind fun r hr => ?_
     obtain ⟨mid, flag, xs3⟩ := r
     obtain ⟨c, g3, e1, e2, hac, hcb, hp3, hsp⟩ := hr
     simp only at e1 e2
     subst e1 e2
     have t3 := t2.pm hp3 hbn'
     have i3 : Inj n g3 := hp3.inj hbn' i2
     have o3 := o2.pm ha hb hp3
     have l3 := l2.pm hp3 (Nat.le_refl _) (Nat.le_refl _)
     have hg3 := hg2.trans (hp3.wide ha hb)
     have q8 : ∃ z, quoO .i64 (w64 (((a + m : Nat) : Int) - (a : Int))) 8 = some z := ⟨_, by rw [w1]; exact quo_nat (j := 8) (by omega) (by omega)⟩
     obtain ⟨z, hz⟩ := q8
     rw [hz]
     simp only [Option.bind_some]
     refine .ite (fun hd => ?_) (fun hd => ?_)
     ·-- the left one is sorted
      refine (ih g3 a c l1 t3 i3 hac (by omega) (by
       rcases l3 with h0 | h0
       ·exact .inl h0
       ·exact .inr fun q h1 h2 => h0 q h1 (by omega)) (by omega)).bind fun r hr => ?_
      obtain ⟨g4, rfl, hp4, hs4⟩ := hr
      have o4 := o3.pm ha hb (hp4.wide (Nat.le_refl _) (show c ≤ a + m by omega))
      rw [wadd1 (by omega)]
      refine .ret ⟨⟨c + 1, a + m, g4, rfl, rfl, rfl, by omega, by omega, hb, hg3.trans (hp4.wide ha (by omega)), fun u v h1 h2 h3 h4 => ?_⟩, by show (((a + m : Nat) : Int)).toNat - ((c + 1 : Nat) : Int).toNat < (((a + m : Nat) : Int)).toNat - (a : Int).toNat; omega⟩
      by_cases h5 : a ≤ u ∧ v < a + m
      ·have hc4 : g4 c = g3 c := hp4.same (.inr (Nat.le_refl _))
       have left : ∀ k, a ≤ k → k < c → ky (g4 k) ≤ ky (g3 c) := fun k hk1 hk2 => hp4.all (Q := fun x => ky x ≤ ky (g3 c)) (fun k hk1 hk2 => hsp.1 k hk1 hk2) k hk1 hk2
       have right : ∀ k, c < k → k < a + m → g4 k = g3 k := fun k hk1 hk2 => hp4.same (.inr (by omega))
       by_cases hu : u < c
       ·by_cases hv : v < c
        ·exact hs4 u v h5.1 h2 hv
        ·have h6 := left u h5.1 hu
         by_cases hvc : v = c
         ·subst hvc; rw [hc4]; exact h6
         ·rw [right v (by omega) h5.2]
          exact Int.le_trans h6 (hsp.2 v (by omega) h5.2)
       ·have huc : u = c := by omega
        subst huc
        rw [hc4, right v (by omega) h5.2]
        exact hsp.2 v (by omega) h5.2
      ·exact o4 u v h1 h2 h3 h5
     ·-- the right one is sorted
      rw [wadd1 (by omega)]
      refine (ih g3 (c + 1) (a + m) l1 t3 i3 (by omega) hbn' (.inr fun q h1 h2 => by
       have h6 := hsp.2 q (by omega) h2
       have h7 : ky (g3 c) ≠ ky (g3 q) := fun e => by have := i3 _ _ (by omega) (by omega) e; omega
       show ky (g3 c) < ky (g3 q); omega) (by omega)).bind fun r hr => ?_
      obtain ⟨g4, rfl, hp4, hs4⟩ := hr
      have o4 := o3.pm ha hb (hp4.wide (show a ≤ c + 1 by omega) (Nat.le_refl _))
      refine .ret ⟨⟨a, c, g4, rfl, rfl, rfl, ha, hac, by omega, hg3.trans (hp4.wide (by omega) hb), fun u v h1 h2 h3 h4 => ?_⟩, by show ((c : Int)).toNat - ((a : Nat) : Int).toNat < (((a + m : Nat) : Int)).toNat - (a : Int).toNat; omega⟩
      by_cases h5 : a ≤ u ∧ v < a + m
      ·have same : ∀ k, k ≤ c → g4 k = g3 k := fun k hk => hp4.same (.inl (by omega))
       have right : ∀ k, c < k → k < a + m → ky (g3 c) ≤ ky (g4 k) := fun k hk1 hk2 => hp4.all (Q := fun x => ky (g3 c) ≤ ky x) (fun k hk1 hk2 => hsp.2 k (by omega) hk2) k (by omega) hk2
       by_cases hu : u ≤ c
       ·rw [same u hu]
        by_cases hv : v ≤ c
        ·rw [same v hv]
         have hvc : v = c := by omega
         subst hvc
         exact hsp.1 u h5.1 h2
        ·have h6 := right v (by omega) h5.2
         by_cases huc : u = c
         ·subst huc; exact h6
         ·exact Int.le_trans (hsp.1 u h5.1 (by omega)) h6
       ·exact hs4 u v (by omega) h2 h5.2
      ·exact o4 u v h1 h2 h3 h5
    unfold s_pdqsort_k3
    refine .ite (fun hd => ?_) (fun hd => k4)
    have ha0 : 0 < a := by have := of_decide_eq_true hd; omega
    rw [wsub1 (by omega) (by omega), ix_tb (show a - 1 < n by omega), ix_tb (show p < n by omega)]
    simp only [Option.bind_some]
    rw [t2.cmp (by omega) (by omega)]
    simp only [Option.bind_some]
    rw [t2.lt (by omega) (by omega)]
    rcases l2 with h0 | h0
    ·omega
    ·have := h0 p hpa hpb
     rw [show decide (ky (g2 (a - 1)) - ky (g2 p) < 0) = true from decide_eq_true (by omega)]
     exact k4
   have k2 : ∀ (g2 : Nat → Nd) (p : Nat) (hint : Int), Pm a (a + m) g g2 → a ≤ p → p < a + m → Ok (s_pdqsort_k2 (fun p0 p1 p2 p3 => itF qF f (p0, p1, p2, p3)) a (a + m : Nat) wb wp l1 (tb n g2) p hint) (Sum.elim (fun s' => (∃ (a b : Nat) (g : Nat → Nd), s'.1 = tb n g ∧ s'.2.1 = (a : Int) ∧ s'.2.2.1 = (b : Int) ∧ a0 ≤ a ∧ a ≤ b ∧ b ≤ b0 ∧ Pm a0 b0 h g ∧ Out a0 b0 a b g) ∧ s'.2.2.1.toNat - s'.2.1.toNat < ((tb n g, (a : Int), ((a + m : Nat) : Int), l, wb, wp) : List Nd × Int × Int × Int × Bool × Bool).2.2.1.toNat - ((tb n g, (a : Int), ((a + m : Nat) : Int), l, wb, wp) : List Nd × Int × Int × Int × Bool × Bool).2.1.toNat) (fun r => ∃ h', r = tb n h' ∧ Pm a0 b0 h h' ∧ Srt a0 b0 h')) := by
    intro g2 p hint hp2 hpa hpb
    unfold s_pdqsort_k2
    refine .ite (fun hd => ?_) (fun hd => k3 g2 p hp2 hpa hpb)
    refine (partial_is (by omega) (tg.pm hp2 hbn') a m (by omega) (by omega) hbn').bind fun r hr => ?_
    obtain ⟨e1, e2⟩ := hr
    refine .ite (fun hd => .map (.ret ?_)) (fun hd => by rw [e1]; exact k3 g2 p hp2 hpa hpb)
    rw [e1]
    exact finish g2 hp2 (e2 hd)
   unfold s_pdqsort_k1
   refine (pivot_is (by omega) (tg.pm hp1 hbn') a m (by omega) (by omega) hbn').bind fun r hr => ?_
   obtain ⟨p, e1, hpa, hpb⟩ := hr
   rw [e1]
   refine .ite (fun hd => ?_) (fun hd => k2 g1 p _ hp1 hpa hpb)
   refine (reverse_is (h := g1) (by omega) a m (by omega) hbn').bind fun r hr => ?_
   obtain ⟨g2, rfl, hp2⟩ := hr
   rw [wsub1 (by omega) (by omega), wsub hpa (by omega), wsub (by omega) (by omega)]
   exact k2 g2 _ 1 (hp1.trans hp2) (by omega) (by omega)
  refine .ite (fun hd => ?_) (fun hd => main g l (.refl _ _ _))
  refine (break_is (h := g) (by omega) a m (by omega) (by omega) hbn').bind fun r hr => ?_
  obtain ⟨g1, rfl, hp1⟩ := hr
  exact main g1 _ hp1
theorem Len_ok (k : Nat) (hk : k ≤ 200) : Ok (math_bits_Len (IntKind.wrap .u64 (k : Int))) (fun _ => True) := by
 have hw : IntKind.wrap .u64 (k : Int) = (k : Int) := wrap_u64 (by omega) (by omega)
 have hw8 : IntKind.wrap .u8 (k : Int) = (k : Int) := by
  unfold IntKind.wrap
  simp [IntKind.signed, IntKind.bits]
  omega
 have hs : str1.size = 256 := by decide +kernel
 have k3 : ∀ x, Ok (math_bits_Len64_k3 (k : Int) x) (fun _ => True) := by
  intro x
  unfold math_bits_Len64_k3
  rw [hw8]
  have hlt : k < str1.size := by omega
  unfold ixS
  rw [if_pos (by omega), show ((k : Int)).toNat = k from rfl, getElem?_pos str1 k hlt]
  exact .ret trivial
 rw [hw]
 unfold math_bits_Len math_bits_Len64 math_bits_Len64_k1 math_bits_Len64_k2
 rw [if_neg (by simp; omega), if_neg (by simp; omega), if_neg (by simp; omega)]
 exact (k3 0).bind fun _ _ => .ret trivial
theorem Sort_is (hn : n < 42) (t : Tb n h) (hi : Inj n h) : Ok (slices_SortFunc (tb n h)) (fun r => ∃ h', r = tb n h' ∧ Pm 0 n h h' ∧ Srt 0 n h') := by
 unfold slices_SortFunc
 rw [tb_len]
 refine (Len_ok n (by omega)).bind fun L _ => ?_
 obtain ⟨r, hr, hP⟩ := qsort_it hn (n + 1) h 0 n L t hi (Nat.zero_le _) (Nat.le_refl _) (.inl rfl) (by omega)
 exact Ok.bind (P := fun x => x = r) (.of_eq (recO_of qsort_mo hr)) (fun x hx => by subst hx; exact .ret hP)
end
end
end Go.Vm.G13s.Q
