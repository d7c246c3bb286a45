/-
 Sorting: what the parts of the sort do with a stretch of a list.
-/
import Derived.Test.YtbmkccjfldmgiaaEPl3
import Derived.Test.YtbmkccjfldmgiaaEOGA21
set_option linter.unusedSimpArgs false
set_option linter.unusedVariables false
namespace Go.Vm.GA21
open Go
abbrev Nd := Tnd
abbrev ky (x : Nd) : Int := x.e.id
def kb (x : Nd) : Prop := 0 ≤ x.e.id ∧ x.e.id ≤ 9223372036854775807
theorem cmp_is {x y : Nd} (hx : kb x) (hy : kb y) : order_Run_Apart_c2 x y = some (ky x - ky y) := by
 unfold order_Run_Apart_c2
 obtain ⟨h1, h2⟩ := hx
 obtain ⟨h3, h4⟩ := hy
 rw [w64_id (by omega) (by omega)]
def sw (i j k : Nat) : Nat := if k = i then j else if k = j then i else k
theorem sw_i (i j : Nat) : sw i j i = j := if_pos rfl
theorem sw_j (i j : Nat) : sw i j j = i := by
 unfold sw
 split
 ·rename_i h; exact h
 ·rw [if_pos rfl]
theorem sw_o {i j k : Nat} (h1 : k ≠ i) (h2 : k ≠ j) : sw i j k = k := by unfold sw; rw [if_neg h1, if_neg h2]
theorem sw_sw (i j k : Nat) : sw i j (sw i j k) = k := by
 by_cases h1 : k = i
 ·subst h1; rw [sw_i, sw_j]
 ·by_cases h2 : k = j
  ·subst h2; rw [sw_j, sw_i]
  ·rw [sw_o h1 h2, sw_o h1 h2]
def swp (h : Nat → Nd) (i j : Nat) : Nat → Nd := fun k => h (sw i j k)
theorem swap_tb {n : Nat} {h : Nat → Nd} {i j : Nat} : ((tb n h).set i (h j)).set j (h i) = tb n (swp h i j) := by
 rw [tb_set, tb_set]
 apply tb_ext
 intro k hk
 unfold swp sw
 by_cases h1 : k = j
 ·subst h1
  rw [if_pos rfl]
  by_cases h2 : k = i
  ·rw [if_pos h2, h2]
  ·rw [if_neg h2, if_pos rfl]
 ·rw [if_neg h1]
  by_cases h2 : k = i
  ·rw [if_pos h2, if_pos h2]
  ·rw [if_neg h2, if_neg h2, if_neg h1]
structure PR (a b : Nat) (g h : Nat → Nd) (p q : Nat → Nat) : Prop where
 map : ∀ k, h k = g (p k)
 inv : ∀ k, p (q k) = k ∧ q (p k) = k
 out : ∀ k, (k < a ∨ b ≤ k) → p k = k
 ins : ∀ k, a ≤ k → k < b → a ≤ p k ∧ p k < b
def Pm (a b : Nat) (g h : Nat → Nd) : Prop := ∃ p q, PR a b g h p q
section
variable {a b a' b' i j n : Nat} {g h h' : Nat → Nd}
theorem Pm.refl (a b : Nat) (g : Nat → Nd) : Pm a b g g := ⟨fun k => k, fun k => k, fun _ => rfl, fun _ => ⟨rfl, rfl⟩, fun _ _ => rfl, fun _ h1 h2 => ⟨h1, h2⟩⟩
theorem Pm.trans (h1 : Pm a b g h) (h2 : Pm a b h h') : Pm a b g h' := by
 obtain ⟨p, q, a1, a2, a3, a4⟩ := h1
 obtain ⟨p', q', b1, b2, b3, b4⟩ := h2
 refine ⟨fun k => p (p' k), fun k => q' (q k), fun k => by rw [b1, a1], fun k => ⟨?_, ?_⟩, fun k hk => ?_, fun k hk1 hk2 => ?_⟩
 ·show p (p' (q' (q k))) = k
  rw [(b2 _).1, (a2 _).1]
 ·show q' (q (p (p' k))) = k
  rw [(a2 _).2, (b2 _).2]
 ·show p (p' k) = k
  rw [b3 k hk, a3 k hk]
 ·have := b4 k hk1 hk2
  exact a4 _ this.1 this.2
theorem Pm.one (hi : a ≤ i) (hi2 : i < b) (hj : a ≤ j) (hj2 : j < b) : Pm a b h (swp h i j) := by
 refine ⟨sw i j, sw i j, fun _ => rfl, fun k => ⟨sw_sw i j k, sw_sw i j k⟩, fun k hk => sw_o (by omega) (by omega), fun k h1 h2 => ?_⟩
 unfold sw
 split
 ·exact ⟨hj, hj2⟩
 ·split
  ·exact ⟨hi, hi2⟩
  ·exact ⟨h1, h2⟩
theorem Pm.swp (h1 : Pm a b g h) (hi : a ≤ i) (hi2 : i < b) (hj : a ≤ j) (hj2 : j < b) : Pm a b g (swp h i j) := h1.trans (.one hi hi2 hj hj2)
theorem Pm.wide (h1 : Pm a b g h) (ha : a' ≤ a) (hb : b ≤ b') : Pm a' b' g h := by
 obtain ⟨p, q, a1, a2, a3, a4⟩ := h1
 refine ⟨p, q, a1, a2, fun k hk => a3 k (by omega), fun k h1 h2 => ?_⟩
 by_cases hk : k < a ∨ b ≤ k
 ·rw [a3 k hk]; exact ⟨h1, h2⟩
 ·have := a4 k (by omega) (by omega)
  omega
theorem Pm.same (h1 : Pm a b g h) {k : Nat} (hk : k < a ∨ b ≤ k) : h k = g k := by
 obtain ⟨p, q, a1, a2, a3, a4⟩ := h1
 rw [a1, a3 k hk]
theorem Pm.all (h1 : Pm a b g h) {Q : Nd → Prop} (hq : ∀ k, a ≤ k → k < b → Q (g k)) : ∀ k, a ≤ k → k < b → Q (h k) := by
 obtain ⟨p, q, a1, a2, a3, a4⟩ := h1
 intro k hk1 hk2
 rw [a1]
 have := a4 k hk1 hk2
 exact hq _ this.1 this.2
theorem Pm.every (h1 : Pm a b g h) (hb : b ≤ n) {Q : Nd → Prop} (hq : ∀ k, k < n → Q (g k)) : ∀ k, k < n → Q (h k) := by
 intro k hk
 by_cases hk2 : k < a ∨ b ≤ k
 ·rw [h1.same hk2]; exact hq k hk
 ·exact h1.all (fun k _ h2 => hq k (by omega)) k (by omega) (by omega)
theorem Pm.inj (h1 : Pm a b g h) (hb : b ≤ n) (hg : ∀ i j, i < n → j < n → ky (g i) = ky (g j) → i = j) : ∀ i j, i < n → j < n → ky (h i) = ky (h j) → i = j := by
 obtain ⟨p, q, a1, a2, a3, a4⟩ := h1
 have lt : ∀ k, k < n → p k < n := by
  intro k hk
  by_cases hk2 : k < a ∨ b ≤ k
  ·rw [a3 k hk2]; exact hk
  ·have := a4 k (by omega) (by omega); omega
 intro i j hi hj hij
 rw [a1, a1] at hij
 have := hg _ _ (lt i hi) (lt j hj) hij
 rw [← (a2 i).2, this, (a2 j).2]
end
def Srt (a b : Nat) (h : Nat → Nd) : Prop := ∀ p q, a ≤ p → p < q → q < b → ky (h p) ≤ ky (h q)
structure Tb (n : Nat) (h : Nat → Nd) : Prop where
 key : ∀ k, k < n → kb (h k)
theorem Tb.pm {n a b : Nat} {g h : Nat → Nd} (t : Tb n g) (hp : Pm a b g h) (hb : b ≤ n) : Tb n h := ⟨hp.every hb t.key⟩
section
variable {n : Nat} {h : Nat → Nd}
theorem Tb.cmp (t : Tb n h) {i j : Nat} (hi : i < n) (hj : j < n) : order_Run_Apart_c2 (h i) (h j) = some (ky (h i) - ky (h j)) := cmp_is (t.key i hi) (t.key j hj)
theorem wadd {i j : Nat} (h1 : i + j ≤ 1000000) : w64 ((i : Int) + (j : Int)) = ((i + j : Nat) : Int) := by rw [w64_id (by omega) (by omega)]; omega
theorem wsub {i j : Nat} (h1 : j ≤ i) (h2 : i ≤ 1000000) : w64 ((i : Int) - (j : Int)) = ((i - j : Nat) : Int) := by rw [w64_id (by omega) (by omega)]; omega
theorem wsub1 {i : Nat} (h1 : 1 ≤ i) (h2 : i ≤ 1000000) : w64 ((i : Int) - 1) = ((i - 1 : Nat) : Int) := wsub (j := 1) h1 h2
theorem wadd1 {i : Nat} (h2 : i ≤ 1000000) : w64 ((i : Int) + 1) = ((i + 1 : Nat) : Int) := w64_succ (by omega)
theorem insertion_is (hn : n ≤ 1000) (t : Tb n h) (a b : Nat) (hab : a ≤ b) (hb : b ≤ n) : Ok (s_insertionSort (tb n h) a b) (fun r => ∃ h', r = tb n h' ∧ Pm a b h h' ∧ Srt a b h') := by
 unfold s_insertionSort s_insertionSort_l1
 rw [wadd1 (by omega)]
 by_cases h0 : a = b
 ·subst h0
  rw [loopO_eq]
  show Ok ((s_insertionSort_l1b a a (tb n h) ((a + 1 : Nat) : Int)).bind _) _
  unfold s_insertionSort_l1b
  rw [if_neg (by simp; omega)]
  exact ⟨_, rfl, h, rfl, .refl _ _ _, fun p q h1 h2 h3 => by omega⟩
 refine Ok.loop (B := fun s => s_insertionSort_l1b a b s.1 s.2) (fun k s => s.2 = ((a + k + 1 : Nat) : Int) ∧ ∃ h', s.1 = tb n h' ∧ Pm a b h h' ∧ Srt a (a + k + 1) h') (b - a - 1) (fun k s hk hs => ?_) (fun s hs => ?_) ⟨rfl, h, rfl, .refl _ _ _, fun p q h1 h2 h3 => by omega⟩
 ·obtain ⟨xs, i⟩ := s
  obtain ⟨h1, g, h2, hp, hle⟩ := hs
  simp only at h1 h2
  subst h1 h2
  show Ok (s_insertionSort_l1b a b (tb n g) ((a + k + 1 : Nat) : Int)) _
  unfold s_insertionSort_l1b
  rw [if_pos (decide_eq_true (by omega))]
  unfold s_insertionSort_l2
  let E : Nat := a + k + 2
  refine Ok.loopM (B := fun s => s_insertionSort_l2b a ((a + k + 1 : Nat) : Int) s.1 s.2) (fun s => ∃ (j : Nat) (g' : Nat → Nd), s = (tb n g', (j : Int)) ∧ a ≤ j ∧ j < a + k + 2 ∧ Pm a b h g' ∧ (∀ p q, a ≤ p → p < q → q < a + k + 2 → p ≠ j → q ≠ j → ky (g' p) ≤ ky (g' q)) ∧ (∀ q, j < q → q < a + k + 2 → ky (g' j) ≤ ky (g' q))) (fun s => s.2.toNat) (fun s hs => ?_) ⟨a + k + 1, g, rfl, by omega, by omega, hp, fun p q h1 h2 h3 h4 h5 => hle p q h1 h2 (by omega), fun q h1 h2 => by omega⟩
  obtain ⟨j, g', rfl, hja, hj, hp', hA, hB⟩ := hs
  have t' := t.pm hp' hb
  show Ok (s_insertionSort_l2b a ((a + k + 1 : Nat) : Int) (tb n g') (j : Int)) _
  unfold s_insertionSort_l2b
  have fin : (∀ p, a ≤ p → p < j → ky (g' p) ≤ ky (g' j)) → Ok (s_insertionSort_k1 ((a + k + 1 : Nat) : Int) (tb n g') (j : Int) false) (Sum.elim (fun s' => (∃ (j : Nat) (g' : Nat → Nd), s' = (tb n g', (j : Int)) ∧ a ≤ j ∧ j < a + k + 2 ∧ Pm a b h g' ∧ (∀ p q, a ≤ p → p < q → q < a + k + 2 → p ≠ j → q ≠ j → ky (g' p) ≤ ky (g' q)) ∧ (∀ q, j < q → q < a + k + 2 → ky (g' j) ≤ ky (g' q))) ∧ s'.2.toNat < ((tb n g', (j : Int)) : List Nd × Int).2.toNat) (Sum.elim (fun s => s.2 = ((a + (k + 1) + 1 : Nat) : Int) ∧ ∃ h', s.1 = tb n h' ∧ Pm a b h h' ∧ Srt a (a + (k + 1) + 1) h') (fun r => ∃ h', r = tb n h' ∧ Pm a b h h' ∧ Srt a b h'))) := by
   intro hC
   unfold s_insertionSort_k1
   rw [if_neg (by decide)]
   refine .map (.ret ⟨w64_succ (by omega), g', rfl, hp', fun p q h0 h1 h2 => ?_⟩)
   by_cases hpj : p = j
   ·subst hpj; exact hB q h1 (by omega)
   ·by_cases hqj : q = j
    ·subst hqj; exact hC p h0 h1
    ·exact hA p q h0 h1 (by omega) hpj hqj
  refine .ite (fun hc => ?_) (fun hc => ?_)
  ·have hj0 : a < j := by simp at hc; exact hc
   have hjn : j < n := by omega
   have hw : w64 ((j : Int) - 1) = ((j - 1 : Nat) : Int) := wsub1 (by omega) (by omega)
   rw [ix_tb hjn, hw, ix_tb (show j - 1 < n by omega)]
   simp only [Option.bind_some]
   rw [t'.cmp hjn (by omega)]
   simp only [Option.bind_some]
   cases hd : decide (ky (g' j) - ky (g' (j - 1)) < 0) with
   | false =>
    have hr0 : ky (g' (j - 1)) ≤ ky (g' j) := by have := of_decide_eq_false hd; omega
    refine fin fun p hpa hpj => ?_
    by_cases h5 : p = j - 1
    ·subst h5; exact hr0
    ·exact Int.le_trans (hA p (j - 1) hpa (by omega) (by omega) (by omega) (by omega)) hr0
   | true =>
    have hr0 : ky (g' j) ≤ ky (g' (j - 1)) := by have := of_decide_eq_true hd; omega
    unfold s_insertionSort_k1
    rw [if_pos rfl, hw, ix_tb (show j - 1 < n by omega), ix_tb hjn]
    simp only [Option.bind_some, Int.toNat_natCast]
    rw [show ix ((tb n g').set j (g' (j - 1))) ((j - 1 : Nat) : Int) = some (g' (j - 1)) from by rw [tb_set, ix_tb (show j - 1 < n by omega), if_neg (by omega)]]
    simp only [Option.bind_some]
    rw [swap_tb]
    have e1 : swp g' j (j - 1) (j - 1) = g' j := by unfold swp; rw [sw_j]
    have e2 : swp g' j (j - 1) j = g' (j - 1) := by unfold swp; rw [sw_i]
    have e3 : ∀ q, q ≠ j → q ≠ j - 1 → swp g' j (j - 1) q = g' q := fun q h1 h2 => by unfold swp; rw [sw_o h1 h2]
    refine .ret ⟨⟨j - 1, swp g' j (j - 1), rfl, by omega, by omega, hp'.swp (by omega) (by omega) (by omega) (by omega), fun p q h0 h1 h2 h3 h4 => ?_, fun q h1 h2 => ?_⟩, ?_⟩
    ·by_cases hpj : p = j
     ·subst hpj
      rw [e2, e3 q (by omega) h4]
      exact hA (p - 1) q (by omega) (by omega) h2 (by omega) (by omega)
     ·by_cases hqj : q = j
      ·subst hqj
       rw [e2, e3 p hpj h3]
       exact hA p (q - 1) h0 (by omega) (by omega) hpj (by omega)
      ·rw [e3 p hpj h3, e3 q hqj h4]
       exact hA p q h0 h1 h2 hpj hqj
    ·rw [e1]
     by_cases hqj : q = j
     ·subst hqj; rw [e2]; exact hr0
     ·rw [e3 q hqj (by omega)]; exact hB q (by omega) h2
    ·show ((j - 1 : Nat) : Int).toNat < (j : Int).toNat
     omega
  ·have hj0 : j = a := by simp at hc; omega
   exact fin fun p hpa hp => by omega
 ·obtain ⟨xs, i⟩ := s
  obtain ⟨h1, g, h2, hp, hle⟩ := hs
  simp only at h1 h2
  subst h1 h2
  show Ok (s_insertionSort_l1b a b (tb n g) ((a + (b - a - 1) + 1 : Nat) : Int)) _
  unfold s_insertionSort_l1b
  rw [if_neg (by simp; omega)]
  exact .map (.ret ⟨g, rfl, hp, fun p q h1 h2 h3 => hle p q h1 h2 (by omega)⟩)
def par (c : Nat) : Nat := (c - 1) / 2
structure HP (f lo hi : Nat) (h : Nat → Nd) (r : Nat) : Prop where
 heap : ∀ c, 1 ≤ c → c < hi → lo ≤ par c → par c ≠ r → ky (h (f + c)) ≤ ky (h (f + par c))
 up : ∀ c, 1 ≤ c → c < hi → par c = r → 1 ≤ r → lo ≤ par r → ky (h (f + c)) ≤ ky (h (f + par r))
def Heap (f lo hi : Nat) (h : Nat → Nd) : Prop := ∀ c, 1 ≤ c → c < hi → lo ≤ par c → ky (h (f + c)) ≤ ky (h (f + par c))
theorem siftDown_is (hn : n ≤ 1000) (t : Tb n h) (f lo hi : Nat) (hl2 : lo ≤ 1000) (hf : f + hi ≤ n) (h0 : Heap f (lo + 1) hi h) : Ok (s_siftDown (tb n h) lo hi f) (fun r => ∃ h', r = tb n h' ∧ Pm (f + lo) (f + hi) h h' ∧ Heap f lo hi h') := by
 unfold s_siftDown s_siftDown_l1
 by_cases hlo : hi ≤ lo
 ·rw [loopO_eq]
  show Ok ((s_siftDown_l1b hi f (tb n h) lo).bind _) _
  unfold s_siftDown_l1b
  have w1 : w64 (2 * (lo : Int)) = ((2 * lo : Nat) : Int) := by rw [w64_id (by omega) (by omega)]; omega
  rw [w1, wadd1 (by omega), if_pos (decide_eq_true (by omega))]
  exact ⟨_, rfl, h, rfl, .refl _ _ _, fun c h1 h2 h3 => by unfold par at h3; omega⟩
 refine Ok.loopM (B := fun s => s_siftDown_l1b hi f s.1 s.2) (fun s => ∃ (r : Nat) (g : Nat → Nd), s = (tb n g, (r : Int)) ∧ lo ≤ r ∧ r < hi ∧ Pm (f + lo) (f + hi) h g ∧ HP f lo hi g r) (fun s => hi - s.2.toNat) (fun s hs => ?_) ⟨lo, h, rfl, Nat.le_refl _, by omega, .refl _ _ _, ⟨fun c h1 h2 h3 h4 => h0 c h1 h2 (by omega), fun c h1 h2 h3 h4 h5 => by unfold par at h5; omega⟩⟩
 obtain ⟨r, g, rfl, hr1, hr2, hp, hH⟩ := hs
 have t' := t.pm hp hf
 show Ok (s_siftDown_l1b hi f (tb n g) (r : Int)) _
 unfold s_siftDown_l1b
 have w1 : w64 (2 * (r : Int)) = ((2 * r : Nat) : Int) := by rw [w64_id (by omega) (by omega)]; omega
 rw [w1, wadd1 (by omega), wadd1 (by omega)]
 refine .ite (fun hc => .map (.ret ⟨g, rfl, hp, fun c h1 h2 h3 => ?_⟩)) (fun hc => ?_)
 ·by_cases h4 : par c = r
  ·unfold par at h4; have := of_decide_eq_true hc; omega
  ·exact hH.heap c h1 h2 h3 h4
 have hc1 : 2 * r + 1 < hi := by have := of_decide_eq_false hc; omega
 -- the greater child
 have key : ∀ (ch : Nat), (ch = 2 * r + 1 ∨ ch = 2 * r + 2) → ch < hi → (∀ c, par c = r → 1 ≤ c → c < hi → ky (g (f + c)) ≤ ky (g (f + ch))) →
   Ok (s_siftDown_k1 f (tb n g) r ch) (Sum.elim (fun s' => (∃ (r : Nat) (g : Nat → Nd), s' = (tb n g, (r : Int)) ∧ lo ≤ r ∧ r < hi ∧ Pm (f + lo) (f + hi) h g ∧ HP f lo hi g r) ∧ hi - s'.2.toNat < hi - ((tb n g, (r : Int)) : List Nd × Int).2.toNat) (fun r => ∃ h', r = tb n h' ∧ Pm (f + lo) (f + hi) h h' ∧ Heap f lo hi h')) := by
  intro ch hch hlt hmx
  have hpc : par ch = r := by unfold par; omega
  unfold s_siftDown_k1
  rw [wadd (by omega), wadd (by omega), ix_tb (show f + r < n by omega), ix_tb (show f + ch < n by omega)]
  simp only [Option.bind_some, Int.toNat_natCast]
  rw [t'.cmp (by omega) (by omega)]
  simp only [Option.bind_some]
  refine .ite (fun hd => .map (.ret ⟨g, rfl, hp, fun c h1 h2 h3 => ?_⟩)) (fun hd => ?_)
  ·by_cases h4 : par c = r
   ·have := hmx c h4 h1 h2
    rw [h4]
    have : ky (g (f + ch)) ≤ ky (g (f + r)) := by
     have : ¬ ky (g (f + r)) - ky (g (f + ch)) < 0 := by simpa using hd
     omega
    omega
   ·exact hH.heap c h1 h2 h3 h4
  ·have hlt2 : ky (g (f + r)) ≤ ky (g (f + ch)) := by
    have : ky (g (f + r)) - ky (g (f + ch)) < 0 := by simpa using hd
    omega
   rw [show ix ((tb n g).set (f + r) (g (f + ch))) ((f + ch : Nat) : Int) = some (g (f + ch)) from by rw [tb_set, ix_tb (show f + ch < n by omega), if_neg (by omega)]]
   simp only [Option.bind_some]
   rw [swap_tb]
   have e1 : swp g (f + r) (f + ch) (f + r) = g (f + ch) := by unfold swp; rw [sw_i]
   have e2 : swp g (f + r) (f + ch) (f + ch) = g (f + r) := by unfold swp; rw [sw_j]
   have e3 : ∀ q, q ≠ r → q ≠ ch → swp g (f + r) (f + ch) (f + q) = g (f + q) := fun q h1 h2 => by unfold swp; rw [sw_o (by omega) (by omega)]
   refine .ret ⟨⟨ch, swp g (f + r) (f + ch), rfl, by omega, hlt, hp.swp (by omega) (by omega) (by omega) (by omega), ⟨fun c h1 h2 h3 h4 => ?_, fun c h1 h2 h3 h4 h5 => ?_⟩⟩, ?_⟩
   ·by_cases h5 : par c = r
    ·rw [h5, e1]
     by_cases h6 : c = ch
     ·subst h6; rw [e2]; exact hlt2
     ·have h7 : c ≠ r := by unfold par at h5; omega
      rw [e3 c h7 h6]; exact hmx c h5 h1 h2
    ·have h8 : par c ≠ ch := h4
     rw [e3 (par c) h5 h8]
     by_cases h6 : c = r
     ·subst h6
      rw [e1]
      exact hH.up ch (by omega) hlt hpc h1 h3
     ·have h7 : c ≠ ch := by rintro rfl; exact h5 hpc
      rw [e3 c h6 h7]
      exact hH.heap c h1 h2 h3 h5
   ·rw [hpc, e1]
    have h6 : c ≠ r := by unfold par at h3; omega
    have h7 : c ≠ ch := by unfold par at h3; omega
    rw [e3 c h6 h7, ← h3]
    exact hH.heap c h1 h2 (by rw [h3]; omega) (by rw [h3]; omega)
   ·show hi - ((ch : Nat) : Int).toNat < hi - (r : Int).toNat
    omega
 have lone : ∀ c, par c = r → 1 ≤ c → c = 2 * r + 1 ∨ c = 2 * r + 2 := fun c h1 h2 => by unfold par at h1; omega
 refine .ite (fun h2 => ?_) (fun h2 => ?_)
 ·have hc2 : 2 * r + 2 < hi := by have := of_decide_eq_true h2; omega
  rw [wadd (by omega), wadd1 (by omega), ix_tb (show f + (2 * r + 1) < n by omega), ix_tb (show f + (2 * r + 1) + 1 < n by omega)]
  simp only [Option.bind_some]
  rw [t'.cmp (by omega) (by omega)]
  simp only [Option.bind_some]
  unfold s_siftDown_k2
  refine .ite (fun h3 => ?_) (fun h3 => ?_)
  ·rw [w1, wadd1 (by omega), wadd1 (by omega)]
   refine key (2 * r + 1 + 1) (.inr rfl) hc2 fun c h4 h5 h6 => ?_
   have : ky (g (f + (2 * r + 1))) - ky (g (f + (2 * r + 1) + 1)) < 0 := of_decide_eq_true h3
   rcases lone c h4 h5 with rfl | rfl
   ·show ky (g (f + (2 * r + 1))) ≤ ky (g (f + (2 * r + 1) + 1)); omega
   ·exact Int.le_refl _
  ·rw [w1, wadd1 (by omega)]
   refine key (2 * r + 1) (.inl rfl) hc1 fun c h4 h5 h6 => ?_
   have : ¬ ky (g (f + (2 * r + 1))) - ky (g (f + (2 * r + 1) + 1)) < 0 := of_decide_eq_false h3
   rcases lone c h4 h5 with rfl | rfl
   ·exact Int.le_refl _
   ·show ky (g (f + (2 * r + 1) + 1)) ≤ ky (g (f + (2 * r + 1))); omega
 ·have hc2 : ¬ 2 * r + 2 < hi := by have := of_decide_eq_false h2; omega
  unfold s_siftDown_k2
  rw [if_neg (by decide), w1, wadd1 (by omega)]
  refine key (2 * r + 1) (.inl rfl) hc1 fun c h4 h5 h6 => ?_
  rcases lone c h4 h5 with rfl | rfl
  ·exact Int.le_refl _
  ·omega
end
end Go.Vm.GA21
