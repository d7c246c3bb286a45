/-
 Sorting: the whole of it, for lists of up to 24.
-/
import Derived.Test.YtbmkccjfldmgiaaEP21t
set_option linter.unusedSimpArgs false
set_option linter.unusedVariables false
namespace Go.Vm.GA21
open Go
section
variable {n : Nat} {h : Nat → Nd}
theorem wrap_u64 {x : Int} (h1 : 0 ≤ x) (h2 : x < 18446744073709551616) : IntKind.wrap .u64 x = x := by
 unfold IntKind.wrap
 simp [IntKind.signed, IntKind.bits]
 omega
theorem andB_le (x : Int) (m : Nat) (hm : m < 1000000) : ∃ k : Nat, andB .u64 x (m : Int) = (k : Int) ∧ k ≤ m := by
 unfold andB
 have e : (BitVec.ofInt (IntKind.bits .u64) (m : Int)).toNat = m := by
  show (BitVec.ofInt 64 (m : Int)).toNat = m
  rw [BitVec.toNat_ofInt]
  omega
 have h1 : (BitVec.ofInt (IntKind.bits .u64) x &&& BitVec.ofInt (IntKind.bits .u64) (m : Int)).toNat ≤ m := by
  rw [BitVec.toNat_and, e]
  exact Nat.and_le_right
 exact ⟨_, wrap_u64 (by omega) (by omega), h1⟩
theorem L13 : ixS str1 13 = some 4 := by decide +kernel
theorem L14 : ixS str1 14 = some 4 := by decide +kernel
theorem L15 : ixS str1 15 = some 4 := by decide +kernel
theorem L16 : ixS str1 16 = some 5 := by decide +kernel
theorem L17 : ixS str1 17 = some 5 := by decide +kernel
theorem L18 : ixS str1 18 = some 5 := by decide +kernel
theorem L19 : ixS str1 19 = some 5 := by decide +kernel
theorem L20 : ixS str1 20 = some 5 := by decide +kernel
theorem L21 : ixS str1 21 = some 5 := by decide +kernel
theorem L22 : ixS str1 22 = some 5 := by decide +kernel
theorem L23 : ixS str1 23 = some 5 := by decide +kernel
theorem L24 : ixS str1 24 = some 5 := by decide +kernel
theorem Len_small (k : Nat) (h2 : k < 25) (h1 : 13 ≤ k) : math_bits_Len (IntKind.wrap .u64 (k : Int)) = some (if k < 16 then 4 else 5) := by
 have hw : IntKind.wrap .u64 (k : Int) = (k : Int) := wrap_u64 (by omega) (by omega)
 have hw8 : IntKind.wrap .u8 (k : Int) = (k : Int) := by
  unfold IntKind.wrap
  simp [IntKind.signed, IntKind.bits]
  omega
 rw [hw]
 unfold math_bits_Len math_bits_Len64 math_bits_Len64_k1 math_bits_Len64_k2
 rw [if_neg (by simp; omega), if_neg (by simp; omega), if_neg (by simp; omega)]
 unfold math_bits_Len64_k3
 rw [hw8]
 have h3 : k = 13 ∨ k = 14 ∨ k = 15 ∨ k = 16 ∨ k = 17 ∨ k = 18 ∨ k = 19 ∨ k = 20 ∨ k = 21 ∨ k = 22 ∨ k = 23 ∨ k = 24 := by omega
 have h4 : ixS str1 (k : Int) = some (if k < 16 then 4 else 5) := by
  rcases h3 with rfl | rfl | rfl | rfl | rfl | rfl | rfl | rfl | rfl | rfl | rfl | rfl
  ·exact L13
  ·exact L14
  ·exact L15
  ·exact L16
  ·exact L17
  ·exact L18
  ·exact L19
  ·exact L20
  ·exact L21
  ·exact L22
  ·exact L23
  ·exact L24
 rw [h4]
 split <;> rfl
theorem pow2_is {m : Nat} (h1 : 13 ≤ m) (h2 : m < 25) : slices_nextPowerOfTwo (m : Int) = some (if m < 16 then 16 else 32) := by
 unfold slices_nextPowerOfTwo
 rw [Len_small m h2 h1]
 split <;> rfl
theorem next_ok (x : Int) : Ok (slices_xorshift_Next x) (fun _ => True) := by
 unfold slices_xorshift_Next shlO shrO
 rw [if_pos (by decide)]
 simp only [Option.bind_some]
 rw [if_pos (by decide)]
 simp only [Option.bind_some]
 rw [if_pos (by decide)]
 exact .ret trivial
theorem break_is (hn : n ≤ 1000) (a m : Nat) (hm : 13 ≤ m) (hm2 : m < 25) (hb : a + m ≤ n) : Ok (s_breakPatterns (tb n h) a (a + m : Nat)) (fun r => ∃ h', r = tb n h' ∧ Pm a (a + m) h h') := by
 have w1 : w64 (((a + m : Nat) : Int) - (a : Int)) = (m : Int) := by rw [wsub (by omega) (by omega)]; omega
 unfold s_breakPatterns
 rw [w1, if_pos (decide_eq_true (by omega)), pow2_is hm hm2, Option.bind_some]
 obtain ⟨M, hM, hM2⟩ : ∃ M : Nat, (if m < 16 then (16 : Int) else 32) = (M : Int) ∧ 1 ≤ M ∧ M ≤ 2 * m := by
  by_cases hm16 : m < 16
  ·exact ⟨16, by rw [if_pos hm16]; rfl, by omega, by omega⟩
  ·exact ⟨32, by rw [if_neg hm16]; rfl, by omega, by omega⟩
 rw [hM, show (4 : Int) = ((4 : Nat) : Int) from rfl, quo_nat (by omega) (by omega)]
 simp only [Option.bind_some]
 generalize hq : m / 4 = q
 have e2 : w64 ((a : Int) + (w64 ((q : Int) * 2))) = ((a + 2 * q : Nat) : Int) := by rw [w64_id (x := (q : Int) * 2) (by omega) (by omega), w64_id (by omega) (by omega)]; omega
 rw [e2, wsub1 (by omega) (by omega)]
 unfold s_breakPatterns_l1
 refine Ok.loopM (B := fun s => s_breakPatterns_l1b a (a + m : Nat) M s.1 s.2.1 s.2.2) (fun s => ∃ (i : Nat) (g : Nat → Nd), s.1 = tb n g ∧ s.2.2 = (i : Int) ∧ a ≤ i ∧ Pm a (a + m) h g) (fun s => a + m + 2 - s.2.2.toNat) (fun s hs => ?_) ⟨a + 2 * q - 1, h, rfl, rfl, by omega, .refl _ _ _⟩
 obtain ⟨xs, rnd, i'⟩ := s
 obtain ⟨i, g, h1, h2, h3, hp⟩ := hs
 simp only at h1 h2
 subst h1 h2
 show Ok (s_breakPatterns_l1b a (a + m : Nat) M (tb n g) rnd i) _
 unfold s_breakPatterns_l1b
 rw [w1, show (4 : Int) = ((4 : Nat) : Int) from rfl, quo_nat (by omega) (by omega), hq]
 simp only [Option.bind_some]
 rw [e2, wadd1 (by omega)]
 refine .ite (fun hc => ?_) (fun hc => .map (.ret ⟨g, rfl, hp⟩))
 have hi : i ≤ a + 2 * q + 1 := by have := of_decide_eq_true hc; omega
 refine (next_ok rnd).bind fun x _ => ?_
 have e3 : IntKind.wrap .u64 ((M : Int) - 1) = ((M - 1 : Nat) : Int) := by rw [wrap_u64 (by omega) (by omega)]; omega
 rw [e3]
 obtain ⟨k, hk, hk2⟩ := andB_le x.1 (M - 1) (by omega)
 rw [hk, w64_id (x := (k : Int)) (by omega) (by omega)]
 have key : ∀ (o : Nat), o < m → Ok (s_breakPatterns_k1 a (tb n g) i x o) (Sum.elim (fun s' => (∃ (i : Nat) (g : Nat → Nd), s'.1 = tb n g ∧ s'.2.2 = (i : Int) ∧ a ≤ i ∧ Pm a (a + m) h g) ∧ a + m + 2 - s'.2.2.toNat < a + m + 2 - ((tb n g, rnd, (i : Int)) : List Nd × Int × Int).2.2.toNat) (fun r => ∃ h', r = tb n h' ∧ Pm a (a + m) h h')) := by
  intro o ho
  unfold s_breakPatterns_k1
  rw [wadd (by omega), ix_tb (show a + o < n by omega), ix_tb (show i < n by omega)]
  simp only [Option.bind_some, Int.toNat_natCast, ix_set_tb (show a + o < n by omega)]
  rw [swap_tb, wadd1 (by omega)]
  refine .ret ⟨⟨i + 1, _, rfl, rfl, by omega, hp.swp h3 (by omega) (by omega) (by omega)⟩, ?_⟩
  show a + m + 2 - ((i + 1 : Nat) : Int).toNat < a + m + 2 - (i : Int).toNat
  omega
 refine .ite (fun hd => ?_) (fun hd => ?_)
 ·have hkm : m ≤ k := by have := of_decide_eq_true hd; omega
  rw [wsub hkm (by omega)]
  exact key (k - m) (by omega)
 ·have hkm : ¬ m ≤ k := by have := of_decide_eq_false hd; omega
  exact key k (by omega)
def Out (a0 b0 a b : Nat) (g : Nat → Nd) : Prop := ∀ p q, a0 ≤ p → p < q → q < b0 → ¬ (a ≤ p ∧ q < b) → ky (g p) ≤ ky (g q)
theorem Out.pm {a0 b0 a b : Nat} {g g' : Nat → Nd} (ho : Out a0 b0 a b g) (ha : a0 ≤ a) (hb : b ≤ b0) (hp : Pm a b g g') : Out a0 b0 a b g' := by
 intro p q h1 h2 h3 h4
 by_cases hpi : p < a ∨ b ≤ p
 ·rw [hp.same hpi]
  by_cases hqi : q < a ∨ b ≤ q
  ·rw [hp.same hqi]; exact ho p q h1 h2 h3 h4
  ·exact hp.all (Q := fun x => ky (g p) ≤ ky x) (fun k hk1 hk2 => ho p k h1 (by omega) (by omega) (by omega)) q (by omega) (by omega)
 ·have hqi : q < a ∨ b ≤ q := by omega
  rw [hp.same hqi]
  exact hp.all (Q := fun x => ky x ≤ ky (g q)) (fun k hk1 hk2 => ho k q (by omega) (by omega) h3 (by omega)) p (by omega) (by omega)
theorem Out.end {a0 b0 a b : Nat} {g g' : Nat → Nd} (ho : Out a0 b0 a b g) (ha : a0 ≤ a) (hb : b ≤ b0) (hp : Pm a b g g') (hs : Srt a b g') : Srt a0 b0 g' := by
 intro p q h1 h2 h3
 by_cases h4 : a ≤ p ∧ q < b
 ·exact hs p q h4.1 h2 h4.2
 ·exact ho.pm ha hb hp p q h1 h2 h3 h4
def Lo0 (a b : Nat) (g : Nat → Nd) : Prop := a = 0 ∨ ∀ q, a ≤ q → q < b → ky (g (a - 1)) < ky (g q)
theorem Lo0.pm {a b c d : Nat} {g g' : Nat → Nd} (hl : Lo0 a b g) (hp : Pm c d g g') (ha : a ≤ c) (hd : d ≤ b) : Lo0 a b g' := by
 rcases hl with h | h
 ·exact .inl h
 ·by_cases h0 : a = 0
  ·exact .inl h0
  ·refine .inr fun q h1 h2 => ?_
   rw [hp.same (.inl (show a - 1 < c by omega))]
   by_cases hq : q < c ∨ d ≤ q
   ·rw [hp.same hq]; exact h q h1 h2
   ·exact hp.all (Q := fun x => ky (g (a - 1)) < ky x) (fun k hk1 hk2 => h k (by omega) (by omega)) q (by omega) (by omega)
def Inj (n : Nat) (g : Nat → Nd) : Prop := ∀ i j, i < n → j < n → ky (g i) = ky (g j) → i = j
abbrev QA := List Nd × Int × Int × Int
noncomputable abbrev qF : (QA → Option (List Nd)) → QA → Option (List Nd) := fun rec_ a => s_pdqsort_F (fun p0 p1 p2 p3 => rec_ (p0, p1, p2, p3)) a.1 a.2.1 a.2.2.1 a.2.2.2
theorem qsort_mo : Mo qF := by
 intro f g hfg a
 show Lo (s_pdqsort_F (fun p0 p1 p2 p3 => f (p0, p1, p2, p3)) a.1 a.2.1 a.2.2.1 a.2.2.2) (s_pdqsort_F (fun p0 p1 p2 p3 => g (p0, p1, p2, p3)) a.1 a.2.1 a.2.2.1 a.2.2.2)
 have k4 : ∀ x4 x5 x7 x8 x46 x60 xs66 x71, Lo (s_pdqsort_k4 (fun p0 p1 p2 p3 => f (p0, p1, p2, p3)) x4 x5 x7 x8 x46 x60 xs66 x71) (s_pdqsort_k4 (fun p0 p1 p2 p3 => g (p0, p1, p2, p3)) x4 x5 x7 x8 x46 x60 xs66 x71) := by
  intro x4 x5 x7 x8 x46 x60 xs66 x71
  unfold s_pdqsort_k4
  exact .ite (.refl _) (.bindK fun x => .bindK fun x => .ite (.bind (fun r h => hfg _ r h) fun _ => .refl _) (.bind (fun r h => hfg _ r h) fun _ => .refl _))
 have k3 : ∀ x4 x5 x7 x8 x46 x60 xs66, Lo (s_pdqsort_k3 (fun p0 p1 p2 p3 => f (p0, p1, p2, p3)) x4 x5 x7 x8 x46 x60 xs66) (s_pdqsort_k3 (fun p0 p1 p2 p3 => g (p0, p1, p2, p3)) x4 x5 x7 x8 x46 x60 xs66) := by
  intro x4 x5 x7 x8 x46 x60 xs66
  unfold s_pdqsort_k3
  exact .ite (.bindK fun x => .bindK fun x => .bindK fun x => k4 _ _ _ _ _ _ _ _) (k4 _ _ _ _ _ _ _ _)
 have k2 : ∀ x4 x5 x7 x8 x46 xs59 x60 x61, Lo (s_pdqsort_k2 (fun p0 p1 p2 p3 => f (p0, p1, p2, p3)) x4 x5 x7 x8 x46 xs59 x60 x61) (s_pdqsort_k2 (fun p0 p1 p2 p3 => g (p0, p1, p2, p3)) x4 x5 x7 x8 x46 xs59 x60 x61) := by
  intro x4 x5 x7 x8 x46 xs59 x60 x61
  unfold s_pdqsort_k2
  exact .ite (.bindK fun x => .ite (.refl _) (k3 _ _ _ _ _ _ _)) (k3 _ _ _ _ _ _ _)
 have k1 : ∀ x4 x5 x7 x8 xs45 x46, Lo (s_pdqsort_k1 (fun p0 p1 p2 p3 => f (p0, p1, p2, p3)) x4 x5 x7 x8 xs45 x46) (s_pdqsort_k1 (fun p0 p1 p2 p3 => g (p0, p1, p2, p3)) x4 x5 x7 x8 xs45 x46) := by
  intro x4 x5 x7 x8 xs45 x46
  unfold s_pdqsort_k1
  exact .bindK fun x => .ite (.bindK fun x => k2 _ _ _ _ _ _ _ _) (k2 _ _ _ _ _ _ _ _)
 unfold s_pdqsort_F s_pdqsort_l1
 refine .loop (fun s => ?_) _
 unfold s_pdqsort_l1b
 exact .ite (.refl _) (.ite (.refl _) (.ite (.bindK fun x => k1 _ _ _ _ _ _) (k1 _ _ _ _ _ _)))
theorem qsort_it (hn : n < 25) : ∀ (f : Nat) (h : Nat → Nd) (a0 b0 : Nat) (lim : Int), Tb n h → Inj n h → a0 ≤ b0 → b0 ≤ n → Lo0 a0 b0 h → b0 - a0 < f → Ok (itF qF f (tb n h, (a0 : Int), (b0 : Int), lim)) (fun r => ∃ h', r = tb n h' ∧ Pm a0 b0 h h' ∧ Srt a0 b0 h') := by
 intro f
 induction f with
 | zero => intro h a0 b0 lim t hi hab hb hl hf; omega
 | succ f ih =>
  intro h a0 b0 lim t hinj hab hbn hl hf
  show Ok (s_pdqsort_F (fun p0 p1 p2 p3 => itF qF f (p0, p1, p2, p3)) (tb n h) a0 b0 lim) _
  unfold s_pdqsort_F s_pdqsort_l1
  refine Ok.loopM (B := fun s => s_pdqsort_l1b (fun p0 p1 p2 p3 => itF qF f (p0, p1, p2, p3)) s.1 s.2.1 s.2.2.1 s.2.2.2.1 s.2.2.2.2.1 s.2.2.2.2.2)
   (fun s => ∃ (a b : Nat) (g : Nat → Nd), s.1 = tb n g ∧ s.2.1 = (a : Int) ∧ s.2.2.1 = (b : Int) ∧ a0 ≤ a ∧ a ≤ b ∧ b ≤ b0 ∧ Pm a0 b0 h g ∧ Out a0 b0 a b g) (fun s => s.2.2.1.toNat - s.2.1.toNat) (fun s hs => ?_) ⟨a0, b0, h, rfl, rfl, rfl, Nat.le_refl _, hab, Nat.le_refl _, .refl _ _ _, fun p q h1 h2 h3 h4 => absurd ⟨h1, h3⟩ h4⟩
  obtain ⟨xs, ai, bi, l, wb, wp⟩ := s
  obtain ⟨a, b, g, e1, e2, e3, ha, hab2, hb, hp, ho⟩ := hs
  simp only at e1 e2 e3
  subst e1 e2 e3
  have hbn' : b ≤ n := by omega
  have tg := t.pm hp (by omega)
  have ig : Inj n g := hp.inj hbn hinj
  show Ok (s_pdqsort_l1b _ (tb n g) a b l wb wp) _
  unfold s_pdqsort_l1b
  generalize hm : b - a = m
  obtain rfl : b = a + m := by omega
  have w1 : w64 (((a + m : Nat) : Int) - (a : Int)) = (m : Int) := by rw [wsub (by omega) (by omega)]; omega
  rw [w1]
  have finish : ∀ g', Pm a (a + m) g g' → Srt a (a + m) g' → ∃ h', tb n g' = tb n h' ∧ Pm a0 b0 h h' ∧ Srt a0 b0 h' := fun g' hp' hs' => ⟨g', rfl, hp.trans (hp'.wide ha hb), ho.end ha hb hp' hs'⟩
  refine .ite (fun hc => ?_) (fun hc => ?_)
  ·refine (insertion_is (by omega) tg a (a + m) (by omega) hbn').bind fun r hr => ?_
   obtain ⟨g', rfl, hp', hs'⟩ := hr
   exact .map (.ret (finish g' hp' hs'))
  have hm12 : 12 < m := by have := of_decide_eq_false hc; omega
  refine .ite (fun hc => ?_) (fun hc => ?_)
  ·refine (heap_is (by omega) tg a m (by omega) hbn').bind fun r hr => ?_
   obtain ⟨g', rfl, hp', hs'⟩ := hr
   exact .map (.ret (finish g' hp' hs'))
  -- behind the breaking of patterns
  have main : ∀ (g1 : Nat → Nd) (l1 : Int), Pm a (a + m) g g1 → Ok (s_pdqsort_k1 (fun p0 p1 p2 p3 => itF qF f (p0, p1, p2, p3)) a (a + m : Nat) wb wp (tb n g1) l1) (Sum.elim (fun s' => (∃ (a b : Nat) (g : Nat → Nd), s'.1 = tb n g ∧ s'.2.1 = (a : Int) ∧ s'.2.2.1 = (b : Int) ∧ a0 ≤ a ∧ a ≤ b ∧ b ≤ b0 ∧ Pm a0 b0 h g ∧ Out a0 b0 a b g) ∧ s'.2.2.1.toNat - s'.2.1.toNat < ((tb n g, (a : Int), ((a + m : Nat) : Int), l, wb, wp) : List Nd × Int × Int × Int × Bool × Bool).2.2.1.toNat - ((tb n g, (a : Int), ((a + m : Nat) : Int), l, wb, wp) : List Nd × Int × Int × Int × Bool × Bool).2.1.toNat) (fun r => ∃ h', r = tb n h' ∧ Pm a0 b0 h h' ∧ Srt a0 b0 h')) := by
   intro g1 l1 hp1
   -- behind the choice of a pivot
   have k3 : ∀ (g2 : Nat → Nd) (p : Nat), Pm a (a + m) g g2 → a ≤ p → p < a + m → Ok (s_pdqsort_k3 (fun p0 p1 p2 p3 => itF qF f (p0, p1, p2, p3)) a (a + m : Nat) wb wp l1 p (tb n g2)) (Sum.elim (fun s' => (∃ (a b : Nat) (g : Nat → Nd), s'.1 = tb n g ∧ s'.2.1 = (a : Int) ∧ s'.2.2.1 = (b : Int) ∧ a0 ≤ a ∧ a ≤ b ∧ b ≤ b0 ∧ Pm a0 b0 h g ∧ Out a0 b0 a b g) ∧ s'.2.2.1.toNat - s'.2.1.toNat < ((tb n g, (a : Int), ((a + m : Nat) : Int), l, wb, wp) : List Nd × Int × Int × Int × Bool × Bool).2.2.1.toNat - ((tb n g, (a : Int), ((a + m : Nat) : Int), l, wb, wp) : List Nd × Int × Int × Int × Bool × Bool).2.1.toNat) (fun r => ∃ h', r = tb n h' ∧ Pm a0 b0 h h' ∧ Srt a0 b0 h')) := by
    intro g2 p hp2 hpa hpb
    have hg2 := hp.trans (hp2.wide ha hb)
    have t2 := tg.pm hp2 hbn'
    have i2 : Inj n g2 := hp2.inj hbn' ig
    have o2 := ho.pm ha hb hp2
    have l2 : Lo0 a (a + m) g2 := by
     by_cases ha0 : a = 0
     ·exact .inl ha0
     ·refine .inr fun q h1 h2 => ?_
      by_cases haa : a = a0
      ·subst haa
       rcases (hl.pm hg2 (Nat.le_refl _) (Nat.le_refl _)) with h0 | h0
       ·exact absurd h0 ha0
       ·exact h0 q h1 (by omega)
      ·have h3 := o2 (a - 1) q (by omega) (by omega) (by omega) (by omega)
       have h4 : ky (g2 (a - 1)) ≠ ky (g2 q) := fun e => by have := i2 _ _ (by omega) (by omega) e; omega
       omega
    have k4 : Ok (s_pdqsort_k4 (fun p0 p1 p2 p3 => itF qF f (p0, p1, p2, p3)) a (a + m : Nat) wb wp l1 p (tb n g2) false) (Sum.elim (fun s' => (∃ (a b : Nat) (g : Nat → Nd), s'.1 = tb n g ∧ s'.2.1 = (a : Int) ∧ s'.2.2.1 = (b : Int) ∧ a0 ≤ a ∧ a ≤ b ∧ b ≤ b0 ∧ Pm a0 b0 h g ∧ Out a0 b0 a b g) ∧ s'.2.2.1.toNat - s'.2.1.toNat < ((tb n g, (a : Int), ((a + m : Nat) : Int), l, wb, wp) : List Nd × Int × Int × Int × Bool × Bool).2.2.1.toNat - ((tb n g, (a : Int), ((a + m : Nat) : Int), l, wb, wp) : List Nd × Int × Int × Int × Bool × Bool).2.1.toNat) (fun r => ∃ h', r = tb n h' ∧ Pm a0 b0 h h' ∧ Srt a0 b0 h')) := by
     unfold s_pdqsort_k4
     rw [if_neg (by decide)]
     refine (partition_is (by omega) t2 a (a + m) p (by omega) hbn' hpa hpb).bind fun r hr => ?_
     obtain ⟨mid, flag, xs3⟩ := r
     obtain ⟨c, g3, e1, e2, hac, hcb, hp3, hsp⟩ := hr
     simp only at e1 e2
     subst e1 e2
     have t3 := t2.pm hp3 hbn'
     have i3 : Inj n g3 := hp3.inj hbn' i2
     have o3 := o2.pm ha hb hp3
     have l3 := l2.pm hp3 (Nat.le_refl _) (Nat.le_refl _)
     have hg3 := hg2.trans (hp3.wide ha hb)
     have q8 : ∃ z, quoO .i64 (w64 (((a + m : Nat) : Int) - (a : Int))) 8 = some z := ⟨_, by rw [w1]; exact quo_nat (j := 8) (by omega) (by omega)⟩
     obtain ⟨z, hz⟩ := q8
     rw [hz]
     simp only [Option.bind_some]
     refine .ite (fun hd => ?_) (fun hd => ?_)
     ·-- the left one is sorted
      refine (ih g3 a c l1 t3 i3 hac (by omega) (by
       rcases l3 with h0 | h0
       ·exact .inl h0
       ·exact .inr fun q h1 h2 => h0 q h1 (by omega)) (by omega)).bind fun r hr => ?_
      obtain ⟨g4, rfl, hp4, hs4⟩ := hr
      have o4 := o3.pm ha hb (hp4.wide (Nat.le_refl _) (show c ≤ a + m by omega))
      rw [wadd1 (by omega)]
      refine .ret ⟨⟨c + 1, a + m, g4, rfl, rfl, rfl, by omega, by omega, hb, hg3.trans (hp4.wide ha (by omega)), fun u v h1 h2 h3 h4 => ?_⟩, by show (((a + m : Nat) : Int)).toNat - ((c + 1 : Nat) : Int).toNat < (((a + m : Nat) : Int)).toNat - (a : Int).toNat; omega⟩
      by_cases h5 : a ≤ u ∧ v < a + m
      ·have hc4 : g4 c = g3 c := hp4.same (.inr (Nat.le_refl _))
       have left : ∀ k, a ≤ k → k < c → ky (g4 k) ≤ ky (g3 c) := fun k hk1 hk2 => hp4.all (Q := fun x => ky x ≤ ky (g3 c)) (fun k hk1 hk2 => hsp.1 k hk1 hk2) k hk1 hk2
       have right : ∀ k, c < k → k < a + m → g4 k = g3 k := fun k hk1 hk2 => hp4.same (.inr (by omega))
       by_cases hu : u < c
       ·by_cases hv : v < c
        ·exact hs4 u v h5.1 h2 hv
        ·have h6 := left u h5.1 hu
         by_cases hvc : v = c
         ·subst hvc; rw [hc4]; exact h6
         ·rw [right v (by omega) h5.2]
          exact Int.le_trans h6 (hsp.2 v (by omega) h5.2)
       ·have huc : u = c := by omega
        subst huc
        rw [hc4, right v (by omega) h5.2]
        exact hsp.2 v (by omega) h5.2
      ·exact o4 u v h1 h2 h3 h5
     ·-- the right one is sorted
      rw [wadd1 (by omega)]
      refine (ih g3 (c + 1) (a + m) l1 t3 i3 (by omega) hbn' (.inr fun q h1 h2 => by
       have h6 := hsp.2 q (by omega) h2
       have h7 : ky (g3 c) ≠ ky (g3 q) := fun e => by have := i3 _ _ (by omega) (by omega) e; omega
       show ky (g3 c) < ky (g3 q); omega) (by omega)).bind fun r hr => ?_
      obtain ⟨g4, rfl, hp4, hs4⟩ := hr
      have o4 := o3.pm ha hb (hp4.wide (show a ≤ c + 1 by omega) (Nat.le_refl _))
      refine .ret ⟨⟨a, c, g4, rfl, rfl, rfl, ha, hac, by omega, hg3.trans (hp4.wide (by omega) hb), fun u v h1 h2 h3 h4 => ?_⟩, by show ((c : Int)).toNat - ((a : Nat) : Int).toNat < (((a + m : Nat) : Int)).toNat - (a : Int).toNat; omega⟩
      by_cases h5 : a ≤ u ∧ v < a + m
      ·have same : ∀ k, k ≤ c → g4 k = g3 k := fun k hk => hp4.same (.inl (by omega))
       have right : ∀ k, c < k → k < a + m → ky (g3 c) ≤ ky (g4 k) := fun k hk1 hk2 => hp4.all (Q := fun x => ky (g3 c) ≤ ky x) (fun k hk1 hk2 => hsp.2 k (by omega) hk2) k (by omega) hk2
       by_cases hu : u ≤ c
       ·rw [same u hu]
        by_cases hv : v ≤ c
        ·rw [same v hv]
         have hvc : v = c := by omega
         subst hvc
         exact hsp.1 u h5.1 h2
        ·have h6 := right v (by omega) h5.2
         by_cases huc : u = c
         ·subst huc; exact h6
         ·exact Int.le_trans (hsp.1 u h5.1 (by omega)) h6
       ·exact hs4 u v (by omega) h2 h5.2
      ·exact o4 u v h1 h2 h3 h5
    unfold s_pdqsort_k3
    refine .ite (fun hd => ?_) (fun hd => k4)
    have ha0 : 0 < a := by have := of_decide_eq_true hd; omega
    rw [wsub1 (by omega) (by omega), ix_tb (show a - 1 < n by omega), ix_tb (show p < n by omega)]
    simp only [Option.bind_some]
    rw [t2.cmp (by omega) (by omega)]
    simp only [Option.bind_some]
    rcases l2 with h0 | h0
    ·omega
    ·have := h0 p hpa hpb
     rw [show decide (ky (g2 (a - 1)) - ky (g2 p) < 0) = true from decide_eq_true (by omega)]
     exact k4
   have k2 : ∀ (g2 : Nat → Nd) (p : Nat) (hint : Int), Pm a (a + m) g g2 → a ≤ p → p < a + m → Ok (s_pdqsort_k2 (fun p0 p1 p2 p3 => itF qF f (p0, p1, p2, p3)) a (a + m : Nat) wb wp l1 (tb n g2) p hint) (Sum.elim (fun s' => (∃ (a b : Nat) (g : Nat → Nd), s'.1 = tb n g ∧ s'.2.1 = (a : Int) ∧ s'.2.2.1 = (b : Int) ∧ a0 ≤ a ∧ a ≤ b ∧ b ≤ b0 ∧ Pm a0 b0 h g ∧ Out a0 b0 a b g) ∧ s'.2.2.1.toNat - s'.2.1.toNat < ((tb n g, (a : Int), ((a + m : Nat) : Int), l, wb, wp) : List Nd × Int × Int × Int × Bool × Bool).2.2.1.toNat - ((tb n g, (a : Int), ((a + m : Nat) : Int), l, wb, wp) : List Nd × Int × Int × Int × Bool × Bool).2.1.toNat) (fun r => ∃ h', r = tb n h' ∧ Pm a0 b0 h h' ∧ Srt a0 b0 h')) := by
    intro g2 p hint hp2 hpa hpb
    unfold s_pdqsort_k2
    refine .ite (fun hd => ?_) (fun hd => k3 g2 p hp2 hpa hpb)
    refine (partial_is (by omega) (tg.pm hp2 hbn') a m (by omega) (by omega) hbn').bind fun r hr => ?_
    obtain ⟨e1, e2⟩ := hr
    refine .ite (fun hd => .map (.ret ?_)) (fun hd => by rw [e1]; exact k3 g2 p hp2 hpa hpb)
    rw [e1]
    exact finish g2 hp2 (e2 hd)
   unfold s_pdqsort_k1
   refine (pivot_is (by omega) (tg.pm hp1 hbn') a m (by omega) (by omega) hbn').bind fun r hr => ?_
   obtain ⟨p, e1, hpa, hpb⟩ := hr
   rw [e1]
   refine .ite (fun hd => ?_) (fun hd => k2 g1 p _ hp1 hpa hpb)
   refine (reverse_is (h := g1) (by omega) a m (by omega) hbn').bind fun r hr => ?_
   obtain ⟨g2, rfl, hp2⟩ := hr
   rw [wsub1 (by omega) (by omega), wsub hpa (by omega), wsub (by omega) (by omega)]
   exact k2 g2 _ 1 (hp1.trans hp2) (by omega) (by omega)
  refine .ite (fun hd => ?_) (fun hd => main g l (.refl _ _ _))
  refine (break_is (h := g) (by omega) a m (by omega) (by omega) hbn').bind fun r hr => ?_
  obtain ⟨g1, rfl, hp1⟩ := hr
  exact main g1 _ hp1
theorem Len_ok (k : Nat) (hk : k ≤ 200) : Ok (math_bits_Len (IntKind.wrap .u64 (k : Int))) (fun _ => True) := by
 have hw : IntKind.wrap .u64 (k : Int) = (k : Int) := wrap_u64 (by omega) (by omega)
 have hw8 : IntKind.wrap .u8 (k : Int) = (k : Int) := by
  unfold IntKind.wrap
  simp [IntKind.signed, IntKind.bits]
  omega
 have hs : str1.size = 256 := by decide +kernel
 have k3 : ∀ x, Ok (math_bits_Len64_k3 (k : Int) x) (fun _ => True) := by
  intro x
  unfold math_bits_Len64_k3
  rw [hw8]
  have hlt : k < str1.size := by omega
  unfold ixS
  rw [if_pos (by omega), show ((k : Int)).toNat = k from rfl, getElem?_pos str1 k hlt]
  exact .ret trivial
 rw [hw]
 unfold math_bits_Len math_bits_Len64 math_bits_Len64_k1 math_bits_Len64_k2
 rw [if_neg (by simp; omega), if_neg (by simp; omega), if_neg (by simp; omega)]
 exact (k3 0).bind fun _ _ => .ret trivial
theorem Sort_is (hn : n < 25) (t : Tb n h) (hi : Inj n h) : Ok (slices_SortFunc (tb n h)) (fun r => ∃ h', r = tb n h' ∧ Pm 0 n h h' ∧ Srt 0 n h') := by
 unfold slices_SortFunc
 rw [tb_len]
 refine (Len_ok n (by omega)).bind fun L _ => ?_
 obtain ⟨r, hr, hP⟩ := qsort_it hn (n + 1) h 0 n L t hi (Nat.zero_le _) (Nat.le_refl _) (.inl rfl) (by omega)
 exact Ok.bind (P := fun x => x = r) (.of_eq (recO_of qsort_mo hr)) (fun x hx => by subst hx; exact .ret hP)
end
end Go.Vm.GA21
