/-
 A field put into a word that holds nothing there.
-/
import Derived.Test.YtipebnimgbigoaaDoorEP02n
set_option linter.unusedSimpArgs false
set_option linter.unusedVariables false
namespace Go.Vm.G02
open Go
theorem or_add (w y t n : Nat) (hw : w / 2 ^ t % 2 ^ n = 0) (hy : y < 2 ^ n) : w ||| y * 2 ^ t = w + y * 2 ^ t := by
 have h1 : w = 2 ^ t * (w / 2 ^ t) + w % 2 ^ t := (Nat.div_add_mod w (2 ^ t)).symm
 have h2 : w / 2 ^ t = 2 ^ n * (w / 2 ^ t / 2 ^ n) := by
  have := Nat.div_add_mod (w / 2 ^ t) (2 ^ n)
  omega
 have hl : w % 2 ^ t < 2 ^ t := Nat.mod_lt _ (pow_pos t)
 generalize w % 2 ^ t = lo at h1 hl
 generalize w / 2 ^ t / 2 ^ n = hi at h2
 rw [h2] at h1
 clear h2 hw
 subst h1
 have e1 : 2 ^ t * (2 ^ n * hi) + lo + y * 2 ^ t = 2 ^ t * (2 ^ n * hi + y) + lo := by
  rw [Nat.mul_add, Nat.mul_comm y]; omega
 rw [e1, Nat.two_pow_add_eq_or_of_lt hl, Nat.two_pow_add_eq_or_of_lt hl, Nat.two_pow_add_eq_or_of_lt hy]
 have e2 : 2 ^ t * (2 ^ n * hi ||| y) = (2 ^ t * (2 ^ n * hi)) ||| (2 ^ t * y) := by
  have : (2 ^ n * hi ||| y) <<< t = (2 ^ n * hi) <<< t ||| y <<< t := Nat.shiftLeft_or_distrib
  simp only [Nat.shiftLeft_eq, Nat.mul_comm _ (2 ^ t)] at this
  first | exact this | exact this.symm
 rw [e2, Nat.or_assoc, Nat.or_assoc, Nat.mul_comm y, Nat.or_comm lo]
theorem test_field (w t n i : Nat) (hw : w / 2 ^ t % 2 ^ n = 0) (h1 : t ≤ i) (h2 : i < t + n) : w.testBit i = false := by
 have h := Nat.testBit_mod_two_pow (w / 2 ^ t) n (i - t)
 rw [hw, Nat.zero_testBit, Nat.testBit_div_two_pow, decide_eq_true (by omega), Bool.true_and, Nat.sub_add_cancel h1] at h
 exact h.symm
theorem andNot_id (w t n : Nat) (hw : w / 2 ^ t % 2 ^ n = 0) (hw2 : w < 4294967296) (htn : t + n ≤ 32) : andNotB .u32 (w : Int) (((2 ^ n - 1) * 2 ^ t : Nat) : Int) = (w : Int) := by
 unfold andNotB
 have hb : (2 ^ n - 1) * 2 ^ t < 4294967296 := by
  have : (2 ^ n - 1) * 2 ^ t < 2 ^ n * 2 ^ t := Nat.mul_lt_mul_of_pos_right (by have := pow_pos n; omega) (pow_pos t)
  rw [← Nat.pow_add] at this
  exact Nat.lt_of_lt_of_le this (Nat.pow_le_pow_right (by decide) (show n + t ≤ 32 by omega))
 have e : BitVec.ofInt (IntKind.bits .u32) (w : Int) &&& ~~~ BitVec.ofInt (IntKind.bits .u32) (((2 ^ n - 1) * 2 ^ t : Nat) : Int) = BitVec.ofInt (IntKind.bits .u32) (w : Int) := by
  apply BitVec.eq_of_getLsbD_eq
  intro i hi
  rw [BitVec.getLsbD_and, BitVec.getLsbD_not]
  show ((BitVec.ofInt (IntKind.bits .u32) (w : Int)).toNat.testBit i && (decide _ && !((BitVec.ofInt (IntKind.bits .u32) (((2 ^ n - 1) * 2 ^ t : Nat) : Int)).toNat.testBit i))) = (BitVec.ofInt (IntKind.bits .u32) (w : Int)).toNat.testBit i
  rw [ofInt_nat w hw2, ofInt_nat _ hb, decide_eq_true hi, Bool.true_and, ← Nat.shiftLeft_eq, Nat.testBit_shiftLeft, Nat.testBit_two_pow_sub_one]
  by_cases h : t ≤ i ∧ i < t + n
  ·rw [test_field w t n i hw h.1 h.2]; rfl
  ·have : (decide (i ≥ t) && decide (i - t < n)) = false := by
    simp only [Bool.and_eq_false_iff, decide_eq_false_iff_not]
    omega
   rw [this]; simp
 rw [e, ofInt_nat w hw2]
 exact u32n hw2
theorem or_u {a b : Nat} (ha : a < 4294967296) (hb : b < 4294967296) : orB .u32 (a : Int) (b : Int) = ((a ||| b : Nat) : Int) := by
 unfold orB
 rw [BitVec.toNat_or, ofInt_nat a ha, ofInt_nat b hb]
 exact u32n (Nat.or_lt_two_pow (n := 32) ha hb)
theorem shl_u {x a : Nat} (ha : a ≤ 32) (h : x * 2 ^ a < 4294967296) : shlO .u32 (x : Int) (a : Int) = some ((x * 2 ^ a : Nat) : Int) := by
 unfold shlO
 rw [if_pos (by omega), Int.toNat_natCast, show min a (IntKind.bits .u32) = a from Nat.min_eq_left ha]
 have e : (x : Int) * 2 ^ a = ((x * 2 ^ a : Nat) : Int) := by rw [Int.natCast_mul, Int.natCast_pow]; rfl
 rw [e, u32n h]
theorem put_is (w f n x : Nat) (hf : f + n ≤ 32) (hn : n < 32) (hw : w < 4294967296) (h0 : w / 2 ^ (32 - f - n) % 2 ^ n = 0) (hx : x < 2 ^ n) :
  word_Put (w : Int) (f : Int) (n : Int) (x : Int) = some ((w + x * 2 ^ (32 - f - n) : Nat) : Int) := by
 unfold word_Put
 have h1 := pow_le31 hn
 have h2 := pow_pos n
 have hb : ∀ y : Nat, y < 2 ^ n → y * 2 ^ (32 - f - n) < 4294967296 := by
  intro y hy
  have : y * 2 ^ (32 - f - n) < 2 ^ n * 2 ^ (32 - f - n) := Nat.mul_lt_mul_of_pos_right hy (pow_pos _)
  rw [← Nat.pow_add] at this
  exact Nat.lt_of_lt_of_le this (Nat.pow_le_pow_right (by decide) (show n + (32 - f - n) ≤ 32 by omega))
 rw [good_w hf]
 simp only [Option.bind_some, Bool.not_true, Bool.false_eq_true, if_false]
 rw [at_w hf, mask_is hn]
 simp only [Option.bind_some]
 rw [shl_u (by omega) (hb _ (by omega)), and_u (Nat.lt_of_lt_of_le hx (by omega)) (by omega), Nat.and_two_pow_sub_one_eq_mod, Nat.mod_eq_of_lt hx]
 simp only [Option.bind_some]
 rw [shl_u (by omega) (hb _ hx)]
 simp only [Option.bind_some]
 rw [andNot_id w (32 - f - n) n h0 hw (by omega), or_u hw (hb _ hx), or_add w x _ n h0 hx]
theorem bits_is (x : Int) (n : Nat) (hn : n < 32) : word_Bits x (n : Int) = some (((x % ((2 ^ n : Nat) : Int)).toNat : Nat) : Int) := by
 unfold word_Bits
 rw [mask_is hn]
 simp only [Option.bind_some]
 have h1 := pow_le31 hn
 have h2 := pow_pos n
 have e1 : IntKind.wrap .u32 x = ((x % 4294967296).toNat : Int) := by rw [u32w]; omega
 rw [e1, and_u (by omega) (by omega), Nat.and_two_pow_sub_one_eq_mod]
 congr 1
 have e2 : (4294967296 : Int) = ((2 ^ n : Nat) : Int) * ((2 ^ (32 - n) : Nat) : Int) := by
  rw [← Int.natCast_mul, ← Nat.pow_add, Nat.add_sub_cancel' (by omega : n ≤ 32)]
  rfl
 have e3 : x % 4294967296 % ((2 ^ n : Nat) : Int) = x % ((2 ^ n : Nat) : Int) := by
  rw [e2]
  exact Int.emod_emod_of_dvd x (Int.dvd_mul_right _ _)
 have p1 : 0 ≤ x % 4294967296 := Int.emod_nonneg _ (by decide)
 have p2 : 0 ≤ x % ((2 ^ n : Nat) : Int) := Int.emod_nonneg _ (by omega)
 rw [Int.toNat_of_nonneg p2, ← e3, Int.natCast_emod, Int.toNat_of_nonneg p1]
end Go.Vm.G02
