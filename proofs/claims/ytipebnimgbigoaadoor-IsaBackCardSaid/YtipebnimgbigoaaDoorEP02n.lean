/-
 Parts of words, as plain numbers.
-/
import Derived.Test.YtipebnimgbigoaaDoorEPl1
import Derived.Test.YtipebnimgbigoaaDoorEOG02
set_option linter.unusedSimpArgs false
set_option linter.unusedVariables false
namespace Go.Vm.G02
open Go
theorem u32w (x : Int) : IntKind.wrap .u32 x = x % 4294967296 := by
 unfold IntKind.wrap
 simp [IntKind.signed, IntKind.bits]
theorem u32n {x : Nat} (h : x < 4294967296) : IntKind.wrap .u32 (x : Int) = (x : Int) := by rw [u32w]; omega
theorem ofInt_nat (x : Nat) (h : x < 4294967296) : (BitVec.ofInt (IntKind.bits .u32) (x : Int)).toNat = x := by
 show (BitVec.ofInt 32 (x : Int)).toNat = x
 rw [BitVec.toNat_ofInt]
 omega
theorem and_u {a b : Nat} (ha : a < 4294967296) (hb : b < 4294967296) : andB .u32 (a : Int) (b : Int) = ((a &&& b : Nat) : Int) := by
 unfold andB
 rw [BitVec.toNat_and, ofInt_nat a ha, ofInt_nat b hb]
 exact u32n (Nat.lt_of_le_of_lt Nat.and_le_left ha)
theorem pow_le31 {n : Nat} (h : n < 32) : 2 ^ n ≤ 2147483648 := Nat.pow_le_pow_right (by decide) (show n ≤ 31 by omega)
theorem pow_pos (n : Nat) : 0 < 2 ^ n := Nat.pow_pos (by decide)
theorem mask_is {n : Nat} (h : n < 32) : word_mask (n : Int) = some ((2 ^ n - 1 : Nat) : Int) := by
 have h1 := pow_le31 h
 have h2 := pow_pos n
 unfold word_mask
 rw [if_neg (by simp; omega)]
 unfold shlO
 rw [if_pos (by omega)]
 simp only [Option.bind_some]
 have e1 : max (n : Int) 0 = (n : Int) := by omega
 rw [e1, Int.toNat_natCast, show min n (IntKind.bits .u32) = n from Nat.min_eq_left (by show n ≤ 32; omega)]
 have e2 : (1 : Int) * 2 ^ n = ((2 ^ n : Nat) : Int) := by rw [Int.one_mul]; exact (Int.natCast_pow 2 n).symm
 rw [e2]
 generalize 2 ^ n = m at h1 h2
 rw [u32n (by omega)]
 have e3 : (m : Int) - 1 = ((m - 1 : Nat) : Int) := by omega
 rw [e3, u32n (by omega)]
theorem shr_u {x a : Nat} (ha : a ≤ 32) : shrO .u32 (x : Int) (a : Int) = some ((x / 2 ^ a : Nat) : Int) := by
 unfold shrO
 rw [if_pos (by omega), Int.toNat_natCast, show min a (IntKind.bits .u32) = a from Nat.min_eq_left ha]
 have e : ((2 : Int) ^ a) = ((2 ^ a : Nat) : Int) := (Int.natCast_pow 2 a).symm
 rw [e, Int.fdiv_eq_ediv_of_nonneg _ (Int.natCast_nonneg _)]
 rfl
theorem good_w {f n : Nat} (h : f + n ≤ 32) : word_good (f : Int) (n : Int) = some true := by
 unfold word_good
 rw [w64_id (by omega) (by omega)]
 congr 1
 simp
 omega
theorem at_w {f n : Nat} (h : f + n ≤ 32) : w64 ((w64 (32 - (f : Int))) - (n : Int)) = ((32 - f - n : Nat) : Int) := by
 rw [w64_id (x := 32 - (f : Int)) (by omega) (by omega), w64_id (by omega) (by omega)]
 omega
theorem get_is (w f n : Nat) (hf : f + n ≤ 32) (hn : n < 32) (hw : w < 4294967296) : word_Get (w : Int) (f : Int) (n : Int) = some ((w / 2 ^ (32 - f - n) % 2 ^ n : Nat) : Int) := by
 unfold word_Get
 rw [good_w hf]
 simp only [Option.bind_some, Bool.not_true, Bool.false_eq_true, if_false]
 rw [at_w hf, shr_u (by omega), mask_is hn]
 simp only [Option.bind_some]
 have h1 := pow_le31 hn
 have h2 := pow_pos n
 rw [and_u (Nat.lt_of_le_of_lt (Nat.div_le_self _ _) hw) (by omega), Nat.and_two_pow_sub_one_eq_mod]
def sg (n w : Nat) : Int := if w % 2 ^ n < 2 ^ (n - 1) then ((w % 2 ^ n : Nat) : Int) else ((w % 2 ^ n : Nat) : Int) - ((2 ^ n : Nat) : Int)
theorem signed_is (w n : Nat) (hn : 1 ≤ n) (hn2 : n < 32) (hw : w < 4294967296) : word_Signed (w : Int) (n : Int) = some (sg n w) := by
 unfold word_Signed word_Signed_k1
 rw [if_neg (by simp; omega), mask_is hn2]
 simp only [Option.bind_some]
 have h1 := pow_le31 hn2
 have h2 := pow_pos n
 rw [and_u hw (by omega), Nat.and_two_pow_sub_one_eq_mod]
 have h3 : w % 2 ^ n < 2 ^ n := Nat.mod_lt _ h2
 have hp : 2 ^ n = 2 * 2 ^ (n - 1) := by
  rw [show 2 * 2 ^ (n - 1) = 2 ^ (n - 1 + 1) from by rw [Nat.pow_succ, Nat.mul_comm], Nat.sub_add_cancel hn]
 unfold sg
 rw [w64_id (x := ((w % 2 ^ n : Nat) : Int)) (by omega) (by omega), show w64 ((n : Int) - 1) = ((n - 1 : Nat) : Int) from by rw [w64_id (by omega) (by omega)]; omega]
 have e1 : shrO .i64 ((w % 2 ^ n : Nat) : Int) ((n - 1 : Nat) : Int) = some ((w % 2 ^ n / 2 ^ (n - 1) : Nat) : Int) := by
  unfold shrO
  rw [if_pos (by omega), Int.toNat_natCast, show min (n - 1) (IntKind.bits .i64) = n - 1 from Nat.min_eq_left (by show n - 1 ≤ 64; omega)]
  have e : ((2 : Int) ^ (n - 1)) = ((2 ^ (n - 1) : Nat) : Int) := (Int.natCast_pow 2 (n - 1)).symm
  rw [e, Int.fdiv_eq_ediv_of_nonneg _ (Int.natCast_nonneg _)]
  rfl
 have e2 : shlO .i64 1 (n : Int) = some ((2 ^ n : Nat) : Int) := by
  unfold shlO
  rw [if_pos (by omega), Int.toNat_natCast, show min n (IntKind.bits .i64) = n from Nat.min_eq_left (by show n ≤ 64; omega)]
  have e : (1 : Int) * 2 ^ n = ((2 ^ n : Nat) : Int) := by rw [Int.one_mul]; exact (Int.natCast_pow 2 n).symm
  rw [e]
  exact congrArg some (w64_id (by omega) (by omega))
 rw [e1, e2]
 simp only [Option.bind_some]
 generalize w % 2 ^ n = v at h3
 rw [hp] at h3 h1 h2 ⊢
 generalize 2 ^ (n - 1) = m at h3 h1 h2
 by_cases hv : v < m
 ·rw [if_pos hv, Nat.div_eq_of_lt hv, if_neg (by decide)]
 ·have hd : v / m = 1 := by
   rw [Nat.div_eq_iff (by omega)]
   omega
  rw [if_neg hv, hd, if_pos (by decide)]
  exact congrArg some (w64_id (by omega) (by omega))
theorem fits_i (x : Int) (n : Nat) (hn : 1 ≤ n) (hn2 : n < 32) : word_Fits x (n : Int) = some (decide (-((2 ^ (n - 1) : Nat) : Int) ≤ x) && decide (x < ((2 ^ (n - 1) : Nat) : Int))) := by
 unfold word_Fits
 rw [if_neg (by simp; omega), if_neg (by simp; omega), show w64 ((n : Int) - 1) = ((n - 1 : Nat) : Int) from by rw [w64_id (by omega) (by omega)]; omega]
 have h1 := pow_le31 (show n - 1 < 32 by omega)
 have h2 := pow_pos (n - 1)
 have e0 : ((2 : Int) ^ (n - 1)) = ((2 ^ (n - 1) : Nat) : Int) := (Int.natCast_pow 2 (n - 1)).symm
 have sh : ∀ y : Int, (y = 1 ∨ y = -1) → shlO .i64 y ((n - 1 : Nat) : Int) = some (y * ((2 ^ (n - 1) : Nat) : Int)) := by
  intro y hy
  unfold shlO
  rw [if_pos (by omega), Int.toNat_natCast, show min (n - 1) (IntKind.bits .i64) = n - 1 from Nat.min_eq_left (by show n - 1 ≤ 64; omega), e0]
  refine congrArg some (w64_id ?_ ?_) <;> rcases hy with rfl | rfl <;> omega
 rw [sh (-1) (.inr rfl), sh 1 (.inl rfl)]
 simp only [Option.bind_some]
 generalize 2 ^ (n - 1) = m
 have e1 : (-1 : Int) * (m : Int) = -(m : Int) := by omega
 have e2 : (1 : Int) * (m : Int) = (m : Int) := by omega
 rw [e1, e2]
 cases decide (-(m : Int) ≤ x) <;> rfl
theorem bit_is (w i : Nat) (hi : i ≤ 31) (hw : w < 4294967296) : ref01_Bit (w : Int) (i : Int) = some (decide (w / 2 ^ (31 - i) % 2 = 1)) := by
 unfold ref01_Bit ref01_Bit_l1
 refine Ok.some_of (Ok.loop (B := fun s => ref01_Bit_l1b (i : Int) s.1 s.2) (fun k s => s = (((w / 2 ^ k : Nat) : Int), ((31 - k : Nat) : Int))) (31 - i) (fun k s hk hs => ?_) (fun s hs => ?_) (by simp))
 ·subst hs
  show Ok (ref01_Bit_l1b (i : Int) ((w / 2 ^ k : Nat) : Int) ((31 - k : Nat) : Int)) _
  unfold ref01_Bit_l1b
  rw [if_pos (decide_eq_true (by omega))]
  unfold quoO
  rw [if_neg (by decide)]
  simp only [Option.bind_some]
  refine .ret ?_
  show (_, _) = (_, _)
  have h1 : w / 2 ^ k < 4294967296 := Nat.lt_of_le_of_lt (Nat.div_le_self _ _) hw
  have e1 : Int.tdiv ((w / 2 ^ k : Nat) : Int) 2 = ((w / 2 ^ k / 2 : Nat) : Int) := by rw [Int.tdiv_eq_ediv_of_nonneg (Int.natCast_nonneg _)]; rfl
  rw [e1, Nat.div_div_eq_div_mul, ← Nat.pow_succ, u32n (Nat.lt_of_le_of_lt (Nat.div_le_self _ _) hw), w64_id (by omega) (by omega)]
  congr 1
  omega
 ·subst hs
  show Ok (ref01_Bit_l1b (i : Int) ((w / 2 ^ (31 - i) : Nat) : Int) ((31 - (31 - i) : Nat) : Int)) _
  unfold ref01_Bit_l1b
  rw [if_neg (by simp; omega)]
  unfold remO
  rw [if_neg (by decide)]
  simp only [Option.bind_some]
  refine .map (.ret ?_)
  have e1 : Int.tmod ((w / 2 ^ (31 - i) : Nat) : Int) 2 = ((w / 2 ^ (31 - i) % 2 : Nat) : Int) := by rw [Int.tmod_eq_emod_of_nonneg (Int.natCast_nonneg _)]; rfl
  show decide _ = decide _
  rw [e1, decide_eq_decide]
  omega
theorem mod_next (w t k : Nat) : w / 2 ^ t % 2 ^ (k + 1) = 2 * (w / 2 ^ (t + 1) % 2 ^ k) + w / 2 ^ t % 2 := by
 rw [Nat.pow_succ 2 k, Nat.mul_comm (2 ^ k) 2, Nat.mod_mul, Nat.pow_succ 2 t, ← Nat.div_div_eq_div_mul]
 omega
theorem rgood {f n : Nat} (h : f + n ≤ 32) : ref01_Good (f : Int) (n : Int) = some true := by
 unfold ref01_Good
 rw [w64_id (by omega) (by omega)]
 congr 1
 simp
 omega
theorem rget_is (w f n : Nat) (hf : f + n ≤ 32) (hw : w < 4294967296) : ref01_Get (w : Int) (f : Int) (n : Int) = some ((w / 2 ^ (32 - f - n) % 2 ^ n : Nat) : Int) := by
 unfold ref01_Get
 rw [rgood hf]
 simp only [Option.bind_some, Bool.not_true, Bool.false_eq_true, if_false]
 unfold ref01_Get_l1
 refine Ok.some_of (Ok.loop (B := fun s => ref01_Get_l1b w f n s.1 s.2) (fun k s => s = (((w / 2 ^ (32 - f - k) % 2 ^ k : Nat) : Int), ((f + k : Nat) : Int))) n (fun k s hk hs => ?_) (fun s hs => ?_) (by simp [Nat.mod_one]))
 ·subst hs
  show Ok (ref01_Get_l1b w f n ((w / 2 ^ (32 - f - k) % 2 ^ k : Nat) : Int) ((f + k : Nat) : Int)) _
  unfold ref01_Get_l1b ref01_Get_k1
  rw [w64_id (x := (f : Int) + n) (by omega) (by omega), if_pos (decide_eq_true (by omega)), bit_is w (f + k) (by omega) hw]
  simp only [Option.bind_some]
  have e1 : 31 - (f + k) = 32 - f - (k + 1) := by omega
  have e2 : 32 - f - k = 32 - f - (k + 1) + 1 := by omega
  have hm := mod_next w (32 - f - (k + 1)) k
  have h5 : w / 2 ^ (32 - f - (k + 1)) % 2 ^ (k + 1) < 4294967296 := Nat.lt_of_le_of_lt (Nat.mod_le _ _) (Nat.lt_of_le_of_lt (Nat.div_le_self _ _) hw)
  rw [e1, e2]
  have hc : w64 (((f + k : Nat) : Int) + 1) = ((f + (k + 1) : Nat) : Int) := by rw [w64_id (by omega) (by omega)]; omega
  rw [hc]
  have key : ∀ b : Nat, b < 2 → w / 2 ^ (32 - f - (k + 1)) % 2 = b → IntKind.wrap .u32 ((IntKind.wrap .u32 (2 * ((w / 2 ^ (32 - f - (k + 1) + 1) % 2 ^ k : Nat) : Int))) + (b : Int)) = ((w / 2 ^ (32 - f - (k + 1)) % 2 ^ (k + 1) : Nat) : Int) := by
   intro b hb h6
   rw [hm, h6] at *
   rw [u32w, u32w]
   omega
  refine .ite (fun hb => .ret ?_) (fun hb => .ret ?_)
  ·show (_, _) = (_, _)
   rw [show (1 : Int) = ((1 : Nat) : Int) from rfl, key 1 (by omega) (of_decide_eq_true hb)]
  ·show (_, _) = (_, _)
   have hz : w / 2 ^ (32 - f - (k + 1)) % 2 = 0 := by have := of_decide_eq_false hb; omega
   have := key 0 (by omega) hz
   rw [← this]
   congr 1
   rw [u32w, u32w]
   omega
 ·subst hs
  show Ok (ref01_Get_l1b w f n _ ((f + n : Nat) : Int)) _
  unfold ref01_Get_l1b
  rw [w64_id (x := (f : Int) + n) (by omega) (by omega), if_neg (by simp)]
  exact .map (.ret rfl)
theorem rsigned_is (w n : Nat) (hn : 1 ≤ n) (hn2 : n < 32) (hw : w < 4294967296) : ref01_Signed (w : Int) (n : Int) = some (sg n w) := by
 unfold ref01_Signed
 rw [if_neg (by simp; omega)]
 unfold ref01_Signed_l1
 have w1 : w64 (32 - (n : Int)) = ((32 - n : Nat) : Int) := by rw [w64_id (by omega) (by omega)]; omega
 rw [w1]
 refine Ok.some_of (Ok.loop (B := fun s => ref01_Signed_l1b w n s.1 s.2) (fun k s => s.2 = ((32 - n + k : Nat) : Int) ∧ s.1 = if k = 0 then 0 else sg k (w / 2 ^ (n - k))) n (fun k s hk hs => ?_) (fun s hs => ?_) ⟨rfl, rfl⟩)
 ·obtain ⟨v, i⟩ := s
  obtain ⟨h1, h2⟩ := hs
  simp only at h1 h2
  subst h1
  show Ok (ref01_Signed_l1b w n v ((32 - n + k : Nat) : Int)) _
  unfold ref01_Signed_l1b ref01_Signed_k1
  rw [if_pos (decide_eq_true (by omega)), bit_is w (32 - n + k) (by omega) hw, w1]
  simp only [Option.bind_some]
  have e1 : 31 - (32 - n + k) = n - (k + 1) := by omega
  rw [e1]
  have hc : w64 (((32 - n + k : Nat) : Int) + 1) = ((32 - n + (k + 1) : Nat) : Int) := by rw [w64_id (by omega) (by omega)]; omega
  rw [hc]
  have hb2 : w / 2 ^ (n - (k + 1)) % 2 < 2 := Nat.mod_lt _ (by omega)
  by_cases hk0 : k = 0
  ·subst hk0
   rw [if_pos rfl] at h2
   subst h2
   have hsg : sg (0 + 1) (w / 2 ^ (n - (0 + 1))) = if w / 2 ^ (n - (0 + 1)) % 2 = 1 then -1 else 0 := by
    unfold sg
    simp only [Nat.zero_add, Nat.pow_one, Nat.sub_self, Nat.pow_zero]
    rw [Nat.zero_add] at hb2
    generalize w / 2 ^ (n - 1) % 2 = b at hb2
    by_cases hb : b = 1
    ·subst hb; decide
    ·have : b = 0 := by omega
     subst this; decide
   refine .ite (fun hb => ?_) (fun hb => .ret ⟨rfl, ?_⟩)
   ·rw [if_pos (decide_eq_true (by omega))]
    refine .ret ⟨rfl, ?_⟩
    show _ = if 0 + 1 = 0 then _ else _
    rw [if_neg (by omega), hsg, if_pos (of_decide_eq_true hb)]
    show w64 (w64 (2 * 0) - 1) = -1
    decide
   ·show _ = if 0 + 1 = 0 then _ else _
    rw [if_neg (by omega), hsg, if_neg (of_decide_eq_false hb)]
    show w64 (2 * 0) = 0
    decide
  ·rw [if_neg hk0] at h2
   subst h2
   have e2 : n - k = n - (k + 1) + 1 := by omega
   have hm := mod_next w (n - (k + 1)) k
   have hp : 2 ^ (k + 1) = 2 * 2 ^ k := by rw [Nat.pow_succ, Nat.mul_comm]
   have hp2 : 2 ^ k = 2 * 2 ^ (k - 1) := by
    rw [show 2 * 2 ^ (k - 1) = 2 ^ (k - 1 + 1) from by rw [Nat.pow_succ, Nat.mul_comm], Nat.sub_add_cancel (by omega)]
   have h31 := pow_le31 (show k < 32 by omega)
   have hs : ∀ b : Nat, w / 2 ^ (n - (k + 1)) % 2 = b → b < 2 → sg (k + 1) (w / 2 ^ (n - (k + 1))) = 2 * sg k (w / 2 ^ (n - k)) + (b : Int) := by
    intro b hb hb3
    unfold sg
    rw [hm, hb, e2, show k + 1 - 1 = k from rfl, hp]
    generalize w / 2 ^ (n - (k + 1) + 1) % 2 ^ k = u
    rw [hp2]
    generalize 2 ^ (k - 1) = m
    by_cases hu : u < m
    ·rw [if_pos hu, if_pos (by omega)]; omega
    ·rw [if_neg hu, if_neg (by omega)]; omega
   have hbd : -2147483648 ≤ sg k (w / 2 ^ (n - k)) ∧ sg k (w / 2 ^ (n - k)) ≤ 2147483648 := by
    unfold sg
    have : w / 2 ^ (n - k) % 2 ^ k < 2 ^ k := Nat.mod_lt _ (pow_pos k)
    split <;> omega
   have w2 : w64 (2 * sg k (w / 2 ^ (n - k))) = 2 * sg k (w / 2 ^ (n - k)) := w64_id (by omega) (by omega)
   rw [w2]
   refine .ite (fun hb => ?_) (fun hb => .ret ⟨rfl, ?_⟩)
   ·rw [if_neg (by simp; omega)]
    refine .ret ⟨rfl, ?_⟩
    show _ = if k + 1 = 0 then _ else _
    rw [if_neg (by omega), hs 1 (of_decide_eq_true hb) (by omega), w64_id (by omega) (by omega)]
    rfl
   ·show _ = if k + 1 = 0 then _ else _
    have hz : w / 2 ^ (n - (k + 1)) % 2 = 0 := by have := of_decide_eq_false hb; omega
    rw [if_neg (by omega), hs 0 hz (by omega)]
    omega
 ·obtain ⟨v, i⟩ := s
  obtain ⟨h1, h2⟩ := hs
  simp only at h1 h2
  subst h1
  show Ok (ref01_Signed_l1b w n v ((32 - n + n : Nat) : Int)) _
  unfold ref01_Signed_l1b
  rw [if_neg (by simp; omega)]
  refine .map (.ret ?_)
  rw [if_neg (by omega), Nat.sub_self, Nat.pow_zero, Nat.div_one] at h2
  exact h2
theorem rfits_i (x : Int) (n : Nat) (hn : 1 ≤ n) (hn2 : n < 32) : ref01_Fits x (n : Int) = some (decide (-((2 ^ (n - 1) : Nat) : Int) ≤ x) && decide (x < ((2 ^ (n - 1) : Nat) : Int))) := by
 unfold ref01_Fits
 rw [if_neg (by simp; omega), if_neg (by simp; omega)]
 unfold ref01_Fits_l1
 refine Ok.some_of (Ok.loop (B := fun s => ref01_Fits_l1b x n s.1 s.2.1 s.2.2) (fun k s => s = (-((2 ^ k : Nat) : Int), ((2 ^ k : Nat) : Int) - 1, ((1 + k : Nat) : Int))) (n - 1) (fun k s hk hs => ?_) (fun s hs => ?_) (by simp))
 ·subst hs
  show Ok (ref01_Fits_l1b x n (-((2 ^ k : Nat) : Int)) (((2 ^ k : Nat) : Int) - 1) ((1 + k : Nat) : Int)) _
  unfold ref01_Fits_l1b
  rw [if_pos (decide_eq_true (by omega))]
  have h1 := pow_le31 (show k < 32 by omega)
  have hp : 2 ^ (k + 1) = 2 * 2 ^ k := by rw [Nat.pow_succ, Nat.mul_comm]
  refine .ret ?_
  show (_, _, _) = (_, _, _)
  rw [hp]
  generalize 2 ^ k = m at h1
  rw [w64_id (x := 2 * -(m : Int)) (by omega) (by omega), w64_id (x := 2 * ((m : Int) - 1)) (by omega) (by omega), w64_id (by omega) (by omega), w64_id (by omega) (by omega)]
  congr 1
  ·omega
  ·congr 1
   ·omega
 ·subst hs
  show Ok (ref01_Fits_l1b x n _ _ ((1 + (n - 1) : Nat) : Int)) _
  unfold ref01_Fits_l1b
  rw [if_neg (by simp; omega)]
  refine .map (.ret ?_)
  congr 1
  rw [decide_eq_decide]
  generalize 2 ^ (n - 1) = m
  show _ ≤ (m : Int) - 1 ↔ _
  omega
end Go.Vm.G02
