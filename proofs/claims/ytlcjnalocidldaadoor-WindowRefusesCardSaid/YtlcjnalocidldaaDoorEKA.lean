/-
 Plain laws, one behind the other.
-/
import Derived.Test.YtlcjnalocidldaaDoorEPl1
import Derived.Test.YtlcjnalocidldaaDoorEOK17
set_option linter.unusedSimpArgs false
set_option linter.unusedVariables false
namespace Go.Vm.K17
open Go
section
theorem u32w (x : Int) : IntKind.wrap .u32 x = x % 4294967296 := by
 unfold IntKind.wrap
 simp [IntKind.signed, IntKind.bits]
theorem u32n {x : Nat} (h : x < 4294967296) : IntKind.wrap .u32 (x : Int) = (x : Int) := by rw [u32w]; omega
theorem ofInt_nat (x : Nat) (h : x < 4294967296) : (BitVec.ofInt (IntKind.bits .u32) (x : Int)).toNat = x := by
 show (BitVec.ofInt 32 (x : Int)).toNat = x
 rw [BitVec.toNat_ofInt]
 omega
theorem and_u {a b : Nat} (ha : a < 4294967296) (hb : b < 4294967296) : andB .u32 (a : Int) (b : Int) = ((a &&& b : Nat) : Int) := by
 unfold andB
 rw [BitVec.toNat_and, ofInt_nat a ha, ofInt_nat b hb]
 exact u32n (Nat.lt_of_le_of_lt Nat.and_le_left ha)
theorem pow_le31 {n : Nat} (h : n < 32) : 2 ^ n ≤ 2147483648 := Nat.pow_le_pow_right (by decide) (show n ≤ 31 by omega)
theorem pow_pos (n : Nat) : 0 < 2 ^ n := Nat.pow_pos (by decide)
theorem mask_is {n : Nat} (h : n < 32) : word_mask (n : Int) = some ((2 ^ n - 1 : Nat) : Int) := by
 have h1 := pow_le31 h
 have h2 := pow_pos n
 unfold word_mask
 rw [if_neg (by simp; omega)]
 unfold shlO
 rw [if_pos (by omega)]
 simp only [Option.bind_some]
 have e1 : max (n : Int) 0 = (n : Int) := by omega
 rw [e1, Int.toNat_natCast, show min n (IntKind.bits .u32) = n from Nat.min_eq_left (by show n ≤ 32; omega)]
 have e2 : (1 : Int) * 2 ^ n = ((2 ^ n : Nat) : Int) := by rw [Int.one_mul]; exact (Int.natCast_pow 2 n).symm
 rw [e2]
 generalize 2 ^ n = m at h1 h2
 rw [u32n (by omega)]
 have e3 : (m : Int) - 1 = ((m - 1 : Nat) : Int) := by omega
 rw [e3, u32n (by omega)]
theorem shr_u {x a : Nat} (ha : a ≤ 32) : shrO .u32 (x : Int) (a : Int) = some ((x / 2 ^ a : Nat) : Int) := by
 unfold shrO
 rw [if_pos (by omega), Int.toNat_natCast, show min a (IntKind.bits .u32) = a from Nat.min_eq_left ha]
 have e : ((2 : Int) ^ a) = ((2 ^ a : Nat) : Int) := (Int.natCast_pow 2 a).symm
 rw [e, Int.fdiv_eq_ediv_of_nonneg _ (Int.natCast_nonneg _)]
 rfl
theorem good_w {f n : Nat} (h : f + n ≤ 32) : word_good (f : Int) (n : Int) = some true := by
 unfold word_good
 rw [w64_id (by omega) (by omega)]
 congr 1
 simp
 omega
theorem at_w {f n : Nat} (h : f + n ≤ 32) : w64 ((w64 (32 - (f : Int))) - (n : Int)) = ((32 - f - n : Nat) : Int) := by
 rw [w64_id (x := 32 - (f : Int)) (by omega) (by omega), w64_id (by omega) (by omega)]
 omega
theorem get_is (w f n : Nat) (hf : f + n ≤ 32) (hn : n < 32) (hw : w < 4294967296) : word_Get (w : Int) (f : Int) (n : Int) = some ((w / 2 ^ (32 - f - n) % 2 ^ n : Nat) : Int) := by
 unfold word_Get
 rw [good_w hf]
 simp only [Option.bind_some, Bool.not_true, Bool.false_eq_true, if_false]
 rw [at_w hf, shr_u (by omega), mask_is hn]
 simp only [Option.bind_some]
 have h1 := pow_le31 hn
 have h2 := pow_pos n
 rw [and_u (Nat.lt_of_le_of_lt (Nat.div_le_self _ _) hw) (by omega), Nat.and_two_pow_sub_one_eq_mod]
def sg (n w : Nat) : Int := if w % 2 ^ n < 2 ^ (n - 1) then ((w % 2 ^ n : Nat) : Int) else ((w % 2 ^ n : Nat) : Int) - ((2 ^ n : Nat) : Int)
theorem signed_is (w n : Nat) (hn : 1 ≤ n) (hn2 : n < 32) (hw : w < 4294967296) : word_Signed (w : Int) (n : Int) = some (sg n w) := by
 unfold word_Signed word_Signed_k1
 rw [if_neg (by simp; omega), mask_is hn2]
 simp only [Option.bind_some]
 have h1 := pow_le31 hn2
 have h2 := pow_pos n
 rw [and_u hw (by omega), Nat.and_two_pow_sub_one_eq_mod]
 have h3 : w % 2 ^ n < 2 ^ n := Nat.mod_lt _ h2
 have hp : 2 ^ n = 2 * 2 ^ (n - 1) := by
  rw [show 2 * 2 ^ (n - 1) = 2 ^ (n - 1 + 1) from by rw [Nat.pow_succ, Nat.mul_comm], Nat.sub_add_cancel hn]
 unfold sg
 rw [w64_id (x := ((w % 2 ^ n : Nat) : Int)) (by omega) (by omega), show w64 ((n : Int) - 1) = ((n - 1 : Nat) : Int) from by rw [w64_id (by omega) (by omega)]; omega]
 have e1 : shrO .i64 ((w % 2 ^ n : Nat) : Int) ((n - 1 : Nat) : Int) = some ((w % 2 ^ n / 2 ^ (n - 1) : Nat) : Int) := by
  unfold shrO
  rw [if_pos (by omega), Int.toNat_natCast, show min (n - 1) (IntKind.bits .i64) = n - 1 from Nat.min_eq_left (by show n - 1 ≤ 64; omega)]
  have e : ((2 : Int) ^ (n - 1)) = ((2 ^ (n - 1) : Nat) : Int) := (Int.natCast_pow 2 (n - 1)).symm
  rw [e, Int.fdiv_eq_ediv_of_nonneg _ (Int.natCast_nonneg _)]
  rfl
 have e2 : shlO .i64 1 (n : Int) = some ((2 ^ n : Nat) : Int) := by
  unfold shlO
  rw [if_pos (by omega), Int.toNat_natCast, show min n (IntKind.bits .i64) = n from Nat.min_eq_left (by show n ≤ 64; omega)]
  have e : (1 : Int) * 2 ^ n = ((2 ^ n : Nat) : Int) := by rw [Int.one_mul]; exact (Int.natCast_pow 2 n).symm
  rw [e]
  exact congrArg some (w64_id (by omega) (by omega))
 rw [e1, e2]
 simp only [Option.bind_some]
 generalize w % 2 ^ n = v at h3
 rw [hp] at h3 h1 h2 ⊢
 generalize 2 ^ (n - 1) = m at h3 h1 h2
 by_cases hv : v < m
 ·rw [if_pos hv, Nat.div_eq_of_lt hv, if_neg (by decide)]
 ·have hd : v / m = 1 := by
   rw [Nat.div_eq_iff (by omega)]
   omega
  rw [if_neg hv, hd, if_pos (by decide)]
  exact congrArg some (w64_id (by omega) (by omega))
theorem fits_i (x : Int) (n : Nat) (hn : 1 ≤ n) (hn2 : n < 32) : word_Fits x (n : Int) = some (decide (-((2 ^ (n - 1) : Nat) : Int) ≤ x) && decide (x < ((2 ^ (n - 1) : Nat) : Int))) := by
 unfold word_Fits
 rw [if_neg (by simp; omega), if_neg (by simp; omega), show w64 ((n : Int) - 1) = ((n - 1 : Nat) : Int) from by rw [w64_id (by omega) (by omega)]; omega]
 have h1 := pow_le31 (show n - 1 < 32 by omega)
 have h2 := pow_pos (n - 1)
 have e0 : ((2 : Int) ^ (n - 1)) = ((2 ^ (n - 1) : Nat) : Int) := (Int.natCast_pow 2 (n - 1)).symm
 have sh : ∀ y : Int, (y = 1 ∨ y = -1) → shlO .i64 y ((n - 1 : Nat) : Int) = some (y * ((2 ^ (n - 1) : Nat) : Int)) := by
  intro y hy
  unfold shlO
  rw [if_pos (by omega), Int.toNat_natCast, show min (n - 1) (IntKind.bits .i64) = n - 1 from Nat.min_eq_left (by show n - 1 ≤ 64; omega), e0]
  refine congrArg some (w64_id ?_ ?_) <;> rcases hy with rfl | rfl <;> omega
 rw [sh (-1) (.inr rfl), sh 1 (.inl rfl)]
 simp only [Option.bind_some]
 generalize 2 ^ (n - 1) = m
 have e1 : (-1 : Int) * (m : Int) = -(m : Int) := by omega
 have e2 : (1 : Int) * (m : Int) = (m : Int) := by omega
 rw [e1, e2]
 cases decide (-(m : Int) ≤ x) <;> rfl
theorem bit_is (w i : Nat) (hi : i ≤ 31) (hw : w < 4294967296) : ref01_Bit (w : Int) (i : Int) = some (decide (w / 2 ^ (31 - i) % 2 = 1)) := by
 unfold ref01_Bit ref01_Bit_l1
 refine Ok.some_of (Ok.loop (B := fun s => ref01_Bit_l1b (i : Int) s.1 s.2) (fun k s => s = (((w / 2 ^ k : Nat) : Int), ((31 - k : Nat) : Int))) (31 - i) (fun k s hk hs => ?_) (fun s hs => ?_) (by simp))
 ·subst hs
  show Ok (ref01_Bit_l1b (i : Int) ((w / 2 ^ k : Nat) : Int) ((31 - k : Nat) : Int)) _
  unfold ref01_Bit_l1b
  rw [if_pos (decide_eq_true (by omega))]
  unfold quoO
  rw [if_neg (by decide)]
  simp only [Option.bind_some]
  refine .ret ?_
  show (_, _) = (_, _)
  have h1 : w / 2 ^ k < 4294967296 := Nat.lt_of_le_of_lt (Nat.div_le_self _ _) hw
  have e1 : Int.tdiv ((w / 2 ^ k : Nat) : Int) 2 = ((w / 2 ^ k / 2 : Nat) : Int) := by rw [Int.tdiv_eq_ediv_of_nonneg (Int.natCast_nonneg _)]; rfl
  rw [e1, Nat.div_div_eq_div_mul, ← Nat.pow_succ, u32n (Nat.lt_of_le_of_lt (Nat.div_le_self _ _) hw), w64_id (by omega) (by omega)]
  congr 1
  omega
 ·subst hs
  show Ok (ref01_Bit_l1b (i : Int) ((w / 2 ^ (31 - i) : Nat) : Int) ((31 - (31 - i) : Nat) : Int)) _
  unfold ref01_Bit_l1b
  rw [if_neg (by simp; omega)]
  unfold remO
  rw [if_neg (by decide)]
  simp only [Option.bind_some]
  refine .map (.ret ?_)
  have e1 : Int.tmod ((w / 2 ^ (31 - i) : Nat) : Int) 2 = ((w / 2 ^ (31 - i) % 2 : Nat) : Int) := by rw [Int.tmod_eq_emod_of_nonneg (Int.natCast_nonneg _)]; rfl
  show decide _ = decide _
  rw [e1, decide_eq_decide]
  omega
theorem mod_next (w t k : Nat) : w / 2 ^ t % 2 ^ (k + 1) = 2 * (w / 2 ^ (t + 1) % 2 ^ k) + w / 2 ^ t % 2 := by
 rw [Nat.pow_succ 2 k, Nat.mul_comm (2 ^ k) 2, Nat.mod_mul, Nat.pow_succ 2 t, ← Nat.div_div_eq_div_mul]
 omega
theorem rgood {f n : Nat} (h : f + n ≤ 32) : ref01_Good (f : Int) (n : Int) = some true := by
 unfold ref01_Good
 rw [w64_id (by omega) (by omega)]
 congr 1
 simp
 omega
theorem rget_is (w f n : Nat) (hf : f + n ≤ 32) (hw : w < 4294967296) : ref01_Get (w : Int) (f : Int) (n : Int) = some ((w / 2 ^ (32 - f - n) % 2 ^ n : Nat) : Int) := by
 unfold ref01_Get
 rw [rgood hf]
 simp only [Option.bind_some, Bool.not_true, Bool.false_eq_true, if_false]
 unfold ref01_Get_l1
 refine Ok.some_of (Ok.loop (B := fun s => ref01_Get_l1b w f n s.1 s.2) (fun k s => s = (((w / 2 ^ (32 - f - k) % 2 ^ k : Nat) : Int), ((f + k : Nat) : Int))) n (fun k s hk hs => ?_) (fun s hs => ?_) (by simp [Nat.mod_one]))
 ·subst hs
  show Ok (ref01_Get_l1b w f n ((w / 2 ^ (32 - f - k) % 2 ^ k : Nat) : Int) ((f + k : Nat) : Int)) _
  unfold ref01_Get_l1b ref01_Get_k1
  rw [w64_id (x := (f : Int) + n) (by omega) (by omega), if_pos (decide_eq_true (by omega)), bit_is w (f + k) (by omega) hw]
  simp only [Option.bind_some]
  have e1 : 31 - (f + k) = 32 - f - (k + 1) := by omega
  have e2 : 32 - f - k = 32 - f - (k + 1) + 1 := by omega
  have hm := mod_next w (32 - f - (k + 1)) k
  have h5 : w / 2 ^ (32 - f - (k + 1)) % 2 ^ (k + 1) < 4294967296 := Nat.lt_of_le_of_lt (Nat.mod_le _ _) (Nat.lt_of_le_of_lt (Nat.div_le_self _ _) hw)
  rw [e1, e2]
  have hc : w64 (((f + k : Nat) : Int) + 1) = ((f + (k + 1) : Nat) : Int) := by rw [w64_id (by omega) (by omega)]; omega
  rw [hc]
  have key : ∀ b : Nat, b < 2 → w / 2 ^ (32 - f - (k + 1)) % 2 = b → IntKind.wrap .u32 ((IntKind.wrap .u32 (2 * ((w / 2 ^ (32 - f - (k + 1) + 1) % 2 ^ k : Nat) : Int))) + (b : Int)) = ((w / 2 ^ (32 - f - (k + 1)) % 2 ^ (k + 1) : Nat) : Int) := by
   intro b hb h6
   rw [hm, h6] at *
   rw [u32w, u32w]
   omega
  refine .ite (fun hb => .ret ?_) (fun hb => .ret ?_)
  ·show (_, _) = (_, _)
   rw [show (1 : Int) = ((1 : Nat) : Int) from rfl, key 1 (by omega) (of_decide_eq_true hb)]
  ·show (_, _) = (_, _)
   have hz : w / 2 ^ (32 - f - (k + 1)) % 2 = 0 := by have := of_decide_eq_false hb; omega
   have := key 0 (by omega) hz
   rw [← this]
   congr 1
   rw [u32w, u32w]
   omega
 ·subst hs
  show Ok (ref01_Get_l1b w f n _ ((f + n : Nat) : Int)) _
  unfold ref01_Get_l1b
  rw [w64_id (x := (f : Int) + n) (by omega) (by omega), if_neg (by simp)]
  exact .map (.ret rfl)
theorem rsigned_is (w n : Nat) (hn : 1 ≤ n) (hn2 : n < 32) (hw : w < 4294967296) : ref01_Signed (w : Int) (n : Int) = some (sg n w) := by
 unfold ref01_Signed
 rw [if_neg (by simp; omega)]
 unfold ref01_Signed_l1
 have w1 : w64 (32 - (n : Int)) = ((32 - n : Nat) : Int) := by rw [w64_id (by omega) (by omega)]; omega
 rw [w1]
 refine Ok.some_of (Ok.loop (B := fun s => ref01_Signed_l1b w n s.1 s.2) (fun k s => s.2 = ((32 - n + k : Nat) : Int) ∧ s.1 = if k = 0 then 0 else sg k (w / 2 ^ (n - k))) n (fun k s hk hs => ?_) (fun s hs => ?_) ⟨rfl, rfl⟩)
 ·obtain ⟨v, i⟩ := s
  obtain ⟨h1, h2⟩ := hs
  simp only at h1 h2
  subst h1
  show Ok (ref01_Signed_l1b w n v ((32 - n + k : Nat) : Int)) _
  unfold ref01_Signed_l1b ref01_Signed_k1
  rw [if_pos (decide_eq_true (by omega)), bit_is w (32 - n + k) (by omega) hw, w1]
  simp only [Option.bind_some]
  have e1 : 31 - (32 - n + k) = n - (k + 1) := by omega
  rw [e1]
  have hc : w64 (((32 - n + k : Nat) : Int) + 1) = ((32 - n + (k + 1) : Nat) : Int) := by rw [w64_id (by omega) (by omega)]; omega
  rw [hc]
  have hb2 : w / 2 ^ (n - (k + 1)) % 2 < 2 := Nat.mod_lt _ (by omega)
  by_cases hk0 : k = 0
  ·subst hk0
   rw [if_pos rfl] at h2
   subst h2
   have hsg : sg (0 + 1) (w / 2 ^ (n - (0 + 1))) = if w / 2 ^ (n - (0 + 1)) % 2 = 1 then -1 else 0 := by
    unfold sg
    simp only [Nat.zero_add, Nat.pow_one, Nat.sub_self, Nat.pow_zero]
    rw [Nat.zero_add] at hb2
    generalize w / 2 ^ (n - 1) % 2 = b at hb2
    by_cases hb : b = 1
    ·subst hb; decide
    ·have : b = 0 := by omega
     subst this; decide
   refine .ite (fun hb => ?_) (fun hb => .ret ⟨rfl, ?_⟩)
   ·rw [if_pos (decide_eq_true (by omega))]
    refine .ret ⟨rfl, ?_⟩
    show _ = if 0 + 1 = 0 then _ else _
    rw [if_neg (by omega), hsg, if_pos (of_decide_eq_true hb)]
    show w64 (w64 (2 * 0) - 1) = -1
    decide
   ·show _ = if 0 + 1 = 0 then _ else _
    rw [if_neg (by omega), hsg, if_neg (of_decide_eq_false hb)]
    show w64 (2 * 0) = 0
    decide
  ·rw [if_neg hk0] at h2
   subst h2
   have e2 : n - k = n - (k + 1) + 1 := by omega
   have hm := mod_next w (n - (k + 1)) k
   have hp : 2 ^ (k + 1) = 2 * 2 ^ k := by rw [Nat.pow_succ, Nat.mul_comm]
   have hp2 : 2 ^ k = 2 * 2 ^ (k - 1) := by
    rw [show 2 * 2 ^ (k - 1) = 2 ^ (k - 1 + 1) from by rw [Nat.pow_succ, Nat.mul_comm], Nat.sub_add_cancel (by omega)]
   have h31 := pow_le31 (show k < 32 by omega)
   have hs : ∀ b : Nat, w / 2 ^ (n - (k + 1)) % 2 = b → b < 2 → sg (k + 1) (w / 2 ^ (n - (k + 1))) = 2 * sg k (w / 2 ^ (n - k)) + (b : Int) := by
    intro b hb hb3
    unfold sg
    rw [hm, hb, e2, show k + 1 - 1 = k from rfl, hp]
    generalize w / 2 ^ (n - (k + 1) + 1) % 2 ^ k = u
    rw [hp2]
    generalize 2 ^ (k - 1) = m
    by_cases hu : u < m
    ·rw [if_pos hu, if_pos (by omega)]; omega
    ·rw [if_neg hu, if_neg (by omega)]; omega
   have hbd : -2147483648 ≤ sg k (w / 2 ^ (n - k)) ∧ sg k (w / 2 ^ (n - k)) ≤ 2147483648 := by
    unfold sg
    have : w / 2 ^ (n - k) % 2 ^ k < 2 ^ k := Nat.mod_lt _ (pow_pos k)
    split <;> omega
   have w2 : w64 (2 * sg k (w / 2 ^ (n - k))) = 2 * sg k (w / 2 ^ (n - k)) := w64_id (by omega) (by omega)
   rw [w2]
   refine .ite (fun hb => ?_) (fun hb => .ret ⟨rfl, ?_⟩)
   ·rw [if_neg (by simp; omega)]
    refine .ret ⟨rfl, ?_⟩
    show _ = if k + 1 = 0 then _ else _
    rw [if_neg (by omega), hs 1 (of_decide_eq_true hb) (by omega), w64_id (by omega) (by omega)]
    rfl
   ·show _ = if k + 1 = 0 then _ else _
    have hz : w / 2 ^ (n - (k + 1)) % 2 = 0 := by have := of_decide_eq_false hb; omega
    rw [if_neg (by omega), hs 0 hz (by omega)]
    omega
 ·obtain ⟨v, i⟩ := s
  obtain ⟨h1, h2⟩ := hs
  simp only at h1 h2
  subst h1
  show Ok (ref01_Signed_l1b w n v ((32 - n + n : Nat) : Int)) _
  unfold ref01_Signed_l1b
  rw [if_neg (by simp; omega)]
  refine .map (.ret ?_)
  rw [if_neg (by omega), Nat.sub_self, Nat.pow_zero, Nat.div_one] at h2
  exact h2
theorem rfits_i (x : Int) (n : Nat) (hn : 1 ≤ n) (hn2 : n < 32) : ref01_Fits x (n : Int) = some (decide (-((2 ^ (n - 1) : Nat) : Int) ≤ x) && decide (x < ((2 ^ (n - 1) : Nat) : Int))) := by
 unfold ref01_Fits
 rw [if_neg (by simp; omega), if_neg (by simp; omega)]
 unfold ref01_Fits_l1
 refine Ok.some_of (Ok.loop (B := fun s => ref01_Fits_l1b x n s.1 s.2.1 s.2.2) (fun k s => s = (-((2 ^ k : Nat) : Int), ((2 ^ k : Nat) : Int) - 1, ((1 + k : Nat) : Int))) (n - 1) (fun k s hk hs => ?_) (fun s hs => ?_) (by simp))
 ·subst hs
  show Ok (ref01_Fits_l1b x n (-((2 ^ k : Nat) : Int)) (((2 ^ k : Nat) : Int) - 1) ((1 + k : Nat) : Int)) _
  unfold ref01_Fits_l1b
  rw [if_pos (decide_eq_true (by omega))]
  have h1 := pow_le31 (show k < 32 by omega)
  have hp : 2 ^ (k + 1) = 2 * 2 ^ k := by rw [Nat.pow_succ, Nat.mul_comm]
  refine .ret ?_
  show (_, _, _) = (_, _, _)
  rw [hp]
  generalize 2 ^ k = m at h1
  rw [w64_id (x := 2 * -(m : Int)) (by omega) (by omega), w64_id (x := 2 * ((m : Int) - 1)) (by omega) (by omega), w64_id (by omega) (by omega), w64_id (by omega) (by omega)]
  congr 1
  ·omega
  ·congr 1
   ·omega
 ·subst hs
  show Ok (ref01_Fits_l1b x n _ _ ((1 + (n - 1) : Nat) : Int)) _
  unfold ref01_Fits_l1b
  rw [if_neg (by simp; omega)]
  refine .map (.ret ?_)
  congr 1
  rw [decide_eq_decide]
  generalize 2 ^ (n - 1) = m
  show _ ≤ (m : Int) - 1 ↔ _
  omega
end
section
theorem by_nil : bytesO ByteArray.empty = some [] := rfl
theorem by_str2 : bytesO str2 = some [100, 97, 109] := rfl
theorem by_str5 : bytesO str5 = some [100, 97, 105] := rfl
theorem by_str7 : bytesO str7 = some [100, 97, 98] := rfl
theorem by_str12 : bytesO str12 = some [97, 98] := rfl
theorem by_str14 : bytesO str14 = some [97, 105] := rfl
theorem by_str16 : bytesO str16 = some [99, 111] := rfl
theorem by_str18 : bytesO str18 = some [108] := rfl
theorem by_str22 : bytesO str22 = some [100] := rfl
theorem by_str30 : bytesO str30 = some [105] := rfl
theorem gl_1 : ix gl0 1 = some ⟨str1, str2, 3892314112⟩ := rfl
theorem gl_2 : ix gl0 2 = some ⟨str3, str2, 4160749568⟩ := rfl
theorem gl_3 : ix gl0 3 = some ⟨str4, str5, 939524096⟩ := rfl
theorem gl_4 : ix gl0 4 = some ⟨str6, str7, 2080375316⟩ := rfl
theorem gl_5 : ix gl0 5 = some ⟨str8, str7, 2080374864⟩ := rfl
theorem gl_6 : ix gl0 6 = some ⟨str9, str7, 2080375250⟩ := rfl
theorem gl_7 : ix gl0 7 = some ⟨str10, str7, 2080375762⟩ := rfl
theorem gl_8 : ix gl0 8 = some ⟨str11, str12, 2082471936⟩ := rfl
theorem gl_9 : ix gl0 9 = some ⟨str13, str14, 740294656⟩ := rfl
theorem gl_10 : ix gl0 10 = some ⟨str15, str16, 1073741824⟩ := rfl
theorem gl_11 : ix gl0 11 = some ⟨str17, str18, 1207959552⟩ := rfl
theorem gl_12 : ix gl0 12 = some ⟨str19, str18, 1207959553⟩ := rfl
theorem gl_13 : ix gl0 13 = some ⟨str20, ByteArray.empty, 1317011488⟩ := rfl
theorem gl_14 : ix gl0 14 = some ⟨str21, str22, 2080899750⟩ := rfl
theorem gl_15 : ix gl0 15 = some ⟨str23, str22, 2080900006⟩ := rfl
theorem gl_16 : ix gl0 16 = some ⟨str24, str7, 2080374952⟩ := rfl
theorem gl_17 : ix gl0 17 = some ⟨str25, str7, 2080375213⟩ := rfl
theorem gl_18 : ix gl0 18 = some ⟨str26, ByteArray.empty, 2080375980⟩ := rfl
theorem gl_19 : ix gl0 19 = some ⟨str27, ByteArray.empty, 2082473132⟩ := rfl
theorem gl_20 : ix gl0 20 = some ⟨str28, ByteArray.empty, 1275068716⟩ := rfl
theorem gl_21 : ix gl0 21 = some ⟨str29, str30, 266338304⟩ := rfl
theorem gl_22 : ix gl0 22 = some ⟨str31, str22, 1140850690⟩ := rfl
theorem w1 : w64 (0 + 1) = 1 := by decide
theorem w2 : w64 (1 + 1) = 2 := by decide
def rg (x : Int) : Bool := decide (0 ≤ x) && decide (x < 32)
def ft (n : Nat) (x : Int) : Bool := decide (-((2 ^ (n - 1) : Nat) : Int) ≤ x) && decide (x < ((2 ^ (n - 1) : Nat) : Int))
theorem part_d (p : TInst) : isa_part 100 p = some (6, 5, p.d, rg p.d) := rfl
theorem part_a (p : TInst) : isa_part 97 p = some (11, 5, p.a, rg p.a) := rfl
theorem part_b (p : TInst) : isa_part 98 p = some (16, 5, p.b, rg p.b) := rfl
theorem part_i (p : TInst) : isa_part 105 p = some (16, 16, p.imm, ft 16 p.imm) := by
 show (word_Fits p.imm ((16 : Nat) : Int)).bind _ = _
 rw [fits_i p.imm 16 (by decide) (by decide)]
 rfl
theorem part_o (p : TInst) : isa_part 111 p = some (16, 14, p.imm, ft 14 p.imm) := by
 show (word_Fits p.imm ((14 : Nat) : Int)).bind _ = _
 rw [fits_i p.imm 14 (by decide) (by decide)]
 rfl
theorem part_l (p : TInst) : isa_part 108 p = some (6, 24, p.imm, ft 24 p.imm) := by
 show (word_Fits p.imm ((24 : Nat) : Int)).bind _ = _
 rw [fits_i p.imm 24 (by decide) (by decide)]
 rfl
theorem and3 (x : Int) : andB .i64 x 3 = x % 4 := by
 unfold andB
 rw [BitVec.toNat_and]
 show IntKind.wrap .i64 (((BitVec.ofInt 64 x).toNat &&& (2 ^ 2 - 1) : Nat) : Int) = _
 rw [Nat.and_two_pow_sub_one_eq_mod, BitVec.toNat_ofInt]
 show w64 _ = _
 rw [w64_id (by omega) (by omega)]
 omega
theorem shr2 (x : Int) : shrO .i64 x 2 = some (x / 4) := by
 unfold shrO
 rw [if_pos (by decide)]
 show some (Int.fdiv x 4) = _
 rw [Int.fdiv_eq_ediv_of_nonneg _ (by decide)]
theorem part_m (p : TInst) : isa_part 109 p = some (16, 14, p.imm / 4, ft 16 p.imm && decide (p.imm % 4 = 0)) := by
 show (shrO .i64 p.imm 2).bind (fun x61 => (word_Fits p.imm ((16 : Nat) : Int)).bind fun x64 => if x64 then isa_part_k1 x61 (decide ((andB .i64 p.imm 3) = 0)) else isa_part_k1 x61 false) = _
 rw [shr2, fits_i p.imm 16 (by decide) (by decide)]
 simp only [Option.bind_some]
 show (if ft 16 p.imm = true then _ else _) = _
 rw [and3]
 cases ft 16 p.imm <;> rfl
def cnd (d a : Int) : Bool := (decide (d = 4) || decide (d = 12)) && (decide (0 ≤ a) && decide (a < 3))
theorem shl5 (d : Int) : ∃ y, shlO .i64 d 5 = some y ∧ (d = 4 → y = 128) ∧ (d = 12 → y = 384) := by
 refine ⟨_, by unfold shlO; exact if_pos (by decide), ?_, ?_⟩ <;> (intro h; subst h; decide)
theorem part_c (p : TInst) : ∃ y, isa_part 99 p = some (6, 10, y, cnd p.d p.a) ∧ (cnd p.d p.a = true → y = 32 * p.d + p.a) := by
 obtain ⟨y, h1, h2, h3⟩ := shl5 p.d
 have e : isa_part 99 p = (shlO .i64 p.d 5).bind fun x107 => if decide (p.d = 4) then (if decide (0 ≤ p.a) then isa_part_k2 (orB .i64 x107 p.a) (decide (p.a < 3)) else isa_part_k2 (orB .i64 x107 p.a) false) else if decide (p.d = 12) then (if decide (0 ≤ p.a) then isa_part_k2 (orB .i64 x107 p.a) (decide (p.a < 3)) else isa_part_k2 (orB .i64 x107 p.a) false) else isa_part_k2 (orB .i64 x107 p.a) false := rfl
 rw [h1] at e
 simp only [Option.bind_some] at e
 refine ⟨orB .i64 y p.a, ?_, ?_⟩
 ·rw [e]
  unfold cnd isa_part_k2
  cases decide (p.d = 4) <;> cases decide (p.d = 12) <;> cases decide (0 ≤ p.a) <;> cases decide (p.a < 3) <;> rfl
 ·unfold cnd
  intro h
  simp only [Bool.and_eq_true, Bool.or_eq_true, decide_eq_true_eq] at h
  obtain ⟨hd, ha, hb⟩ := h
  generalize p.a = a at ha hb ⊢
  have ha3 : a = 0 ∨ a = 1 ∨ a = 2 := by omega
  rcases hd with hd | hd
  ·rw [h2 hd, hd]
   rcases ha3 with rfl | rfl | rfl <;> decide
  ·rw [h3 hd, hd]
   rcases ha3 with rfl | rfl | rfl <;> decide
theorem loop_step {σ ρ : Type} {B : σ → Option (σ ⊕ ρ)} {s s' : σ} (h : B s = some (.inl s')) : loopO B s = loopO B s' := by rw [loopO_eq, h]; rfl
theorem loop_ret {σ ρ : Type} {B : σ → Option (σ ⊕ ρ)} {s : σ} {r : ρ} (h : B s = some (.inr r)) : loopO B s = some r := by rw [loopO_eq, h]; rfl
theorem goodL (p : TInst) (okf : Int → Bool) (xs : List Int) (hn : xs.length ≤ 100) (h : ∀ x ∈ xs, ∃ f n v, isa_part x p = some (f, n, v, okf x)) : isa_Good_l1 p xs 0 = some (xs.all okf) := by
 unfold isa_Good_l1
 have : Ok (loopO (fun s => isa_Good_l1b p xs s) 0) (fun r => r = xs.all okf) := by
  refine Ok.loop (fun k s => s = (k : Int) ∧ ∀ x ∈ xs.take k, okf x = true) xs.length (fun k s hk hs => ?_) (fun s hs => ?_) ⟨rfl, by simp⟩
  ·obtain ⟨rfl, hs⟩ := hs
   obtain ⟨f, n, v, hp⟩ := h xs[k] (List.getElem_mem hk)
   show Ok (isa_Good_l1b p xs (k : Int)) _
   unfold isa_Good_l1b
   rw [if_pos (decide_eq_true (by omega)), ix_nat, List.getElem?_eq_getElem hk]
   rw [Option.bind_some, hp, Option.bind_some]
   cases ho : okf xs[k] with
   | false =>
    refine ⟨_, rfl, ?_⟩
    show false = _
    exact (List.all_eq_false.2 ⟨xs[k], List.getElem_mem hk, by rw [ho]; decide⟩).symm
   | true =>
    refine ⟨_, rfl, ?_, ?_⟩
    ·exact w64_succ (by omega)
    ·intro x hx
     rcases (mem_take_succ hk).1 hx with h3 | h3
     ·exact hs x h3
     ·rw [h3]; exact ho
  ·obtain ⟨rfl, hs⟩ := hs
   rw [List.take_length] at hs
   show Ok (isa_Good_l1b p xs (xs.length : Int)) _
   unfold isa_Good_l1b
   rw [if_neg (by simp)]
   exact ⟨_, rfl, (List.all_eq_true.2 hs).symm⟩
 exact this.some_of
end
section
theorem or_add (w y t n : Nat) (hw : w / 2 ^ t % 2 ^ n = 0) (hy : y < 2 ^ n) : w ||| y * 2 ^ t = w + y * 2 ^ t := by
 have h1 : w = 2 ^ t * (w / 2 ^ t) + w % 2 ^ t := (Nat.div_add_mod w (2 ^ t)).symm
 have h2 : w / 2 ^ t = 2 ^ n * (w / 2 ^ t / 2 ^ n) := by
  have := Nat.div_add_mod (w / 2 ^ t) (2 ^ n)
  omega
 have hl : w % 2 ^ t < 2 ^ t := Nat.mod_lt _ (pow_pos t)
 generalize w % 2 ^ t = lo at h1 hl
 generalize w / 2 ^ t / 2 ^ n = hi at h2
 rw [h2] at h1
 clear h2 hw
 subst h1
 have e1 : 2 ^ t * (2 ^ n * hi) + lo + y * 2 ^ t = 2 ^ t * (2 ^ n * hi + y) + lo := by
  rw [Nat.mul_add, Nat.mul_comm y]; omega
 rw [e1, Nat.two_pow_add_eq_or_of_lt hl, Nat.two_pow_add_eq_or_of_lt hl, Nat.two_pow_add_eq_or_of_lt hy]
 have e2 : 2 ^ t * (2 ^ n * hi ||| y) = (2 ^ t * (2 ^ n * hi)) ||| (2 ^ t * y) := by
  have : (2 ^ n * hi ||| y) <<< t = (2 ^ n * hi) <<< t ||| y <<< t := Nat.shiftLeft_or_distrib
  simp only [Nat.shiftLeft_eq, Nat.mul_comm _ (2 ^ t)] at this
  first | exact this | exact this.symm
 rw [e2, Nat.or_assoc, Nat.or_assoc, Nat.mul_comm y, Nat.or_comm lo]
theorem test_field (w t n i : Nat) (hw : w / 2 ^ t % 2 ^ n = 0) (h1 : t ≤ i) (h2 : i < t + n) : w.testBit i = false := by
 have h := Nat.testBit_mod_two_pow (w / 2 ^ t) n (i - t)
 rw [hw, Nat.zero_testBit, Nat.testBit_div_two_pow, decide_eq_true (by omega), Bool.true_and, Nat.sub_add_cancel h1] at h
 exact h.symm
theorem andNot_id (w t n : Nat) (hw : w / 2 ^ t % 2 ^ n = 0) (hw2 : w < 4294967296) (htn : t + n ≤ 32) : andNotB .u32 (w : Int) (((2 ^ n - 1) * 2 ^ t : Nat) : Int) = (w : Int) := by
 unfold andNotB
 have hb : (2 ^ n - 1) * 2 ^ t < 4294967296 := by
  have : (2 ^ n - 1) * 2 ^ t < 2 ^ n * 2 ^ t := Nat.mul_lt_mul_of_pos_right (by have := pow_pos n; omega) (pow_pos t)
  rw [← Nat.pow_add] at this
  exact Nat.lt_of_lt_of_le this (Nat.pow_le_pow_right (by decide) (show n + t ≤ 32 by omega))
 have e : BitVec.ofInt (IntKind.bits .u32) (w : Int) &&& ~~~ BitVec.ofInt (IntKind.bits .u32) (((2 ^ n - 1) * 2 ^ t : Nat) : Int) = BitVec.ofInt (IntKind.bits .u32) (w : Int) := by
  apply BitVec.eq_of_getLsbD_eq
  intro i hi
  rw [BitVec.getLsbD_and, BitVec.getLsbD_not]
  show ((BitVec.ofInt (IntKind.bits .u32) (w : Int)).toNat.testBit i && (decide _ && !((BitVec.ofInt (IntKind.bits .u32) (((2 ^ n - 1) * 2 ^ t : Nat) : Int)).toNat.testBit i))) = (BitVec.ofInt (IntKind.bits .u32) (w : Int)).toNat.testBit i
  rw [ofInt_nat w hw2, ofInt_nat _ hb, decide_eq_true hi, Bool.true_and, ← Nat.shiftLeft_eq, Nat.testBit_shiftLeft, Nat.testBit_two_pow_sub_one]
  by_cases h : t ≤ i ∧ i < t + n
  ·rw [test_field w t n i hw h.1 h.2]; rfl
  ·have : (decide (i ≥ t) && decide (i - t < n)) = false := by
    simp only [Bool.and_eq_false_iff, decide_eq_false_iff_not]
    omega
   rw [this]; simp
 rw [e, ofInt_nat w hw2]
 exact u32n hw2
theorem or_u {a b : Nat} (ha : a < 4294967296) (hb : b < 4294967296) : orB .u32 (a : Int) (b : Int) = ((a ||| b : Nat) : Int) := by
 unfold orB
 rw [BitVec.toNat_or, ofInt_nat a ha, ofInt_nat b hb]
 exact u32n (Nat.or_lt_two_pow (n := 32) ha hb)
theorem shl_u {x a : Nat} (ha : a ≤ 32) (h : x * 2 ^ a < 4294967296) : shlO .u32 (x : Int) (a : Int) = some ((x * 2 ^ a : Nat) : Int) := by
 unfold shlO
 rw [if_pos (by omega), Int.toNat_natCast, show min a (IntKind.bits .u32) = a from Nat.min_eq_left ha]
 have e : (x : Int) * 2 ^ a = ((x * 2 ^ a : Nat) : Int) := by rw [Int.natCast_mul, Int.natCast_pow]; rfl
 rw [e, u32n h]
theorem put_is (w f n x : Nat) (hf : f + n ≤ 32) (hn : n < 32) (hw : w < 4294967296) (h0 : w / 2 ^ (32 - f - n) % 2 ^ n = 0) (hx : x < 2 ^ n) :
  word_Put (w : Int) (f : Int) (n : Int) (x : Int) = some ((w + x * 2 ^ (32 - f - n) : Nat) : Int) := by
 unfold word_Put
 have h1 := pow_le31 hn
 have h2 := pow_pos n
 have hb : ∀ y : Nat, y < 2 ^ n → y * 2 ^ (32 - f - n) < 4294967296 := by
  intro y hy
  have : y * 2 ^ (32 - f - n) < 2 ^ n * 2 ^ (32 - f - n) := Nat.mul_lt_mul_of_pos_right hy (pow_pos _)
  rw [← Nat.pow_add] at this
  exact Nat.lt_of_lt_of_le this (Nat.pow_le_pow_right (by decide) (show n + (32 - f - n) ≤ 32 by omega))
 rw [good_w hf]
 simp only [Option.bind_some, Bool.not_true, Bool.false_eq_true, if_false]
 rw [at_w hf, mask_is hn]
 simp only [Option.bind_some]
 rw [shl_u (by omega) (hb _ (by omega)), and_u (Nat.lt_of_lt_of_le hx (by omega)) (by omega), Nat.and_two_pow_sub_one_eq_mod, Nat.mod_eq_of_lt hx]
 simp only [Option.bind_some]
 rw [shl_u (by omega) (hb _ hx)]
 simp only [Option.bind_some]
 rw [andNot_id w (32 - f - n) n h0 hw (by omega), or_u hw (hb _ hx), or_add w x _ n h0 hx]
theorem bits_is (x : Int) (n : Nat) (hn : n < 32) : word_Bits x (n : Int) = some (((x % ((2 ^ n : Nat) : Int)).toNat : Nat) : Int) := by
 unfold word_Bits
 rw [mask_is hn]
 simp only [Option.bind_some]
 have h1 := pow_le31 hn
 have h2 := pow_pos n
 have e1 : IntKind.wrap .u32 x = ((x % 4294967296).toNat : Int) := by rw [u32w]; omega
 rw [e1, and_u (by omega) (by omega), Nat.and_two_pow_sub_one_eq_mod]
 congr 1
 have e2 : (4294967296 : Int) = ((2 ^ n : Nat) : Int) * ((2 ^ (32 - n) : Nat) : Int) := by
  rw [← Int.natCast_mul, ← Nat.pow_add, Nat.add_sub_cancel' (by omega : n ≤ 32)]
  rfl
 have e3 : x % 4294967296 % ((2 ^ n : Nat) : Int) = x % ((2 ^ n : Nat) : Int) := by
  rw [e2]
  exact Int.emod_emod_of_dvd x (Int.dvd_mul_right _ _)
 have p1 : 0 ≤ x % 4294967296 := Int.emod_nonneg _ (by decide)
 have p2 : 0 ≤ x % ((2 ^ n : Nat) : Int) := Int.emod_nonneg _ (by omega)
 rw [Int.toNat_of_nonneg p2, ← e3, Int.natCast_emod, Int.toNat_of_nonneg p1]
end
section
theorem good_gen (p q : TInst) (xs : List Int) (okf : Int → Bool) {n f : ByteArray} {wd : Int} (h1 : 1 ≤ p.op) (h2 : p.op ≤ 22) (hu : isa_used p = some q) (hi : ix gl0 p.op = some ⟨n, f, wd⟩) (hb : bytesO f = some xs) (hn : xs.length ≤ 100) (hq : q.op = p.op)
  (h : ∀ x ∈ xs, ∃ f n v, isa_part x p = some (f, n, v, okf x)) : isa_Good p = some (decide (q.d = p.d) && (decide (q.a = p.a) && (decide (q.b = p.b) && decide (q.imm = p.imm))) && (!(decide (p.op = 21) && decide (p.imm < 0)) && xs.all okf)) := by
 have hk : ∀ x6 : Bool, isa_Good_k1 p x6 = some (!x6 && xs.all okf) := by
  intro x6
  unfold isa_Good_k1
  cases x6 with
  | true => rfl
  | false =>
   rw [if_neg (by decide), hi, Option.bind_some, hb, Option.bind_some, goodL p okf xs hn h]
   rfl
 unfold isa_Good
 rw [if_neg (by simp; omega), if_neg (by simp; omega), hu, Option.bind_some, hk, hk, hk, decide_eq_true hq]
 cases decide (q.d = p.d) <;> cases decide (q.a = p.a) <;> cases decide (q.b = p.b) <;> cases decide (q.imm = p.imm) <;> cases decide (p.op = 21) <;> cases decide (p.imm < 0) <;> rfl
def nb (h : Bool) (x : Int) : Bool := ((h && (decide (0 ≤ x))) && (decide (x ≤ 31))) || ((!h) && (decide (x = 0)))
theorem ref_gen (p : TInst) (h : Tref02_Has) (g : Bool) (ho : ref02_Of p.op = some (h, true))
  (hg : (if decide (h.imm = 0) then some (decide (p.imm = 0)) else if decide (h.imm = 4) then (remO .i64 p.imm 4).bind fun x105 => (if decide (x105 = 0) then (ref01_Fits p.imm 16).bind fun x122 => some x122 else some false).bind fun y108 => some y108 else (ref01_Fits p.imm h.imm).bind fun x134 => some x134) = some g) :
  ref02_Good p = some ((nb h.d p.d && (nb h.a p.a && nb h.b p.b)) && (!(((decide (p.op = 10)) && (((decide (p.d ≠ 4)) && (decide (p.d ≠ 12))) || (decide (2 < p.a)))) || ((decide (p.op = 21)) && (decide (p.imm < 0)))) && g)) := by
 unfold ref02_Good
 rw [ho, Option.bind_some]
 have e : ∀ y, ref02_number h.d y = some (nb h.d y) := fun _ => rfl
 have e2 : ∀ y, ref02_number h.a y = some (nb h.a y) := fun _ => rfl
 have e3 : ∀ y, ref02_number h.b y = some (nb h.b y) := fun _ => rfl
 rw [e, e2, e3]
 simp only [Option.bind_some]
 rw [hg]
 cases nb h.d p.d <;> cases nb h.a p.a <;> cases nb h.b p.b <;> cases (((decide (p.op = 10)) && (((decide (p.d ≠ 4)) && (decide (p.d ≠ 12))) || (decide (2 < p.a)))) || ((decide (p.op = 21)) && (decide (p.imm < 0)))) <;> rfl
theorem im0 (x : Int) : (if decide ((0 : Int) = 0) then some (decide (x = 0)) else if decide ((0 : Int) = 4) then (remO .i64 x 4).bind fun x105 => (if decide (x105 = 0) then (ref01_Fits x 16).bind fun x122 => some x122 else some false).bind fun y108 => some y108 else (ref01_Fits x 0).bind fun x134 => some x134) = some (decide (x = 0)) := rfl
theorem imn (x : Int) (n : Nat) (h1 : 1 ≤ n) (h2 : n < 32) (h3 : n ≠ 4) : (if decide ((n : Int) = 0) then some (decide (x = 0)) else if decide ((n : Int) = 4) then (remO .i64 x 4).bind fun x105 => (if decide (x105 = 0) then (ref01_Fits x 16).bind fun x122 => some x122 else some false).bind fun y108 => some y108 else (ref01_Fits x n).bind fun x134 => some x134) = some (ft n x) := by
 rw [if_neg (by simp; omega), if_neg (by simp; omega), rfits_i x n h1 h2]
 rfl
theorem rem4 (x : Int) : ∃ y, remO .i64 x 4 = some y ∧ (y = 0 ↔ x % 4 = 0) := by
 refine ⟨Int.tmod x 4, by unfold remO; rw [if_neg (by decide)], ?_⟩
 rw [← Int.dvd_iff_tmod_eq_zero, Int.dvd_iff_emod_eq_zero]
theorem im4 (x : Int) : (if decide ((4 : Int) = 0) then some (decide (x = 0)) else if decide ((4 : Int) = 4) then (remO .i64 x 4).bind fun x105 => (if decide (x105 = 0) then (ref01_Fits x 16).bind fun x122 => some x122 else some false).bind fun y108 => some y108 else (ref01_Fits x 4).bind fun x134 => some x134) = some (ft 16 x && decide (x % 4 = 0)) := by
 obtain ⟨y, hy, h⟩ := rem4 x
 rw [if_neg (by decide), if_pos (by decide), hy, Option.bind_some]
 have := rfits_i x 16 (by decide) (by decide)
 rw [show ((16 : Nat) : Int) = 16 from rfl] at this
 rw [this]
 by_cases hx : x % 4 = 0
 ·rw [if_pos (decide_eq_true (h.2 hx)), decide_eq_true hx, Bool.and_true]; rfl
 ·rw [if_neg (by simp; exact fun e => hx (h.1 e)), decide_eq_false hx, Bool.and_false]; rfl
variable (k d a b i : Int)
theorem ul_c_dam : isa_used_l1 ⟨k, d, a, b, i⟩ [100, 97, 109] 0 0 0 0 0 = some ⟨k, d, a, 0, i⟩ :=
 (loop_step rfl).trans <| (loop_step rfl).trans <| (loop_step rfl).trans <| loop_ret rfl
theorem u_c_dam {n f : ByteArray} {wd : Int} (hi : ix gl0 k = some ⟨n, f, wd⟩) (hb : bytesO f = some [100, 97, 109]) : isa_used ⟨k, d, a, b, i⟩ = some ⟨k, d, a, 0, i⟩ := by
 unfold isa_used
 rw [hi, Option.bind_some, hb, Option.bind_some, ul_c_dam]
theorem g_c_dam {n f : ByteArray} {wd : Int} (h1 : 1 ≤ k) (h2 : k ≤ 22) (h21 : k ≠ 21) (hi : ix gl0 k = some ⟨n, f, wd⟩) (hb : bytesO f = some [100, 97, 109]) : isa_Good ⟨k, d, a, b, i⟩ = some (decide (b = 0 ∧ 0 ≤ d ∧ d < 32 ∧ 0 ≤ a ∧ a < 32 ∧ -32768 ≤ i ∧ i < 32768 ∧ i % 4 = 0)) := by
 rw [good_gen ⟨k, d, a, b, i⟩ ⟨k, d, a, 0, i⟩ [100, 97, 109] (fun x => if x = 100 then rg d else if x = 97 then rg a else (ft 16 i && decide (i % 4 = 0))) h1 h2 (u_c_dam k d a b i hi hb) hi hb (by decide) rfl ?_]
 ·congr 1
  rw [Bool.eq_iff_iff]
  simp [rg, ft, cnd, h21]
  omega
 ·intro x hx
  simp only [List.mem_cons, List.not_mem_nil, or_false] at hx
  rcases hx with rfl | rfl | rfl
  ·exact ⟨_, _, _, part_d _⟩
  ·exact ⟨_, _, _, part_a _⟩
  ·exact ⟨_, _, _, part_m _⟩
theorem ul_c_dai : isa_used_l1 ⟨k, d, a, b, i⟩ [100, 97, 105] 0 0 0 0 0 = some ⟨k, d, a, 0, i⟩ :=
 (loop_step rfl).trans <| (loop_step rfl).trans <| (loop_step rfl).trans <| loop_ret rfl
theorem u_c_dai {n f : ByteArray} {wd : Int} (hi : ix gl0 k = some ⟨n, f, wd⟩) (hb : bytesO f = some [100, 97, 105]) : isa_used ⟨k, d, a, b, i⟩ = some ⟨k, d, a, 0, i⟩ := by
 unfold isa_used
 rw [hi, Option.bind_some, hb, Option.bind_some, ul_c_dai]
theorem g_c_dai {n f : ByteArray} {wd : Int} (h1 : 1 ≤ k) (h2 : k ≤ 22) (h21 : k ≠ 21) (hi : ix gl0 k = some ⟨n, f, wd⟩) (hb : bytesO f = some [100, 97, 105]) : isa_Good ⟨k, d, a, b, i⟩ = some (decide (b = 0 ∧ 0 ≤ d ∧ d < 32 ∧ 0 ≤ a ∧ a < 32 ∧ -32768 ≤ i ∧ i < 32768)) := by
 rw [good_gen ⟨k, d, a, b, i⟩ ⟨k, d, a, 0, i⟩ [100, 97, 105] (fun x => if x = 100 then rg d else if x = 97 then rg a else ft 16 i) h1 h2 (u_c_dai k d a b i hi hb) hi hb (by decide) rfl ?_]
 ·congr 1
  rw [Bool.eq_iff_iff]
  simp [rg, ft, cnd, h21]
  omega
 ·intro x hx
  simp only [List.mem_cons, List.not_mem_nil, or_false] at hx
  rcases hx with rfl | rfl | rfl
  ·exact ⟨_, _, _, part_d _⟩
  ·exact ⟨_, _, _, part_a _⟩
  ·exact ⟨_, _, _, part_i _⟩
theorem ul_c_dab : isa_used_l1 ⟨k, d, a, b, i⟩ [100, 97, 98] 0 0 0 0 0 = some ⟨k, d, a, b, 0⟩ :=
 (loop_step rfl).trans <| (loop_step rfl).trans <| (loop_step rfl).trans <| loop_ret rfl
theorem u_c_dab {n f : ByteArray} {wd : Int} (hi : ix gl0 k = some ⟨n, f, wd⟩) (hb : bytesO f = some [100, 97, 98]) : isa_used ⟨k, d, a, b, i⟩ = some ⟨k, d, a, b, 0⟩ := by
 unfold isa_used
 rw [hi, Option.bind_some, hb, Option.bind_some, ul_c_dab]
theorem g_c_dab {n f : ByteArray} {wd : Int} (h1 : 1 ≤ k) (h2 : k ≤ 22) (h21 : k ≠ 21) (hi : ix gl0 k = some ⟨n, f, wd⟩) (hb : bytesO f = some [100, 97, 98]) : isa_Good ⟨k, d, a, b, i⟩ = some (decide (i = 0 ∧ 0 ≤ d ∧ d < 32 ∧ 0 ≤ a ∧ a < 32 ∧ 0 ≤ b ∧ b < 32)) := by
 rw [good_gen ⟨k, d, a, b, i⟩ ⟨k, d, a, b, 0⟩ [100, 97, 98] (fun x => if x = 100 then rg d else if x = 97 then rg a else rg b) h1 h2 (u_c_dab k d a b i hi hb) hi hb (by decide) rfl ?_]
 ·congr 1
  rw [Bool.eq_iff_iff]
  simp [rg, ft, cnd, h21]
  omega
 ·intro x hx
  simp only [List.mem_cons, List.not_mem_nil, or_false] at hx
  rcases hx with rfl | rfl | rfl
  ·exact ⟨_, _, _, part_d _⟩
  ·exact ⟨_, _, _, part_a _⟩
  ·exact ⟨_, _, _, part_b _⟩
theorem ul_c_ab : isa_used_l1 ⟨k, d, a, b, i⟩ [97, 98] 0 0 0 0 0 = some ⟨k, 0, a, b, 0⟩ :=
 (loop_step rfl).trans <| (loop_step rfl).trans <| loop_ret rfl
theorem u_c_ab {n f : ByteArray} {wd : Int} (hi : ix gl0 k = some ⟨n, f, wd⟩) (hb : bytesO f = some [97, 98]) : isa_used ⟨k, d, a, b, i⟩ = some ⟨k, 0, a, b, 0⟩ := by
 unfold isa_used
 rw [hi, Option.bind_some, hb, Option.bind_some, ul_c_ab]
theorem g_c_ab {n f : ByteArray} {wd : Int} (h1 : 1 ≤ k) (h2 : k ≤ 22) (h21 : k ≠ 21) (hi : ix gl0 k = some ⟨n, f, wd⟩) (hb : bytesO f = some [97, 98]) : isa_Good ⟨k, d, a, b, i⟩ = some (decide (d = 0 ∧ i = 0 ∧ 0 ≤ a ∧ a < 32 ∧ 0 ≤ b ∧ b < 32)) := by
 rw [good_gen ⟨k, d, a, b, i⟩ ⟨k, 0, a, b, 0⟩ [97, 98] (fun x => if x = 97 then rg a else rg b) h1 h2 (u_c_ab k d a b i hi hb) hi hb (by decide) rfl ?_]
 ·congr 1
  rw [Bool.eq_iff_iff]
  simp [rg, ft, cnd, h21]
  omega
 ·intro x hx
  simp only [List.mem_cons, List.not_mem_nil, or_false] at hx
  rcases hx with rfl | rfl
  ·exact ⟨_, _, _, part_a _⟩
  ·exact ⟨_, _, _, part_b _⟩
theorem ul_c_ai : isa_used_l1 ⟨k, d, a, b, i⟩ [97, 105] 0 0 0 0 0 = some ⟨k, 0, a, 0, i⟩ :=
 (loop_step rfl).trans <| (loop_step rfl).trans <| loop_ret rfl
theorem u_c_ai {n f : ByteArray} {wd : Int} (hi : ix gl0 k = some ⟨n, f, wd⟩) (hb : bytesO f = some [97, 105]) : isa_used ⟨k, d, a, b, i⟩ = some ⟨k, 0, a, 0, i⟩ := by
 unfold isa_used
 rw [hi, Option.bind_some, hb, Option.bind_some, ul_c_ai]
theorem g_c_ai {n f : ByteArray} {wd : Int} (h1 : 1 ≤ k) (h2 : k ≤ 22) (h21 : k ≠ 21) (hi : ix gl0 k = some ⟨n, f, wd⟩) (hb : bytesO f = some [97, 105]) : isa_Good ⟨k, d, a, b, i⟩ = some (decide (d = 0 ∧ b = 0 ∧ 0 ≤ a ∧ a < 32 ∧ -32768 ≤ i ∧ i < 32768)) := by
 rw [good_gen ⟨k, d, a, b, i⟩ ⟨k, 0, a, 0, i⟩ [97, 105] (fun x => if x = 97 then rg a else ft 16 i) h1 h2 (u_c_ai k d a b i hi hb) hi hb (by decide) rfl ?_]
 ·congr 1
  rw [Bool.eq_iff_iff]
  simp [rg, ft, cnd, h21]
  omega
 ·intro x hx
  simp only [List.mem_cons, List.not_mem_nil, or_false] at hx
  rcases hx with rfl | rfl
  ·exact ⟨_, _, _, part_a _⟩
  ·exact ⟨_, _, _, part_i _⟩
theorem ul_c_co : isa_used_l1 ⟨k, d, a, b, i⟩ [99, 111] 0 0 0 0 0 = some ⟨k, d, a, 0, i⟩ :=
 (loop_step rfl).trans <| (loop_step rfl).trans <| loop_ret rfl
theorem u_c_co {n f : ByteArray} {wd : Int} (hi : ix gl0 k = some ⟨n, f, wd⟩) (hb : bytesO f = some [99, 111]) : isa_used ⟨k, d, a, b, i⟩ = some ⟨k, d, a, 0, i⟩ := by
 unfold isa_used
 rw [hi, Option.bind_some, hb, Option.bind_some, ul_c_co]
theorem g_c_co {n f : ByteArray} {wd : Int} (h1 : 1 ≤ k) (h2 : k ≤ 22) (h21 : k ≠ 21) (hi : ix gl0 k = some ⟨n, f, wd⟩) (hb : bytesO f = some [99, 111]) : isa_Good ⟨k, d, a, b, i⟩ = some (decide (b = 0 ∧ (d = 4 ∨ d = 12) ∧ 0 ≤ a ∧ a < 3 ∧ -8192 ≤ i ∧ i < 8192)) := by
 rw [good_gen ⟨k, d, a, b, i⟩ ⟨k, d, a, 0, i⟩ [99, 111] (fun x => if x = 99 then cnd d a else ft 14 i) h1 h2 (u_c_co k d a b i hi hb) hi hb (by decide) rfl ?_]
 ·congr 1
  rw [Bool.eq_iff_iff]
  simp [rg, ft, cnd, h21]
  omega
 ·intro x hx
  simp only [List.mem_cons, List.not_mem_nil, or_false] at hx
  rcases hx with rfl | rfl
  ·obtain ⟨y, e, _⟩ := part_c ⟨k, d, a, b, i⟩; exact ⟨_, _, _, e⟩
  ·exact ⟨_, _, _, part_o _⟩
theorem ul_c_l : isa_used_l1 ⟨k, d, a, b, i⟩ [108] 0 0 0 0 0 = some ⟨k, 0, 0, 0, i⟩ :=
 (loop_step rfl).trans <| loop_ret rfl
theorem u_c_l {n f : ByteArray} {wd : Int} (hi : ix gl0 k = some ⟨n, f, wd⟩) (hb : bytesO f = some [108]) : isa_used ⟨k, d, a, b, i⟩ = some ⟨k, 0, 0, 0, i⟩ := by
 unfold isa_used
 rw [hi, Option.bind_some, hb, Option.bind_some, ul_c_l]
theorem g_c_l {n f : ByteArray} {wd : Int} (h1 : 1 ≤ k) (h2 : k ≤ 22) (h21 : k ≠ 21) (hi : ix gl0 k = some ⟨n, f, wd⟩) (hb : bytesO f = some [108]) : isa_Good ⟨k, d, a, b, i⟩ = some (decide (d = 0 ∧ a = 0 ∧ b = 0 ∧ -8388608 ≤ i ∧ i < 8388608)) := by
 rw [good_gen ⟨k, d, a, b, i⟩ ⟨k, 0, 0, 0, i⟩ [108] (fun x => ft 24 i) h1 h2 (u_c_l k d a b i hi hb) hi hb (by decide) rfl ?_]
 ·congr 1
  rw [Bool.eq_iff_iff]
  simp [rg, ft, cnd, h21]
  omega
 ·intro x hx
  simp only [List.mem_cons, List.not_mem_nil, or_false] at hx
  rcases hx with rfl
  ·exact ⟨_, _, _, part_l _⟩
theorem ul_c_0 : isa_used_l1 ⟨k, d, a, b, i⟩ [] 0 0 0 0 0 = some ⟨k, 0, 0, 0, 0⟩ :=
 loop_ret rfl
theorem u_c_0 {n f : ByteArray} {wd : Int} (hi : ix gl0 k = some ⟨n, f, wd⟩) (hb : bytesO f = some []) : isa_used ⟨k, d, a, b, i⟩ = some ⟨k, 0, 0, 0, 0⟩ := by
 unfold isa_used
 rw [hi, Option.bind_some, hb, Option.bind_some, ul_c_0]
theorem g_c_0 {n f : ByteArray} {wd : Int} (h1 : 1 ≤ k) (h2 : k ≤ 22) (h21 : k ≠ 21) (hi : ix gl0 k = some ⟨n, f, wd⟩) (hb : bytesO f = some []) : isa_Good ⟨k, d, a, b, i⟩ = some (decide (d = 0 ∧ a = 0 ∧ b = 0 ∧ i = 0)) := by
 rw [good_gen ⟨k, d, a, b, i⟩ ⟨k, 0, 0, 0, 0⟩ [] (fun x => true) h1 h2 (u_c_0 k d a b i hi hb) hi hb (by decide) rfl ?_]
 ·congr 1
  rw [Bool.eq_iff_iff]
  simp [rg, ft, cnd, h21]
  omega
 ·intro x hx; cases hx
theorem ul_c_d : isa_used_l1 ⟨k, d, a, b, i⟩ [100] 0 0 0 0 0 = some ⟨k, d, 0, 0, 0⟩ :=
 (loop_step rfl).trans <| loop_ret rfl
theorem u_c_d {n f : ByteArray} {wd : Int} (hi : ix gl0 k = some ⟨n, f, wd⟩) (hb : bytesO f = some [100]) : isa_used ⟨k, d, a, b, i⟩ = some ⟨k, d, 0, 0, 0⟩ := by
 unfold isa_used
 rw [hi, Option.bind_some, hb, Option.bind_some, ul_c_d]
theorem g_c_d {n f : ByteArray} {wd : Int} (h1 : 1 ≤ k) (h2 : k ≤ 22) (h21 : k ≠ 21) (hi : ix gl0 k = some ⟨n, f, wd⟩) (hb : bytesO f = some [100]) : isa_Good ⟨k, d, a, b, i⟩ = some (decide (a = 0 ∧ b = 0 ∧ i = 0 ∧ 0 ≤ d ∧ d < 32)) := by
 rw [good_gen ⟨k, d, a, b, i⟩ ⟨k, d, 0, 0, 0⟩ [100] (fun x => rg d) h1 h2 (u_c_d k d a b i hi hb) hi hb (by decide) rfl ?_]
 ·congr 1
  rw [Bool.eq_iff_iff]
  simp [rg, ft, cnd, h21]
  omega
 ·intro x hx
  simp only [List.mem_cons, List.not_mem_nil, or_false] at hx
  rcases hx with rfl
  ·exact ⟨_, _, _, part_d _⟩
theorem ul_c_i : isa_used_l1 ⟨k, d, a, b, i⟩ [105] 0 0 0 0 0 = some ⟨k, 0, 0, 0, i⟩ :=
 (loop_step rfl).trans <| loop_ret rfl
theorem u_c_i {n f : ByteArray} {wd : Int} (hi : ix gl0 k = some ⟨n, f, wd⟩) (hb : bytesO f = some [105]) : isa_used ⟨k, d, a, b, i⟩ = some ⟨k, 0, 0, 0, i⟩ := by
 unfold isa_used
 rw [hi, Option.bind_some, hb, Option.bind_some, ul_c_i]
theorem g_c_i {n f : ByteArray} {wd : Int} (h1 : 1 ≤ k) (h2 : k ≤ 22) (h21 : k = 21) (hi : ix gl0 k = some ⟨n, f, wd⟩) (hb : bytesO f = some [105]) : isa_Good ⟨k, d, a, b, i⟩ = some (decide (d = 0 ∧ a = 0 ∧ b = 0 ∧ 0 ≤ i ∧ i < 32768)) := by
 rw [good_gen ⟨k, d, a, b, i⟩ ⟨k, 0, 0, 0, i⟩ [105] (fun x => ft 16 i) h1 h2 (u_c_i k d a b i hi hb) hi hb (by decide) rfl ?_]
 ·congr 1
  rw [Bool.eq_iff_iff]
  simp [rg, ft, cnd, h21]
  omega
 ·intro x hx
  simp only [List.mem_cons, List.not_mem_nil, or_false] at hx
  rcases hx with rfl
  ·exact ⟨_, _, _, part_i _⟩
theorem ig_1 : isa_Good ⟨1, d, a, b, i⟩ = some (decide (b = 0 ∧ 0 ≤ d ∧ d < 32 ∧ 0 ≤ a ∧ a < 32 ∧ -32768 ≤ i ∧ i < 32768 ∧ i % 4 = 0)) := g_c_dam 1 d a b i (by decide) (by decide) (by decide) gl_1 by_str2
theorem ro_1 : ref02_Of 1 = some (⟨str1, true, true, false, 4, 3892314112⟩, true) := rfl
theorem ig2_1 : ref02_Good ⟨1, d, a, b, i⟩ = some (decide (b = 0 ∧ 0 ≤ d ∧ d < 32 ∧ 0 ≤ a ∧ a < 32 ∧ -32768 ≤ i ∧ i < 32768 ∧ i % 4 = 0)) := by
 rw [ref_gen ⟨1, d, a, b, i⟩ _ _ ro_1 (im4 i)]
 congr 1
 rw [Bool.eq_iff_iff]
 simp [nb, ft]
 omega
theorem ig_2 : isa_Good ⟨2, d, a, b, i⟩ = some (decide (b = 0 ∧ 0 ≤ d ∧ d < 32 ∧ 0 ≤ a ∧ a < 32 ∧ -32768 ≤ i ∧ i < 32768 ∧ i % 4 = 0)) := g_c_dam 2 d a b i (by decide) (by decide) (by decide) gl_2 by_str2
theorem ro_2 : ref02_Of 2 = some (⟨str3, true, true, false, 4, 4160749568⟩, true) := rfl
theorem ig2_2 : ref02_Good ⟨2, d, a, b, i⟩ = some (decide (b = 0 ∧ 0 ≤ d ∧ d < 32 ∧ 0 ≤ a ∧ a < 32 ∧ -32768 ≤ i ∧ i < 32768 ∧ i % 4 = 0)) := by
 rw [ref_gen ⟨2, d, a, b, i⟩ _ _ ro_2 (im4 i)]
 congr 1
 rw [Bool.eq_iff_iff]
 simp [nb, ft]
 omega
theorem ig_3 : isa_Good ⟨3, d, a, b, i⟩ = some (decide (b = 0 ∧ 0 ≤ d ∧ d < 32 ∧ 0 ≤ a ∧ a < 32 ∧ -32768 ≤ i ∧ i < 32768)) := g_c_dai 3 d a b i (by decide) (by decide) (by decide) gl_3 by_str5
theorem ro_3 : ref02_Of 3 = some (⟨str4, true, true, false, 16, 939524096⟩, true) := rfl
theorem ig2_3 : ref02_Good ⟨3, d, a, b, i⟩ = some (decide (b = 0 ∧ 0 ≤ d ∧ d < 32 ∧ 0 ≤ a ∧ a < 32 ∧ -32768 ≤ i ∧ i < 32768)) := by
 rw [ref_gen ⟨3, d, a, b, i⟩ _ _ ro_3 (imn i 16 (by decide) (by decide) (by decide))]
 congr 1
 rw [Bool.eq_iff_iff]
 simp [nb, ft]
 omega
theorem ig_4 : isa_Good ⟨4, d, a, b, i⟩ = some (decide (i = 0 ∧ 0 ≤ d ∧ d < 32 ∧ 0 ≤ a ∧ a < 32 ∧ 0 ≤ b ∧ b < 32)) := g_c_dab 4 d a b i (by decide) (by decide) (by decide) gl_4 by_str7
theorem ro_4 : ref02_Of 4 = some (⟨str6, true, true, true, 0, 2080375316⟩, true) := rfl
theorem ig2_4 : ref02_Good ⟨4, d, a, b, i⟩ = some (decide (i = 0 ∧ 0 ≤ d ∧ d < 32 ∧ 0 ≤ a ∧ a < 32 ∧ 0 ≤ b ∧ b < 32)) := by
 rw [ref_gen ⟨4, d, a, b, i⟩ _ _ ro_4 (im0 i)]
 congr 1
 rw [Bool.eq_iff_iff]
 simp [nb, ft]
 omega
theorem ig_5 : isa_Good ⟨5, d, a, b, i⟩ = some (decide (i = 0 ∧ 0 ≤ d ∧ d < 32 ∧ 0 ≤ a ∧ a < 32 ∧ 0 ≤ b ∧ b < 32)) := g_c_dab 5 d a b i (by decide) (by decide) (by decide) gl_5 by_str7
theorem ro_5 : ref02_Of 5 = some (⟨str8, true, true, true, 0, 2080374864⟩, true) := rfl
theorem ig2_5 : ref02_Good ⟨5, d, a, b, i⟩ = some (decide (i = 0 ∧ 0 ≤ d ∧ d < 32 ∧ 0 ≤ a ∧ a < 32 ∧ 0 ≤ b ∧ b < 32)) := by
 rw [ref_gen ⟨5, d, a, b, i⟩ _ _ ro_5 (im0 i)]
 congr 1
 rw [Bool.eq_iff_iff]
 simp [nb, ft]
 omega
theorem ig_6 : isa_Good ⟨6, d, a, b, i⟩ = some (decide (i = 0 ∧ 0 ≤ d ∧ d < 32 ∧ 0 ≤ a ∧ a < 32 ∧ 0 ≤ b ∧ b < 32)) := g_c_dab 6 d a b i (by decide) (by decide) (by decide) gl_6 by_str7
theorem ro_6 : ref02_Of 6 = some (⟨str9, true, true, true, 0, 2080375250⟩, true) := rfl
theorem ig2_6 : ref02_Good ⟨6, d, a, b, i⟩ = some (decide (i = 0 ∧ 0 ≤ d ∧ d < 32 ∧ 0 ≤ a ∧ a < 32 ∧ 0 ≤ b ∧ b < 32)) := by
 rw [ref_gen ⟨6, d, a, b, i⟩ _ _ ro_6 (im0 i)]
 congr 1
 rw [Bool.eq_iff_iff]
 simp [nb, ft]
 omega
theorem ig_7 : isa_Good ⟨7, d, a, b, i⟩ = some (decide (i = 0 ∧ 0 ≤ d ∧ d < 32 ∧ 0 ≤ a ∧ a < 32 ∧ 0 ≤ b ∧ b < 32)) := g_c_dab 7 d a b i (by decide) (by decide) (by decide) gl_7 by_str7
theorem ro_7 : ref02_Of 7 = some (⟨str10, true, true, true, 0, 2080375762⟩, true) := rfl
theorem ig2_7 : ref02_Good ⟨7, d, a, b, i⟩ = some (decide (i = 0 ∧ 0 ≤ d ∧ d < 32 ∧ 0 ≤ a ∧ a < 32 ∧ 0 ≤ b ∧ b < 32)) := by
 rw [ref_gen ⟨7, d, a, b, i⟩ _ _ ro_7 (im0 i)]
 congr 1
 rw [Bool.eq_iff_iff]
 simp [nb, ft]
 omega
theorem ig_8 : isa_Good ⟨8, d, a, b, i⟩ = some (decide (d = 0 ∧ i = 0 ∧ 0 ≤ a ∧ a < 32 ∧ 0 ≤ b ∧ b < 32)) := g_c_ab 8 d a b i (by decide) (by decide) (by decide) gl_8 by_str12
theorem ro_8 : ref02_Of 8 = some (⟨str11, false, true, true, 0, 2082471936⟩, true) := rfl
theorem ig2_8 : ref02_Good ⟨8, d, a, b, i⟩ = some (decide (d = 0 ∧ i = 0 ∧ 0 ≤ a ∧ a < 32 ∧ 0 ≤ b ∧ b < 32)) := by
 rw [ref_gen ⟨8, d, a, b, i⟩ _ _ ro_8 (im0 i)]
 congr 1
 rw [Bool.eq_iff_iff]
 simp [nb, ft]
 omega
theorem ig_9 : isa_Good ⟨9, d, a, b, i⟩ = some (decide (d = 0 ∧ b = 0 ∧ 0 ≤ a ∧ a < 32 ∧ -32768 ≤ i ∧ i < 32768)) := g_c_ai 9 d a b i (by decide) (by decide) (by decide) gl_9 by_str14
theorem ro_9 : ref02_Of 9 = some (⟨str13, false, true, false, 16, 740294656⟩, true) := rfl
theorem ig2_9 : ref02_Good ⟨9, d, a, b, i⟩ = some (decide (d = 0 ∧ b = 0 ∧ 0 ≤ a ∧ a < 32 ∧ -32768 ≤ i ∧ i < 32768)) := by
 rw [ref_gen ⟨9, d, a, b, i⟩ _ _ ro_9 (imn i 16 (by decide) (by decide) (by decide))]
 congr 1
 rw [Bool.eq_iff_iff]
 simp [nb, ft]
 omega
theorem ig_10 : isa_Good ⟨10, d, a, b, i⟩ = some (decide (b = 0 ∧ (d = 4 ∨ d = 12) ∧ 0 ≤ a ∧ a < 3 ∧ -8192 ≤ i ∧ i < 8192)) := g_c_co 10 d a b i (by decide) (by decide) (by decide) gl_10 by_str16
theorem ro_10 : ref02_Of 10 = some (⟨ByteArray.empty, true, true, false, 14, 1073741824⟩, true) := rfl
theorem ig2_10 : ref02_Good ⟨10, d, a, b, i⟩ = some (decide (b = 0 ∧ (d = 4 ∨ d = 12) ∧ 0 ≤ a ∧ a < 3 ∧ -8192 ≤ i ∧ i < 8192)) := by
 rw [ref_gen ⟨10, d, a, b, i⟩ _ _ ro_10 (imn i 14 (by decide) (by decide) (by decide))]
 congr 1
 rw [Bool.eq_iff_iff]
 simp [nb, ft]
 omega
theorem ig_11 : isa_Good ⟨11, d, a, b, i⟩ = some (decide (d = 0 ∧ a = 0 ∧ b = 0 ∧ -8388608 ≤ i ∧ i < 8388608)) := g_c_l 11 d a b i (by decide) (by decide) (by decide) gl_11 by_str18
theorem ro_11 : ref02_Of 11 = some (⟨str17, false, false, false, 24, 1207959552⟩, true) := rfl
theorem ig2_11 : ref02_Good ⟨11, d, a, b, i⟩ = some (decide (d = 0 ∧ a = 0 ∧ b = 0 ∧ -8388608 ≤ i ∧ i < 8388608)) := by
 rw [ref_gen ⟨11, d, a, b, i⟩ _ _ ro_11 (imn i 24 (by decide) (by decide) (by decide))]
 congr 1
 rw [Bool.eq_iff_iff]
 simp [nb, ft]
 omega
theorem ig_12 : isa_Good ⟨12, d, a, b, i⟩ = some (decide (d = 0 ∧ a = 0 ∧ b = 0 ∧ -8388608 ≤ i ∧ i < 8388608)) := g_c_l 12 d a b i (by decide) (by decide) (by decide) gl_12 by_str18
theorem ro_12 : ref02_Of 12 = some (⟨str19, false, false, false, 24, 1207959553⟩, true) := rfl
theorem ig2_12 : ref02_Good ⟨12, d, a, b, i⟩ = some (decide (d = 0 ∧ a = 0 ∧ b = 0 ∧ -8388608 ≤ i ∧ i < 8388608)) := by
 rw [ref_gen ⟨12, d, a, b, i⟩ _ _ ro_12 (imn i 24 (by decide) (by decide) (by decide))]
 congr 1
 rw [Bool.eq_iff_iff]
 simp [nb, ft]
 omega
theorem ig_13 : isa_Good ⟨13, d, a, b, i⟩ = some (decide (d = 0 ∧ a = 0 ∧ b = 0 ∧ i = 0)) := g_c_0 13 d a b i (by decide) (by decide) (by decide) gl_13 by_nil
theorem ro_13 : ref02_Of 13 = some (⟨str20, false, false, false, 0, 1317011488⟩, true) := rfl
theorem ig2_13 : ref02_Good ⟨13, d, a, b, i⟩ = some (decide (d = 0 ∧ a = 0 ∧ b = 0 ∧ i = 0)) := by
 rw [ref_gen ⟨13, d, a, b, i⟩ _ _ ro_13 (im0 i)]
 congr 1
 rw [Bool.eq_iff_iff]
 simp [nb, ft]
 omega
theorem ig_14 : isa_Good ⟨14, d, a, b, i⟩ = some (decide (a = 0 ∧ b = 0 ∧ i = 0 ∧ 0 ≤ d ∧ d < 32)) := g_c_d 14 d a b i (by decide) (by decide) (by decide) gl_14 by_str22
theorem ro_14 : ref02_Of 14 = some (⟨str21, true, false, false, 0, 2080899750⟩, true) := rfl
theorem ig2_14 : ref02_Good ⟨14, d, a, b, i⟩ = some (decide (a = 0 ∧ b = 0 ∧ i = 0 ∧ 0 ≤ d ∧ d < 32)) := by
 rw [ref_gen ⟨14, d, a, b, i⟩ _ _ ro_14 (im0 i)]
 congr 1
 rw [Bool.eq_iff_iff]
 simp [nb, ft]
 omega
theorem ig_15 : isa_Good ⟨15, d, a, b, i⟩ = some (decide (a = 0 ∧ b = 0 ∧ i = 0 ∧ 0 ≤ d ∧ d < 32)) := g_c_d 15 d a b i (by decide) (by decide) (by decide) gl_15 by_str22
theorem ro_15 : ref02_Of 15 = some (⟨str23, true, false, false, 0, 2080900006⟩, true) := rfl
theorem ig2_15 : ref02_Good ⟨15, d, a, b, i⟩ = some (decide (a = 0 ∧ b = 0 ∧ i = 0 ∧ 0 ≤ d ∧ d < 32)) := by
 rw [ref_gen ⟨15, d, a, b, i⟩ _ _ ro_15 (im0 i)]
 congr 1
 rw [Bool.eq_iff_iff]
 simp [nb, ft]
 omega
theorem ig_16 : isa_Good ⟨16, d, a, b, i⟩ = some (decide (i = 0 ∧ 0 ≤ d ∧ d < 32 ∧ 0 ≤ a ∧ a < 32 ∧ 0 ≤ b ∧ b < 32)) := g_c_dab 16 d a b i (by decide) (by decide) (by decide) gl_16 by_str7
theorem ro_16 : ref02_Of 16 = some (⟨str24, true, true, true, 0, 2080374952⟩, true) := rfl
theorem ig2_16 : ref02_Good ⟨16, d, a, b, i⟩ = some (decide (i = 0 ∧ 0 ≤ d ∧ d < 32 ∧ 0 ≤ a ∧ a < 32 ∧ 0 ≤ b ∧ b < 32)) := by
 rw [ref_gen ⟨16, d, a, b, i⟩ _ _ ro_16 (im0 i)]
 congr 1
 rw [Bool.eq_iff_iff]
 simp [nb, ft]
 omega
theorem ig_17 : isa_Good ⟨17, d, a, b, i⟩ = some (decide (i = 0 ∧ 0 ≤ d ∧ d < 32 ∧ 0 ≤ a ∧ a < 32 ∧ 0 ≤ b ∧ b < 32)) := g_c_dab 17 d a b i (by decide) (by decide) (by decide) gl_17 by_str7
theorem ro_17 : ref02_Of 17 = some (⟨str25, true, true, true, 0, 2080375213⟩, true) := rfl
theorem ig2_17 : ref02_Good ⟨17, d, a, b, i⟩ = some (decide (i = 0 ∧ 0 ≤ d ∧ d < 32 ∧ 0 ≤ a ∧ a < 32 ∧ 0 ≤ b ∧ b < 32)) := by
 rw [ref_gen ⟨17, d, a, b, i⟩ _ _ ro_17 (im0 i)]
 congr 1
 rw [Bool.eq_iff_iff]
 simp [nb, ft]
 omega
theorem ig_18 : isa_Good ⟨18, d, a, b, i⟩ = some (decide (d = 0 ∧ a = 0 ∧ b = 0 ∧ i = 0)) := g_c_0 18 d a b i (by decide) (by decide) (by decide) gl_18 by_nil
theorem ro_18 : ref02_Of 18 = some (⟨str26, false, false, false, 0, 2080375980⟩, true) := rfl
theorem ig2_18 : ref02_Good ⟨18, d, a, b, i⟩ = some (decide (d = 0 ∧ a = 0 ∧ b = 0 ∧ i = 0)) := by
 rw [ref_gen ⟨18, d, a, b, i⟩ _ _ ro_18 (im0 i)]
 congr 1
 rw [Bool.eq_iff_iff]
 simp [nb, ft]
 omega
theorem ig_19 : isa_Good ⟨19, d, a, b, i⟩ = some (decide (d = 0 ∧ a = 0 ∧ b = 0 ∧ i = 0)) := g_c_0 19 d a b i (by decide) (by decide) (by decide) gl_19 by_nil
theorem ro_19 : ref02_Of 19 = some (⟨str27, false, false, false, 0, 2082473132⟩, true) := rfl
theorem ig2_19 : ref02_Good ⟨19, d, a, b, i⟩ = some (decide (d = 0 ∧ a = 0 ∧ b = 0 ∧ i = 0)) := by
 rw [ref_gen ⟨19, d, a, b, i⟩ _ _ ro_19 (im0 i)]
 congr 1
 rw [Bool.eq_iff_iff]
 simp [nb, ft]
 omega
theorem ig_20 : isa_Good ⟨20, d, a, b, i⟩ = some (decide (d = 0 ∧ a = 0 ∧ b = 0 ∧ i = 0)) := g_c_0 20 d a b i (by decide) (by decide) (by decide) gl_20 by_nil
theorem ro_20 : ref02_Of 20 = some (⟨str28, false, false, false, 0, 1275068716⟩, true) := rfl
theorem ig2_20 : ref02_Good ⟨20, d, a, b, i⟩ = some (decide (d = 0 ∧ a = 0 ∧ b = 0 ∧ i = 0)) := by
 rw [ref_gen ⟨20, d, a, b, i⟩ _ _ ro_20 (im0 i)]
 congr 1
 rw [Bool.eq_iff_iff]
 simp [nb, ft]
 omega
theorem ig_21 : isa_Good ⟨21, d, a, b, i⟩ = some (decide (d = 0 ∧ a = 0 ∧ b = 0 ∧ 0 ≤ i ∧ i < 32768)) := g_c_i 21 d a b i (by decide) (by decide) (by decide) gl_21 by_str30
theorem ro_21 : ref02_Of 21 = some (⟨str29, false, false, false, 16, 266338304⟩, true) := rfl
theorem ig2_21 : ref02_Good ⟨21, d, a, b, i⟩ = some (decide (d = 0 ∧ a = 0 ∧ b = 0 ∧ 0 ≤ i ∧ i < 32768)) := by
 rw [ref_gen ⟨21, d, a, b, i⟩ _ _ ro_21 (imn i 16 (by decide) (by decide) (by decide))]
 congr 1
 rw [Bool.eq_iff_iff]
 simp [nb, ft]
 omega
theorem ig_22 : isa_Good ⟨22, d, a, b, i⟩ = some (decide (a = 0 ∧ b = 0 ∧ i = 0 ∧ 0 ≤ d ∧ d < 32)) := g_c_d 22 d a b i (by decide) (by decide) (by decide) gl_22 by_str22
theorem ro_22 : ref02_Of 22 = some (⟨str31, true, false, false, 0, 1140850690⟩, true) := rfl
theorem ig2_22 : ref02_Good ⟨22, d, a, b, i⟩ = some (decide (a = 0 ∧ b = 0 ∧ i = 0 ∧ 0 ≤ d ∧ d < 32)) := by
 rw [ref_gen ⟨22, d, a, b, i⟩ _ _ ro_22 (im0 i)]
 congr 1
 rw [Bool.eq_iff_iff]
 simp [nb, ft]
 omega
end
section
theorem enc_step (p : TInst) (xs : List Int) (w k f n : Nat) (x v : Int) (ok : Bool) (hx : xs[k]? = some x) (hp : isa_part x p = some ((f : Int), (n : Int), v, ok)) (hf : f + n ≤ 32) (hn : n < 32) (hw : w < 4294967296) (h0 : w / 2 ^ (32 - f - n) % 2 ^ n = 0) :
  isa_Encode_l1b p xs (w : Int) (k : Int) = some (.inl (((w + (v % ((2 ^ n : Nat) : Int)).toNat * 2 ^ (32 - f - n) : Nat) : Int), w64 ((k : Int) + 1))) := by
 unfold isa_Encode_l1b
 have hk : k < xs.length := (List.getElem?_eq_some_iff.1 hx).1
 rw [if_pos (decide_eq_true (by omega)), ix_nat, hx, Option.bind_some, hp, Option.bind_some, bits_is v n hn, Option.bind_some]
 have p2 : 0 ≤ v % ((2 ^ n : Nat) : Int) := Int.emod_nonneg _ (by have := pow_pos n; omega)
 have p3 : v % ((2 ^ n : Nat) : Int) < ((2 ^ n : Nat) : Int) := Int.emod_lt_of_pos _ (by have := pow_pos n; omega)
 rw [put_is w f n _ hf hn hw h0 (by omega)]
 rfl
theorem enc_gen (p : TInst) (xs : List Int) {n f : ByteArray} {wd : Int} (e : Int × Int) (hi : ix gl0 p.op = some ⟨n, f, wd⟩) (hb : bytesO f = some xs) (hg : isa_Good p = some true) (hl : isa_Encode_l1 p xs wd 0 = some e) : isa_Encode p = some e := by
 unfold isa_Encode
 rw [hg, Option.bind_some, if_neg (by decide), hi, Option.bind_some, Option.bind_some, hb, Option.bind_some, hl]
theorem enc_bad (p : TInst) (hg : isa_Good p = some false) : isa_Encode p = some (0, 1) := by
 unfold isa_Encode
 rw [hg, Option.bind_some, if_pos (by decide)]
theorem remP (x y : Int) (h : 0 ≤ x) (hy : y ≠ 0) : remO .i64 x y = some (x % y) := by
 unfold remO
 rw [if_neg hy, Int.tmod_eq_emod_of_nonneg h]
theorem re_gen (p : TInst) (h : Tref02_Has) (ho : ref02_Of p.op = some (h, true)) : ref02_Encode p = if decide (h.imm = 4) then ref02_Encode_k2 p (h, true) true else ref02_Encode_k2 p (h, true) (decide (h.imm = 16)) := by
 unfold ref02_Encode
 rw [ho]
 rfl
variable (k d a b i : Int)
theorem en_1 (h : b = 0 ∧ 0 ≤ d ∧ d < 32 ∧ 0 ≤ a ∧ a < 32 ∧ -32768 ≤ i ∧ i < 32768 ∧ i % 4 = 0) : isa_Encode ⟨1, d, a, b, i⟩ = some (3892314112 + d * 2097152 + a * 65536 + i % 65536, 0) := by
 refine enc_gen ⟨1, d, a, b, i⟩ [100, 97, 109] _ gl_1 by_str2 (by rw [ig_1]; exact congrArg some (decide_eq_true h)) ?_
 unfold isa_Encode_l1
 have hp := part_d ⟨1, d, a, b, i⟩
 have h0 := enc_step ⟨1, d, a, b, i⟩ [100, 97, 109] (3892314112) 0 6 5 100 _ _ rfl hp (by decide) (by decide) (by simp only [Nat.reducePow, Nat.reduceSub] at * <;> omega) (by simp only [Nat.reducePow, Nat.reduceSub] at * <;> omega)
 refine (loop_step (s' := (_, 1)) h0).trans ?_
 clear hp h0
 have hp := part_a ⟨1, d, a, b, i⟩
 have h1 := enc_step ⟨1, d, a, b, i⟩ [100, 97, 109] (3892314112 + (d % ((2 ^ 5 : Nat) : Int)).toNat * 2 ^ (32 - 6 - 5)) 1 11 5 97 _ _ rfl hp (by decide) (by decide) (by simp only [Nat.reducePow, Nat.reduceSub] at * <;> omega) (by simp only [Nat.reducePow, Nat.reduceSub] at * <;> omega)
 refine (loop_step (s' := (_, 2)) h1).trans ?_
 clear hp h1
 have hp := part_m ⟨1, d, a, b, i⟩
 have h2 := enc_step ⟨1, d, a, b, i⟩ [100, 97, 109] (3892314112 + (d % ((2 ^ 5 : Nat) : Int)).toNat * 2 ^ (32 - 6 - 5) + (a % ((2 ^ 5 : Nat) : Int)).toNat * 2 ^ (32 - 11 - 5)) 2 16 14 109 _ _ rfl hp (by decide) (by decide) (by simp only [Nat.reducePow, Nat.reduceSub] at * <;> omega) (by simp only [Nat.reducePow, Nat.reduceSub] at * <;> omega)
 refine (loop_step (s' := (_, 3)) h2).trans ?_
 clear hp h2
 refine (loop_ret rfl).trans ?_
 congr 1
 congr 1
 simp only [Nat.reducePow, Nat.reduceSub]
 omega
theorem re_1 (h : b = 0 ∧ 0 ≤ d ∧ d < 32 ∧ 0 ≤ a ∧ a < 32 ∧ -32768 ≤ i ∧ i < 32768 ∧ i % 4 = 0) : ref02_Encode ⟨1, d, a, b, i⟩ = some (3892314112 + d * 2097152 + a * 65536 + i % 65536) := by
 rw [re_gen ⟨1, d, a, b, i⟩ _ ro_1]
 rw [if_pos (by decide)]
 unfold ref02_Encode_k2
 dsimp only
 rw [if_pos (by decide), remP _ _ (by rw [w64_id (by omega) (by omega)]; omega) (by decide), Option.bind_some]
 unfold ref02_Encode_k1
 congr 1
 simp only [u32w]
 rw [w64_id (x := i + 65536) (by omega) (by omega)]
 omega
theorem en_2 (h : b = 0 ∧ 0 ≤ d ∧ d < 32 ∧ 0 ≤ a ∧ a < 32 ∧ -32768 ≤ i ∧ i < 32768 ∧ i % 4 = 0) : isa_Encode ⟨2, d, a, b, i⟩ = some (4160749568 + d * 2097152 + a * 65536 + i % 65536, 0) := by
 refine enc_gen ⟨2, d, a, b, i⟩ [100, 97, 109] _ gl_2 by_str2 (by rw [ig_2]; exact congrArg some (decide_eq_true h)) ?_
 unfold isa_Encode_l1
 have hp := part_d ⟨2, d, a, b, i⟩
 have h0 := enc_step ⟨2, d, a, b, i⟩ [100, 97, 109] (4160749568) 0 6 5 100 _ _ rfl hp (by decide) (by decide) (by simp only [Nat.reducePow, Nat.reduceSub] at * <;> omega) (by simp only [Nat.reducePow, Nat.reduceSub] at * <;> omega)
 refine (loop_step (s' := (_, 1)) h0).trans ?_
 clear hp h0
 have hp := part_a ⟨2, d, a, b, i⟩
 have h1 := enc_step ⟨2, d, a, b, i⟩ [100, 97, 109] (4160749568 + (d % ((2 ^ 5 : Nat) : Int)).toNat * 2 ^ (32 - 6 - 5)) 1 11 5 97 _ _ rfl hp (by decide) (by decide) (by simp only [Nat.reducePow, Nat.reduceSub] at * <;> omega) (by simp only [Nat.reducePow, Nat.reduceSub] at * <;> omega)
 refine (loop_step (s' := (_, 2)) h1).trans ?_
 clear hp h1
 have hp := part_m ⟨2, d, a, b, i⟩
 have h2 := enc_step ⟨2, d, a, b, i⟩ [100, 97, 109] (4160749568 + (d % ((2 ^ 5 : Nat) : Int)).toNat * 2 ^ (32 - 6 - 5) + (a % ((2 ^ 5 : Nat) : Int)).toNat * 2 ^ (32 - 11 - 5)) 2 16 14 109 _ _ rfl hp (by decide) (by decide) (by simp only [Nat.reducePow, Nat.reduceSub] at * <;> omega) (by simp only [Nat.reducePow, Nat.reduceSub] at * <;> omega)
 refine (loop_step (s' := (_, 3)) h2).trans ?_
 clear hp h2
 refine (loop_ret rfl).trans ?_
 congr 1
 congr 1
 simp only [Nat.reducePow, Nat.reduceSub]
 omega
theorem re_2 (h : b = 0 ∧ 0 ≤ d ∧ d < 32 ∧ 0 ≤ a ∧ a < 32 ∧ -32768 ≤ i ∧ i < 32768 ∧ i % 4 = 0) : ref02_Encode ⟨2, d, a, b, i⟩ = some (4160749568 + d * 2097152 + a * 65536 + i % 65536) := by
 rw [re_gen ⟨2, d, a, b, i⟩ _ ro_2]
 rw [if_pos (by decide)]
 unfold ref02_Encode_k2
 dsimp only
 rw [if_pos (by decide), remP _ _ (by rw [w64_id (by omega) (by omega)]; omega) (by decide), Option.bind_some]
 unfold ref02_Encode_k1
 congr 1
 simp only [u32w]
 rw [w64_id (x := i + 65536) (by omega) (by omega)]
 omega
theorem en_3 (h : b = 0 ∧ 0 ≤ d ∧ d < 32 ∧ 0 ≤ a ∧ a < 32 ∧ -32768 ≤ i ∧ i < 32768) : isa_Encode ⟨3, d, a, b, i⟩ = some (939524096 + d * 2097152 + a * 65536 + i % 65536, 0) := by
 refine enc_gen ⟨3, d, a, b, i⟩ [100, 97, 105] _ gl_3 by_str5 (by rw [ig_3]; exact congrArg some (decide_eq_true h)) ?_
 unfold isa_Encode_l1
 have hp := part_d ⟨3, d, a, b, i⟩
 have h0 := enc_step ⟨3, d, a, b, i⟩ [100, 97, 105] (939524096) 0 6 5 100 _ _ rfl hp (by decide) (by decide) (by simp only [Nat.reducePow, Nat.reduceSub] at * <;> omega) (by simp only [Nat.reducePow, Nat.reduceSub] at * <;> omega)
 refine (loop_step (s' := (_, 1)) h0).trans ?_
 clear hp h0
 have hp := part_a ⟨3, d, a, b, i⟩
 have h1 := enc_step ⟨3, d, a, b, i⟩ [100, 97, 105] (939524096 + (d % ((2 ^ 5 : Nat) : Int)).toNat * 2 ^ (32 - 6 - 5)) 1 11 5 97 _ _ rfl hp (by decide) (by decide) (by simp only [Nat.reducePow, Nat.reduceSub] at * <;> omega) (by simp only [Nat.reducePow, Nat.reduceSub] at * <;> omega)
 refine (loop_step (s' := (_, 2)) h1).trans ?_
 clear hp h1
 have hp := part_i ⟨3, d, a, b, i⟩
 have h2 := enc_step ⟨3, d, a, b, i⟩ [100, 97, 105] (939524096 + (d % ((2 ^ 5 : Nat) : Int)).toNat * 2 ^ (32 - 6 - 5) + (a % ((2 ^ 5 : Nat) : Int)).toNat * 2 ^ (32 - 11 - 5)) 2 16 16 105 _ _ rfl hp (by decide) (by decide) (by simp only [Nat.reducePow, Nat.reduceSub] at * <;> omega) (by simp only [Nat.reducePow, Nat.reduceSub] at * <;> omega)
 refine (loop_step (s' := (_, 3)) h2).trans ?_
 clear hp h2
 refine (loop_ret rfl).trans ?_
 congr 1
 congr 1
 simp only [Nat.reducePow, Nat.reduceSub]
 omega
theorem re_3 (h : b = 0 ∧ 0 ≤ d ∧ d < 32 ∧ 0 ≤ a ∧ a < 32 ∧ -32768 ≤ i ∧ i < 32768) : ref02_Encode ⟨3, d, a, b, i⟩ = some (939524096 + d * 2097152 + a * 65536 + i % 65536) := by
 rw [re_gen ⟨3, d, a, b, i⟩ _ ro_3]
 rw [if_neg (by decide)]
 unfold ref02_Encode_k2
 dsimp only
 rw [if_pos (by decide), remP _ _ (by rw [w64_id (by omega) (by omega)]; omega) (by decide), Option.bind_some]
 unfold ref02_Encode_k1
 congr 1
 simp only [u32w]
 rw [w64_id (x := i + 65536) (by omega) (by omega)]
 omega
theorem en_4 (h : i = 0 ∧ 0 ≤ d ∧ d < 32 ∧ 0 ≤ a ∧ a < 32 ∧ 0 ≤ b ∧ b < 32) : isa_Encode ⟨4, d, a, b, i⟩ = some (2080375316 + d * 2097152 + a * 65536 + b * 2048, 0) := by
 refine enc_gen ⟨4, d, a, b, i⟩ [100, 97, 98] _ gl_4 by_str7 (by rw [ig_4]; exact congrArg some (decide_eq_true h)) ?_
 unfold isa_Encode_l1
 have hp := part_d ⟨4, d, a, b, i⟩
 have h0 := enc_step ⟨4, d, a, b, i⟩ [100, 97, 98] (2080375316) 0 6 5 100 _ _ rfl hp (by decide) (by decide) (by simp only [Nat.reducePow, Nat.reduceSub] at * <;> omega) (by simp only [Nat.reducePow, Nat.reduceSub] at * <;> omega)
 refine (loop_step (s' := (_, 1)) h0).trans ?_
 clear hp h0
 have hp := part_a ⟨4, d, a, b, i⟩
 have h1 := enc_step ⟨4, d, a, b, i⟩ [100, 97, 98] (2080375316 + (d % ((2 ^ 5 : Nat) : Int)).toNat * 2 ^ (32 - 6 - 5)) 1 11 5 97 _ _ rfl hp (by decide) (by decide) (by simp only [Nat.reducePow, Nat.reduceSub] at * <;> omega) (by simp only [Nat.reducePow, Nat.reduceSub] at * <;> omega)
 refine (loop_step (s' := (_, 2)) h1).trans ?_
 clear hp h1
 have hp := part_b ⟨4, d, a, b, i⟩
 have h2 := enc_step ⟨4, d, a, b, i⟩ [100, 97, 98] (2080375316 + (d % ((2 ^ 5 : Nat) : Int)).toNat * 2 ^ (32 - 6 - 5) + (a % ((2 ^ 5 : Nat) : Int)).toNat * 2 ^ (32 - 11 - 5)) 2 16 5 98 _ _ rfl hp (by decide) (by decide) (by simp only [Nat.reducePow, Nat.reduceSub] at * <;> omega) (by simp only [Nat.reducePow, Nat.reduceSub] at * <;> omega)
 refine (loop_step (s' := (_, 3)) h2).trans ?_
 clear hp h2
 refine (loop_ret rfl).trans ?_
 congr 1
 congr 1
 simp only [Nat.reducePow, Nat.reduceSub]
 omega
theorem re_4 (h : i = 0 ∧ 0 ≤ d ∧ d < 32 ∧ 0 ≤ a ∧ a < 32 ∧ 0 ≤ b ∧ b < 32) : ref02_Encode ⟨4, d, a, b, i⟩ = some (2080375316 + d * 2097152 + a * 65536 + b * 2048) := by
 rw [re_gen ⟨4, d, a, b, i⟩ _ ro_4]
 rw [if_neg (by decide)]
 unfold ref02_Encode_k2
 dsimp only
 rw [if_neg (by decide), if_neg (by decide), if_neg (by decide)]
 unfold ref02_Encode_k1
 congr 1
 simp only [u32w]
 omega
theorem en_5 (h : i = 0 ∧ 0 ≤ d ∧ d < 32 ∧ 0 ≤ a ∧ a < 32 ∧ 0 ≤ b ∧ b < 32) : isa_Encode ⟨5, d, a, b, i⟩ = some (2080374864 + d * 2097152 + a * 65536 + b * 2048, 0) := by
 refine enc_gen ⟨5, d, a, b, i⟩ [100, 97, 98] _ gl_5 by_str7 (by rw [ig_5]; exact congrArg some (decide_eq_true h)) ?_
 unfold isa_Encode_l1
 have hp := part_d ⟨5, d, a, b, i⟩
 have h0 := enc_step ⟨5, d, a, b, i⟩ [100, 97, 98] (2080374864) 0 6 5 100 _ _ rfl hp (by decide) (by decide) (by simp only [Nat.reducePow, Nat.reduceSub] at * <;> omega) (by simp only [Nat.reducePow, Nat.reduceSub] at * <;> omega)
 refine (loop_step (s' := (_, 1)) h0).trans ?_
 clear hp h0
 have hp := part_a ⟨5, d, a, b, i⟩
 have h1 := enc_step ⟨5, d, a, b, i⟩ [100, 97, 98] (2080374864 + (d % ((2 ^ 5 : Nat) : Int)).toNat * 2 ^ (32 - 6 - 5)) 1 11 5 97 _ _ rfl hp (by decide) (by decide) (by simp only [Nat.reducePow, Nat.reduceSub] at * <;> omega) (by simp only [Nat.reducePow, Nat.reduceSub] at * <;> omega)
 refine (loop_step (s' := (_, 2)) h1).trans ?_
 clear hp h1
 have hp := part_b ⟨5, d, a, b, i⟩
 have h2 := enc_step ⟨5, d, a, b, i⟩ [100, 97, 98] (2080374864 + (d % ((2 ^ 5 : Nat) : Int)).toNat * 2 ^ (32 - 6 - 5) + (a % ((2 ^ 5 : Nat) : Int)).toNat * 2 ^ (32 - 11 - 5)) 2 16 5 98 _ _ rfl hp (by decide) (by decide) (by simp only [Nat.reducePow, Nat.reduceSub] at * <;> omega) (by simp only [Nat.reducePow, Nat.reduceSub] at * <;> omega)
 refine (loop_step (s' := (_, 3)) h2).trans ?_
 clear hp h2
 refine (loop_ret rfl).trans ?_
 congr 1
 congr 1
 simp only [Nat.reducePow, Nat.reduceSub]
 omega
theorem re_5 (h : i = 0 ∧ 0 ≤ d ∧ d < 32 ∧ 0 ≤ a ∧ a < 32 ∧ 0 ≤ b ∧ b < 32) : ref02_Encode ⟨5, d, a, b, i⟩ = some (2080374864 + d * 2097152 + a * 65536 + b * 2048) := by
 rw [re_gen ⟨5, d, a, b, i⟩ _ ro_5]
 rw [if_neg (by decide)]
 unfold ref02_Encode_k2
 dsimp only
 rw [if_neg (by decide), if_neg (by decide), if_neg (by decide)]
 unfold ref02_Encode_k1
 congr 1
 simp only [u32w]
 omega
theorem en_6 (h : i = 0 ∧ 0 ≤ d ∧ d < 32 ∧ 0 ≤ a ∧ a < 32 ∧ 0 ≤ b ∧ b < 32) : isa_Encode ⟨6, d, a, b, i⟩ = some (2080375250 + d * 2097152 + a * 65536 + b * 2048, 0) := by
 refine enc_gen ⟨6, d, a, b, i⟩ [100, 97, 98] _ gl_6 by_str7 (by rw [ig_6]; exact congrArg some (decide_eq_true h)) ?_
 unfold isa_Encode_l1
 have hp := part_d ⟨6, d, a, b, i⟩
 have h0 := enc_step ⟨6, d, a, b, i⟩ [100, 97, 98] (2080375250) 0 6 5 100 _ _ rfl hp (by decide) (by decide) (by simp only [Nat.reducePow, Nat.reduceSub] at * <;> omega) (by simp only [Nat.reducePow, Nat.reduceSub] at * <;> omega)
 refine (loop_step (s' := (_, 1)) h0).trans ?_
 clear hp h0
 have hp := part_a ⟨6, d, a, b, i⟩
 have h1 := enc_step ⟨6, d, a, b, i⟩ [100, 97, 98] (2080375250 + (d % ((2 ^ 5 : Nat) : Int)).toNat * 2 ^ (32 - 6 - 5)) 1 11 5 97 _ _ rfl hp (by decide) (by decide) (by simp only [Nat.reducePow, Nat.reduceSub] at * <;> omega) (by simp only [Nat.reducePow, Nat.reduceSub] at * <;> omega)
 refine (loop_step (s' := (_, 2)) h1).trans ?_
 clear hp h1
 have hp := part_b ⟨6, d, a, b, i⟩
 have h2 := enc_step ⟨6, d, a, b, i⟩ [100, 97, 98] (2080375250 + (d % ((2 ^ 5 : Nat) : Int)).toNat * 2 ^ (32 - 6 - 5) + (a % ((2 ^ 5 : Nat) : Int)).toNat * 2 ^ (32 - 11 - 5)) 2 16 5 98 _ _ rfl hp (by decide) (by decide) (by simp only [Nat.reducePow, Nat.reduceSub] at * <;> omega) (by simp only [Nat.reducePow, Nat.reduceSub] at * <;> omega)
 refine (loop_step (s' := (_, 3)) h2).trans ?_
 clear hp h2
 refine (loop_ret rfl).trans ?_
 congr 1
 congr 1
 simp only [Nat.reducePow, Nat.reduceSub]
 omega
theorem re_6 (h : i = 0 ∧ 0 ≤ d ∧ d < 32 ∧ 0 ≤ a ∧ a < 32 ∧ 0 ≤ b ∧ b < 32) : ref02_Encode ⟨6, d, a, b, i⟩ = some (2080375250 + d * 2097152 + a * 65536 + b * 2048) := by
 rw [re_gen ⟨6, d, a, b, i⟩ _ ro_6]
 rw [if_neg (by decide)]
 unfold ref02_Encode_k2
 dsimp only
 rw [if_neg (by decide), if_neg (by decide), if_neg (by decide)]
 unfold ref02_Encode_k1
 congr 1
 simp only [u32w]
 omega
theorem en_7 (h : i = 0 ∧ 0 ≤ d ∧ d < 32 ∧ 0 ≤ a ∧ a < 32 ∧ 0 ≤ b ∧ b < 32) : isa_Encode ⟨7, d, a, b, i⟩ = some (2080375762 + d * 2097152 + a * 65536 + b * 2048, 0) := by
 refine enc_gen ⟨7, d, a, b, i⟩ [100, 97, 98] _ gl_7 by_str7 (by rw [ig_7]; exact congrArg some (decide_eq_true h)) ?_
 unfold isa_Encode_l1
 have hp := part_d ⟨7, d, a, b, i⟩
 have h0 := enc_step ⟨7, d, a, b, i⟩ [100, 97, 98] (2080375762) 0 6 5 100 _ _ rfl hp (by decide) (by decide) (by simp only [Nat.reducePow, Nat.reduceSub] at * <;> omega) (by simp only [Nat.reducePow, Nat.reduceSub] at * <;> omega)
 refine (loop_step (s' := (_, 1)) h0).trans ?_
 clear hp h0
 have hp := part_a ⟨7, d, a, b, i⟩
 have h1 := enc_step ⟨7, d, a, b, i⟩ [100, 97, 98] (2080375762 + (d % ((2 ^ 5 : Nat) : Int)).toNat * 2 ^ (32 - 6 - 5)) 1 11 5 97 _ _ rfl hp (by decide) (by decide) (by simp only [Nat.reducePow, Nat.reduceSub] at * <;> omega) (by simp only [Nat.reducePow, Nat.reduceSub] at * <;> omega)
 refine (loop_step (s' := (_, 2)) h1).trans ?_
 clear hp h1
 have hp := part_b ⟨7, d, a, b, i⟩
 have h2 := enc_step ⟨7, d, a, b, i⟩ [100, 97, 98] (2080375762 + (d % ((2 ^ 5 : Nat) : Int)).toNat * 2 ^ (32 - 6 - 5) + (a % ((2 ^ 5 : Nat) : Int)).toNat * 2 ^ (32 - 11 - 5)) 2 16 5 98 _ _ rfl hp (by decide) (by decide) (by simp only [Nat.reducePow, Nat.reduceSub] at * <;> omega) (by simp only [Nat.reducePow, Nat.reduceSub] at * <;> omega)
 refine (loop_step (s' := (_, 3)) h2).trans ?_
 clear hp h2
 refine (loop_ret rfl).trans ?_
 congr 1
 congr 1
 simp only [Nat.reducePow, Nat.reduceSub]
 omega
theorem re_7 (h : i = 0 ∧ 0 ≤ d ∧ d < 32 ∧ 0 ≤ a ∧ a < 32 ∧ 0 ≤ b ∧ b < 32) : ref02_Encode ⟨7, d, a, b, i⟩ = some (2080375762 + d * 2097152 + a * 65536 + b * 2048) := by
 rw [re_gen ⟨7, d, a, b, i⟩ _ ro_7]
 rw [if_neg (by decide)]
 unfold ref02_Encode_k2
 dsimp only
 rw [if_neg (by decide), if_neg (by decide), if_neg (by decide)]
 unfold ref02_Encode_k1
 congr 1
 simp only [u32w]
 omega
theorem en_8 (h : d = 0 ∧ i = 0 ∧ 0 ≤ a ∧ a < 32 ∧ 0 ≤ b ∧ b < 32) : isa_Encode ⟨8, d, a, b, i⟩ = some (2082471936 + a * 65536 + b * 2048, 0) := by
 refine enc_gen ⟨8, d, a, b, i⟩ [97, 98] _ gl_8 by_str12 (by rw [ig_8]; exact congrArg some (decide_eq_true h)) ?_
 unfold isa_Encode_l1
 have hp := part_a ⟨8, d, a, b, i⟩
 have h0 := enc_step ⟨8, d, a, b, i⟩ [97, 98] (2082471936) 0 11 5 97 _ _ rfl hp (by decide) (by decide) (by simp only [Nat.reducePow, Nat.reduceSub] at * <;> omega) (by simp only [Nat.reducePow, Nat.reduceSub] at * <;> omega)
 refine (loop_step (s' := (_, 1)) h0).trans ?_
 clear hp h0
 have hp := part_b ⟨8, d, a, b, i⟩
 have h1 := enc_step ⟨8, d, a, b, i⟩ [97, 98] (2082471936 + (a % ((2 ^ 5 : Nat) : Int)).toNat * 2 ^ (32 - 11 - 5)) 1 16 5 98 _ _ rfl hp (by decide) (by decide) (by simp only [Nat.reducePow, Nat.reduceSub] at * <;> omega) (by simp only [Nat.reducePow, Nat.reduceSub] at * <;> omega)
 refine (loop_step (s' := (_, 2)) h1).trans ?_
 clear hp h1
 refine (loop_ret rfl).trans ?_
 congr 1
 congr 1
 simp only [Nat.reducePow, Nat.reduceSub]
 omega
theorem re_8 (h : d = 0 ∧ i = 0 ∧ 0 ≤ a ∧ a < 32 ∧ 0 ≤ b ∧ b < 32) : ref02_Encode ⟨8, d, a, b, i⟩ = some (2082471936 + a * 65536 + b * 2048) := by
 rw [re_gen ⟨8, d, a, b, i⟩ _ ro_8]
 rw [if_neg (by decide)]
 unfold ref02_Encode_k2
 dsimp only
 rw [if_neg (by decide), if_neg (by decide), if_neg (by decide)]
 unfold ref02_Encode_k1
 congr 1
 simp only [u32w]
 omega
theorem en_9 (h : d = 0 ∧ b = 0 ∧ 0 ≤ a ∧ a < 32 ∧ -32768 ≤ i ∧ i < 32768) : isa_Encode ⟨9, d, a, b, i⟩ = some (740294656 + a * 65536 + i % 65536, 0) := by
 refine enc_gen ⟨9, d, a, b, i⟩ [97, 105] _ gl_9 by_str14 (by rw [ig_9]; exact congrArg some (decide_eq_true h)) ?_
 unfold isa_Encode_l1
 have hp := part_a ⟨9, d, a, b, i⟩
 have h0 := enc_step ⟨9, d, a, b, i⟩ [97, 105] (740294656) 0 11 5 97 _ _ rfl hp (by decide) (by decide) (by simp only [Nat.reducePow, Nat.reduceSub] at * <;> omega) (by simp only [Nat.reducePow, Nat.reduceSub] at * <;> omega)
 refine (loop_step (s' := (_, 1)) h0).trans ?_
 clear hp h0
 have hp := part_i ⟨9, d, a, b, i⟩
 have h1 := enc_step ⟨9, d, a, b, i⟩ [97, 105] (740294656 + (a % ((2 ^ 5 : Nat) : Int)).toNat * 2 ^ (32 - 11 - 5)) 1 16 16 105 _ _ rfl hp (by decide) (by decide) (by simp only [Nat.reducePow, Nat.reduceSub] at * <;> omega) (by simp only [Nat.reducePow, Nat.reduceSub] at * <;> omega)
 refine (loop_step (s' := (_, 2)) h1).trans ?_
 clear hp h1
 refine (loop_ret rfl).trans ?_
 congr 1
 congr 1
 simp only [Nat.reducePow, Nat.reduceSub]
 omega
theorem re_9 (h : d = 0 ∧ b = 0 ∧ 0 ≤ a ∧ a < 32 ∧ -32768 ≤ i ∧ i < 32768) : ref02_Encode ⟨9, d, a, b, i⟩ = some (740294656 + a * 65536 + i % 65536) := by
 rw [re_gen ⟨9, d, a, b, i⟩ _ ro_9]
 rw [if_neg (by decide)]
 unfold ref02_Encode_k2
 dsimp only
 rw [if_pos (by decide), remP _ _ (by rw [w64_id (by omega) (by omega)]; omega) (by decide), Option.bind_some]
 unfold ref02_Encode_k1
 congr 1
 simp only [u32w]
 rw [w64_id (x := i + 65536) (by omega) (by omega)]
 omega
theorem en_10 (h : b = 0 ∧ (d = 4 ∨ d = 12) ∧ 0 ≤ a ∧ a < 3 ∧ -8192 ≤ i ∧ i < 8192) : isa_Encode ⟨10, d, a, b, i⟩ = some (1073741824 + d * 2097152 + a * 65536 + i % 16384 * 4, 0) := by
 refine enc_gen ⟨10, d, a, b, i⟩ [99, 111] _ gl_10 by_str16 (by rw [ig_10]; exact congrArg some (decide_eq_true h)) ?_
 unfold isa_Encode_l1
 obtain ⟨y, hp, hy⟩ := part_c ⟨10, d, a, b, i⟩
 have hy2 : y = 32 * d + a := hy (by unfold cnd; simp; omega)
 subst hy2
 have h0 := enc_step ⟨10, d, a, b, i⟩ [99, 111] (1073741824) 0 6 10 99 _ _ rfl hp (by decide) (by decide) (by simp only [Nat.reducePow, Nat.reduceSub] at * <;> omega) (by simp only [Nat.reducePow, Nat.reduceSub] at * <;> omega)
 refine (loop_step (s' := (_, 1)) h0).trans ?_
 clear hp h0
 have hp := part_o ⟨10, d, a, b, i⟩
 have h1 := enc_step ⟨10, d, a, b, i⟩ [99, 111] (1073741824 + ((32 * d + a) % ((2 ^ 10 : Nat) : Int)).toNat * 2 ^ (32 - 6 - 10)) 1 16 14 111 _ _ rfl hp (by decide) (by decide) (by simp only [Nat.reducePow, Nat.reduceSub] at * <;> omega) (by simp only [Nat.reducePow, Nat.reduceSub] at * <;> omega)
 refine (loop_step (s' := (_, 2)) h1).trans ?_
 clear hp h1
 refine (loop_ret rfl).trans ?_
 congr 1
 congr 1
 simp only [Nat.reducePow, Nat.reduceSub]
 omega
theorem re_10 (h : b = 0 ∧ (d = 4 ∨ d = 12) ∧ 0 ≤ a ∧ a < 3 ∧ -8192 ≤ i ∧ i < 8192) : ref02_Encode ⟨10, d, a, b, i⟩ = some (1073741824 + d * 2097152 + a * 65536 + i % 16384 * 4) := by
 rw [re_gen ⟨10, d, a, b, i⟩ _ ro_10]
 rw [if_neg (by decide)]
 unfold ref02_Encode_k2
 dsimp only
 rw [if_neg (by decide), if_pos (by decide), w64_id (x := 4 * i) (by omega) (by omega), remP _ _ (by rw [w64_id (by omega) (by omega)]; omega) (by decide), Option.bind_some]
 unfold ref02_Encode_k1
 congr 1
 simp only [u32w]
 rw [w64_id (x := 4 * i + 65536) (by omega) (by omega)]
 omega
theorem en_11 (h : d = 0 ∧ a = 0 ∧ b = 0 ∧ -8388608 ≤ i ∧ i < 8388608) : isa_Encode ⟨11, d, a, b, i⟩ = some (1207959552 + i % 16777216 * 4, 0) := by
 refine enc_gen ⟨11, d, a, b, i⟩ [108] _ gl_11 by_str18 (by rw [ig_11]; exact congrArg some (decide_eq_true h)) ?_
 unfold isa_Encode_l1
 have hp := part_l ⟨11, d, a, b, i⟩
 have h0 := enc_step ⟨11, d, a, b, i⟩ [108] (1207959552) 0 6 24 108 _ _ rfl hp (by decide) (by decide) (by simp only [Nat.reducePow, Nat.reduceSub] at * <;> omega) (by simp only [Nat.reducePow, Nat.reduceSub] at * <;> omega)
 refine (loop_step (s' := (_, 1)) h0).trans ?_
 clear hp h0
 refine (loop_ret rfl).trans ?_
 congr 1
 congr 1
 simp only [Nat.reducePow, Nat.reduceSub]
 omega
theorem re_11 (h : d = 0 ∧ a = 0 ∧ b = 0 ∧ -8388608 ≤ i ∧ i < 8388608) : ref02_Encode ⟨11, d, a, b, i⟩ = some (1207959552 + i % 16777216 * 4) := by
 rw [re_gen ⟨11, d, a, b, i⟩ _ ro_11]
 rw [if_neg (by decide)]
 unfold ref02_Encode_k2
 dsimp only
 rw [if_neg (by decide), if_neg (by decide), if_pos (by decide), w64_id (x := 4 * i) (by omega) (by omega), remP _ _ (by rw [w64_id (by omega) (by omega)]; omega) (by decide), Option.bind_some]
 unfold ref02_Encode_k1
 congr 1
 simp only [u32w]
 rw [w64_id (x := 4 * i + 67108864) (by omega) (by omega)]
 omega
theorem en_12 (h : d = 0 ∧ a = 0 ∧ b = 0 ∧ -8388608 ≤ i ∧ i < 8388608) : isa_Encode ⟨12, d, a, b, i⟩ = some (1207959553 + i % 16777216 * 4, 0) := by
 refine enc_gen ⟨12, d, a, b, i⟩ [108] _ gl_12 by_str18 (by rw [ig_12]; exact congrArg some (decide_eq_true h)) ?_
 unfold isa_Encode_l1
 have hp := part_l ⟨12, d, a, b, i⟩
 have h0 := enc_step ⟨12, d, a, b, i⟩ [108] (1207959553) 0 6 24 108 _ _ rfl hp (by decide) (by decide) (by simp only [Nat.reducePow, Nat.reduceSub] at * <;> omega) (by simp only [Nat.reducePow, Nat.reduceSub] at * <;> omega)
 refine (loop_step (s' := (_, 1)) h0).trans ?_
 clear hp h0
 refine (loop_ret rfl).trans ?_
 congr 1
 congr 1
 simp only [Nat.reducePow, Nat.reduceSub]
 omega
theorem re_12 (h : d = 0 ∧ a = 0 ∧ b = 0 ∧ -8388608 ≤ i ∧ i < 8388608) : ref02_Encode ⟨12, d, a, b, i⟩ = some (1207959553 + i % 16777216 * 4) := by
 rw [re_gen ⟨12, d, a, b, i⟩ _ ro_12]
 rw [if_neg (by decide)]
 unfold ref02_Encode_k2
 dsimp only
 rw [if_neg (by decide), if_neg (by decide), if_pos (by decide), w64_id (x := 4 * i) (by omega) (by omega), remP _ _ (by rw [w64_id (by omega) (by omega)]; omega) (by decide), Option.bind_some]
 unfold ref02_Encode_k1
 congr 1
 simp only [u32w]
 rw [w64_id (x := 4 * i + 67108864) (by omega) (by omega)]
 omega
theorem en_13 (h : d = 0 ∧ a = 0 ∧ b = 0 ∧ i = 0) : isa_Encode ⟨13, d, a, b, i⟩ = some (1317011488, 0) := by
 refine enc_gen ⟨13, d, a, b, i⟩ [] _ gl_13 by_nil (by rw [ig_13]; exact congrArg some (decide_eq_true h)) ?_
 unfold isa_Encode_l1
 refine (loop_ret rfl).trans ?_
 rfl
theorem re_13 (h : d = 0 ∧ a = 0 ∧ b = 0 ∧ i = 0) : ref02_Encode ⟨13, d, a, b, i⟩ = some (1317011488) := by
 rw [re_gen ⟨13, d, a, b, i⟩ _ ro_13]
 rw [if_neg (by decide)]
 unfold ref02_Encode_k2
 dsimp only
 rw [if_neg (by decide), if_neg (by decide), if_neg (by decide)]
 unfold ref02_Encode_k1
 congr 1
 simp only [u32w]
 omega
theorem en_14 (h : a = 0 ∧ b = 0 ∧ i = 0 ∧ 0 ≤ d ∧ d < 32) : isa_Encode ⟨14, d, a, b, i⟩ = some (2080899750 + d * 2097152, 0) := by
 refine enc_gen ⟨14, d, a, b, i⟩ [100] _ gl_14 by_str22 (by rw [ig_14]; exact congrArg some (decide_eq_true h)) ?_
 unfold isa_Encode_l1
 have hp := part_d ⟨14, d, a, b, i⟩
 have h0 := enc_step ⟨14, d, a, b, i⟩ [100] (2080899750) 0 6 5 100 _ _ rfl hp (by decide) (by decide) (by simp only [Nat.reducePow, Nat.reduceSub] at * <;> omega) (by simp only [Nat.reducePow, Nat.reduceSub] at * <;> omega)
 refine (loop_step (s' := (_, 1)) h0).trans ?_
 clear hp h0
 refine (loop_ret rfl).trans ?_
 congr 1
 congr 1
 simp only [Nat.reducePow, Nat.reduceSub]
 omega
theorem re_14 (h : a = 0 ∧ b = 0 ∧ i = 0 ∧ 0 ≤ d ∧ d < 32) : ref02_Encode ⟨14, d, a, b, i⟩ = some (2080899750 + d * 2097152) := by
 rw [re_gen ⟨14, d, a, b, i⟩ _ ro_14]
 rw [if_neg (by decide)]
 unfold ref02_Encode_k2
 dsimp only
 rw [if_neg (by decide), if_neg (by decide), if_neg (by decide)]
 unfold ref02_Encode_k1
 congr 1
 simp only [u32w]
 omega
theorem en_15 (h : a = 0 ∧ b = 0 ∧ i = 0 ∧ 0 ≤ d ∧ d < 32) : isa_Encode ⟨15, d, a, b, i⟩ = some (2080900006 + d * 2097152, 0) := by
 refine enc_gen ⟨15, d, a, b, i⟩ [100] _ gl_15 by_str22 (by rw [ig_15]; exact congrArg some (decide_eq_true h)) ?_
 unfold isa_Encode_l1
 have hp := part_d ⟨15, d, a, b, i⟩
 have h0 := enc_step ⟨15, d, a, b, i⟩ [100] (2080900006) 0 6 5 100 _ _ rfl hp (by decide) (by decide) (by simp only [Nat.reducePow, Nat.reduceSub] at * <;> omega) (by simp only [Nat.reducePow, Nat.reduceSub] at * <;> omega)
 refine (loop_step (s' := (_, 1)) h0).trans ?_
 clear hp h0
 refine (loop_ret rfl).trans ?_
 congr 1
 congr 1
 simp only [Nat.reducePow, Nat.reduceSub]
 omega
theorem re_15 (h : a = 0 ∧ b = 0 ∧ i = 0 ∧ 0 ≤ d ∧ d < 32) : ref02_Encode ⟨15, d, a, b, i⟩ = some (2080900006 + d * 2097152) := by
 rw [re_gen ⟨15, d, a, b, i⟩ _ ro_15]
 rw [if_neg (by decide)]
 unfold ref02_Encode_k2
 dsimp only
 rw [if_neg (by decide), if_neg (by decide), if_neg (by decide)]
 unfold ref02_Encode_k1
 congr 1
 simp only [u32w]
 omega
theorem en_16 (h : i = 0 ∧ 0 ≤ d ∧ d < 32 ∧ 0 ≤ a ∧ a < 32 ∧ 0 ≤ b ∧ b < 32) : isa_Encode ⟨16, d, a, b, i⟩ = some (2080374952 + d * 2097152 + a * 65536 + b * 2048, 0) := by
 refine enc_gen ⟨16, d, a, b, i⟩ [100, 97, 98] _ gl_16 by_str7 (by rw [ig_16]; exact congrArg some (decide_eq_true h)) ?_
 unfold isa_Encode_l1
 have hp := part_d ⟨16, d, a, b, i⟩
 have h0 := enc_step ⟨16, d, a, b, i⟩ [100, 97, 98] (2080374952) 0 6 5 100 _ _ rfl hp (by decide) (by decide) (by simp only [Nat.reducePow, Nat.reduceSub] at * <;> omega) (by simp only [Nat.reducePow, Nat.reduceSub] at * <;> omega)
 refine (loop_step (s' := (_, 1)) h0).trans ?_
 clear hp h0
 have hp := part_a ⟨16, d, a, b, i⟩
 have h1 := enc_step ⟨16, d, a, b, i⟩ [100, 97, 98] (2080374952 + (d % ((2 ^ 5 : Nat) : Int)).toNat * 2 ^ (32 - 6 - 5)) 1 11 5 97 _ _ rfl hp (by decide) (by decide) (by simp only [Nat.reducePow, Nat.reduceSub] at * <;> omega) (by simp only [Nat.reducePow, Nat.reduceSub] at * <;> omega)
 refine (loop_step (s' := (_, 2)) h1).trans ?_
 clear hp h1
 have hp := part_b ⟨16, d, a, b, i⟩
 have h2 := enc_step ⟨16, d, a, b, i⟩ [100, 97, 98] (2080374952 + (d % ((2 ^ 5 : Nat) : Int)).toNat * 2 ^ (32 - 6 - 5) + (a % ((2 ^ 5 : Nat) : Int)).toNat * 2 ^ (32 - 11 - 5)) 2 16 5 98 _ _ rfl hp (by decide) (by decide) (by simp only [Nat.reducePow, Nat.reduceSub] at * <;> omega) (by simp only [Nat.reducePow, Nat.reduceSub] at * <;> omega)
 refine (loop_step (s' := (_, 3)) h2).trans ?_
 clear hp h2
 refine (loop_ret rfl).trans ?_
 congr 1
 congr 1
 simp only [Nat.reducePow, Nat.reduceSub]
 omega
theorem re_16 (h : i = 0 ∧ 0 ≤ d ∧ d < 32 ∧ 0 ≤ a ∧ a < 32 ∧ 0 ≤ b ∧ b < 32) : ref02_Encode ⟨16, d, a, b, i⟩ = some (2080374952 + d * 2097152 + a * 65536 + b * 2048) := by
 rw [re_gen ⟨16, d, a, b, i⟩ _ ro_16]
 rw [if_neg (by decide)]
 unfold ref02_Encode_k2
 dsimp only
 rw [if_neg (by decide), if_neg (by decide), if_neg (by decide)]
 unfold ref02_Encode_k1
 congr 1
 simp only [u32w]
 omega
theorem en_17 (h : i = 0 ∧ 0 ≤ d ∧ d < 32 ∧ 0 ≤ a ∧ a < 32 ∧ 0 ≤ b ∧ b < 32) : isa_Encode ⟨17, d, a, b, i⟩ = some (2080375213 + d * 2097152 + a * 65536 + b * 2048, 0) := by
 refine enc_gen ⟨17, d, a, b, i⟩ [100, 97, 98] _ gl_17 by_str7 (by rw [ig_17]; exact congrArg some (decide_eq_true h)) ?_
 unfold isa_Encode_l1
 have hp := part_d ⟨17, d, a, b, i⟩
 have h0 := enc_step ⟨17, d, a, b, i⟩ [100, 97, 98] (2080375213) 0 6 5 100 _ _ rfl hp (by decide) (by decide) (by simp only [Nat.reducePow, Nat.reduceSub] at * <;> omega) (by simp only [Nat.reducePow, Nat.reduceSub] at * <;> omega)
 refine (loop_step (s' := (_, 1)) h0).trans ?_
 clear hp h0
 have hp := part_a ⟨17, d, a, b, i⟩
 have h1 := enc_step ⟨17, d, a, b, i⟩ [100, 97, 98] (2080375213 + (d % ((2 ^ 5 : Nat) : Int)).toNat * 2 ^ (32 - 6 - 5)) 1 11 5 97 _ _ rfl hp (by decide) (by decide) (by simp only [Nat.reducePow, Nat.reduceSub] at * <;> omega) (by simp only [Nat.reducePow, Nat.reduceSub] at * <;> omega)
 refine (loop_step (s' := (_, 2)) h1).trans ?_
 clear hp h1
 have hp := part_b ⟨17, d, a, b, i⟩
 have h2 := enc_step ⟨17, d, a, b, i⟩ [100, 97, 98] (2080375213 + (d % ((2 ^ 5 : Nat) : Int)).toNat * 2 ^ (32 - 6 - 5) + (a % ((2 ^ 5 : Nat) : Int)).toNat * 2 ^ (32 - 11 - 5)) 2 16 5 98 _ _ rfl hp (by decide) (by decide) (by simp only [Nat.reducePow, Nat.reduceSub] at * <;> omega) (by simp only [Nat.reducePow, Nat.reduceSub] at * <;> omega)
 refine (loop_step (s' := (_, 3)) h2).trans ?_
 clear hp h2
 refine (loop_ret rfl).trans ?_
 congr 1
 congr 1
 simp only [Nat.reducePow, Nat.reduceSub]
 omega
theorem re_17 (h : i = 0 ∧ 0 ≤ d ∧ d < 32 ∧ 0 ≤ a ∧ a < 32 ∧ 0 ≤ b ∧ b < 32) : ref02_Encode ⟨17, d, a, b, i⟩ = some (2080375213 + d * 2097152 + a * 65536 + b * 2048) := by
 rw [re_gen ⟨17, d, a, b, i⟩ _ ro_17]
 rw [if_neg (by decide)]
 unfold ref02_Encode_k2
 dsimp only
 rw [if_neg (by decide), if_neg (by decide), if_neg (by decide)]
 unfold ref02_Encode_k1
 congr 1
 simp only [u32w]
 omega
theorem en_18 (h : d = 0 ∧ a = 0 ∧ b = 0 ∧ i = 0) : isa_Encode ⟨18, d, a, b, i⟩ = some (2080375980, 0) := by
 refine enc_gen ⟨18, d, a, b, i⟩ [] _ gl_18 by_nil (by rw [ig_18]; exact congrArg some (decide_eq_true h)) ?_
 unfold isa_Encode_l1
 refine (loop_ret rfl).trans ?_
 rfl
theorem re_18 (h : d = 0 ∧ a = 0 ∧ b = 0 ∧ i = 0) : ref02_Encode ⟨18, d, a, b, i⟩ = some (2080375980) := by
 rw [re_gen ⟨18, d, a, b, i⟩ _ ro_18]
 rw [if_neg (by decide)]
 unfold ref02_Encode_k2
 dsimp only
 rw [if_neg (by decide), if_neg (by decide), if_neg (by decide)]
 unfold ref02_Encode_k1
 congr 1
 simp only [u32w]
 omega
theorem en_19 (h : d = 0 ∧ a = 0 ∧ b = 0 ∧ i = 0) : isa_Encode ⟨19, d, a, b, i⟩ = some (2082473132, 0) := by
 refine enc_gen ⟨19, d, a, b, i⟩ [] _ gl_19 by_nil (by rw [ig_19]; exact congrArg some (decide_eq_true h)) ?_
 unfold isa_Encode_l1
 refine (loop_ret rfl).trans ?_
 rfl
theorem re_19 (h : d = 0 ∧ a = 0 ∧ b = 0 ∧ i = 0) : ref02_Encode ⟨19, d, a, b, i⟩ = some (2082473132) := by
 rw [re_gen ⟨19, d, a, b, i⟩ _ ro_19]
 rw [if_neg (by decide)]
 unfold ref02_Encode_k2
 dsimp only
 rw [if_neg (by decide), if_neg (by decide), if_neg (by decide)]
 unfold ref02_Encode_k1
 congr 1
 simp only [u32w]
 omega
theorem en_20 (h : d = 0 ∧ a = 0 ∧ b = 0 ∧ i = 0) : isa_Encode ⟨20, d, a, b, i⟩ = some (1275068716, 0) := by
 refine enc_gen ⟨20, d, a, b, i⟩ [] _ gl_20 by_nil (by rw [ig_20]; exact congrArg some (decide_eq_true h)) ?_
 unfold isa_Encode_l1
 refine (loop_ret rfl).trans ?_
 rfl
theorem re_20 (h : d = 0 ∧ a = 0 ∧ b = 0 ∧ i = 0) : ref02_Encode ⟨20, d, a, b, i⟩ = some (1275068716) := by
 rw [re_gen ⟨20, d, a, b, i⟩ _ ro_20]
 rw [if_neg (by decide)]
 unfold ref02_Encode_k2
 dsimp only
 rw [if_neg (by decide), if_neg (by decide), if_neg (by decide)]
 unfold ref02_Encode_k1
 congr 1
 simp only [u32w]
 omega
theorem en_21 (h : d = 0 ∧ a = 0 ∧ b = 0 ∧ 0 ≤ i ∧ i < 32768) : isa_Encode ⟨21, d, a, b, i⟩ = some (266338304 + i % 65536, 0) := by
 refine enc_gen ⟨21, d, a, b, i⟩ [105] _ gl_21 by_str30 (by rw [ig_21]; exact congrArg some (decide_eq_true h)) ?_
 unfold isa_Encode_l1
 have hp := part_i ⟨21, d, a, b, i⟩
 have h0 := enc_step ⟨21, d, a, b, i⟩ [105] (266338304) 0 16 16 105 _ _ rfl hp (by decide) (by decide) (by simp only [Nat.reducePow, Nat.reduceSub] at * <;> omega) (by simp only [Nat.reducePow, Nat.reduceSub] at * <;> omega)
 refine (loop_step (s' := (_, 1)) h0).trans ?_
 clear hp h0
 refine (loop_ret rfl).trans ?_
 congr 1
 congr 1
 simp only [Nat.reducePow, Nat.reduceSub]
 omega
theorem re_21 (h : d = 0 ∧ a = 0 ∧ b = 0 ∧ 0 ≤ i ∧ i < 32768) : ref02_Encode ⟨21, d, a, b, i⟩ = some (266338304 + i % 65536) := by
 rw [re_gen ⟨21, d, a, b, i⟩ _ ro_21]
 rw [if_neg (by decide)]
 unfold ref02_Encode_k2
 dsimp only
 rw [if_pos (by decide), remP _ _ (by rw [w64_id (by omega) (by omega)]; omega) (by decide), Option.bind_some]
 unfold ref02_Encode_k1
 congr 1
 simp only [u32w]
 rw [w64_id (x := i + 65536) (by omega) (by omega)]
 omega
theorem en_22 (h : a = 0 ∧ b = 0 ∧ i = 0 ∧ 0 ≤ d ∧ d < 32) : isa_Encode ⟨22, d, a, b, i⟩ = some (1140850690 + d * 2097152, 0) := by
 refine enc_gen ⟨22, d, a, b, i⟩ [100] _ gl_22 by_str22 (by rw [ig_22]; exact congrArg some (decide_eq_true h)) ?_
 unfold isa_Encode_l1
 have hp := part_d ⟨22, d, a, b, i⟩
 have h0 := enc_step ⟨22, d, a, b, i⟩ [100] (1140850690) 0 6 5 100 _ _ rfl hp (by decide) (by decide) (by simp only [Nat.reducePow, Nat.reduceSub] at * <;> omega) (by simp only [Nat.reducePow, Nat.reduceSub] at * <;> omega)
 refine (loop_step (s' := (_, 1)) h0).trans ?_
 clear hp h0
 refine (loop_ret rfl).trans ?_
 congr 1
 congr 1
 simp only [Nat.reducePow, Nat.reduceSub]
 omega
theorem re_22 (h : a = 0 ∧ b = 0 ∧ i = 0 ∧ 0 ≤ d ∧ d < 32) : ref02_Encode ⟨22, d, a, b, i⟩ = some (1140850690 + d * 2097152) := by
 rw [re_gen ⟨22, d, a, b, i⟩ _ ro_22]
 rw [if_neg (by decide)]
 unfold ref02_Encode_k2
 dsimp only
 rw [if_neg (by decide), if_neg (by decide), if_neg (by decide)]
 unfold ref02_Encode_k1
 congr 1
 simp only [u32w]
 omega
end
section
theorem sg_bd (n x : Nat) (h : 1 ≤ n) : -((2 ^ (n - 1) : Nat) : Int) ≤ sg n x ∧ sg n x < ((2 ^ (n - 1) : Nat) : Int) := by
 unfold sg
 have h3 : x % 2 ^ n < 2 ^ n := Nat.mod_lt _ (pow_pos n)
 have hp : 2 ^ n = 2 * 2 ^ (n - 1) := by
  rw [show 2 * 2 ^ (n - 1) = 2 ^ (n - 1 + 1) from by rw [Nat.pow_succ, Nat.mul_comm], Nat.sub_add_cancel h]
 generalize x % 2 ^ n = v at h3
 rw [hp] at h3 ⊢
 generalize 2 ^ (n - 1) = m at h3
 split <;> omega
theorem sg_eq {n w : Nat} {i : Int} (h : 1 ≤ n) (h1 : -((2 ^ (n - 1) : Nat) : Int) ≤ i) (h2 : i < ((2 ^ (n - 1) : Nat) : Int)) (e : ((w % 2 ^ n : Nat) : Int) = i ∨ ((w % 2 ^ n : Nat) : Int) = i + ((2 ^ n : Nat) : Int)) : sg n w = i := by
 unfold sg
 have hp : 2 ^ n = 2 * 2 ^ (n - 1) := by
  rw [show 2 * 2 ^ (n - 1) = 2 ^ (n - 1 + 1) from by rw [Nat.pow_succ, Nat.mul_comm], Nat.sub_add_cancel h]
 generalize w % 2 ^ n = v at e
 rw [hp] at e ⊢
 generalize 2 ^ (n - 1) = m at h1 h2 e
 split <;> omega
variable (k0 x30 x31 x32 x33 : Int)
theorem rs_100 {xs : List Int} {j : Nat} {w : Nat} (hw : w < 4294967296) (hx : xs[j]? = some 100) : isa_read_l1b k0 w xs x30 x31 x32 x33 j = some (.inl (((w / 2097152 % 32 : Nat) : Int), x31, x32, x33, w64 ((j : Int) + 1))) := by
 have hk : j < xs.length := (List.getElem?_eq_some_iff.1 hx).1
 unfold isa_read_l1b isa_read_k1
 rw [if_pos (decide_eq_true (by omega)), ix_nat, hx, Option.bind_some]
 rw [if_pos (by decide)]
 have h := get_is w 6 5 (by decide) (by decide) hw
 rw [show word_Get (w : Int) 6 5 = some ((w / 2097152 % 32 : Nat) : Int) from h, Option.bind_some, w64_id (by omega) (by omega)]
theorem rs_97 {xs : List Int} {j : Nat} {w : Nat} (hw : w < 4294967296) (hx : xs[j]? = some 97) : isa_read_l1b k0 w xs x30 x31 x32 x33 j = some (.inl (x30, ((w / 65536 % 32 : Nat) : Int), x32, x33, w64 ((j : Int) + 1))) := by
 have hk : j < xs.length := (List.getElem?_eq_some_iff.1 hx).1
 unfold isa_read_l1b isa_read_k1
 rw [if_pos (decide_eq_true (by omega)), ix_nat, hx, Option.bind_some]
 rw [if_neg (by decide), if_pos (by decide)]
 have h := get_is w 11 5 (by decide) (by decide) hw
 rw [show word_Get (w : Int) 11 5 = some ((w / 65536 % 32 : Nat) : Int) from h, Option.bind_some, w64_id (by omega) (by omega)]
theorem rs_98 {xs : List Int} {j : Nat} {w : Nat} (hw : w < 4294967296) (hx : xs[j]? = some 98) : isa_read_l1b k0 w xs x30 x31 x32 x33 j = some (.inl (x30, x31, ((w / 2048 % 32 : Nat) : Int), x33, w64 ((j : Int) + 1))) := by
 have hk : j < xs.length := (List.getElem?_eq_some_iff.1 hx).1
 unfold isa_read_l1b isa_read_k1
 rw [if_pos (decide_eq_true (by omega)), ix_nat, hx, Option.bind_some]
 rw [if_neg (by decide), if_neg (by decide), if_pos (by decide)]
 have h := get_is w 16 5 (by decide) (by decide) hw
 rw [show word_Get (w : Int) 16 5 = some ((w / 2048 % 32 : Nat) : Int) from h, Option.bind_some, w64_id (by omega) (by omega)]
theorem rs_105 {xs : List Int} {j : Nat} {w : Nat} (hw : w < 4294967296) (hx : xs[j]? = some 105) : isa_read_l1b k0 w xs x30 x31 x32 x33 j = some (.inl (x30, x31, x32, sg 16 w, w64 ((j : Int) + 1))) := by
 have hk : j < xs.length := (List.getElem?_eq_some_iff.1 hx).1
 unfold isa_read_l1b isa_read_k1
 rw [if_pos (decide_eq_true (by omega)), ix_nat, hx, Option.bind_some]
 rw [if_neg (by decide), if_neg (by decide), if_neg (by decide), if_pos (by decide)]
 have h := signed_is w 16 (by decide) (by decide) hw
 rw [show word_Signed (w : Int) 16 = some (sg 16 w) from h, Option.bind_some]
theorem rs_109 {xs : List Int} {j : Nat} {w : Nat} (hw : w < 4294967296) (hx : xs[j]? = some 109) : isa_read_l1b k0 w xs x30 x31 x32 x33 j = some (.inl (x30, x31, x32, 4 * sg 14 (w / 4 % 16384), w64 ((j : Int) + 1))) := by
 have hk : j < xs.length := (List.getElem?_eq_some_iff.1 hx).1
 unfold isa_read_l1b isa_read_k1
 rw [if_pos (decide_eq_true (by omega)), ix_nat, hx, Option.bind_some]
 rw [if_neg (by decide), if_neg (by decide), if_neg (by decide), if_neg (by decide), if_pos (by decide)]
 have h := get_is w 16 14 (by decide) (by decide) hw
 rw [show word_Get (w : Int) 16 14 = some ((w / 4 % 16384 : Nat) : Int) from h, Option.bind_some]
 have h2 := signed_is (w / 4 % 16384) 14 (by decide) (by decide) (by omega)
 rw [show word_Signed ((w / 4 % 16384 : Nat) : Int) 14 = some (sg 14 (w / 4 % 16384)) from h2, Option.bind_some]
 have h3 := sg_bd 14 (w / 4 % 16384) (by decide)
 simp only [Nat.reducePow, Nat.reduceSub] at h3
 rw [w64_id (by omega) (by omega)]
theorem rs_111 {xs : List Int} {j : Nat} {w : Nat} (hw : w < 4294967296) (hx : xs[j]? = some 111) : isa_read_l1b k0 w xs x30 x31 x32 x33 j = some (.inl (x30, x31, x32, sg 14 (w / 4 % 16384), w64 ((j : Int) + 1))) := by
 have hk : j < xs.length := (List.getElem?_eq_some_iff.1 hx).1
 unfold isa_read_l1b isa_read_k1
 rw [if_pos (decide_eq_true (by omega)), ix_nat, hx, Option.bind_some]
 rw [if_neg (by decide), if_neg (by decide), if_neg (by decide), if_neg (by decide), if_neg (by decide), if_pos (by decide)]
 have h := get_is w 16 14 (by decide) (by decide) hw
 rw [show word_Get (w : Int) 16 14 = some ((w / 4 % 16384 : Nat) : Int) from h, Option.bind_some]
 have h2 := signed_is (w / 4 % 16384) 14 (by decide) (by decide) (by omega)
 rw [show word_Signed ((w / 4 % 16384 : Nat) : Int) 14 = some (sg 14 (w / 4 % 16384)) from h2, Option.bind_some]
theorem rs_108 {xs : List Int} {j : Nat} {w : Nat} (hw : w < 4294967296) (hx : xs[j]? = some 108) : isa_read_l1b k0 w xs x30 x31 x32 x33 j = some (.inl (x30, x31, x32, sg 24 (w / 4 % 16777216), w64 ((j : Int) + 1))) := by
 have hk : j < xs.length := (List.getElem?_eq_some_iff.1 hx).1
 unfold isa_read_l1b isa_read_k1
 rw [if_pos (decide_eq_true (by omega)), ix_nat, hx, Option.bind_some]
 rw [if_neg (by decide), if_neg (by decide), if_neg (by decide), if_neg (by decide), if_neg (by decide), if_neg (by decide), if_pos (by decide)]
 have h := get_is w 6 24 (by decide) (by decide) hw
 rw [show word_Get (w : Int) 6 24 = some ((w / 4 % 16777216 : Nat) : Int) from h, Option.bind_some]
 have h2 := signed_is (w / 4 % 16777216) 24 (by decide) (by decide) (by omega)
 rw [show word_Signed ((w / 4 % 16777216 : Nat) : Int) 24 = some (sg 24 (w / 4 % 16777216)) from h2, Option.bind_some]
theorem rs_99 {xs : List Int} {j : Nat} {w : Nat} (hw : w < 4294967296) (hx : xs[j]? = some 99) : isa_read_l1b k0 w xs x30 x31 x32 x33 j = some (.inl (((w / 2097152 % 32 : Nat) : Int), ((w / 65536 % 32 : Nat) : Int), x32, x33, w64 ((j : Int) + 1))) := by
 have hk : j < xs.length := (List.getElem?_eq_some_iff.1 hx).1
 unfold isa_read_l1b isa_read_k1
 rw [if_pos (decide_eq_true (by omega)), ix_nat, hx, Option.bind_some]
 rw [if_neg (by decide), if_neg (by decide), if_neg (by decide), if_neg (by decide), if_neg (by decide), if_neg (by decide), if_neg (by decide), if_pos (by decide)]
 have h := get_is w 6 5 (by decide) (by decide) hw
 rw [show word_Get (w : Int) 6 5 = some ((w / 2097152 % 32 : Nat) : Int) from h, Option.bind_some]
 have h2 := get_is w 11 5 (by decide) (by decide) hw
 rw [show word_Get (w : Int) 11 5 = some ((w / 65536 % 32 : Nat) : Int) from h2, Option.bind_some, w64_id (x := ((w / 2097152 % 32 : Nat) : Int)) (by omega) (by omega), w64_id (x := ((w / 65536 % 32 : Nat) : Int)) (by omega) (by omega)]
def rd (w : Nat) : Nat → TInst
 | 1 => ⟨1, ((w / 2097152 % 32 : Nat) : Int), ((w / 65536 % 32 : Nat) : Int), 0, 4 * sg 14 (w / 4 % 16384)⟩
 | 2 => ⟨2, ((w / 2097152 % 32 : Nat) : Int), ((w / 65536 % 32 : Nat) : Int), 0, 4 * sg 14 (w / 4 % 16384)⟩
 | 3 => ⟨3, ((w / 2097152 % 32 : Nat) : Int), ((w / 65536 % 32 : Nat) : Int), 0, sg 16 w⟩
 | 4 => ⟨4, ((w / 2097152 % 32 : Nat) : Int), ((w / 65536 % 32 : Nat) : Int), ((w / 2048 % 32 : Nat) : Int), 0⟩
 | 5 => ⟨5, ((w / 2097152 % 32 : Nat) : Int), ((w / 65536 % 32 : Nat) : Int), ((w / 2048 % 32 : Nat) : Int), 0⟩
 | 6 => ⟨6, ((w / 2097152 % 32 : Nat) : Int), ((w / 65536 % 32 : Nat) : Int), ((w / 2048 % 32 : Nat) : Int), 0⟩
 | 7 => ⟨7, ((w / 2097152 % 32 : Nat) : Int), ((w / 65536 % 32 : Nat) : Int), ((w / 2048 % 32 : Nat) : Int), 0⟩
 | 8 => ⟨8, 0, ((w / 65536 % 32 : Nat) : Int), ((w / 2048 % 32 : Nat) : Int), 0⟩
 | 9 => ⟨9, 0, ((w / 65536 % 32 : Nat) : Int), 0, sg 16 w⟩
 | 10 => ⟨10, ((w / 2097152 % 32 : Nat) : Int), ((w / 65536 % 32 : Nat) : Int), 0, sg 14 (w / 4 % 16384)⟩
 | 11 => ⟨11, 0, 0, 0, sg 24 (w / 4 % 16777216)⟩
 | 12 => ⟨12, 0, 0, 0, sg 24 (w / 4 % 16777216)⟩
 | 13 => ⟨13, 0, 0, 0, 0⟩
 | 14 => ⟨14, ((w / 2097152 % 32 : Nat) : Int), 0, 0, 0⟩
 | 15 => ⟨15, ((w / 2097152 % 32 : Nat) : Int), 0, 0, 0⟩
 | 16 => ⟨16, ((w / 2097152 % 32 : Nat) : Int), ((w / 65536 % 32 : Nat) : Int), ((w / 2048 % 32 : Nat) : Int), 0⟩
 | 17 => ⟨17, ((w / 2097152 % 32 : Nat) : Int), ((w / 65536 % 32 : Nat) : Int), ((w / 2048 % 32 : Nat) : Int), 0⟩
 | 18 => ⟨18, 0, 0, 0, 0⟩
 | 19 => ⟨19, 0, 0, 0, 0⟩
 | 20 => ⟨20, 0, 0, 0, 0⟩
 | 21 => ⟨21, 0, 0, 0, sg 16 w⟩
 | 22 => ⟨22, ((w / 2097152 % 32 : Nat) : Int), 0, 0, 0⟩
 | _ => ⟨0, 0, 0, 0, 0⟩
theorem read_gen {k : Int} {w : Nat} {xs : List Int} {n f : ByteArray} {wd : Int} {q : TInst} (hi : ix gl0 k = some ⟨n, f, wd⟩) (hb : bytesO f = some xs) (hl : isa_read_l1 k w xs 0 0 0 0 0 = some q) : isa_read k w = some q := by
 unfold isa_read
 rw [hi, Option.bind_some, hb, Option.bind_some, hl]
theorem rd_1 {w : Nat} (hw : w < 4294967296) : isa_read 1 w = some (rd w 1) :=
 read_gen gl_1 by_str2 ((loop_step (rs_100 1 _ _ _ _ (j := 0) hw rfl)).trans <| (loop_step (rs_97 1 _ _ _ _ (j := 1) hw rfl)).trans <| (loop_step (rs_109 1 _ _ _ _ (j := 2) hw rfl)).trans <| loop_ret rfl)
theorem rd_2 {w : Nat} (hw : w < 4294967296) : isa_read 2 w = some (rd w 2) :=
 read_gen gl_2 by_str2 ((loop_step (rs_100 2 _ _ _ _ (j := 0) hw rfl)).trans <| (loop_step (rs_97 2 _ _ _ _ (j := 1) hw rfl)).trans <| (loop_step (rs_109 2 _ _ _ _ (j := 2) hw rfl)).trans <| loop_ret rfl)
theorem rd_3 {w : Nat} (hw : w < 4294967296) : isa_read 3 w = some (rd w 3) :=
 read_gen gl_3 by_str5 ((loop_step (rs_100 3 _ _ _ _ (j := 0) hw rfl)).trans <| (loop_step (rs_97 3 _ _ _ _ (j := 1) hw rfl)).trans <| (loop_step (rs_105 3 _ _ _ _ (j := 2) hw rfl)).trans <| loop_ret rfl)
theorem rd_4 {w : Nat} (hw : w < 4294967296) : isa_read 4 w = some (rd w 4) :=
 read_gen gl_4 by_str7 ((loop_step (rs_100 4 _ _ _ _ (j := 0) hw rfl)).trans <| (loop_step (rs_97 4 _ _ _ _ (j := 1) hw rfl)).trans <| (loop_step (rs_98 4 _ _ _ _ (j := 2) hw rfl)).trans <| loop_ret rfl)
theorem rd_5 {w : Nat} (hw : w < 4294967296) : isa_read 5 w = some (rd w 5) :=
 read_gen gl_5 by_str7 ((loop_step (rs_100 5 _ _ _ _ (j := 0) hw rfl)).trans <| (loop_step (rs_97 5 _ _ _ _ (j := 1) hw rfl)).trans <| (loop_step (rs_98 5 _ _ _ _ (j := 2) hw rfl)).trans <| loop_ret rfl)
theorem rd_6 {w : Nat} (hw : w < 4294967296) : isa_read 6 w = some (rd w 6) :=
 read_gen gl_6 by_str7 ((loop_step (rs_100 6 _ _ _ _ (j := 0) hw rfl)).trans <| (loop_step (rs_97 6 _ _ _ _ (j := 1) hw rfl)).trans <| (loop_step (rs_98 6 _ _ _ _ (j := 2) hw rfl)).trans <| loop_ret rfl)
theorem rd_7 {w : Nat} (hw : w < 4294967296) : isa_read 7 w = some (rd w 7) :=
 read_gen gl_7 by_str7 ((loop_step (rs_100 7 _ _ _ _ (j := 0) hw rfl)).trans <| (loop_step (rs_97 7 _ _ _ _ (j := 1) hw rfl)).trans <| (loop_step (rs_98 7 _ _ _ _ (j := 2) hw rfl)).trans <| loop_ret rfl)
theorem rd_8 {w : Nat} (hw : w < 4294967296) : isa_read 8 w = some (rd w 8) :=
 read_gen gl_8 by_str12 ((loop_step (rs_97 8 _ _ _ _ (j := 0) hw rfl)).trans <| (loop_step (rs_98 8 _ _ _ _ (j := 1) hw rfl)).trans <| loop_ret rfl)
theorem rd_9 {w : Nat} (hw : w < 4294967296) : isa_read 9 w = some (rd w 9) :=
 read_gen gl_9 by_str14 ((loop_step (rs_97 9 _ _ _ _ (j := 0) hw rfl)).trans <| (loop_step (rs_105 9 _ _ _ _ (j := 1) hw rfl)).trans <| loop_ret rfl)
theorem rd_10 {w : Nat} (hw : w < 4294967296) : isa_read 10 w = some (rd w 10) :=
 read_gen gl_10 by_str16 ((loop_step (rs_99 10 _ _ _ _ (j := 0) hw rfl)).trans <| (loop_step (rs_111 10 _ _ _ _ (j := 1) hw rfl)).trans <| loop_ret rfl)
theorem rd_11 {w : Nat} (hw : w < 4294967296) : isa_read 11 w = some (rd w 11) :=
 read_gen gl_11 by_str18 ((loop_step (rs_108 11 _ _ _ _ (j := 0) hw rfl)).trans <| loop_ret rfl)
theorem rd_12 {w : Nat} (hw : w < 4294967296) : isa_read 12 w = some (rd w 12) :=
 read_gen gl_12 by_str18 ((loop_step (rs_108 12 _ _ _ _ (j := 0) hw rfl)).trans <| loop_ret rfl)
theorem rd_13 {w : Nat} (hw : w < 4294967296) : isa_read 13 w = some (rd w 13) :=
 read_gen gl_13 by_nil (loop_ret rfl)
theorem rd_14 {w : Nat} (hw : w < 4294967296) : isa_read 14 w = some (rd w 14) :=
 read_gen gl_14 by_str22 ((loop_step (rs_100 14 _ _ _ _ (j := 0) hw rfl)).trans <| loop_ret rfl)
theorem rd_15 {w : Nat} (hw : w < 4294967296) : isa_read 15 w = some (rd w 15) :=
 read_gen gl_15 by_str22 ((loop_step (rs_100 15 _ _ _ _ (j := 0) hw rfl)).trans <| loop_ret rfl)
theorem rd_16 {w : Nat} (hw : w < 4294967296) : isa_read 16 w = some (rd w 16) :=
 read_gen gl_16 by_str7 ((loop_step (rs_100 16 _ _ _ _ (j := 0) hw rfl)).trans <| (loop_step (rs_97 16 _ _ _ _ (j := 1) hw rfl)).trans <| (loop_step (rs_98 16 _ _ _ _ (j := 2) hw rfl)).trans <| loop_ret rfl)
theorem rd_17 {w : Nat} (hw : w < 4294967296) : isa_read 17 w = some (rd w 17) :=
 read_gen gl_17 by_str7 ((loop_step (rs_100 17 _ _ _ _ (j := 0) hw rfl)).trans <| (loop_step (rs_97 17 _ _ _ _ (j := 1) hw rfl)).trans <| (loop_step (rs_98 17 _ _ _ _ (j := 2) hw rfl)).trans <| loop_ret rfl)
theorem rd_18 {w : Nat} (hw : w < 4294967296) : isa_read 18 w = some (rd w 18) :=
 read_gen gl_18 by_nil (loop_ret rfl)
theorem rd_19 {w : Nat} (hw : w < 4294967296) : isa_read 19 w = some (rd w 19) :=
 read_gen gl_19 by_nil (loop_ret rfl)
theorem rd_20 {w : Nat} (hw : w < 4294967296) : isa_read 20 w = some (rd w 20) :=
 read_gen gl_20 by_nil (loop_ret rfl)
theorem rd_21 {w : Nat} (hw : w < 4294967296) : isa_read 21 w = some (rd w 21) :=
 read_gen gl_21 by_str30 ((loop_step (rs_105 21 _ _ _ _ (j := 0) hw rfl)).trans <| loop_ret rfl)
theorem rd_22 {w : Nat} (hw : w < 4294967296) : isa_read 22 w = some (rd w 22) :=
 read_gen gl_22 by_str22 ((loop_step (rs_100 22 _ _ _ _ (j := 0) hw rfl)).trans <| loop_ret rfl)
theorem rf_1 {w : Nat} (hw : w < 4294967296) : ref02_Decode_l1b w 1 = ref02_Decode_k4 w 1 (rd w 1).d (rd w 1).a (rd w 1).b (rd w 1).imm := by
 show _ = ref02_Decode_k4 w 1 ((w / 2097152 % 32 : Nat) : Int) ((w / 65536 % 32 : Nat) : Int) 0 (4 * sg 14 (w / 4 % 16384))
 unfold ref02_Decode_l1b
 rw [if_pos (by decide), ro_1, Option.bind_some]
 rw [if_pos rfl]
 have hd := rget_is w 6 5 (by decide) hw
 rw [show ref01_Get (w : Int) 6 5 = some ((w / 2097152 % 32 : Nat) : Int) from hd, Option.bind_some]
 rw [w64_id (x := ((w / 2097152 % 32 : Nat) : Int)) (by omega) (by omega)]
 unfold ref02_Decode_k1
 rw [if_pos rfl]
 have ha := rget_is w 11 5 (by decide) hw
 rw [show ref01_Get (w : Int) 11 5 = some ((w / 65536 % 32 : Nat) : Int) from ha, Option.bind_some]
 rw [w64_id (x := ((w / 65536 % 32 : Nat) : Int)) (by omega) (by omega)]
 unfold ref02_Decode_k2
 rw [if_neg (by decide)]
 unfold ref02_Decode_k3
 rw [if_neg (by decide), if_pos (by decide)]
 have hi := rget_is w 16 14 (by decide) hw
 rw [show ref01_Get (w : Int) 16 14 = some ((w / 4 % 16384 : Nat) : Int) from hi, Option.bind_some]
 have h2 := rsigned_is (w / 4 % 16384) 14 (by decide) (by decide) (by omega)
 rw [show ref01_Signed ((w / 4 % 16384 : Nat) : Int) 14 = some (sg 14 (w / 4 % 16384)) from h2, Option.bind_some]
 have h3 := sg_bd 14 (w / 4 % 16384) (by decide)
 simp only [Nat.reducePow, Nat.reduceSub] at h3
 rw [w64_id (by omega) (by omega)]
theorem rf_2 {w : Nat} (hw : w < 4294967296) : ref02_Decode_l1b w 2 = ref02_Decode_k4 w 2 (rd w 2).d (rd w 2).a (rd w 2).b (rd w 2).imm := by
 show _ = ref02_Decode_k4 w 2 ((w / 2097152 % 32 : Nat) : Int) ((w / 65536 % 32 : Nat) : Int) 0 (4 * sg 14 (w / 4 % 16384))
 unfold ref02_Decode_l1b
 rw [if_pos (by decide), ro_2, Option.bind_some]
 rw [if_pos rfl]
 have hd := rget_is w 6 5 (by decide) hw
 rw [show ref01_Get (w : Int) 6 5 = some ((w / 2097152 % 32 : Nat) : Int) from hd, Option.bind_some]
 rw [w64_id (x := ((w / 2097152 % 32 : Nat) : Int)) (by omega) (by omega)]
 unfold ref02_Decode_k1
 rw [if_pos rfl]
 have ha := rget_is w 11 5 (by decide) hw
 rw [show ref01_Get (w : Int) 11 5 = some ((w / 65536 % 32 : Nat) : Int) from ha, Option.bind_some]
 rw [w64_id (x := ((w / 65536 % 32 : Nat) : Int)) (by omega) (by omega)]
 unfold ref02_Decode_k2
 rw [if_neg (by decide)]
 unfold ref02_Decode_k3
 rw [if_neg (by decide), if_pos (by decide)]
 have hi := rget_is w 16 14 (by decide) hw
 rw [show ref01_Get (w : Int) 16 14 = some ((w / 4 % 16384 : Nat) : Int) from hi, Option.bind_some]
 have h2 := rsigned_is (w / 4 % 16384) 14 (by decide) (by decide) (by omega)
 rw [show ref01_Signed ((w / 4 % 16384 : Nat) : Int) 14 = some (sg 14 (w / 4 % 16384)) from h2, Option.bind_some]
 have h3 := sg_bd 14 (w / 4 % 16384) (by decide)
 simp only [Nat.reducePow, Nat.reduceSub] at h3
 rw [w64_id (by omega) (by omega)]
theorem rf_3 {w : Nat} (hw : w < 4294967296) : ref02_Decode_l1b w 3 = ref02_Decode_k4 w 3 (rd w 3).d (rd w 3).a (rd w 3).b (rd w 3).imm := by
 show _ = ref02_Decode_k4 w 3 ((w / 2097152 % 32 : Nat) : Int) ((w / 65536 % 32 : Nat) : Int) 0 (sg 16 w)
 unfold ref02_Decode_l1b
 rw [if_pos (by decide), ro_3, Option.bind_some]
 rw [if_pos rfl]
 have hd := rget_is w 6 5 (by decide) hw
 rw [show ref01_Get (w : Int) 6 5 = some ((w / 2097152 % 32 : Nat) : Int) from hd, Option.bind_some]
 rw [w64_id (x := ((w / 2097152 % 32 : Nat) : Int)) (by omega) (by omega)]
 unfold ref02_Decode_k1
 rw [if_pos rfl]
 have ha := rget_is w 11 5 (by decide) hw
 rw [show ref01_Get (w : Int) 11 5 = some ((w / 65536 % 32 : Nat) : Int) from ha, Option.bind_some]
 rw [w64_id (x := ((w / 65536 % 32 : Nat) : Int)) (by omega) (by omega)]
 unfold ref02_Decode_k2
 rw [if_neg (by decide)]
 unfold ref02_Decode_k3
 have h := rsigned_is w 16 (by decide) (by decide) hw
 rw [if_pos (by decide), show ref01_Signed (w : Int) 16 = some (sg 16 w) from h, Option.bind_some]
theorem rf_4 {w : Nat} (hw : w < 4294967296) : ref02_Decode_l1b w 4 = ref02_Decode_k4 w 4 (rd w 4).d (rd w 4).a (rd w 4).b (rd w 4).imm := by
 show _ = ref02_Decode_k4 w 4 ((w / 2097152 % 32 : Nat) : Int) ((w / 65536 % 32 : Nat) : Int) ((w / 2048 % 32 : Nat) : Int) (0)
 unfold ref02_Decode_l1b
 rw [if_pos (by decide), ro_4, Option.bind_some]
 rw [if_pos rfl]
 have hd := rget_is w 6 5 (by decide) hw
 rw [show ref01_Get (w : Int) 6 5 = some ((w / 2097152 % 32 : Nat) : Int) from hd, Option.bind_some]
 rw [w64_id (x := ((w / 2097152 % 32 : Nat) : Int)) (by omega) (by omega)]
 unfold ref02_Decode_k1
 rw [if_pos rfl]
 have ha := rget_is w 11 5 (by decide) hw
 rw [show ref01_Get (w : Int) 11 5 = some ((w / 65536 % 32 : Nat) : Int) from ha, Option.bind_some]
 rw [w64_id (x := ((w / 65536 % 32 : Nat) : Int)) (by omega) (by omega)]
 unfold ref02_Decode_k2
 rw [if_pos rfl]
 have hb := rget_is w 16 5 (by decide) hw
 rw [show ref01_Get (w : Int) 16 5 = some ((w / 2048 % 32 : Nat) : Int) from hb, Option.bind_some]
 rw [w64_id (x := ((w / 2048 % 32 : Nat) : Int)) (by omega) (by omega)]
 unfold ref02_Decode_k3
 rw [if_neg (by decide), if_neg (by decide), if_neg (by decide), if_neg (by decide)]
theorem rf_5 {w : Nat} (hw : w < 4294967296) : ref02_Decode_l1b w 5 = ref02_Decode_k4 w 5 (rd w 5).d (rd w 5).a (rd w 5).b (rd w 5).imm := by
 show _ = ref02_Decode_k4 w 5 ((w / 2097152 % 32 : Nat) : Int) ((w / 65536 % 32 : Nat) : Int) ((w / 2048 % 32 : Nat) : Int) (0)
 unfold ref02_Decode_l1b
 rw [if_pos (by decide), ro_5, Option.bind_some]
 rw [if_pos rfl]
 have hd := rget_is w 6 5 (by decide) hw
 rw [show ref01_Get (w : Int) 6 5 = some ((w / 2097152 % 32 : Nat) : Int) from hd, Option.bind_some]
 rw [w64_id (x := ((w / 2097152 % 32 : Nat) : Int)) (by omega) (by omega)]
 unfold ref02_Decode_k1
 rw [if_pos rfl]
 have ha := rget_is w 11 5 (by decide) hw
 rw [show ref01_Get (w : Int) 11 5 = some ((w / 65536 % 32 : Nat) : Int) from ha, Option.bind_some]
 rw [w64_id (x := ((w / 65536 % 32 : Nat) : Int)) (by omega) (by omega)]
 unfold ref02_Decode_k2
 rw [if_pos rfl]
 have hb := rget_is w 16 5 (by decide) hw
 rw [show ref01_Get (w : Int) 16 5 = some ((w / 2048 % 32 : Nat) : Int) from hb, Option.bind_some]
 rw [w64_id (x := ((w / 2048 % 32 : Nat) : Int)) (by omega) (by omega)]
 unfold ref02_Decode_k3
 rw [if_neg (by decide), if_neg (by decide), if_neg (by decide), if_neg (by decide)]
theorem rf_6 {w : Nat} (hw : w < 4294967296) : ref02_Decode_l1b w 6 = ref02_Decode_k4 w 6 (rd w 6).d (rd w 6).a (rd w 6).b (rd w 6).imm := by
 show _ = ref02_Decode_k4 w 6 ((w / 2097152 % 32 : Nat) : Int) ((w / 65536 % 32 : Nat) : Int) ((w / 2048 % 32 : Nat) : Int) (0)
 unfold ref02_Decode_l1b
 rw [if_pos (by decide), ro_6, Option.bind_some]
 rw [if_pos rfl]
 have hd := rget_is w 6 5 (by decide) hw
 rw [show ref01_Get (w : Int) 6 5 = some ((w / 2097152 % 32 : Nat) : Int) from hd, Option.bind_some]
 rw [w64_id (x := ((w / 2097152 % 32 : Nat) : Int)) (by omega) (by omega)]
 unfold ref02_Decode_k1
 rw [if_pos rfl]
 have ha := rget_is w 11 5 (by decide) hw
 rw [show ref01_Get (w : Int) 11 5 = some ((w / 65536 % 32 : Nat) : Int) from ha, Option.bind_some]
 rw [w64_id (x := ((w / 65536 % 32 : Nat) : Int)) (by omega) (by omega)]
 unfold ref02_Decode_k2
 rw [if_pos rfl]
 have hb := rget_is w 16 5 (by decide) hw
 rw [show ref01_Get (w : Int) 16 5 = some ((w / 2048 % 32 : Nat) : Int) from hb, Option.bind_some]
 rw [w64_id (x := ((w / 2048 % 32 : Nat) : Int)) (by omega) (by omega)]
 unfold ref02_Decode_k3
 rw [if_neg (by decide), if_neg (by decide), if_neg (by decide), if_neg (by decide)]
theorem rf_7 {w : Nat} (hw : w < 4294967296) : ref02_Decode_l1b w 7 = ref02_Decode_k4 w 7 (rd w 7).d (rd w 7).a (rd w 7).b (rd w 7).imm := by
 show _ = ref02_Decode_k4 w 7 ((w / 2097152 % 32 : Nat) : Int) ((w / 65536 % 32 : Nat) : Int) ((w / 2048 % 32 : Nat) : Int) (0)
 unfold ref02_Decode_l1b
 rw [if_pos (by decide), ro_7, Option.bind_some]
 rw [if_pos rfl]
 have hd := rget_is w 6 5 (by decide) hw
 rw [show ref01_Get (w : Int) 6 5 = some ((w / 2097152 % 32 : Nat) : Int) from hd, Option.bind_some]
 rw [w64_id (x := ((w / 2097152 % 32 : Nat) : Int)) (by omega) (by omega)]
 unfold ref02_Decode_k1
 rw [if_pos rfl]
 have ha := rget_is w 11 5 (by decide) hw
 rw [show ref01_Get (w : Int) 11 5 = some ((w / 65536 % 32 : Nat) : Int) from ha, Option.bind_some]
 rw [w64_id (x := ((w / 65536 % 32 : Nat) : Int)) (by omega) (by omega)]
 unfold ref02_Decode_k2
 rw [if_pos rfl]
 have hb := rget_is w 16 5 (by decide) hw
 rw [show ref01_Get (w : Int) 16 5 = some ((w / 2048 % 32 : Nat) : Int) from hb, Option.bind_some]
 rw [w64_id (x := ((w / 2048 % 32 : Nat) : Int)) (by omega) (by omega)]
 unfold ref02_Decode_k3
 rw [if_neg (by decide), if_neg (by decide), if_neg (by decide), if_neg (by decide)]
theorem rf_8 {w : Nat} (hw : w < 4294967296) : ref02_Decode_l1b w 8 = ref02_Decode_k4 w 8 (rd w 8).d (rd w 8).a (rd w 8).b (rd w 8).imm := by
 show _ = ref02_Decode_k4 w 8 0 ((w / 65536 % 32 : Nat) : Int) ((w / 2048 % 32 : Nat) : Int) (0)
 unfold ref02_Decode_l1b
 rw [if_pos (by decide), ro_8, Option.bind_some]
 rw [if_neg (by decide)]
 unfold ref02_Decode_k1
 rw [if_pos rfl]
 have ha := rget_is w 11 5 (by decide) hw
 rw [show ref01_Get (w : Int) 11 5 = some ((w / 65536 % 32 : Nat) : Int) from ha, Option.bind_some]
 rw [w64_id (x := ((w / 65536 % 32 : Nat) : Int)) (by omega) (by omega)]
 unfold ref02_Decode_k2
 rw [if_pos rfl]
 have hb := rget_is w 16 5 (by decide) hw
 rw [show ref01_Get (w : Int) 16 5 = some ((w / 2048 % 32 : Nat) : Int) from hb, Option.bind_some]
 rw [w64_id (x := ((w / 2048 % 32 : Nat) : Int)) (by omega) (by omega)]
 unfold ref02_Decode_k3
 rw [if_neg (by decide), if_neg (by decide), if_neg (by decide), if_neg (by decide)]
theorem rf_9 {w : Nat} (hw : w < 4294967296) : ref02_Decode_l1b w 9 = ref02_Decode_k4 w 9 (rd w 9).d (rd w 9).a (rd w 9).b (rd w 9).imm := by
 show _ = ref02_Decode_k4 w 9 0 ((w / 65536 % 32 : Nat) : Int) 0 (sg 16 w)
 unfold ref02_Decode_l1b
 rw [if_pos (by decide), ro_9, Option.bind_some]
 rw [if_neg (by decide)]
 unfold ref02_Decode_k1
 rw [if_pos rfl]
 have ha := rget_is w 11 5 (by decide) hw
 rw [show ref01_Get (w : Int) 11 5 = some ((w / 65536 % 32 : Nat) : Int) from ha, Option.bind_some]
 rw [w64_id (x := ((w / 65536 % 32 : Nat) : Int)) (by omega) (by omega)]
 unfold ref02_Decode_k2
 rw [if_neg (by decide)]
 unfold ref02_Decode_k3
 have h := rsigned_is w 16 (by decide) (by decide) hw
 rw [if_pos (by decide), show ref01_Signed (w : Int) 16 = some (sg 16 w) from h, Option.bind_some]
theorem rf_10 {w : Nat} (hw : w < 4294967296) : ref02_Decode_l1b w 10 = ref02_Decode_k4 w 10 (rd w 10).d (rd w 10).a (rd w 10).b (rd w 10).imm := by
 show _ = ref02_Decode_k4 w 10 ((w / 2097152 % 32 : Nat) : Int) ((w / 65536 % 32 : Nat) : Int) 0 (sg 14 (w / 4 % 16384))
 unfold ref02_Decode_l1b
 rw [if_pos (by decide), ro_10, Option.bind_some]
 rw [if_pos rfl]
 have hd := rget_is w 6 5 (by decide) hw
 rw [show ref01_Get (w : Int) 6 5 = some ((w / 2097152 % 32 : Nat) : Int) from hd, Option.bind_some]
 rw [w64_id (x := ((w / 2097152 % 32 : Nat) : Int)) (by omega) (by omega)]
 unfold ref02_Decode_k1
 rw [if_pos rfl]
 have ha := rget_is w 11 5 (by decide) hw
 rw [show ref01_Get (w : Int) 11 5 = some ((w / 65536 % 32 : Nat) : Int) from ha, Option.bind_some]
 rw [w64_id (x := ((w / 65536 % 32 : Nat) : Int)) (by omega) (by omega)]
 unfold ref02_Decode_k2
 rw [if_neg (by decide)]
 unfold ref02_Decode_k3
 rw [if_neg (by decide), if_neg (by decide), if_pos (by decide)]
 have hi := rget_is w 16 14 (by decide) hw
 rw [show ref01_Get (w : Int) 16 14 = some ((w / 4 % 16384 : Nat) : Int) from hi, Option.bind_some]
 have h2 := rsigned_is (w / 4 % 16384) 14 (by decide) (by decide) (by omega)
 rw [show ref01_Signed ((w / 4 % 16384 : Nat) : Int) 14 = some (sg 14 (w / 4 % 16384)) from h2, Option.bind_some]
theorem rf_11 {w : Nat} (hw : w < 4294967296) : ref02_Decode_l1b w 11 = ref02_Decode_k4 w 11 (rd w 11).d (rd w 11).a (rd w 11).b (rd w 11).imm := by
 show _ = ref02_Decode_k4 w 11 0 0 0 (sg 24 (w / 4 % 16777216))
 unfold ref02_Decode_l1b
 rw [if_pos (by decide), ro_11, Option.bind_some]
 rw [if_neg (by decide)]
 unfold ref02_Decode_k1
 rw [if_neg (by decide)]
 unfold ref02_Decode_k2
 rw [if_neg (by decide)]
 unfold ref02_Decode_k3
 rw [if_neg (by decide), if_neg (by decide), if_neg (by decide), if_pos (by decide)]
 have hi := rget_is w 6 24 (by decide) hw
 rw [show ref01_Get (w : Int) 6 24 = some ((w / 4 % 16777216 : Nat) : Int) from hi, Option.bind_some]
 have h2 := rsigned_is (w / 4 % 16777216) 24 (by decide) (by decide) (by omega)
 rw [show ref01_Signed ((w / 4 % 16777216 : Nat) : Int) 24 = some (sg 24 (w / 4 % 16777216)) from h2, Option.bind_some]
theorem rf_12 {w : Nat} (hw : w < 4294967296) : ref02_Decode_l1b w 12 = ref02_Decode_k4 w 12 (rd w 12).d (rd w 12).a (rd w 12).b (rd w 12).imm := by
 show _ = ref02_Decode_k4 w 12 0 0 0 (sg 24 (w / 4 % 16777216))
 unfold ref02_Decode_l1b
 rw [if_pos (by decide), ro_12, Option.bind_some]
 rw [if_neg (by decide)]
 unfold ref02_Decode_k1
 rw [if_neg (by decide)]
 unfold ref02_Decode_k2
 rw [if_neg (by decide)]
 unfold ref02_Decode_k3
 rw [if_neg (by decide), if_neg (by decide), if_neg (by decide), if_pos (by decide)]
 have hi := rget_is w 6 24 (by decide) hw
 rw [show ref01_Get (w : Int) 6 24 = some ((w / 4 % 16777216 : Nat) : Int) from hi, Option.bind_some]
 have h2 := rsigned_is (w / 4 % 16777216) 24 (by decide) (by decide) (by omega)
 rw [show ref01_Signed ((w / 4 % 16777216 : Nat) : Int) 24 = some (sg 24 (w / 4 % 16777216)) from h2, Option.bind_some]
theorem rf_13 {w : Nat} (hw : w < 4294967296) : ref02_Decode_l1b w 13 = ref02_Decode_k4 w 13 (rd w 13).d (rd w 13).a (rd w 13).b (rd w 13).imm := by
 show _ = ref02_Decode_k4 w 13 0 0 0 (0)
 unfold ref02_Decode_l1b
 rw [if_pos (by decide), ro_13, Option.bind_some]
 rw [if_neg (by decide)]
 unfold ref02_Decode_k1
 rw [if_neg (by decide)]
 unfold ref02_Decode_k2
 rw [if_neg (by decide)]
 unfold ref02_Decode_k3
 rw [if_neg (by decide), if_neg (by decide), if_neg (by decide), if_neg (by decide)]
theorem rf_14 {w : Nat} (hw : w < 4294967296) : ref02_Decode_l1b w 14 = ref02_Decode_k4 w 14 (rd w 14).d (rd w 14).a (rd w 14).b (rd w 14).imm := by
 show _ = ref02_Decode_k4 w 14 ((w / 2097152 % 32 : Nat) : Int) 0 0 (0)
 unfold ref02_Decode_l1b
 rw [if_pos (by decide), ro_14, Option.bind_some]
 rw [if_pos rfl]
 have hd := rget_is w 6 5 (by decide) hw
 rw [show ref01_Get (w : Int) 6 5 = some ((w / 2097152 % 32 : Nat) : Int) from hd, Option.bind_some]
 rw [w64_id (x := ((w / 2097152 % 32 : Nat) : Int)) (by omega) (by omega)]
 unfold ref02_Decode_k1
 rw [if_neg (by decide)]
 unfold ref02_Decode_k2
 rw [if_neg (by decide)]
 unfold ref02_Decode_k3
 rw [if_neg (by decide), if_neg (by decide), if_neg (by decide), if_neg (by decide)]
theorem rf_15 {w : Nat} (hw : w < 4294967296) : ref02_Decode_l1b w 15 = ref02_Decode_k4 w 15 (rd w 15).d (rd w 15).a (rd w 15).b (rd w 15).imm := by
 show _ = ref02_Decode_k4 w 15 ((w / 2097152 % 32 : Nat) : Int) 0 0 (0)
 unfold ref02_Decode_l1b
 rw [if_pos (by decide), ro_15, Option.bind_some]
 rw [if_pos rfl]
 have hd := rget_is w 6 5 (by decide) hw
 rw [show ref01_Get (w : Int) 6 5 = some ((w / 2097152 % 32 : Nat) : Int) from hd, Option.bind_some]
 rw [w64_id (x := ((w / 2097152 % 32 : Nat) : Int)) (by omega) (by omega)]
 unfold ref02_Decode_k1
 rw [if_neg (by decide)]
 unfold ref02_Decode_k2
 rw [if_neg (by decide)]
 unfold ref02_Decode_k3
 rw [if_neg (by decide), if_neg (by decide), if_neg (by decide), if_neg (by decide)]
theorem rf_16 {w : Nat} (hw : w < 4294967296) : ref02_Decode_l1b w 16 = ref02_Decode_k4 w 16 (rd w 16).d (rd w 16).a (rd w 16).b (rd w 16).imm := by
 show _ = ref02_Decode_k4 w 16 ((w / 2097152 % 32 : Nat) : Int) ((w / 65536 % 32 : Nat) : Int) ((w / 2048 % 32 : Nat) : Int) (0)
 unfold ref02_Decode_l1b
 rw [if_pos (by decide), ro_16, Option.bind_some]
 rw [if_pos rfl]
 have hd := rget_is w 6 5 (by decide) hw
 rw [show ref01_Get (w : Int) 6 5 = some ((w / 2097152 % 32 : Nat) : Int) from hd, Option.bind_some]
 rw [w64_id (x := ((w / 2097152 % 32 : Nat) : Int)) (by omega) (by omega)]
 unfold ref02_Decode_k1
 rw [if_pos rfl]
 have ha := rget_is w 11 5 (by decide) hw
 rw [show ref01_Get (w : Int) 11 5 = some ((w / 65536 % 32 : Nat) : Int) from ha, Option.bind_some]
 rw [w64_id (x := ((w / 65536 % 32 : Nat) : Int)) (by omega) (by omega)]
 unfold ref02_Decode_k2
 rw [if_pos rfl]
 have hb := rget_is w 16 5 (by decide) hw
 rw [show ref01_Get (w : Int) 16 5 = some ((w / 2048 % 32 : Nat) : Int) from hb, Option.bind_some]
 rw [w64_id (x := ((w / 2048 % 32 : Nat) : Int)) (by omega) (by omega)]
 unfold ref02_Decode_k3
 rw [if_neg (by decide), if_neg (by decide), if_neg (by decide), if_neg (by decide)]
theorem rf_17 {w : Nat} (hw : w < 4294967296) : ref02_Decode_l1b w 17 = ref02_Decode_k4 w 17 (rd w 17).d (rd w 17).a (rd w 17).b (rd w 17).imm := by
 show _ = ref02_Decode_k4 w 17 ((w / 2097152 % 32 : Nat) : Int) ((w / 65536 % 32 : Nat) : Int) ((w / 2048 % 32 : Nat) : Int) (0)
 unfold ref02_Decode_l1b
 rw [if_pos (by decide), ro_17, Option.bind_some]
 rw [if_pos rfl]
 have hd := rget_is w 6 5 (by decide) hw
 rw [show ref01_Get (w : Int) 6 5 = some ((w / 2097152 % 32 : Nat) : Int) from hd, Option.bind_some]
 rw [w64_id (x := ((w / 2097152 % 32 : Nat) : Int)) (by omega) (by omega)]
 unfold ref02_Decode_k1
 rw [if_pos rfl]
 have ha := rget_is w 11 5 (by decide) hw
 rw [show ref01_Get (w : Int) 11 5 = some ((w / 65536 % 32 : Nat) : Int) from ha, Option.bind_some]
 rw [w64_id (x := ((w / 65536 % 32 : Nat) : Int)) (by omega) (by omega)]
 unfold ref02_Decode_k2
 rw [if_pos rfl]
 have hb := rget_is w 16 5 (by decide) hw
 rw [show ref01_Get (w : Int) 16 5 = some ((w / 2048 % 32 : Nat) : Int) from hb, Option.bind_some]
 rw [w64_id (x := ((w / 2048 % 32 : Nat) : Int)) (by omega) (by omega)]
 unfold ref02_Decode_k3
 rw [if_neg (by decide), if_neg (by decide), if_neg (by decide), if_neg (by decide)]
theorem rf_18 {w : Nat} (hw : w < 4294967296) : ref02_Decode_l1b w 18 = ref02_Decode_k4 w 18 (rd w 18).d (rd w 18).a (rd w 18).b (rd w 18).imm := by
 show _ = ref02_Decode_k4 w 18 0 0 0 (0)
 unfold ref02_Decode_l1b
 rw [if_pos (by decide), ro_18, Option.bind_some]
 rw [if_neg (by decide)]
 unfold ref02_Decode_k1
 rw [if_neg (by decide)]
 unfold ref02_Decode_k2
 rw [if_neg (by decide)]
 unfold ref02_Decode_k3
 rw [if_neg (by decide), if_neg (by decide), if_neg (by decide), if_neg (by decide)]
theorem rf_19 {w : Nat} (hw : w < 4294967296) : ref02_Decode_l1b w 19 = ref02_Decode_k4 w 19 (rd w 19).d (rd w 19).a (rd w 19).b (rd w 19).imm := by
 show _ = ref02_Decode_k4 w 19 0 0 0 (0)
 unfold ref02_Decode_l1b
 rw [if_pos (by decide), ro_19, Option.bind_some]
 rw [if_neg (by decide)]
 unfold ref02_Decode_k1
 rw [if_neg (by decide)]
 unfold ref02_Decode_k2
 rw [if_neg (by decide)]
 unfold ref02_Decode_k3
 rw [if_neg (by decide), if_neg (by decide), if_neg (by decide), if_neg (by decide)]
theorem rf_20 {w : Nat} (hw : w < 4294967296) : ref02_Decode_l1b w 20 = ref02_Decode_k4 w 20 (rd w 20).d (rd w 20).a (rd w 20).b (rd w 20).imm := by
 show _ = ref02_Decode_k4 w 20 0 0 0 (0)
 unfold ref02_Decode_l1b
 rw [if_pos (by decide), ro_20, Option.bind_some]
 rw [if_neg (by decide)]
 unfold ref02_Decode_k1
 rw [if_neg (by decide)]
 unfold ref02_Decode_k2
 rw [if_neg (by decide)]
 unfold ref02_Decode_k3
 rw [if_neg (by decide), if_neg (by decide), if_neg (by decide), if_neg (by decide)]
theorem rf_21 {w : Nat} (hw : w < 4294967296) : ref02_Decode_l1b w 21 = ref02_Decode_k4 w 21 (rd w 21).d (rd w 21).a (rd w 21).b (rd w 21).imm := by
 show _ = ref02_Decode_k4 w 21 0 0 0 (sg 16 w)
 unfold ref02_Decode_l1b
 rw [if_pos (by decide), ro_21, Option.bind_some]
 rw [if_neg (by decide)]
 unfold ref02_Decode_k1
 rw [if_neg (by decide)]
 unfold ref02_Decode_k2
 rw [if_neg (by decide)]
 unfold ref02_Decode_k3
 have h := rsigned_is w 16 (by decide) (by decide) hw
 rw [if_pos (by decide), show ref01_Signed (w : Int) 16 = some (sg 16 w) from h, Option.bind_some]
theorem rf_22 {w : Nat} (hw : w < 4294967296) : ref02_Decode_l1b w 22 = ref02_Decode_k4 w 22 (rd w 22).d (rd w 22).a (rd w 22).b (rd w 22).imm := by
 show _ = ref02_Decode_k4 w 22 ((w / 2097152 % 32 : Nat) : Int) 0 0 (0)
 unfold ref02_Decode_l1b
 rw [if_pos (by decide), ro_22, Option.bind_some]
 rw [if_pos rfl]
 have hd := rget_is w 6 5 (by decide) hw
 rw [show ref01_Get (w : Int) 6 5 = some ((w / 2097152 % 32 : Nat) : Int) from hd, Option.bind_some]
 rw [w64_id (x := ((w / 2097152 % 32 : Nat) : Int)) (by omega) (by omega)]
 unfold ref02_Decode_k1
 rw [if_neg (by decide)]
 unfold ref02_Decode_k2
 rw [if_neg (by decide)]
 unfold ref02_Decode_k3
 rw [if_neg (by decide), if_neg (by decide), if_neg (by decide), if_neg (by decide)]
variable {d a b i : Int}
theorem rt_1 (h : b = 0 ∧ 0 ≤ d ∧ d < 32 ∧ 0 ≤ a ∧ a < 32 ∧ -32768 ≤ i ∧ i < 32768 ∧ i % 4 = 0) {w : Nat} (hw : (w : Int) = 3892314112 + d * 2097152 + a * 65536 + i % 65536) : rd w 1 = ⟨1, d, a, b, i⟩ := by
 have e1 : ((w / 2097152 % 32 : Nat) : Int) = d := by omega
 have e2 : ((w / 65536 % 32 : Nat) : Int) = a := by omega
 have e3 : 0 = b := by omega
 have e4 : 4 * sg 14 (w / 4 % 16384) = i := by
  have : sg 14 (w / 4 % 16384) = i / 4 := sg_eq (by decide) (by simp only [Nat.reducePow, Nat.reduceSub]; omega) (by simp only [Nat.reducePow, Nat.reduceSub]; omega) (by simp only [Nat.reducePow]; omega)
  rw [this]; omega
 show TInst.mk 1 ((w / 2097152 % 32 : Nat) : Int) ((w / 65536 % 32 : Nat) : Int) 0 (4 * sg 14 (w / 4 % 16384)) = _
 exact congr (congr (congr (congrArg (TInst.mk 1) e1) e2) e3) e4
theorem rt_2 (h : b = 0 ∧ 0 ≤ d ∧ d < 32 ∧ 0 ≤ a ∧ a < 32 ∧ -32768 ≤ i ∧ i < 32768 ∧ i % 4 = 0) {w : Nat} (hw : (w : Int) = 4160749568 + d * 2097152 + a * 65536 + i % 65536) : rd w 2 = ⟨2, d, a, b, i⟩ := by
 have e1 : ((w / 2097152 % 32 : Nat) : Int) = d := by omega
 have e2 : ((w / 65536 % 32 : Nat) : Int) = a := by omega
 have e3 : 0 = b := by omega
 have e4 : 4 * sg 14 (w / 4 % 16384) = i := by
  have : sg 14 (w / 4 % 16384) = i / 4 := sg_eq (by decide) (by simp only [Nat.reducePow, Nat.reduceSub]; omega) (by simp only [Nat.reducePow, Nat.reduceSub]; omega) (by simp only [Nat.reducePow]; omega)
  rw [this]; omega
 show TInst.mk 2 ((w / 2097152 % 32 : Nat) : Int) ((w / 65536 % 32 : Nat) : Int) 0 (4 * sg 14 (w / 4 % 16384)) = _
 exact congr (congr (congr (congrArg (TInst.mk 2) e1) e2) e3) e4
theorem rt_3 (h : b = 0 ∧ 0 ≤ d ∧ d < 32 ∧ 0 ≤ a ∧ a < 32 ∧ -32768 ≤ i ∧ i < 32768) {w : Nat} (hw : (w : Int) = 939524096 + d * 2097152 + a * 65536 + i % 65536) : rd w 3 = ⟨3, d, a, b, i⟩ := by
 have e1 : ((w / 2097152 % 32 : Nat) : Int) = d := by omega
 have e2 : ((w / 65536 % 32 : Nat) : Int) = a := by omega
 have e3 : 0 = b := by omega
 have e4 : sg 16 w = i := sg_eq (by decide) (by simp only [Nat.reducePow, Nat.reduceSub]; omega) (by simp only [Nat.reducePow, Nat.reduceSub]; omega) (by simp only [Nat.reducePow]; omega)
 show TInst.mk 3 ((w / 2097152 % 32 : Nat) : Int) ((w / 65536 % 32 : Nat) : Int) 0 (sg 16 w) = _
 exact congr (congr (congr (congrArg (TInst.mk 3) e1) e2) e3) e4
theorem rt_4 (h : i = 0 ∧ 0 ≤ d ∧ d < 32 ∧ 0 ≤ a ∧ a < 32 ∧ 0 ≤ b ∧ b < 32) {w : Nat} (hw : (w : Int) = 2080375316 + d * 2097152 + a * 65536 + b * 2048) : rd w 4 = ⟨4, d, a, b, i⟩ := by
 have e1 : ((w / 2097152 % 32 : Nat) : Int) = d := by omega
 have e2 : ((w / 65536 % 32 : Nat) : Int) = a := by omega
 have e3 : ((w / 2048 % 32 : Nat) : Int) = b := by omega
 have e4 : 0 = i := by omega
 show TInst.mk 4 ((w / 2097152 % 32 : Nat) : Int) ((w / 65536 % 32 : Nat) : Int) ((w / 2048 % 32 : Nat) : Int) (0) = _
 exact congr (congr (congr (congrArg (TInst.mk 4) e1) e2) e3) e4
theorem rt_5 (h : i = 0 ∧ 0 ≤ d ∧ d < 32 ∧ 0 ≤ a ∧ a < 32 ∧ 0 ≤ b ∧ b < 32) {w : Nat} (hw : (w : Int) = 2080374864 + d * 2097152 + a * 65536 + b * 2048) : rd w 5 = ⟨5, d, a, b, i⟩ := by
 have e1 : ((w / 2097152 % 32 : Nat) : Int) = d := by omega
 have e2 : ((w / 65536 % 32 : Nat) : Int) = a := by omega
 have e3 : ((w / 2048 % 32 : Nat) : Int) = b := by omega
 have e4 : 0 = i := by omega
 show TInst.mk 5 ((w / 2097152 % 32 : Nat) : Int) ((w / 65536 % 32 : Nat) : Int) ((w / 2048 % 32 : Nat) : Int) (0) = _
 exact congr (congr (congr (congrArg (TInst.mk 5) e1) e2) e3) e4
theorem rt_6 (h : i = 0 ∧ 0 ≤ d ∧ d < 32 ∧ 0 ≤ a ∧ a < 32 ∧ 0 ≤ b ∧ b < 32) {w : Nat} (hw : (w : Int) = 2080375250 + d * 2097152 + a * 65536 + b * 2048) : rd w 6 = ⟨6, d, a, b, i⟩ := by
 have e1 : ((w / 2097152 % 32 : Nat) : Int) = d := by omega
 have e2 : ((w / 65536 % 32 : Nat) : Int) = a := by omega
 have e3 : ((w / 2048 % 32 : Nat) : Int) = b := by omega
 have e4 : 0 = i := by omega
 show TInst.mk 6 ((w / 2097152 % 32 : Nat) : Int) ((w / 65536 % 32 : Nat) : Int) ((w / 2048 % 32 : Nat) : Int) (0) = _
 exact congr (congr (congr (congrArg (TInst.mk 6) e1) e2) e3) e4
theorem rt_7 (h : i = 0 ∧ 0 ≤ d ∧ d < 32 ∧ 0 ≤ a ∧ a < 32 ∧ 0 ≤ b ∧ b < 32) {w : Nat} (hw : (w : Int) = 2080375762 + d * 2097152 + a * 65536 + b * 2048) : rd w 7 = ⟨7, d, a, b, i⟩ := by
 have e1 : ((w / 2097152 % 32 : Nat) : Int) = d := by omega
 have e2 : ((w / 65536 % 32 : Nat) : Int) = a := by omega
 have e3 : ((w / 2048 % 32 : Nat) : Int) = b := by omega
 have e4 : 0 = i := by omega
 show TInst.mk 7 ((w / 2097152 % 32 : Nat) : Int) ((w / 65536 % 32 : Nat) : Int) ((w / 2048 % 32 : Nat) : Int) (0) = _
 exact congr (congr (congr (congrArg (TInst.mk 7) e1) e2) e3) e4
theorem rt_8 (h : d = 0 ∧ i = 0 ∧ 0 ≤ a ∧ a < 32 ∧ 0 ≤ b ∧ b < 32) {w : Nat} (hw : (w : Int) = 2082471936 + a * 65536 + b * 2048) : rd w 8 = ⟨8, d, a, b, i⟩ := by
 have e1 : 0 = d := by omega
 have e2 : ((w / 65536 % 32 : Nat) : Int) = a := by omega
 have e3 : ((w / 2048 % 32 : Nat) : Int) = b := by omega
 have e4 : 0 = i := by omega
 show TInst.mk 8 0 ((w / 65536 % 32 : Nat) : Int) ((w / 2048 % 32 : Nat) : Int) (0) = _
 exact congr (congr (congr (congrArg (TInst.mk 8) e1) e2) e3) e4
theorem rt_9 (h : d = 0 ∧ b = 0 ∧ 0 ≤ a ∧ a < 32 ∧ -32768 ≤ i ∧ i < 32768) {w : Nat} (hw : (w : Int) = 740294656 + a * 65536 + i % 65536) : rd w 9 = ⟨9, d, a, b, i⟩ := by
 have e1 : 0 = d := by omega
 have e2 : ((w / 65536 % 32 : Nat) : Int) = a := by omega
 have e3 : 0 = b := by omega
 have e4 : sg 16 w = i := sg_eq (by decide) (by simp only [Nat.reducePow, Nat.reduceSub]; omega) (by simp only [Nat.reducePow, Nat.reduceSub]; omega) (by simp only [Nat.reducePow]; omega)
 show TInst.mk 9 0 ((w / 65536 % 32 : Nat) : Int) 0 (sg 16 w) = _
 exact congr (congr (congr (congrArg (TInst.mk 9) e1) e2) e3) e4
theorem rt_10 (h : b = 0 ∧ (d = 4 ∨ d = 12) ∧ 0 ≤ a ∧ a < 3 ∧ -8192 ≤ i ∧ i < 8192) {w : Nat} (hw : (w : Int) = 1073741824 + d * 2097152 + a * 65536 + i % 16384 * 4) : rd w 10 = ⟨10, d, a, b, i⟩ := by
 have e1 : ((w / 2097152 % 32 : Nat) : Int) = d := by omega
 have e2 : ((w / 65536 % 32 : Nat) : Int) = a := by omega
 have e3 : 0 = b := by omega
 have e4 : sg 14 (w / 4 % 16384) = i := sg_eq (by decide) (by simp only [Nat.reducePow, Nat.reduceSub]; omega) (by simp only [Nat.reducePow, Nat.reduceSub]; omega) (by simp only [Nat.reducePow]; omega)
 show TInst.mk 10 ((w / 2097152 % 32 : Nat) : Int) ((w / 65536 % 32 : Nat) : Int) 0 (sg 14 (w / 4 % 16384)) = _
 exact congr (congr (congr (congrArg (TInst.mk 10) e1) e2) e3) e4
theorem rt_11 (h : d = 0 ∧ a = 0 ∧ b = 0 ∧ -8388608 ≤ i ∧ i < 8388608) {w : Nat} (hw : (w : Int) = 1207959552 + i % 16777216 * 4) : rd w 11 = ⟨11, d, a, b, i⟩ := by
 have e1 : 0 = d := by omega
 have e2 : 0 = a := by omega
 have e3 : 0 = b := by omega
 have e4 : sg 24 (w / 4 % 16777216) = i := sg_eq (by decide) (by simp only [Nat.reducePow, Nat.reduceSub]; omega) (by simp only [Nat.reducePow, Nat.reduceSub]; omega) (by simp only [Nat.reducePow]; omega)
 show TInst.mk 11 0 0 0 (sg 24 (w / 4 % 16777216)) = _
 exact congr (congr (congr (congrArg (TInst.mk 11) e1) e2) e3) e4
theorem rt_12 (h : d = 0 ∧ a = 0 ∧ b = 0 ∧ -8388608 ≤ i ∧ i < 8388608) {w : Nat} (hw : (w : Int) = 1207959553 + i % 16777216 * 4) : rd w 12 = ⟨12, d, a, b, i⟩ := by
 have e1 : 0 = d := by omega
 have e2 : 0 = a := by omega
 have e3 : 0 = b := by omega
 have e4 : sg 24 (w / 4 % 16777216) = i := sg_eq (by decide) (by simp only [Nat.reducePow, Nat.reduceSub]; omega) (by simp only [Nat.reducePow, Nat.reduceSub]; omega) (by simp only [Nat.reducePow]; omega)
 show TInst.mk 12 0 0 0 (sg 24 (w / 4 % 16777216)) = _
 exact congr (congr (congr (congrArg (TInst.mk 12) e1) e2) e3) e4
theorem rt_13 (h : d = 0 ∧ a = 0 ∧ b = 0 ∧ i = 0) {w : Nat} (hw : (w : Int) = 1317011488) : rd w 13 = ⟨13, d, a, b, i⟩ := by
 have e1 : 0 = d := by omega
 have e2 : 0 = a := by omega
 have e3 : 0 = b := by omega
 have e4 : 0 = i := by omega
 show TInst.mk 13 0 0 0 (0) = _
 exact congr (congr (congr (congrArg (TInst.mk 13) e1) e2) e3) e4
theorem rt_14 (h : a = 0 ∧ b = 0 ∧ i = 0 ∧ 0 ≤ d ∧ d < 32) {w : Nat} (hw : (w : Int) = 2080899750 + d * 2097152) : rd w 14 = ⟨14, d, a, b, i⟩ := by
 have e1 : ((w / 2097152 % 32 : Nat) : Int) = d := by omega
 have e2 : 0 = a := by omega
 have e3 : 0 = b := by omega
 have e4 : 0 = i := by omega
 show TInst.mk 14 ((w / 2097152 % 32 : Nat) : Int) 0 0 (0) = _
 exact congr (congr (congr (congrArg (TInst.mk 14) e1) e2) e3) e4
theorem rt_15 (h : a = 0 ∧ b = 0 ∧ i = 0 ∧ 0 ≤ d ∧ d < 32) {w : Nat} (hw : (w : Int) = 2080900006 + d * 2097152) : rd w 15 = ⟨15, d, a, b, i⟩ := by
 have e1 : ((w / 2097152 % 32 : Nat) : Int) = d := by omega
 have e2 : 0 = a := by omega
 have e3 : 0 = b := by omega
 have e4 : 0 = i := by omega
 show TInst.mk 15 ((w / 2097152 % 32 : Nat) : Int) 0 0 (0) = _
 exact congr (congr (congr (congrArg (TInst.mk 15) e1) e2) e3) e4
theorem rt_16 (h : i = 0 ∧ 0 ≤ d ∧ d < 32 ∧ 0 ≤ a ∧ a < 32 ∧ 0 ≤ b ∧ b < 32) {w : Nat} (hw : (w : Int) = 2080374952 + d * 2097152 + a * 65536 + b * 2048) : rd w 16 = ⟨16, d, a, b, i⟩ := by
 have e1 : ((w / 2097152 % 32 : Nat) : Int) = d := by omega
 have e2 : ((w / 65536 % 32 : Nat) : Int) = a := by omega
 have e3 : ((w / 2048 % 32 : Nat) : Int) = b := by omega
 have e4 : 0 = i := by omega
 show TInst.mk 16 ((w / 2097152 % 32 : Nat) : Int) ((w / 65536 % 32 : Nat) : Int) ((w / 2048 % 32 : Nat) : Int) (0) = _
 exact congr (congr (congr (congrArg (TInst.mk 16) e1) e2) e3) e4
theorem rt_17 (h : i = 0 ∧ 0 ≤ d ∧ d < 32 ∧ 0 ≤ a ∧ a < 32 ∧ 0 ≤ b ∧ b < 32) {w : Nat} (hw : (w : Int) = 2080375213 + d * 2097152 + a * 65536 + b * 2048) : rd w 17 = ⟨17, d, a, b, i⟩ := by
 have e1 : ((w / 2097152 % 32 : Nat) : Int) = d := by omega
 have e2 : ((w / 65536 % 32 : Nat) : Int) = a := by omega
 have e3 : ((w / 2048 % 32 : Nat) : Int) = b := by omega
 have e4 : 0 = i := by omega
 show TInst.mk 17 ((w / 2097152 % 32 : Nat) : Int) ((w / 65536 % 32 : Nat) : Int) ((w / 2048 % 32 : Nat) : Int) (0) = _
 exact congr (congr (congr (congrArg (TInst.mk 17) e1) e2) e3) e4
theorem rt_18 (h : d = 0 ∧ a = 0 ∧ b = 0 ∧ i = 0) {w : Nat} (hw : (w : Int) = 2080375980) : rd w 18 = ⟨18, d, a, b, i⟩ := by
 have e1 : 0 = d := by omega
 have e2 : 0 = a := by omega
 have e3 : 0 = b := by omega
 have e4 : 0 = i := by omega
 show TInst.mk 18 0 0 0 (0) = _
 exact congr (congr (congr (congrArg (TInst.mk 18) e1) e2) e3) e4
theorem rt_19 (h : d = 0 ∧ a = 0 ∧ b = 0 ∧ i = 0) {w : Nat} (hw : (w : Int) = 2082473132) : rd w 19 = ⟨19, d, a, b, i⟩ := by
 have e1 : 0 = d := by omega
 have e2 : 0 = a := by omega
 have e3 : 0 = b := by omega
 have e4 : 0 = i := by omega
 show TInst.mk 19 0 0 0 (0) = _
 exact congr (congr (congr (congrArg (TInst.mk 19) e1) e2) e3) e4
theorem rt_20 (h : d = 0 ∧ a = 0 ∧ b = 0 ∧ i = 0) {w : Nat} (hw : (w : Int) = 1275068716) : rd w 20 = ⟨20, d, a, b, i⟩ := by
 have e1 : 0 = d := by omega
 have e2 : 0 = a := by omega
 have e3 : 0 = b := by omega
 have e4 : 0 = i := by omega
 show TInst.mk 20 0 0 0 (0) = _
 exact congr (congr (congr (congrArg (TInst.mk 20) e1) e2) e3) e4
theorem rt_21 (h : d = 0 ∧ a = 0 ∧ b = 0 ∧ 0 ≤ i ∧ i < 32768) {w : Nat} (hw : (w : Int) = 266338304 + i % 65536) : rd w 21 = ⟨21, d, a, b, i⟩ := by
 have e1 : 0 = d := by omega
 have e2 : 0 = a := by omega
 have e3 : 0 = b := by omega
 have e4 : sg 16 w = i := sg_eq (by decide) (by simp only [Nat.reducePow, Nat.reduceSub]; omega) (by simp only [Nat.reducePow, Nat.reduceSub]; omega) (by simp only [Nat.reducePow]; omega)
 show TInst.mk 21 0 0 0 (sg 16 w) = _
 exact congr (congr (congr (congrArg (TInst.mk 21) e1) e2) e3) e4
theorem rt_22 (h : a = 0 ∧ b = 0 ∧ i = 0 ∧ 0 ≤ d ∧ d < 32) {w : Nat} (hw : (w : Int) = 1140850690 + d * 2097152) : rd w 22 = ⟨22, d, a, b, i⟩ := by
 have e1 : ((w / 2097152 % 32 : Nat) : Int) = d := by omega
 have e2 : 0 = a := by omega
 have e3 : 0 = b := by omega
 have e4 : 0 = i := by omega
 show TInst.mk 22 ((w / 2097152 % 32 : Nat) : Int) 0 0 (0) = _
 exact congr (congr (congr (congrArg (TInst.mk 22) e1) e2) e3) e4
def ky (w : Nat) : Nat × Nat := (w / 67108864, if w / 67108864 = 31 then (if w % 2048 = 1196 then w % 67108864 else w % 2048) else if w / 67108864 = 19 then w % 2048 else if w / 67108864 = 18 then w % 4 else 0)
theorem ky_1 (h : b = 0 ∧ 0 ≤ d ∧ d < 32 ∧ 0 ≤ a ∧ a < 32 ∧ -32768 ≤ i ∧ i < 32768 ∧ i % 4 = 0) {w : Nat} (hw : (w : Int) = 3892314112 + d * 2097152 + a * 65536 + i % 65536) : ky w = (58, 0) := by
 have e : w / 67108864 = 58 := by omega
 unfold ky
 rw [e]
 rw [if_neg (by decide), if_neg (by decide), if_neg (by decide)]
theorem ky_2 (h : b = 0 ∧ 0 ≤ d ∧ d < 32 ∧ 0 ≤ a ∧ a < 32 ∧ -32768 ≤ i ∧ i < 32768 ∧ i % 4 = 0) {w : Nat} (hw : (w : Int) = 4160749568 + d * 2097152 + a * 65536 + i % 65536) : ky w = (62, 0) := by
 have e : w / 67108864 = 62 := by omega
 unfold ky
 rw [e]
 rw [if_neg (by decide), if_neg (by decide), if_neg (by decide)]
theorem ky_3 (h : b = 0 ∧ 0 ≤ d ∧ d < 32 ∧ 0 ≤ a ∧ a < 32 ∧ -32768 ≤ i ∧ i < 32768) {w : Nat} (hw : (w : Int) = 939524096 + d * 2097152 + a * 65536 + i % 65536) : ky w = (14, 0) := by
 have e : w / 67108864 = 14 := by omega
 unfold ky
 rw [e]
 rw [if_neg (by decide), if_neg (by decide), if_neg (by decide)]
theorem ky_4 (h : i = 0 ∧ 0 ≤ d ∧ d < 32 ∧ 0 ≤ a ∧ a < 32 ∧ 0 ≤ b ∧ b < 32) {w : Nat} (hw : (w : Int) = 2080375316 + d * 2097152 + a * 65536 + b * 2048) : ky w = (31, 532) := by
 have e : w / 67108864 = 31 := by omega
 unfold ky
 rw [e]
 rw [if_pos rfl, if_neg (by omega)]
 have e2 : w % 2048 = 532 := by omega
 rw [e2]
theorem ky_5 (h : i = 0 ∧ 0 ≤ d ∧ d < 32 ∧ 0 ≤ a ∧ a < 32 ∧ 0 ≤ b ∧ b < 32) {w : Nat} (hw : (w : Int) = 2080374864 + d * 2097152 + a * 65536 + b * 2048) : ky w = (31, 80) := by
 have e : w / 67108864 = 31 := by omega
 unfold ky
 rw [e]
 rw [if_pos rfl, if_neg (by omega)]
 have e2 : w % 2048 = 80 := by omega
 rw [e2]
theorem ky_6 (h : i = 0 ∧ 0 ≤ d ∧ d < 32 ∧ 0 ≤ a ∧ a < 32 ∧ 0 ≤ b ∧ b < 32) {w : Nat} (hw : (w : Int) = 2080375250 + d * 2097152 + a * 65536 + b * 2048) : ky w = (31, 466) := by
 have e : w / 67108864 = 31 := by omega
 unfold ky
 rw [e]
 rw [if_pos rfl, if_neg (by omega)]
 have e2 : w % 2048 = 466 := by omega
 rw [e2]
theorem ky_7 (h : i = 0 ∧ 0 ≤ d ∧ d < 32 ∧ 0 ≤ a ∧ a < 32 ∧ 0 ≤ b ∧ b < 32) {w : Nat} (hw : (w : Int) = 2080375762 + d * 2097152 + a * 65536 + b * 2048) : ky w = (31, 978) := by
 have e : w / 67108864 = 31 := by omega
 unfold ky
 rw [e]
 rw [if_pos rfl, if_neg (by omega)]
 have e2 : w % 2048 = 978 := by omega
 rw [e2]
theorem ky_8 (h : d = 0 ∧ i = 0 ∧ 0 ≤ a ∧ a < 32 ∧ 0 ≤ b ∧ b < 32) {w : Nat} (hw : (w : Int) = 2082471936 + a * 65536 + b * 2048) : ky w = (31, 0) := by
 have e : w / 67108864 = 31 := by omega
 unfold ky
 rw [e]
 rw [if_pos rfl, if_neg (by omega)]
 have e2 : w % 2048 = 0 := by omega
 rw [e2]
theorem ky_9 (h : d = 0 ∧ b = 0 ∧ 0 ≤ a ∧ a < 32 ∧ -32768 ≤ i ∧ i < 32768) {w : Nat} (hw : (w : Int) = 740294656 + a * 65536 + i % 65536) : ky w = (11, 0) := by
 have e : w / 67108864 = 11 := by omega
 unfold ky
 rw [e]
 rw [if_neg (by decide), if_neg (by decide), if_neg (by decide)]
theorem ky_10 (h : b = 0 ∧ (d = 4 ∨ d = 12) ∧ 0 ≤ a ∧ a < 3 ∧ -8192 ≤ i ∧ i < 8192) {w : Nat} (hw : (w : Int) = 1073741824 + d * 2097152 + a * 65536 + i % 16384 * 4) : ky w = (16, 0) := by
 have e : w / 67108864 = 16 := by omega
 unfold ky
 rw [e]
 rw [if_neg (by decide), if_neg (by decide), if_neg (by decide)]
theorem ky_11 (h : d = 0 ∧ a = 0 ∧ b = 0 ∧ -8388608 ≤ i ∧ i < 8388608) {w : Nat} (hw : (w : Int) = 1207959552 + i % 16777216 * 4) : ky w = (18, 0) := by
 have e : w / 67108864 = 18 := by omega
 unfold ky
 rw [e]
 rw [if_neg (by decide), if_neg (by decide), if_pos rfl]
 have e2 : w % 4 = 0 := by omega
 rw [e2]
theorem ky_12 (h : d = 0 ∧ a = 0 ∧ b = 0 ∧ -8388608 ≤ i ∧ i < 8388608) {w : Nat} (hw : (w : Int) = 1207959553 + i % 16777216 * 4) : ky w = (18, 1) := by
 have e : w / 67108864 = 18 := by omega
 unfold ky
 rw [e]
 rw [if_neg (by decide), if_neg (by decide), if_pos rfl]
 have e2 : w % 4 = 1 := by omega
 rw [e2]
theorem ky_13 (h : d = 0 ∧ a = 0 ∧ b = 0 ∧ i = 0) {w : Nat} (hw : (w : Int) = 1317011488) : ky w = (19, 32) := by
 have e : w / 67108864 = 19 := by omega
 unfold ky
 rw [e]
 rw [if_neg (by decide), if_pos rfl]
 have e2 : w % 2048 = 32 := by omega
 rw [e2]
theorem ky_14 (h : a = 0 ∧ b = 0 ∧ i = 0 ∧ 0 ≤ d ∧ d < 32) {w : Nat} (hw : (w : Int) = 2080899750 + d * 2097152) : ky w = (31, 678) := by
 have e : w / 67108864 = 31 := by omega
 unfold ky
 rw [e]
 rw [if_pos rfl, if_neg (by omega)]
 have e2 : w % 2048 = 678 := by omega
 rw [e2]
theorem ky_15 (h : a = 0 ∧ b = 0 ∧ i = 0 ∧ 0 ≤ d ∧ d < 32) {w : Nat} (hw : (w : Int) = 2080900006 + d * 2097152) : ky w = (31, 934) := by
 have e : w / 67108864 = 31 := by omega
 unfold ky
 rw [e]
 rw [if_pos rfl, if_neg (by omega)]
 have e2 : w % 2048 = 934 := by omega
 rw [e2]
theorem ky_16 (h : i = 0 ∧ 0 ≤ d ∧ d < 32 ∧ 0 ≤ a ∧ a < 32 ∧ 0 ≤ b ∧ b < 32) {w : Nat} (hw : (w : Int) = 2080374952 + d * 2097152 + a * 65536 + b * 2048) : ky w = (31, 168) := by
 have e : w / 67108864 = 31 := by omega
 unfold ky
 rw [e]
 rw [if_pos rfl, if_neg (by omega)]
 have e2 : w % 2048 = 168 := by omega
 rw [e2]
theorem ky_17 (h : i = 0 ∧ 0 ≤ d ∧ d < 32 ∧ 0 ≤ a ∧ a < 32 ∧ 0 ≤ b ∧ b < 32) {w : Nat} (hw : (w : Int) = 2080375213 + d * 2097152 + a * 65536 + b * 2048) : ky w = (31, 429) := by
 have e : w / 67108864 = 31 := by omega
 unfold ky
 rw [e]
 rw [if_pos rfl, if_neg (by omega)]
 have e2 : w % 2048 = 429 := by omega
 rw [e2]
theorem ky_18 (h : d = 0 ∧ a = 0 ∧ b = 0 ∧ i = 0) {w : Nat} (hw : (w : Int) = 2080375980) : ky w = (31, 1196) := by
 have e : w / 67108864 = 31 := by omega
 unfold ky
 rw [e]
 rw [if_pos rfl, if_pos (by omega)]
 have e2 : w % 67108864 = 1196 := by omega
 rw [e2]
theorem ky_19 (h : d = 0 ∧ a = 0 ∧ b = 0 ∧ i = 0) {w : Nat} (hw : (w : Int) = 2082473132) : ky w = (31, 2098348) := by
 have e : w / 67108864 = 31 := by omega
 unfold ky
 rw [e]
 rw [if_pos rfl, if_pos (by omega)]
 have e2 : w % 67108864 = 2098348 := by omega
 rw [e2]
theorem ky_20 (h : d = 0 ∧ a = 0 ∧ b = 0 ∧ i = 0) {w : Nat} (hw : (w : Int) = 1275068716) : ky w = (19, 300) := by
 have e : w / 67108864 = 19 := by omega
 unfold ky
 rw [e]
 rw [if_neg (by decide), if_pos rfl]
 have e2 : w % 2048 = 300 := by omega
 rw [e2]
theorem ky_21 (h : d = 0 ∧ a = 0 ∧ b = 0 ∧ 0 ≤ i ∧ i < 32768) {w : Nat} (hw : (w : Int) = 266338304 + i % 65536) : ky w = (3, 0) := by
 have e : w / 67108864 = 3 := by omega
 unfold ky
 rw [e]
 rw [if_neg (by decide), if_neg (by decide), if_neg (by decide)]
theorem ky_22 (h : a = 0 ∧ b = 0 ∧ i = 0 ∧ 0 ≤ d ∧ d < 32) {w : Nat} (hw : (w : Int) = 1140850690 + d * 2097152) : ky w = (17, 0) := by
 have e : w / 67108864 = 17 := by omega
 unfold ky
 rw [e]
 rw [if_neg (by decide), if_neg (by decide), if_neg (by decide)]
def kv : Nat → Nat × Nat
 | 1 => (58, 0)
 | 2 => (62, 0)
 | 3 => (14, 0)
 | 4 => (31, 532)
 | 5 => (31, 80)
 | 6 => (31, 466)
 | 7 => (31, 978)
 | 8 => (31, 0)
 | 9 => (11, 0)
 | 10 => (16, 0)
 | 11 => (18, 0)
 | 12 => (18, 1)
 | 13 => (19, 32)
 | 14 => (31, 678)
 | 15 => (31, 934)
 | 16 => (31, 168)
 | 17 => (31, 429)
 | 18 => (31, 1196)
 | 19 => (31, 2098348)
 | 20 => (19, 300)
 | 21 => (3, 0)
 | 22 => (17, 0)
 | _ => (0, 0)
theorem kv_inj {j k : Nat} (h1 : 1 ≤ j) (h2 : j ≤ 22) (h3 : 1 ≤ k) (h4 : k ≤ 22) (h : kv j = kv k) : j = k := by
 have : ∀ x : Fin 22, ∀ y : Fin 22, kv (x.val + 1) = kv (y.val + 1) → x = y := by decide +kernel
 have h5 := this ⟨j - 1, by omega⟩ ⟨k - 1, by omega⟩ (by simp only [Nat.sub_add_cancel h1, Nat.sub_add_cancel h3]; exact h)
 have h6 := congrArg Fin.val h5
 simp only at h6
 omega
theorem of22 {Q : Nat → Prop} (h1 : Q 1) (h2 : Q 2) (h3 : Q 3) (h4 : Q 4) (h5 : Q 5) (h6 : Q 6) (h7 : Q 7) (h8 : Q 8) (h9 : Q 9) (h10 : Q 10) (h11 : Q 11) (h12 : Q 12) (h13 : Q 13) (h14 : Q 14) (h15 : Q 15) (h16 : Q 16) (h17 : Q 17) (h18 : Q 18) (h19 : Q 19) (h20 : Q 20) (h21 : Q 21) (h22 : Q 22) : ∀ k, 1 ≤ k → k ≤ 22 → Q k := by
 intro k g1 g2
 have : k = 1 ∨ k = 2 ∨ k = 3 ∨ k = 4 ∨ k = 5 ∨ k = 6 ∨ k = 7 ∨ k = 8 ∨ k = 9 ∨ k = 10 ∨ k = 11 ∨ k = 12 ∨ k = 13 ∨ k = 14 ∨ k = 15 ∨ k = 16 ∨ k = 17 ∨ k = 18 ∨ k = 19 ∨ k = 20 ∨ k = 21 ∨ k = 22 := by omega
 rcases this with rfl | rfl | rfl | rfl | rfl | rfl | rfl | rfl | rfl | rfl | rfl | rfl | rfl | rfl | rfl | rfl | rfl | rfl | rfl | rfl | rfl | rfl
 ·exact h1
 ·exact h2
 ·exact h3
 ·exact h4
 ·exact h5
 ·exact h6
 ·exact h7
 ·exact h8
 ·exact h9
 ·exact h10
 ·exact h11
 ·exact h12
 ·exact h13
 ·exact h14
 ·exact h15
 ·exact h16
 ·exact h17
 ·exact h18
 ·exact h19
 ·exact h20
 ·exact h21
 ·exact h22
structure Kn (q : TInst) (g : Bool) (E : Int) : Prop where
 g1 : isa_Good q = some g
 g2 : ref02_Good q = some g
 e1 : g = true → isa_Encode q = some (E, 0)
 e2 : g = true → ref02_Encode q = some E
 pos : g = true → 0 < E ∧ E < 4294967296
 rt : g = true → rd E.toNat q.op.toNat = q
 ke : g = true → ky E.toNat = kv q.op.toNat
 e0 : g = false → isa_Encode q = some (0, 1)
theorem kn_nat : ∀ k : Nat, 1 ≤ k → k ≤ 22 → ∀ d a b i, ∃ g E, Kn ⟨(k : Int), d, a, b, i⟩ g E := by
 refine of22 ?_ ?_ ?_ ?_ ?_ ?_ ?_ ?_ ?_ ?_ ?_ ?_ ?_ ?_ ?_ ?_ ?_ ?_ ?_ ?_ ?_ ?_
 ·intro d a b i
  have hE : ∀ _ : decide (b = 0 ∧ 0 ≤ d ∧ d < 32 ∧ 0 ≤ a ∧ a < 32 ∧ -32768 ≤ i ∧ i < 32768 ∧ i % 4 = 0) = true, (0 : Int) < (3892314112 + d * 2097152 + a * 65536 + i % 65536) ∧ (3892314112 + d * 2097152 + a * 65536 + i % 65536 : Int) < 4294967296 := by intro h; have h := of_decide_eq_true h; omega
  refine ⟨decide (b = 0 ∧ 0 ≤ d ∧ d < 32 ∧ 0 ≤ a ∧ a < 32 ∧ -32768 ≤ i ∧ i < 32768 ∧ i % 4 = 0), 3892314112 + d * 2097152 + a * 65536 + i % 65536, ig_1 d a b i, ig2_1 d a b i, fun h => en_1 d a b i (of_decide_eq_true h), fun h => re_1 d a b i (of_decide_eq_true h), hE, fun h => rt_1 (of_decide_eq_true h) (Int.toNat_of_nonneg (by have := hE h; omega)), fun h => ky_1 (of_decide_eq_true h) (Int.toNat_of_nonneg (by have := hE h; omega)), fun h => enc_bad _ ((ig_1 d a b i).trans (congrArg some h))⟩
 ·intro d a b i
  have hE : ∀ _ : decide (b = 0 ∧ 0 ≤ d ∧ d < 32 ∧ 0 ≤ a ∧ a < 32 ∧ -32768 ≤ i ∧ i < 32768 ∧ i % 4 = 0) = true, (0 : Int) < (4160749568 + d * 2097152 + a * 65536 + i % 65536) ∧ (4160749568 + d * 2097152 + a * 65536 + i % 65536 : Int) < 4294967296 := by intro h; have h := of_decide_eq_true h; omega
  refine ⟨decide (b = 0 ∧ 0 ≤ d ∧ d < 32 ∧ 0 ≤ a ∧ a < 32 ∧ -32768 ≤ i ∧ i < 32768 ∧ i % 4 = 0), 4160749568 + d * 2097152 + a * 65536 + i % 65536, ig_2 d a b i, ig2_2 d a b i, fun h => en_2 d a b i (of_decide_eq_true h), fun h => re_2 d a b i (of_decide_eq_true h), hE, fun h => rt_2 (of_decide_eq_true h) (Int.toNat_of_nonneg (by have := hE h; omega)), fun h => ky_2 (of_decide_eq_true h) (Int.toNat_of_nonneg (by have := hE h; omega)), fun h => enc_bad _ ((ig_2 d a b i).trans (congrArg some h))⟩
 ·intro d a b i
  have hE : ∀ _ : decide (b = 0 ∧ 0 ≤ d ∧ d < 32 ∧ 0 ≤ a ∧ a < 32 ∧ -32768 ≤ i ∧ i < 32768) = true, (0 : Int) < (939524096 + d * 2097152 + a * 65536 + i % 65536) ∧ (939524096 + d * 2097152 + a * 65536 + i % 65536 : Int) < 4294967296 := by intro h; have h := of_decide_eq_true h; omega
  refine ⟨decide (b = 0 ∧ 0 ≤ d ∧ d < 32 ∧ 0 ≤ a ∧ a < 32 ∧ -32768 ≤ i ∧ i < 32768), 939524096 + d * 2097152 + a * 65536 + i % 65536, ig_3 d a b i, ig2_3 d a b i, fun h => en_3 d a b i (of_decide_eq_true h), fun h => re_3 d a b i (of_decide_eq_true h), hE, fun h => rt_3 (of_decide_eq_true h) (Int.toNat_of_nonneg (by have := hE h; omega)), fun h => ky_3 (of_decide_eq_true h) (Int.toNat_of_nonneg (by have := hE h; omega)), fun h => enc_bad _ ((ig_3 d a b i).trans (congrArg some h))⟩
 ·intro d a b i
  have hE : ∀ _ : decide (i = 0 ∧ 0 ≤ d ∧ d < 32 ∧ 0 ≤ a ∧ a < 32 ∧ 0 ≤ b ∧ b < 32) = true, (0 : Int) < (2080375316 + d * 2097152 + a * 65536 + b * 2048) ∧ (2080375316 + d * 2097152 + a * 65536 + b * 2048 : Int) < 4294967296 := by intro h; have h := of_decide_eq_true h; omega
  refine ⟨decide (i = 0 ∧ 0 ≤ d ∧ d < 32 ∧ 0 ≤ a ∧ a < 32 ∧ 0 ≤ b ∧ b < 32), 2080375316 + d * 2097152 + a * 65536 + b * 2048, ig_4 d a b i, ig2_4 d a b i, fun h => en_4 d a b i (of_decide_eq_true h), fun h => re_4 d a b i (of_decide_eq_true h), hE, fun h => rt_4 (of_decide_eq_true h) (Int.toNat_of_nonneg (by have := hE h; omega)), fun h => ky_4 (of_decide_eq_true h) (Int.toNat_of_nonneg (by have := hE h; omega)), fun h => enc_bad _ ((ig_4 d a b i).trans (congrArg some h))⟩
 ·intro d a b i
  have hE : ∀ _ : decide (i = 0 ∧ 0 ≤ d ∧ d < 32 ∧ 0 ≤ a ∧ a < 32 ∧ 0 ≤ b ∧ b < 32) = true, (0 : Int) < (2080374864 + d * 2097152 + a * 65536 + b * 2048) ∧ (2080374864 + d * 2097152 + a * 65536 + b * 2048 : Int) < 4294967296 := by intro h; have h := of_decide_eq_true h; omega
  refine ⟨decide (i = 0 ∧ 0 ≤ d ∧ d < 32 ∧ 0 ≤ a ∧ a < 32 ∧ 0 ≤ b ∧ b < 32), 2080374864 + d * 2097152 + a * 65536 + b * 2048, ig_5 d a b i, ig2_5 d a b i, fun h => en_5 d a b i (of_decide_eq_true h), fun h => re_5 d a b i (of_decide_eq_true h), hE, fun h => rt_5 (of_decide_eq_true h) (Int.toNat_of_nonneg (by have := hE h; omega)), fun h => ky_5 (of_decide_eq_true h) (Int.toNat_of_nonneg (by have := hE h; omega)), fun h => enc_bad _ ((ig_5 d a b i).trans (congrArg some h))⟩
 ·intro d a b i
  have hE : ∀ _ : decide (i = 0 ∧ 0 ≤ d ∧ d < 32 ∧ 0 ≤ a ∧ a < 32 ∧ 0 ≤ b ∧ b < 32) = true, (0 : Int) < (2080375250 + d * 2097152 + a * 65536 + b * 2048) ∧ (2080375250 + d * 2097152 + a * 65536 + b * 2048 : Int) < 4294967296 := by intro h; have h := of_decide_eq_true h; omega
  refine ⟨decide (i = 0 ∧ 0 ≤ d ∧ d < 32 ∧ 0 ≤ a ∧ a < 32 ∧ 0 ≤ b ∧ b < 32), 2080375250 + d * 2097152 + a * 65536 + b * 2048, ig_6 d a b i, ig2_6 d a b i, fun h => en_6 d a b i (of_decide_eq_true h), fun h => re_6 d a b i (of_decide_eq_true h), hE, fun h => rt_6 (of_decide_eq_true h) (Int.toNat_of_nonneg (by have := hE h; omega)), fun h => ky_6 (of_decide_eq_true h) (Int.toNat_of_nonneg (by have := hE h; omega)), fun h => enc_bad _ ((ig_6 d a b i).trans (congrArg some h))⟩
 ·intro d a b i
  have hE : ∀ _ : decide (i = 0 ∧ 0 ≤ d ∧ d < 32 ∧ 0 ≤ a ∧ a < 32 ∧ 0 ≤ b ∧ b < 32) = true, (0 : Int) < (2080375762 + d * 2097152 + a * 65536 + b * 2048) ∧ (2080375762 + d * 2097152 + a * 65536 + b * 2048 : Int) < 4294967296 := by intro h; have h := of_decide_eq_true h; omega
  refine ⟨decide (i = 0 ∧ 0 ≤ d ∧ d < 32 ∧ 0 ≤ a ∧ a < 32 ∧ 0 ≤ b ∧ b < 32), 2080375762 + d * 2097152 + a * 65536 + b * 2048, ig_7 d a b i, ig2_7 d a b i, fun h => en_7 d a b i (of_decide_eq_true h), fun h => re_7 d a b i (of_decide_eq_true h), hE, fun h => rt_7 (of_decide_eq_true h) (Int.toNat_of_nonneg (by have := hE h; omega)), fun h => ky_7 (of_decide_eq_true h) (Int.toNat_of_nonneg (by have := hE h; omega)), fun h => enc_bad _ ((ig_7 d a b i).trans (congrArg some h))⟩
 ·intro d a b i
  have hE : ∀ _ : decide (d = 0 ∧ i = 0 ∧ 0 ≤ a ∧ a < 32 ∧ 0 ≤ b ∧ b < 32) = true, (0 : Int) < (2082471936 + a * 65536 + b * 2048) ∧ (2082471936 + a * 65536 + b * 2048 : Int) < 4294967296 := by intro h; have h := of_decide_eq_true h; omega
  refine ⟨decide (d = 0 ∧ i = 0 ∧ 0 ≤ a ∧ a < 32 ∧ 0 ≤ b ∧ b < 32), 2082471936 + a * 65536 + b * 2048, ig_8 d a b i, ig2_8 d a b i, fun h => en_8 d a b i (of_decide_eq_true h), fun h => re_8 d a b i (of_decide_eq_true h), hE, fun h => rt_8 (of_decide_eq_true h) (Int.toNat_of_nonneg (by have := hE h; omega)), fun h => ky_8 (of_decide_eq_true h) (Int.toNat_of_nonneg (by have := hE h; omega)), fun h => enc_bad _ ((ig_8 d a b i).trans (congrArg some h))⟩
 ·intro d a b i
  have hE : ∀ _ : decide (d = 0 ∧ b = 0 ∧ 0 ≤ a ∧ a < 32 ∧ -32768 ≤ i ∧ i < 32768) = true, (0 : Int) < (740294656 + a * 65536 + i % 65536) ∧ (740294656 + a * 65536 + i % 65536 : Int) < 4294967296 := by intro h; have h := of_decide_eq_true h; omega
  refine ⟨decide (d = 0 ∧ b = 0 ∧ 0 ≤ a ∧ a < 32 ∧ -32768 ≤ i ∧ i < 32768), 740294656 + a * 65536 + i % 65536, ig_9 d a b i, ig2_9 d a b i, fun h => en_9 d a b i (of_decide_eq_true h), fun h => re_9 d a b i (of_decide_eq_true h), hE, fun h => rt_9 (of_decide_eq_true h) (Int.toNat_of_nonneg (by have := hE h; omega)), fun h => ky_9 (of_decide_eq_true h) (Int.toNat_of_nonneg (by have := hE h; omega)), fun h => enc_bad _ ((ig_9 d a b i).trans (congrArg some h))⟩
 ·intro d a b i
  have hE : ∀ _ : decide (b = 0 ∧ (d = 4 ∨ d = 12) ∧ 0 ≤ a ∧ a < 3 ∧ -8192 ≤ i ∧ i < 8192) = true, (0 : Int) < (1073741824 + d * 2097152 + a * 65536 + i % 16384 * 4) ∧ (1073741824 + d * 2097152 + a * 65536 + i % 16384 * 4 : Int) < 4294967296 := by intro h; have h := of_decide_eq_true h; omega
  refine ⟨decide (b = 0 ∧ (d = 4 ∨ d = 12) ∧ 0 ≤ a ∧ a < 3 ∧ -8192 ≤ i ∧ i < 8192), 1073741824 + d * 2097152 + a * 65536 + i % 16384 * 4, ig_10 d a b i, ig2_10 d a b i, fun h => en_10 d a b i (of_decide_eq_true h), fun h => re_10 d a b i (of_decide_eq_true h), hE, fun h => rt_10 (of_decide_eq_true h) (Int.toNat_of_nonneg (by have := hE h; omega)), fun h => ky_10 (of_decide_eq_true h) (Int.toNat_of_nonneg (by have := hE h; omega)), fun h => enc_bad _ ((ig_10 d a b i).trans (congrArg some h))⟩
 ·intro d a b i
  have hE : ∀ _ : decide (d = 0 ∧ a = 0 ∧ b = 0 ∧ -8388608 ≤ i ∧ i < 8388608) = true, (0 : Int) < (1207959552 + i % 16777216 * 4) ∧ (1207959552 + i % 16777216 * 4 : Int) < 4294967296 := by intro h; have h := of_decide_eq_true h; omega
  refine ⟨decide (d = 0 ∧ a = 0 ∧ b = 0 ∧ -8388608 ≤ i ∧ i < 8388608), 1207959552 + i % 16777216 * 4, ig_11 d a b i, ig2_11 d a b i, fun h => en_11 d a b i (of_decide_eq_true h), fun h => re_11 d a b i (of_decide_eq_true h), hE, fun h => rt_11 (of_decide_eq_true h) (Int.toNat_of_nonneg (by have := hE h; omega)), fun h => ky_11 (of_decide_eq_true h) (Int.toNat_of_nonneg (by have := hE h; omega)), fun h => enc_bad _ ((ig_11 d a b i).trans (congrArg some h))⟩
 ·intro d a b i
  have hE : ∀ _ : decide (d = 0 ∧ a = 0 ∧ b = 0 ∧ -8388608 ≤ i ∧ i < 8388608) = true, (0 : Int) < (1207959553 + i % 16777216 * 4) ∧ (1207959553 + i % 16777216 * 4 : Int) < 4294967296 := by intro h; have h := of_decide_eq_true h; omega
  refine ⟨decide (d = 0 ∧ a = 0 ∧ b = 0 ∧ -8388608 ≤ i ∧ i < 8388608), 1207959553 + i % 16777216 * 4, ig_12 d a b i, ig2_12 d a b i, fun h => en_12 d a b i (of_decide_eq_true h), fun h => re_12 d a b i (of_decide_eq_true h), hE, fun h => rt_12 (of_decide_eq_true h) (Int.toNat_of_nonneg (by have := hE h; omega)), fun h => ky_12 (of_decide_eq_true h) (Int.toNat_of_nonneg (by have := hE h; omega)), fun h => enc_bad _ ((ig_12 d a b i).trans (congrArg some h))⟩
 ·intro d a b i
  have hE : ∀ _ : decide (d = 0 ∧ a = 0 ∧ b = 0 ∧ i = 0) = true, (0 : Int) < (1317011488) ∧ (1317011488 : Int) < 4294967296 := by intro h; have h := of_decide_eq_true h; omega
  refine ⟨decide (d = 0 ∧ a = 0 ∧ b = 0 ∧ i = 0), 1317011488, ig_13 d a b i, ig2_13 d a b i, fun h => en_13 d a b i (of_decide_eq_true h), fun h => re_13 d a b i (of_decide_eq_true h), hE, fun h => rt_13 (of_decide_eq_true h) (Int.toNat_of_nonneg (by have := hE h; omega)), fun h => ky_13 (of_decide_eq_true h) (Int.toNat_of_nonneg (by have := hE h; omega)), fun h => enc_bad _ ((ig_13 d a b i).trans (congrArg some h))⟩
 ·intro d a b i
  have hE : ∀ _ : decide (a = 0 ∧ b = 0 ∧ i = 0 ∧ 0 ≤ d ∧ d < 32) = true, (0 : Int) < (2080899750 + d * 2097152) ∧ (2080899750 + d * 2097152 : Int) < 4294967296 := by intro h; have h := of_decide_eq_true h; omega
  refine ⟨decide (a = 0 ∧ b = 0 ∧ i = 0 ∧ 0 ≤ d ∧ d < 32), 2080899750 + d * 2097152, ig_14 d a b i, ig2_14 d a b i, fun h => en_14 d a b i (of_decide_eq_true h), fun h => re_14 d a b i (of_decide_eq_true h), hE, fun h => rt_14 (of_decide_eq_true h) (Int.toNat_of_nonneg (by have := hE h; omega)), fun h => ky_14 (of_decide_eq_true h) (Int.toNat_of_nonneg (by have := hE h; omega)), fun h => enc_bad _ ((ig_14 d a b i).trans (congrArg some h))⟩
 ·intro d a b i
  have hE : ∀ _ : decide (a = 0 ∧ b = 0 ∧ i = 0 ∧ 0 ≤ d ∧ d < 32) = true, (0 : Int) < (2080900006 + d * 2097152) ∧ (2080900006 + d * 2097152 : Int) < 4294967296 := by intro h; have h := of_decide_eq_true h; omega
  refine ⟨decide (a = 0 ∧ b = 0 ∧ i = 0 ∧ 0 ≤ d ∧ d < 32), 2080900006 + d * 2097152, ig_15 d a b i, ig2_15 d a b i, fun h => en_15 d a b i (of_decide_eq_true h), fun h => re_15 d a b i (of_decide_eq_true h), hE, fun h => rt_15 (of_decide_eq_true h) (Int.toNat_of_nonneg (by have := hE h; omega)), fun h => ky_15 (of_decide_eq_true h) (Int.toNat_of_nonneg (by have := hE h; omega)), fun h => enc_bad _ ((ig_15 d a b i).trans (congrArg some h))⟩
 ·intro d a b i
  have hE : ∀ _ : decide (i = 0 ∧ 0 ≤ d ∧ d < 32 ∧ 0 ≤ a ∧ a < 32 ∧ 0 ≤ b ∧ b < 32) = true, (0 : Int) < (2080374952 + d * 2097152 + a * 65536 + b * 2048) ∧ (2080374952 + d * 2097152 + a * 65536 + b * 2048 : Int) < 4294967296 := by intro h; have h := of_decide_eq_true h; omega
  refine ⟨decide (i = 0 ∧ 0 ≤ d ∧ d < 32 ∧ 0 ≤ a ∧ a < 32 ∧ 0 ≤ b ∧ b < 32), 2080374952 + d * 2097152 + a * 65536 + b * 2048, ig_16 d a b i, ig2_16 d a b i, fun h => en_16 d a b i (of_decide_eq_true h), fun h => re_16 d a b i (of_decide_eq_true h), hE, fun h => rt_16 (of_decide_eq_true h) (Int.toNat_of_nonneg (by have := hE h; omega)), fun h => ky_16 (of_decide_eq_true h) (Int.toNat_of_nonneg (by have := hE h; omega)), fun h => enc_bad _ ((ig_16 d a b i).trans (congrArg some h))⟩
 ·intro d a b i
  have hE : ∀ _ : decide (i = 0 ∧ 0 ≤ d ∧ d < 32 ∧ 0 ≤ a ∧ a < 32 ∧ 0 ≤ b ∧ b < 32) = true, (0 : Int) < (2080375213 + d * 2097152 + a * 65536 + b * 2048) ∧ (2080375213 + d * 2097152 + a * 65536 + b * 2048 : Int) < 4294967296 := by intro h; have h := of_decide_eq_true h; omega
  refine ⟨decide (i = 0 ∧ 0 ≤ d ∧ d < 32 ∧ 0 ≤ a ∧ a < 32 ∧ 0 ≤ b ∧ b < 32), 2080375213 + d * 2097152 + a * 65536 + b * 2048, ig_17 d a b i, ig2_17 d a b i, fun h => en_17 d a b i (of_decide_eq_true h), fun h => re_17 d a b i (of_decide_eq_true h), hE, fun h => rt_17 (of_decide_eq_true h) (Int.toNat_of_nonneg (by have := hE h; omega)), fun h => ky_17 (of_decide_eq_true h) (Int.toNat_of_nonneg (by have := hE h; omega)), fun h => enc_bad _ ((ig_17 d a b i).trans (congrArg some h))⟩
 ·intro d a b i
  have hE : ∀ _ : decide (d = 0 ∧ a = 0 ∧ b = 0 ∧ i = 0) = true, (0 : Int) < (2080375980) ∧ (2080375980 : Int) < 4294967296 := by intro h; have h := of_decide_eq_true h; omega
  refine ⟨decide (d = 0 ∧ a = 0 ∧ b = 0 ∧ i = 0), 2080375980, ig_18 d a b i, ig2_18 d a b i, fun h => en_18 d a b i (of_decide_eq_true h), fun h => re_18 d a b i (of_decide_eq_true h), hE, fun h => rt_18 (of_decide_eq_true h) (Int.toNat_of_nonneg (by have := hE h; omega)), fun h => ky_18 (of_decide_eq_true h) (Int.toNat_of_nonneg (by have := hE h; omega)), fun h => enc_bad _ ((ig_18 d a b i).trans (congrArg some h))⟩
 ·intro d a b i
  have hE : ∀ _ : decide (d = 0 ∧ a = 0 ∧ b = 0 ∧ i = 0) = true, (0 : Int) < (2082473132) ∧ (2082473132 : Int) < 4294967296 := by intro h; have h := of_decide_eq_true h; omega
  refine ⟨decide (d = 0 ∧ a = 0 ∧ b = 0 ∧ i = 0), 2082473132, ig_19 d a b i, ig2_19 d a b i, fun h => en_19 d a b i (of_decide_eq_true h), fun h => re_19 d a b i (of_decide_eq_true h), hE, fun h => rt_19 (of_decide_eq_true h) (Int.toNat_of_nonneg (by have := hE h; omega)), fun h => ky_19 (of_decide_eq_true h) (Int.toNat_of_nonneg (by have := hE h; omega)), fun h => enc_bad _ ((ig_19 d a b i).trans (congrArg some h))⟩
 ·intro d a b i
  have hE : ∀ _ : decide (d = 0 ∧ a = 0 ∧ b = 0 ∧ i = 0) = true, (0 : Int) < (1275068716) ∧ (1275068716 : Int) < 4294967296 := by intro h; have h := of_decide_eq_true h; omega
  refine ⟨decide (d = 0 ∧ a = 0 ∧ b = 0 ∧ i = 0), 1275068716, ig_20 d a b i, ig2_20 d a b i, fun h => en_20 d a b i (of_decide_eq_true h), fun h => re_20 d a b i (of_decide_eq_true h), hE, fun h => rt_20 (of_decide_eq_true h) (Int.toNat_of_nonneg (by have := hE h; omega)), fun h => ky_20 (of_decide_eq_true h) (Int.toNat_of_nonneg (by have := hE h; omega)), fun h => enc_bad _ ((ig_20 d a b i).trans (congrArg some h))⟩
 ·intro d a b i
  have hE : ∀ _ : decide (d = 0 ∧ a = 0 ∧ b = 0 ∧ 0 ≤ i ∧ i < 32768) = true, (0 : Int) < (266338304 + i % 65536) ∧ (266338304 + i % 65536 : Int) < 4294967296 := by intro h; have h := of_decide_eq_true h; omega
  refine ⟨decide (d = 0 ∧ a = 0 ∧ b = 0 ∧ 0 ≤ i ∧ i < 32768), 266338304 + i % 65536, ig_21 d a b i, ig2_21 d a b i, fun h => en_21 d a b i (of_decide_eq_true h), fun h => re_21 d a b i (of_decide_eq_true h), hE, fun h => rt_21 (of_decide_eq_true h) (Int.toNat_of_nonneg (by have := hE h; omega)), fun h => ky_21 (of_decide_eq_true h) (Int.toNat_of_nonneg (by have := hE h; omega)), fun h => enc_bad _ ((ig_21 d a b i).trans (congrArg some h))⟩
 ·intro d a b i
  have hE : ∀ _ : decide (a = 0 ∧ b = 0 ∧ i = 0 ∧ 0 ≤ d ∧ d < 32) = true, (0 : Int) < (1140850690 + d * 2097152) ∧ (1140850690 + d * 2097152 : Int) < 4294967296 := by intro h; have h := of_decide_eq_true h; omega
  refine ⟨decide (a = 0 ∧ b = 0 ∧ i = 0 ∧ 0 ≤ d ∧ d < 32), 1140850690 + d * 2097152, ig_22 d a b i, ig2_22 d a b i, fun h => en_22 d a b i (of_decide_eq_true h), fun h => re_22 d a b i (of_decide_eq_true h), hE, fun h => rt_22 (of_decide_eq_true h) (Int.toNat_of_nonneg (by have := hE h; omega)), fun h => ky_22 (of_decide_eq_true h) (Int.toNat_of_nonneg (by have := hE h; omega)), fun h => enc_bad _ ((ig_22 d a b i).trans (congrArg some h))⟩
end
section
theorem kn {q : TInst} (h1 : 1 ≤ q.op) (h2 : q.op ≤ 22) : ∃ g E, Kn q g E := by
 obtain ⟨op, d, a, b, i⟩ := q
 simp only at h1 h2
 obtain ⟨k, rfl⟩ : ∃ k : Nat, op = (k : Int) := ⟨op.toNat, by omega⟩
 exact kn_nat k (by omega) (by omega) d a b i
theorem rd_op (w : Nat) : ∀ k : Nat, 1 ≤ k → k ≤ 22 → (rd w k).op = k := by
 refine of22 ?_ ?_ ?_ ?_ ?_ ?_ ?_ ?_ ?_ ?_ ?_ ?_ ?_ ?_ ?_ ?_ ?_ ?_ ?_ ?_ ?_ ?_ <;> rfl
theorem rd_all {w : Nat} (hw : w < 4294967296) : ∀ k : Nat, 1 ≤ k → k ≤ 22 → isa_read k w = some (rd w k) :=
 of22 (rd_1 hw) (rd_2 hw) (rd_3 hw) (rd_4 hw) (rd_5 hw) (rd_6 hw) (rd_7 hw) (rd_8 hw) (rd_9 hw) (rd_10 hw) (rd_11 hw) (rd_12 hw) (rd_13 hw) (rd_14 hw) (rd_15 hw) (rd_16 hw) (rd_17 hw) (rd_18 hw) (rd_19 hw) (rd_20 hw) (rd_21 hw) (rd_22 hw)
theorem rf_all {w : Nat} (hw : w < 4294967296) : ∀ k : Nat, 1 ≤ k → k ≤ 22 → ref02_Decode_l1b w k = ref02_Decode_k4 w k (rd w k).d (rd w k).a (rd w k).b (rd w k).imm :=
 of22 (rf_1 hw) (rf_2 hw) (rf_3 hw) (rf_4 hw) (rf_5 hw) (rf_6 hw) (rf_7 hw) (rf_8 hw) (rf_9 hw) (rf_10 hw) (rf_11 hw) (rf_12 hw) (rf_13 hw) (rf_14 hw) (rf_15 hw) (rf_16 hw) (rf_17 hw) (rf_18 hw) (rf_19 hw) (rf_20 hw) (rf_21 hw) (rf_22 hw)
def Hit (w k : Nat) : Prop := isa_Good (rd w k) = some true ∧ isa_Encode (rd w k) = some ((w : Int), 0)
theorem steps {w k : Nat} (hw : w < 4294967296) (h1 : 1 ≤ k) (h2 : k ≤ 22) :
  (Hit w k → isa_Decode_l1b w k = some (.inr (rd w k, 0)) ∧ ref02_Decode_l1b w k = some (.inr (rd w k, true))) ∧
  (¬ Hit w k → isa_Decode_l1b w k = some (.inl ((k + 1 : Nat) : Int)) ∧ ref02_Decode_l1b w k = some (.inl ((k + 1 : Nat) : Int))) := by
 have ho := rd_op w k h1 h2
 obtain ⟨g, E, K⟩ := kn (q := rd w k) (by omega) (by omega)
 have hq : (⟨(k : Int), (rd w k).d, (rd w k).a, (rd w k).b, (rd w k).imm⟩ : TInst) = rd w k := by rw [← ho]
 have hk : w64 ((k : Int) + 1) = ((k + 1 : Nat) : Int) := w64_succ (by omega)
 have hI : ∀ e : Int × Int, isa_Encode (rd w k) = some e → isa_Decode_l1b w k = if (decide (e.2 = 0)) && (decide (e.1 = (w : Int))) then some (.inr (rd w k, 0)) else some (.inl ((k + 1 : Nat) : Int)) := by
  intro e he
  unfold isa_Decode_l1b
  rw [if_pos (decide_eq_true (by omega)), rd_all hw k h1 h2, Option.bind_some, he, Option.bind_some, hk]
  rfl
 have hR : ref02_Decode_l1b w k = if g && decide (E = (w : Int)) then some (.inr (rd w k, true)) else some (.inl ((k + 1 : Nat) : Int)) := by
  rw [rf_all hw k h1 h2]
  unfold ref02_Decode_k4
  rw [hq, K.g2, Option.bind_some, hk]
  cases g with
  | false => rfl
  | true =>
   rw [if_pos rfl, K.e2 rfl]
   simp only [Option.bind_some, Bool.true_and]
   rfl
 cases g with
 | false =>
  refine ⟨fun h => ?_, fun _ => ⟨hI _ (K.e0 rfl), hR⟩⟩
  have := h.1.symm.trans K.g1
  cases this
 | true =>
  have e1 := hI _ (K.e1 rfl)
  refine ⟨fun h => ?_, fun h => ?_⟩
  ·have hE : E = (w : Int) := congrArg Prod.fst (Option.some.inj ((K.e1 rfl).symm.trans h.2))
   rw [e1, hR, decide_eq_true hE]
   exact ⟨rfl, rfl⟩
  ·have hE : E ≠ (w : Int) := fun hE => h ⟨K.g1, by rw [K.e1 rfl, hE]⟩
   rw [e1, hR, decide_eq_false hE]
   exact ⟨rfl, rfl⟩
theorem search {w : Nat} (hw : w < 4294967296) : ∀ n k : Nat, 1 ≤ k → k + n = 23 →
  (∃ j, k ≤ j ∧ j ≤ 22 ∧ Hit w j ∧ isa_Decode_l1 w k = some (rd w j, 0) ∧ ref02_Decode_l1 w k = some (rd w j, true)) ∨
  ((∀ j, k ≤ j → j ≤ 22 → ¬ Hit w j) ∧ isa_Decode_l1 w k = some (⟨0, 0, 0, 0, 0⟩, 4) ∧ ref02_Decode_l1 w k = some (⟨0, 0, 0, 0, 0⟩, false)) := by
 intro n
 induction n with
 | zero =>
  intro k h1 h2
  have : k = 23 := by omega
  subst this
  exact .inr ⟨fun j h3 h4 => by omega, loop_ret rfl, loop_ret rfl⟩
 | succ n ih =>
  intro k h1 h2
  obtain ⟨s1, s2⟩ := steps hw h1 (show k ≤ 22 by omega)
  by_cases hk : Hit w k
  ·obtain ⟨a1, a2⟩ := s1 hk
   exact .inl ⟨k, by omega, by omega, hk, loop_ret a1, loop_ret a2⟩
  ·obtain ⟨a1, a2⟩ := s2 hk
   have e1 : isa_Decode_l1 w k = isa_Decode_l1 w ((k + 1 : Nat) : Int) := loop_step a1
   have e2 : ref02_Decode_l1 w k = ref02_Decode_l1 w ((k + 1 : Nat) : Int) := loop_step a2
   rw [e1, e2]
   rcases ih (k + 1) (by omega) (by omega) with ⟨j, h3, h4, h5, h6, h7⟩ | ⟨h3, h4, h5⟩
   ·exact .inl ⟨j, by omega, h4, h5, h6, h7⟩
   ·refine .inr ⟨fun j h6 h7 => ?_, h4, h5⟩
    by_cases e : j = k
    ·rw [e]; exact hk
    ·exact h3 j (by omega) h7
theorem decode {w : Nat} (hw : w < 4294967296) :
  (∃ j, 1 ≤ j ∧ j ≤ 22 ∧ Hit w j ∧ isa_Decode w = some (rd w j, 0) ∧ ref02_Decode w = some (rd w j, true)) ∨
  ((∀ j, 1 ≤ j → j ≤ 22 → ¬ Hit w j) ∧ isa_Decode w = some (⟨0, 0, 0, 0, 0⟩, 4) ∧ ref02_Decode w = some (⟨0, 0, 0, 0, 0⟩, false)) :=
 search hw 22 1 (by omega) (by omega)
theorem back {p : TInst} {w : Int} (h1 : 1 ≤ p.op) (h2 : p.op ≤ 22) (hg : isa_Good p = some true) (he : isa_Encode p = some (w, 0)) : isa_Decode w = some (p, 0) ∧ 0 < w ∧ w < 4294967296 ∧ rd w.toNat p.op.toNat = p ∧ ky w.toNat = kv p.op.toNat := by
 obtain ⟨g, E, K⟩ := kn h1 h2
 have hgt : g = true := Option.some.inj (K.g1.symm.trans hg)
 have hE : E = w := congrArg Prod.fst (Option.some.inj ((K.e1 hgt).symm.trans he))
 subst hE
 have hp := K.pos hgt
 have hrt := K.rt hgt
 have hky := K.ke hgt
 refine ⟨?_, hp.1, hp.2, hrt, hky⟩
 obtain ⟨n, rfl⟩ : ∃ n : Nat, E = (n : Int) := ⟨E.toNat, by omega⟩
 rw [Int.toNat_natCast] at hrt hky
 rcases decode (w := n) (by omega) with ⟨j, h3, h4, h5, h6, _⟩ | ⟨h3, _⟩
 ·have ho := rd_op n j h3 h4
  obtain ⟨g', E', K'⟩ := kn (q := rd n j) (by omega) (by omega)
  have hg' : g' = true := Option.some.inj (K'.g1.symm.trans h5.1)
  have hE' : E' = (n : Int) := congrArg Prod.fst (Option.some.inj ((K'.e1 hg').symm.trans h5.2))
  have hk2 := K'.ke hg'
  rw [hE', Int.toNat_natCast, hky, ho, Int.toNat_natCast] at hk2
  have hj := kv_inj (by omega) (by omega) h3 h4 hk2
  rw [h6, ← hj, hrt]
 ·exfalso
  refine h3 p.op.toNat (by omega) (by omega) ⟨?_, ?_⟩
  ·rw [hrt]; exact hg
  ·rw [hrt]; exact he
end
end Go.Vm.K17
