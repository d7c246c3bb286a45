/-
 What is encoded.
-/
import Derived.Test.YtipebnimgbigoaaDoorEP02q
import Derived.Test.YtipebnimgbigoaaDoorEP02r
set_option linter.unusedSimpArgs false
set_option linter.unusedVariables false
namespace Go.Vm.G02
open Go
theorem enc_step (p : TInst) (xs : List Int) (w k f n : Nat) (x v : Int) (ok : Bool) (hx : xs[k]? = some x) (hp : isa_part x p = some ((f : Int), (n : Int), v, ok)) (hf : f + n ≤ 32) (hn : n < 32) (hw : w < 4294967296) (h0 : w / 2 ^ (32 - f - n) % 2 ^ n = 0) :
  isa_Encode_l1b p xs (w : Int) (k : Int) = some (.inl (((w + (v % ((2 ^ n : Nat) : Int)).toNat * 2 ^ (32 - f - n) : Nat) : Int), w64 ((k : Int) + 1))) := by
 unfold isa_Encode_l1b
 have hk : k < xs.length := (List.getElem?_eq_some_iff.1 hx).1
 rw [if_pos (decide_eq_true (by omega)), ix_nat, hx, Option.bind_some, hp, Option.bind_some, bits_is v n hn, Option.bind_some]
 have p2 : 0 ≤ v % ((2 ^ n : Nat) : Int) := Int.emod_nonneg _ (by have := pow_pos n; omega)
 have p3 : v % ((2 ^ n : Nat) : Int) < ((2 ^ n : Nat) : Int) := Int.emod_lt_of_pos _ (by have := pow_pos n; omega)
 rw [put_is w f n _ hf hn hw h0 (by omega)]
 rfl
theorem enc_gen (p : TInst) (xs : List Int) {n f : ByteArray} {wd : Int} (e : Int × Int) (hi : ix gl0 p.op = some ⟨n, f, wd⟩) (hb : bytesO f = some xs) (hg : isa_Good p = some true) (hl : isa_Encode_l1 p xs wd 0 = some e) : isa_Encode p = some e := by
 unfold isa_Encode
 rw [hg, Option.bind_some, if_neg (by decide), hi, Option.bind_some, Option.bind_some, hb, Option.bind_some, hl]
theorem enc_bad (p : TInst) (hg : isa_Good p = some false) : isa_Encode p = some (0, 1) := by
 unfold isa_Encode
 rw [hg, Option.bind_some, if_pos (by decide)]
theorem remP (x y : Int) (h : 0 ≤ x) (hy : y ≠ 0) : remO .i64 x y = some (x % y) := by
 unfold remO
 rw [if_neg hy, Int.tmod_eq_emod_of_nonneg h]
theorem re_gen (p : TInst) (h : Tref02_Has) (ho : ref02_Of p.op = some (h, true)) : ref02_Encode p = if decide (h.imm = 4) then ref02_Encode_k2 p (h, true) true else ref02_Encode_k2 p (h, true) (decide (h.imm = 16)) := by
 unfold ref02_Encode
 rw [ho]
 rfl
variable (k d a b i : Int)
theorem en_1 (h : b = 0 ∧ 0 ≤ d ∧ d < 32 ∧ 0 ≤ a ∧ a < 32 ∧ -32768 ≤ i ∧ i < 32768 ∧ i % 4 = 0) : isa_Encode ⟨1, d, a, b, i⟩ = some (3892314112 + d * 2097152 + a * 65536 + i % 65536, 0) := by
 refine enc_gen ⟨1, d, a, b, i⟩ [100, 97, 109] _ gl_1 by_str2 (by rw [ig_1]; exact congrArg some (decide_eq_true h)) ?_
 unfold isa_Encode_l1
 have hp := part_d ⟨1, d, a, b, i⟩
 have h0 := enc_step ⟨1, d, a, b, i⟩ [100, 97, 109] (3892314112) 0 6 5 100 _ _ rfl hp (by decide) (by decide) (by simp only [Nat.reducePow, Nat.reduceSub] at * <;> omega) (by simp only [Nat.reducePow, Nat.reduceSub] at * <;> omega)
 refine (loop_step (s' := (_, 1)) h0).trans ?_
 clear hp h0
 have hp := part_a ⟨1, d, a, b, i⟩
 have h1 := enc_step ⟨1, d, a, b, i⟩ [100, 97, 109] (3892314112 + (d % ((2 ^ 5 : Nat) : Int)).toNat * 2 ^ (32 - 6 - 5)) 1 11 5 97 _ _ rfl hp (by decide) (by decide) (by simp only [Nat.reducePow, Nat.reduceSub] at * <;> omega) (by simp only [Nat.reducePow, Nat.reduceSub] at * <;> omega)
 refine (loop_step (s' := (_, 2)) h1).trans ?_
 clear hp h1
 have hp := part_m ⟨1, d, a, b, i⟩
 have h2 := enc_step ⟨1, d, a, b, i⟩ [100, 97, 109] (3892314112 + (d % ((2 ^ 5 : Nat) : Int)).toNat * 2 ^ (32 - 6 - 5) + (a % ((2 ^ 5 : Nat) : Int)).toNat * 2 ^ (32 - 11 - 5)) 2 16 14 109 _ _ rfl hp (by decide) (by decide) (by simp only [Nat.reducePow, Nat.reduceSub] at * <;> omega) (by simp only [Nat.reducePow, Nat.reduceSub] at * <;> omega)
 refine (loop_step (s' := (_, 3)) h2).trans ?_
 clear hp h2
 refine (loop_ret rfl).trans ?_
 congr 1
 congr 1
 simp only [Nat.reducePow, Nat.reduceSub]
 omega
theorem re_1 (h : b = 0 ∧ 0 ≤ d ∧ d < 32 ∧ 0 ≤ a ∧ a < 32 ∧ -32768 ≤ i ∧ i < 32768 ∧ i % 4 = 0) : ref02_Encode ⟨1, d, a, b, i⟩ = some (3892314112 + d * 2097152 + a * 65536 + i % 65536) := by
 rw [re_gen ⟨1, d, a, b, i⟩ _ ro_1]
 rw [if_pos (by decide)]
 unfold ref02_Encode_k2
 dsimp only
 rw [if_pos (by decide), remP _ _ (by rw [w64_id (by omega) (by omega)]; omega) (by decide), Option.bind_some]
 unfold ref02_Encode_k1
 congr 1
 simp only [u32w]
 rw [w64_id (x := i + 65536) (by omega) (by omega)]
 omega
theorem en_2 (h : b = 0 ∧ 0 ≤ d ∧ d < 32 ∧ 0 ≤ a ∧ a < 32 ∧ -32768 ≤ i ∧ i < 32768 ∧ i % 4 = 0) : isa_Encode ⟨2, d, a, b, i⟩ = some (4160749568 + d * 2097152 + a * 65536 + i % 65536, 0) := by
 refine enc_gen ⟨2, d, a, b, i⟩ [100, 97, 109] _ gl_2 by_str2 (by rw [ig_2]; exact congrArg some (decide_eq_true h)) ?_
 unfold isa_Encode_l1
 have hp := part_d ⟨2, d, a, b, i⟩
 have h0 := enc_step ⟨2, d, a, b, i⟩ [100, 97, 109] (4160749568) 0 6 5 100 _ _ rfl hp (by decide) (by decide) (by simp only [Nat.reducePow, Nat.reduceSub] at * <;> omega) (by simp only [Nat.reducePow, Nat.reduceSub] at * <;> omega)
 refine (loop_step (s' := (_, 1)) h0).trans ?_
 clear hp h0
 have hp := part_a ⟨2, d, a, b, i⟩
 have h1 := enc_step ⟨2, d, a, b, i⟩ [100, 97, 109] (4160749568 + (d % ((2 ^ 5 : Nat) : Int)).toNat * 2 ^ (32 - 6 - 5)) 1 11 5 97 _ _ rfl hp (by decide) (by decide) (by simp only [Nat.reducePow, Nat.reduceSub] at * <;> omega) (by simp only [Nat.reducePow, Nat.reduceSub] at * <;> omega)
 refine (loop_step (s' := (_, 2)) h1).trans ?_
 clear hp h1
 have hp := part_m ⟨2, d, a, b, i⟩
 have h2 := enc_step ⟨2, d, a, b, i⟩ [100, 97, 109] (4160749568 + (d % ((2 ^ 5 : Nat) : Int)).toNat * 2 ^ (32 - 6 - 5) + (a % ((2 ^ 5 : Nat) : Int)).toNat * 2 ^ (32 - 11 - 5)) 2 16 14 109 _ _ rfl hp (by decide) (by decide) (by simp only [Nat.reducePow, Nat.reduceSub] at * <;> omega) (by simp only [Nat.reducePow, Nat.reduceSub] at * <;> omega)
 refine (loop_step (s' := (_, 3)) h2).trans ?_
 clear hp h2
 refine (loop_ret rfl).trans ?_
 congr 1
 congr 1
 simp only [Nat.reducePow, Nat.reduceSub]
 omega
theorem re_2 (h : b = 0 ∧ 0 ≤ d ∧ d < 32 ∧ 0 ≤ a ∧ a < 32 ∧ -32768 ≤ i ∧ i < 32768 ∧ i % 4 = 0) : ref02_Encode ⟨2, d, a, b, i⟩ = some (4160749568 + d * 2097152 + a * 65536 + i % 65536) := by
 rw [re_gen ⟨2, d, a, b, i⟩ _ ro_2]
 rw [if_pos (by decide)]
 unfold ref02_Encode_k2
 dsimp only
 rw [if_pos (by decide), remP _ _ (by rw [w64_id (by omega) (by omega)]; omega) (by decide), Option.bind_some]
 unfold ref02_Encode_k1
 congr 1
 simp only [u32w]
 rw [w64_id (x := i + 65536) (by omega) (by omega)]
 omega
theorem en_3 (h : b = 0 ∧ 0 ≤ d ∧ d < 32 ∧ 0 ≤ a ∧ a < 32 ∧ -32768 ≤ i ∧ i < 32768) : isa_Encode ⟨3, d, a, b, i⟩ = some (939524096 + d * 2097152 + a * 65536 + i % 65536, 0) := by
 refine enc_gen ⟨3, d, a, b, i⟩ [100, 97, 105] _ gl_3 by_str5 (by rw [ig_3]; exact congrArg some (decide_eq_true h)) ?_
 unfold isa_Encode_l1
 have hp := part_d ⟨3, d, a, b, i⟩
 have h0 := enc_step ⟨3, d, a, b, i⟩ [100, 97, 105] (939524096) 0 6 5 100 _ _ rfl hp (by decide) (by decide) (by simp only [Nat.reducePow, Nat.reduceSub] at * <;> omega) (by simp only [Nat.reducePow, Nat.reduceSub] at * <;> omega)
 refine (loop_step (s' := (_, 1)) h0).trans ?_
 clear hp h0
 have hp := part_a ⟨3, d, a, b, i⟩
 have h1 := enc_step ⟨3, d, a, b, i⟩ [100, 97, 105] (939524096 + (d % ((2 ^ 5 : Nat) : Int)).toNat * 2 ^ (32 - 6 - 5)) 1 11 5 97 _ _ rfl hp (by decide) (by decide) (by simp only [Nat.reducePow, Nat.reduceSub] at * <;> omega) (by simp only [Nat.reducePow, Nat.reduceSub] at * <;> omega)
 refine (loop_step (s' := (_, 2)) h1).trans ?_
 clear hp h1
 have hp := part_i ⟨3, d, a, b, i⟩
 have h2 := enc_step ⟨3, d, a, b, i⟩ [100, 97, 105] (939524096 + (d % ((2 ^ 5 : Nat) : Int)).toNat * 2 ^ (32 - 6 - 5) + (a % ((2 ^ 5 : Nat) : Int)).toNat * 2 ^ (32 - 11 - 5)) 2 16 16 105 _ _ rfl hp (by decide) (by decide) (by simp only [Nat.reducePow, Nat.reduceSub] at * <;> omega) (by simp only [Nat.reducePow, Nat.reduceSub] at * <;> omega)
 refine (loop_step (s' := (_, 3)) h2).trans ?_
 clear hp h2
 refine (loop_ret rfl).trans ?_
 congr 1
 congr 1
 simp only [Nat.reducePow, Nat.reduceSub]
 omega
theorem re_3 (h : b = 0 ∧ 0 ≤ d ∧ d < 32 ∧ 0 ≤ a ∧ a < 32 ∧ -32768 ≤ i ∧ i < 32768) : ref02_Encode ⟨3, d, a, b, i⟩ = some (939524096 + d * 2097152 + a * 65536 + i % 65536) := by
 rw [re_gen ⟨3, d, a, b, i⟩ _ ro_3]
 rw [if_neg (by decide)]
 unfold ref02_Encode_k2
 dsimp only
 rw [if_pos (by decide), remP _ _ (by rw [w64_id (by omega) (by omega)]; omega) (by decide), Option.bind_some]
 unfold ref02_Encode_k1
 congr 1
 simp only [u32w]
 rw [w64_id (x := i + 65536) (by omega) (by omega)]
 omega
theorem en_4 (h : i = 0 ∧ 0 ≤ d ∧ d < 32 ∧ 0 ≤ a ∧ a < 32 ∧ 0 ≤ b ∧ b < 32) : isa_Encode ⟨4, d, a, b, i⟩ = some (2080375316 + d * 2097152 + a * 65536 + b * 2048, 0) := by
 refine enc_gen ⟨4, d, a, b, i⟩ [100, 97, 98] _ gl_4 by_str7 (by rw [ig_4]; exact congrArg some (decide_eq_true h)) ?_
 unfold isa_Encode_l1
 have hp := part_d ⟨4, d, a, b, i⟩
 have h0 := enc_step ⟨4, d, a, b, i⟩ [100, 97, 98] (2080375316) 0 6 5 100 _ _ rfl hp (by decide) (by decide) (by simp only [Nat.reducePow, Nat.reduceSub] at * <;> omega) (by simp only [Nat.reducePow, Nat.reduceSub] at * <;> omega)
 refine (loop_step (s' := (_, 1)) h0).trans ?_
 clear hp h0
 have hp := part_a ⟨4, d, a, b, i⟩
 have h1 := enc_step ⟨4, d, a, b, i⟩ [100, 97, 98] (2080375316 + (d % ((2 ^ 5 : Nat) : Int)).toNat * 2 ^ (32 - 6 - 5)) 1 11 5 97 _ _ rfl hp (by decide) (by decide) (by simp only [Nat.reducePow, Nat.reduceSub] at * <;> omega) (by simp only [Nat.reducePow, Nat.reduceSub] at * <;> omega)
 refine (loop_step (s' := (_, 2)) h1).trans ?_
 clear hp h1
 have hp := part_b ⟨4, d, a, b, i⟩
 have h2 := enc_step ⟨4, d, a, b, i⟩ [100, 97, 98] (2080375316 + (d % ((2 ^ 5 : Nat) : Int)).toNat * 2 ^ (32 - 6 - 5) + (a % ((2 ^ 5 : Nat) : Int)).toNat * 2 ^ (32 - 11 - 5)) 2 16 5 98 _ _ rfl hp (by decide) (by decide) (by simp only [Nat.reducePow, Nat.reduceSub] at * <;> omega) (by simp only [Nat.reducePow, Nat.reduceSub] at * <;> omega)
 refine (loop_step (s' := (_, 3)) h2).trans ?_
 clear hp h2
 refine (loop_ret rfl).trans ?_
 congr 1
 congr 1
 simp only [Nat.reducePow, Nat.reduceSub]
 omega
theorem re_4 (h : i = 0 ∧ 0 ≤ d ∧ d < 32 ∧ 0 ≤ a ∧ a < 32 ∧ 0 ≤ b ∧ b < 32) : ref02_Encode ⟨4, d, a, b, i⟩ = some (2080375316 + d * 2097152 + a * 65536 + b * 2048) := by
 rw [re_gen ⟨4, d, a, b, i⟩ _ ro_4]
 rw [if_neg (by decide)]
 unfold ref02_Encode_k2
 dsimp only
 rw [if_neg (by decide), if_neg (by decide), if_neg (by decide)]
 unfold ref02_Encode_k1
 congr 1
 simp only [u32w]
 omega
theorem en_5 (h : i = 0 ∧ 0 ≤ d ∧ d < 32 ∧ 0 ≤ a ∧ a < 32 ∧ 0 ≤ b ∧ b < 32) : isa_Encode ⟨5, d, a, b, i⟩ = some (2080374864 + d * 2097152 + a * 65536 + b * 2048, 0) := by
 refine enc_gen ⟨5, d, a, b, i⟩ [100, 97, 98] _ gl_5 by_str7 (by rw [ig_5]; exact congrArg some (decide_eq_true h)) ?_
 unfold isa_Encode_l1
 have hp := part_d ⟨5, d, a, b, i⟩
 have h0 := enc_step ⟨5, d, a, b, i⟩ [100, 97, 98] (2080374864) 0 6 5 100 _ _ rfl hp (by decide) (by decide) (by simp only [Nat.reducePow, Nat.reduceSub] at * <;> omega) (by simp only [Nat.reducePow, Nat.reduceSub] at * <;> omega)
 refine (loop_step (s' := (_, 1)) h0).trans ?_
 clear hp h0
 have hp := part_a ⟨5, d, a, b, i⟩
 have h1 := enc_step ⟨5, d, a, b, i⟩ [100, 97, 98] (2080374864 + (d % ((2 ^ 5 : Nat) : Int)).toNat * 2 ^ (32 - 6 - 5)) 1 11 5 97 _ _ rfl hp (by decide) (by decide) (by simp only [Nat.reducePow, Nat.reduceSub] at * <;> omega) (by simp only [Nat.reducePow, Nat.reduceSub] at * <;> omega)
 refine (loop_step (s' := (_, 2)) h1).trans ?_
 clear hp h1
 have hp := part_b ⟨5, d, a, b, i⟩
 have h2 := enc_step ⟨5, d, a, b, i⟩ [100, 97, 98] (2080374864 + (d % ((2 ^ 5 : Nat) : Int)).toNat * 2 ^ (32 - 6 - 5) + (a % ((2 ^ 5 : Nat) : Int)).toNat * 2 ^ (32 - 11 - 5)) 2 16 5 98 _ _ rfl hp (by decide) (by decide) (by simp only [Nat.reducePow, Nat.reduceSub] at * <;> omega) (by simp only [Nat.reducePow, Nat.reduceSub] at * <;> omega)
 refine (loop_step (s' := (_, 3)) h2).trans ?_
 clear hp h2
 refine (loop_ret rfl).trans ?_
 congr 1
 congr 1
 simp only [Nat.reducePow, Nat.reduceSub]
 omega
theorem re_5 (h : i = 0 ∧ 0 ≤ d ∧ d < 32 ∧ 0 ≤ a ∧ a < 32 ∧ 0 ≤ b ∧ b < 32) : ref02_Encode ⟨5, d, a, b, i⟩ = some (2080374864 + d * 2097152 + a * 65536 + b * 2048) := by
 rw [re_gen ⟨5, d, a, b, i⟩ _ ro_5]
 rw [if_neg (by decide)]
 unfold ref02_Encode_k2
 dsimp only
 rw [if_neg (by decide), if_neg (by decide), if_neg (by decide)]
 unfold ref02_Encode_k1
 congr 1
 simp only [u32w]
 omega
theorem en_6 (h : i = 0 ∧ 0 ≤ d ∧ d < 32 ∧ 0 ≤ a ∧ a < 32 ∧ 0 ≤ b ∧ b < 32) : isa_Encode ⟨6, d, a, b, i⟩ = some (2080375250 + d * 2097152 + a * 65536 + b * 2048, 0) := by
 refine enc_gen ⟨6, d, a, b, i⟩ [100, 97, 98] _ gl_6 by_str7 (by rw [ig_6]; exact congrArg some (decide_eq_true h)) ?_
 unfold isa_Encode_l1
 have hp := part_d ⟨6, d, a, b, i⟩
 have h0 := enc_step ⟨6, d, a, b, i⟩ [100, 97, 98] (2080375250) 0 6 5 100 _ _ rfl hp (by decide) (by decide) (by simp only [Nat.reducePow, Nat.reduceSub] at * <;> omega) (by simp only [Nat.reducePow, Nat.reduceSub] at * <;> omega)
 refine (loop_step (s' := (_, 1)) h0).trans ?_
 clear hp h0
 have hp := part_a ⟨6, d, a, b, i⟩
 have h1 := enc_step ⟨6, d, a, b, i⟩ [100, 97, 98] (2080375250 + (d % ((2 ^ 5 : Nat) : Int)).toNat * 2 ^ (32 - 6 - 5)) 1 11 5 97 _ _ rfl hp (by decide) (by decide) (by simp only [Nat.reducePow, Nat.reduceSub] at * <;> omega) (by simp only [Nat.reducePow, Nat.reduceSub] at * <;> omega)
 refine (loop_step (s' := (_, 2)) h1).trans ?_
 clear hp h1
 have hp := part_b ⟨6, d, a, b, i⟩
 have h2 := enc_step ⟨6, d, a, b, i⟩ [100, 97, 98] (2080375250 + (d % ((2 ^ 5 : Nat) : Int)).toNat * 2 ^ (32 - 6 - 5) + (a % ((2 ^ 5 : Nat) : Int)).toNat * 2 ^ (32 - 11 - 5)) 2 16 5 98 _ _ rfl hp (by decide) (by decide) (by simp only [Nat.reducePow, Nat.reduceSub] at * <;> omega) (by simp only [Nat.reducePow, Nat.reduceSub] at * <;> omega)
 refine (loop_step (s' := (_, 3)) h2).trans ?_
 clear hp h2
 refine (loop_ret rfl).trans ?_
 congr 1
 congr 1
 simp only [Nat.reducePow, Nat.reduceSub]
 omega
theorem re_6 (h : i = 0 ∧ 0 ≤ d ∧ d < 32 ∧ 0 ≤ a ∧ a < 32 ∧ 0 ≤ b ∧ b < 32) : ref02_Encode ⟨6, d, a, b, i⟩ = some (2080375250 + d * 2097152 + a * 65536 + b * 2048) := by
 rw [re_gen ⟨6, d, a, b, i⟩ _ ro_6]
 rw [if_neg (by decide)]
 unfold ref02_Encode_k2
 dsimp only
 rw [if_neg (by decide), if_neg (by decide), if_neg (by decide)]
 unfold ref02_Encode_k1
 congr 1
 simp only [u32w]
 omega
theorem en_7 (h : i = 0 ∧ 0 ≤ d ∧ d < 32 ∧ 0 ≤ a ∧ a < 32 ∧ 0 ≤ b ∧ b < 32) : isa_Encode ⟨7, d, a, b, i⟩ = some (2080375762 + d * 2097152 + a * 65536 + b * 2048, 0) := by
 refine enc_gen ⟨7, d, a, b, i⟩ [100, 97, 98] _ gl_7 by_str7 (by rw [ig_7]; exact congrArg some (decide_eq_true h)) ?_
 unfold isa_Encode_l1
 have hp := part_d ⟨7, d, a, b, i⟩
 have h0 := enc_step ⟨7, d, a, b, i⟩ [100, 97, 98] (2080375762) 0 6 5 100 _ _ rfl hp (by decide) (by decide) (by simp only [Nat.reducePow, Nat.reduceSub] at * <;> omega) (by simp only [Nat.reducePow, Nat.reduceSub] at * <;> omega)
 refine (loop_step (s' := (_, 1)) h0).trans ?_
 clear hp h0
 have hp := part_a ⟨7, d, a, b, i⟩
 have h1 := enc_step ⟨7, d, a, b, i⟩ [100, 97, 98] (2080375762 + (d % ((2 ^ 5 : Nat) : Int)).toNat * 2 ^ (32 - 6 - 5)) 1 11 5 97 _ _ rfl hp (by decide) (by decide) (by simp only [Nat.reducePow, Nat.reduceSub] at * <;> omega) (by simp only [Nat.reducePow, Nat.reduceSub] at * <;> omega)
 refine (loop_step (s' := (_, 2)) h1).trans ?_
 clear hp h1
 have hp := part_b ⟨7, d, a, b, i⟩
 have h2 := enc_step ⟨7, d, a, b, i⟩ [100, 97, 98] (2080375762 + (d % ((2 ^ 5 : Nat) : Int)).toNat * 2 ^ (32 - 6 - 5) + (a % ((2 ^ 5 : Nat) : Int)).toNat * 2 ^ (32 - 11 - 5)) 2 16 5 98 _ _ rfl hp (by decide) (by decide) (by simp only [Nat.reducePow, Nat.reduceSub] at * <;> omega) (by simp only [Nat.reducePow, Nat.reduceSub] at * <;> omega)
 refine (loop_step (s' := (_, 3)) h2).trans ?_
 clear hp h2
 refine (loop_ret rfl).trans ?_
 congr 1
 congr 1
 simp only [Nat.reducePow, Nat.reduceSub]
 omega
theorem re_7 (h : i = 0 ∧ 0 ≤ d ∧ d < 32 ∧ 0 ≤ a ∧ a < 32 ∧ 0 ≤ b ∧ b < 32) : ref02_Encode ⟨7, d, a, b, i⟩ = some (2080375762 + d * 2097152 + a * 65536 + b * 2048) := by
 rw [re_gen ⟨7, d, a, b, i⟩ _ ro_7]
 rw [if_neg (by decide)]
 unfold ref02_Encode_k2
 dsimp only
 rw [if_neg (by decide), if_neg (by decide), if_neg (by decide)]
 unfold ref02_Encode_k1
 congr 1
 simp only [u32w]
 omega
theorem en_8 (h : d = 0 ∧ i = 0 ∧ 0 ≤ a ∧ a < 32 ∧ 0 ≤ b ∧ b < 32) : isa_Encode ⟨8, d, a, b, i⟩ = some (2082471936 + a * 65536 + b * 2048, 0) := by
 refine enc_gen ⟨8, d, a, b, i⟩ [97, 98] _ gl_8 by_str12 (by rw [ig_8]; exact congrArg some (decide_eq_true h)) ?_
 unfold isa_Encode_l1
 have hp := part_a ⟨8, d, a, b, i⟩
 have h0 := enc_step ⟨8, d, a, b, i⟩ [97, 98] (2082471936) 0 11 5 97 _ _ rfl hp (by decide) (by decide) (by simp only [Nat.reducePow, Nat.reduceSub] at * <;> omega) (by simp only [Nat.reducePow, Nat.reduceSub] at * <;> omega)
 refine (loop_step (s' := (_, 1)) h0).trans ?_
 clear hp h0
 have hp := part_b ⟨8, d, a, b, i⟩
 have h1 := enc_step ⟨8, d, a, b, i⟩ [97, 98] (2082471936 + (a % ((2 ^ 5 : Nat) : Int)).toNat * 2 ^ (32 - 11 - 5)) 1 16 5 98 _ _ rfl hp (by decide) (by decide) (by simp only [Nat.reducePow, Nat.reduceSub] at * <;> omega) (by simp only [Nat.reducePow, Nat.reduceSub] at * <;> omega)
 refine (loop_step (s' := (_, 2)) h1).trans ?_
 clear hp h1
 refine (loop_ret rfl).trans ?_
 congr 1
 congr 1
 simp only [Nat.reducePow, Nat.reduceSub]
 omega
theorem re_8 (h : d = 0 ∧ i = 0 ∧ 0 ≤ a ∧ a < 32 ∧ 0 ≤ b ∧ b < 32) : ref02_Encode ⟨8, d, a, b, i⟩ = some (2082471936 + a * 65536 + b * 2048) := by
 rw [re_gen ⟨8, d, a, b, i⟩ _ ro_8]
 rw [if_neg (by decide)]
 unfold ref02_Encode_k2
 dsimp only
 rw [if_neg (by decide), if_neg (by decide), if_neg (by decide)]
 unfold ref02_Encode_k1
 congr 1
 simp only [u32w]
 omega
theorem en_9 (h : d = 0 ∧ b = 0 ∧ 0 ≤ a ∧ a < 32 ∧ -32768 ≤ i ∧ i < 32768) : isa_Encode ⟨9, d, a, b, i⟩ = some (740294656 + a * 65536 + i % 65536, 0) := by
 refine enc_gen ⟨9, d, a, b, i⟩ [97, 105] _ gl_9 by_str14 (by rw [ig_9]; exact congrArg some (decide_eq_true h)) ?_
 unfold isa_Encode_l1
 have hp := part_a ⟨9, d, a, b, i⟩
 have h0 := enc_step ⟨9, d, a, b, i⟩ [97, 105] (740294656) 0 11 5 97 _ _ rfl hp (by decide) (by decide) (by simp only [Nat.reducePow, Nat.reduceSub] at * <;> omega) (by simp only [Nat.reducePow, Nat.reduceSub] at * <;> omega)
 refine (loop_step (s' := (_, 1)) h0).trans ?_
 clear hp h0
 have hp := part_i ⟨9, d, a, b, i⟩
 have h1 := enc_step ⟨9, d, a, b, i⟩ [97, 105] (740294656 + (a % ((2 ^ 5 : Nat) : Int)).toNat * 2 ^ (32 - 11 - 5)) 1 16 16 105 _ _ rfl hp (by decide) (by decide) (by simp only [Nat.reducePow, Nat.reduceSub] at * <;> omega) (by simp only [Nat.reducePow, Nat.reduceSub] at * <;> omega)
 refine (loop_step (s' := (_, 2)) h1).trans ?_
 clear hp h1
 refine (loop_ret rfl).trans ?_
 congr 1
 congr 1
 simp only [Nat.reducePow, Nat.reduceSub]
 omega
theorem re_9 (h : d = 0 ∧ b = 0 ∧ 0 ≤ a ∧ a < 32 ∧ -32768 ≤ i ∧ i < 32768) : ref02_Encode ⟨9, d, a, b, i⟩ = some (740294656 + a * 65536 + i % 65536) := by
 rw [re_gen ⟨9, d, a, b, i⟩ _ ro_9]
 rw [if_neg (by decide)]
 unfold ref02_Encode_k2
 dsimp only
 rw [if_pos (by decide), remP _ _ (by rw [w64_id (by omega) (by omega)]; omega) (by decide), Option.bind_some]
 unfold ref02_Encode_k1
 congr 1
 simp only [u32w]
 rw [w64_id (x := i + 65536) (by omega) (by omega)]
 omega
theorem en_10 (h : b = 0 ∧ (d = 4 ∨ d = 12) ∧ 0 ≤ a ∧ a < 3 ∧ -8192 ≤ i ∧ i < 8192) : isa_Encode ⟨10, d, a, b, i⟩ = some (1073741824 + d * 2097152 + a * 65536 + i % 16384 * 4, 0) := by
 refine enc_gen ⟨10, d, a, b, i⟩ [99, 111] _ gl_10 by_str16 (by rw [ig_10]; exact congrArg some (decide_eq_true h)) ?_
 unfold isa_Encode_l1
 obtain ⟨y, hp, hy⟩ := part_c ⟨10, d, a, b, i⟩
 have hy2 : y = 32 * d + a := hy (by unfold cnd; simp; omega)
 subst hy2
 have h0 := enc_step ⟨10, d, a, b, i⟩ [99, 111] (1073741824) 0 6 10 99 _ _ rfl hp (by decide) (by decide) (by simp only [Nat.reducePow, Nat.reduceSub] at * <;> omega) (by simp only [Nat.reducePow, Nat.reduceSub] at * <;> omega)
 refine (loop_step (s' := (_, 1)) h0).trans ?_
 clear hp h0
 have hp := part_o ⟨10, d, a, b, i⟩
 have h1 := enc_step ⟨10, d, a, b, i⟩ [99, 111] (1073741824 + ((32 * d + a) % ((2 ^ 10 : Nat) : Int)).toNat * 2 ^ (32 - 6 - 10)) 1 16 14 111 _ _ rfl hp (by decide) (by decide) (by simp only [Nat.reducePow, Nat.reduceSub] at * <;> omega) (by simp only [Nat.reducePow, Nat.reduceSub] at * <;> omega)
 refine (loop_step (s' := (_, 2)) h1).trans ?_
 clear hp h1
 refine (loop_ret rfl).trans ?_
 congr 1
 congr 1
 simp only [Nat.reducePow, Nat.reduceSub]
 omega
theorem re_10 (h : b = 0 ∧ (d = 4 ∨ d = 12) ∧ 0 ≤ a ∧ a < 3 ∧ -8192 ≤ i ∧ i < 8192) : ref02_Encode ⟨10, d, a, b, i⟩ = some (1073741824 + d * 2097152 + a * 65536 + i % 16384 * 4) := by
 rw [re_gen ⟨10, d, a, b, i⟩ _ ro_10]
 rw [if_neg (by decide)]
 unfold ref02_Encode_k2
 dsimp only
 rw [if_neg (by decide), if_pos (by decide), w64_id (x := 4 * i) (by omega) (by omega), remP _ _ (by rw [w64_id (by omega) (by omega)]; omega) (by decide), Option.bind_some]
 unfold ref02_Encode_k1
 congr 1
 simp only [u32w]
 rw [w64_id (x := 4 * i + 65536) (by omega) (by omega)]
 omega
theorem en_11 (h : d = 0 ∧ a = 0 ∧ b = 0 ∧ -8388608 ≤ i ∧ i < 8388608) : isa_Encode ⟨11, d, a, b, i⟩ = some (1207959552 + i % 16777216 * 4, 0) := by
 refine enc_gen ⟨11, d, a, b, i⟩ [108] _ gl_11 by_str18 (by rw [ig_11]; exact congrArg some (decide_eq_true h)) ?_
 unfold isa_Encode_l1
 have hp := part_l ⟨11, d, a, b, i⟩
 have h0 := enc_step ⟨11, d, a, b, i⟩ [108] (1207959552) 0 6 24 108 _ _ rfl hp (by decide) (by decide) (by simp only [Nat.reducePow, Nat.reduceSub] at * <;> omega) (by simp only [Nat.reducePow, Nat.reduceSub] at * <;> omega)
 refine (loop_step (s' := (_, 1)) h0).trans ?_
 clear hp h0
 refine (loop_ret rfl).trans ?_
 congr 1
 congr 1
 simp only [Nat.reducePow, Nat.reduceSub]
 omega
theorem re_11 (h : d = 0 ∧ a = 0 ∧ b = 0 ∧ -8388608 ≤ i ∧ i < 8388608) : ref02_Encode ⟨11, d, a, b, i⟩ = some (1207959552 + i % 16777216 * 4) := by
 rw [re_gen ⟨11, d, a, b, i⟩ _ ro_11]
 rw [if_neg (by decide)]
 unfold ref02_Encode_k2
 dsimp only
 rw [if_neg (by decide), if_neg (by decide), if_pos (by decide), w64_id (x := 4 * i) (by omega) (by omega), remP _ _ (by rw [w64_id (by omega) (by omega)]; omega) (by decide), Option.bind_some]
 unfold ref02_Encode_k1
 congr 1
 simp only [u32w]
 rw [w64_id (x := 4 * i + 67108864) (by omega) (by omega)]
 omega
theorem en_12 (h : d = 0 ∧ a = 0 ∧ b = 0 ∧ -8388608 ≤ i ∧ i < 8388608) : isa_Encode ⟨12, d, a, b, i⟩ = some (1207959553 + i % 16777216 * 4, 0) := by
 refine enc_gen ⟨12, d, a, b, i⟩ [108] _ gl_12 by_str18 (by rw [ig_12]; exact congrArg some (decide_eq_true h)) ?_
 unfold isa_Encode_l1
 have hp := part_l ⟨12, d, a, b, i⟩
 have h0 := enc_step ⟨12, d, a, b, i⟩ [108] (1207959553) 0 6 24 108 _ _ rfl hp (by decide) (by decide) (by simp only [Nat.reducePow, Nat.reduceSub] at * <;> omega) (by simp only [Nat.reducePow, Nat.reduceSub] at * <;> omega)
 refine (loop_step (s' := (_, 1)) h0).trans ?_
 clear hp h0
 refine (loop_ret rfl).trans ?_
 congr 1
 congr 1
 simp only [Nat.reducePow, Nat.reduceSub]
 omega
theorem re_12 (h : d = 0 ∧ a = 0 ∧ b = 0 ∧ -8388608 ≤ i ∧ i < 8388608) : ref02_Encode ⟨12, d, a, b, i⟩ = some (1207959553 + i % 16777216 * 4) := by
 rw [re_gen ⟨12, d, a, b, i⟩ _ ro_12]
 rw [if_neg (by decide)]
 unfold ref02_Encode_k2
 dsimp only
 rw [if_neg (by decide), if_neg (by decide), if_pos (by decide), w64_id (x := 4 * i) (by omega) (by omega), remP _ _ (by rw [w64_id (by omega) (by omega)]; omega) (by decide), Option.bind_some]
 unfold ref02_Encode_k1
 congr 1
 simp only [u32w]
 rw [w64_id (x := 4 * i + 67108864) (by omega) (by omega)]
 omega
theorem en_13 (h : d = 0 ∧ a = 0 ∧ b = 0 ∧ i = 0) : isa_Encode ⟨13, d, a, b, i⟩ = some (1317011488, 0) := by
 refine enc_gen ⟨13, d, a, b, i⟩ [] _ gl_13 by_nil (by rw [ig_13]; exact congrArg some (decide_eq_true h)) ?_
 unfold isa_Encode_l1
 refine (loop_ret rfl).trans ?_
 rfl
theorem re_13 (h : d = 0 ∧ a = 0 ∧ b = 0 ∧ i = 0) : ref02_Encode ⟨13, d, a, b, i⟩ = some (1317011488) := by
 rw [re_gen ⟨13, d, a, b, i⟩ _ ro_13]
 rw [if_neg (by decide)]
 unfold ref02_Encode_k2
 dsimp only
 rw [if_neg (by decide), if_neg (by decide), if_neg (by decide)]
 unfold ref02_Encode_k1
 congr 1
 simp only [u32w]
 omega
theorem en_14 (h : a = 0 ∧ b = 0 ∧ i = 0 ∧ 0 ≤ d ∧ d < 32) : isa_Encode ⟨14, d, a, b, i⟩ = some (2080899750 + d * 2097152, 0) := by
 refine enc_gen ⟨14, d, a, b, i⟩ [100] _ gl_14 by_str22 (by rw [ig_14]; exact congrArg some (decide_eq_true h)) ?_
 unfold isa_Encode_l1
 have hp := part_d ⟨14, d, a, b, i⟩
 have h0 := enc_step ⟨14, d, a, b, i⟩ [100] (2080899750) 0 6 5 100 _ _ rfl hp (by decide) (by decide) (by simp only [Nat.reducePow, Nat.reduceSub] at * <;> omega) (by simp only [Nat.reducePow, Nat.reduceSub] at * <;> omega)
 refine (loop_step (s' := (_, 1)) h0).trans ?_
 clear hp h0
 refine (loop_ret rfl).trans ?_
 congr 1
 congr 1
 simp only [Nat.reducePow, Nat.reduceSub]
 omega
theorem re_14 (h : a = 0 ∧ b = 0 ∧ i = 0 ∧ 0 ≤ d ∧ d < 32) : ref02_Encode ⟨14, d, a, b, i⟩ = some (2080899750 + d * 2097152) := by
 rw [re_gen ⟨14, d, a, b, i⟩ _ ro_14]
 rw [if_neg (by decide)]
 unfold ref02_Encode_k2
 dsimp only
 rw [if_neg (by decide), if_neg (by decide), if_neg (by decide)]
 unfold ref02_Encode_k1
 congr 1
 simp only [u32w]
 omega
theorem en_15 (h : a = 0 ∧ b = 0 ∧ i = 0 ∧ 0 ≤ d ∧ d < 32) : isa_Encode ⟨15, d, a, b, i⟩ = some (2080900006 + d * 2097152, 0) := by
 refine enc_gen ⟨15, d, a, b, i⟩ [100] _ gl_15 by_str22 (by rw [ig_15]; exact congrArg some (decide_eq_true h)) ?_
 unfold isa_Encode_l1
 have hp := part_d ⟨15, d, a, b, i⟩
 have h0 := enc_step ⟨15, d, a, b, i⟩ [100] (2080900006) 0 6 5 100 _ _ rfl hp (by decide) (by decide) (by simp only [Nat.reducePow, Nat.reduceSub] at * <;> omega) (by simp only [Nat.reducePow, Nat.reduceSub] at * <;> omega)
 refine (loop_step (s' := (_, 1)) h0).trans ?_
 clear hp h0
 refine (loop_ret rfl).trans ?_
 congr 1
 congr 1
 simp only [Nat.reducePow, Nat.reduceSub]
 omega
theorem re_15 (h : a = 0 ∧ b = 0 ∧ i = 0 ∧ 0 ≤ d ∧ d < 32) : ref02_Encode ⟨15, d, a, b, i⟩ = some (2080900006 + d * 2097152) := by
 rw [re_gen ⟨15, d, a, b, i⟩ _ ro_15]
 rw [if_neg (by decide)]
 unfold ref02_Encode_k2
 dsimp only
 rw [if_neg (by decide), if_neg (by decide), if_neg (by decide)]
 unfold ref02_Encode_k1
 congr 1
 simp only [u32w]
 omega
theorem en_16 (h : i = 0 ∧ 0 ≤ d ∧ d < 32 ∧ 0 ≤ a ∧ a < 32 ∧ 0 ≤ b ∧ b < 32) : isa_Encode ⟨16, d, a, b, i⟩ = some (2080374952 + d * 2097152 + a * 65536 + b * 2048, 0) := by
 refine enc_gen ⟨16, d, a, b, i⟩ [100, 97, 98] _ gl_16 by_str7 (by rw [ig_16]; exact congrArg some (decide_eq_true h)) ?_
 unfold isa_Encode_l1
 have hp := part_d ⟨16, d, a, b, i⟩
 have h0 := enc_step ⟨16, d, a, b, i⟩ [100, 97, 98] (2080374952) 0 6 5 100 _ _ rfl hp (by decide) (by decide) (by simp only [Nat.reducePow, Nat.reduceSub] at * <;> omega) (by simp only [Nat.reducePow, Nat.reduceSub] at * <;> omega)
 refine (loop_step (s' := (_, 1)) h0).trans ?_
 clear hp h0
 have hp := part_a ⟨16, d, a, b, i⟩
 have h1 := enc_step ⟨16, d, a, b, i⟩ [100, 97, 98] (2080374952 + (d % ((2 ^ 5 : Nat) : Int)).toNat * 2 ^ (32 - 6 - 5)) 1 11 5 97 _ _ rfl hp (by decide) (by decide) (by simp only [Nat.reducePow, Nat.reduceSub] at * <;> omega) (by simp only [Nat.reducePow, Nat.reduceSub] at * <;> omega)
 refine (loop_step (s' := (_, 2)) h1).trans ?_
 clear hp h1
 have hp := part_b ⟨16, d, a, b, i⟩
 have h2 := enc_step ⟨16, d, a, b, i⟩ [100, 97, 98] (2080374952 + (d % ((2 ^ 5 : Nat) : Int)).toNat * 2 ^ (32 - 6 - 5) + (a % ((2 ^ 5 : Nat) : Int)).toNat * 2 ^ (32 - 11 - 5)) 2 16 5 98 _ _ rfl hp (by decide) (by decide) (by simp only [Nat.reducePow, Nat.reduceSub] at * <;> omega) (by simp only [Nat.reducePow, Nat.reduceSub] at * <;> omega)
 refine (loop_step (s' := (_, 3)) h2).trans ?_
 clear hp h2
 refine (loop_ret rfl).trans ?_
 congr 1
 congr 1
 simp only [Nat.reducePow, Nat.reduceSub]
 omega
theorem re_16 (h : i = 0 ∧ 0 ≤ d ∧ d < 32 ∧ 0 ≤ a ∧ a < 32 ∧ 0 ≤ b ∧ b < 32) : ref02_Encode ⟨16, d, a, b, i⟩ = some (2080374952 + d * 2097152 + a * 65536 + b * 2048) := by
 rw [re_gen ⟨16, d, a, b, i⟩ _ ro_16]
 rw [if_neg (by decide)]
 unfold ref02_Encode_k2
 dsimp only
 rw [if_neg (by decide), if_neg (by decide), if_neg (by decide)]
 unfold ref02_Encode_k1
 congr 1
 simp only [u32w]
 omega
theorem en_17 (h : i = 0 ∧ 0 ≤ d ∧ d < 32 ∧ 0 ≤ a ∧ a < 32 ∧ 0 ≤ b ∧ b < 32) : isa_Encode ⟨17, d, a, b, i⟩ = some (2080375213 + d * 2097152 + a * 65536 + b * 2048, 0) := by
 refine enc_gen ⟨17, d, a, b, i⟩ [100, 97, 98] _ gl_17 by_str7 (by rw [ig_17]; exact congrArg some (decide_eq_true h)) ?_
 unfold isa_Encode_l1
 have hp := part_d ⟨17, d, a, b, i⟩
 have h0 := enc_step ⟨17, d, a, b, i⟩ [100, 97, 98] (2080375213) 0 6 5 100 _ _ rfl hp (by decide) (by decide) (by simp only [Nat.reducePow, Nat.reduceSub] at * <;> omega) (by simp only [Nat.reducePow, Nat.reduceSub] at * <;> omega)
 refine (loop_step (s' := (_, 1)) h0).trans ?_
 clear hp h0
 have hp := part_a ⟨17, d, a, b, i⟩
 have h1 := enc_step ⟨17, d, a, b, i⟩ [100, 97, 98] (2080375213 + (d % ((2 ^ 5 : Nat) : Int)).toNat * 2 ^ (32 - 6 - 5)) 1 11 5 97 _ _ rfl hp (by decide) (by decide) (by simp only [Nat.reducePow, Nat.reduceSub] at * <;> omega) (by simp only [Nat.reducePow, Nat.reduceSub] at * <;> omega)
 refine (loop_step (s' := (_, 2)) h1).trans ?_
 clear hp h1
 have hp := part_b ⟨17, d, a, b, i⟩
 have h2 := enc_step ⟨17, d, a, b, i⟩ [100, 97, 98] (2080375213 + (d % ((2 ^ 5 : Nat) : Int)).toNat * 2 ^ (32 - 6 - 5) + (a % ((2 ^ 5 : Nat) : Int)).toNat * 2 ^ (32 - 11 - 5)) 2 16 5 98 _ _ rfl hp (by decide) (by decide) (by simp only [Nat.reducePow, Nat.reduceSub] at * <;> omega) (by simp only [Nat.reducePow, Nat.reduceSub] at * <;> omega)
 refine (loop_step (s' := (_, 3)) h2).trans ?_
 clear hp h2
 refine (loop_ret rfl).trans ?_
 congr 1
 congr 1
 simp only [Nat.reducePow, Nat.reduceSub]
 omega
theorem re_17 (h : i = 0 ∧ 0 ≤ d ∧ d < 32 ∧ 0 ≤ a ∧ a < 32 ∧ 0 ≤ b ∧ b < 32) : ref02_Encode ⟨17, d, a, b, i⟩ = some (2080375213 + d * 2097152 + a * 65536 + b * 2048) := by
 rw [re_gen ⟨17, d, a, b, i⟩ _ ro_17]
 rw [if_neg (by decide)]
 unfold ref02_Encode_k2
 dsimp only
 rw [if_neg (by decide), if_neg (by decide), if_neg (by decide)]
 unfold ref02_Encode_k1
 congr 1
 simp only [u32w]
 omega
theorem en_18 (h : d = 0 ∧ a = 0 ∧ b = 0 ∧ i = 0) : isa_Encode ⟨18, d, a, b, i⟩ = some (2080375980, 0) := by
 refine enc_gen ⟨18, d, a, b, i⟩ [] _ gl_18 by_nil (by rw [ig_18]; exact congrArg some (decide_eq_true h)) ?_
 unfold isa_Encode_l1
 refine (loop_ret rfl).trans ?_
 rfl
theorem re_18 (h : d = 0 ∧ a = 0 ∧ b = 0 ∧ i = 0) : ref02_Encode ⟨18, d, a, b, i⟩ = some (2080375980) := by
 rw [re_gen ⟨18, d, a, b, i⟩ _ ro_18]
 rw [if_neg (by decide)]
 unfold ref02_Encode_k2
 dsimp only
 rw [if_neg (by decide), if_neg (by decide), if_neg (by decide)]
 unfold ref02_Encode_k1
 congr 1
 simp only [u32w]
 omega
theorem en_19 (h : d = 0 ∧ a = 0 ∧ b = 0 ∧ i = 0) : isa_Encode ⟨19, d, a, b, i⟩ = some (2082473132, 0) := by
 refine enc_gen ⟨19, d, a, b, i⟩ [] _ gl_19 by_nil (by rw [ig_19]; exact congrArg some (decide_eq_true h)) ?_
 unfold isa_Encode_l1
 refine (loop_ret rfl).trans ?_
 rfl
theorem re_19 (h : d = 0 ∧ a = 0 ∧ b = 0 ∧ i = 0) : ref02_Encode ⟨19, d, a, b, i⟩ = some (2082473132) := by
 rw [re_gen ⟨19, d, a, b, i⟩ _ ro_19]
 rw [if_neg (by decide)]
 unfold ref02_Encode_k2
 dsimp only
 rw [if_neg (by decide), if_neg (by decide), if_neg (by decide)]
 unfold ref02_Encode_k1
 congr 1
 simp only [u32w]
 omega
theorem en_20 (h : d = 0 ∧ a = 0 ∧ b = 0 ∧ i = 0) : isa_Encode ⟨20, d, a, b, i⟩ = some (1275068716, 0) := by
 refine enc_gen ⟨20, d, a, b, i⟩ [] _ gl_20 by_nil (by rw [ig_20]; exact congrArg some (decide_eq_true h)) ?_
 unfold isa_Encode_l1
 refine (loop_ret rfl).trans ?_
 rfl
theorem re_20 (h : d = 0 ∧ a = 0 ∧ b = 0 ∧ i = 0) : ref02_Encode ⟨20, d, a, b, i⟩ = some (1275068716) := by
 rw [re_gen ⟨20, d, a, b, i⟩ _ ro_20]
 rw [if_neg (by decide)]
 unfold ref02_Encode_k2
 dsimp only
 rw [if_neg (by decide), if_neg (by decide), if_neg (by decide)]
 unfold ref02_Encode_k1
 congr 1
 simp only [u32w]
 omega
theorem en_21 (h : d = 0 ∧ a = 0 ∧ b = 0 ∧ 0 ≤ i ∧ i < 32768) : isa_Encode ⟨21, d, a, b, i⟩ = some (266338304 + i % 65536, 0) := by
 refine enc_gen ⟨21, d, a, b, i⟩ [105] _ gl_21 by_str30 (by rw [ig_21]; exact congrArg some (decide_eq_true h)) ?_
 unfold isa_Encode_l1
 have hp := part_i ⟨21, d, a, b, i⟩
 have h0 := enc_step ⟨21, d, a, b, i⟩ [105] (266338304) 0 16 16 105 _ _ rfl hp (by decide) (by decide) (by simp only [Nat.reducePow, Nat.reduceSub] at * <;> omega) (by simp only [Nat.reducePow, Nat.reduceSub] at * <;> omega)
 refine (loop_step (s' := (_, 1)) h0).trans ?_
 clear hp h0
 refine (loop_ret rfl).trans ?_
 congr 1
 congr 1
 simp only [Nat.reducePow, Nat.reduceSub]
 omega
theorem re_21 (h : d = 0 ∧ a = 0 ∧ b = 0 ∧ 0 ≤ i ∧ i < 32768) : ref02_Encode ⟨21, d, a, b, i⟩ = some (266338304 + i % 65536) := by
 rw [re_gen ⟨21, d, a, b, i⟩ _ ro_21]
 rw [if_neg (by decide)]
 unfold ref02_Encode_k2
 dsimp only
 rw [if_pos (by decide), remP _ _ (by rw [w64_id (by omega) (by omega)]; omega) (by decide), Option.bind_some]
 unfold ref02_Encode_k1
 congr 1
 simp only [u32w]
 rw [w64_id (x := i + 65536) (by omega) (by omega)]
 omega
theorem en_22 (h : a = 0 ∧ b = 0 ∧ i = 0 ∧ 0 ≤ d ∧ d < 32) : isa_Encode ⟨22, d, a, b, i⟩ = some (1140850690 + d * 2097152, 0) := by
 refine enc_gen ⟨22, d, a, b, i⟩ [100] _ gl_22 by_str22 (by rw [ig_22]; exact congrArg some (decide_eq_true h)) ?_
 unfold isa_Encode_l1
 have hp := part_d ⟨22, d, a, b, i⟩
 have h0 := enc_step ⟨22, d, a, b, i⟩ [100] (1140850690) 0 6 5 100 _ _ rfl hp (by decide) (by decide) (by simp only [Nat.reducePow, Nat.reduceSub] at * <;> omega) (by simp only [Nat.reducePow, Nat.reduceSub] at * <;> omega)
 refine (loop_step (s' := (_, 1)) h0).trans ?_
 clear hp h0
 refine (loop_ret rfl).trans ?_
 congr 1
 congr 1
 simp only [Nat.reducePow, Nat.reduceSub]
 omega
theorem re_22 (h : a = 0 ∧ b = 0 ∧ i = 0 ∧ 0 ≤ d ∧ d < 32) : ref02_Encode ⟨22, d, a, b, i⟩ = some (1140850690 + d * 2097152) := by
 rw [re_gen ⟨22, d, a, b, i⟩ _ ro_22]
 rw [if_neg (by decide)]
 unfold ref02_Encode_k2
 dsimp only
 rw [if_neg (by decide), if_neg (by decide), if_neg (by decide)]
 unfold ref02_Encode_k1
 congr 1
 simp only [u32w]
 omega
end Go.Vm.G02
