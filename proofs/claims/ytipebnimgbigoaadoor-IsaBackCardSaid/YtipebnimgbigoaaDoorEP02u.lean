/-
 What is read, and both ways back.
-/
import Derived.Test.YtipebnimgbigoaaDoorEP02s
set_option linter.unusedSimpArgs false
set_option linter.unusedVariables false
namespace Go.Vm.G02
open Go
theorem sg_bd (n x : Nat) (h : 1 ≤ n) : -((2 ^ (n - 1) : Nat) : Int) ≤ sg n x ∧ sg n x < ((2 ^ (n - 1) : Nat) : Int) := by
 unfold sg
 have h3 : x % 2 ^ n < 2 ^ n := Nat.mod_lt _ (pow_pos n)
 have hp : 2 ^ n = 2 * 2 ^ (n - 1) := by
  rw [show 2 * 2 ^ (n - 1) = 2 ^ (n - 1 + 1) from by rw [Nat.pow_succ, Nat.mul_comm], Nat.sub_add_cancel h]
 generalize x % 2 ^ n = v at h3
 rw [hp] at h3 ⊢
 generalize 2 ^ (n - 1) = m at h3
 split <;> omega
theorem sg_eq {n w : Nat} {i : Int} (h : 1 ≤ n) (h1 : -((2 ^ (n - 1) : Nat) : Int) ≤ i) (h2 : i < ((2 ^ (n - 1) : Nat) : Int)) (e : ((w % 2 ^ n : Nat) : Int) = i ∨ ((w % 2 ^ n : Nat) : Int) = i + ((2 ^ n : Nat) : Int)) : sg n w = i := by
 unfold sg
 have hp : 2 ^ n = 2 * 2 ^ (n - 1) := by
  rw [show 2 * 2 ^ (n - 1) = 2 ^ (n - 1 + 1) from by rw [Nat.pow_succ, Nat.mul_comm], Nat.sub_add_cancel h]
 generalize w % 2 ^ n = v at e
 rw [hp] at e ⊢
 generalize 2 ^ (n - 1) = m at h1 h2 e
 split <;> omega
variable (k0 x30 x31 x32 x33 : Int)
theorem rs_nil {w : Nat} : isa_read_l1 k0 w [] x30 x31 x32 x33 0 = some ⟨k0, x30, x31, x32, x33⟩ := loop_ret rfl
theorem rs_100 {xs : List Int} {j : Nat} {w : Nat} (hw : w < 4294967296) (hx : xs[j]? = some 100) : isa_read_l1b k0 w xs x30 x31 x32 x33 j = some (.inl (((w / 2097152 % 32 : Nat) : Int), x31, x32, x33, w64 ((j : Int) + 1))) := by
 have hk : j < xs.length := (List.getElem?_eq_some_iff.1 hx).1
 unfold isa_read_l1b isa_read_k1
 rw [if_pos (decide_eq_true (by omega)), ix_nat, hx, Option.bind_some]
 rw [if_pos (by decide)]
 have h := get_is w 6 5 (by decide) (by decide) hw
 rw [show word_Get (w : Int) 6 5 = some ((w / 2097152 % 32 : Nat) : Int) from h, Option.bind_some, w64_id (by omega) (by omega)]
theorem rs_97 {xs : List Int} {j : Nat} {w : Nat} (hw : w < 4294967296) (hx : xs[j]? = some 97) : isa_read_l1b k0 w xs x30 x31 x32 x33 j = some (.inl (x30, ((w / 65536 % 32 : Nat) : Int), x32, x33, w64 ((j : Int) + 1))) := by
 have hk : j < xs.length := (List.getElem?_eq_some_iff.1 hx).1
 unfold isa_read_l1b isa_read_k1
 rw [if_pos (decide_eq_true (by omega)), ix_nat, hx, Option.bind_some]
 rw [if_neg (by decide), if_pos (by decide)]
 have h := get_is w 11 5 (by decide) (by decide) hw
 rw [show word_Get (w : Int) 11 5 = some ((w / 65536 % 32 : Nat) : Int) from h, Option.bind_some, w64_id (by omega) (by omega)]
theorem rs_98 {xs : List Int} {j : Nat} {w : Nat} (hw : w < 4294967296) (hx : xs[j]? = some 98) : isa_read_l1b k0 w xs x30 x31 x32 x33 j = some (.inl (x30, x31, ((w / 2048 % 32 : Nat) : Int), x33, w64 ((j : Int) + 1))) := by
 have hk : j < xs.length := (List.getElem?_eq_some_iff.1 hx).1
 unfold isa_read_l1b isa_read_k1
 rw [if_pos (decide_eq_true (by omega)), ix_nat, hx, Option.bind_some]
 rw [if_neg (by decide), if_neg (by decide), if_pos (by decide)]
 have h := get_is w 16 5 (by decide) (by decide) hw
 rw [show word_Get (w : Int) 16 5 = some ((w / 2048 % 32 : Nat) : Int) from h, Option.bind_some, w64_id (by omega) (by omega)]
theorem rs_105 {xs : List Int} {j : Nat} {w : Nat} (hw : w < 4294967296) (hx : xs[j]? = some 105) : isa_read_l1b k0 w xs x30 x31 x32 x33 j = some (.inl (x30, x31, x32, sg 16 w, w64 ((j : Int) + 1))) := by
 have hk : j < xs.length := (List.getElem?_eq_some_iff.1 hx).1
 unfold isa_read_l1b isa_read_k1
 rw [if_pos (decide_eq_true (by omega)), ix_nat, hx, Option.bind_some]
 rw [if_neg (by decide), if_neg (by decide), if_neg (by decide), if_pos (by decide)]
 have h := signed_is w 16 (by decide) (by decide) hw
 rw [show word_Signed (w : Int) 16 = some (sg 16 w) from h, Option.bind_some]
theorem rs_109 {xs : List Int} {j : Nat} {w : Nat} (hw : w < 4294967296) (hx : xs[j]? = some 109) : isa_read_l1b k0 w xs x30 x31 x32 x33 j = some (.inl (x30, x31, x32, 4 * sg 14 (w / 4 % 16384), w64 ((j : Int) + 1))) := by
 have hk : j < xs.length := (List.getElem?_eq_some_iff.1 hx).1
 unfold isa_read_l1b isa_read_k1
 rw [if_pos (decide_eq_true (by omega)), ix_nat, hx, Option.bind_some]
 rw [if_neg (by decide), if_neg (by decide), if_neg (by decide), if_neg (by decide), if_pos (by decide)]
 have h := get_is w 16 14 (by decide) (by decide) hw
 rw [show word_Get (w : Int) 16 14 = some ((w / 4 % 16384 : Nat) : Int) from h, Option.bind_some]
 have h2 := signed_is (w / 4 % 16384) 14 (by decide) (by decide) (by omega)
 rw [show word_Signed ((w / 4 % 16384 : Nat) : Int) 14 = some (sg 14 (w / 4 % 16384)) from h2, Option.bind_some]
 have h3 := sg_bd 14 (w / 4 % 16384) (by decide)
 simp only [Nat.reducePow, Nat.reduceSub] at h3
 rw [w64_id (by omega) (by omega)]
theorem rs_111 {xs : List Int} {j : Nat} {w : Nat} (hw : w < 4294967296) (hx : xs[j]? = some 111) : isa_read_l1b k0 w xs x30 x31 x32 x33 j = some (.inl (x30, x31, x32, sg 14 (w / 4 % 16384), w64 ((j : Int) + 1))) := by
 have hk : j < xs.length := (List.getElem?_eq_some_iff.1 hx).1
 unfold isa_read_l1b isa_read_k1
 rw [if_pos (decide_eq_true (by omega)), ix_nat, hx, Option.bind_some]
 rw [if_neg (by decide), if_neg (by decide), if_neg (by decide), if_neg (by decide), if_neg (by decide), if_pos (by decide)]
 have h := get_is w 16 14 (by decide) (by decide) hw
 rw [show word_Get (w : Int) 16 14 = some ((w / 4 % 16384 : Nat) : Int) from h, Option.bind_some]
 have h2 := signed_is (w / 4 % 16384) 14 (by decide) (by decide) (by omega)
 rw [show word_Signed ((w / 4 % 16384 : Nat) : Int) 14 = some (sg 14 (w / 4 % 16384)) from h2, Option.bind_some]
theorem rs_108 {xs : List Int} {j : Nat} {w : Nat} (hw : w < 4294967296) (hx : xs[j]? = some 108) : isa_read_l1b k0 w xs x30 x31 x32 x33 j = some (.inl (x30, x31, x32, sg 24 (w / 4 % 16777216), w64 ((j : Int) + 1))) := by
 have hk : j < xs.length := (List.getElem?_eq_some_iff.1 hx).1
 unfold isa_read_l1b isa_read_k1
 rw [if_pos (decide_eq_true (by omega)), ix_nat, hx, Option.bind_some]
 rw [if_neg (by decide), if_neg (by decide), if_neg (by decide), if_neg (by decide), if_neg (by decide), if_neg (by decide), if_pos (by decide)]
 have h := get_is w 6 24 (by decide) (by decide) hw
 rw [show word_Get (w : Int) 6 24 = some ((w / 4 % 16777216 : Nat) : Int) from h, Option.bind_some]
 have h2 := signed_is (w / 4 % 16777216) 24 (by decide) (by decide) (by omega)
 rw [show word_Signed ((w / 4 % 16777216 : Nat) : Int) 24 = some (sg 24 (w / 4 % 16777216)) from h2, Option.bind_some]
theorem rs_99 {xs : List Int} {j : Nat} {w : Nat} (hw : w < 4294967296) (hx : xs[j]? = some 99) : isa_read_l1b k0 w xs x30 x31 x32 x33 j = some (.inl (((w / 2097152 % 32 : Nat) : Int), ((w / 65536 % 32 : Nat) : Int), x32, x33, w64 ((j : Int) + 1))) := by
 have hk : j < xs.length := (List.getElem?_eq_some_iff.1 hx).1
 unfold isa_read_l1b isa_read_k1
 rw [if_pos (decide_eq_true (by omega)), ix_nat, hx, Option.bind_some]
 rw [if_neg (by decide), if_neg (by decide), if_neg (by decide), if_neg (by decide), if_neg (by decide), if_neg (by decide), if_neg (by decide), if_pos (by decide)]
 have h := get_is w 6 5 (by decide) (by decide) hw
 rw [show word_Get (w : Int) 6 5 = some ((w / 2097152 % 32 : Nat) : Int) from h, Option.bind_some]
 have h2 := get_is w 11 5 (by decide) (by decide) hw
 rw [show word_Get (w : Int) 11 5 = some ((w / 65536 % 32 : Nat) : Int) from h2, Option.bind_some, w64_id (x := ((w / 2097152 % 32 : Nat) : Int)) (by omega) (by omega), w64_id (x := ((w / 65536 % 32 : Nat) : Int)) (by omega) (by omega)]
def rd (w : Nat) : Nat → TInst
 | 1 => ⟨1, ((w / 2097152 % 32 : Nat) : Int), ((w / 65536 % 32 : Nat) : Int), 0, 4 * sg 14 (w / 4 % 16384)⟩
 | 2 => ⟨2, ((w / 2097152 % 32 : Nat) : Int), ((w / 65536 % 32 : Nat) : Int), 0, 4 * sg 14 (w / 4 % 16384)⟩
 | 3 => ⟨3, ((w / 2097152 % 32 : Nat) : Int), ((w / 65536 % 32 : Nat) : Int), 0, sg 16 w⟩
 | 4 => ⟨4, ((w / 2097152 % 32 : Nat) : Int), ((w / 65536 % 32 : Nat) : Int), ((w / 2048 % 32 : Nat) : Int), 0⟩
 | 5 => ⟨5, ((w / 2097152 % 32 : Nat) : Int), ((w / 65536 % 32 : Nat) : Int), ((w / 2048 % 32 : Nat) : Int), 0⟩
 | 6 => ⟨6, ((w / 2097152 % 32 : Nat) : Int), ((w / 65536 % 32 : Nat) : Int), ((w / 2048 % 32 : Nat) : Int), 0⟩
 | 7 => ⟨7, ((w / 2097152 % 32 : Nat) : Int), ((w / 65536 % 32 : Nat) : Int), ((w / 2048 % 32 : Nat) : Int), 0⟩
 | 8 => ⟨8, 0, ((w / 65536 % 32 : Nat) : Int), ((w / 2048 % 32 : Nat) : Int), 0⟩
 | 9 => ⟨9, 0, ((w / 65536 % 32 : Nat) : Int), 0, sg 16 w⟩
 | 10 => ⟨10, ((w / 2097152 % 32 : Nat) : Int), ((w / 65536 % 32 : Nat) : Int), 0, sg 14 (w / 4 % 16384)⟩
 | 11 => ⟨11, 0, 0, 0, sg 24 (w / 4 % 16777216)⟩
 | 12 => ⟨12, 0, 0, 0, sg 24 (w / 4 % 16777216)⟩
 | 13 => ⟨13, 0, 0, 0, 0⟩
 | 14 => ⟨14, ((w / 2097152 % 32 : Nat) : Int), 0, 0, 0⟩
 | 15 => ⟨15, ((w / 2097152 % 32 : Nat) : Int), 0, 0, 0⟩
 | 16 => ⟨16, ((w / 2097152 % 32 : Nat) : Int), ((w / 65536 % 32 : Nat) : Int), ((w / 2048 % 32 : Nat) : Int), 0⟩
 | 17 => ⟨17, ((w / 2097152 % 32 : Nat) : Int), ((w / 65536 % 32 : Nat) : Int), ((w / 2048 % 32 : Nat) : Int), 0⟩
 | 18 => ⟨18, 0, 0, 0, 0⟩
 | 19 => ⟨19, 0, 0, 0, 0⟩
 | 20 => ⟨20, 0, 0, 0, 0⟩
 | 21 => ⟨21, 0, 0, 0, sg 16 w⟩
 | 22 => ⟨22, ((w / 2097152 % 32 : Nat) : Int), 0, 0, 0⟩
 | _ => ⟨0, 0, 0, 0, 0⟩
theorem read_gen {k : Int} {w : Nat} {xs : List Int} {n f : ByteArray} {wd : Int} {q : TInst} (hi : ix gl0 k = some ⟨n, f, wd⟩) (hb : bytesO f = some xs) (hl : isa_read_l1 k w xs 0 0 0 0 0 = some q) : isa_read k w = some q := by
 unfold isa_read
 rw [hi, Option.bind_some, hb, Option.bind_some, hl]
theorem rd_1 {w : Nat} (hw : w < 4294967296) : isa_read 1 w = some (rd w 1) :=
 read_gen gl_1 by_str2 ((loop_step (rs_100 1 _ _ _ _ (j := 0) hw rfl)).trans <| (loop_step (rs_97 1 _ _ _ _ (j := 1) hw rfl)).trans <| (loop_step (rs_109 1 _ _ _ _ (j := 2) hw rfl)).trans <| loop_ret rfl)
theorem rd_2 {w : Nat} (hw : w < 4294967296) : isa_read 2 w = some (rd w 2) :=
 read_gen gl_2 by_str2 ((loop_step (rs_100 2 _ _ _ _ (j := 0) hw rfl)).trans <| (loop_step (rs_97 2 _ _ _ _ (j := 1) hw rfl)).trans <| (loop_step (rs_109 2 _ _ _ _ (j := 2) hw rfl)).trans <| loop_ret rfl)
theorem rd_3 {w : Nat} (hw : w < 4294967296) : isa_read 3 w = some (rd w 3) :=
 read_gen gl_3 by_str5 ((loop_step (rs_100 3 _ _ _ _ (j := 0) hw rfl)).trans <| (loop_step (rs_97 3 _ _ _ _ (j := 1) hw rfl)).trans <| (loop_step (rs_105 3 _ _ _ _ (j := 2) hw rfl)).trans <| loop_ret rfl)
theorem rd_4 {w : Nat} (hw : w < 4294967296) : isa_read 4 w = some (rd w 4) :=
 read_gen gl_4 by_str7 ((loop_step (rs_100 4 _ _ _ _ (j := 0) hw rfl)).trans <| (loop_step (rs_97 4 _ _ _ _ (j := 1) hw rfl)).trans <| (loop_step (rs_98 4 _ _ _ _ (j := 2) hw rfl)).trans <| loop_ret rfl)
theorem rd_5 {w : Nat} (hw : w < 4294967296) : isa_read 5 w = some (rd w 5) :=
 read_gen gl_5 by_str7 ((loop_step (rs_100 5 _ _ _ _ (j := 0) hw rfl)).trans <| (loop_step (rs_97 5 _ _ _ _ (j := 1) hw rfl)).trans <| (loop_step (rs_98 5 _ _ _ _ (j := 2) hw rfl)).trans <| loop_ret rfl)
theorem rd_6 {w : Nat} (hw : w < 4294967296) : isa_read 6 w = some (rd w 6) :=
 read_gen gl_6 by_str7 ((loop_step (rs_100 6 _ _ _ _ (j := 0) hw rfl)).trans <| (loop_step (rs_97 6 _ _ _ _ (j := 1) hw rfl)).trans <| (loop_step (rs_98 6 _ _ _ _ (j := 2) hw rfl)).trans <| loop_ret rfl)
theorem rd_7 {w : Nat} (hw : w < 4294967296) : isa_read 7 w = some (rd w 7) :=
 read_gen gl_7 by_str7 ((loop_step (rs_100 7 _ _ _ _ (j := 0) hw rfl)).trans <| (loop_step (rs_97 7 _ _ _ _ (j := 1) hw rfl)).trans <| (loop_step (rs_98 7 _ _ _ _ (j := 2) hw rfl)).trans <| loop_ret rfl)
theorem rd_8 {w : Nat} (hw : w < 4294967296) : isa_read 8 w = some (rd w 8) :=
 read_gen gl_8 by_str12 ((loop_step (rs_97 8 _ _ _ _ (j := 0) hw rfl)).trans <| (loop_step (rs_98 8 _ _ _ _ (j := 1) hw rfl)).trans <| loop_ret rfl)
theorem rd_9 {w : Nat} (hw : w < 4294967296) : isa_read 9 w = some (rd w 9) :=
 read_gen gl_9 by_str14 ((loop_step (rs_97 9 _ _ _ _ (j := 0) hw rfl)).trans <| (loop_step (rs_105 9 _ _ _ _ (j := 1) hw rfl)).trans <| loop_ret rfl)
theorem rd_10 {w : Nat} (hw : w < 4294967296) : isa_read 10 w = some (rd w 10) :=
 read_gen gl_10 by_str16 ((loop_step (rs_99 10 _ _ _ _ (j := 0) hw rfl)).trans <| (loop_step (rs_111 10 _ _ _ _ (j := 1) hw rfl)).trans <| loop_ret rfl)
theorem rd_11 {w : Nat} (hw : w < 4294967296) : isa_read 11 w = some (rd w 11) :=
 read_gen gl_11 by_str18 ((loop_step (rs_108 11 _ _ _ _ (j := 0) hw rfl)).trans <| loop_ret rfl)
theorem rd_12 {w : Nat} (hw : w < 4294967296) : isa_read 12 w = some (rd w 12) :=
 read_gen gl_12 by_str18 ((loop_step (rs_108 12 _ _ _ _ (j := 0) hw rfl)).trans <| loop_ret rfl)
theorem rd_13 {w : Nat} (hw : w < 4294967296) : isa_read 13 w = some (rd w 13) :=
 read_gen gl_13 by_nil (loop_ret rfl)
theorem rd_14 {w : Nat} (hw : w < 4294967296) : isa_read 14 w = some (rd w 14) :=
 read_gen gl_14 by_str22 ((loop_step (rs_100 14 _ _ _ _ (j := 0) hw rfl)).trans <| loop_ret rfl)
theorem rd_15 {w : Nat} (hw : w < 4294967296) : isa_read 15 w = some (rd w 15) :=
 read_gen gl_15 by_str22 ((loop_step (rs_100 15 _ _ _ _ (j := 0) hw rfl)).trans <| loop_ret rfl)
theorem rd_16 {w : Nat} (hw : w < 4294967296) : isa_read 16 w = some (rd w 16) :=
 read_gen gl_16 by_str7 ((loop_step (rs_100 16 _ _ _ _ (j := 0) hw rfl)).trans <| (loop_step (rs_97 16 _ _ _ _ (j := 1) hw rfl)).trans <| (loop_step (rs_98 16 _ _ _ _ (j := 2) hw rfl)).trans <| loop_ret rfl)
theorem rd_17 {w : Nat} (hw : w < 4294967296) : isa_read 17 w = some (rd w 17) :=
 read_gen gl_17 by_str7 ((loop_step (rs_100 17 _ _ _ _ (j := 0) hw rfl)).trans <| (loop_step (rs_97 17 _ _ _ _ (j := 1) hw rfl)).trans <| (loop_step (rs_98 17 _ _ _ _ (j := 2) hw rfl)).trans <| loop_ret rfl)
theorem rd_18 {w : Nat} (hw : w < 4294967296) : isa_read 18 w = some (rd w 18) :=
 read_gen gl_18 by_nil (loop_ret rfl)
theorem rd_19 {w : Nat} (hw : w < 4294967296) : isa_read 19 w = some (rd w 19) :=
 read_gen gl_19 by_nil (loop_ret rfl)
theorem rd_20 {w : Nat} (hw : w < 4294967296) : isa_read 20 w = some (rd w 20) :=
 read_gen gl_20 by_nil (loop_ret rfl)
theorem rd_21 {w : Nat} (hw : w < 4294967296) : isa_read 21 w = some (rd w 21) :=
 read_gen gl_21 by_str30 ((loop_step (rs_105 21 _ _ _ _ (j := 0) hw rfl)).trans <| loop_ret rfl)
theorem rd_22 {w : Nat} (hw : w < 4294967296) : isa_read 22 w = some (rd w 22) :=
 read_gen gl_22 by_str22 ((loop_step (rs_100 22 _ _ _ _ (j := 0) hw rfl)).trans <| loop_ret rfl)
theorem rf_1 {w : Nat} (hw : w < 4294967296) : ref02_Decode_l1b w 1 = ref02_Decode_k4 w 1 (rd w 1).d (rd w 1).a (rd w 1).b (rd w 1).imm := by
 show _ = ref02_Decode_k4 w 1 ((w / 2097152 % 32 : Nat) : Int) ((w / 65536 % 32 : Nat) : Int) 0 (4 * sg 14 (w / 4 % 16384))
 unfold ref02_Decode_l1b
 rw [if_pos (by decide), ro_1, Option.bind_some]
 rw [if_pos rfl]
 have hd := rget_is w 6 5 (by decide) hw
 rw [show ref01_Get (w : Int) 6 5 = some ((w / 2097152 % 32 : Nat) : Int) from hd, Option.bind_some]
 rw [w64_id (x := ((w / 2097152 % 32 : Nat) : Int)) (by omega) (by omega)]
 unfold ref02_Decode_k1
 rw [if_pos rfl]
 have ha := rget_is w 11 5 (by decide) hw
 rw [show ref01_Get (w : Int) 11 5 = some ((w / 65536 % 32 : Nat) : Int) from ha, Option.bind_some]
 rw [w64_id (x := ((w / 65536 % 32 : Nat) : Int)) (by omega) (by omega)]
 unfold ref02_Decode_k2
 rw [if_neg (by decide)]
 unfold ref02_Decode_k3
 rw [if_neg (by decide), if_pos (by decide)]
 have hi := rget_is w 16 14 (by decide) hw
 rw [show ref01_Get (w : Int) 16 14 = some ((w / 4 % 16384 : Nat) : Int) from hi, Option.bind_some]
 have h2 := rsigned_is (w / 4 % 16384) 14 (by decide) (by decide) (by omega)
 rw [show ref01_Signed ((w / 4 % 16384 : Nat) : Int) 14 = some (sg 14 (w / 4 % 16384)) from h2, Option.bind_some]
 have h3 := sg_bd 14 (w / 4 % 16384) (by decide)
 simp only [Nat.reducePow, Nat.reduceSub] at h3
 rw [w64_id (by omega) (by omega)]
theorem rf_2 {w : Nat} (hw : w < 4294967296) : ref02_Decode_l1b w 2 = ref02_Decode_k4 w 2 (rd w 2).d (rd w 2).a (rd w 2).b (rd w 2).imm := by
 show _ = ref02_Decode_k4 w 2 ((w / 2097152 % 32 : Nat) : Int) ((w / 65536 % 32 : Nat) : Int) 0 (4 * sg 14 (w / 4 % 16384))
 unfold ref02_Decode_l1b
 rw [if_pos (by decide), ro_2, Option.bind_some]
 rw [if_pos rfl]
 have hd := rget_is w 6 5 (by decide) hw
 rw [show ref01_Get (w : Int) 6 5 = some ((w / 2097152 % 32 : Nat) : Int) from hd, Option.bind_some]
 rw [w64_id (x := ((w / 2097152 % 32 : Nat) : Int)) (by omega) (by omega)]
 unfold ref02_Decode_k1
 rw [if_pos rfl]
 have ha := rget_is w 11 5 (by decide) hw
 rw [show ref01_Get (w : Int) 11 5 = some ((w / 65536 % 32 : Nat) : Int) from ha, Option.bind_some]
 rw [w64_id (x := ((w / 65536 % 32 : Nat) : Int)) (by omega) (by omega)]
 unfold ref02_Decode_k2
 rw [if_neg (by decide)]
 unfold ref02_Decode_k3
 rw [if_neg (by decide), if_pos (by decide)]
 have hi := rget_is w 16 14 (by decide) hw
 rw [show ref01_Get (w : Int) 16 14 = some ((w / 4 % 16384 : Nat) : Int) from hi, Option.bind_some]
 have h2 := rsigned_is (w / 4 % 16384) 14 (by decide) (by decide) (by omega)
 rw [show ref01_Signed ((w / 4 % 16384 : Nat) : Int) 14 = some (sg 14 (w / 4 % 16384)) from h2, Option.bind_some]
 have h3 := sg_bd 14 (w / 4 % 16384) (by decide)
 simp only [Nat.reducePow, Nat.reduceSub] at h3
 rw [w64_id (by omega) (by omega)]
theorem rf_3 {w : Nat} (hw : w < 4294967296) : ref02_Decode_l1b w 3 = ref02_Decode_k4 w 3 (rd w 3).d (rd w 3).a (rd w 3).b (rd w 3).imm := by
 show _ = ref02_Decode_k4 w 3 ((w / 2097152 % 32 : Nat) : Int) ((w / 65536 % 32 : Nat) : Int) 0 (sg 16 w)
 unfold ref02_Decode_l1b
 rw [if_pos (by decide), ro_3, Option.bind_some]
 rw [if_pos rfl]
 have hd := rget_is w 6 5 (by decide) hw
 rw [show ref01_Get (w : Int) 6 5 = some ((w / 2097152 % 32 : Nat) : Int) from hd, Option.bind_some]
 rw [w64_id (x := ((w / 2097152 % 32 : Nat) : Int)) (by omega) (by omega)]
 unfold ref02_Decode_k1
 rw [if_pos rfl]
 have ha := rget_is w 11 5 (by decide) hw
 rw [show ref01_Get (w : Int) 11 5 = some ((w / 65536 % 32 : Nat) : Int) from ha, Option.bind_some]
 rw [w64_id (x := ((w / 65536 % 32 : Nat) : Int)) (by omega) (by omega)]
 unfold ref02_Decode_k2
 rw [if_neg (by decide)]
 unfold ref02_Decode_k3
 have h := rsigned_is w 16 (by decide) (by decide) hw
 rw [if_pos (by decide), show ref01_Signed (w : Int) 16 = some (sg 16 w) from h, Option.bind_some]
theorem rf_4 {w : Nat} (hw : w < 4294967296) : ref02_Decode_l1b w 4 = ref02_Decode_k4 w 4 (rd w 4).d (rd w 4).a (rd w 4).b (rd w 4).imm := by
 show _ = ref02_Decode_k4 w 4 ((w / 2097152 % 32 : Nat) : Int) ((w / 65536 % 32 : Nat) : Int) ((w / 2048 % 32 : Nat) : Int) (0)
 unfold ref02_Decode_l1b
 rw [if_pos (by decide), ro_4, Option.bind_some]
 rw [if_pos rfl]
 have hd := rget_is w 6 5 (by decide) hw
 rw [show ref01_Get (w : Int) 6 5 = some ((w / 2097152 % 32 : Nat) : Int) from hd, Option.bind_some]
 rw [w64_id (x := ((w / 2097152 % 32 : Nat) : Int)) (by omega) (by omega)]
 unfold ref02_Decode_k1
 rw [if_pos rfl]
 have ha := rget_is w 11 5 (by decide) hw
 rw [show ref01_Get (w : Int) 11 5 = some ((w / 65536 % 32 : Nat) : Int) from ha, Option.bind_some]
 rw [w64_id (x := ((w / 65536 % 32 : Nat) : Int)) (by omega) (by omega)]
 unfold ref02_Decode_k2
 rw [if_pos rfl]
 have hb := rget_is w 16 5 (by decide) hw
 rw [show ref01_Get (w : Int) 16 5 = some ((w / 2048 % 32 : Nat) : Int) from hb, Option.bind_some]
 rw [w64_id (x := ((w / 2048 % 32 : Nat) : Int)) (by omega) (by omega)]
 unfold ref02_Decode_k3
 rw [if_neg (by decide), if_neg (by decide), if_neg (by decide), if_neg (by decide)]
theorem rf_5 {w : Nat} (hw : w < 4294967296) : ref02_Decode_l1b w 5 = ref02_Decode_k4 w 5 (rd w 5).d (rd w 5).a (rd w 5).b (rd w 5).imm := by
 show _ = ref02_Decode_k4 w 5 ((w / 2097152 % 32 : Nat) : Int) ((w / 65536 % 32 : Nat) : Int) ((w / 2048 % 32 : Nat) : Int) (0)
 unfold ref02_Decode_l1b
 rw [if_pos (by decide), ro_5, Option.bind_some]
 rw [if_pos rfl]
 have hd := rget_is w 6 5 (by decide) hw
 rw [show ref01_Get (w : Int) 6 5 = some ((w / 2097152 % 32 : Nat) : Int) from hd, Option.bind_some]
 rw [w64_id (x := ((w / 2097152 % 32 : Nat) : Int)) (by omega) (by omega)]
 unfold ref02_Decode_k1
 rw [if_pos rfl]
 have ha := rget_is w 11 5 (by decide) hw
 rw [show ref01_Get (w : Int) 11 5 = some ((w / 65536 % 32 : Nat) : Int) from ha, Option.bind_some]
 rw [w64_id (x := ((w / 65536 % 32 : Nat) : Int)) (by omega) (by omega)]
 unfold ref02_Decode_k2
 rw [if_pos rfl]
 have hb := rget_is w 16 5 (by decide) hw
 rw [show ref01_Get (w : Int) 16 5 = some ((w / 2048 % 32 : Nat) : Int) from hb, Option.bind_some]
 rw [w64_id (x := ((w / 2048 % 32 : Nat) : Int)) (by omega) (by omega)]
 unfold ref02_Decode_k3
 rw [if_neg (by decide), if_neg (by decide), if_neg (by decide), if_neg (by decide)]
theorem rf_6 {w : Nat} (hw : w < 4294967296) : ref02_Decode_l1b w 6 = ref02_Decode_k4 w 6 (rd w 6).d (rd w 6).a (rd w 6).b (rd w 6).imm := by
 show _ = ref02_Decode_k4 w 6 ((w / 2097152 % 32 : Nat) : Int) ((w / 65536 % 32 : Nat) : Int) ((w / 2048 % 32 : Nat) : Int) (0)
 unfold ref02_Decode_l1b
 rw [if_pos (by decide), ro_6, Option.bind_some]
 rw [if_pos rfl]
 have hd := rget_is w 6 5 (by decide) hw
 rw [show ref01_Get (w : Int) 6 5 = some ((w / 2097152 % 32 : Nat) : Int) from hd, Option.bind_some]
 rw [w64_id (x := ((w / 2097152 % 32 : Nat) : Int)) (by omega) (by omega)]
 unfold ref02_Decode_k1
 rw [if_pos rfl]
 have ha := rget_is w 11 5 (by decide) hw
 rw [show ref01_Get (w : Int) 11 5 = some ((w / 65536 % 32 : Nat) : Int) from ha, Option.bind_some]
 rw [w64_id (x := ((w / 65536 % 32 : Nat) : Int)) (by omega) (by omega)]
 unfold ref02_Decode_k2
 rw [if_pos rfl]
 have hb := rget_is w 16 5 (by decide) hw
 rw [show ref01_Get (w : Int) 16 5 = some ((w / 2048 % 32 : Nat) : Int) from hb, Option.bind_some]
 rw [w64_id (x := ((w / 2048 % 32 : Nat) : Int)) (by omega) (by omega)]
 unfold ref02_Decode_k3
 rw [if_neg (by decide), if_neg (by decide), if_neg (by decide), if_neg (by decide)]
theorem rf_7 {w : Nat} (hw : w < 4294967296) : ref02_Decode_l1b w 7 = ref02_Decode_k4 w 7 (rd w 7).d (rd w 7).a (rd w 7).b (rd w 7).imm := by
 show _ = ref02_Decode_k4 w 7 ((w / 2097152 % 32 : Nat) : Int) ((w / 65536 % 32 : Nat) : Int) ((w / 2048 % 32 : Nat) : Int) (0)
 unfold ref02_Decode_l1b
 rw [if_pos (by decide), ro_7, Option.bind_some]
 rw [if_pos rfl]
 have hd := rget_is w 6 5 (by decide) hw
 rw [show ref01_Get (w : Int) 6 5 = some ((w / 2097152 % 32 : Nat) : Int) from hd, Option.bind_some]
 rw [w64_id (x := ((w / 2097152 % 32 : Nat) : Int)) (by omega) (by omega)]
 unfold ref02_Decode_k1
 rw [if_pos rfl]
 have ha := rget_is w 11 5 (by decide) hw
 rw [show ref01_Get (w : Int) 11 5 = some ((w / 65536 % 32 : Nat) : Int) from ha, Option.bind_some]
 rw [w64_id (x := ((w / 65536 % 32 : Nat) : Int)) (by omega) (by omega)]
 unfold ref02_Decode_k2
 rw [if_pos rfl]
 have hb := rget_is w 16 5 (by decide) hw
 rw [show ref01_Get (w : Int) 16 5 = some ((w / 2048 % 32 : Nat) : Int) from hb, Option.bind_some]
 rw [w64_id (x := ((w / 2048 % 32 : Nat) : Int)) (by omega) (by omega)]
 unfold ref02_Decode_k3
 rw [if_neg (by decide), if_neg (by decide), if_neg (by decide), if_neg (by decide)]
theorem rf_8 {w : Nat} (hw : w < 4294967296) : ref02_Decode_l1b w 8 = ref02_Decode_k4 w 8 (rd w 8).d (rd w 8).a (rd w 8).b (rd w 8).imm := by
 show _ = ref02_Decode_k4 w 8 0 ((w / 65536 % 32 : Nat) : Int) ((w / 2048 % 32 : Nat) : Int) (0)
 unfold ref02_Decode_l1b
 rw [if_pos (by decide), ro_8, Option.bind_some]
 rw [if_neg (by decide)]
 unfold ref02_Decode_k1
 rw [if_pos rfl]
 have ha := rget_is w 11 5 (by decide) hw
 rw [show ref01_Get (w : Int) 11 5 = some ((w / 65536 % 32 : Nat) : Int) from ha, Option.bind_some]
 rw [w64_id (x := ((w / 65536 % 32 : Nat) : Int)) (by omega) (by omega)]
 unfold ref02_Decode_k2
 rw [if_pos rfl]
 have hb := rget_is w 16 5 (by decide) hw
 rw [show ref01_Get (w : Int) 16 5 = some ((w / 2048 % 32 : Nat) : Int) from hb, Option.bind_some]
 rw [w64_id (x := ((w / 2048 % 32 : Nat) : Int)) (by omega) (by omega)]
 unfold ref02_Decode_k3
 rw [if_neg (by decide), if_neg (by decide), if_neg (by decide), if_neg (by decide)]
theorem rf_9 {w : Nat} (hw : w < 4294967296) : ref02_Decode_l1b w 9 = ref02_Decode_k4 w 9 (rd w 9).d (rd w 9).a (rd w 9).b (rd w 9).imm := by
 show _ = ref02_Decode_k4 w 9 0 ((w / 65536 % 32 : Nat) : Int) 0 (sg 16 w)
 unfold ref02_Decode_l1b
 rw [if_pos (by decide), ro_9, Option.bind_some]
 rw [if_neg (by decide)]
 unfold ref02_Decode_k1
 rw [if_pos rfl]
 have ha := rget_is w 11 5 (by decide) hw
 rw [show ref01_Get (w : Int) 11 5 = some ((w / 65536 % 32 : Nat) : Int) from ha, Option.bind_some]
 rw [w64_id (x := ((w / 65536 % 32 : Nat) : Int)) (by omega) (by omega)]
 unfold ref02_Decode_k2
 rw [if_neg (by decide)]
 unfold ref02_Decode_k3
 have h := rsigned_is w 16 (by decide) (by decide) hw
 rw [if_pos (by decide), show ref01_Signed (w : Int) 16 = some (sg 16 w) from h, Option.bind_some]
theorem rf_10 {w : Nat} (hw : w < 4294967296) : ref02_Decode_l1b w 10 = ref02_Decode_k4 w 10 (rd w 10).d (rd w 10).a (rd w 10).b (rd w 10).imm := by
 show _ = ref02_Decode_k4 w 10 ((w / 2097152 % 32 : Nat) : Int) ((w / 65536 % 32 : Nat) : Int) 0 (sg 14 (w / 4 % 16384))
 unfold ref02_Decode_l1b
 rw [if_pos (by decide), ro_10, Option.bind_some]
 rw [if_pos rfl]
 have hd := rget_is w 6 5 (by decide) hw
 rw [show ref01_Get (w : Int) 6 5 = some ((w / 2097152 % 32 : Nat) : Int) from hd, Option.bind_some]
 rw [w64_id (x := ((w / 2097152 % 32 : Nat) : Int)) (by omega) (by omega)]
 unfold ref02_Decode_k1
 rw [if_pos rfl]
 have ha := rget_is w 11 5 (by decide) hw
 rw [show ref01_Get (w : Int) 11 5 = some ((w / 65536 % 32 : Nat) : Int) from ha, Option.bind_some]
 rw [w64_id (x := ((w / 65536 % 32 : Nat) : Int)) (by omega) (by omega)]
 unfold ref02_Decode_k2
 rw [if_neg (by decide)]
 unfold ref02_Decode_k3
 rw [if_neg (by decide), if_neg (by decide), if_pos (by decide)]
 have hi := rget_is w 16 14 (by decide) hw
 rw [show ref01_Get (w : Int) 16 14 = some ((w / 4 % 16384 : Nat) : Int) from hi, Option.bind_some]
 have h2 := rsigned_is (w / 4 % 16384) 14 (by decide) (by decide) (by omega)
 rw [show ref01_Signed ((w / 4 % 16384 : Nat) : Int) 14 = some (sg 14 (w / 4 % 16384)) from h2, Option.bind_some]
theorem rf_11 {w : Nat} (hw : w < 4294967296) : ref02_Decode_l1b w 11 = ref02_Decode_k4 w 11 (rd w 11).d (rd w 11).a (rd w 11).b (rd w 11).imm := by
 show _ = ref02_Decode_k4 w 11 0 0 0 (sg 24 (w / 4 % 16777216))
 unfold ref02_Decode_l1b
 rw [if_pos (by decide), ro_11, Option.bind_some]
 rw [if_neg (by decide)]
 unfold ref02_Decode_k1
 rw [if_neg (by decide)]
 unfold ref02_Decode_k2
 rw [if_neg (by decide)]
 unfold ref02_Decode_k3
 rw [if_neg (by decide), if_neg (by decide), if_neg (by decide), if_pos (by decide)]
 have hi := rget_is w 6 24 (by decide) hw
 rw [show ref01_Get (w : Int) 6 24 = some ((w / 4 % 16777216 : Nat) : Int) from hi, Option.bind_some]
 have h2 := rsigned_is (w / 4 % 16777216) 24 (by decide) (by decide) (by omega)
 rw [show ref01_Signed ((w / 4 % 16777216 : Nat) : Int) 24 = some (sg 24 (w / 4 % 16777216)) from h2, Option.bind_some]
theorem rf_12 {w : Nat} (hw : w < 4294967296) : ref02_Decode_l1b w 12 = ref02_Decode_k4 w 12 (rd w 12).d (rd w 12).a (rd w 12).b (rd w 12).imm := by
 show _ = ref02_Decode_k4 w 12 0 0 0 (sg 24 (w / 4 % 16777216))
 unfold ref02_Decode_l1b
 rw [if_pos (by decide), ro_12, Option.bind_some]
 rw [if_neg (by decide)]
 unfold ref02_Decode_k1
 rw [if_neg (by decide)]
 unfold ref02_Decode_k2
 rw [if_neg (by decide)]
 unfold ref02_Decode_k3
 rw [if_neg (by decide), if_neg (by decide), if_neg (by decide), if_pos (by decide)]
 have hi := rget_is w 6 24 (by decide) hw
 rw [show ref01_Get (w : Int) 6 24 = some ((w / 4 % 16777216 : Nat) : Int) from hi, Option.bind_some]
 have h2 := rsigned_is (w / 4 % 16777216) 24 (by decide) (by decide) (by omega)
 rw [show ref01_Signed ((w / 4 % 16777216 : Nat) : Int) 24 = some (sg 24 (w / 4 % 16777216)) from h2, Option.bind_some]
theorem rf_13 {w : Nat} (hw : w < 4294967296) : ref02_Decode_l1b w 13 = ref02_Decode_k4 w 13 (rd w 13).d (rd w 13).a (rd w 13).b (rd w 13).imm := by
 show _ = ref02_Decode_k4 w 13 0 0 0 (0)
 unfold ref02_Decode_l1b
 rw [if_pos (by decide), ro_13, Option.bind_some]
 rw [if_neg (by decide)]
 unfold ref02_Decode_k1
 rw [if_neg (by decide)]
 unfold ref02_Decode_k2
 rw [if_neg (by decide)]
 unfold ref02_Decode_k3
 rw [if_neg (by decide), if_neg (by decide), if_neg (by decide), if_neg (by decide)]
theorem rf_14 {w : Nat} (hw : w < 4294967296) : ref02_Decode_l1b w 14 = ref02_Decode_k4 w 14 (rd w 14).d (rd w 14).a (rd w 14).b (rd w 14).imm := by
 show _ = ref02_Decode_k4 w 14 ((w / 2097152 % 32 : Nat) : Int) 0 0 (0)
 unfold ref02_Decode_l1b
 rw [if_pos (by decide), ro_14, Option.bind_some]
 rw [if_pos rfl]
 have hd := rget_is w 6 5 (by decide) hw
 rw [show ref01_Get (w : Int) 6 5 = some ((w / 2097152 % 32 : Nat) : Int) from hd, Option.bind_some]
 rw [w64_id (x := ((w / 2097152 % 32 : Nat) : Int)) (by omega) (by omega)]
 unfold ref02_Decode_k1
 rw [if_neg (by decide)]
 unfold ref02_Decode_k2
 rw [if_neg (by decide)]
 unfold ref02_Decode_k3
 rw [if_neg (by decide), if_neg (by decide), if_neg (by decide), if_neg (by decide)]
theorem rf_15 {w : Nat} (hw : w < 4294967296) : ref02_Decode_l1b w 15 = ref02_Decode_k4 w 15 (rd w 15).d (rd w 15).a (rd w 15).b (rd w 15).imm := by
 show _ = ref02_Decode_k4 w 15 ((w / 2097152 % 32 : Nat) : Int) 0 0 (0)
 unfold ref02_Decode_l1b
 rw [if_pos (by decide), ro_15, Option.bind_some]
 rw [if_pos rfl]
 have hd := rget_is w 6 5 (by decide) hw
 rw [show ref01_Get (w : Int) 6 5 = some ((w / 2097152 % 32 : Nat) : Int) from hd, Option.bind_some]
 rw [w64_id (x := ((w / 2097152 % 32 : Nat) : Int)) (by omega) (by omega)]
 unfold ref02_Decode_k1
 rw [if_neg (by decide)]
 unfold ref02_Decode_k2
 rw [if_neg (by decide)]
 unfold ref02_Decode_k3
 rw [if_neg (by decide), if_neg (by decide), if_neg (by decide), if_neg (by decide)]
theorem rf_16 {w : Nat} (hw : w < 4294967296) : ref02_Decode_l1b w 16 = ref02_Decode_k4 w 16 (rd w 16).d (rd w 16).a (rd w 16).b (rd w 16).imm := by
 show _ = ref02_Decode_k4 w 16 ((w / 2097152 % 32 : Nat) : Int) ((w / 65536 % 32 : Nat) : Int) ((w / 2048 % 32 : Nat) : Int) (0)
 unfold ref02_Decode_l1b
 rw [if_pos (by decide), ro_16, Option.bind_some]
 rw [if_pos rfl]
 have hd := rget_is w 6 5 (by decide) hw
 rw [show ref01_Get (w : Int) 6 5 = some ((w / 2097152 % 32 : Nat) : Int) from hd, Option.bind_some]
 rw [w64_id (x := ((w / 2097152 % 32 : Nat) : Int)) (by omega) (by omega)]
 unfold ref02_Decode_k1
 rw [if_pos rfl]
 have ha := rget_is w 11 5 (by decide) hw
 rw [show ref01_Get (w : Int) 11 5 = some ((w / 65536 % 32 : Nat) : Int) from ha, Option.bind_some]
 rw [w64_id (x := ((w / 65536 % 32 : Nat) : Int)) (by omega) (by omega)]
 unfold ref02_Decode_k2
 rw [if_pos rfl]
 have hb := rget_is w 16 5 (by decide) hw
 rw [show ref01_Get (w : Int) 16 5 = some ((w / 2048 % 32 : Nat) : Int) from hb, Option.bind_some]
 rw [w64_id (x := ((w / 2048 % 32 : Nat) : Int)) (by omega) (by omega)]
 unfold ref02_Decode_k3
 rw [if_neg (by decide), if_neg (by decide), if_neg (by decide), if_neg (by decide)]
theorem rf_17 {w : Nat} (hw : w < 4294967296) : ref02_Decode_l1b w 17 = ref02_Decode_k4 w 17 (rd w 17).d (rd w 17).a (rd w 17).b (rd w 17).imm := by
 show _ = ref02_Decode_k4 w 17 ((w / 2097152 % 32 : Nat) : Int) ((w / 65536 % 32 : Nat) : Int) ((w / 2048 % 32 : Nat) : Int) (0)
 unfold ref02_Decode_l1b
 rw [if_pos (by decide), ro_17, Option.bind_some]
 rw [if_pos rfl]
 have hd := rget_is w 6 5 (by decide) hw
 rw [show ref01_Get (w : Int) 6 5 = some ((w / 2097152 % 32 : Nat) : Int) from hd, Option.bind_some]
 rw [w64_id (x := ((w / 2097152 % 32 : Nat) : Int)) (by omega) (by omega)]
 unfold ref02_Decode_k1
 rw [if_pos rfl]
 have ha := rget_is w 11 5 (by decide) hw
 rw [show ref01_Get (w : Int) 11 5 = some ((w / 65536 % 32 : Nat) : Int) from ha, Option.bind_some]
 rw [w64_id (x := ((w / 65536 % 32 : Nat) : Int)) (by omega) (by omega)]
 unfold ref02_Decode_k2
 rw [if_pos rfl]
 have hb := rget_is w 16 5 (by decide) hw
 rw [show ref01_Get (w : Int) 16 5 = some ((w / 2048 % 32 : Nat) : Int) from hb, Option.bind_some]
 rw [w64_id (x := ((w / 2048 % 32 : Nat) : Int)) (by omega) (by omega)]
 unfold ref02_Decode_k3
 rw [if_neg (by decide), if_neg (by decide), if_neg (by decide), if_neg (by decide)]
theorem rf_18 {w : Nat} (hw : w < 4294967296) : ref02_Decode_l1b w 18 = ref02_Decode_k4 w 18 (rd w 18).d (rd w 18).a (rd w 18).b (rd w 18).imm := by
 show _ = ref02_Decode_k4 w 18 0 0 0 (0)
 unfold ref02_Decode_l1b
 rw [if_pos (by decide), ro_18, Option.bind_some]
 rw [if_neg (by decide)]
 unfold ref02_Decode_k1
 rw [if_neg (by decide)]
 unfold ref02_Decode_k2
 rw [if_neg (by decide)]
 unfold ref02_Decode_k3
 rw [if_neg (by decide), if_neg (by decide), if_neg (by decide), if_neg (by decide)]
theorem rf_19 {w : Nat} (hw : w < 4294967296) : ref02_Decode_l1b w 19 = ref02_Decode_k4 w 19 (rd w 19).d (rd w 19).a (rd w 19).b (rd w 19).imm := by
 show _ = ref02_Decode_k4 w 19 0 0 0 (0)
 unfold ref02_Decode_l1b
 rw [if_pos (by decide), ro_19, Option.bind_some]
 rw [if_neg (by decide)]
 unfold ref02_Decode_k1
 rw [if_neg (by decide)]
 unfold ref02_Decode_k2
 rw [if_neg (by decide)]
 unfold ref02_Decode_k3
 rw [if_neg (by decide), if_neg (by decide), if_neg (by decide), if_neg (by decide)]
theorem rf_20 {w : Nat} (hw : w < 4294967296) : ref02_Decode_l1b w 20 = ref02_Decode_k4 w 20 (rd w 20).d (rd w 20).a (rd w 20).b (rd w 20).imm := by
 show _ = ref02_Decode_k4 w 20 0 0 0 (0)
 unfold ref02_Decode_l1b
 rw [if_pos (by decide), ro_20, Option.bind_some]
 rw [if_neg (by decide)]
 unfold ref02_Decode_k1
 rw [if_neg (by decide)]
 unfold ref02_Decode_k2
 rw [if_neg (by decide)]
 unfold ref02_Decode_k3
 rw [if_neg (by decide), if_neg (by decide), if_neg (by decide), if_neg (by decide)]
theorem rf_21 {w : Nat} (hw : w < 4294967296) : ref02_Decode_l1b w 21 = ref02_Decode_k4 w 21 (rd w 21).d (rd w 21).a (rd w 21).b (rd w 21).imm := by
 show _ = ref02_Decode_k4 w 21 0 0 0 (sg 16 w)
 unfold ref02_Decode_l1b
 rw [if_pos (by decide), ro_21, Option.bind_some]
 rw [if_neg (by decide)]
 unfold ref02_Decode_k1
 rw [if_neg (by decide)]
 unfold ref02_Decode_k2
 rw [if_neg (by decide)]
 unfold ref02_Decode_k3
 have h := rsigned_is w 16 (by decide) (by decide) hw
 rw [if_pos (by decide), show ref01_Signed (w : Int) 16 = some (sg 16 w) from h, Option.bind_some]
theorem rf_22 {w : Nat} (hw : w < 4294967296) : ref02_Decode_l1b w 22 = ref02_Decode_k4 w 22 (rd w 22).d (rd w 22).a (rd w 22).b (rd w 22).imm := by
 show _ = ref02_Decode_k4 w 22 ((w / 2097152 % 32 : Nat) : Int) 0 0 (0)
 unfold ref02_Decode_l1b
 rw [if_pos (by decide), ro_22, Option.bind_some]
 rw [if_pos rfl]
 have hd := rget_is w 6 5 (by decide) hw
 rw [show ref01_Get (w : Int) 6 5 = some ((w / 2097152 % 32 : Nat) : Int) from hd, Option.bind_some]
 rw [w64_id (x := ((w / 2097152 % 32 : Nat) : Int)) (by omega) (by omega)]
 unfold ref02_Decode_k1
 rw [if_neg (by decide)]
 unfold ref02_Decode_k2
 rw [if_neg (by decide)]
 unfold ref02_Decode_k3
 rw [if_neg (by decide), if_neg (by decide), if_neg (by decide), if_neg (by decide)]
variable {d a b i : Int}
theorem rt_1 (h : b = 0 ∧ 0 ≤ d ∧ d < 32 ∧ 0 ≤ a ∧ a < 32 ∧ -32768 ≤ i ∧ i < 32768 ∧ i % 4 = 0) {w : Nat} (hw : (w : Int) = 3892314112 + d * 2097152 + a * 65536 + i % 65536) : rd w 1 = ⟨1, d, a, b, i⟩ := by
 have e1 : ((w / 2097152 % 32 : Nat) : Int) = d := by omega
 have e2 : ((w / 65536 % 32 : Nat) : Int) = a := by omega
 have e3 : 0 = b := by omega
 have e4 : 4 * sg 14 (w / 4 % 16384) = i := by
  have : sg 14 (w / 4 % 16384) = i / 4 := sg_eq (by decide) (by simp only [Nat.reducePow, Nat.reduceSub]; omega) (by simp only [Nat.reducePow, Nat.reduceSub]; omega) (by simp only [Nat.reducePow]; omega)
  rw [this]; omega
 show TInst.mk 1 ((w / 2097152 % 32 : Nat) : Int) ((w / 65536 % 32 : Nat) : Int) 0 (4 * sg 14 (w / 4 % 16384)) = _
 exact congr (congr (congr (congrArg (TInst.mk 1) e1) e2) e3) e4
theorem rt_2 (h : b = 0 ∧ 0 ≤ d ∧ d < 32 ∧ 0 ≤ a ∧ a < 32 ∧ -32768 ≤ i ∧ i < 32768 ∧ i % 4 = 0) {w : Nat} (hw : (w : Int) = 4160749568 + d * 2097152 + a * 65536 + i % 65536) : rd w 2 = ⟨2, d, a, b, i⟩ := by
 have e1 : ((w / 2097152 % 32 : Nat) : Int) = d := by omega
 have e2 : ((w / 65536 % 32 : Nat) : Int) = a := by omega
 have e3 : 0 = b := by omega
 have e4 : 4 * sg 14 (w / 4 % 16384) = i := by
  have : sg 14 (w / 4 % 16384) = i / 4 := sg_eq (by decide) (by simp only [Nat.reducePow, Nat.reduceSub]; omega) (by simp only [Nat.reducePow, Nat.reduceSub]; omega) (by simp only [Nat.reducePow]; omega)
  rw [this]; omega
 show TInst.mk 2 ((w / 2097152 % 32 : Nat) : Int) ((w / 65536 % 32 : Nat) : Int) 0 (4 * sg 14 (w / 4 % 16384)) = _
 exact congr (congr (congr (congrArg (TInst.mk 2) e1) e2) e3) e4
theorem rt_3 (h : b = 0 ∧ 0 ≤ d ∧ d < 32 ∧ 0 ≤ a ∧ a < 32 ∧ -32768 ≤ i ∧ i < 32768) {w : Nat} (hw : (w : Int) = 939524096 + d * 2097152 + a * 65536 + i % 65536) : rd w 3 = ⟨3, d, a, b, i⟩ := by
 have e1 : ((w / 2097152 % 32 : Nat) : Int) = d := by omega
 have e2 : ((w / 65536 % 32 : Nat) : Int) = a := by omega
 have e3 : 0 = b := by omega
 have e4 : sg 16 w = i := sg_eq (by decide) (by simp only [Nat.reducePow, Nat.reduceSub]; omega) (by simp only [Nat.reducePow, Nat.reduceSub]; omega) (by simp only [Nat.reducePow]; omega)
 show TInst.mk 3 ((w / 2097152 % 32 : Nat) : Int) ((w / 65536 % 32 : Nat) : Int) 0 (sg 16 w) = _
 exact congr (congr (congr (congrArg (TInst.mk 3) e1) e2) e3) e4
theorem rt_4 (h : i = 0 ∧ 0 ≤ d ∧ d < 32 ∧ 0 ≤ a ∧ a < 32 ∧ 0 ≤ b ∧ b < 32) {w : Nat} (hw : (w : Int) = 2080375316 + d * 2097152 + a * 65536 + b * 2048) : rd w 4 = ⟨4, d, a, b, i⟩ := by
 have e1 : ((w / 2097152 % 32 : Nat) : Int) = d := by omega
 have e2 : ((w / 65536 % 32 : Nat) : Int) = a := by omega
 have e3 : ((w / 2048 % 32 : Nat) : Int) = b := by omega
 have e4 : 0 = i := by omega
 show TInst.mk 4 ((w / 2097152 % 32 : Nat) : Int) ((w / 65536 % 32 : Nat) : Int) ((w / 2048 % 32 : Nat) : Int) (0) = _
 exact congr (congr (congr (congrArg (TInst.mk 4) e1) e2) e3) e4
theorem rt_5 (h : i = 0 ∧ 0 ≤ d ∧ d < 32 ∧ 0 ≤ a ∧ a < 32 ∧ 0 ≤ b ∧ b < 32) {w : Nat} (hw : (w : Int) = 2080374864 + d * 2097152 + a * 65536 + b * 2048) : rd w 5 = ⟨5, d, a, b, i⟩ := by
 have e1 : ((w / 2097152 % 32 : Nat) : Int) = d := by omega
 have e2 : ((w / 65536 % 32 : Nat) : Int) = a := by omega
 have e3 : ((w / 2048 % 32 : Nat) : Int) = b := by omega
 have e4 : 0 = i := by omega
 show TInst.mk 5 ((w / 2097152 % 32 : Nat) : Int) ((w / 65536 % 32 : Nat) : Int) ((w / 2048 % 32 : Nat) : Int) (0) = _
 exact congr (congr (congr (congrArg (TInst.mk 5) e1) e2) e3) e4
theorem rt_6 (h : i = 0 ∧ 0 ≤ d ∧ d < 32 ∧ 0 ≤ a ∧ a < 32 ∧ 0 ≤ b ∧ b < 32) {w : Nat} (hw : (w : Int) = 2080375250 + d * 2097152 + a * 65536 + b * 2048) : rd w 6 = ⟨6, d, a, b, i⟩ := by
 have e1 : ((w / 2097152 % 32 : Nat) : Int) = d := by omega
 have e2 : ((w / 65536 % 32 : Nat) : Int) = a := by omega
 have e3 : ((w / 2048 % 32 : Nat) : Int) = b := by omega
 have e4 : 0 = i := by omega
 show TInst.mk 6 ((w / 2097152 % 32 : Nat) : Int) ((w / 65536 % 32 : Nat) : Int) ((w / 2048 % 32 : Nat) : Int) (0) = _
 exact congr (congr (congr (congrArg (TInst.mk 6) e1) e2) e3) e4
theorem rt_7 (h : i = 0 ∧ 0 ≤ d ∧ d < 32 ∧ 0 ≤ a ∧ a < 32 ∧ 0 ≤ b ∧ b < 32) {w : Nat} (hw : (w : Int) = 2080375762 + d * 2097152 + a * 65536 + b * 2048) : rd w 7 = ⟨7, d, a, b, i⟩ := by
 have e1 : ((w / 2097152 % 32 : Nat) : Int) = d := by omega
 have e2 : ((w / 65536 % 32 : Nat) : Int) = a := by omega
 have e3 : ((w / 2048 % 32 : Nat) : Int) = b := by omega
 have e4 : 0 = i := by omega
 show TInst.mk 7 ((w / 2097152 % 32 : Nat) : Int) ((w / 65536 % 32 : Nat) : Int) ((w / 2048 % 32 : Nat) : Int) (0) = _
 exact congr (congr (congr (congrArg (TInst.mk 7) e1) e2) e3) e4
theorem rt_8 (h : d = 0 ∧ i = 0 ∧ 0 ≤ a ∧ a < 32 ∧ 0 ≤ b ∧ b < 32) {w : Nat} (hw : (w : Int) = 2082471936 + a * 65536 + b * 2048) : rd w 8 = ⟨8, d, a, b, i⟩ := by
 have e1 : 0 = d := by omega
 have e2 : ((w / 65536 % 32 : Nat) : Int) = a := by omega
 have e3 : ((w / 2048 % 32 : Nat) : Int) = b := by omega
 have e4 : 0 = i := by omega
 show TInst.mk 8 0 ((w / 65536 % 32 : Nat) : Int) ((w / 2048 % 32 : Nat) : Int) (0) = _
 exact congr (congr (congr (congrArg (TInst.mk 8) e1) e2) e3) e4
theorem rt_9 (h : d = 0 ∧ b = 0 ∧ 0 ≤ a ∧ a < 32 ∧ -32768 ≤ i ∧ i < 32768) {w : Nat} (hw : (w : Int) = 740294656 + a * 65536 + i % 65536) : rd w 9 = ⟨9, d, a, b, i⟩ := by
 have e1 : 0 = d := by omega
 have e2 : ((w / 65536 % 32 : Nat) : Int) = a := by omega
 have e3 : 0 = b := by omega
 have e4 : sg 16 w = i := sg_eq (by decide) (by simp only [Nat.reducePow, Nat.reduceSub]; omega) (by simp only [Nat.reducePow, Nat.reduceSub]; omega) (by simp only [Nat.reducePow]; omega)
 show TInst.mk 9 0 ((w / 65536 % 32 : Nat) : Int) 0 (sg 16 w) = _
 exact congr (congr (congr (congrArg (TInst.mk 9) e1) e2) e3) e4
theorem rt_10 (h : b = 0 ∧ (d = 4 ∨ d = 12) ∧ 0 ≤ a ∧ a < 3 ∧ -8192 ≤ i ∧ i < 8192) {w : Nat} (hw : (w : Int) = 1073741824 + d * 2097152 + a * 65536 + i % 16384 * 4) : rd w 10 = ⟨10, d, a, b, i⟩ := by
 have e1 : ((w / 2097152 % 32 : Nat) : Int) = d := by omega
 have e2 : ((w / 65536 % 32 : Nat) : Int) = a := by omega
 have e3 : 0 = b := by omega
 have e4 : sg 14 (w / 4 % 16384) = i := sg_eq (by decide) (by simp only [Nat.reducePow, Nat.reduceSub]; omega) (by simp only [Nat.reducePow, Nat.reduceSub]; omega) (by simp only [Nat.reducePow]; omega)
 show TInst.mk 10 ((w / 2097152 % 32 : Nat) : Int) ((w / 65536 % 32 : Nat) : Int) 0 (sg 14 (w / 4 % 16384)) = _
 exact congr (congr (congr (congrArg (TInst.mk 10) e1) e2) e3) e4
theorem rt_11 (h : d = 0 ∧ a = 0 ∧ b = 0 ∧ -8388608 ≤ i ∧ i < 8388608) {w : Nat} (hw : (w : Int) = 1207959552 + i % 16777216 * 4) : rd w 11 = ⟨11, d, a, b, i⟩ := by
 have e1 : 0 = d := by omega
 have e2 : 0 = a := by omega
 have e3 : 0 = b := by omega
 have e4 : sg 24 (w / 4 % 16777216) = i := sg_eq (by decide) (by simp only [Nat.reducePow, Nat.reduceSub]; omega) (by simp only [Nat.reducePow, Nat.reduceSub]; omega) (by simp only [Nat.reducePow]; omega)
 show TInst.mk 11 0 0 0 (sg 24 (w / 4 % 16777216)) = _
 exact congr (congr (congr (congrArg (TInst.mk 11) e1) e2) e3) e4
theorem rt_12 (h : d = 0 ∧ a = 0 ∧ b = 0 ∧ -8388608 ≤ i ∧ i < 8388608) {w : Nat} (hw : (w : Int) = 1207959553 + i % 16777216 * 4) : rd w 12 = ⟨12, d, a, b, i⟩ := by
 have e1 : 0 = d := by omega
 have e2 : 0 = a := by omega
 have e3 : 0 = b := by omega
 have e4 : sg 24 (w / 4 % 16777216) = i := sg_eq (by decide) (by simp only [Nat.reducePow, Nat.reduceSub]; omega) (by simp only [Nat.reducePow, Nat.reduceSub]; omega) (by simp only [Nat.reducePow]; omega)
 show TInst.mk 12 0 0 0 (sg 24 (w / 4 % 16777216)) = _
 exact congr (congr (congr (congrArg (TInst.mk 12) e1) e2) e3) e4
theorem rt_13 (h : d = 0 ∧ a = 0 ∧ b = 0 ∧ i = 0) {w : Nat} (hw : (w : Int) = 1317011488) : rd w 13 = ⟨13, d, a, b, i⟩ := by
 have e1 : 0 = d := by omega
 have e2 : 0 = a := by omega
 have e3 : 0 = b := by omega
 have e4 : 0 = i := by omega
 show TInst.mk 13 0 0 0 (0) = _
 exact congr (congr (congr (congrArg (TInst.mk 13) e1) e2) e3) e4
theorem rt_14 (h : a = 0 ∧ b = 0 ∧ i = 0 ∧ 0 ≤ d ∧ d < 32) {w : Nat} (hw : (w : Int) = 2080899750 + d * 2097152) : rd w 14 = ⟨14, d, a, b, i⟩ := by
 have e1 : ((w / 2097152 % 32 : Nat) : Int) = d := by omega
 have e2 : 0 = a := by omega
 have e3 : 0 = b := by omega
 have e4 : 0 = i := by omega
 show TInst.mk 14 ((w / 2097152 % 32 : Nat) : Int) 0 0 (0) = _
 exact congr (congr (congr (congrArg (TInst.mk 14) e1) e2) e3) e4
theorem rt_15 (h : a = 0 ∧ b = 0 ∧ i = 0 ∧ 0 ≤ d ∧ d < 32) {w : Nat} (hw : (w : Int) = 2080900006 + d * 2097152) : rd w 15 = ⟨15, d, a, b, i⟩ := by
 have e1 : ((w / 2097152 % 32 : Nat) : Int) = d := by omega
 have e2 : 0 = a := by omega
 have e3 : 0 = b := by omega
 have e4 : 0 = i := by omega
 show TInst.mk 15 ((w / 2097152 % 32 : Nat) : Int) 0 0 (0) = _
 exact congr (congr (congr (congrArg (TInst.mk 15) e1) e2) e3) e4
theorem rt_16 (h : i = 0 ∧ 0 ≤ d ∧ d < 32 ∧ 0 ≤ a ∧ a < 32 ∧ 0 ≤ b ∧ b < 32) {w : Nat} (hw : (w : Int) = 2080374952 + d * 2097152 + a * 65536 + b * 2048) : rd w 16 = ⟨16, d, a, b, i⟩ := by
 have e1 : ((w / 2097152 % 32 : Nat) : Int) = d := by omega
 have e2 : ((w / 65536 % 32 : Nat) : Int) = a := by omega
 have e3 : ((w / 2048 % 32 : Nat) : Int) = b := by omega
 have e4 : 0 = i := by omega
 show TInst.mk 16 ((w / 2097152 % 32 : Nat) : Int) ((w / 65536 % 32 : Nat) : Int) ((w / 2048 % 32 : Nat) : Int) (0) = _
 exact congr (congr (congr (congrArg (TInst.mk 16) e1) e2) e3) e4
theorem rt_17 (h : i = 0 ∧ 0 ≤ d ∧ d < 32 ∧ 0 ≤ a ∧ a < 32 ∧ 0 ≤ b ∧ b < 32) {w : Nat} (hw : (w : Int) = 2080375213 + d * 2097152 + a * 65536 + b * 2048) : rd w 17 = ⟨17, d, a, b, i⟩ := by
 have e1 : ((w / 2097152 % 32 : Nat) : Int) = d := by omega
 have e2 : ((w / 65536 % 32 : Nat) : Int) = a := by omega
 have e3 : ((w / 2048 % 32 : Nat) : Int) = b := by omega
 have e4 : 0 = i := by omega
 show TInst.mk 17 ((w / 2097152 % 32 : Nat) : Int) ((w / 65536 % 32 : Nat) : Int) ((w / 2048 % 32 : Nat) : Int) (0) = _
 exact congr (congr (congr (congrArg (TInst.mk 17) e1) e2) e3) e4
theorem rt_18 (h : d = 0 ∧ a = 0 ∧ b = 0 ∧ i = 0) {w : Nat} (hw : (w : Int) = 2080375980) : rd w 18 = ⟨18, d, a, b, i⟩ := by
 have e1 : 0 = d := by omega
 have e2 : 0 = a := by omega
 have e3 : 0 = b := by omega
 have e4 : 0 = i := by omega
 show TInst.mk 18 0 0 0 (0) = _
 exact congr (congr (congr (congrArg (TInst.mk 18) e1) e2) e3) e4
theorem rt_19 (h : d = 0 ∧ a = 0 ∧ b = 0 ∧ i = 0) {w : Nat} (hw : (w : Int) = 2082473132) : rd w 19 = ⟨19, d, a, b, i⟩ := by
 have e1 : 0 = d := by omega
 have e2 : 0 = a := by omega
 have e3 : 0 = b := by omega
 have e4 : 0 = i := by omega
 show TInst.mk 19 0 0 0 (0) = _
 exact congr (congr (congr (congrArg (TInst.mk 19) e1) e2) e3) e4
theorem rt_20 (h : d = 0 ∧ a = 0 ∧ b = 0 ∧ i = 0) {w : Nat} (hw : (w : Int) = 1275068716) : rd w 20 = ⟨20, d, a, b, i⟩ := by
 have e1 : 0 = d := by omega
 have e2 : 0 = a := by omega
 have e3 : 0 = b := by omega
 have e4 : 0 = i := by omega
 show TInst.mk 20 0 0 0 (0) = _
 exact congr (congr (congr (congrArg (TInst.mk 20) e1) e2) e3) e4
theorem rt_21 (h : d = 0 ∧ a = 0 ∧ b = 0 ∧ 0 ≤ i ∧ i < 32768) {w : Nat} (hw : (w : Int) = 266338304 + i % 65536) : rd w 21 = ⟨21, d, a, b, i⟩ := by
 have e1 : 0 = d := by omega
 have e2 : 0 = a := by omega
 have e3 : 0 = b := by omega
 have e4 : sg 16 w = i := sg_eq (by decide) (by simp only [Nat.reducePow, Nat.reduceSub]; omega) (by simp only [Nat.reducePow, Nat.reduceSub]; omega) (by simp only [Nat.reducePow]; omega)
 show TInst.mk 21 0 0 0 (sg 16 w) = _
 exact congr (congr (congr (congrArg (TInst.mk 21) e1) e2) e3) e4
theorem rt_22 (h : a = 0 ∧ b = 0 ∧ i = 0 ∧ 0 ≤ d ∧ d < 32) {w : Nat} (hw : (w : Int) = 1140850690 + d * 2097152) : rd w 22 = ⟨22, d, a, b, i⟩ := by
 have e1 : ((w / 2097152 % 32 : Nat) : Int) = d := by omega
 have e2 : 0 = a := by omega
 have e3 : 0 = b := by omega
 have e4 : 0 = i := by omega
 show TInst.mk 22 ((w / 2097152 % 32 : Nat) : Int) 0 0 (0) = _
 exact congr (congr (congr (congrArg (TInst.mk 22) e1) e2) e3) e4
def ky (w : Nat) : Nat × Nat := (w / 67108864, if w / 67108864 = 31 then (if w % 2048 = 1196 then w % 67108864 else w % 2048) else if w / 67108864 = 19 then w % 2048 else if w / 67108864 = 18 then w % 4 else 0)
theorem ky_1 (h : b = 0 ∧ 0 ≤ d ∧ d < 32 ∧ 0 ≤ a ∧ a < 32 ∧ -32768 ≤ i ∧ i < 32768 ∧ i % 4 = 0) {w : Nat} (hw : (w : Int) = 3892314112 + d * 2097152 + a * 65536 + i % 65536) : ky w = (58, 0) := by
 have e : w / 67108864 = 58 := by omega
 unfold ky
 rw [e]
 rw [if_neg (by decide), if_neg (by decide), if_neg (by decide)]
theorem ky_2 (h : b = 0 ∧ 0 ≤ d ∧ d < 32 ∧ 0 ≤ a ∧ a < 32 ∧ -32768 ≤ i ∧ i < 32768 ∧ i % 4 = 0) {w : Nat} (hw : (w : Int) = 4160749568 + d * 2097152 + a * 65536 + i % 65536) : ky w = (62, 0) := by
 have e : w / 67108864 = 62 := by omega
 unfold ky
 rw [e]
 rw [if_neg (by decide), if_neg (by decide), if_neg (by decide)]
theorem ky_3 (h : b = 0 ∧ 0 ≤ d ∧ d < 32 ∧ 0 ≤ a ∧ a < 32 ∧ -32768 ≤ i ∧ i < 32768) {w : Nat} (hw : (w : Int) = 939524096 + d * 2097152 + a * 65536 + i % 65536) : ky w = (14, 0) := by
 have e : w / 67108864 = 14 := by omega
 unfold ky
 rw [e]
 rw [if_neg (by decide), if_neg (by decide), if_neg (by decide)]
theorem ky_4 (h : i = 0 ∧ 0 ≤ d ∧ d < 32 ∧ 0 ≤ a ∧ a < 32 ∧ 0 ≤ b ∧ b < 32) {w : Nat} (hw : (w : Int) = 2080375316 + d * 2097152 + a * 65536 + b * 2048) : ky w = (31, 532) := by
 have e : w / 67108864 = 31 := by omega
 unfold ky
 rw [e]
 rw [if_pos rfl, if_neg (by omega)]
 have e2 : w % 2048 = 532 := by omega
 rw [e2]
theorem ky_5 (h : i = 0 ∧ 0 ≤ d ∧ d < 32 ∧ 0 ≤ a ∧ a < 32 ∧ 0 ≤ b ∧ b < 32) {w : Nat} (hw : (w : Int) = 2080374864 + d * 2097152 + a * 65536 + b * 2048) : ky w = (31, 80) := by
 have e : w / 67108864 = 31 := by omega
 unfold ky
 rw [e]
 rw [if_pos rfl, if_neg (by omega)]
 have e2 : w % 2048 = 80 := by omega
 rw [e2]
theorem ky_6 (h : i = 0 ∧ 0 ≤ d ∧ d < 32 ∧ 0 ≤ a ∧ a < 32 ∧ 0 ≤ b ∧ b < 32) {w : Nat} (hw : (w : Int) = 2080375250 + d * 2097152 + a * 65536 + b * 2048) : ky w = (31, 466) := by
 have e : w / 67108864 = 31 := by omega
 unfold ky
 rw [e]
 rw [if_pos rfl, if_neg (by omega)]
 have e2 : w % 2048 = 466 := by omega
 rw [e2]
theorem ky_7 (h : i = 0 ∧ 0 ≤ d ∧ d < 32 ∧ 0 ≤ a ∧ a < 32 ∧ 0 ≤ b ∧ b < 32) {w : Nat} (hw : (w : Int) = 2080375762 + d * 2097152 + a * 65536 + b * 2048) : ky w = (31, 978) := by
 have e : w / 67108864 = 31 := by omega
 unfold ky
 rw [e]
 rw [if_pos rfl, if_neg (by omega)]
 have e2 : w % 2048 = 978 := by omega
 rw [e2]
theorem ky_8 (h : d = 0 ∧ i = 0 ∧ 0 ≤ a ∧ a < 32 ∧ 0 ≤ b ∧ b < 32) {w : Nat} (hw : (w : Int) = 2082471936 + a * 65536 + b * 2048) : ky w = (31, 0) := by
 have e : w / 67108864 = 31 := by omega
 unfold ky
 rw [e]
 rw [if_pos rfl, if_neg (by omega)]
 have e2 : w % 2048 = 0 := by omega
 rw [e2]
theorem ky_9 (h : d = 0 ∧ b = 0 ∧ 0 ≤ a ∧ a < 32 ∧ -32768 ≤ i ∧ i < 32768) {w : Nat} (hw : (w : Int) = 740294656 + a * 65536 + i % 65536) : ky w = (11, 0) := by
 have e : w / 67108864 = 11 := by omega
 unfold ky
 rw [e]
 rw [if_neg (by decide), if_neg (by decide), if_neg (by decide)]
theorem ky_10 (h : b = 0 ∧ (d = 4 ∨ d = 12) ∧ 0 ≤ a ∧ a < 3 ∧ -8192 ≤ i ∧ i < 8192) {w : Nat} (hw : (w : Int) = 1073741824 + d * 2097152 + a * 65536 + i % 16384 * 4) : ky w = (16, 0) := by
 have e : w / 67108864 = 16 := by omega
 unfold ky
 rw [e]
 rw [if_neg (by decide), if_neg (by decide), if_neg (by decide)]
theorem ky_11 (h : d = 0 ∧ a = 0 ∧ b = 0 ∧ -8388608 ≤ i ∧ i < 8388608) {w : Nat} (hw : (w : Int) = 1207959552 + i % 16777216 * 4) : ky w = (18, 0) := by
 have e : w / 67108864 = 18 := by omega
 unfold ky
 rw [e]
 rw [if_neg (by decide), if_neg (by decide), if_pos rfl]
 have e2 : w % 4 = 0 := by omega
 rw [e2]
theorem ky_12 (h : d = 0 ∧ a = 0 ∧ b = 0 ∧ -8388608 ≤ i ∧ i < 8388608) {w : Nat} (hw : (w : Int) = 1207959553 + i % 16777216 * 4) : ky w = (18, 1) := by
 have e : w / 67108864 = 18 := by omega
 unfold ky
 rw [e]
 rw [if_neg (by decide), if_neg (by decide), if_pos rfl]
 have e2 : w % 4 = 1 := by omega
 rw [e2]
theorem ky_13 (h : d = 0 ∧ a = 0 ∧ b = 0 ∧ i = 0) {w : Nat} (hw : (w : Int) = 1317011488) : ky w = (19, 32) := by
 have e : w / 67108864 = 19 := by omega
 unfold ky
 rw [e]
 rw [if_neg (by decide), if_pos rfl]
 have e2 : w % 2048 = 32 := by omega
 rw [e2]
theorem ky_14 (h : a = 0 ∧ b = 0 ∧ i = 0 ∧ 0 ≤ d ∧ d < 32) {w : Nat} (hw : (w : Int) = 2080899750 + d * 2097152) : ky w = (31, 678) := by
 have e : w / 67108864 = 31 := by omega
 unfold ky
 rw [e]
 rw [if_pos rfl, if_neg (by omega)]
 have e2 : w % 2048 = 678 := by omega
 rw [e2]
theorem ky_15 (h : a = 0 ∧ b = 0 ∧ i = 0 ∧ 0 ≤ d ∧ d < 32) {w : Nat} (hw : (w : Int) = 2080900006 + d * 2097152) : ky w = (31, 934) := by
 have e : w / 67108864 = 31 := by omega
 unfold ky
 rw [e]
 rw [if_pos rfl, if_neg (by omega)]
 have e2 : w % 2048 = 934 := by omega
 rw [e2]
theorem ky_16 (h : i = 0 ∧ 0 ≤ d ∧ d < 32 ∧ 0 ≤ a ∧ a < 32 ∧ 0 ≤ b ∧ b < 32) {w : Nat} (hw : (w : Int) = 2080374952 + d * 2097152 + a * 65536 + b * 2048) : ky w = (31, 168) := by
 have e : w / 67108864 = 31 := by omega
 unfold ky
 rw [e]
 rw [if_pos rfl, if_neg (by omega)]
 have e2 : w % 2048 = 168 := by omega
 rw [e2]
theorem ky_17 (h : i = 0 ∧ 0 ≤ d ∧ d < 32 ∧ 0 ≤ a ∧ a < 32 ∧ 0 ≤ b ∧ b < 32) {w : Nat} (hw : (w : Int) = 2080375213 + d * 2097152 + a * 65536 + b * 2048) : ky w = (31, 429) := by
 have e : w / 67108864 = 31 := by omega
 unfold ky
 rw [e]
 rw [if_pos rfl, if_neg (by omega)]
 have e2 : w % 2048 = 429 := by omega
 rw [e2]
theorem ky_18 (h : d = 0 ∧ a = 0 ∧ b = 0 ∧ i = 0) {w : Nat} (hw : (w : Int) = 2080375980) : ky w = (31, 1196) := by
 have e : w / 67108864 = 31 := by omega
 unfold ky
 rw [e]
 rw [if_pos rfl, if_pos (by omega)]
 have e2 : w % 67108864 = 1196 := by omega
 rw [e2]
theorem ky_19 (h : d = 0 ∧ a = 0 ∧ b = 0 ∧ i = 0) {w : Nat} (hw : (w : Int) = 2082473132) : ky w = (31, 2098348) := by
 have e : w / 67108864 = 31 := by omega
 unfold ky
 rw [e]
 rw [if_pos rfl, if_pos (by omega)]
 have e2 : w % 67108864 = 2098348 := by omega
 rw [e2]
theorem ky_20 (h : d = 0 ∧ a = 0 ∧ b = 0 ∧ i = 0) {w : Nat} (hw : (w : Int) = 1275068716) : ky w = (19, 300) := by
 have e : w / 67108864 = 19 := by omega
 unfold ky
 rw [e]
 rw [if_neg (by decide), if_pos rfl]
 have e2 : w % 2048 = 300 := by omega
 rw [e2]
theorem ky_21 (h : d = 0 ∧ a = 0 ∧ b = 0 ∧ 0 ≤ i ∧ i < 32768) {w : Nat} (hw : (w : Int) = 266338304 + i % 65536) : ky w = (3, 0) := by
 have e : w / 67108864 = 3 := by omega
 unfold ky
 rw [e]
 rw [if_neg (by decide), if_neg (by decide), if_neg (by decide)]
theorem ky_22 (h : a = 0 ∧ b = 0 ∧ i = 0 ∧ 0 ≤ d ∧ d < 32) {w : Nat} (hw : (w : Int) = 1140850690 + d * 2097152) : ky w = (17, 0) := by
 have e : w / 67108864 = 17 := by omega
 unfold ky
 rw [e]
 rw [if_neg (by decide), if_neg (by decide), if_neg (by decide)]
def kv : Nat → Nat × Nat
 | 1 => (58, 0)
 | 2 => (62, 0)
 | 3 => (14, 0)
 | 4 => (31, 532)
 | 5 => (31, 80)
 | 6 => (31, 466)
 | 7 => (31, 978)
 | 8 => (31, 0)
 | 9 => (11, 0)
 | 10 => (16, 0)
 | 11 => (18, 0)
 | 12 => (18, 1)
 | 13 => (19, 32)
 | 14 => (31, 678)
 | 15 => (31, 934)
 | 16 => (31, 168)
 | 17 => (31, 429)
 | 18 => (31, 1196)
 | 19 => (31, 2098348)
 | 20 => (19, 300)
 | 21 => (3, 0)
 | 22 => (17, 0)
 | _ => (0, 0)
theorem kv_inj {j k : Nat} (h1 : 1 ≤ j) (h2 : j ≤ 22) (h3 : 1 ≤ k) (h4 : k ≤ 22) (h : kv j = kv k) : j = k := by
 have : ∀ x : Fin 22, ∀ y : Fin 22, kv (x.val + 1) = kv (y.val + 1) → x = y := by decide +kernel
 have h5 := this ⟨j - 1, by omega⟩ ⟨k - 1, by omega⟩ (by simp only [Nat.sub_add_cancel h1, Nat.sub_add_cancel h3]; exact h)
 have h6 := congrArg Fin.val h5
 simp only at h6
 omega
theorem of22 {Q : Nat → Prop} (h1 : Q 1) (h2 : Q 2) (h3 : Q 3) (h4 : Q 4) (h5 : Q 5) (h6 : Q 6) (h7 : Q 7) (h8 : Q 8) (h9 : Q 9) (h10 : Q 10) (h11 : Q 11) (h12 : Q 12) (h13 : Q 13) (h14 : Q 14) (h15 : Q 15) (h16 : Q 16) (h17 : Q 17) (h18 : Q 18) (h19 : Q 19) (h20 : Q 20) (h21 : Q 21) (h22 : Q 22) : ∀ k, 1 ≤ k → k ≤ 22 → Q k := by
 intro k g1 g2
 have : k = 1 ∨ k = 2 ∨ k = 3 ∨ k = 4 ∨ k = 5 ∨ k = 6 ∨ k = 7 ∨ k = 8 ∨ k = 9 ∨ k = 10 ∨ k = 11 ∨ k = 12 ∨ k = 13 ∨ k = 14 ∨ k = 15 ∨ k = 16 ∨ k = 17 ∨ k = 18 ∨ k = 19 ∨ k = 20 ∨ k = 21 ∨ k = 22 := by omega
 rcases this with rfl | rfl | rfl | rfl | rfl | rfl | rfl | rfl | rfl | rfl | rfl | rfl | rfl | rfl | rfl | rfl | rfl | rfl | rfl | rfl | rfl | rfl
 ·exact h1
 ·exact h2
 ·exact h3
 ·exact h4
 ·exact h5
 ·exact h6
 ·exact h7
 ·exact h8
 ·exact h9
 ·exact h10
 ·exact h11
 ·exact h12
 ·exact h13
 ·exact h14
 ·exact h15
 ·exact h16
 ·exact h17
 ·exact h18
 ·exact h19
 ·exact h20
 ·exact h21
 ·exact h22
structure Kn (q : TInst) (g : Bool) (E : Int) : Prop where
 g1 : isa_Good q = some g
 g2 : ref02_Good q = some g
 e1 : g = true → isa_Encode q = some (E, 0)
 e2 : g = true → ref02_Encode q = some E
 pos : g = true → 0 < E ∧ E < 4294967296
 rt : g = true → rd E.toNat q.op.toNat = q
 ke : g = true → ky E.toNat = kv q.op.toNat
 e0 : g = false → isa_Encode q = some (0, 1)
theorem kn_nat : ∀ k : Nat, 1 ≤ k → k ≤ 22 → ∀ d a b i, ∃ g E, Kn ⟨(k : Int), d, a, b, i⟩ g E := by
 refine of22 ?_ ?_ ?_ ?_ ?_ ?_ ?_ ?_ ?_ ?_ ?_ ?_ ?_ ?_ ?_ ?_ ?_ ?_ ?_ ?_ ?_ ?_
 ·intro d a b i
  have hE : ∀ _ : decide (b = 0 ∧ 0 ≤ d ∧ d < 32 ∧ 0 ≤ a ∧ a < 32 ∧ -32768 ≤ i ∧ i < 32768 ∧ i % 4 = 0) = true, (0 : Int) < (3892314112 + d * 2097152 + a * 65536 + i % 65536) ∧ (3892314112 + d * 2097152 + a * 65536 + i % 65536 : Int) < 4294967296 := by intro h; have h := of_decide_eq_true h; omega
  refine ⟨decide (b = 0 ∧ 0 ≤ d ∧ d < 32 ∧ 0 ≤ a ∧ a < 32 ∧ -32768 ≤ i ∧ i < 32768 ∧ i % 4 = 0), 3892314112 + d * 2097152 + a * 65536 + i % 65536, ig_1 d a b i, ig2_1 d a b i, fun h => en_1 d a b i (of_decide_eq_true h), fun h => re_1 d a b i (of_decide_eq_true h), hE, fun h => rt_1 (of_decide_eq_true h) (Int.toNat_of_nonneg (by have := hE h; omega)), fun h => ky_1 (of_decide_eq_true h) (Int.toNat_of_nonneg (by have := hE h; omega)), fun h => enc_bad _ ((ig_1 d a b i).trans (congrArg some h))⟩
 ·intro d a b i
  have hE : ∀ _ : decide (b = 0 ∧ 0 ≤ d ∧ d < 32 ∧ 0 ≤ a ∧ a < 32 ∧ -32768 ≤ i ∧ i < 32768 ∧ i % 4 = 0) = true, (0 : Int) < (4160749568 + d * 2097152 + a * 65536 + i % 65536) ∧ (4160749568 + d * 2097152 + a * 65536 + i % 65536 : Int) < 4294967296 := by intro h; have h := of_decide_eq_true h; omega
  refine ⟨decide (b = 0 ∧ 0 ≤ d ∧ d < 32 ∧ 0 ≤ a ∧ a < 32 ∧ -32768 ≤ i ∧ i < 32768 ∧ i % 4 = 0), 4160749568 + d * 2097152 + a * 65536 + i % 65536, ig_2 d a b i, ig2_2 d a b i, fun h => en_2 d a b i (of_decide_eq_true h), fun h => re_2 d a b i (of_decide_eq_true h), hE, fun h => rt_2 (of_decide_eq_true h) (Int.toNat_of_nonneg (by have := hE h; omega)), fun h => ky_2 (of_decide_eq_true h) (Int.toNat_of_nonneg (by have := hE h; omega)), fun h => enc_bad _ ((ig_2 d a b i).trans (congrArg some h))⟩
 ·intro d a b i
  have hE : ∀ _ : decide (b = 0 ∧ 0 ≤ d ∧ d < 32 ∧ 0 ≤ a ∧ a < 32 ∧ -32768 ≤ i ∧ i < 32768) = true, (0 : Int) < (939524096 + d * 2097152 + a * 65536 + i % 65536) ∧ (939524096 + d * 2097152 + a * 65536 + i % 65536 : Int) < 4294967296 := by intro h; have h := of_decide_eq_true h; omega
  refine ⟨decide (b = 0 ∧ 0 ≤ d ∧ d < 32 ∧ 0 ≤ a ∧ a < 32 ∧ -32768 ≤ i ∧ i < 32768), 939524096 + d * 2097152 + a * 65536 + i % 65536, ig_3 d a b i, ig2_3 d a b i, fun h => en_3 d a b i (of_decide_eq_true h), fun h => re_3 d a b i (of_decide_eq_true h), hE, fun h => rt_3 (of_decide_eq_true h) (Int.toNat_of_nonneg (by have := hE h; omega)), fun h => ky_3 (of_decide_eq_true h) (Int.toNat_of_nonneg (by have := hE h; omega)), fun h => enc_bad _ ((ig_3 d a b i).trans (congrArg some h))⟩
 ·intro d a b i
  have hE : ∀ _ : decide (i = 0 ∧ 0 ≤ d ∧ d < 32 ∧ 0 ≤ a ∧ a < 32 ∧ 0 ≤ b ∧ b < 32) = true, (0 : Int) < (2080375316 + d * 2097152 + a * 65536 + b * 2048) ∧ (2080375316 + d * 2097152 + a * 65536 + b * 2048 : Int) < 4294967296 := by intro h; have h := of_decide_eq_true h; omega
  refine ⟨decide (i = 0 ∧ 0 ≤ d ∧ d < 32 ∧ 0 ≤ a ∧ a < 32 ∧ 0 ≤ b ∧ b < 32), 2080375316 + d * 2097152 + a * 65536 + b * 2048, ig_4 d a b i, ig2_4 d a b i, fun h => en_4 d a b i (of_decide_eq_true h), fun h => re_4 d a b i (of_decide_eq_true h), hE, fun h => rt_4 (of_decide_eq_true h) (Int.toNat_of_nonneg (by have := hE h; omega)), fun h => ky_4 (of_decide_eq_true h) (Int.toNat_of_nonneg (by have := hE h; omega)), fun h => enc_bad _ ((ig_4 d a b i).trans (congrArg some h))⟩
 ·intro d a b i
  have hE : ∀ _ : decide (i = 0 ∧ 0 ≤ d ∧ d < 32 ∧ 0 ≤ a ∧ a < 32 ∧ 0 ≤ b ∧ b < 32) = true, (0 : Int) < (2080374864 + d * 2097152 + a * 65536 + b * 2048) ∧ (2080374864 + d * 2097152 + a * 65536 + b * 2048 : Int) < 4294967296 := by intro h; have h := of_decide_eq_true h; omega
  refine ⟨decide (i = 0 ∧ 0 ≤ d ∧ d < 32 ∧ 0 ≤ a ∧ a < 32 ∧ 0 ≤ b ∧ b < 32), 2080374864 + d * 2097152 + a * 65536 + b * 2048, ig_5 d a b i, ig2_5 d a b i, fun h => en_5 d a b i (of_decide_eq_true h), fun h => re_5 d a b i (of_decide_eq_true h), hE, fun h => rt_5 (of_decide_eq_true h) (Int.toNat_of_nonneg (by have := hE h; omega)), fun h => ky_5 (of_decide_eq_true h) (Int.toNat_of_nonneg (by have := hE h; omega)), fun h => enc_bad _ ((ig_5 d a b i).trans (congrArg some h))⟩
 ·intro d a b i
  have hE : ∀ _ : decide (i = 0 ∧ 0 ≤ d ∧ d < 32 ∧ 0 ≤ a ∧ a < 32 ∧ 0 ≤ b ∧ b < 32) = true, (0 : Int) < (2080375250 + d * 2097152 + a * 65536 + b * 2048) ∧ (2080375250 + d * 2097152 + a * 65536 + b * 2048 : Int) < 4294967296 := by intro h; have h := of_decide_eq_true h; omega
  refine ⟨decide (i = 0 ∧ 0 ≤ d ∧ d < 32 ∧ 0 ≤ a ∧ a < 32 ∧ 0 ≤ b ∧ b < 32), 2080375250 + d * 2097152 + a * 65536 + b * 2048, ig_6 d a b i, ig2_6 d a b i, fun h => en_6 d a b i (of_decide_eq_true h), fun h => re_6 d a b i (of_decide_eq_true h), hE, fun h => rt_6 (of_decide_eq_true h) (Int.toNat_of_nonneg (by have := hE h; omega)), fun h => ky_6 (of_decide_eq_true h) (Int.toNat_of_nonneg (by have := hE h; omega)), fun h => enc_bad _ ((ig_6 d a b i).trans (congrArg some h))⟩
 ·intro d a b i
  have hE : ∀ _ : decide (i = 0 ∧ 0 ≤ d ∧ d < 32 ∧ 0 ≤ a ∧ a < 32 ∧ 0 ≤ b ∧ b < 32) = true, (0 : Int) < (2080375762 + d * 2097152 + a * 65536 + b * 2048) ∧ (2080375762 + d * 2097152 + a * 65536 + b * 2048 : Int) < 4294967296 := by intro h; have h := of_decide_eq_true h; omega
  refine ⟨decide (i = 0 ∧ 0 ≤ d ∧ d < 32 ∧ 0 ≤ a ∧ a < 32 ∧ 0 ≤ b ∧ b < 32), 2080375762 + d * 2097152 + a * 65536 + b * 2048, ig_7 d a b i, ig2_7 d a b i, fun h => en_7 d a b i (of_decide_eq_true h), fun h => re_7 d a b i (of_decide_eq_true h), hE, fun h => rt_7 (of_decide_eq_true h) (Int.toNat_of_nonneg (by have := hE h; omega)), fun h => ky_7 (of_decide_eq_true h) (Int.toNat_of_nonneg (by have := hE h; omega)), fun h => enc_bad _ ((ig_7 d a b i).trans (congrArg some h))⟩
 ·intro d a b i
  have hE : ∀ _ : decide (d = 0 ∧ i = 0 ∧ 0 ≤ a ∧ a < 32 ∧ 0 ≤ b ∧ b < 32) = true, (0 : Int) < (2082471936 + a * 65536 + b * 2048) ∧ (2082471936 + a * 65536 + b * 2048 : Int) < 4294967296 := by intro h; have h := of_decide_eq_true h; omega
  refine ⟨decide (d = 0 ∧ i = 0 ∧ 0 ≤ a ∧ a < 32 ∧ 0 ≤ b ∧ b < 32), 2082471936 + a * 65536 + b * 2048, ig_8 d a b i, ig2_8 d a b i, fun h => en_8 d a b i (of_decide_eq_true h), fun h => re_8 d a b i (of_decide_eq_true h), hE, fun h => rt_8 (of_decide_eq_true h) (Int.toNat_of_nonneg (by have := hE h; omega)), fun h => ky_8 (of_decide_eq_true h) (Int.toNat_of_nonneg (by have := hE h; omega)), fun h => enc_bad _ ((ig_8 d a b i).trans (congrArg some h))⟩
 ·intro d a b i
  have hE : ∀ _ : decide (d = 0 ∧ b = 0 ∧ 0 ≤ a ∧ a < 32 ∧ -32768 ≤ i ∧ i < 32768) = true, (0 : Int) < (740294656 + a * 65536 + i % 65536) ∧ (740294656 + a * 65536 + i % 65536 : Int) < 4294967296 := by intro h; have h := of_decide_eq_true h; omega
  refine ⟨decide (d = 0 ∧ b = 0 ∧ 0 ≤ a ∧ a < 32 ∧ -32768 ≤ i ∧ i < 32768), 740294656 + a * 65536 + i % 65536, ig_9 d a b i, ig2_9 d a b i, fun h => en_9 d a b i (of_decide_eq_true h), fun h => re_9 d a b i (of_decide_eq_true h), hE, fun h => rt_9 (of_decide_eq_true h) (Int.toNat_of_nonneg (by have := hE h; omega)), fun h => ky_9 (of_decide_eq_true h) (Int.toNat_of_nonneg (by have := hE h; omega)), fun h => enc_bad _ ((ig_9 d a b i).trans (congrArg some h))⟩
 ·intro d a b i
  have hE : ∀ _ : decide (b = 0 ∧ (d = 4 ∨ d = 12) ∧ 0 ≤ a ∧ a < 3 ∧ -8192 ≤ i ∧ i < 8192) = true, (0 : Int) < (1073741824 + d * 2097152 + a * 65536 + i % 16384 * 4) ∧ (1073741824 + d * 2097152 + a * 65536 + i % 16384 * 4 : Int) < 4294967296 := by intro h; have h := of_decide_eq_true h; omega
  refine ⟨decide (b = 0 ∧ (d = 4 ∨ d = 12) ∧ 0 ≤ a ∧ a < 3 ∧ -8192 ≤ i ∧ i < 8192), 1073741824 + d * 2097152 + a * 65536 + i % 16384 * 4, ig_10 d a b i, ig2_10 d a b i, fun h => en_10 d a b i (of_decide_eq_true h), fun h => re_10 d a b i (of_decide_eq_true h), hE, fun h => rt_10 (of_decide_eq_true h) (Int.toNat_of_nonneg (by have := hE h; omega)), fun h => ky_10 (of_decide_eq_true h) (Int.toNat_of_nonneg (by have := hE h; omega)), fun h => enc_bad _ ((ig_10 d a b i).trans (congrArg some h))⟩
 ·intro d a b i
  have hE : ∀ _ : decide (d = 0 ∧ a = 0 ∧ b = 0 ∧ -8388608 ≤ i ∧ i < 8388608) = true, (0 : Int) < (1207959552 + i % 16777216 * 4) ∧ (1207959552 + i % 16777216 * 4 : Int) < 4294967296 := by intro h; have h := of_decide_eq_true h; omega
  refine ⟨decide (d = 0 ∧ a = 0 ∧ b = 0 ∧ -8388608 ≤ i ∧ i < 8388608), 1207959552 + i % 16777216 * 4, ig_11 d a b i, ig2_11 d a b i, fun h => en_11 d a b i (of_decide_eq_true h), fun h => re_11 d a b i (of_decide_eq_true h), hE, fun h => rt_11 (of_decide_eq_true h) (Int.toNat_of_nonneg (by have := hE h; omega)), fun h => ky_11 (of_decide_eq_true h) (Int.toNat_of_nonneg (by have := hE h; omega)), fun h => enc_bad _ ((ig_11 d a b i).trans (congrArg some h))⟩
 ·intro d a b i
  have hE : ∀ _ : decide (d = 0 ∧ a = 0 ∧ b = 0 ∧ -8388608 ≤ i ∧ i < 8388608) = true, (0 : Int) < (1207959553 + i % 16777216 * 4) ∧ (1207959553 + i % 16777216 * 4 : Int) < 4294967296 := by intro h; have h := of_decide_eq_true h; omega
  refine ⟨decide (d = 0 ∧ a = 0 ∧ b = 0 ∧ -8388608 ≤ i ∧ i < 8388608), 1207959553 + i % 16777216 * 4, ig_12 d a b i, ig2_12 d a b i, fun h => en_12 d a b i (of_decide_eq_true h), fun h => re_12 d a b i (of_decide_eq_true h), hE, fun h => rt_12 (of_decide_eq_true h) (Int.toNat_of_nonneg (by have := hE h; omega)), fun h => ky_12 (of_decide_eq_true h) (Int.toNat_of_nonneg (by have := hE h; omega)), fun h => enc_bad _ ((ig_12 d a b i).trans (congrArg some h))⟩
 ·intro d a b i
  have hE : ∀ _ : decide (d = 0 ∧ a = 0 ∧ b = 0 ∧ i = 0) = true, (0 : Int) < (1317011488) ∧ (1317011488 : Int) < 4294967296 := by intro h; have h := of_decide_eq_true h; omega
  refine ⟨decide (d = 0 ∧ a = 0 ∧ b = 0 ∧ i = 0), 1317011488, ig_13 d a b i, ig2_13 d a b i, fun h => en_13 d a b i (of_decide_eq_true h), fun h => re_13 d a b i (of_decide_eq_true h), hE, fun h => rt_13 (of_decide_eq_true h) (Int.toNat_of_nonneg (by have := hE h; omega)), fun h => ky_13 (of_decide_eq_true h) (Int.toNat_of_nonneg (by have := hE h; omega)), fun h => enc_bad _ ((ig_13 d a b i).trans (congrArg some h))⟩
 ·intro d a b i
  have hE : ∀ _ : decide (a = 0 ∧ b = 0 ∧ i = 0 ∧ 0 ≤ d ∧ d < 32) = true, (0 : Int) < (2080899750 + d * 2097152) ∧ (2080899750 + d * 2097152 : Int) < 4294967296 := by intro h; have h := of_decide_eq_true h; omega
  refine ⟨decide (a = 0 ∧ b = 0 ∧ i = 0 ∧ 0 ≤ d ∧ d < 32), 2080899750 + d * 2097152, ig_14 d a b i, ig2_14 d a b i, fun h => en_14 d a b i (of_decide_eq_true h), fun h => re_14 d a b i (of_decide_eq_true h), hE, fun h => rt_14 (of_decide_eq_true h) (Int.toNat_of_nonneg (by have := hE h; omega)), fun h => ky_14 (of_decide_eq_true h) (Int.toNat_of_nonneg (by have := hE h; omega)), fun h => enc_bad _ ((ig_14 d a b i).trans (congrArg some h))⟩
 ·intro d a b i
  have hE : ∀ _ : decide (a = 0 ∧ b = 0 ∧ i = 0 ∧ 0 ≤ d ∧ d < 32) = true, (0 : Int) < (2080900006 + d * 2097152) ∧ (2080900006 + d * 2097152 : Int) < 4294967296 := by intro h; have h := of_decide_eq_true h; omega
  refine ⟨decide (a = 0 ∧ b = 0 ∧ i = 0 ∧ 0 ≤ d ∧ d < 32), 2080900006 + d * 2097152, ig_15 d a b i, ig2_15 d a b i, fun h => en_15 d a b i (of_decide_eq_true h), fun h => re_15 d a b i (of_decide_eq_true h), hE, fun h => rt_15 (of_decide_eq_true h) (Int.toNat_of_nonneg (by have := hE h; omega)), fun h => ky_15 (of_decide_eq_true h) (Int.toNat_of_nonneg (by have := hE h; omega)), fun h => enc_bad _ ((ig_15 d a b i).trans (congrArg some h))⟩
 ·intro d a b i
  have hE : ∀ _ : decide (i = 0 ∧ 0 ≤ d ∧ d < 32 ∧ 0 ≤ a ∧ a < 32 ∧ 0 ≤ b ∧ b < 32) = true, (0 : Int) < (2080374952 + d * 2097152 + a * 65536 + b * 2048) ∧ (2080374952 + d * 2097152 + a * 65536 + b * 2048 : Int) < 4294967296 := by intro h; have h := of_decide_eq_true h; omega
  refine ⟨decide (i = 0 ∧ 0 ≤ d ∧ d < 32 ∧ 0 ≤ a ∧ a < 32 ∧ 0 ≤ b ∧ b < 32), 2080374952 + d * 2097152 + a * 65536 + b * 2048, ig_16 d a b i, ig2_16 d a b i, fun h => en_16 d a b i (of_decide_eq_true h), fun h => re_16 d a b i (of_decide_eq_true h), hE, fun h => rt_16 (of_decide_eq_true h) (Int.toNat_of_nonneg (by have := hE h; omega)), fun h => ky_16 (of_decide_eq_true h) (Int.toNat_of_nonneg (by have := hE h; omega)), fun h => enc_bad _ ((ig_16 d a b i).trans (congrArg some h))⟩
 ·intro d a b i
  have hE : ∀ _ : decide (i = 0 ∧ 0 ≤ d ∧ d < 32 ∧ 0 ≤ a ∧ a < 32 ∧ 0 ≤ b ∧ b < 32) = true, (0 : Int) < (2080375213 + d * 2097152 + a * 65536 + b * 2048) ∧ (2080375213 + d * 2097152 + a * 65536 + b * 2048 : Int) < 4294967296 := by intro h; have h := of_decide_eq_true h; omega
  refine ⟨decide (i = 0 ∧ 0 ≤ d ∧ d < 32 ∧ 0 ≤ a ∧ a < 32 ∧ 0 ≤ b ∧ b < 32), 2080375213 + d * 2097152 + a * 65536 + b * 2048, ig_17 d a b i, ig2_17 d a b i, fun h => en_17 d a b i (of_decide_eq_true h), fun h => re_17 d a b i (of_decide_eq_true h), hE, fun h => rt_17 (of_decide_eq_true h) (Int.toNat_of_nonneg (by have := hE h; omega)), fun h => ky_17 (of_decide_eq_true h) (Int.toNat_of_nonneg (by have := hE h; omega)), fun h => enc_bad _ ((ig_17 d a b i).trans (congrArg some h))⟩
 ·intro d a b i
  have hE : ∀ _ : decide (d = 0 ∧ a = 0 ∧ b = 0 ∧ i = 0) = true, (0 : Int) < (2080375980) ∧ (2080375980 : Int) < 4294967296 := by intro h; have h := of_decide_eq_true h; omega
  refine ⟨decide (d = 0 ∧ a = 0 ∧ b = 0 ∧ i = 0), 2080375980, ig_18 d a b i, ig2_18 d a b i, fun h => en_18 d a b i (of_decide_eq_true h), fun h => re_18 d a b i (of_decide_eq_true h), hE, fun h => rt_18 (of_decide_eq_true h) (Int.toNat_of_nonneg (by have := hE h; omega)), fun h => ky_18 (of_decide_eq_true h) (Int.toNat_of_nonneg (by have := hE h; omega)), fun h => enc_bad _ ((ig_18 d a b i).trans (congrArg some h))⟩
 ·intro d a b i
  have hE : ∀ _ : decide (d = 0 ∧ a = 0 ∧ b = 0 ∧ i = 0) = true, (0 : Int) < (2082473132) ∧ (2082473132 : Int) < 4294967296 := by intro h; have h := of_decide_eq_true h; omega
  refine ⟨decide (d = 0 ∧ a = 0 ∧ b = 0 ∧ i = 0), 2082473132, ig_19 d a b i, ig2_19 d a b i, fun h => en_19 d a b i (of_decide_eq_true h), fun h => re_19 d a b i (of_decide_eq_true h), hE, fun h => rt_19 (of_decide_eq_true h) (Int.toNat_of_nonneg (by have := hE h; omega)), fun h => ky_19 (of_decide_eq_true h) (Int.toNat_of_nonneg (by have := hE h; omega)), fun h => enc_bad _ ((ig_19 d a b i).trans (congrArg some h))⟩
 ·intro d a b i
  have hE : ∀ _ : decide (d = 0 ∧ a = 0 ∧ b = 0 ∧ i = 0) = true, (0 : Int) < (1275068716) ∧ (1275068716 : Int) < 4294967296 := by intro h; have h := of_decide_eq_true h; omega
  refine ⟨decide (d = 0 ∧ a = 0 ∧ b = 0 ∧ i = 0), 1275068716, ig_20 d a b i, ig2_20 d a b i, fun h => en_20 d a b i (of_decide_eq_true h), fun h => re_20 d a b i (of_decide_eq_true h), hE, fun h => rt_20 (of_decide_eq_true h) (Int.toNat_of_nonneg (by have := hE h; omega)), fun h => ky_20 (of_decide_eq_true h) (Int.toNat_of_nonneg (by have := hE h; omega)), fun h => enc_bad _ ((ig_20 d a b i).trans (congrArg some h))⟩
 ·intro d a b i
  have hE : ∀ _ : decide (d = 0 ∧ a = 0 ∧ b = 0 ∧ 0 ≤ i ∧ i < 32768) = true, (0 : Int) < (266338304 + i % 65536) ∧ (266338304 + i % 65536 : Int) < 4294967296 := by intro h; have h := of_decide_eq_true h; omega
  refine ⟨decide (d = 0 ∧ a = 0 ∧ b = 0 ∧ 0 ≤ i ∧ i < 32768), 266338304 + i % 65536, ig_21 d a b i, ig2_21 d a b i, fun h => en_21 d a b i (of_decide_eq_true h), fun h => re_21 d a b i (of_decide_eq_true h), hE, fun h => rt_21 (of_decide_eq_true h) (Int.toNat_of_nonneg (by have := hE h; omega)), fun h => ky_21 (of_decide_eq_true h) (Int.toNat_of_nonneg (by have := hE h; omega)), fun h => enc_bad _ ((ig_21 d a b i).trans (congrArg some h))⟩
 ·intro d a b i
  have hE : ∀ _ : decide (a = 0 ∧ b = 0 ∧ i = 0 ∧ 0 ≤ d ∧ d < 32) = true, (0 : Int) < (1140850690 + d * 2097152) ∧ (1140850690 + d * 2097152 : Int) < 4294967296 := by intro h; have h := of_decide_eq_true h; omega
  refine ⟨decide (a = 0 ∧ b = 0 ∧ i = 0 ∧ 0 ≤ d ∧ d < 32), 1140850690 + d * 2097152, ig_22 d a b i, ig2_22 d a b i, fun h => en_22 d a b i (of_decide_eq_true h), fun h => re_22 d a b i (of_decide_eq_true h), hE, fun h => rt_22 (of_decide_eq_true h) (Int.toNat_of_nonneg (by have := hE h; omega)), fun h => ky_22 (of_decide_eq_true h) (Int.toNat_of_nonneg (by have := hE h; omega)), fun h => enc_bad _ ((ig_22 d a b i).trans (congrArg some h))⟩
end Go.Vm.G02
