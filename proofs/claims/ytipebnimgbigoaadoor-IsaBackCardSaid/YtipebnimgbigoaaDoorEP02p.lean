/-
 What the loops over the fields of a shape compute.
-/
import Derived.Test.YtipebnimgbigoaaDoorEP02n
set_option linter.unusedSimpArgs false
set_option linter.unusedVariables false
namespace Go.Vm.G02
open Go
theorem by_nil : bytesO ByteArray.empty = some [] := rfl
theorem by_str2 : bytesO str2 = some [100, 97, 109] := rfl
theorem by_str5 : bytesO str5 = some [100, 97, 105] := rfl
theorem by_str7 : bytesO str7 = some [100, 97, 98] := rfl
theorem by_str12 : bytesO str12 = some [97, 98] := rfl
theorem by_str14 : bytesO str14 = some [97, 105] := rfl
theorem by_str16 : bytesO str16 = some [99, 111] := rfl
theorem by_str18 : bytesO str18 = some [108] := rfl
theorem by_str22 : bytesO str22 = some [100] := rfl
theorem by_str30 : bytesO str30 = some [105] := rfl
theorem gl_1 : ix gl0 1 = some ⟨str1, str2, 3892314112⟩ := rfl
theorem gl_2 : ix gl0 2 = some ⟨str3, str2, 4160749568⟩ := rfl
theorem gl_3 : ix gl0 3 = some ⟨str4, str5, 939524096⟩ := rfl
theorem gl_4 : ix gl0 4 = some ⟨str6, str7, 2080375316⟩ := rfl
theorem gl_5 : ix gl0 5 = some ⟨str8, str7, 2080374864⟩ := rfl
theorem gl_6 : ix gl0 6 = some ⟨str9, str7, 2080375250⟩ := rfl
theorem gl_7 : ix gl0 7 = some ⟨str10, str7, 2080375762⟩ := rfl
theorem gl_8 : ix gl0 8 = some ⟨str11, str12, 2082471936⟩ := rfl
theorem gl_9 : ix gl0 9 = some ⟨str13, str14, 740294656⟩ := rfl
theorem gl_10 : ix gl0 10 = some ⟨str15, str16, 1073741824⟩ := rfl
theorem gl_11 : ix gl0 11 = some ⟨str17, str18, 1207959552⟩ := rfl
theorem gl_12 : ix gl0 12 = some ⟨str19, str18, 1207959553⟩ := rfl
theorem gl_13 : ix gl0 13 = some ⟨str20, ByteArray.empty, 1317011488⟩ := rfl
theorem gl_14 : ix gl0 14 = some ⟨str21, str22, 2080899750⟩ := rfl
theorem gl_15 : ix gl0 15 = some ⟨str23, str22, 2080900006⟩ := rfl
theorem gl_16 : ix gl0 16 = some ⟨str24, str7, 2080374952⟩ := rfl
theorem gl_17 : ix gl0 17 = some ⟨str25, str7, 2080375213⟩ := rfl
theorem gl_18 : ix gl0 18 = some ⟨str26, ByteArray.empty, 2080375980⟩ := rfl
theorem gl_19 : ix gl0 19 = some ⟨str27, ByteArray.empty, 2082473132⟩ := rfl
theorem gl_20 : ix gl0 20 = some ⟨str28, ByteArray.empty, 1275068716⟩ := rfl
theorem gl_21 : ix gl0 21 = some ⟨str29, str30, 266338304⟩ := rfl
theorem gl_22 : ix gl0 22 = some ⟨str31, str22, 1140850690⟩ := rfl
theorem ix0 {a : Int} {l : List Int} : ix (a :: l) 0 = some a := rfl
theorem ix1 {a b : Int} {l : List Int} : ix (a :: b :: l) 1 = some b := rfl
theorem ix2 {a b c : Int} {l : List Int} : ix (a :: b :: c :: l) 2 = some c := rfl
theorem w1 : w64 (0 + 1) = 1 := by decide
theorem w2 : w64 (1 + 1) = 2 := by decide
theorem w3 : w64 (2 + 1) = 3 := by decide
def rg (x : Int) : Bool := decide (0 ≤ x) && decide (x < 32)
def ft (n : Nat) (x : Int) : Bool := decide (-((2 ^ (n - 1) : Nat) : Int) ≤ x) && decide (x < ((2 ^ (n - 1) : Nat) : Int))
theorem part_d (p : TInst) : isa_part 100 p = some (6, 5, p.d, rg p.d) := rfl
theorem part_a (p : TInst) : isa_part 97 p = some (11, 5, p.a, rg p.a) := rfl
theorem part_b (p : TInst) : isa_part 98 p = some (16, 5, p.b, rg p.b) := rfl
theorem part_i (p : TInst) : isa_part 105 p = some (16, 16, p.imm, ft 16 p.imm) := by
 show (word_Fits p.imm ((16 : Nat) : Int)).bind _ = _
 rw [fits_i p.imm 16 (by decide) (by decide)]
 rfl
theorem part_o (p : TInst) : isa_part 111 p = some (16, 14, p.imm, ft 14 p.imm) := by
 show (word_Fits p.imm ((14 : Nat) : Int)).bind _ = _
 rw [fits_i p.imm 14 (by decide) (by decide)]
 rfl
theorem part_l (p : TInst) : isa_part 108 p = some (6, 24, p.imm, ft 24 p.imm) := by
 show (word_Fits p.imm ((24 : Nat) : Int)).bind _ = _
 rw [fits_i p.imm 24 (by decide) (by decide)]
 rfl
theorem and3 (x : Int) : andB .i64 x 3 = x % 4 := by
 unfold andB
 rw [BitVec.toNat_and]
 show IntKind.wrap .i64 (((BitVec.ofInt 64 x).toNat &&& (2 ^ 2 - 1) : Nat) : Int) = _
 rw [Nat.and_two_pow_sub_one_eq_mod, BitVec.toNat_ofInt]
 show w64 _ = _
 rw [w64_id (by omega) (by omega)]
 omega
theorem shr2 (x : Int) : shrO .i64 x 2 = some (x / 4) := by
 unfold shrO
 rw [if_pos (by decide)]
 show some (Int.fdiv x 4) = _
 rw [Int.fdiv_eq_ediv_of_nonneg _ (by decide)]
theorem part_m (p : TInst) : isa_part 109 p = some (16, 14, p.imm / 4, ft 16 p.imm && decide (p.imm % 4 = 0)) := by
 show (shrO .i64 p.imm 2).bind (fun x61 => (word_Fits p.imm ((16 : Nat) : Int)).bind fun x64 => if x64 then isa_part_k1 x61 (decide ((andB .i64 p.imm 3) = 0)) else isa_part_k1 x61 false) = _
 rw [shr2, fits_i p.imm 16 (by decide) (by decide)]
 simp only [Option.bind_some]
 show (if ft 16 p.imm = true then _ else _) = _
 rw [and3]
 cases ft 16 p.imm <;> rfl
def cnd (d a : Int) : Bool := (decide (d = 4) || decide (d = 12)) && (decide (0 ≤ a) && decide (a < 3))
theorem shl5 (d : Int) : ∃ y, shlO .i64 d 5 = some y ∧ (d = 4 → y = 128) ∧ (d = 12 → y = 384) := by
 refine ⟨_, by unfold shlO; exact if_pos (by decide), ?_, ?_⟩ <;> (intro h; subst h; decide)
theorem part_c (p : TInst) : ∃ y, isa_part 99 p = some (6, 10, y, cnd p.d p.a) ∧ (cnd p.d p.a = true → y = 32 * p.d + p.a) := by
 obtain ⟨y, h1, h2, h3⟩ := shl5 p.d
 have e : isa_part 99 p = (shlO .i64 p.d 5).bind fun x107 => if decide (p.d = 4) then (if decide (0 ≤ p.a) then isa_part_k2 (orB .i64 x107 p.a) (decide (p.a < 3)) else isa_part_k2 (orB .i64 x107 p.a) false) else if decide (p.d = 12) then (if decide (0 ≤ p.a) then isa_part_k2 (orB .i64 x107 p.a) (decide (p.a < 3)) else isa_part_k2 (orB .i64 x107 p.a) false) else isa_part_k2 (orB .i64 x107 p.a) false := rfl
 rw [h1] at e
 simp only [Option.bind_some] at e
 refine ⟨orB .i64 y p.a, ?_, ?_⟩
 ·rw [e]
  unfold cnd isa_part_k2
  cases decide (p.d = 4) <;> cases decide (p.d = 12) <;> cases decide (0 ≤ p.a) <;> cases decide (p.a < 3) <;> rfl
 ·unfold cnd
  intro h
  simp only [Bool.and_eq_true, Bool.or_eq_true, decide_eq_true_eq] at h
  obtain ⟨hd, ha, hb⟩ := h
  generalize p.a = a at ha hb ⊢
  have ha3 : a = 0 ∨ a = 1 ∨ a = 2 := by omega
  rcases hd with hd | hd
  ·rw [h2 hd, hd]
   rcases ha3 with rfl | rfl | rfl <;> decide
  ·rw [h3 hd, hd]
   rcases ha3 with rfl | rfl | rfl <;> decide
theorem loop_step {σ ρ : Type} {B : σ → Option (σ ⊕ ρ)} {s s' : σ} (h : B s = some (.inl s')) : loopO B s = loopO B s' := by rw [loopO_eq, h]; rfl
theorem loop_ret {σ ρ : Type} {B : σ → Option (σ ⊕ ρ)} {s : σ} {r : ρ} (h : B s = some (.inr r)) : loopO B s = some r := by rw [loopO_eq, h]; rfl
theorem goodL (p : TInst) (okf : Int → Bool) (xs : List Int) (hn : xs.length ≤ 100) (h : ∀ x ∈ xs, ∃ f n v, isa_part x p = some (f, n, v, okf x)) : isa_Good_l1 p xs 0 = some (xs.all okf) := by
 unfold isa_Good_l1
 have : Ok (loopO (fun s => isa_Good_l1b p xs s) 0) (fun r => r = xs.all okf) := by
  refine Ok.loop (fun k s => s = (k : Int) ∧ ∀ x ∈ xs.take k, okf x = true) xs.length (fun k s hk hs => ?_) (fun s hs => ?_) ⟨rfl, by simp⟩
  ·obtain ⟨rfl, hs⟩ := hs
   obtain ⟨f, n, v, hp⟩ := h xs[k] (List.getElem_mem hk)
   show Ok (isa_Good_l1b p xs (k : Int)) _
   unfold isa_Good_l1b
   rw [if_pos (decide_eq_true (by omega)), ix_nat, List.getElem?_eq_getElem hk]
   rw [Option.bind_some, hp, Option.bind_some]
   cases ho : okf xs[k] with
   | false =>
    refine ⟨_, rfl, ?_⟩
    show false = _
    exact (List.all_eq_false.2 ⟨xs[k], List.getElem_mem hk, by rw [ho]; decide⟩).symm
   | true =>
    refine ⟨_, rfl, ?_, ?_⟩
    ·exact w64_succ (by omega)
    ·intro x hx
     rcases (mem_take_succ hk).1 hx with h3 | h3
     ·exact hs x h3
     ·rw [h3]; exact ho
  ·obtain ⟨rfl, hs⟩ := hs
   rw [List.take_length] at hs
   show Ok (isa_Good_l1b p xs (xs.length : Int)) _
   unfold isa_Good_l1b
   rw [if_neg (by simp)]
   exact ⟨_, rfl, (List.all_eq_true.2 hs).symm⟩
 exact this.some_of
end Go.Vm.G02
