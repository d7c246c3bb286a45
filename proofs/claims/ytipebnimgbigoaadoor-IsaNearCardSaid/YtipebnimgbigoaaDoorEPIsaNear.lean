/-
 The law: words that differ in one bit.
-/
import Derived.Test.YtipebnimgbigoaaDoorEP02B
import Derived.Test.YtipebnimgbigoaaDoorEOG02
set_option linter.unusedSimpArgs false
set_option linter.unusedVariables false
namespace Go.Vm.G02
open Go
theorem InR.u32 {x : Int} (h : InR .u32 x) : ∃ n : Nat, x = (n : Int) ∧ n < 4294967296 := by
 unfold InR Lit.wf at h
 simp [IntKind.min, IntKind.max, IntKind.signed, IntKind.bits] at h
 exact ⟨x.toNat, by omega, by omega⟩
theorem near {n : Nat} (hn : n < 4294967296) : ∃ i e, isa_Decode (n : Int) = some (i, e) ∧ (e = 0 → (∃ t, isa_Text i = some t ∧ t ≠ ByteArray.empty) ∧ isa_Encode i = some ((n : Int), 0)) := by
 rcases decode hn with ⟨j, h1, h2, h3, h4, h5⟩ | ⟨_, h4, h5⟩
 ·refine ⟨_, _, h4, fun _ => ⟨?_, h3.2⟩⟩
  rcases cases_q (rd n j) with ⟨E, g1, g2, g3, g4, g5, g6, g7, g8⟩ | ⟨g3, _⟩
  ·exact ⟨_, g7, fun e => TX_ne g1 g2 (tx_inj (b := []) e)⟩
  ·rw [h3.1] at g3
   cases g3
 ·exact ⟨_, _, h4, fun e => by cases e⟩
theorem flip_ne (n b : Nat) (h : n < 4294967296) (hb : b < 32) : ∃ m : Nat, xorB .u32 (n : Int) ((2 ^ b : Nat) : Int) = (m : Int) ∧ m < 4294967296 ∧ m ≠ n := by
 have h2 : 2 ^ b < 4294967296 := Nat.lt_of_lt_of_le (Nat.pow_lt_pow_right (by decide) hb) (by decide)
 have h3 : n ^^^ 2 ^ b < 4294967296 := Nat.xor_lt_two_pow (n := 32) h h2
 refine ⟨n ^^^ 2 ^ b, ?_, h3, fun e => ?_⟩
 ·unfold xorB
  rw [BitVec.toNat_xor, ofInt_nat n h, ofInt_nat _ h2, u32n h3]
 ·have h4 := congrArg (fun x => x.testBit b) e
  simp only [Nat.testBit_xor, Nat.testBit_two_pow_self] at h4
  cases hx : n.testBit b <;> rw [hx] at h4 <;> cases h4
theorem law02_IsaNear_law (x b : Int) (o : InR .u32 x) (o2 : InR .i64 b) : law02_IsaNear x b = some true := by
 obtain ⟨n, rfl, hn⟩ := InR.u32 o
 unfold law02_IsaNear
 rw [alive, Option.bind_some, if_neg (by decide)]
 by_cases hb : 0 ≤ b ∧ b ≤ 31
 ·rw [if_neg (by simp; omega)]
  obtain ⟨k, rfl⟩ : ∃ k : Nat, b = (k : Int) := ⟨b.toNat, by omega⟩
  have hk : k < 32 := by omega
  obtain ⟨m, hm, hm2, hne⟩ := flip_ne n k hn hk
  have hs : shlO .u32 1 (IntKind.wrap .u64 (k : Int)) = some ((2 ^ k : Nat) : Int) := by
   have h2 : 2 ^ k < 4294967296 := Nat.lt_of_lt_of_le (Nat.pow_lt_pow_right (by decide) hk) (by decide)
   have h3 : IntKind.wrap .u64 (k : Int) = (k : Int) := by
    simp [IntKind.wrap, IntKind.signed, IntKind.bits]
    omega
   rw [h3]
   have := shl_u (x := 1) (a := k) (by omega) (by omega)
   simpa using this
  obtain ⟨i, e, h1, h2⟩ := near hn
  obtain ⟨i', e', g1, g2⟩ := near hm2
  rw [h1, Option.bind_some, hs, Option.bind_some, hm, g1, Option.bind_some]
  have y1 : (if decide (e = 0) then (isa_Text i).bind fun x132 => some (decide (x132 = ByteArray.empty)) else some false) = some false := by
   by_cases he : e = 0
   ·obtain ⟨⟨t, h3, h4⟩, _⟩ := h2 he
    rw [if_pos (decide_eq_true he), h3, Option.bind_some, decide_eq_false h4]
   ·rw [if_neg (by simpa using he)]
  have y2 : (if decide (e' = 0) then (isa_Text i').bind fun x119 => some (decide (x119 = ByteArray.empty)) else some false) = some false := by
   by_cases he : e' = 0
   ·obtain ⟨⟨t, h3, h4⟩, _⟩ := g2 he
    rw [if_pos (decide_eq_true he), h3, Option.bind_some, decide_eq_false h4]
   ·rw [if_neg (by simpa using he)]
  show ((if decide (e = 0) then (isa_Text i).bind fun x132 => some (decide (x132 = ByteArray.empty)) else some false).bind _) = _
  rw [y1, Option.bind_some, if_neg Bool.false_ne_true]
  show (((if decide (e' = 0) then (isa_Text i').bind fun x119 => some (decide (x119 = ByteArray.empty)) else some false).bind _).bind _) = _
  rw [y2, Option.bind_some, Option.bind_some, if_neg Bool.false_ne_true]
  congr 1
  by_cases he : e = 0
  ·by_cases he' : e' = 0
   ·have key : i ≠ i' := fun hi => by
     subst hi
     have h5 := (h2 he).2.symm.trans (g2 he').2
     have h6 := congrArg Prod.fst (Option.some.inj h5)
     simp only at h6
     omega
    obtain ⟨po, pd, pa, pb, pi⟩ := i
    obtain ⟨qo, qd, qa, qb, qi⟩ := i'
    simp only [TInst.mk.injEq, ne_eq] at key
    simp only [he, he', ne_eq, not_true_eq_false, decide_false, Bool.false_or, Bool.and_true]
    simp only [← Bool.decide_and]
    rw [decide_eq_false key]
    rfl
   ·simp [he']
  ·simp [he]
 ·rw [if_pos (by simp; omega)]
end Go.Vm.G02
