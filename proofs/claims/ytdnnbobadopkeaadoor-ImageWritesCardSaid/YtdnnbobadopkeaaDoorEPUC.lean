/-
 Plain laws, one behind the other.
-/
import Derived.Test.YtdnnbobadopkeaaDoorEPUB
set_option linter.unusedSimpArgs false
set_option linter.unusedVariables false
namespace Go.Vm.G15w
open Go
theorem Bc {α β : Type} (a : α) (f : α → Option β) : (some a).bind f = f a := rfl
section
def nrd (b : Nat) : TNote := ⟨((b % 8 : Nat) : Int), ((b / 8 % 8 : Nat) : Int), decide (b / 64 % 2 = 1), decide (b / 128 = 1)⟩
theorem readNote_parts : ∀ b : Fin 256, shrO .u8 (b.val : Int) 3 = some ((b.val / 8 : Nat) : Int) ∧ w64 (andB .u8 (b.val : Int) 7) = ((b.val % 8 : Nat) : Int) ∧ w64 (andB .u8 ((b.val / 8 : Nat) : Int) 7) = ((b.val / 8 % 8 : Nat) : Int) ∧
  decide ((andB .u8 (b.val : Int) 64) ≠ 0) = decide (b.val / 64 % 2 = 1) ∧ decide ((andB .u8 (b.val : Int) 128) ≠ 0) = decide (b.val / 128 = 1) := by decide +kernel
theorem readNote_is {b : Nat} (hb : b < 256) : ∃ g, image_good (nrd b) = some g ∧ image_readNote (b : Int) = some (nrd b, g) := by
 obtain ⟨h1, h2, h3, h4, h5⟩ := readNote_parts ⟨b, hb⟩
 simp only at h1 h2 h3 h4 h5
 obtain ⟨g, hg, _⟩ := good_note (nrd b)
 refine ⟨g, hg, ?_⟩
 unfold image_readNote
 rw [h1, Bc, h2, h3, h4, h5]
 show (image_good (nrd b)).bind _ = _
 rw [hg]
 rfl
theorem nbt_nrd {b : Nat} (hb : b < 256) : nbt (nrd b) = (b : Int) := by
 have : ∀ b : Fin 256, nbt (nrd b.val) = (b.val : Int) := by decide +kernel
 exact this ⟨b, hb⟩
end
section
def cnd2 (f : Bool) (n : TNote) : Bool := ((!f) || ((decide (n.role = 2)) && ((decide (n.what < 1)) || (decide (5 < n.what))))) || ((decide (n.role ≠ 2)) && (((decide (n.what ≠ 0)) || n.volatile) || n.final))
theorem l2_fin (k : Int) (n : TNote) (xs : List Int) (f : Bool) : ref15_Good_l2 k n xs f (xs.length : Int) = if cnd2 f n then some (.inr false) else some (.inl (w64 (k + 1))) := by
 unfold ref15_Good_l2
 rw [loopO_eq]
 show (ref15_Good_l2b k n xs f (xs.length : Int)).bind _ = _
 unfold ref15_Good_l2b
 rw [if_neg (by simp)]
 show ((if cnd2 f n then (some false).map Sum.inr else some (Sum.inl (w64 (k + 1)))).map Sum.inr).bind _ = _
 cases cnd2 f n <;> rfl
theorem l2_1 (k : Int) (n : TNote) (a : Int) : ref15_Good_k1 k n [a] = if cnd2 (decide (a = n.role)) n then some (.inr false) else some (.inl (w64 (k + 1))) := by
 have h : ref15_Good_l2 k n [a] false 0 = ref15_Good_l2 k n [a] (false || decide (a = n.role)) 1 := loop_step rfl
 unfold ref15_Good_k1
 rw [h, Bool.false_or]
 exact l2_fin k n [a] _
theorem l2_3 (k : Int) (n : TNote) (a b c : Int) : ref15_Good_k1 k n [a, b, c] = if cnd2 (decide (a = n.role) || decide (b = n.role) || decide (c = n.role)) n then some (.inr false) else some (.inl (w64 (k + 1))) := by
 have h : ref15_Good_l2 k n [a, b, c] false 0 = ref15_Good_l2 k n [a, b, c] (false || decide (a = n.role)) 1 := loop_step rfl
 have h2 : ref15_Good_l2 k n [a, b, c] (false || decide (a = n.role)) 1 = ref15_Good_l2 k n [a, b, c] ((false || decide (a = n.role)) || decide (b = n.role)) 2 := loop_step rfl
 have h3 : ref15_Good_l2 k n [a, b, c] ((false || decide (a = n.role)) || decide (b = n.role)) 2 = ref15_Good_l2 k n [a, b, c] (((false || decide (a = n.role)) || decide (b = n.role)) || decide (c = n.role)) 3 := loop_step rfl
 unfold ref15_Good_k1
 rw [h, h2, h3, Bool.false_or]
 exact l2_fin k n [a, b, c] _
def nf (q : TInst) (n : TNote) : Bool :=
 if q.op = 1 then !cnd2 (decide (1 = n.role) || decide (2 = n.role) || decide (5 = n.role)) n
 else if q.op = 2 then !cnd2 (decide (1 = n.role) || decide (2 = n.role) || decide (6 = n.role)) n
 else if q.op = 16 then !cnd2 (decide (3 = n.role)) n
 else if q.op = 17 then !cnd2 (decide (4 = n.role)) n
 else !cnd2 (decide (0 = n.role)) n
theorem fin_ {r w : Int} {v fl : Bool} {X Y : Bool} (hXY : X = Y) (hX : X = true → 0 ≤ r ∧ r ≤ 6) :
  ((decide (0 ≤ r ∧ r ≤ 6) && (if r = 2 then decide (1 ≤ w ∧ w ≤ 5) else (decide (w = 0) && (!v && !fl)))) && X) = !(((!Y) || ((decide (r = 2)) && ((decide (w < 1)) || (decide (5 < w))))) || ((decide (r ≠ 2)) && (((decide (w ≠ 0)) || v) || fl))) := by
 subst hXY
 cases X with
 | false => simp
 | true =>
  have hr : decide (0 ≤ r ∧ r ≤ 6) = true := decide_eq_true (hX rfl)
  rw [hr]
  by_cases h2 : r = 2
  ·rw [if_pos h2, decide_eq_true h2]
   simp [h2]
   rw [Bool.eq_iff_iff]
   simp
  ·rw [if_neg h2, decide_eq_false h2]
   simp [h2]
   cases v <;> cases fl <;> simp
theorem nf_is (q : TInst) (n : TNote) : ∃ g f, image_good n = some g ∧ image_fits q n = some f ∧ (g && f) = nf q n := by
 obtain ⟨g, hg, _⟩ := good_note n
 obtain ⟨f, hf⟩ := fits_ok q n
 refine ⟨g, f, hg, hf, ?_⟩
 have hg2 : g = (decide (0 ≤ n.role ∧ n.role ≤ 6) && (if n.role = 2 then decide (1 ≤ n.what ∧ n.what ≤ 5) else (decide (n.what = 0) && (!n.volatile && !n.final)))) := by
  rw [← Option.some.injEq, ← hg]
  unfold image_good
  by_cases h1 : n.role < 0 ∨ 6 < n.role
  ·have hr : decide (0 ≤ n.role ∧ n.role ≤ 6) = false := decide_eq_false (by omega)
   rw [if_pos (by simp; exact h1), hr]; rfl
  ·have hr : decide (0 ≤ n.role ∧ n.role ≤ 6) = true := decide_eq_true (by omega)
   rw [if_neg (by simp; omega), hr, Bool.true_and]
   by_cases h2 : n.role = 2
   ·rw [if_pos (by simp; exact h2), if_pos h2, Bool.decide_and]
   ·rw [if_neg (by simp; exact h2), if_neg h2]
    cases n.volatile <;> cases n.final <;> simp
 have hf2 : f = if q.op = 1 then (decide (n.role = 1) || decide (n.role = 2) || decide (n.role = 5)) else if q.op = 2 then (decide (n.role = 1) || decide (n.role = 2) || decide (n.role = 6)) else if q.op = 16 then decide (n.role = 3) else if q.op = 17 then decide (n.role = 4) else decide (n.role = 0) := by
  rw [← Option.some.injEq, ← hf]
  unfold image_fits
  simp only [decide_eq_true_eq]
  split
  ·rfl
  ·split
   ·rfl
   ·split
    ·rfl
    ·split <;> rfl
 rw [hg2, hf2]
 unfold nf cnd2
 obtain ⟨r, w, v, fl⟩ := n
 simp only
 have c : ∀ a : Int, decide (r = a) = decide (a = r) := fun a => by rw [decide_eq_decide]; exact eq_comm
 by_cases o1 : q.op = 1
 ·rw [if_pos o1, if_pos o1]
  refine fin_ ?_ ?_
  ·rw [c 1, c 2, c 5]
  ·intro h; simp at h; omega
 rw [if_neg o1, if_neg o1]
 by_cases o2 : q.op = 2
 ·rw [if_pos o2, if_pos o2]
  refine fin_ ?_ ?_
  ·rw [c 1, c 2, c 6]
  ·intro h; simp at h; omega
 rw [if_neg o2, if_neg o2]
 by_cases o3 : q.op = 16
 ·rw [if_pos o3, if_pos o3]
  refine fin_ (c 3) ?_
  intro h; simp at h; omega
 rw [if_neg o3, if_neg o3]
 by_cases o4 : q.op = 17
 ·rw [if_pos o4, if_pos o4]
  refine fin_ (c 4) ?_
  intro h; simp at h; omega
 rw [if_neg o4, if_neg o4]
 refine fin_ (c 0) ?_
 intro h; simp at h; omega
end
section
theorem loop_same {ρ : Type} {B1 B2 : Int → Option (Int ⊕ ρ)} (n : Nat) (h : ∀ k : Nat, k ≤ n → B1 k = B2 k) (hs : ∀ k : Nat, k < n → ∀ s, B1 k = some (.inl s) → s = ((k + 1 : Nat) : Int)) (he : ∀ s, B1 n ≠ some (.inl s)) :
  ∀ d k : Nat, k + d = n → loopO B1 k = loopO B2 k := by
 intro d
 induction d with
 | zero =>
  intro k hk
  have : k = n := by omega
  subst this
  rw [loopO_eq, loopO_eq B2, ← h k (Nat.le_refl _)]
  cases hb : B1 k with
  | none => rfl
  | some r => cases r with
   | inl s => exact absurd hb (he s)
   | inr r => rfl
 | succ d ih =>
  intro k hk
  rw [loopO_eq, loopO_eq B2, ← h k (by omega)]
  cases hb : B1 k with
  | none => rfl
  | some r => cases r with
   | inl s =>
    have := hs k (by omega) s hb
    subst this
    exact ih (k + 1) (by omega)
   | inr r => rfl
def outB (i : TImage) (k : Nat) (q : TInst) : Bool := (((decide (q.op = 11)) || (decide (q.op = 12))) || (decide (q.op = 10))) && ((decide ((w64 ((k : Int) + q.imm)) < 0)) || (decide ((i.code.length : Int) ≤ (w64 ((k : Int) + q.imm)))))
theorem both_step (i : TImage) (o : OK_TImage i) (hn : i.notes.length = i.code.length) (hc : i.code.length ≤ 8000) (k : Nat) (hk : k < i.code.length) :
  ∃ b : Bool, image_Good_l1b i k = (if b then some (.inl ((k + 1 : Nat) : Int)) else some (.inr false)) ∧ ref15_Good_l1b i k = (if b then some (.inl ((k + 1 : Nat) : Int)) else some (.inr false)) := by
 have hk2 : k < i.notes.length := by omega
 obtain ⟨w, hw, hw2⟩ := u32n' (o.1.1 _ (List.getElem_mem hk))
 have e1 : w64 ((k : Int) + 1) = ((k + 1 : Nat) : Int) := w64_succ (by omega)
 unfold image_Good_l1b image_Good_k1 ref15_Good_l1b
 rw [if_pos (decide_eq_true (by omega)), if_pos (decide_eq_true (by omega)), ix_nat, List.getElem?_eq_getElem hk, Bc, Bc, hw, ix_nat, List.getElem?_eq_getElem hk2, e1]
 rcases decode hw2 with ⟨j, h1, h2, h3, h4, h5⟩ | ⟨_, h4, h5⟩
 ·rw [h4, h5, Bc, Bc]
  simp only [Bc]
  generalize rd w j = q
  obtain ⟨g, f, hg, hf, hgf⟩ := nf_is q i.notes[k]
  rw [hg, hf]
  simp only [Bc]
  have eo : (((decide (10 ≤ q.op)) && (decide (q.op ≤ 12))) && ((decide ((w64 ((k : Int) + q.imm)) < 0)) || (decide ((i.code.length : Int) ≤ (w64 ((k : Int) + q.imm)))))) = outB i k q := by
   unfold outB
   congr 1
   rw [Bool.eq_iff_iff]
   simp
   omega
  have eo2 : ((((decide (q.op = 11)) || (decide (q.op = 12))) || (decide (q.op = 10))) && ((decide ((w64 ((k : Int) + q.imm)) < 0)) || (decide ((i.code.length : Int) ≤ (w64 ((k : Int) + q.imm)))))) = outB i k q := rfl
  rw [eo, eo2]
  have er : (if decide (q.op = 1) then ref15_Good_k1 (k : Int) i.notes[k] [1, 2, 5] else if decide (q.op = 2) then ref15_Good_k1 (k : Int) i.notes[k] [1, 2, 6] else if decide (q.op = 16) then ref15_Good_k1 (k : Int) i.notes[k] [3] else if decide (q.op = 17) then ref15_Good_k1 (k : Int) i.notes[k] [4] else ref15_Good_k1 (k : Int) i.notes[k] [0]) = if nf q i.notes[k] then some (.inl ((k + 1 : Nat) : Int)) else some (.inr false) := by
   unfold nf
   simp only [decide_eq_true_eq, l2_1, l2_3, e1]
   have sw : ∀ c : Bool, (if c = true then (some (.inr false) : Option (Int ⊕ Bool)) else some (.inl ((k + 1 : Nat) : Int))) = if (!c) = true then some (.inl ((k + 1 : Nat) : Int)) else some (.inr false) := by intro c; cases c <;> rfl
   by_cases o1 : q.op = 1
   ·rw [if_pos o1, if_pos o1]; exact sw _
   rw [if_neg o1, if_neg o1]
   by_cases o2 : q.op = 2
   ·rw [if_pos o2, if_pos o2]; exact sw _
   rw [if_neg o2, if_neg o2]
   by_cases o3 : q.op = 16
   ·rw [if_pos o3, if_pos o3]; exact sw _
   rw [if_neg o3, if_neg o3]
   by_cases o4 : q.op = 17
   ·rw [if_pos o4, if_pos o4]; exact sw _
   rw [if_neg o4, if_neg o4]
   exact sw _
  rw [er, ← hgf]
  refine ⟨(g && f) && !outB i k q, ?_, ?_⟩
  ·cases g <;> cases f <;> cases outB i k q <;> rfl
  ·cases g <;> cases f <;> cases outB i k q <;> rfl
 ·rw [h4, h5, Bc, Bc]
  exact ⟨false, rfl, rfl⟩
theorem good_same (i : TImage) (o : OK_TImage i) : ref15_Good i = image_Good i := by
 unfold ref15_Good image_Good
 have e : ((((decide ((i.code.length : Int) < 1)) || (decide (8000 < (i.code.length : Int)))) || (decide ((i.notes.length : Int) ≠ (i.code.length : Int)))) || (decide (8 < (i.threads.length : Int)))) = ((((decide ((i.code.length : Int) = 0)) || (decide (8000 < (i.code.length : Int)))) || (decide ((i.notes.length : Int) ≠ (i.code.length : Int)))) || (decide (8 < (i.threads.length : Int)))) := by
  have : decide ((i.code.length : Int) < 1) = decide ((i.code.length : Int) = 0) := by rw [decide_eq_decide]; omega
  rw [this]
 rw [e]
 cases hc : ((((decide ((i.code.length : Int) = 0)) || (decide (8000 < (i.code.length : Int)))) || (decide ((i.notes.length : Int) ≠ (i.code.length : Int)))) || (decide (8 < (i.threads.length : Int)))) with
 | true => rfl
 | false =>
  rw [if_neg (by decide), if_neg (by decide)]
  simp only [Bool.or_eq_false_iff, decide_eq_false_iff_not] at hc
  have hn : i.notes.length = i.code.length := by omega
  unfold ref15_Good_l1 image_Good_l1
  refine loop_same i.code.length (fun k hk => ?_) (fun k hk s hs => ?_) (fun s hs => ?_) i.code.length 0 (by omega)
  ·by_cases hlt : k < i.code.length
   ·obtain ⟨b, h1, h2⟩ := both_step i o hn (by omega) k hlt
    exact h2.trans h1.symm
   ·have : k = i.code.length := by omega
    subst this
    show ref15_Good_l1b i (i.code.length : Int) = image_Good_l1b i (i.code.length : Int)
    unfold ref15_Good_l1b image_Good_l1b
    rw [if_neg (by simp), if_neg (by simp)]
    rfl
  ·obtain ⟨b, _, h2⟩ := both_step i o hn (by omega) k hk
   have hs : ref15_Good_l1b i (k : Int) = some (.inl s) := hs
   rw [h2] at hs
   cases b with
   | true => injection hs with hs; injection hs with hs; exact hs.symm
   | false => cases hs
  ·have hs : ref15_Good_l1b i (i.code.length : Int) = some (.inl s) := hs
   unfold ref15_Good_l1b at hs
   rw [if_neg (by simp)] at hs
   cases h : ref15_Good_l3 i 0 <;> rw [h] at hs <;> cases hs
end
section
def bl (s : ByteArray) : List Nat := s.data.toList.map UInt8.toNat
theorem bl_len (s : ByteArray) : (bl s).length = s.size := by unfold bl; rw [List.length_map]; rfl
theorem bl_lt (s : ByteArray) : ∀ x ∈ bl s, x < 256 := by
 intro x hx
 obtain ⟨b, _, rfl⟩ := List.mem_map.1 hx
 exact b.toNat_lt
theorem bl_inj {s t : ByteArray} (h : bl s = bl t) : s = t := by
 obtain ⟨⟨s⟩⟩ := s
 obtain ⟨⟨t⟩⟩ := t
 have : s = t := by
  unfold bl at h
  simp only at h
  exact List.map_inj_right (fun a b e => UInt8.toNat_inj.1 e) |>.1 h
 rw [this]
theorem ixS_is (s : ByteArray) (k : Nat) : ixS s (k : Int) = ((bl s)[k]?).map (fun b : Nat => (b : Int)) := by
 unfold ixS bl
 rw [if_pos (by omega), Int.toNat_natCast, List.getElem?_map, Option.map_map]
 have : s[k]? = s.data.toList[k]? := by
  rw [Array.getElem?_toList]
  rfl
 rw [this]
 rfl
theorem bl_ext (s : ByteArray) (a b : Nat) : bl (s.extract a b) = ((bl s).take b).drop a := by
 unfold bl
 rw [ByteArray.data_extract, Array.toList_extract, List.extract_eq_take_drop, List.map_take, List.map_drop, ← List.drop_take]
theorem strSub_is (s : ByteArray) (a b : Nat) (h1 : a ≤ b) (h2 : b ≤ s.size) : ∃ t, strSub s (a : Int) (b : Int) = some t ∧ bl t = ((bl s).take b).drop a := by
 refine ⟨s.extract a b, ?_, bl_ext s a b⟩
 unfold strSub
 rw [if_pos ⟨by omega, by omega, by omega⟩, Int.toNat_natCast, Int.toNat_natCast]
theorem ofInt64_nat (x : Nat) (h : x < 9223372036854775808) : (BitVec.ofInt (IntKind.bits .i64) (x : Int)).toNat = x := by
 show (BitVec.ofInt 64 (x : Int)).toNat = x
 rw [BitVec.toNat_ofInt]
 omega
theorem or64 (a b m : Nat) (ha : a % 2 ^ m = 0) (hb : b < 2 ^ m) (hs : a + b < 9223372036854775808) : orB .i64 (a : Int) (b : Int) = ((a + b : Nat) : Int) := by
 unfold orB
 rw [BitVec.toNat_or, ofInt64_nat a (by omega), ofInt64_nat b (by omega)]
 have h1 : a = 2 ^ m * (a / 2 ^ m) := by
  have := Nat.div_add_mod a (2 ^ m)
  omega
 have h2 : a ||| b = a + b := by
  rw [h1]
  exact (Nat.two_pow_add_eq_or_of_lt hb _).symm
 rw [h2]
 exact w64_id (by omega) (by omega)
def num4 (a b c d : Nat) : Nat := a * 16777216 + b * 65536 + c * 256 + d
theorem shl64 (x n m : Nat) (hm : m = 2 ^ n) (hn : n ≤ 64) (h : x * m < 9223372036854775808) : shlO .i64 (x : Int) (n : Int) = some ((x * m : Nat) : Int) := by
 unfold shlO
 rw [if_pos (by omega), Int.toNat_natCast, show min n (IntKind.bits .i64) = n from Nat.min_eq_left hn]
 have e : (x : Int) * 2 ^ n = ((x * m : Nat) : Int) := by rw [Int.natCast_mul, hm, Int.natCast_pow]; rfl
 rw [e]
 exact congrArg some (w64_id (by omega) (by omega))
theorem number_is (s : ByteArray) {a b c d : Nat} {r : List Nat} (h : bl s = a :: b :: c :: d :: r) : image_number s = some ((num4 a b c d : Nat) : Int) := by
 have hlt := bl_lt s
 rw [h] at hlt
 have ha := hlt a (by simp)
 have hb := hlt b (by simp)
 have hc := hlt c (by simp)
 have hd := hlt d (by simp)
 have i0 : ixS s 0 = some (a : Int) := by rw [show (0 : Int) = ((0 : Nat) : Int) from rfl, ixS_is, h]; rfl
 have i1 : ixS s 1 = some (b : Int) := by rw [show (1 : Int) = ((1 : Nat) : Int) from rfl, ixS_is, h]; rfl
 have i2 : ixS s 2 = some (c : Int) := by rw [show (2 : Int) = ((2 : Nat) : Int) from rfl, ixS_is, h]; rfl
 have i3 : ixS s 3 = some (d : Int) := by rw [show (3 : Int) = ((3 : Nat) : Int) from rfl, ixS_is, h]; rfl
 unfold image_number
 rw [i0, Bc, w64_id (x := (a : Int)) (by omega) (by omega), show shlO .i64 (a : Int) 24 = _ from shl64 a 24 16777216 (by decide) (by decide) (by omega), Bc,
  i1, Bc, w64_id (x := (b : Int)) (by omega) (by omega), show shlO .i64 (b : Int) 16 = _ from shl64 b 16 65536 (by decide) (by decide) (by omega), Bc,
  i2, Bc, w64_id (x := (c : Int)) (by omega) (by omega), show shlO .i64 (c : Int) 8 = _ from shl64 c 8 256 (by decide) (by decide) (by omega), Bc,
  i3, Bc, w64_id (x := (d : Int)) (by omega) (by omega),
  or64 _ _ 24 (by omega) (by omega) (by omega), or64 _ _ 16 (by omega) (by omega) (by omega), or64 _ _ 8 (by omega) (by omega) (by omega)]
 rfl
theorem fr_num4 {a b c d : Nat} (ha : a < 256) (hb : b < 256) (hc : c < 256) (hd : d < 256) : fr (num4 a b c d) = [(a : Int), (b : Int), (c : Int), (d : Int)] := by
 unfold fr num4
 have h1 : (a * 16777216 + b * 65536 + c * 256 + d) / 16777216 = a := by omega
 have h2 : (a * 16777216 + b * 65536 + c * 256 + d) / 65536 % 256 = b := by omega
 have h3 : (a * 16777216 + b * 65536 + c * 256 + d) / 256 % 256 = c := by omega
 have h4 : (a * 16777216 + b * 65536 + c * 256 + d) % 256 = d := by omega
 rw [h1, h2, h3, h4]
end
section
theorem toB_app (xs ys : List Int) : toB xs ++ toB ys = toB (xs ++ ys) := by
 unfold toB
 apply ByteArray.ext
 rw [ByteArray.data_append]
 simp
theorem toB_size (xs : List Int) : (toB xs).size = xs.length := by
 unfold toB
 show Array.size _ = _
 simp
theorem cat_is (xs ys : List Int) (h : xs.length + ys.length ≤ 9223372036854775807) : catO (toB xs) (toB ys) = some (toB (xs ++ ys)) := by
 unfold catO
 rw [toB_size, toB_size, if_pos h, toB_app]
theorem strO_is (xs : List Int) (h : ∀ x ∈ xs, 0 ≤ x ∧ x < 256) : strO xs = some (toB xs) := by
 unfold strO
 rw [if_pos (by
  rw [List.all_eq_true]
  intro x hx
  simp [h x hx])]
 rfl
theorem rfour_is {n : Nat} (h : n < 4294967296) : ref15_four (n : Int) = some (toB (fr n)) := by
 have q : ∀ m : Nat, m ≠ 0 → quoO .i64 (n : Int) (m : Int) = some ((n / m : Nat) : Int) := fun m hm => by
  unfold quoO
  have hle : n / m ≤ n := Nat.div_le_self _ _
  rw [if_neg (by omega), Int.tdiv_eq_ediv_of_nonneg (Int.natCast_nonneg _), show (n : Int) / (m : Int) = ((n / m : Nat) : Int) from rfl]
  generalize n / m = v at hle
  exact congrArg some (w64_id (by omega) (by omega))
 have r : ∀ m : Nat, remO .i64 (m : Int) 256 = some ((m % 256 : Nat) : Int) := fun m => by
  unfold remO
  rw [if_neg (by decide), Int.tmod_eq_emod_of_nonneg (Int.natCast_nonneg _)]
  rfl
 have w : ∀ m : Nat, IntKind.wrap .u8 ((m % 256 : Nat) : Int) = ((m % 256 : Nat) : Int) := fun m => by rw [u8w]; omega
 unfold ref15_four
 rw [show quoO .i64 (n : Int) 16777216 = _ from q 16777216 (by decide), Bc, r, Bc, show quoO .i64 (n : Int) 65536 = _ from q 65536 (by decide), Bc, r, Bc,
  show quoO .i64 (n : Int) 256 = _ from q 256 (by decide), Bc, r, Bc, r, Bc, w, w, w, w]
 have e : fr n = [((n / 16777216 % 256 : Nat) : Int), ((n / 65536 % 256 : Nat) : Int), ((n / 256 % 256 : Nat) : Int), ((n % 256 : Nat) : Int)] := by
  unfold fr
  have : n / 16777216 = n / 16777216 % 256 := by omega
  rw [← this]
 rw [← e, strO_is _ (fr_byte h), Bc]
theorem rnote (x79 : ByteArray) (k w : Nat) (n : TNote) (hn : NG' n) (hw : w < 4294967296) (xs : List Int) (hx : x79 = toB xs) (hl : xs.length ≤ 100000) (hk : k < 10000) :
  (if n.volatile then ref15_Bytes_k1 x79 (k : Int) (w : Int) n (w64 ((w64 (n.role + (w64 (8 * n.what)))) + 64)) else ref15_Bytes_k1 x79 (k : Int) (w : Int) n (w64 (n.role + (w64 (8 * n.what))))) = some (.inl (toB (xs ++ (fr w ++ [nbt n])), ((k + 1 : Nat) : Int))) := by
 obtain ⟨h1, h2, h3, h4⟩ := hn
 have b := nbt_byte ⟨h1, h2, h3, h4⟩
 subst hx
 have e0 : w64 (8 * n.what) = 8 * n.what := w64_id (by omega) (by omega)
 have e1 : w64 (n.role + 8 * n.what) = n.role + 8 * n.what := w64_id (by omega) (by omega)
 have e2 : w64 (n.role + 8 * n.what + 64) = n.role + 8 * n.what + 64 := w64_id (by omega) (by omega)
 have e3 : w64 (n.role + 8 * n.what + 128) = n.role + 8 * n.what + 128 := w64_id (by omega) (by omega)
 have e4 : w64 (n.role + 8 * n.what + 64 + 128) = n.role + 8 * n.what + 64 + 128 := w64_id (by omega) (by omega)
 have k2 : ∀ x : Int, x = nbt n → ref15_Bytes_k2 (toB xs) (k : Int) (w : Int) x = some (.inl (toB (xs ++ (fr w ++ [nbt n])), ((k + 1 : Nat) : Int))) := by
  intro x hx
  unfold ref15_Bytes_k2
  have u : IntKind.wrap .u8 x = x := by rw [u8w]; omega
  rw [w64_id (x := (w : Int)) (by omega) (by omega), rfour_is hw, Bc, cat_is _ _ (by rw [fr_len]; omega), Bc, u, strO_is [x] (fun y hy => by rw [List.mem_singleton.1 hy]; omega), Bc, cat_is _ _ (by rw [List.length_append, fr_len, List.length_singleton]; omega), Bc, hx, List.append_assoc, w64_succ (by omega)]
 rw [e0, e1, e2]
 unfold ref15_Bytes_k1
 cases hv : n.volatile <;> cases hf : n.final
 ·rw [if_neg (by decide), if_neg (by decide)]
  exact k2 _ (by unfold nbt; rw [hv, hf]; simp)
 ·rw [if_neg (by decide), if_pos rfl, e3]
  exact k2 _ (by unfold nbt; rw [hv, hf]; simp)
 ·rw [if_pos rfl, if_neg (by decide)]
  exact k2 _ (by unfold nbt; rw [hv, hf]; simp)
 ·rw [if_pos rfl, if_pos rfl, e4]
  exact k2 _ (by unfold nbt; rw [hv, hf]; simp)
theorem bytes2 (i : TImage) (g : GF i) (o : OK_TImage i) (xs0 : List Int) (h0 : xs0.length ≤ 100) : ref15_Bytes_l2 i (toB xs0) 0 = some (toB (xs0 ++ (i.code.zip i.notes).flatMap cf)) := by
 have hz : (i.code.zip i.notes).length = i.code.length := by rw [List.length_zip, g.nl, Nat.min_self]
 have c2 := g.c2
 have hn := g.nl
 have hl5 : ∀ p, (cf p).length = 5 := fun p => rfl
 unfold ref15_Bytes_l2
 refine Ok.some_of (Ok.loop (fun k s => s = (toB (xs0 ++ ((i.code.zip i.notes).take k).flatMap cf), (k : Int))) i.code.length (fun k s hk hs => ?_) (fun s hs => ?_) (by simp))
 ·subst hs
  have hk2 : k < i.notes.length := by omega
  show Ok (ref15_Bytes_l2b i (toB (xs0 ++ ((i.code.zip i.notes).take k).flatMap cf)) (k : Int)) _
  unfold ref15_Bytes_l2b
  obtain ⟨w, hw, hw2⟩ := u32n' (o.1.1 _ (List.getElem_mem hk))
  have hlen : (((i.code.zip i.notes).take k).flatMap cf).length ≤ 40000 := by
   rw [flat_len hl5, List.length_take, hz]; omega
  rw [if_pos (decide_eq_true (by omega)), ix_nat, List.getElem?_eq_getElem hk, Bc, hw, ix_nat, List.getElem?_eq_getElem hk2, Bc, rnote _ k w _ (g.nt _ (List.getElem_mem hk2)) hw2 _ rfl (by rw [List.length_append]; omega) (by omega)]
  refine ⟨_, rfl, ?_⟩
  show (_, _) = (_, _)
  rw [take_flat (by omega), List.getElem_zip]
  unfold cf
  rw [hw, Int.toNat_natCast, List.append_assoc]
 ·subst hs
  show Ok (ref15_Bytes_l2b i (toB (xs0 ++ ((i.code.zip i.notes).take i.code.length).flatMap cf)) (i.code.length : Int)) _
  unfold ref15_Bytes_l2b
  rw [if_neg (by simp), List.take_of_length_le (by omega)]
  exact ⟨_, rfl, rfl⟩
theorem bytes_is (i : TImage) (g : GF i) (o : OK_TImage i) : ref15_Bytes i = some (toB (EncB i)) := by
 have t8 := g.t8
 have c2 := g.c2
 have e2 : IntKind.wrap .u8 (i.threads.length : Int) = (i.threads.length : Int) := by rw [u8w]; omega
 unfold ref15_Bytes
 rw [e2, strO_is [(i.threads.length : Int)] (fun y hy => by rw [List.mem_singleton.1 hy]; omega), Bc, show str1 = toB [84, 66, 76, 49] from rfl, cat_is _ _ (by simp), Bc, rfour_is (by omega), Bc, cat_is _ _ (by simp [fr_len]), Bc]
 obtain ⟨base, hbase⟩ : ∃ b, b = [84, 66, 76, 49] ++ [(i.threads.length : Int)] ++ fr i.code.length := ⟨_, rfl⟩
 have hbl : base.length = 9 := by rw [hbase]; rfl
 have hl4 : ∀ t, (tf t).length = 4 := fun t => rfl
 rw [← hbase]
 unfold ref15_Bytes_l1
 refine Ok.some_of (Ok.loop (fun k s => s = (toB (base ++ (i.threads.take k).flatMap tf), (k : Int))) i.threads.length (fun k s hk hs => ?_) (fun s hs => ?_) (by simp))
 ·subst hs
  show Ok (ref15_Bytes_l1b i (toB (base ++ (i.threads.take k).flatMap tf)) (k : Int)) _
  unfold ref15_Bytes_l1b
  have ht := g.th _ (List.getElem_mem hk)
  obtain ⟨n, hn⟩ : ∃ n : Nat, i.threads[k] = (n : Int) := ⟨i.threads[k].toNat, by omega⟩
  rw [if_pos (decide_eq_true (by omega)), ix_nat, List.getElem?_eq_getElem hk, Bc, hn, rfour_is (by omega), Bc, cat_is _ _ (by rw [List.length_append, fr_len, flat_len hl4, List.length_take]; omega), Bc]
  refine ⟨_, rfl, ?_⟩
  show (_, _) = (_, _)
  rw [take_flat hk, w64_succ (by omega), List.append_assoc]
  unfold tf
  rw [hn, Int.toNat_natCast]
 ·subst hs
  show Ok (ref15_Bytes_l1b i (toB (base ++ (i.threads.take i.threads.length).flatMap tf)) (i.threads.length : Int)) _
  unfold ref15_Bytes_l1b
  rw [if_neg (by simp), List.take_length]
  refine .map ?_
  rw [bytes2 i g o _ (by rw [List.length_append, flat_len hl4]; omega)]
  refine ⟨_, rfl, ?_⟩
  show _ = _
  unfold EncB
  rw [hbase]
end
section
def nm (B : List Nat) (k : Nat) : Nat := num4 (B.getD k 0) (B.getD (k + 1) 0) (B.getD (k + 2) 0) (B.getD (k + 3) 0)
theorem getD_at {B : List Nat} {k : Nat} (h : k < B.length) : B[k]? = some (B.getD k 0) := by
 rw [List.getElem?_eq_getElem h, List.getD_eq_getElem?_getD, List.getElem?_eq_getElem h]
 rfl
theorem drop1 {B : List Nat} {k : Nat} (h : k < B.length) : B.drop k = B.getD k 0 :: B.drop (k + 1) := by
 rw [List.drop_eq_getElem_cons h, List.getD_eq_getElem?_getD, List.getElem?_eq_getElem h]
 rfl
theorem drop4 {B : List Nat} {k : Nat} (h : k + 4 ≤ B.length) : B.drop k = B.getD k 0 :: B.getD (k + 1) 0 :: B.getD (k + 2) 0 :: B.getD (k + 3) 0 :: B.drop (k + 4) := by
 rw [drop1 (by omega), drop1 (k := k + 1) (by omega), drop1 (k := k + 1 + 1) (by omega), drop1 (k := k + 1 + 1 + 1) (by omega)]
theorem number_at {s : ByteArray} {B : List Nat} {k : Nat} (hs : bl s = B.drop k) (h : k + 4 ≤ B.length) : image_number s = some ((nm B k : Nat) : Int) :=
 number_is s (hs.trans (drop4 h))
theorem sub_at {s : ByteArray} {B : List Nat} {k m : Nat} (hs : bl s = B.drop k) (h : k + m ≤ B.length) : ∃ t, strSub s (m : Int) (s.size : Int) = some t ∧ bl t = B.drop (k + m) := by
 have hl : s.size = B.length - k := by rw [← bl_len, hs, List.length_drop]
 obtain ⟨t, h1, h2⟩ := strSub_is s m s.size (by omega) (Nat.le_refl _)
 refine ⟨t, h1, ?_⟩
 rw [h2, List.take_of_length_le (by rw [bl_len]; exact Nat.le_refl _), hs, List.drop_drop]
def TH (B : List Nat) (t : Nat) : List Int := tb t fun k => ((nm B (9 + 4 * k) : Nat) : Int)
theorem dec_threads (B : List Nat) (t : Nat) (ht : t < 256) (hB : 9 + 4 * t ≤ B.length) {s0 : ByteArray} (h0 : bl s0 = B.drop 9) {P : TImage × Int → Prop}
  (fin : ∀ s : ByteArray, bl s = B.drop (9 + 4 * t) → Ok (image_Decode_l2 (TH B t) s [] []) P) : Ok (image_Decode_l1 s0 (t : Int) []) P := by
 unfold image_Decode_l1
 refine Ok.loop (fun k s => bl s.1 = B.drop (9 + 4 * k) ∧ s.2.1 = ((t - k : Nat) : Int) ∧ s.2.2 = TH B k) t (fun k s hk hs => ?_) (fun s hs => ?_) ⟨h0, rfl, rfl⟩
 ·obtain ⟨s, c, l⟩ := s
  obtain ⟨h1, h2, h3⟩ := hs
  simp only at h1 h2 h3
  subst h2 h3
  show Ok (image_Decode_l1b s ((t - k : Nat) : Int) (TH B k)) _
  unfold image_Decode_l1b
  obtain ⟨u, h4, h5⟩ := sub_at h1 (m := 4) (by omega)
  rw [if_pos (decide_eq_true (by omega)), number_at h1 (by omega), Bc, ap_some (by unfold TH; rw [tb_len]; simp; omega), Bc, show strSub s 4 (s.size : Int) = some u from h4, Bc]
  refine ⟨_, rfl, ?_, ?_, ?_⟩
  ·show bl u = _
   rw [h5]
   congr 1
  ·show w64 (((t - k : Nat) : Int) - 1) = _
   rw [w64_id (by omega) (by omega)]
   omega
  ·show TH B k ++ [((nm B (9 + 4 * k) : Nat) : Int)] = TH B (k + 1)
   unfold TH
   rw [tb_succ]
 ·obtain ⟨s, c, l⟩ := s
  obtain ⟨h1, h2, h3⟩ := hs
  simp only at h1 h2 h3
  subst h2 h3
  show Ok (image_Decode_l1b s ((t - t : Nat) : Int) (TH B t)) _
  unfold image_Decode_l1b
  rw [if_neg (by simp)]
  exact .map (fin s h1)
end
section
theorem getD_lt {s : ByteArray} (k : Nat) : (bl s).getD k 0 < 256 := by
 rw [List.getD_eq_getElem?_getD]
 cases h : (bl s)[k]? with
 | none => decide
 | some x => exact bl_lt s x (List.mem_of_getElem? h)
theorem nm_lt {s : ByteArray} (k : Nat) : nm (bl s) k < 4294967296 := by
 have h0 := getD_lt (s := s) k
 have h1 := getD_lt (s := s) (k + 1)
 have h2 := getD_lt (s := s) (k + 2)
 have h3 := getD_lt (s := s) (k + 3)
 unfold nm num4
 omega
def CW (B : List Nat) (b m : Nat) : List Int := tb m fun k => ((nm B (b + 5 * k) : Nat) : Int)
def NT (B : List Nat) (b m : Nat) : List TNote := tb m fun k => nrd (B.getD (b + 5 * k + 4) 0)
theorem dec_words (s00 : ByteArray) (T : List Int) (b n : Nat) (hn : n ≤ 8000) (hB : (bl s00).length = b + 5 * n) {s0 : ByteArray} (h0 : bl s0 = (bl s00).drop b) {P : TImage × Int → Prop}
  (bad : (∃ k, k < n ∧ image_good (nrd ((bl s00).getD (b + 5 * k + 4) 0)) = some false) → P (⟨[], [], []⟩, 4))
  (fin : Ok ((image_Good (⟨CW (bl s00) b n, NT (bl s00) b n, T⟩ : TImage)).bind fun x255 => if !x255 then some ((⟨[], [], []⟩ : TImage), 4) else some ((⟨CW (bl s00) b n, NT (bl s00) b n, T⟩ : TImage), 0)) P) : Ok (image_Decode_l2 T s0 [] []) P := by
 unfold image_Decode_l2
 refine Ok.loop (fun k s => bl s.1 = (bl s00).drop (b + 5 * k) ∧ s.2.1 = CW (bl s00) b k ∧ s.2.2 = NT (bl s00) b k) n (fun k s hk hs => ?_) (fun s hs => ?_) ⟨h0, rfl, rfl⟩
 ·obtain ⟨s, c, l⟩ := s
  obtain ⟨h1, h2, h3⟩ := hs
  simp only at h1 h2 h3
  subst h2 h3
  show Ok (image_Decode_l2b T s (CW (bl s00) b k) (NT (bl s00) b k)) _
  unfold image_Decode_l2b
  obtain ⟨u, h4, h5⟩ := sub_at h1 (m := 5) (by omega)
  have hne : s ≠ ByteArray.empty := fun e => by
   have h6 : (bl s).length = 0 := by rw [e]; rfl
   rw [h1, List.length_drop] at h6
   omega
  have i4 : ixS s 4 = some (((bl s00).getD (b + 5 * k + 4) 0 : Nat) : Int) := by
   rw [show (4 : Int) = ((4 : Nat) : Int) from rfl, ixS_is, h1, List.getElem?_drop, getD_at (by omega)]
   rfl
  obtain ⟨g, hg, hr⟩ := readNote_is (getD_lt (s := s00) (b + 5 * k + 4))
  rw [if_pos (decide_eq_true hne), i4, Bc, hr, Bc]
  cases g with
  | false =>
   rw [if_pos (by simp)]
   exact ⟨_, rfl, bad ⟨k, hk, hg⟩⟩
  | true =>
   rw [if_neg (by simp), number_at h1 (by omega), Bc, u32n (nm_lt _), ap_some (by unfold CW; rw [tb_len]; simp; omega), Bc, ap_some (by unfold NT; rw [tb_len]; simp; omega), Bc, show strSub s 5 (s.size : Int) = some u from h4, Bc]
   refine ⟨_, rfl, ?_, ?_, ?_⟩
   ·show bl u = _
    rw [h5]
    congr 1
   ·show CW (bl s00) b k ++ [_] = CW (bl s00) b (k + 1)
    unfold CW
    rw [tb_succ]
   ·show NT (bl s00) b k ++ [_] = NT (bl s00) b (k + 1)
    unfold NT
    rw [tb_succ]
 ·obtain ⟨s, c, l⟩ := s
  obtain ⟨h1, h2, h3⟩ := hs
  simp only at h1 h2 h3
  subst h2 h3
  show Ok (image_Decode_l2b T s (CW (bl s00) b n) (NT (bl s00) b n)) _
  unfold image_Decode_l2b
  have he : s = ByteArray.empty := bl_inj (by
   rw [h1, List.drop_of_length_le (by omega)]
   rfl)
  rw [if_neg (by simp [he])]
  exact .map fin
end
section
def ci (l : List Nat) : List Int := l.map fun x : Nat => (x : Int)
theorem ci_app (a b : List Nat) : ci (a ++ b) = ci a ++ ci b := by unfold ci; exact List.map_append
theorem drop_split (B : List Nat) (b m : Nat) : B.drop b = (B.drop b).take m ++ B.drop (b + m) := by
 rw [← List.drop_drop, List.take_append_drop]
theorem take_more (B : List Nat) (b m d : Nat) : (B.drop b).take (m + d) = (B.drop b).take m ++ (B.drop (b + m)).take d := by
 rw [← List.drop_drop, List.take_add]
theorem th_bytes (s : ByteArray) (b : Nat) : ∀ m, b + 4 * m ≤ (bl s).length → (tb m fun k => ((nm (bl s) (b + 4 * k) : Nat) : Int)).flatMap tf = ci (((bl s).drop b).take (4 * m)) := by
 intro m
 induction m with
 | zero => intro _; simp [tb, CW, NT, ci]
 | succ m ih =>
  intro h
  rw [tb_succ, List.flatMap_append, ih (by omega), Nat.mul_succ, take_more, ci_app]
  congr 1
  rw [drop4 (by omega)]
  simp only [List.flatMap_cons, List.flatMap_nil, List.append_nil]
  unfold tf nm
  rw [Int.toNat_natCast, fr_num4 (getD_lt _) (getD_lt _) (getD_lt _) (getD_lt _)]
  rfl
theorem cw_bytes (s : ByteArray) (b : Nat) : ∀ m, b + 5 * m ≤ (bl s).length → ((CW (bl s) b m).zip (NT (bl s) b m)).flatMap cf = ci (((bl s).drop b).take (5 * m)) := by
 intro m
 induction m with
 | zero => intro _; simp [tb, CW, NT, ci]
 | succ m ih =>
  intro h
  have e : (CW (bl s) b (m + 1)).zip (NT (bl s) b (m + 1)) = (CW (bl s) b m).zip (NT (bl s) b m) ++ [(((nm (bl s) (b + 5 * m) : Nat) : Int), nrd ((bl s).getD (b + 5 * m + 4) 0))] := by
   unfold CW NT
   rw [tb_succ, tb_succ, List.zip_append (by rw [tb_len, tb_len])]
   rfl
  rw [e, List.flatMap_append, ih (by omega), Nat.mul_succ, take_more, ci_app]
  congr 1
  rw [drop4 (by omega), drop1 (k := b + 5 * m + 4) (by omega)]
  simp only [List.flatMap_cons, List.flatMap_nil, List.append_nil]
  unfold cf nm
  rw [Int.toNat_natCast, fr_num4 (getD_lt _) (getD_lt _) (getD_lt _) (getD_lt _), nbt_nrd (getD_lt _)]
  rfl
end
section
theorem good_notes (i : TImage) (o : OK_TImage i) : Ok (image_Good i) (fun r => r = true → ∀ n ∈ i.notes, image_good n = some true) := by
 unfold image_Good
 by_cases h0 : (i.code.length : Int) = 0 ∨ 8000 < (i.code.length : Int) ∨ (i.notes.length : Int) ≠ (i.code.length : Int) ∨ 8 < (i.threads.length : Int)
 ·rw [if_pos (by simp only [Bool.or_eq_true, decide_eq_true_eq]; omega)]
  exact ⟨_, rfl, fun h => by cases h⟩
 ·rw [if_neg (by simp only [Bool.or_eq_true, decide_eq_true_eq]; omega)]
  have hnl : i.notes.length = i.code.length := by omega
  unfold image_Good_l1
  refine Ok.loop (fun k s => s = (k : Int) ∧ ∀ n ∈ i.notes.take k, image_good n = some true) i.code.length (fun k s hk hs => ?_) (fun s hs => ?_) ⟨rfl, by simp⟩
  ·obtain ⟨rfl, hs⟩ := hs
   have hk2 : k < i.notes.length := by omega
   show Ok (image_Good_l1b i (k : Int)) _
   unfold image_Good_l1b image_Good_k1
   rw [if_pos (decide_eq_true (by omega)), ix_nat, List.getElem?_eq_getElem hk, Bc]
   obtain ⟨w, hw, hw2⟩ := u32n' (o.1.1 _ (List.getElem_mem hk))
   rw [hw]
   have hd : ∃ d, isa_Decode (w : Int) = some d := by
    rcases decode hw2 with ⟨j, _, _, _, h, _⟩ | ⟨_, h, _⟩
    ·exact ⟨_, h⟩
    ·exact ⟨_, h⟩
   obtain ⟨d, hd⟩ := hd
   rw [hd, Bc, ix_nat, List.getElem?_eq_getElem hk2]
   obtain ⟨g, hg, hng⟩ := good_note i.notes[k]
   obtain ⟨f, hf⟩ := fits_ok d.1 i.notes[k]
   simp only [Bc]
   rw [hg, hf]
   simp only [Bc]
   have go : ∀ b : Bool, (b = false → g = true) → Ok (if b = true then (some false).map Sum.inr else if (((decide (d.1.op = 11)) || (decide (d.1.op = 12))) || (decide (d.1.op = 10))) && ((decide ((w64 ((k : Int) + d.1.imm)) < 0)) || (decide ((i.code.length : Int) ≤ (w64 ((k : Int) + d.1.imm))))) then (some false).map Sum.inr else some (Sum.inl (w64 ((k : Int) + 1)))) (Sum.elim (fun s => s = ((k + 1 : Nat) : Int) ∧ ∀ n ∈ i.notes.take (k + 1), image_good n = some true) (fun r : Bool => r = true → ∀ n ∈ i.notes, image_good n = some true)) := by
    intro b hb
    refine .ite (fun _ => ⟨_, rfl, fun h => by cases h⟩) (fun hbf => .ite (fun _ => ⟨_, rfl, fun h => by cases h⟩) (fun _ => ⟨_, rfl, w64_succ (by omega), fun n hn => ?_⟩))
    rcases (mem_take_succ hk2).1 hn with h3 | h3
    ·exact hs n h3
    ·rw [h3, hg, hb hbf]
   by_cases he : d.2 = 0
   ·rw [if_neg (by simp; exact he)]
    cases g with
    | true =>
     rw [if_neg (by decide)]
     exact go _ (fun _ => rfl)
    | false =>
     rw [if_pos (by decide)]
     exact go true (fun h => by cases h)
   ·rw [if_pos (by simp; exact he)]
    exact go true (fun h => by cases h)
  ·obtain ⟨rfl, hs⟩ := hs
   show Ok (image_Good_l1b i (i.code.length : Int)) _
   unfold image_Good_l1b
   rw [if_neg (by simp)]
   refine .map ((good_threads i (by omega)).mono fun r hr h => ?_)
   rw [← hnl, List.take_length] at hs
   exact hs
end
section
def img0 : TImage := ⟨[266338304], [⟨0, 0, false, false⟩], [0]⟩
theorem img0_ok : OK_TImage img0 := by
 refine ⟨⟨fun x hx => ?_, by decide⟩, ⟨fun x hx => ?_, by decide⟩, ⟨fun x hx => ?_, by decide⟩, trivial⟩
 ·rw [List.mem_singleton.1 hx]; unfold InR; decide
 ·rw [List.mem_singleton.1 hx]; exact ⟨by unfold InR; decide, by unfold InR; decide, trivial, trivial, trivial⟩
 ·rw [List.mem_singleton.1 hx]; unfold InR; decide
theorem img0_dec : isa_Decode 266338304 = some (⟨21, 0, 0, 0, 0⟩, 0) :=
 (back (p := ⟨21, 0, 0, 0, 0⟩) (w := 266338304) (by decide) (by decide) ((ig_21 0 0 0 0).trans (congrArg some (by decide))) ((en_21 0 0 0 0 (by decide)).trans rfl)).1
theorem img0_good : image_Good img0 = some true := by
 have h2 : image_Good_l2 img0 0 = some true := (loop_step (s' := 1) rfl).trans (loop_ret rfl)
 unfold image_Good
 rw [if_neg (by decide)]
 unfold image_Good_l1
 refine (loop_step (s' := 1) ?_).trans (loop_ret ?_)
 ·show image_Good_l1b img0 0 = _
  unfold image_Good_l1b
  rw [if_pos (by decide), show ix img0.code 0 = some 266338304 from rfl, Bc, img0_dec]
  rfl
 ·show image_Good_l1b img0 1 = _
  unfold image_Good_l1b
  rw [if_neg (by decide), h2]
  rfl
theorem alive : law15_alive = some true := by
 unfold law15_alive
 have h1 : image_Decode ByteArray.empty = some (⟨[], [], []⟩, 4) := rfl
 have h2 : mk 1 (⟨0, 0, false, false⟩ : TNote) = some [⟨0, 0, false, false⟩] := rfl
 obtain ⟨r, hr, hg⟩ := good_i img0 img0_ok
 obtain rfl := Option.some.inj (img0_good.symm.trans hr)
 have h3 : image_Encode ⟨[266338304], [⟨0, 0, false, false⟩], [0]⟩ = some (toB (EncB img0), 0) := enc_is img0 img0_good (hg rfl) img0_ok
 rw [h1, Bc, h2, Bc, h3]
 rfl
end
section
end
section
theorem encb_img (s : ByteArray) (t n : Nat) (hlen : (bl s).length = 9 + 4 * t + 5 * n) (h4 : (bl s).getD 4 0 = t) (h5 : nm (bl s) 5 = n) (hm : (bl s).take 4 = [84, 66, 76, 49]) :
  EncB ⟨CW (bl s) (9 + 4 * t) n, NT (bl s) (9 + 4 * t) n, TH (bl s) t⟩ = ci (bl s) := by
 have e1 : bl s = (bl s).take 4 ++ ((bl s).getD 4 0 :: ((bl s).getD 5 0 :: (bl s).getD 6 0 :: (bl s).getD 7 0 :: (bl s).getD 8 0 :: (((bl s).drop 9).take (4 * t) ++ ((bl s).drop (9 + 4 * t)).take (5 * n)))) := by
  have a1 : (bl s).drop 4 = _ := drop1 (by omega)
  have a2 : (bl s).drop 5 = _ := drop4 (by omega)
  have a3 := drop_split (bl s) 9 (4 * t)
  have a4 : ((bl s).drop (9 + 4 * t)).take (5 * n) = (bl s).drop (9 + 4 * t) := List.take_of_length_le (by rw [List.length_drop]; omega)
  rw [a4, ← a3]
  have a5 : (bl s).drop 5 = (bl s).getD 5 0 :: (bl s).getD 6 0 :: (bl s).getD 7 0 :: (bl s).getD 8 0 :: (bl s).drop 9 := a2
  rw [← a5]
  have a6 : (bl s).drop 4 = (bl s).getD 4 0 :: (bl s).drop 5 := a1
  rw [← a6, List.take_append_drop]
 have e2 : ci (bl s) = ci ((bl s).take 4) ++ ([((bl s).getD 4 0 : Int)] ++ (fr (nm (bl s) 5) ++ (ci (((bl s).drop 9).take (4 * t)) ++ ci (((bl s).drop (9 + 4 * t)).take (5 * n))))) := by
  have f : fr (nm (bl s) 5) = [((bl s).getD 5 0 : Int), ((bl s).getD 6 0 : Int), ((bl s).getD 7 0 : Int), ((bl s).getD 8 0 : Int)] := fr_num4 (getD_lt _) (getD_lt _) (getD_lt _) (getD_lt _)
  rw [f]
  conv => lhs; rw [e1]
  rw [ci_app]
  congr 1
  unfold ci
  simp only [List.map_cons, List.map_append, List.cons_append, List.nil_append]
 rw [e2, hm, h4, h5]
 unfold EncB
 have l1 : (TH (bl s) t).length = t := by unfold TH; rw [tb_len]
 have l2 : (CW (bl s) (9 + 4 * t) n).length = n := by unfold CW; rw [tb_len]
 rw [l1, l2, cw_bytes s (9 + 4 * t) n (by omega)]
 have l3 : (TH (bl s) t).flatMap tf = ci (((bl s).drop 9).take (4 * t)) := th_bytes s 9 t (by omega)
 rw [l3]
 simp only [List.append_assoc]
 rfl
end
section
theorem toB_ci (s : ByteArray) : toB (ci (bl s)) = s := by
 obtain ⟨⟨s⟩⟩ := s
 unfold toB ci bl
 simp only [List.map_map]
 have : ((fun x : Int => UInt8.ofNat x.toNat) ∘ ((fun x : Nat => (x : Int)) ∘ UInt8.toNat)) = id := by
  funext b
  show UInt8.ofNat ((b.toNat : Int)).toNat = b
  rw [Int.toNat_natCast, UInt8.ofNat_toNat]
 rw [this, List.map_id]
end
end Go.Vm.G15w
