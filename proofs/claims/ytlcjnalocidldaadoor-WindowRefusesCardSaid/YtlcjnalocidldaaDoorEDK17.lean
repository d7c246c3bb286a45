/-
 What functions compute, as plain functions.
-/
import Derived.Test.YtlcjnalocidldaaDoorESp29
import Derived.Test.YtlcjnalocidldaaDoorESp12
set_option linter.unusedSimpArgs false
set_option linter.unusedVariables false
namespace Go.Vm.K17
open Go
theorem cB {b c : Bool} (h : b = c) : Value.bool b = Value.bool c := by rw [h]
structure TNote where
 role : Int
 what : Int
 volatile : Bool
 final : Bool
def RT_TNote : RT TNote := ⟨4, fun V cs x => cs = [.int .i64 x.role, .int .i64 x.what, .bool x.volatile, .bool x.final], ⟨fun _ _ _ h => by rw [h]; rfl, fun _ _ _ h => by rw [h]; rfl, fun _ _ _ _ he h => h⟩⟩
structure TImage where
 code : List Int
 notes : List TNote
 threads : List Int
def RT_TImage : RT TImage := ⟨3, fun V cs x => ∃ v1 v2 v3 : Value, cs = [v1, v2, v3] ∧ Fz (RT.int .u32) V v1 x.code ∧ Fz RT_TNote V v2 x.notes ∧ Fz (RT.int .i64) V v3 x.threads, ⟨fun _ _ _ ⟨v1, v2, v3, h, f1, f2, f3⟩ => by rw [h]; rfl, fun _ _ _ ⟨v1, v2, v3, h, f1, f2, f3⟩ => by rw [h]; have := f1.one; have := f2.one; have := f3.one; simp only [List.all_cons, List.all_nil, *]; rfl, fun _ _ _ _ he ⟨v1, v2, v3, h, f1, f2, f3⟩ => ⟨v1, v2, v3, h, f1.up he, f2.up he, f3.up he⟩⟩⟩
structure Tlaw17_Move where
 kind : Int
 k : Int
 yes : Bool
def RT_Tlaw17_Move : RT Tlaw17_Move := ⟨3, fun V cs x => cs = [.int .i64 x.kind, .int .i64 x.k, .bool x.yes], ⟨fun _ _ _ h => by rw [h]; rfl, fun _ _ _ h => by rw [h]; rfl, fun _ _ _ _ he h => h⟩⟩
structure Tisa_shape where
 name : ByteArray
 fields : ByteArray
 word : Int
def RT_Tisa_shape : RT Tisa_shape := ⟨3, fun V cs x => cs = [.string x.name, .string x.fields, .int .u32 x.word], ⟨fun _ _ _ h => by rw [h]; rfl, fun _ _ _ h => by rw [h]; rfl, fun _ _ _ _ he h => h⟩⟩
structure TInst where
 op : Int
 d : Int
 a : Int
 b : Int
 imm : Int
structure TSlot where
 seq : Int
 pc : Int
 i : TInst
 note : TNote
 next : Int
 done : Bool
 committed : Bool
 val : Int
 at_ : Int
 from_ : Int
 id : Int
def RT_TSlot : RT TSlot := ⟨18, fun V cs x => cs = [.int .i64 x.seq, .int .i64 x.pc, .int .i64 x.i.op, .int .i64 x.i.d, .int .i64 x.i.a, .int .i64 x.i.b, .int .i64 x.i.imm, .int .i64 x.note.role, .int .i64 x.note.what, .bool x.note.volatile, .bool x.note.final, .int .i64 x.next, .bool x.done, .bool x.committed, .int .i64 x.val, .int .i64 x.at_, .int .i64 x.from_, .int .i64 x.id], ⟨fun _ _ _ h => by rw [h]; rfl, fun _ _ _ h => by rw [h]; rfl, fun _ _ _ _ he h => h⟩⟩
structure Twindow_Window where
 img : TImage
 t : Int
 regs : Nat → Int
 slots : List TSlot
 pc : Int
 seq : Int
 ended : Bool
 held : Bool
 at_ : Int
 from_ : Int
 log : List TSlot
structure TStored where
 thread : Int
 bar : Bool
 at_ : Int
 val : Int
def RT_TStored : RT TStored := ⟨4, fun V cs x => cs = [.int .i64 x.thread, .bool x.bar, .int .i64 x.at_, .int .i64 x.val], ⟨fun _ _ _ h => by rw [h]; rfl, fun _ _ _ h => by rw [h]; rfl, fun _ _ _ _ he h => h⟩⟩
structure Tstorage_Storage where
 events : List TStored
 seen : List (List Int)
 has : List (List (Int × Bool))
 now : List (List (Int × Int))
 last : List (Int × Int)
structure Tref02_Has where
 name : ByteArray
 d : Bool
 a : Bool
 b : Bool
 imm : Int
 word : Int
def str1 : ByteArray := ⟨#[108, 100]⟩
def str2 : ByteArray := ⟨#[100, 97, 109]⟩
def str3 : ByteArray := ⟨#[115, 116, 100]⟩
def str4 : ByteArray := ⟨#[97, 100, 100, 105]⟩
def str5 : ByteArray := ⟨#[100, 97, 105]⟩
def str6 : ByteArray := ⟨#[97, 100, 100]⟩
def str7 : ByteArray := ⟨#[100, 97, 98]⟩
def str8 : ByteArray := ⟨#[115, 117, 98, 102]⟩
def str9 : ByteArray := ⟨#[109, 117, 108, 108, 100]⟩
def str10 : ByteArray := ⟨#[100, 105, 118, 100]⟩
def str11 : ByteArray := ⟨#[99, 109, 112, 100]⟩
def str12 : ByteArray := ⟨#[97, 98]⟩
def str13 : ByteArray := ⟨#[99, 109, 112, 100, 105]⟩
def str14 : ByteArray := ⟨#[97, 105]⟩
def str15 : ByteArray := ⟨#[98, 99]⟩
def str16 : ByteArray := ⟨#[99, 111]⟩
def str17 : ByteArray := ⟨#[98]⟩
def str18 : ByteArray := ⟨#[108]⟩
def str19 : ByteArray := ⟨#[98, 108]⟩
def str20 : ByteArray := ⟨#[98, 108, 114]⟩
def str21 : ByteArray := ⟨#[109, 102, 108, 114]⟩
def str22 : ByteArray := ⟨#[100]⟩
def str23 : ByteArray := ⟨#[109, 116, 108, 114]⟩
def str24 : ByteArray := ⟨#[108, 100, 97, 114, 120]⟩
def str25 : ByteArray := ⟨#[115, 116, 100, 99, 120, 46]⟩
def str26 : ByteArray := ⟨#[115, 121, 110, 99]⟩
def str27 : ByteArray := ⟨#[108, 119, 115, 121, 110, 99]⟩
def str28 : ByteArray := ⟨#[105, 115, 121, 110, 99]⟩
def str29 : ByteArray := ⟨#[116, 114, 97, 112]⟩
def str30 : ByteArray := ⟨#[105]⟩
def str31 : ByteArray := ⟨#[111, 117, 116]⟩
def gl0 : List Tisa_shape := [⟨ByteArray.empty, ByteArray.empty, 0⟩, ⟨str1, str2, 3892314112⟩, ⟨str3, str2, 4160749568⟩, ⟨str4, str5, 939524096⟩, ⟨str6, str7, 2080375316⟩, ⟨str8, str7, 2080374864⟩, ⟨str9, str7, 2080375250⟩, ⟨str10, str7, 2080375762⟩, ⟨str11, str12, 2082471936⟩, ⟨str13, str14, 740294656⟩, ⟨str15, str16, 1073741824⟩, ⟨str17, str18, 1207959552⟩, ⟨str19, str18, 1207959553⟩, ⟨str20, ByteArray.empty, 1317011488⟩, ⟨str21, str22, 2080899750⟩, ⟨str23, str22, 2080900006⟩, ⟨str24, str7, 2080374952⟩, ⟨str25, str7, 2080375213⟩, ⟨str26, ByteArray.empty, 2080375980⟩, ⟨str27, ByteArray.empty, 2082473132⟩, ⟨str28, ByteArray.empty, 1275068716⟩, ⟨str29, str30, 266338304⟩, ⟨str31, str22, 1140850690⟩]
theorem gl0_len : gl0.length = 23 := rfl
abbrev NG : Nat := 1
structure Glb (V : Vw) : Prop where
 lo : NG ≤ V.H.lo
 g0 : Fz RT_Tisa_shape V (.slice (some ⟨0, 0, none⟩) 23 23) gl0
theorem Glb.up {V V2 : Vw} (h : Glb V) (he : V.le V2) : Glb V2 := ⟨by rw [he.lo]; exact h.lo, h.g0.up he⟩
noncomputable def law17_tiny : Option TImage :=
  (mk 2 (⟨0, 0, false, false⟩ : TNote)).bind fun xs17 =>
  some (⟨[941752232, 266338304], xs17, [0]⟩ : TImage)
noncomputable def word_good (p0 : Int) (p1 : Int) : Option Bool :=
  some ((((decide (0 ≤ p0)) && (decide (0 ≤ p1))) && (decide (p0 ≤ 32))) && (decide (p1 ≤ (w64 (32 - p0)))))
noncomputable def word_mask (p0 : Int) : Option Int :=
  if decide (32 ≤ p0) then
  some 4294967295
  else
  (shlO .u32 1 (max p0 0)).bind fun x4 =>
  some (IntKind.wrap .u32 (x4 - 1))
noncomputable def word_Get (p0 : Int) (p1 : Int) (p2 : Int) : Option Int :=
  (word_good p1 p2).bind fun x1 =>
  if !x1 then
  some 0
  else
  (shrO .u32 p0 (w64 ((w64 (32 - p1)) - p2))).bind fun x13 =>
  (word_mask p2).bind fun x17 =>
  some (andB .u32 x13 x17)
noncomputable def word_Signed_k1 (x15 : Int) : Option Int :=
  some x15
noncomputable def word_Signed (p0 : Int) (p1 : Int) : Option Int :=
  if (decide (p1 < 1)) || (decide (32 < p1)) then
  some 0
  else
  (word_mask p1).bind fun x8 =>
  (shrO .i64 (w64 (andB .u32 p0 x8)) (w64 (p1 - 1))).bind fun x21 =>
  if decide (x21 = 1) then
  (shlO .i64 1 p1).bind fun x26 =>
  word_Signed_k1 (w64 ((w64 (andB .u32 p0 x8)) - x26))
  else
  word_Signed_k1 (w64 (andB .u32 p0 x8))
noncomputable def isa_read_k1 (x36 : Int) (x50 : Int) (x51 : Int) (x52 : Int) (x53 : Int) : Option ((Int × Int × Int × Int × Int) ⊕ TInst) :=
  some (Sum.inl (x50, x51, x52, x53, w64 (x36 + 1)))
noncomputable def isa_read_l1b (p0 : Int) (p1 : Int) (xs24 : List Int) (x32 : Int) (x33 : Int) (x34 : Int) (x35 : Int) (x36 : Int) : Option ((Int × Int × Int × Int × Int) ⊕ TInst) :=
  if decide (x36 < (xs24.length : Int)) then
  (ix xs24 x36).bind fun x59 =>
  if decide (x59 = 100) then
  (word_Get p1 6 5).bind fun x77 =>
  isa_read_k1 x36 (w64 x77) x33 x34 x35
  else
  if decide (x59 = 97) then
  (word_Get p1 11 5).bind fun x93 =>
  isa_read_k1 x36 x32 (w64 x93) x34 x35
  else
  if decide (x59 = 98) then
  (word_Get p1 16 5).bind fun x109 =>
  isa_read_k1 x36 x32 x33 (w64 x109) x35
  else
  if decide (x59 = 105) then
  (word_Signed p1 16).bind fun x125 =>
  isa_read_k1 x36 x32 x33 x34 x125
  else
  if decide (x59 = 109) then
  (word_Get p1 16 14).bind fun x141 =>
  (word_Signed x141 14).bind fun x149 =>
  isa_read_k1 x36 x32 x33 x34 (w64 (4 * x149))
  else
  if decide (x59 = 111) then
  (word_Get p1 16 14).bind fun x165 =>
  (word_Signed x165 14).bind fun x173 =>
  isa_read_k1 x36 x32 x33 x34 x173
  else
  if decide (x59 = 108) then
  (word_Get p1 6 24).bind fun x189 =>
  (word_Signed x189 24).bind fun x197 =>
  isa_read_k1 x36 x32 x33 x34 x197
  else
  if decide (x59 = 99) then
  (word_Get p1 6 5).bind fun x213 =>
  (word_Get p1 11 5).bind fun x221 =>
  isa_read_k1 x36 (w64 x213) (w64 x221) x34 x35
  else
  isa_read_k1 x36 x32 x33 x34 x35
  else
  (some (⟨p0, x32, x33, x34, x35⟩ : TInst)).map Sum.inr
noncomputable def isa_read_l1 (p0 : Int) (p1 : Int) (xs24 : List Int) (x32 : Int) (x33 : Int) (x34 : Int) (x35 : Int) (x36 : Int) : Option TInst := loopO (fun s => isa_read_l1b p0 p1 xs24 s.1 s.2.1 s.2.2.1 s.2.2.2.1 s.2.2.2.2) (x32, x33, x34, x35, x36)
noncomputable def isa_read (p0 : Int) (p1 : Int) : Option TInst :=
  (ix gl0 p0).bind fun x14 =>
  (bytesO x14.fields).bind fun xs24 =>
  isa_read_l1 p0 p1 xs24 0 0 0 0 0
noncomputable def isa_used_k1 (x41 : Int) (x55 : Int) (x56 : Int) (x57 : Int) (x58 : Int) : Option ((Int × Int × Int × Int × Int) ⊕ TInst) :=
  some (Sum.inl (x55, x56, x57, x58, w64 (x41 + 1)))
noncomputable def isa_used_l1b (p0 : TInst) (xs29 : List Int) (x37 : Int) (x38 : Int) (x39 : Int) (x40 : Int) (x41 : Int) : Option ((Int × Int × Int × Int × Int) ⊕ TInst) :=
  if decide (x41 < (xs29.length : Int)) then
  (ix xs29 x41).bind fun x64 =>
  if decide (x64 = 100) then
  isa_used_k1 x41 p0.d x38 x39 x40
  else
  if decide (x64 = 97) then
  isa_used_k1 x41 x37 p0.a x39 x40
  else
  if decide (x64 = 98) then
  isa_used_k1 x41 x37 x38 p0.b x40
  else
  if decide (x64 = 99) then
  isa_used_k1 x41 p0.d p0.a x39 x40
  else
  isa_used_k1 x41 x37 x38 x39 p0.imm
  else
  (some (⟨p0.op, x37, x38, x39, x40⟩ : TInst)).map Sum.inr
noncomputable def isa_used_l1 (p0 : TInst) (xs29 : List Int) (x37 : Int) (x38 : Int) (x39 : Int) (x40 : Int) (x41 : Int) : Option TInst := loopO (fun s => isa_used_l1b p0 xs29 s.1 s.2.1 s.2.2.1 s.2.2.2.1 s.2.2.2.2) (x37, x38, x39, x40, x41)
noncomputable def isa_used (p0 : TInst) : Option TInst :=
  (ix gl0 p0.op).bind fun x19 =>
  (bytesO x19.fields).bind fun xs29 =>
  isa_used_l1 p0 xs29 0 0 0 0 0
noncomputable def isa_register (p0 : Int) : Option Bool :=
  some ((decide (0 ≤ p0)) && (decide (p0 < 32)))
noncomputable def word_Fits (p0 : Int) (p1 : Int) : Option Bool :=
  if decide (p1 < 1) then
  some false
  else
  if decide (63 < p1) then
  some true
  else
  (shlO .i64 (-1) (w64 (p1 - 1))).bind fun x7 =>
  (if decide (x7 ≤ p0) then
  (shlO .i64 1 (w64 (p1 - 1))).bind fun x20 =>
  some (decide (p0 < x20))
  else
  some false).bind fun y10 =>
  some y10
noncomputable def isa_part_k1 (x50 : Int) (x51 : Bool) : Option (Int × Int × Int × Bool) :=
  some (16, 14, x50, x51)
noncomputable def isa_part_k2 (x93 : Int) (x94 : Bool) : Option (Int × Int × Int × Bool) :=
  some (6, 10, x93, x94)
noncomputable def isa_part (p0 : Int) (p1 : TInst) : Option (Int × Int × Int × Bool) :=
  if decide (p0 = 100) then
  (isa_register p1.d).bind fun x6 =>
  some (6, 5, p1.d, x6)
  else
  if decide (p0 = 97) then
  (isa_register p1.a).bind fun x17 =>
  some (11, 5, p1.a, x17)
  else
  if decide (p0 = 98) then
  (isa_register p1.b).bind fun x28 =>
  some (16, 5, p1.b, x28)
  else
  if decide (p0 = 105) then
  (word_Fits p1.imm 16).bind fun x39 =>
  some (16, 16, p1.imm, x39)
  else
  if decide (p0 = 109) then
  (shrO .i64 p1.imm 2).bind fun x56 =>
  (word_Fits p1.imm 16).bind fun x59 =>
  if x59 then
  isa_part_k1 x56 (decide ((andB .i64 p1.imm 3) = 0))
  else
  isa_part_k1 x56 false
  else
  if decide (p0 = 111) then
  (word_Fits p1.imm 14).bind fun x73 =>
  some (16, 14, p1.imm, x73)
  else
  if decide (p0 = 108) then
  (word_Fits p1.imm 24).bind fun x84 =>
  some (6, 24, p1.imm, x84)
  else
  (shlO .i64 p1.d 5).bind fun x99 =>
  if decide (p1.d = 4) then
  if decide (0 ≤ p1.a) then
  isa_part_k2 (orB .i64 x99 p1.a) (decide (p1.a < 3))
  else
  isa_part_k2 (orB .i64 x99 p1.a) false
  else
  if decide (p1.d = 12) then
  if decide (0 ≤ p1.a) then
  isa_part_k2 (orB .i64 x99 p1.a) (decide (p1.a < 3))
  else
  isa_part_k2 (orB .i64 x99 p1.a) false
  else
  isa_part_k2 (orB .i64 x99 p1.a) false
noncomputable def isa_Good_l1b (p0 : TInst) (xs26 : List Int) (x34 : Int) : Option (Int ⊕ Bool) :=
  if decide (x34 < (xs26.length : Int)) then
  (ix xs26 x34).bind fun x48 =>
  (isa_part x48 p0).bind fun x64 =>
  if !x64.2.2.2 then
  (some false).map Sum.inr
  else
  some (Sum.inl (w64 (x34 + 1)))
  else
  (some true).map Sum.inr
noncomputable def isa_Good_l1 (p0 : TInst) (xs26 : List Int) (x34 : Int) : Option Bool := loopO (fun s => isa_Good_l1b p0 xs26 s) x34
noncomputable def isa_Good_k1 (p0 : TInst) (x6 : Bool) : Option Bool :=
  if x6 then
  some false
  else
  (ix gl0 p0.op).bind fun x16 =>
  (bytesO x16.fields).bind fun xs26 =>
  isa_Good_l1 p0 xs26 0
noncomputable def isa_Good (p0 : TInst) : Option Bool :=
  if decide (p0.op < 1) then
  isa_Good_k1 p0 true
  else
  if decide (22 < p0.op) then
  isa_Good_k1 p0 true
  else
  (isa_used p0).bind fun x91 =>
  if !((decide (x91.op = p0.op)) && ((decide (x91.d = p0.d)) && ((decide (x91.a = p0.a)) && ((decide (x91.b = p0.b)) && ((decide (x91.imm = p0.imm)) && true))))) then
  isa_Good_k1 p0 true
  else
  if decide (p0.op = 21) then
  isa_Good_k1 p0 (decide (p0.imm < 0))
  else
  isa_Good_k1 p0 false
noncomputable def word_Bits (p0 : Int) (p1 : Int) : Option Int :=
  (word_mask p1).bind fun x1 =>
  some (andB .u32 (IntKind.wrap .u32 p0) x1)
noncomputable def word_Put (p0 : Int) (p1 : Int) (p2 : Int) (p3 : Int) : Option Int :=
  (word_good p1 p2).bind fun x1 =>
  if !x1 then
  some p0
  else
  (word_mask p2).bind fun x14 =>
  (shlO .u32 x14 (w64 ((w64 (32 - p1)) - p2))).bind fun x22 =>
  (word_mask p2).bind fun x26 =>
  (shlO .u32 (andB .u32 p3 x26) (w64 ((w64 (32 - p1)) - p2))).bind fun x34 =>
  some (orB .u32 (andNotB .u32 p0 x22) x34)
noncomputable def isa_Encode_l1b (p0 : TInst) (xs38 : List Int) (x46 : Int) (x47 : Int) : Option ((Int × Int) ⊕ (Int × Int)) :=
  if decide (x47 < (xs38.length : Int)) then
  (ix xs38 x47).bind fun x61 =>
  (isa_part x61 p0).bind fun x77 =>
  (word_Bits x77.2.2.1 x77.2.1).bind fun x85 =>
  (word_Put x46 x77.1 x77.2.1 x85).bind fun x93 =>
  some (Sum.inl (x93, w64 (x47 + 1)))
  else
  (some (x46, 0)).map Sum.inr
noncomputable def isa_Encode_l1 (p0 : TInst) (xs38 : List Int) (x46 : Int) (x47 : Int) : Option (Int × Int) := loopO (fun s => isa_Encode_l1b p0 xs38 s.1 s.2) (x46, x47)
noncomputable def isa_Encode (p0 : TInst) : Option (Int × Int) :=
  (isa_Good p0).bind fun x7 =>
  if !x7 then
  some (0, 1)
  else
  (ix gl0 p0.op).bind fun x21 =>
  (ix gl0 p0.op).bind fun x30 =>
  (bytesO x30.fields).bind fun xs38 =>
  isa_Encode_l1 p0 xs38 x21.word 0
noncomputable def isa_Decode_l1b (p0 : Int) (x6 : Int) : Option (Int ⊕ (TInst × Int)) :=
  if decide (x6 ≤ 22) then
  (isa_read x6 p0).bind fun x21 =>
  (isa_Encode x21).bind fun x38 =>
  if (decide (x38.2 = 0)) && (decide (x38.1 = p0)) then
  (some (x21, 0)).map Sum.inr
  else
  some (Sum.inl (w64 (x6 + 1)))
  else
  (some ((⟨0, 0, 0, 0, 0⟩ : TInst), 4)).map Sum.inr
noncomputable def isa_Decode_l1 (p0 : Int) (x6 : Int) : Option (TInst × Int) := loopO (fun s => isa_Decode_l1b p0 s) x6
noncomputable def isa_Decode (p0 : Int) : Option (TInst × Int) :=
  isa_Decode_l1 p0 1
noncomputable def image_good (p0 : TNote) : Option Bool :=
  if (decide (p0.role < 0)) || (decide (6 < p0.role)) then
  some false
  else
  if decide (p0.role = 2) then
  some ((decide (1 ≤ p0.what)) && (decide (p0.what ≤ 5)))
  else
  some ((decide (p0.role = p0.role)) && ((decide (p0.what = 0)) && ((p0.volatile == false) && ((p0.final == false) && true))))
noncomputable def image_fits (p0 : TInst) (p1 : TNote) : Option Bool :=
  if decide (p0.op = 1) then
  some (((decide (p1.role = 1)) || (decide (p1.role = 2))) || (decide (p1.role = 5)))
  else
  if decide (p0.op = 2) then
  some (((decide (p1.role = 1)) || (decide (p1.role = 2))) || (decide (p1.role = 6)))
  else
  if decide (p0.op = 16) then
  some (decide (p1.role = 3))
  else
  if decide (p0.op = 17) then
  some (decide (p1.role = 4))
  else
  some (decide (p1.role = 0))
noncomputable def image_Good_k1 (p0 : TImage) (x28 : Int) (x54 : TInst × Int) (x69 : Bool) : Option (Int ⊕ Bool) :=
  if x69 then
  (some false).map Sum.inr
  else
  if (((decide (x54.1.op = 11)) || (decide (x54.1.op = 12))) || (decide (x54.1.op = 10))) && ((decide ((w64 (x28 + x54.1.imm)) < 0)) || (decide ((p0.code.length : Int) ≤ (w64 (x28 + x54.1.imm))))) then
  (some false).map Sum.inr
  else
  some (Sum.inl (w64 (x28 + 1)))
noncomputable def image_Good_l2b (p0 : TImage) (x171 : Int) : Option (Int ⊕ Bool) :=
  if decide (x171 < (p0.threads.length : Int)) then
  (ix p0.threads x171).bind fun x184 =>
  if (decide (x184 < 0)) || (decide ((p0.code.length : Int) ≤ x184)) then
  (some false).map Sum.inr
  else
  some (Sum.inl (w64 (x171 + 1)))
  else
  (some true).map Sum.inr
noncomputable def image_Good_l2 (p0 : TImage) (x171 : Int) : Option Bool := loopO (fun s => image_Good_l2b p0 s) x171
noncomputable def image_Good_l1b (p0 : TImage) (x28 : Int) : Option (Int ⊕ Bool) :=
  if decide (x28 < (p0.code.length : Int)) then
  (ix p0.code x28).bind fun x41 =>
  (isa_Decode x41).bind fun x54 =>
  if decide (x54.2 ≠ 0) then
  image_Good_k1 p0 x28 x54 true
  else
  (ix p0.notes x28).bind fun x120 =>
  (image_good x120).bind fun x133 =>
  if !x133 then
  image_Good_k1 p0 x28 x54 true
  else
  (ix p0.notes x28).bind fun x147 =>
  (image_fits x54.1 x147).bind fun x159 =>
  image_Good_k1 p0 x28 x54 (!x159)
  else
  (image_Good_l2 p0 0).map Sum.inr
noncomputable def image_Good_l1 (p0 : TImage) (x28 : Int) : Option Bool := loopO (fun s => image_Good_l1b p0 s) x28
noncomputable def image_Good (p0 : TImage) : Option Bool :=
  if (((decide ((p0.code.length : Int) = 0)) || (decide (8000 < (p0.code.length : Int)))) || (decide ((p0.notes.length : Int) ≠ (p0.code.length : Int)))) || (decide (8 < (p0.threads.length : Int))) then
  some false
  else
  image_Good_l1 p0 0
noncomputable def window_New (p0 : TImage) (p1 : Int) : Option Twindow_Window :=
  (image_Good p0).bind fun x29 =>
  if ((!x29) || (decide (p1 < 0))) || (decide ((p0.threads.length : Int) ≤ p1)) then
  none
  else
  (ix p0.threads p1).bind fun x47 =>
  some (⟨p0, p1, (upA (upA (upA (upA (fun _ => 0) 1 (w64 (268451840 + (w64 (65536 * p1))))) 2 (w64 (1048576 * (w64 (p1 + 1))))) 27 (w64 (1024 * (w64 (p1 + 1))))) 28 (w64 ((w64 (1048576 * (w64 (p1 + 1)))) + 4096))), [], x47, 0, false, false, 0, 0, []⟩ : Twindow_Window)
noncomputable def storage_New_l1b (p0 : Int) (xs30 : List (List Int)) (xs34 : List (List (Int × Bool))) (xs38 : List (List (Int × Int))) (x39 : Int) : Option (((List (List Int)) × (List (List (Int × Bool))) × (List (List (Int × Int))) × Int) ⊕ Tstorage_Storage) :=
  if decide (x39 < (min (max p0 0) 8)) then
  (ap xs30 ([[]])).bind fun xs67 =>
  (ap xs34 ([[]])).bind fun xs86 =>
  (ap xs38 ([[]])).bind fun xs105 =>
  some (Sum.inl (xs67, xs86, xs105, w64 (x39 + 1)))
  else
  (some (⟨[], xs30, xs34, xs38, []⟩ : Tstorage_Storage)).map Sum.inr
noncomputable def storage_New_l1 (p0 : Int) (xs30 : List (List Int)) (xs34 : List (List (Int × Bool))) (xs38 : List (List (Int × Int))) (x39 : Int) : Option Tstorage_Storage := loopO (fun s => storage_New_l1b p0 s.1 s.2.1 s.2.2.1 s.2.2.2) (xs30, xs34, xs38, x39)
noncomputable def storage_New (p0 : Int) : Option Tstorage_Storage :=
  storage_New_l1 p0 [] [] [] 0
noncomputable def window_Window_MayFetch_c1 (p0 : TSlot) : Option Bool :=
  some (decide (p0.i.op = 21))
noncomputable def slices_IndexFunc_l1b (p0 : List TSlot) (x3 : Int) : Option (Int ⊕ Int) :=
  if decide (x3 < (p0.length : Int)) then
  (ix p0 x3).bind fun x16 =>
  (window_Window_MayFetch_c1 x16).bind fun x31 =>
  if x31 then
  (some x3).map Sum.inr
  else
  some (Sum.inl (w64 (x3 + 1)))
  else
  (some (-1)).map Sum.inr
noncomputable def slices_IndexFunc_l1 (p0 : List TSlot) (x3 : Int) : Option Int := loopO (fun s => slices_IndexFunc_l1b p0 s) x3
noncomputable def slices_IndexFunc (p0 : List TSlot) : Option Int :=
  slices_IndexFunc_l1 p0 0
noncomputable def slices_ContainsFunc (p0 : List TSlot) : Option Bool :=
  (slices_IndexFunc p0).bind fun x3 =>
  some (decide (0 ≤ x3))
noncomputable def isa_Writes_k3 (x25 : Bool) : Option Int :=
  if x25 then
  some 33
  else
  some (-1)
noncomputable def isa_Writes_k2 (p0 : TInst) (x16 : Bool) : Option Int :=
  if x16 then
  some 32
  else
  if decide (p0.op = 12) then
  isa_Writes_k3 true
  else
  isa_Writes_k3 (decide (p0.op = 15))
noncomputable def isa_Writes_k1 (p0 : TInst) (x6 : Bool) : Option Int :=
  if x6 then
  some p0.d
  else
  if decide (p0.op = 8) then
  isa_Writes_k2 p0 true
  else
  if decide (p0.op = 9) then
  isa_Writes_k2 p0 true
  else
  isa_Writes_k2 p0 (decide (p0.op = 17))
noncomputable def isa_Writes (p0 : TInst) : Option Int :=
  if decide (p0.op = 1) then
  isa_Writes_k1 p0 true
  else
  if decide (p0.op = 3) then
  isa_Writes_k1 p0 true
  else
  if decide (p0.op = 4) then
  isa_Writes_k1 p0 true
  else
  if decide (p0.op = 5) then
  isa_Writes_k1 p0 true
  else
  if decide (p0.op = 6) then
  isa_Writes_k1 p0 true
  else
  if decide (p0.op = 7) then
  isa_Writes_k1 p0 true
  else
  if decide (p0.op = 16) then
  isa_Writes_k1 p0 true
  else
  isa_Writes_k1 p0 (decide (p0.op = 14))
noncomputable def window_result (p0 : TSlot) : Option Int :=
  if decide (p0.i.op ≠ 17) then
  some p0.val
  else
  if decide (0 < p0.id) then
  some 2
  else
  some 0
noncomputable def window_Window_reg_k1 (x60 : Int) (x61 : Bool) : Option (Int ⊕ (Int × Bool)) :=
  (some (x60, x61)).map Sum.inr
noncomputable def window_Window_reg_l1b (p0 : Twindow_Window) (p2 : Int) (x14 : Int) : Option (Int ⊕ (Int × Bool)) :=
  if decide (0 ≤ x14) then
  (ix p0.slots x14).bind fun x27 =>
  (isa_Writes x27.i).bind fun x51 =>
  if decide (x51 = p2) then
  (window_result x27).bind fun x69 =>
  if x27.done then
  if decide (x27.i.op ≠ 17) then
  window_Window_reg_k1 x69 true
  else
  window_Window_reg_k1 x69 x27.committed
  else
  window_Window_reg_k1 x69 false
  else
  some (Sum.inl (w64 (x14 - 1)))
  else
  ((inA 34 p2).bind fun x91 =>
  some (p0.regs x91, true)).map Sum.inr
noncomputable def window_Window_reg_l1 (p0 : Twindow_Window) (p2 : Int) (x14 : Int) : Option (Int × Bool) := loopO (fun s => window_Window_reg_l1b p0 p2 s) x14
noncomputable def window_Window_reg (p0 : Twindow_Window) (p1 : Int) (p2 : Int) : Option (Int × Bool) :=
  window_Window_reg_l1 p0 p2 (w64 (p1 - 1))
noncomputable def window_Window_MayFetch_k1 (p0 : Twindow_Window) (x14 : Bool) : Option Bool :=
  if x14 then
  some false
  else
  (slices_ContainsFunc p0.slots).bind fun x24 =>
  if x24 then
  some false
  else
  (ix p0.img.code p0.pc).bind fun x36 =>
  (isa_Decode x36).bind fun x48 =>
  if decide (x48.1.op = 13) then
  (window_Window_reg p0 (p0.slots.length : Int) 33).bind fun x73 =>
  some x73.2
  else
  some true
noncomputable def window_Window_MayFetch (p0 : Twindow_Window) : Option Bool :=
  if p0.ended then
  window_Window_MayFetch_k1 p0 true
  else
  if decide (32 ≤ (p0.slots.length : Int)) then
  window_Window_MayFetch_k1 p0 true
  else
  if decide (p0.pc < 0) then
  window_Window_MayFetch_k1 p0 true
  else
  window_Window_MayFetch_k1 p0 (decide ((p0.img.code.length : Int) ≤ p0.pc))
noncomputable def window_Window_Fetch_k1 (p0 : Twindow_Window) (x49 : TInst × Int) (x68 : TNote) (x87 : Int) (x88 : Bool) (x89 : Int) : Option (Int × Twindow_Window) :=
  (ap p0.slots [(⟨w64 (p0.seq + 1), p0.pc, x49.1, x68, x87, x88, false, x89, 0, 0, 0⟩ : TSlot)]).bind fun xs99 =>
  some (0, (⟨p0.img, p0.t, p0.regs, xs99, x87, w64 (p0.seq + 1), p0.ended, p0.held, p0.at_, p0.from_, p0.log⟩ : Twindow_Window))
noncomputable def window_Window_Fetch_k2 (p0 : Twindow_Window) (x49 : TInst × Int) (x68 : TNote) (x179 : Bool) : Option (Int × Twindow_Window) :=
  if x179 then
  window_Window_Fetch_k1 p0 x49 x68 (w64 (p0.pc + 1)) true 0
  else
  window_Window_Fetch_k1 p0 x49 x68 (w64 (p0.pc + 1)) false 0
noncomputable def window_Window_Fetch (p0 : Twindow_Window) (p1 : Bool) : Option (Int × Twindow_Window) :=
  (window_Window_MayFetch p0).bind fun x22 =>
  if !x22 then
  some (1, p0)
  else
  (ix p0.img.code p0.pc).bind fun x37 =>
  (isa_Decode x37).bind fun x49 =>
  (ix p0.img.notes p0.pc).bind fun x68 =>
  if decide (x49.1.op = 11) then
  window_Window_Fetch_k1 p0 x49 x68 (w64 (p0.pc + x49.1.imm)) true 0
  else
  if decide (x49.1.op = 12) then
  window_Window_Fetch_k1 p0 x49 x68 (w64 (p0.pc + x49.1.imm)) true (w64 (p0.pc + 1))
  else
  if decide (x49.1.op = 13) then
  (window_Window_reg (⟨p0.img, p0.t, p0.regs, p0.slots, p0.pc, w64 (p0.seq + 1), p0.ended, p0.held, p0.at_, p0.from_, p0.log⟩ : Twindow_Window) (p0.slots.length : Int) 33).bind fun x152 =>
  window_Window_Fetch_k1 p0 x49 x68 x152.1 true 0
  else
  if decide (x49.1.op = 10) then
  if p1 then
  window_Window_Fetch_k1 p0 x49 x68 (w64 (p0.pc + x49.1.imm)) false 0
  else
  window_Window_Fetch_k1 p0 x49 x68 (w64 (p0.pc + 1)) false 0
  else
  if decide (x49.1.op = 18) then
  window_Window_Fetch_k2 p0 x49 x68 true
  else
  if decide (x49.1.op = 19) then
  window_Window_Fetch_k2 p0 x49 x68 true
  else
  if decide (x49.1.op = 20) then
  window_Window_Fetch_k2 p0 x49 x68 true
  else
  window_Window_Fetch_k2 p0 x49 x68 (decide (x49.1.op = 21))
noncomputable def window_Window_slot (p0 : Twindow_Window) (p1 : Int) : Option Bool :=
  some ((decide (0 ≤ p1)) && (decide (p1 < (p0.slots.length : Int))))
noncomputable def window_Window_MayCommit_c1 (p0 : TSlot) : Option Bool :=
  some ((decide (p0.i.op = 10)) && (!p0.committed))
noncomputable def slices_IndexFunc_2_l1b (p0 : List TSlot) (x6 : Int) : Option (Int ⊕ Int) :=
  if decide (x6 < (p0.length : Int)) then
  (ix p0 x6).bind fun x19 =>
  (window_Window_MayCommit_c1 x19).bind fun x34 =>
  if x34 then
  (some x6).map Sum.inr
  else
  some (Sum.inl (w64 (x6 + 1)))
  else
  (some (-1)).map Sum.inr
noncomputable def slices_IndexFunc_2_l1 (p0 : List TSlot) (x6 : Int) : Option Int := loopO (fun s => slices_IndexFunc_2_l1b p0 s) x6
noncomputable def slices_IndexFunc_2 (p0 : List TSlot) : Option Int :=
  slices_IndexFunc_2_l1 p0 0
noncomputable def slices_ContainsFunc_2 (p0 : List TSlot) : Option Bool :=
  (slices_IndexFunc_2 p0).bind fun x6 =>
  some (decide (0 ≤ x6))
noncomputable def window_fence (p0 : Int) : Option Bool :=
  some (((decide (p0 = 18)) || (decide (p0 = 19))) || (decide (p0 = 20)))
noncomputable def storage_Storage_thread (p0 : Tstorage_Storage) (p1 : Int) : Option Bool :=
  some ((decide (0 ≤ p1)) && (decide (p1 < (p0.seen.length : Int))))
noncomputable def storage_Storage_Seen (p0 : Tstorage_Storage) (p1 : Int) (p2 : Int) : Option Bool :=
  (storage_Storage_thread p0 p1).bind fun x17 =>
  (if x17 then
  (ix p0.has p1).bind fun x34 =>
  some ((mG x34 p2).getD false)
  else
  some false).bind fun y24 =>
  some y24
noncomputable def storage_Storage_Acked_l1b (p0 : Tstorage_Storage) (p1 : Int) (x31 : Int) : Option (Int ⊕ Bool) :=
  if decide (x31 < (p0.seen.length : Int)) then
  (storage_Storage_Seen p0 x31 p1).bind fun x45 =>
  if !x45 then
  (some false).map Sum.inr
  else
  some (Sum.inl (w64 (x31 + 1)))
  else
  (some true).map Sum.inr
noncomputable def storage_Storage_Acked_l1 (p0 : Tstorage_Storage) (p1 : Int) (x31 : Int) : Option Bool := loopO (fun s => storage_Storage_Acked_l1b p0 p1 s) x31
noncomputable def storage_Storage_Acked (p0 : Tstorage_Storage) (p1 : Int) : Option Bool :=
  (if (decide (p1 < 1)) || (decide ((p0.events.length : Int) < p1)) then
  some true
  else
  (ix p0.events (w64 (p1 - 1))).bind fun x65 =>
  some (!x65.bar)).bind fun y21 =>
  if y21 then
  some false
  else
  storage_Storage_Acked_l1 p0 p1 0
noncomputable def window_passed (p0 : TSlot) (p1 : Tstorage_Storage) : Option Bool :=
  (window_fence p0.i.op).bind fun x23 =>
  (if !x23 then
  some true
  else
  (if p0.committed then
  (if decide (p0.i.op ≠ 18) then
  some true
  else
  (storage_Storage_Acked p1 p0.id).bind fun x66 =>
  some x66).bind fun y54 =>
  some y54
  else
  some false).bind fun y44 =>
  some y44).bind fun y30 =>
  some y30
noncomputable def window_Window_fenced_c1 (p0 : TSlot) (p1 : Tstorage_Storage) : Option Bool :=
  (window_passed p0 p1).bind fun x27 =>
  some (!x27)
noncomputable def slices_IndexFunc_3_l1b (p0 : List TSlot) (p1_10 : Tstorage_Storage) (x25 : Int) : Option (Int ⊕ Int) :=
  if decide (x25 < (p0.length : Int)) then
  (ix p0 x25).bind fun x38 =>
  (window_Window_fenced_c1 x38 p1_10).bind fun x54 =>
  if x54 then
  (some x25).map Sum.inr
  else
  some (Sum.inl (w64 (x25 + 1)))
  else
  (some (-1)).map Sum.inr
noncomputable def slices_IndexFunc_3_l1 (p0 : List TSlot) (p1_10 : Tstorage_Storage) (x25 : Int) : Option Int := loopO (fun s => slices_IndexFunc_3_l1b p0 p1_10 s) x25
noncomputable def slices_IndexFunc_3 (p0 : List TSlot) (p1_10 : Tstorage_Storage) : Option Int :=
  slices_IndexFunc_3_l1 p0 p1_10 0
noncomputable def slices_ContainsFunc_3 (p0 : List TSlot) (p1_10 : Tstorage_Storage) : Option Bool :=
  (slices_IndexFunc_3 p0 p1_10).bind fun x25 =>
  some (decide (0 ≤ x25))
noncomputable def window_Window_fenced (p0 : Twindow_Window) (p1 : Int) (p2 : Tstorage_Storage) : Option Bool :=
  (cutL p0.slots 0 p1).bind fun xs35 =>
  (slices_ContainsFunc_3 xs35 p2).bind fun x43 =>
  some (!x43)
noncomputable def window_Window_MayCommit_c2 (p0 : TSlot) : Option Bool :=
  some (!p0.committed)
noncomputable def slices_IndexFunc_4_l1b (p0 : List TSlot) (x6 : Int) : Option (Int ⊕ Int) :=
  if decide (x6 < (p0.length : Int)) then
  (ix p0 x6).bind fun x19 =>
  (window_Window_MayCommit_c2 x19).bind fun x34 =>
  if x34 then
  (some x6).map Sum.inr
  else
  some (Sum.inl (w64 (x6 + 1)))
  else
  (some (-1)).map Sum.inr
noncomputable def slices_IndexFunc_4_l1 (p0 : List TSlot) (x6 : Int) : Option Int := loopO (fun s => slices_IndexFunc_4_l1b p0 s) x6
noncomputable def slices_IndexFunc_4 (p0 : List TSlot) : Option Int :=
  slices_IndexFunc_4_l1 p0 0
noncomputable def slices_ContainsFunc_4 (p0 : List TSlot) : Option Bool :=
  (slices_IndexFunc_4 p0).bind fun x6 =>
  some (decide (0 ≤ x6))
noncomputable def window_load (p0 : Int) : Option Bool :=
  some ((decide (p0 = 1)) || (decide (p0 = 16)))
noncomputable def window_store (p0 : Int) : Option Bool :=
  some ((decide (p0 = 2)) || (decide (p0 = 17)))
noncomputable def window_memory (p0 : Int) : Option Bool :=
  (window_load p0).bind fun x1 =>
  (if x1 then
  some true
  else
  (window_store p0).bind fun x20 =>
  some x20).bind fun y8 =>
  some y8
noncomputable def window_Window_MayCommit_c3 (p0 : TSlot) : Option Bool :=
  (window_memory p0.i.op).bind fun x7 =>
  some (x7 && (!p0.committed))
noncomputable def slices_IndexFunc_5_l1b (p0 : List TSlot) (x6 : Int) : Option (Int ⊕ Int) :=
  if decide (x6 < (p0.length : Int)) then
  (ix p0 x6).bind fun x19 =>
  (window_Window_MayCommit_c3 x19).bind fun x34 =>
  if x34 then
  (some x6).map Sum.inr
  else
  some (Sum.inl (w64 (x6 + 1)))
  else
  (some (-1)).map Sum.inr
noncomputable def slices_IndexFunc_5_l1 (p0 : List TSlot) (x6 : Int) : Option Int := loopO (fun s => slices_IndexFunc_5_l1b p0 s) x6
noncomputable def slices_IndexFunc_5 (p0 : List TSlot) : Option Int :=
  slices_IndexFunc_5_l1 p0 0
noncomputable def slices_ContainsFunc_5 (p0 : List TSlot) : Option Bool :=
  (slices_IndexFunc_5 p0).bind fun x6 =>
  some (decide (0 ≤ x6))
noncomputable def window_Window_base (p0 : Twindow_Window) (p1 : Int) (p2 : Int) : Option (Int × Bool) :=
  if decide (p2 = 0) then
  some (0, true)
  else
  (window_Window_reg p0 p1 p2).bind fun x17 =>
  some (x17.1, x17.2)
noncomputable def window_Window_place (p0 : Twindow_Window) (p1 : Int) : Option (Int × Bool) :=
  (ix p0.slots p1).bind fun x14 =>
  if (decide (x14.i.op = 16)) || (decide (x14.i.op = 17)) then
  (window_Window_base p0 p1 x14.i.a).bind fun x48 =>
  (window_Window_reg p0 p1 x14.i.b).bind fun x59 =>
  some (w64 (x48.1 + x59.1), x48.2 && x59.2)
  else
  (window_Window_base p0 p1 x14.i.a).bind fun x82 =>
  some (w64 (x82.1 + x14.i.imm), x82.2)
noncomputable def window_Window_known_l1b (p0 : Twindow_Window) (xs14 : List TSlot) (x20 : Int) : Option (Int ⊕ Bool) :=
  if decide (x20 < (xs14.length : Int)) then
  (ix xs14 x20).bind fun x33 =>
  (window_Window_place p0 x20).bind fun x61 =>
  (window_memory x33.i.op).bind fun x69 =>
  if (x69 && (!x33.committed)) && (!x61.2) then
  (some false).map Sum.inr
  else
  some (Sum.inl (w64 (x20 + 1)))
  else
  (some true).map Sum.inr
noncomputable def window_Window_known_l1 (p0 : Twindow_Window) (xs14 : List TSlot) (x20 : Int) : Option Bool := loopO (fun s => window_Window_known_l1b p0 xs14 s) x20
noncomputable def window_Window_known (p0 : Twindow_Window) (p1 : Int) : Option Bool :=
  (cutL p0.slots 0 p1).bind fun xs14 =>
  window_Window_known_l1 p0 xs14 0
noncomputable def window_Window_waits_l1b (p0 : Twindow_Window) (p2 : Int) (x14 : Int) : Option (Int ⊕ (Int × Bool)) :=
  if decide (0 ≤ x14) then
  (ix p0.slots x14).bind fun x27 =>
  (window_Window_place p0 x14).bind fun x55 =>
  (window_memory x27.i.op).bind fun x63 =>
  if (x63 && (!x27.committed)) && (decide (x55.1 = p2)) then
  (some (x14, true)).map Sum.inr
  else
  some (Sum.inl (w64 (x14 - 1)))
  else
  (some (0, false)).map Sum.inr
noncomputable def window_Window_waits_l1 (p0 : Twindow_Window) (p2 : Int) (x14 : Int) : Option (Int × Bool) := loopO (fun s => window_Window_waits_l1b p0 p2 s) x14
noncomputable def window_Window_waits (p0 : Twindow_Window) (p1 : Int) (p2 : Int) : Option (Int × Bool) :=
  window_Window_waits_l1 p0 p2 (w64 (p1 - 1))
noncomputable def window_Window_MayCommit_c4 (p0 : TSlot) : Option Bool :=
  some ((decide (p0.i.op = 16)) && (!p0.committed))
noncomputable def slices_IndexFunc_6_l1b (p0 : List TSlot) (x6 : Int) : Option (Int ⊕ Int) :=
  if decide (x6 < (p0.length : Int)) then
  (ix p0 x6).bind fun x19 =>
  (window_Window_MayCommit_c4 x19).bind fun x34 =>
  if x34 then
  (some x6).map Sum.inr
  else
  some (Sum.inl (w64 (x6 + 1)))
  else
  (some (-1)).map Sum.inr
noncomputable def slices_IndexFunc_6_l1 (p0 : List TSlot) (x6 : Int) : Option Int := loopO (fun s => slices_IndexFunc_6_l1b p0 s) x6
noncomputable def slices_IndexFunc_6 (p0 : List TSlot) : Option Int :=
  slices_IndexFunc_6_l1 p0 0
noncomputable def slices_ContainsFunc_6 (p0 : List TSlot) : Option Bool :=
  (slices_IndexFunc_6 p0).bind fun x6 =>
  some (decide (0 ≤ x6))
noncomputable def storage_Storage_Last (p0 : Tstorage_Storage) (p1 : Int) : Option Int :=
  some ((mG p0.last p1).getD 0)
noncomputable def window_Window_MayCommit_k1 : Option Bool :=
  some true
noncomputable def window_Window_MayCommit_k2 (x279 : Bool) : Option Bool :=
  some x279
noncomputable def window_Window_MayCommit (p0 : Twindow_Window) (p1 : Int) (p2 : Bool) (p3 : Tstorage_Storage) : Option Bool :=
  (window_Window_slot p0 p1).bind fun x30 =>
  (if !x30 then
  some true
  else
  (ix p0.slots p1).bind fun x380 =>
  some (!x380.done)).bind fun y37 =>
  (if y37 then
  some true
  else
  (ix p0.slots p1).bind fun x361 =>
  some x361.committed).bind fun y44 =>
  if y44 then
  some false
  else
  (ix p0.slots p1).bind fun x54 =>
  (cutL p0.slots 0 p1).bind fun xs76 =>
  (slices_ContainsFunc_2 xs76).bind fun x85 =>
  if x85 then
  some false
  else
  if (decide (x54.i.op = 22)) || (decide (x54.i.op = 21)) then
  (window_Window_fenced p0 p1 p3).bind fun x114 =>
  (if x114 then
  (slices_ContainsFunc_4 xs76).bind fun x135 =>
  some (!x135)
  else
  some false).bind fun y121 =>
  some y121
  else
  if (decide (x54.i.op = 18)) || (decide (x54.i.op = 19)) then
  (window_Window_fenced p0 p1 p3).bind fun x156 =>
  (if x156 then
  (slices_ContainsFunc_5 xs76).bind fun x177 =>
  some (!x177)
  else
  some false).bind fun y163 =>
  some y163
  else
  if decide (x54.i.op = 20) then
  (window_Window_fenced p0 p1 p3).bind fun x194 =>
  (if x194 then
  (window_Window_known p0 p1).bind fun x217 =>
  some x217
  else
  some false).bind fun y201 =>
  some y201
  else
  (window_memory x54.i.op).bind fun x226 =>
  if x226 then
  (window_Window_waits p0 p1 x54.at_).bind fun x241 =>
  (if x241.2 then
  some true
  else
  (window_Window_fenced p0 p1 p3).bind fun x342 =>
  some (!x342)).bind fun y248 =>
  (if y248 then
  some true
  else
  (window_Window_known p0 p1).bind fun x327 =>
  some (!x327)).bind fun y255 =>
  if y255 then
  some false
  else
  if decide (x54.i.op = 17) then
  (slices_ContainsFunc_6 xs76).bind fun x272 =>
  if !x272 then
  if !p2 then
  window_Window_MayCommit_k2 true
  else
  if p0.held then
  if decide (p0.at_ = x54.at_) then
  (storage_Storage_Last p3 x54.at_).bind fun x303 =>
  window_Window_MayCommit_k2 (decide (x303 = p0.from_))
  else
  window_Window_MayCommit_k2 false
  else
  window_Window_MayCommit_k2 false
  else
  window_Window_MayCommit_k2 false
  else
  window_Window_MayCommit_k1
  else
  window_Window_MayCommit_k1
noncomputable def storage_Storage_Read (p0 : Tstorage_Storage) (p1 : Int) (p2 : Int) : Option (Int × Int) :=
  (storage_Storage_thread p0 p1).bind fun x17 =>
  if !x17 then
  some (0, 0)
  else
  (ix p0.now p1).bind fun x29 =>
  if decide (((mG x29 p2).getD 0) = 0) then
  some (0, 0)
  else
  (ix p0.events (w64 (((mG x29 p2).getD 0) - 1))).bind fun x51 =>
  some (x51.val, (mG x29 p2).getD 0)
noncomputable def window_Window_source_k1 (x132 : Int) : Option (Int ⊕ (Int × Int × Int × Bool)) :=
  some (Sum.inl (w64 (x132 - 1)))
noncomputable def window_Window_source_l1b (p0 : Twindow_Window) (p2 : Tstorage_Storage) (x30 : Int × Bool) (x132 : Int) : Option (Int ⊕ (Int × Int × Int × Bool)) :=
  if decide (0 ≤ x132) then
  (ix p0.slots x132).bind fun x151 =>
  (window_Window_place p0 x132).bind fun x174 =>
  (if decide (x174.1 ≠ x30.1) then
  some true
  else
  (window_memory x151.i.op).bind fun x227 =>
  some (!x227)).bind fun y181 =>
  if y181 || x151.committed then
  window_Window_source_k1 x132
  else
  if (!x151.done) || (decide (x151.i.op = 17)) then
  (some (0, 0, 0, false)).map Sum.inr
  else
  if decide (x151.i.op = 2) then
  (some (x30.1, x151.val, IntKind.wrap .i64 (0 - x151.seq), true)).map Sum.inr
  else
  window_Window_source_k1 x132
  else
  ((storage_Storage_Read p2 p0.t x30.1).bind fun x239 =>
  some (x30.1, x239.1, x239.2, true)).map Sum.inr
noncomputable def window_Window_source_l1 (p0 : Twindow_Window) (p2 : Tstorage_Storage) (x30 : Int × Bool) (x132 : Int) : Option (Int × Int × Int × Bool) := loopO (fun s => window_Window_source_l1b p0 p2 x30 s) x132
noncomputable def window_Window_source (p0 : Twindow_Window) (p1 : Int) (p2 : Tstorage_Storage) : Option (Int × Int × Int × Bool) :=
  (window_Window_place p0 p1).bind fun x30 =>
  (if !x30.2 then
  some true
  else
  (window_Window_fenced p0 p1 p2).bind fun x278 =>
  some (!x278)).bind fun y37 =>
  (if y37 then
  some true
  else
  (window_Window_known p0 p1).bind fun x262 =>
  some (!x262)).bind fun y44 =>
  if y44 then
  some (0, 0, 0, false)
  else
  (window_Window_waits p0 p1 x30.1).bind fun x60 =>
  if !x60.2 then
  (storage_Storage_Read p2 p0.t x30.1).bind fun x72 =>
  some (x30.1, x72.1, x72.2, true)
  else
  (ix p0.slots x60.1).bind fun x83 =>
  (ix p0.slots p1).bind fun x105 =>
  if ((decide (x105.i.op = 16)) || (decide (x83.i.op = 17))) || (!x83.done) then
  some (0, 0, 0, false)
  else
  if decide (x83.i.op = 2) then
  some (x30.1, x83.val, IntKind.wrap .i64 (0 - x83.seq), true)
  else
  window_Window_source_l1 p0 p2 x30 (w64 (x60.1 - 1))
noncomputable def window_divide (p0 : Int) (p1 : Int) : Option Int :=
  if decide (p1 = 0) then
  some 0
  else
  if decide (p1 = (-1)) then
  some (IntKind.wrap .i64 (0 - p0))
  else
  (quoO .i64 p0 p1).bind fun x7 =>
  some x7
noncomputable def window_order (p0 : Int) (p1 : Int) : Option Int :=
  if decide (p0 < p1) then
  some 0
  else
  if decide (p1 < p0) then
  some 1
  else
  some 2
noncomputable def window_Window_reckon_k1 (p0 : Twindow_Window) (p1 : Int) (x14 : TSlot) (x54 : Bool) : Option (Int × Bool) :=
  if x54 then
  (window_Window_reg p0 p1 x14.i.a).bind fun x66 =>
  (window_Window_reg p0 p1 x14.i.b).bind fun x77 =>
  (window_divide x66.1 x77.1).bind fun x85 =>
  (window_order x66.1 x77.1).bind fun x94 =>
  (ix ([w64 (x66.1 + x77.1), w64 (x77.1 - x66.1), w64 (x66.1 * x77.1), x85, x94] : List Int) (w64 (x14.i.op - 4))).bind fun x102 =>
  some (x102, x66.2 && x77.2)
  else
  if decide (x14.i.op = 9) then
  (window_Window_reg p0 p1 x14.i.a).bind fun x125 =>
  (window_order x125.1 x14.i.imm).bind fun x133 =>
  some (x133, x125.2)
  else
  if decide (x14.i.op = 10) then
  (window_Window_reg p0 p1 32).bind fun x150 =>
  some (x150.1, x150.2)
  else
  if decide (x14.i.op = 14) then
  (window_Window_reg p0 p1 33).bind fun x167 =>
  some (x167.1, x167.2)
  else
  (window_Window_reg p0 p1 x14.i.d).bind fun x182 =>
  some (x182.1, x182.2)
noncomputable def window_Window_reckon (p0 : Twindow_Window) (p1 : Int) : Option (Int × Bool) :=
  (ix p0.slots p1).bind fun x14 =>
  if decide (x14.i.op = 3) then
  (window_Window_base p0 p1 x14.i.a).bind fun x44 =>
  some (w64 (x44.1 + x14.i.imm), x44.2)
  else
  if decide (x14.i.op = 4) then
  window_Window_reckon_k1 p0 p1 x14 true
  else
  if decide (x14.i.op = 5) then
  window_Window_reckon_k1 p0 p1 x14 true
  else
  if decide (x14.i.op = 6) then
  window_Window_reckon_k1 p0 p1 x14 true
  else
  if decide (x14.i.op = 7) then
  window_Window_reckon_k1 p0 p1 x14 true
  else
  window_Window_reckon_k1 p0 p1 x14 (decide (x14.i.op = 8))
noncomputable def window_Window_MayExec (p0 : Twindow_Window) (p1 : Int) (p2 : Tstorage_Storage) : Option Bool :=
  (window_Window_slot p0 p1).bind fun x30 =>
  (if !x30 then
  some true
  else
  (ix p0.slots p1).bind fun x154 =>
  some x154.done).bind fun y37 =>
  if y37 then
  some false
  else
  (ix p0.slots p1).bind fun x47 =>
  (window_load x47.i.op).bind fun x62 =>
  if x62 then
  (window_Window_source p0 p1 p2).bind fun x76 =>
  some x76.2.2.2
  else
  (window_store x47.i.op).bind fun x86 =>
  if x86 then
  (window_Window_place p0 p1).bind fun x100 =>
  (ix p0.slots p1).bind fun x107 =>
  (window_Window_reg p0 p1 x107.i.d).bind fun x120 =>
  some (x100.2 && x120.2)
  else
  (window_Window_reckon p0 p1).bind fun x141 =>
  some x141.2
noncomputable def window_Window_Exec_k3 (p0 : Twindow_Window) (xs105 : List TSlot) (x106 : Int) : Option (Int × Twindow_Window) :=
  some (0, (⟨p0.img, p0.t, p0.regs, xs105, x106, p0.seq, p0.ended, p0.held, p0.at_, p0.from_, p0.log⟩ : Twindow_Window))
noncomputable def window_Window_Exec_k2 (p0 : Twindow_Window) (p1 : Int) (xs70 : List TSlot) (x98 : Int) : Option (Int × Twindow_Window) :=
  (ix xs70 p1).bind fun x115 =>
  if decide (x98 ≠ x115.next) then
  (ix xs70 p1).bind fun x125 =>
  (cutL (xs70.set (Int.toNat p1) (⟨x125.seq, x125.pc, x125.i, x125.note, x98, x125.done, x125.committed, x125.val, x125.at_, x125.from_, x125.id⟩ : TSlot)) 0 (w64 (p1 + 1))).bind fun xs136 =>
  window_Window_Exec_k3 p0 xs136 x98
  else
  window_Window_Exec_k3 p0 xs70 p0.pc
noncomputable def window_Window_Exec_k1 (p0 : Twindow_Window) (p1 : Int) (xs70 : List TSlot) : Option (Int × Twindow_Window) :=
  (ix xs70 p1).bind fun x75 =>
  if decide (x75.i.op ≠ 10) then
  some (0, (⟨p0.img, p0.t, p0.regs, xs70, p0.pc, p0.seq, p0.ended, p0.held, p0.at_, p0.from_, p0.log⟩ : Twindow_Window))
  else
  (ix xs70 p1).bind fun x90 =>
  (ix xs70 p1).bind fun x152 =>
  (ix xs70 p1).bind fun x160 =>
  (ix xs70 p1).bind fun x168 =>
  if (decide (x152.val = x160.i.a)) == (decide (x168.i.d = 12)) then
  (ix xs70 p1).bind fun x178 =>
  (ix xs70 p1).bind fun x186 =>
  window_Window_Exec_k2 p0 p1 xs70 (w64 (x178.pc + x186.i.imm))
  else
  window_Window_Exec_k2 p0 p1 xs70 (w64 (x90.pc + 1))
noncomputable def window_Window_Exec (p0 : Twindow_Window) (p1 : Int) (p2 : Tstorage_Storage) : Option (Int × Twindow_Window) :=
  (window_Window_MayExec p0 p1 p2).bind fun x38 =>
  if !x38 then
  some (1, p0)
  else
  (ix p0.slots p1).bind fun x53 =>
  (ix (p0.slots.set (Int.toNat p1) (⟨x53.seq, x53.pc, x53.i, x53.note, x53.next, true, x53.committed, x53.val, x53.at_, x53.from_, x53.id⟩ : TSlot)) p1).bind fun x195 =>
  (window_load x195.i.op).bind fun x205 =>
  if x205 then
  (window_Window_source (⟨p0.img, p0.t, p0.regs, p0.slots.set (Int.toNat p1) (⟨x53.seq, x53.pc, x53.i, x53.note, x53.next, true, x53.committed, x53.val, x53.at_, x53.from_, x53.id⟩ : TSlot), p0.pc, p0.seq, p0.ended, p0.held, p0.at_, p0.from_, p0.log⟩ : Twindow_Window) p1 p2).bind fun x219 =>
  (ix (p0.slots.set (Int.toNat p1) (⟨x53.seq, x53.pc, x53.i, x53.note, x53.next, true, x53.committed, x53.val, x53.at_, x53.from_, x53.id⟩ : TSlot)) p1).bind fun x226 =>
  (ix ((p0.slots.set (Int.toNat p1) (⟨x53.seq, x53.pc, x53.i, x53.note, x53.next, true, x53.committed, x53.val, x53.at_, x53.from_, x53.id⟩ : TSlot)).set (Int.toNat p1) (⟨x226.seq, x226.pc, x226.i, x226.note, x226.next, x226.done, x226.committed, x226.val, x219.1, x226.from_, x226.id⟩ : TSlot)) p1).bind fun x237 =>
  (ix (((p0.slots.set (Int.toNat p1) (⟨x53.seq, x53.pc, x53.i, x53.note, x53.next, true, x53.committed, x53.val, x53.at_, x53.from_, x53.id⟩ : TSlot)).set (Int.toNat p1) (⟨x226.seq, x226.pc, x226.i, x226.note, x226.next, x226.done, x226.committed, x226.val, x219.1, x226.from_, x226.id⟩ : TSlot)).set (Int.toNat p1) (⟨x237.seq, x237.pc, x237.i, x237.note, x237.next, x237.done, x237.committed, x219.2.1, x237.at_, x237.from_, x237.id⟩ : TSlot)) p1).bind fun x248 =>
  window_Window_Exec_k1 p0 p1 ((((p0.slots.set (Int.toNat p1) (⟨x53.seq, x53.pc, x53.i, x53.note, x53.next, true, x53.committed, x53.val, x53.at_, x53.from_, x53.id⟩ : TSlot)).set (Int.toNat p1) (⟨x226.seq, x226.pc, x226.i, x226.note, x226.next, x226.done, x226.committed, x226.val, x219.1, x226.from_, x226.id⟩ : TSlot)).set (Int.toNat p1) (⟨x237.seq, x237.pc, x237.i, x237.note, x237.next, x237.done, x237.committed, x219.2.1, x237.at_, x237.from_, x237.id⟩ : TSlot)).set (Int.toNat p1) (⟨x248.seq, x248.pc, x248.i, x248.note, x248.next, x248.done, x248.committed, x248.val, x248.at_, x219.2.2.1, x248.id⟩ : TSlot))
  else
  (ix (p0.slots.set (Int.toNat p1) (⟨x53.seq, x53.pc, x53.i, x53.note, x53.next, true, x53.committed, x53.val, x53.at_, x53.from_, x53.id⟩ : TSlot)) p1).bind fun x261 =>
  (window_store x261.i.op).bind fun x270 =>
  if x270 then
  (window_Window_place (⟨p0.img, p0.t, p0.regs, p0.slots.set (Int.toNat p1) (⟨x53.seq, x53.pc, x53.i, x53.note, x53.next, true, x53.committed, x53.val, x53.at_, x53.from_, x53.id⟩ : TSlot), p0.pc, p0.seq, p0.ended, p0.held, p0.at_, p0.from_, p0.log⟩ : Twindow_Window) p1).bind fun x284 =>
  (ix (p0.slots.set (Int.toNat p1) (⟨x53.seq, x53.pc, x53.i, x53.note, x53.next, true, x53.committed, x53.val, x53.at_, x53.from_, x53.id⟩ : TSlot)) p1).bind fun x291 =>
  (ix ((p0.slots.set (Int.toNat p1) (⟨x53.seq, x53.pc, x53.i, x53.note, x53.next, true, x53.committed, x53.val, x53.at_, x53.from_, x53.id⟩ : TSlot)).set (Int.toNat p1) (⟨x291.seq, x291.pc, x291.i, x291.note, x291.next, x291.done, x291.committed, x291.val, x284.1, x291.from_, x291.id⟩ : TSlot)) p1).bind fun x302 =>
  (window_Window_reg (⟨p0.img, p0.t, p0.regs, (p0.slots.set (Int.toNat p1) (⟨x53.seq, x53.pc, x53.i, x53.note, x53.next, true, x53.committed, x53.val, x53.at_, x53.from_, x53.id⟩ : TSlot)).set (Int.toNat p1) (⟨x291.seq, x291.pc, x291.i, x291.note, x291.next, x291.done, x291.committed, x291.val, x284.1, x291.from_, x291.id⟩ : TSlot), p0.pc, p0.seq, p0.ended, p0.held, p0.at_, p0.from_, p0.log⟩ : Twindow_Window) p1 x302.i.d).bind fun x315 =>
  (ix ((p0.slots.set (Int.toNat p1) (⟨x53.seq, x53.pc, x53.i, x53.note, x53.next, true, x53.committed, x53.val, x53.at_, x53.from_, x53.id⟩ : TSlot)).set (Int.toNat p1) (⟨x291.seq, x291.pc, x291.i, x291.note, x291.next, x291.done, x291.committed, x291.val, x284.1, x291.from_, x291.id⟩ : TSlot)) p1).bind fun x322 =>
  window_Window_Exec_k1 p0 p1 (((p0.slots.set (Int.toNat p1) (⟨x53.seq, x53.pc, x53.i, x53.note, x53.next, true, x53.committed, x53.val, x53.at_, x53.from_, x53.id⟩ : TSlot)).set (Int.toNat p1) (⟨x291.seq, x291.pc, x291.i, x291.note, x291.next, x291.done, x291.committed, x291.val, x284.1, x291.from_, x291.id⟩ : TSlot)).set (Int.toNat p1) (⟨x322.seq, x322.pc, x322.i, x322.note, x322.next, x322.done, x322.committed, x315.1, x322.at_, x322.from_, x322.id⟩ : TSlot))
  else
  (window_Window_reckon (⟨p0.img, p0.t, p0.regs, p0.slots.set (Int.toNat p1) (⟨x53.seq, x53.pc, x53.i, x53.note, x53.next, true, x53.committed, x53.val, x53.at_, x53.from_, x53.id⟩ : TSlot), p0.pc, p0.seq, p0.ended, p0.held, p0.at_, p0.from_, p0.log⟩ : Twindow_Window) p1).bind fun x340 =>
  (ix (p0.slots.set (Int.toNat p1) (⟨x53.seq, x53.pc, x53.i, x53.note, x53.next, true, x53.committed, x53.val, x53.at_, x53.from_, x53.id⟩ : TSlot)) p1).bind fun x347 =>
  window_Window_Exec_k1 p0 p1 ((p0.slots.set (Int.toNat p1) (⟨x53.seq, x53.pc, x53.i, x53.note, x53.next, true, x53.committed, x53.val, x53.at_, x53.from_, x53.id⟩ : TSlot)).set (Int.toNat p1) (⟨x347.seq, x347.pc, x347.i, x347.note, x347.next, x347.done, x347.committed, x340.1, x347.at_, x347.from_, x347.id⟩ : TSlot))
noncomputable def slices_Grow_k1 (xs8 : List TSlot) : Option (List TSlot) :=
  some xs8
noncomputable def slices_Grow (p1 : Int) : Option (List TSlot) :=
  if decide (p1 < 0) then
  none
  else
  if decide (0 < (w64 (p1 - (w64 (0 - 0))))) then
  (mkP (w64 (p1 - (w64 (0 - 0)))) (⟨0, 0, (⟨0, 0, 0, 0, 0⟩ : TInst), (⟨0, 0, false, false⟩ : TNote), 0, false, false, 0, 0, 0, 0⟩ : TSlot)).bind fun xs15 =>
  (cutL xs15 0 0).bind fun xs23 =>
  slices_Grow_k1 xs23
  else
  slices_Grow_k1 []
noncomputable def slices_Concat_l2b (p0 : List (List TSlot)) (xs51 : List TSlot) (x52 : Int) : Option (((List TSlot) × Int) ⊕ (List TSlot)) :=
  if decide (x52 < (p0.length : Int)) then
  (ix p0 x52).bind fun x66 =>
  (ap xs51 x66).bind fun xs79 =>
  some (Sum.inl (xs79, w64 (x52 + 1)))
  else
  (some xs51).map Sum.inr
noncomputable def slices_Concat_l2 (p0 : List (List TSlot)) (xs51 : List TSlot) (x52 : Int) : Option (List TSlot) := loopO (fun s => slices_Concat_l2b p0 s.1 s.2) (xs51, x52)
noncomputable def slices_Concat_l1b (p0 : List (List TSlot)) (x6 : Int) (x7 : Int) : Option ((Int × Int) ⊕ (List TSlot)) :=
  if decide (x7 < (p0.length : Int)) then
  (ix p0 x7).bind fun x20 =>
  if decide ((w64 (x6 + (x20.length : Int))) < 0) then
  none
  else
  some (Sum.inl (w64 (x6 + (x20.length : Int)), w64 (x7 + 1)))
  else
  ((slices_Grow x6).bind fun x40 =>
  slices_Concat_l2 p0 x40 0).map Sum.inr
noncomputable def slices_Concat_l1 (p0 : List (List TSlot)) (x6 : Int) (x7 : Int) : Option (List TSlot) := loopO (fun s => slices_Concat_l1b p0 s.1 s.2) (x6, x7)
noncomputable def slices_Concat (p0 : List (List TSlot)) : Option (List TSlot) :=
  slices_Concat_l1 p0 0 0
noncomputable def window_Window_number_l1b (p1 : Int) (x22 : List TSlot) (x33 : Int) : Option (Int ⊕ Int) :=
  if decide (x33 < (x22.length : Int)) then
  (ix x22 x33).bind fun x47 =>
  if decide (x47.seq = p1) then
  (some x47.id).map Sum.inr
  else
  some (Sum.inl (w64 (x33 + 1)))
  else
  (some 0).map Sum.inr
noncomputable def window_Window_number_l1 (p1 : Int) (x22 : List TSlot) (x33 : Int) : Option Int := loopO (fun s => window_Window_number_l1b p1 x22 s) x33
noncomputable def window_Window_number (p0 : Twindow_Window) (p1 : Int) : Option Int :=
  (slices_Concat [p0.slots, p0.log]).bind fun x22 =>
  window_Window_number_l1 p1 x22 0
noncomputable def storage_Storage_come (p0 : Tstorage_Storage) (p1 : Int) (p2 : Int) : Option Tstorage_Storage :=
  (ix p0.seen p1).bind fun x28 =>
  (ap x28 [p2]).bind fun xs46 =>
  (ix p0.seen p1).bind fun x54 =>
  (ix p0.has p1).bind fun x61 =>
  (ix p0.events (w64 (p2 - 1))).bind fun x77 =>
  if !x77.bar then
  (ix p0.now p1).bind fun x102 =>
  some (⟨p0.events, p0.seen.set (Int.toNat p1) xs46, p0.has.set (Int.toNat p1) (mS x61 p2 true), p0.now.set (Int.toNat p1) (mS x102 x77.at_ p2), p0.last⟩ : Tstorage_Storage)
  else
  some (⟨p0.events, p0.seen.set (Int.toNat p1) xs46, p0.has.set (Int.toNat p1) (mS x61 p2 true), p0.now, p0.last⟩ : Tstorage_Storage)
noncomputable def storage_Storage_accept_k1 (p0 : Tstorage_Storage) (p1 : TStored) (xs40 : List TStored) (xs51 : List (Int × Int)) : Option (Int × Tstorage_Storage) :=
  (storage_Storage_come (⟨xs40, p0.seen, p0.has, p0.now, xs51⟩ : Tstorage_Storage) p1.thread (xs40.length : Int)).bind fun x58 =>
  some ((xs40.length : Int), x58)
noncomputable def storage_Storage_accept (p0 : Tstorage_Storage) (p1 : TStored) : Option (Int × Tstorage_Storage) :=
  (ap p0.events [p1]).bind fun xs40 =>
  if !p1.bar then
  storage_Storage_accept_k1 p0 p1 xs40 (mS p0.last p1.at_ (xs40.length : Int))
  else
  storage_Storage_accept_k1 p0 p1 xs40 p0.last
noncomputable def storage_Storage_Write (p0 : Tstorage_Storage) (p1 : Int) (p2 : Int) (p3 : Int) : Option (Int × Tstorage_Storage) :=
  (storage_Storage_thread p0 p1).bind fun x30 =>
  if !x30 then
  some (0, p0)
  else
  (storage_Storage_accept p0 (⟨p1, false, p2, p3⟩ : TStored)).bind fun x43 =>
  some (x43.1, x43.2)
noncomputable def storage_Storage_Barrier (p0 : Tstorage_Storage) (p1 : Int) : Option (Int × Tstorage_Storage) :=
  (storage_Storage_thread p0 p1).bind fun x30 =>
  if !x30 then
  some (0, p0)
  else
  (storage_Storage_accept p0 (⟨p1, true, 0, 0⟩ : TStored)).bind fun x43 =>
  some (x43.1, x43.2)
noncomputable def window_Window_Retire_k1 (xs43 : List TSlot) (xs46 : List TSlot) (x73 : TSlot) (x95 : Nat → Int) : Option (((Nat → Int) × (List TSlot) × (List TSlot)) ⊕ Twindow_Window) :=
  (ap xs46 [x73]).bind fun xs105 =>
  (cutL xs43 1 (xs43.length : Int)).bind fun xs113 =>
  some (Sum.inl (x95, xs113, xs105))
noncomputable def window_Window_Retire_l1b (p0 : Twindow_Window) (p1 : Tstorage_Storage) (x40 : Nat → Int) (xs43 : List TSlot) (xs46 : List TSlot) : Option (((Nat → Int) × (List TSlot) × (List TSlot)) ⊕ Twindow_Window) :=
  (if decide (0 < (xs43.length : Int)) then
  (ix xs43 0).bind fun x195 =>
  some x195.committed
  else
  some false).bind fun y57 =>
  (if y57 then
  (ix xs43 0).bind fun x168 =>
  (window_passed x168 p1).bind fun x184 =>
  some x184
  else
  some false).bind fun y64 =>
  if y64 then
  (ix xs43 0).bind fun x73 =>
  (isa_Writes x73.i).bind fun x131 =>
  if decide (0 ≤ x131) then
  (window_result x73).bind fun x141 =>
  (inA 34 x131).bind fun x149 =>
  window_Window_Retire_k1 xs43 xs46 x73 (upA x40 x149 x141)
  else
  window_Window_Retire_k1 xs43 xs46 x73 x40
  else
  (some (⟨p0.img, p0.t, x40, xs43, p0.pc, p0.seq, p0.ended, p0.held, p0.at_, p0.from_, xs46⟩ : Twindow_Window)).map Sum.inr
noncomputable def window_Window_Retire_l1 (p0 : Twindow_Window) (p1 : Tstorage_Storage) (x40 : Nat → Int) (xs43 : List TSlot) (xs46 : List TSlot) : Option Twindow_Window := loopO (fun s => window_Window_Retire_l1b p0 p1 s.1 s.2.1 s.2.2) (x40, xs43, xs46)
noncomputable def window_Window_Retire (p0 : Twindow_Window) (p1 : Tstorage_Storage) : Option Twindow_Window :=
  window_Window_Retire_l1 p0 p1 p0.regs p0.slots p0.log
noncomputable def window_Window_Commit_k1 (p0 : Twindow_Window) (xs85 : List TSlot) (x86 : Bool) (x87 : Bool) (x88 : Int) (x89 : Int) (xs92 : List TStored) (xs96 : List (List Int)) (xs100 : List (List (Int × Bool))) (xs104 : List (List (Int × Int))) (xs107 : List (Int × Int)) : Option (Int × Twindow_Window × Tstorage_Storage) :=
  (window_Window_Retire (⟨p0.img, p0.t, p0.regs, xs85, p0.pc, p0.seq, x86, x87, x88, x89, p0.log⟩ : Twindow_Window) (⟨xs92, xs96, xs100, xs104, xs107⟩ : Tstorage_Storage)).bind fun x117 =>
  some (0, x117, (⟨xs92, xs96, xs100, xs104, xs107⟩ : Tstorage_Storage))
noncomputable def window_Window_Commit_k3 (p0 : Twindow_Window) (p1 : Int) (p3 : Tstorage_Storage) (xs150 : List TSlot) : Option (Int × Twindow_Window × Tstorage_Storage) :=
  (ix xs150 p1).bind fun x155 =>
  if decide (x155.i.op = 16) then
  (ix xs150 p1).bind fun x165 =>
  (ix xs150 p1).bind fun x173 =>
  window_Window_Commit_k1 p0 xs150 p0.ended true x165.at_ x173.from_ p3.events p3.seen p3.has p3.now p3.last
  else
  window_Window_Commit_k1 p0 xs150 p0.ended p0.held p0.at_ p0.from_ p3.events p3.seen p3.has p3.now p3.last
noncomputable def window_Window_Commit_k4 (p0 : Twindow_Window) (p1 : Int) (p3 : Tstorage_Storage) (x68 : TSlot) (x135 : TSlot) (x356 : Bool) : Option (Int × Twindow_Window × Tstorage_Storage) :=
  if x356 then
  (storage_Storage_Barrier p3 p0.t).bind fun x366 =>
  (ix (p0.slots.set (Int.toNat p1) (⟨x68.seq, x68.pc, x68.i, x68.note, x68.next, x68.done, true, x68.val, x68.at_, x68.from_, x68.id⟩ : TSlot)) p1).bind fun x386 =>
  window_Window_Commit_k1 p0 ((p0.slots.set (Int.toNat p1) (⟨x68.seq, x68.pc, x68.i, x68.note, x68.next, x68.done, true, x68.val, x68.at_, x68.from_, x68.id⟩ : TSlot)).set (Int.toNat p1) (⟨x386.seq, x386.pc, x386.i, x386.note, x386.next, x386.done, x386.committed, x386.val, x386.at_, x386.from_, x366.1⟩ : TSlot)) p0.ended p0.held p0.at_ p0.from_ x366.2.events x366.2.seen x366.2.has x366.2.now x366.2.last
  else
  if decide (x135.i.op = 21) then
  window_Window_Commit_k1 p0 (p0.slots.set (Int.toNat p1) (⟨x68.seq, x68.pc, x68.i, x68.note, x68.next, x68.done, true, x68.val, x68.at_, x68.from_, x68.id⟩ : TSlot)) true p0.held p0.at_ p0.from_ p3.events p3.seen p3.has p3.now p3.last
  else
  window_Window_Commit_k1 p0 (p0.slots.set (Int.toNat p1) (⟨x68.seq, x68.pc, x68.i, x68.note, x68.next, x68.done, true, x68.val, x68.at_, x68.from_, x68.id⟩ : TSlot)) p0.ended p0.held p0.at_ p0.from_ p3.events p3.seen p3.has p3.now p3.last
noncomputable def window_Window_Commit_k2 (p0 : Twindow_Window) (p1 : Int) (p2 : Bool) (p3 : Tstorage_Storage) (x68 : TSlot) (x135 : TSlot) (x143 : Bool) : Option (Int × Twindow_Window × Tstorage_Storage) :=
  if x143 then
  (ix (p0.slots.set (Int.toNat p1) (⟨x68.seq, x68.pc, x68.i, x68.note, x68.next, x68.done, true, x68.val, x68.at_, x68.from_, x68.id⟩ : TSlot)) p1).bind fun x193 =>
  if decide (x193.from_ < 0) then
  (ix (p0.slots.set (Int.toNat p1) (⟨x68.seq, x68.pc, x68.i, x68.note, x68.next, x68.done, true, x68.val, x68.at_, x68.from_, x68.id⟩ : TSlot)) p1).bind fun x203 =>
  (window_Window_number (⟨p0.img, p0.t, p0.regs, p0.slots.set (Int.toNat p1) (⟨x68.seq, x68.pc, x68.i, x68.note, x68.next, x68.done, true, x68.val, x68.at_, x68.from_, x68.id⟩ : TSlot), p0.pc, p0.seq, p0.ended, p0.held, p0.at_, p0.from_, p0.log⟩ : Twindow_Window) (IntKind.wrap .i64 (0 - x203.from_))).bind fun x216 =>
  (ix (p0.slots.set (Int.toNat p1) (⟨x68.seq, x68.pc, x68.i, x68.note, x68.next, x68.done, true, x68.val, x68.at_, x68.from_, x68.id⟩ : TSlot)) p1).bind fun x223 =>
  window_Window_Commit_k3 p0 p1 p3 ((p0.slots.set (Int.toNat p1) (⟨x68.seq, x68.pc, x68.i, x68.note, x68.next, x68.done, true, x68.val, x68.at_, x68.from_, x68.id⟩ : TSlot)).set (Int.toNat p1) (⟨x223.seq, x223.pc, x223.i, x223.note, x223.next, x223.done, x223.committed, x223.val, x223.at_, x216, x223.id⟩ : TSlot))
  else
  window_Window_Commit_k3 p0 p1 p3 (p0.slots.set (Int.toNat p1) (⟨x68.seq, x68.pc, x68.i, x68.note, x68.next, x68.done, true, x68.val, x68.at_, x68.from_, x68.id⟩ : TSlot))
  else
  if decide (x135.i.op = 2) then
  (ix (p0.slots.set (Int.toNat p1) (⟨x68.seq, x68.pc, x68.i, x68.note, x68.next, x68.done, true, x68.val, x68.at_, x68.from_, x68.id⟩ : TSlot)) p1).bind fun x239 =>
  (ix (p0.slots.set (Int.toNat p1) (⟨x68.seq, x68.pc, x68.i, x68.note, x68.next, x68.done, true, x68.val, x68.at_, x68.from_, x68.id⟩ : TSlot)) p1).bind fun x247 =>
  (storage_Storage_Write p3 p0.t x239.at_ x247.val).bind fun x258 =>
  (ix (p0.slots.set (Int.toNat p1) (⟨x68.seq, x68.pc, x68.i, x68.note, x68.next, x68.done, true, x68.val, x68.at_, x68.from_, x68.id⟩ : TSlot)) p1).bind fun x279 =>
  window_Window_Commit_k1 p0 ((p0.slots.set (Int.toNat p1) (⟨x68.seq, x68.pc, x68.i, x68.note, x68.next, x68.done, true, x68.val, x68.at_, x68.from_, x68.id⟩ : TSlot)).set (Int.toNat p1) (⟨x279.seq, x279.pc, x279.i, x279.note, x279.next, x279.done, x279.committed, x279.val, x279.at_, x279.from_, x258.1⟩ : TSlot)) p0.ended p0.held p0.at_ p0.from_ x258.2.events x258.2.seen x258.2.has x258.2.now x258.2.last
  else
  if decide (x135.i.op = 17) then
  if p2 then
  (ix (p0.slots.set (Int.toNat p1) (⟨x68.seq, x68.pc, x68.i, x68.note, x68.next, x68.done, true, x68.val, x68.at_, x68.from_, x68.id⟩ : TSlot)) p1).bind fun x300 =>
  (ix (p0.slots.set (Int.toNat p1) (⟨x68.seq, x68.pc, x68.i, x68.note, x68.next, x68.done, true, x68.val, x68.at_, x68.from_, x68.id⟩ : TSlot)) p1).bind fun x308 =>
  (storage_Storage_Write p3 p0.t x300.at_ x308.val).bind fun x319 =>
  (ix (p0.slots.set (Int.toNat p1) (⟨x68.seq, x68.pc, x68.i, x68.note, x68.next, x68.done, true, x68.val, x68.at_, x68.from_, x68.id⟩ : TSlot)) p1).bind fun x340 =>
  window_Window_Commit_k1 p0 ((p0.slots.set (Int.toNat p1) (⟨x68.seq, x68.pc, x68.i, x68.note, x68.next, x68.done, true, x68.val, x68.at_, x68.from_, x68.id⟩ : TSlot)).set (Int.toNat p1) (⟨x340.seq, x340.pc, x340.i, x340.note, x340.next, x340.done, x340.committed, x340.val, x340.at_, x340.from_, x319.1⟩ : TSlot)) p0.ended false p0.at_ p0.from_ x319.2.events x319.2.seen x319.2.has x319.2.now x319.2.last
  else
  window_Window_Commit_k1 p0 (p0.slots.set (Int.toNat p1) (⟨x68.seq, x68.pc, x68.i, x68.note, x68.next, x68.done, true, x68.val, x68.at_, x68.from_, x68.id⟩ : TSlot)) p0.ended false p0.at_ p0.from_ p3.events p3.seen p3.has p3.now p3.last
  else
  if decide (x135.i.op = 18) then
  window_Window_Commit_k4 p0 p1 p3 x68 x135 true
  else
  window_Window_Commit_k4 p0 p1 p3 x68 x135 (decide (x135.i.op = 19))
noncomputable def window_Window_Commit (p0 : Twindow_Window) (p1 : Int) (p2 : Bool) (p3 : Tstorage_Storage) : Option (Int × Twindow_Window × Tstorage_Storage) :=
  (window_Window_MayCommit p0 p1 p2 p3).bind fun x53 =>
  if !x53 then
  some (1, p0, p3)
  else
  (ix p0.slots p1).bind fun x68 =>
  (ix (p0.slots.set (Int.toNat p1) (⟨x68.seq, x68.pc, x68.i, x68.note, x68.next, x68.done, true, x68.val, x68.at_, x68.from_, x68.id⟩ : TSlot)) p1).bind fun x135 =>
  if decide (x135.i.op = 1) then
  window_Window_Commit_k2 p0 p1 p2 p3 x68 x135 true
  else
  window_Window_Commit_k2 p0 p1 p2 p3 x68 x135 (decide (x135.i.op = 16))
noncomputable def window_Window_Ended (p0 : Twindow_Window) : Option Bool :=
  some p0.ended
noncomputable def slices_Clone (p0 : List TSlot) : Option (List TSlot) :=
  (ap [] p0).bind fun xs14 =>
  some xs14
noncomputable def window_Window_Log (p0 : Twindow_Window) : Option (List TSlot) :=
  (slices_Clone p0.log).bind fun x17 =>
  some x17
noncomputable def law17_alive : Option Bool :=
  (law17_tiny).bind fun x1 =>
  (window_New x1 0).bind fun x15 =>
  (storage_New 1).bind fun x36 =>
  (window_Window_Fetch x15 false).bind fun x64 =>
  (window_Window_Fetch x64.2 false).bind fun x80 =>
  (window_Window_MayCommit x80.2 1 false x36).bind fun x96 =>
  (window_Window_Exec x80.2 0 x36).bind fun x107 =>
  (window_Window_Commit x107.2 0 false x36).bind fun x123 =>
  (window_Window_Commit x123.2.1 0 false x123.2.2).bind fun x154 =>
  (if (((((decide (x64.1 = 0)) && (decide (x80.1 = 0))) && (!x96)) && (decide (x107.1 = 0))) && (decide (x123.1 = 0))) && (decide (x154.1 = 0)) then
  (window_Window_Ended x154.2.1).bind fun x242 =>
  some x242
  else
  some false).bind fun y204 =>
  (if y204 then
  (window_Window_Log x154.2.1).bind fun x228 =>
  some (decide ((x228.length : Int) = 2))
  else
  some false).bind fun y211 =>
  some y211
noncomputable def window_New_2 (p0 : TImage) (p1 : Int) : Option Unit :=
  (image_Good p0).bind fun x16 =>
  if ((!x16) || (decide (p1 < 0))) || (decide ((p0.threads.length : Int) ≤ p1)) then
  some ()
  else
  (ix p0.threads p1).bind fun x36 =>
  none
noncomputable def ref02_ext (p0 : Int) : Option Int :=
  some (IntKind.wrap .u32 (2080374784 + (IntKind.wrap .u32 (2 * p0))))
noncomputable def ref02_Of (p0 : Int) : Option (Tref02_Has × Bool) :=
  if decide (p0 = 1) then
  some ((⟨str1, true, true, false, 4, 3892314112⟩ : Tref02_Has), true)
  else
  if decide (p0 = 2) then
  some ((⟨str3, true, true, false, 4, 4160749568⟩ : Tref02_Has), true)
  else
  if decide (p0 = 3) then
  some ((⟨str4, true, true, false, 16, 939524096⟩ : Tref02_Has), true)
  else
  if decide (p0 = 4) then
  (ref02_ext 266).bind fun x33 =>
  some ((⟨str6, true, true, true, 0, x33⟩ : Tref02_Has), true)
  else
  if decide (p0 = 5) then
  (ref02_ext 40).bind fun x49 =>
  some ((⟨str8, true, true, true, 0, x49⟩ : Tref02_Has), true)
  else
  if decide (p0 = 6) then
  (ref02_ext 233).bind fun x65 =>
  some ((⟨str9, true, true, true, 0, x65⟩ : Tref02_Has), true)
  else
  if decide (p0 = 7) then
  (ref02_ext 489).bind fun x81 =>
  some ((⟨str10, true, true, true, 0, x81⟩ : Tref02_Has), true)
  else
  if decide (p0 = 8) then
  (ref02_ext 0).bind fun x97 =>
  some ((⟨str11, false, true, true, 0, IntKind.wrap .u32 (x97 + 2097152)⟩ : Tref02_Has), true)
  else
  if decide (p0 = 9) then
  some ((⟨str13, false, true, false, 16, 740294656⟩ : Tref02_Has), true)
  else
  if decide (p0 = 10) then
  some ((⟨ByteArray.empty, true, true, false, 14, 1073741824⟩ : Tref02_Has), true)
  else
  if decide (p0 = 11) then
  some ((⟨str17, false, false, false, 24, 1207959552⟩ : Tref02_Has), true)
  else
  if decide (p0 = 12) then
  some ((⟨str19, false, false, false, 24, 1207959553⟩ : Tref02_Has), true)
  else
  if decide (p0 = 13) then
  some ((⟨str20, false, false, false, 0, 1317011488⟩ : Tref02_Has), true)
  else
  if decide (p0 = 14) then
  (ref02_ext 339).bind fun x153 =>
  some ((⟨str21, true, false, false, 0, IntKind.wrap .u32 (x153 + 524288)⟩ : Tref02_Has), true)
  else
  if decide (p0 = 15) then
  (ref02_ext 467).bind fun x169 =>
  some ((⟨str23, true, false, false, 0, IntKind.wrap .u32 (x169 + 524288)⟩ : Tref02_Has), true)
  else
  if decide (p0 = 16) then
  (ref02_ext 84).bind fun x185 =>
  some ((⟨str24, true, true, true, 0, x185⟩ : Tref02_Has), true)
  else
  if decide (p0 = 17) then
  (ref02_ext 214).bind fun x201 =>
  some ((⟨str25, true, true, true, 0, IntKind.wrap .u32 (x201 + 1)⟩ : Tref02_Has), true)
  else
  if decide (p0 = 18) then
  some ((⟨str26, false, false, false, 0, 2080375980⟩ : Tref02_Has), true)
  else
  if decide (p0 = 19) then
  some ((⟨str27, false, false, false, 0, 2082473132⟩ : Tref02_Has), true)
  else
  if decide (p0 = 20) then
  some ((⟨str28, false, false, false, 0, 1275068716⟩ : Tref02_Has), true)
  else
  if decide (p0 = 21) then
  some ((⟨str29, false, false, false, 16, 266338304⟩ : Tref02_Has), true)
  else
  if decide (p0 = 22) then
  some ((⟨str31, true, false, false, 0, 1140850690⟩ : Tref02_Has), true)
  else
  some ((⟨ByteArray.empty, false, false, false, 0, 0⟩ : Tref02_Has), false)
noncomputable def ref01_Good (p0 : Int) (p1 : Int) : Option Bool :=
  some (((((decide (0 ≤ p0)) && (decide (0 ≤ p1))) && (decide (p0 ≤ 32))) && (decide (p1 ≤ 32))) && (decide ((w64 (p0 + p1)) ≤ 32)))
noncomputable def ref01_Bit_l1b (p1 : Int) (x1 : Int) (x2 : Int) : Option ((Int × Int) ⊕ Bool) :=
  if decide (p1 < x2) then
  (quoO .u32 x1 2).bind fun x15 =>
  some (Sum.inl (x15, w64 (x2 - 1)))
  else
  ((remO .u32 x1 2).bind fun x20 =>
  some (decide (x20 = 1))).map Sum.inr
noncomputable def ref01_Bit_l1 (p1 : Int) (x1 : Int) (x2 : Int) : Option Bool := loopO (fun s => ref01_Bit_l1b p1 s.1 s.2) (x1, x2)
noncomputable def ref01_Bit (p0 : Int) (p1 : Int) : Option Bool :=
  ref01_Bit_l1 p1 p0 31
noncomputable def ref01_Get_k1 (x14 : Int) (x27 : Int) : Option ((Int × Int) ⊕ Int) :=
  some (Sum.inl (x27, w64 (x14 + 1)))
noncomputable def ref01_Get_l1b (p0 : Int) (p1 : Int) (p2 : Int) (x13 : Int) (x14 : Int) : Option ((Int × Int) ⊕ Int) :=
  if decide (x14 < (w64 (p1 + p2))) then
  (ref01_Bit p0 x14).bind fun x35 =>
  if x35 then
  ref01_Get_k1 x14 (IntKind.wrap .u32 ((IntKind.wrap .u32 (2 * x13)) + 1))
  else
  ref01_Get_k1 x14 (IntKind.wrap .u32 (2 * x13))
  else
  (some x13).map Sum.inr
noncomputable def ref01_Get_l1 (p0 : Int) (p1 : Int) (p2 : Int) (x13 : Int) (x14 : Int) : Option Int := loopO (fun s => ref01_Get_l1b p0 p1 p2 s.1 s.2) (x13, x14)
noncomputable def ref01_Get (p0 : Int) (p1 : Int) (p2 : Int) : Option Int :=
  (ref01_Good p1 p2).bind fun x1 =>
  if !x1 then
  some 0
  else
  ref01_Get_l1 p0 p1 p2 0 p1
noncomputable def ref01_Signed_k1 (x9 : Int) (x22 : Int) : Option ((Int × Int) ⊕ Int) :=
  some (Sum.inl (x22, w64 (x9 + 1)))
noncomputable def ref01_Signed_l1b (p0 : Int) (p1 : Int) (x8 : Int) (x9 : Int) : Option ((Int × Int) ⊕ Int) :=
  if decide (x9 < 32) then
  (ref01_Bit p0 x9).bind fun x29 =>
  if x29 then
  if decide (x9 = (w64 (32 - p1))) then
  ref01_Signed_k1 x9 (w64 ((w64 (2 * x8)) - 1))
  else
  ref01_Signed_k1 x9 (w64 ((w64 (2 * x8)) + 1))
  else
  ref01_Signed_k1 x9 (w64 (2 * x8))
  else
  (some x8).map Sum.inr
noncomputable def ref01_Signed_l1 (p0 : Int) (p1 : Int) (x8 : Int) (x9 : Int) : Option Int := loopO (fun s => ref01_Signed_l1b p0 p1 s.1 s.2) (x8, x9)
noncomputable def ref01_Signed (p0 : Int) (p1 : Int) : Option Int :=
  if (decide (p1 < 1)) || (decide (32 < p1)) then
  some 0
  else
  ref01_Signed_l1 p0 p1 0 (w64 (32 - p1))
noncomputable def ref02_number (p0 : Bool) (p1 : Int) : Option Bool :=
  some (((p0 && (decide (0 ≤ p1))) && (decide (p1 ≤ 31))) || ((!p0) && (decide (p1 = 0))))
noncomputable def ref01_Fits_l1b (p0 : Int) (p1 : Int) (x7 : Int) (x8 : Int) (x9 : Int) : Option ((Int × Int × Int) ⊕ Bool) :=
  if decide (x9 < p1) then
  some (Sum.inl (w64 (2 * x7), w64 ((w64 (2 * x8)) + 1), w64 (x9 + 1)))
  else
  (some ((decide (x7 ≤ p0)) && (decide (p0 ≤ x8)))).map Sum.inr
noncomputable def ref01_Fits_l1 (p0 : Int) (p1 : Int) (x7 : Int) (x8 : Int) (x9 : Int) : Option Bool := loopO (fun s => ref01_Fits_l1b p0 p1 s.1 s.2.1 s.2.2) (x7, x8, x9)
noncomputable def ref01_Fits (p0 : Int) (p1 : Int) : Option Bool :=
  if decide (p1 < 1) then
  some false
  else
  if decide (63 < p1) then
  some true
  else
  ref01_Fits_l1 p0 p1 (-1) 0 1
noncomputable def ref02_Good (p0 : TInst) : Option Bool :=
  (ref02_Of p0.op).bind fun x7 =>
  (if !x7.2 then
  some true
  else
  (ref02_number x7.1.d p0.d).bind fun x162 =>
  some (!x162)).bind fun y22 =>
  (if y22 then
  some true
  else
  (ref02_number x7.1.a p0.a).bind fun x148 =>
  some (!x148)).bind fun y29 =>
  (if y29 then
  some true
  else
  (ref02_number x7.1.b p0.b).bind fun x136 =>
  some (!x136)).bind fun y36 =>
  if y36 then
  some false
  else
  if ((decide (p0.op = 10)) && (((decide (p0.d ≠ 4)) && (decide (p0.d ≠ 12))) || (decide (2 < p0.a)))) || ((decide (p0.op = 21)) && (decide (p0.imm < 0))) then
  some false
  else
  if decide (x7.1.imm = 0) then
  some (decide (p0.imm = 0))
  else
  if decide (x7.1.imm = 4) then
  (remO .i64 p0.imm 4).bind fun x68 =>
  (if decide (x68 = 0) then
  (ref01_Fits p0.imm 16).bind fun x85 =>
  some x85
  else
  some false).bind fun y71 =>
  some y71
  else
  (ref01_Fits p0.imm x7.1.imm).bind fun x95 =>
  some x95
noncomputable def ref02_Encode_k1 (x22 : Int) : Option Int :=
  some x22
noncomputable def ref02_Encode_k2 (p0 : TInst) (x7 : Tref02_Has × Bool) (x28 : Bool) : Option Int :=
  if x28 then
  (remO .i64 (w64 (p0.imm + 65536)) 65536).bind fun x35 =>
  ref02_Encode_k1 (IntKind.wrap .u32 ((IntKind.wrap .u32 ((IntKind.wrap .u32 ((IntKind.wrap .u32 (x7.1.word + (IntKind.wrap .u32 ((IntKind.wrap .u32 p0.d) * 2097152)))) + (IntKind.wrap .u32 ((IntKind.wrap .u32 p0.a) * 65536)))) + (IntKind.wrap .u32 ((IntKind.wrap .u32 p0.b) * 2048)))) + (IntKind.wrap .u32 x35)))
  else
  if decide (x7.1.imm = 14) then
  (remO .i64 (w64 ((w64 (4 * p0.imm)) + 65536)) 65536).bind fun x42 =>
  ref02_Encode_k1 (IntKind.wrap .u32 ((IntKind.wrap .u32 ((IntKind.wrap .u32 ((IntKind.wrap .u32 (x7.1.word + (IntKind.wrap .u32 ((IntKind.wrap .u32 p0.d) * 2097152)))) + (IntKind.wrap .u32 ((IntKind.wrap .u32 p0.a) * 65536)))) + (IntKind.wrap .u32 ((IntKind.wrap .u32 p0.b) * 2048)))) + (IntKind.wrap .u32 x42)))
  else
  if decide (x7.1.imm = 24) then
  (remO .i64 (w64 ((w64 (4 * p0.imm)) + 67108864)) 67108864).bind fun x49 =>
  ref02_Encode_k1 (IntKind.wrap .u32 ((IntKind.wrap .u32 ((IntKind.wrap .u32 ((IntKind.wrap .u32 (x7.1.word + (IntKind.wrap .u32 ((IntKind.wrap .u32 p0.d) * 2097152)))) + (IntKind.wrap .u32 ((IntKind.wrap .u32 p0.a) * 65536)))) + (IntKind.wrap .u32 ((IntKind.wrap .u32 p0.b) * 2048)))) + (IntKind.wrap .u32 x49)))
  else
  ref02_Encode_k1 (IntKind.wrap .u32 ((IntKind.wrap .u32 ((IntKind.wrap .u32 (x7.1.word + (IntKind.wrap .u32 ((IntKind.wrap .u32 p0.d) * 2097152)))) + (IntKind.wrap .u32 ((IntKind.wrap .u32 p0.a) * 65536)))) + (IntKind.wrap .u32 ((IntKind.wrap .u32 p0.b) * 2048))))
noncomputable def ref02_Encode (p0 : TInst) : Option Int :=
  (ref02_Of p0.op).bind fun x7 =>
  if decide (x7.1.imm = 4) then
  ref02_Encode_k2 p0 x7 true
  else
  ref02_Encode_k2 p0 x7 (decide (x7.1.imm = 16))
noncomputable def ref02_Decode_k4 (p0 : Int) (x6 : Int) (x44 : Int) (x49 : Int) (x54 : Int) (x59 : Int) : Option (Int ⊕ (TInst × Bool)) :=
  (ref02_Good (⟨x6, x44, x49, x54, x59⟩ : TInst)).bind fun x66 =>
  (if x66 then
  (ref02_Encode (⟨x6, x44, x49, x54, x59⟩ : TInst)).bind fun x95 =>
  some (decide (x95 = p0))
  else
  some false).bind fun y73 =>
  if y73 then
  (some ((⟨x6, x44, x49, x54, x59⟩ : TInst), true)).map Sum.inr
  else
  some (Sum.inl (w64 (x6 + 1)))
noncomputable def ref02_Decode_k3 (p0 : Int) (x6 : Int) (x21 : Tref02_Has × Bool) (x44 : Int) (x49 : Int) (x54 : Int) : Option (Int ⊕ (TInst × Bool)) :=
  if decide (x21.1.imm = 16) then
  (ref01_Signed p0 16).bind fun x106 =>
  ref02_Decode_k4 p0 x6 x44 x49 x54 x106
  else
  if decide (x21.1.imm = 4) then
  (ref01_Get p0 16 14).bind fun x123 =>
  (ref01_Signed x123 14).bind fun x131 =>
  ref02_Decode_k4 p0 x6 x44 x49 x54 (w64 (4 * x131))
  else
  if decide (x21.1.imm = 14) then
  (ref01_Get p0 16 14).bind fun x148 =>
  (ref01_Signed x148 14).bind fun x156 =>
  ref02_Decode_k4 p0 x6 x44 x49 x54 x156
  else
  if decide (x21.1.imm = 24) then
  (ref01_Get p0 6 24).bind fun x173 =>
  (ref01_Signed x173 24).bind fun x181 =>
  ref02_Decode_k4 p0 x6 x44 x49 x54 x181
  else
  ref02_Decode_k4 p0 x6 x44 x49 x54 0
noncomputable def ref02_Decode_k2 (p0 : Int) (x6 : Int) (x21 : Tref02_Has × Bool) (x44 : Int) (x49 : Int) : Option (Int ⊕ (TInst × Bool)) :=
  if x21.1.b then
  (ref01_Get p0 16 5).bind fun x199 =>
  ref02_Decode_k3 p0 x6 x21 x44 x49 (w64 x199)
  else
  ref02_Decode_k3 p0 x6 x21 x44 x49 0
noncomputable def ref02_Decode_k1 (p0 : Int) (x6 : Int) (x21 : Tref02_Has × Bool) (x44 : Int) : Option (Int ⊕ (TInst × Bool)) :=
  if x21.1.a then
  (ref01_Get p0 11 5).bind fun x215 =>
  ref02_Decode_k2 p0 x6 x21 x44 (w64 x215)
  else
  ref02_Decode_k2 p0 x6 x21 x44 0
noncomputable def ref02_Decode_l1b (p0 : Int) (x6 : Int) : Option (Int ⊕ (TInst × Bool)) :=
  if decide (x6 ≤ 22) then
  (ref02_Of x6).bind fun x21 =>
  if x21.1.d then
  (ref01_Get p0 6 5).bind fun x231 =>
  ref02_Decode_k1 p0 x6 x21 (w64 x231)
  else
  ref02_Decode_k1 p0 x6 x21 0
  else
  (some ((⟨0, 0, 0, 0, 0⟩ : TInst), false)).map Sum.inr
noncomputable def ref02_Decode_l1 (p0 : Int) (x6 : Int) : Option (TInst × Bool) := loopO (fun s => ref02_Decode_l1b p0 s) x6
noncomputable def ref02_Decode (p0 : Int) : Option (TInst × Bool) :=
  ref02_Decode_l1 p0 1
noncomputable def ref15_Good_l2b (x28 : Int) (x91 : TNote) (xs117 : List Int) (x122 : Bool) (x123 : Int) : Option ((Bool × Int) ⊕ (Int ⊕ Bool)) :=
  if decide (x123 < (xs117.length : Int)) then
  (ix xs117 x123).bind fun x136 =>
  some (Sum.inl (x122 || (decide (x136 = x91.role)), w64 (x123 + 1)))
  else
  (if ((!x122) || ((decide (x91.role = 2)) && ((decide (x91.what < 1)) || (decide (5 < x91.what))))) || ((decide (x91.role ≠ 2)) && (((decide (x91.what ≠ 0)) || x91.volatile) || x91.final)) then
  (some false).map Sum.inr
  else
  some (Sum.inl (w64 (x28 + 1)))).map Sum.inr
noncomputable def ref15_Good_l2 (x28 : Int) (x91 : TNote) (xs117 : List Int) (x122 : Bool) (x123 : Int) : Option (Int ⊕ Bool) := loopO (fun s => ref15_Good_l2b x28 x91 xs117 s.1 s.2) (x122, x123)
noncomputable def ref15_Good_k1 (x28 : Int) (x91 : TNote) (xs117 : List Int) : Option (Int ⊕ Bool) :=
  ref15_Good_l2 x28 x91 xs117 false 0
noncomputable def ref15_Good_l3b (p0 : TImage) (x270 : Int) : Option (Int ⊕ Bool) :=
  if decide (x270 < (p0.threads.length : Int)) then
  (ix p0.threads x270).bind fun x284 =>
  if (decide (x284 < 0)) || (decide ((p0.code.length : Int) ≤ x284)) then
  (some false).map Sum.inr
  else
  some (Sum.inl (w64 (x270 + 1)))
  else
  (some true).map Sum.inr
noncomputable def ref15_Good_l3 (p0 : TImage) (x270 : Int) : Option Bool := loopO (fun s => ref15_Good_l3b p0 s) x270
noncomputable def ref15_Good_l1b (p0 : TImage) (x28 : Int) : Option (Int ⊕ Bool) :=
  if decide (x28 < (p0.code.length : Int)) then
  (ix p0.code x28).bind fun x41 =>
  (ref02_Decode x41).bind fun x54 =>
  if !x54.2 then
  (some false).map Sum.inr
  else
  if ((decide (10 ≤ x54.1.op)) && (decide (x54.1.op ≤ 12))) && ((decide ((w64 (x28 + x54.1.imm)) < 0)) || (decide ((p0.code.length : Int) ≤ (w64 (x28 + x54.1.imm))))) then
  (some false).map Sum.inr
  else
  (ix p0.notes x28).bind fun x91 =>
  if decide (x54.1.op = 1) then
  ref15_Good_k1 x28 x91 [1, 2, 5]
  else
  if decide (x54.1.op = 2) then
  ref15_Good_k1 x28 x91 [1, 2, 6]
  else
  if decide (x54.1.op = 16) then
  ref15_Good_k1 x28 x91 [3]
  else
  if decide (x54.1.op = 17) then
  ref15_Good_k1 x28 x91 [4]
  else
  ref15_Good_k1 x28 x91 [0]
  else
  (ref15_Good_l3 p0 0).map Sum.inr
noncomputable def ref15_Good_l1 (p0 : TImage) (x28 : Int) : Option Bool := loopO (fun s => ref15_Good_l1b p0 s) x28
noncomputable def ref15_Good (p0 : TImage) : Option Bool :=
  if (((decide ((p0.code.length : Int) < 1)) || (decide (8000 < (p0.code.length : Int)))) || (decide ((p0.notes.length : Int) ≠ (p0.code.length : Int)))) || (decide (8 < (p0.threads.length : Int))) then
  some false
  else
  ref15_Good_l1 p0 0
noncomputable def window_Window_Parts (p0 : Twindow_Window) : Option Bool :=
  (window_Window_MayFetch p0).bind fun x14 =>
  if !x14 then
  some false
  else
  (ix p0.img.code p0.pc).bind fun x26 =>
  (isa_Decode x26).bind fun x38 =>
  some (decide (x38.1.op = 10))
noncomputable def window_Window_Slots (p0 : Twindow_Window) : Option (List TSlot) :=
  (slices_Clone p0.slots).bind fun x17 =>
  some x17
noncomputable def law17_moves_k2 (x55 : Int) (xs71 : List Tlaw17_Move) : Option (((List Tlaw17_Move) × Int) ⊕ (List Tlaw17_Move)) :=
  some (Sum.inl (xs71, w64 (x55 + 1)))
noncomputable def law17_moves_k4 (p0 : Twindow_Window) (p1 : Tstorage_Storage) (x55 : Int) (x77 : TSlot) (xs108 : List Tlaw17_Move) : Option (((List Tlaw17_Move) × Int) ⊕ (List Tlaw17_Move)) :=
  (if decide (x77.i.op = 17) then
  (window_Window_MayCommit p0 x55 true p1).bind fun x148 =>
  some x148
  else
  some false).bind fun y113 =>
  if y113 then
  (ap xs108 [(⟨3, x55, true⟩ : Tlaw17_Move)]).bind fun xs127 =>
  law17_moves_k2 x55 xs127
  else
  law17_moves_k2 x55 xs108
noncomputable def law17_moves_k3 (p0 : Twindow_Window) (p1 : Tstorage_Storage) (x55 : Int) (x77 : TSlot) (xs101 : List Tlaw17_Move) : Option (((List Tlaw17_Move) × Int) ⊕ (List Tlaw17_Move)) :=
  (window_Window_MayCommit p0 x55 false p1).bind fun x160 =>
  if x160 then
  (ap xs101 [(⟨3, x55, false⟩ : Tlaw17_Move)]).bind fun xs174 =>
  law17_moves_k4 p0 p1 x55 x77 xs174
  else
  law17_moves_k4 p0 p1 x55 x77 xs101
noncomputable def law17_moves_l1b (p0 : Twindow_Window) (p1 : Tstorage_Storage) (x43 : List TSlot) (xs54 : List Tlaw17_Move) (x55 : Int) : Option (((List Tlaw17_Move) × Int) ⊕ (List Tlaw17_Move)) :=
  if decide (x55 < (x43.length : Int)) then
  (ix x43 x55).bind fun x77 =>
  (window_Window_MayExec p0 x55 p1).bind fun x191 =>
  if x191 then
  (ap xs54 [(⟨2, x55, false⟩ : Tlaw17_Move)]).bind fun xs205 =>
  law17_moves_k3 p0 p1 x55 x77 xs205
  else
  law17_moves_k3 p0 p1 x55 x77 xs54
  else
  (some xs54).map Sum.inr
noncomputable def law17_moves_l1 (p0 : Twindow_Window) (p1 : Tstorage_Storage) (x43 : List TSlot) (xs54 : List Tlaw17_Move) (x55 : Int) : Option (List Tlaw17_Move) := loopO (fun s => law17_moves_l1b p0 p1 x43 s.1 s.2) (xs54, x55)
noncomputable def law17_moves_k1 (p0 : Twindow_Window) (p1 : Tstorage_Storage) (xs34 : List Tlaw17_Move) : Option (List Tlaw17_Move) :=
  (window_Window_Slots p0).bind fun x43 =>
  law17_moves_l1 p0 p1 x43 xs34 0
noncomputable def law17_moves (p0 : Twindow_Window) (p1 : Tstorage_Storage) : Option (List Tlaw17_Move) :=
  (window_Window_MayFetch p0).bind fun x221 =>
  if x221 then
  (ap [] [(⟨1, 0, false⟩ : Tlaw17_Move)]).bind fun xs237 =>
  (window_Window_Parts p0).bind fun x251 =>
  if x251 then
  (ap xs237 [(⟨1, 0, true⟩ : Tlaw17_Move)]).bind fun xs265 =>
  law17_moves_k1 p0 p1 xs265
  else
  law17_moves_k1 p0 p1 xs237
  else
  law17_moves_k1 p0 p1 []
noncomputable def law17_do (p0 : Twindow_Window) (p1 : Tstorage_Storage) (p2 : Tlaw17_Move) : Option (Int × Twindow_Window × Tstorage_Storage) :=
  if decide (p2.kind = 1) then
  (window_Window_Fetch p0 p2.yes).bind fun x65 =>
  some (x65.1, x65.2, p1)
  else
  if decide (p2.kind = 2) then
  (window_Window_Exec p0 p2.k p1).bind fun x90 =>
  some (x90.1, x90.2, p1)
  else
  (window_Window_Commit p0 p2.k p2.yes p1).bind fun x113 =>
  some (x113.1, x113.2.1, x113.2.2)
noncomputable def storage_Storage_Threads (p0 : Tstorage_Storage) : Option Int :=
  some (p0.seen.length : Int)
noncomputable def storage_Storage_passed (p0 : Tstorage_Storage) (p1 : Int) (p2 : Int) : Option Bool :=
  (ix p0.events (w64 (p2 - 1))).bind fun x17 =>
  (storage_Storage_Read p0 p1 x17.at_).bind fun x31 =>
  some (decide (p2 ≤ x31.2))
noncomputable def slices_Index_l1b (p0 : List Int) (p1 : Int) (x3 : Int) : Option (Int ⊕ Int) :=
  if decide (x3 < (p0.length : Int)) then
  (ix p0 x3).bind fun x16 =>
  if decide (p1 = x16) then
  (some x3).map Sum.inr
  else
  some (Sum.inl (w64 (x3 + 1)))
  else
  (some (-1)).map Sum.inr
noncomputable def slices_Index_l1 (p0 : List Int) (p1 : Int) (x3 : Int) : Option Int := loopO (fun s => slices_Index_l1b p0 p1 s) x3
noncomputable def slices_Index (p0 : List Int) (p1 : Int) : Option Int :=
  slices_Index_l1 p0 p1 0
noncomputable def storage_Storage_ahead (p0 : Tstorage_Storage) (p1 : Int) : Option (List Int) :=
  (ix p0.events (w64 (p1 - 1))).bind fun x19 =>
  (ix p0.seen x19.thread).bind fun x33 =>
  (slices_Index x33 p1).bind fun x46 =>
  (cutL x33 0 x46).bind fun xs53 =>
  some xs53
noncomputable def storage_Storage_May_l1b (p0 : Tstorage_Storage) (p1 : Int) (x43 : TStored) (x80 : List Int) (x89 : Int) : Option (Int ⊕ Bool) :=
  if decide (x89 < (x80.length : Int)) then
  (ix x80 x89).bind fun x102 =>
  (ix p0.events (w64 (x102 - 1))).bind fun x125 =>
  (if x125.bar then
  (storage_Storage_Seen p0 p1 x102).bind fun x204 =>
  some (!x204)
  else
  some false).bind fun y143 =>
  (if y143 then
  some true
  else
  (if (!x125.bar) && x43.bar then
  (storage_Storage_passed p0 p1 x102).bind fun x185 =>
  some (!x185)
  else
  some false).bind fun y172 =>
  some y172).bind fun y150 =>
  if y150 then
  (some false).map Sum.inr
  else
  some (Sum.inl (w64 (x89 + 1)))
  else
  (some true).map Sum.inr
noncomputable def storage_Storage_May_l1 (p0 : Tstorage_Storage) (p1 : Int) (x43 : TStored) (x80 : List Int) (x89 : Int) : Option Bool := loopO (fun s => storage_Storage_May_l1b p0 p1 x43 x80 s) x89
noncomputable def storage_Storage_May (p0 : Tstorage_Storage) (p1 : Int) (p2 : Int) : Option Bool :=
  (storage_Storage_thread p0 p1).bind fun x17 =>
  (if ((!x17) || (decide (p2 < 1))) || (decide ((p0.events.length : Int) < p2)) then
  some true
  else
  (storage_Storage_Seen p0 p1 p2).bind fun x236 =>
  some x236).bind fun y32 =>
  if y32 then
  some false
  else
  (ix p0.events (w64 (p2 - 1))).bind fun x43 =>
  (if !x43.bar then
  (storage_Storage_passed p0 p1 p2).bind fun x223 =>
  some x223
  else
  some false).bind fun y65 =>
  if y65 then
  some false
  else
  (storage_Storage_ahead p0 p2).bind fun x80 =>
  storage_Storage_May_l1 p0 p1 x43 x80 0
noncomputable def storage_Storage_Go (p0 : Tstorage_Storage) (p1 : Int) (p2 : Int) : Option (Int × Tstorage_Storage) :=
  (storage_Storage_May p0 p1 p2).bind fun x28 =>
  if !x28 then
  some (1, p0)
  else
  (storage_Storage_come p0 p1 p2).bind fun x41 =>
  some (0, x41)
noncomputable def storage_Storage_Settle_k1 (x80 : Int) (xs93 : List TStored) (xs97 : List (List Int)) (xs101 : List (List (Int × Bool))) (xs105 : List (List (Int × Int))) (xs108 : List (Int × Int)) : Option (((List TStored) × (List (List Int)) × (List (List (Int × Bool))) × (List (List (Int × Int))) × (List (Int × Int)) × Int) ⊕ (((List TStored) × (List (List Int)) × (List (List (Int × Bool))) × (List (List (Int × Int))) × (List (Int × Int)) × Int) ⊕ Tstorage_Storage)) :=
  some (Sum.inl (xs93, xs97, xs101, xs105, xs108, w64 (x80 + 1)))
noncomputable def storage_Storage_Settle_l2b (xs35 : List TStored) (x51 : Int) (xs64 : List TStored) (xs68 : List (List Int)) (xs72 : List (List (Int × Bool))) (xs76 : List (List (Int × Int))) (xs79 : List (Int × Int)) (x80 : Int) : Option (((List TStored) × (List (List Int)) × (List (List (Int × Bool))) × (List (List (Int × Int))) × (List (Int × Int)) × Int) ⊕ (((List TStored) × (List (List Int)) × (List (List (Int × Bool))) × (List (List (Int × Int))) × (List (Int × Int)) × Int) ⊕ Tstorage_Storage)) :=
  if decide (x80 < (xs35.length : Int)) then
  (storage_Storage_May (⟨xs64, xs68, xs72, xs76, xs79⟩ : Tstorage_Storage) x51 (w64 (x80 + 1))).bind fun x116 =>
  if x116 then
  (storage_Storage_Go (⟨xs64, xs68, xs72, xs76, xs79⟩ : Tstorage_Storage) x51 (w64 (x80 + 1))).bind fun x126 =>
  storage_Storage_Settle_k1 x80 x126.2.events x126.2.seen x126.2.has x126.2.now x126.2.last
  else
  storage_Storage_Settle_k1 x80 xs64 xs68 xs72 xs76 xs79
  else
  (some (Sum.inl (xs64, xs68, xs72, xs76, xs79, w64 (x51 + 1)))).map Sum.inr
noncomputable def storage_Storage_Settle_l2 (xs35 : List TStored) (x51 : Int) (xs64 : List TStored) (xs68 : List (List Int)) (xs72 : List (List (Int × Bool))) (xs76 : List (List (Int × Int))) (xs79 : List (Int × Int)) (x80 : Int) : Option (((List TStored) × (List (List Int)) × (List (List (Int × Bool))) × (List (List (Int × Int))) × (List (Int × Int)) × Int) ⊕ Tstorage_Storage) := loopO (fun s => storage_Storage_Settle_l2b xs35 x51 s.1 s.2.1 s.2.2.1 s.2.2.2.1 s.2.2.2.2.1 s.2.2.2.2.2) (xs64, xs68, xs72, xs76, xs79, x80)
noncomputable def storage_Storage_Settle_l1b (x28 : Int) (xs35 : List TStored) (xs39 : List (List Int)) (xs43 : List (List (Int × Bool))) (xs47 : List (List (Int × Int))) (xs50 : List (Int × Int)) (x51 : Int) : Option (((List TStored) × (List (List Int)) × (List (List (Int × Bool))) × (List (List (Int × Int))) × (List (Int × Int)) × Int) ⊕ Tstorage_Storage) :=
  if decide (x51 < x28) then
  storage_Storage_Settle_l2 xs35 x51 xs35 xs39 xs43 xs47 xs50 0
  else
  (some (⟨xs35, xs39, xs43, xs47, xs50⟩ : Tstorage_Storage)).map Sum.inr
noncomputable def storage_Storage_Settle_l1 (x28 : Int) (xs35 : List TStored) (xs39 : List (List Int)) (xs43 : List (List (Int × Bool))) (xs47 : List (List (Int × Int))) (xs50 : List (Int × Int)) (x51 : Int) : Option Tstorage_Storage := loopO (fun s => storage_Storage_Settle_l1b x28 s.1 s.2.1 s.2.2.1 s.2.2.2.1 s.2.2.2.2.1 s.2.2.2.2.2) (xs35, xs39, xs43, xs47, xs50, x51)
noncomputable def storage_Storage_Settle (p0 : Tstorage_Storage) : Option Tstorage_Storage :=
  (storage_Storage_Threads p0).bind fun x28 =>
  storage_Storage_Settle_l1 x28 p0.events p0.seen p0.has p0.now p0.last 0
noncomputable def law17_went_k1 (xs91 : List Int) (xs94 : List TNote) (xs97 : List Int) (x100 : Int) (x101 : Nat → Int) (xs103 : List TSlot) (x104 : Int) (x105 : Int) (x106 : Bool) (x107 : Bool) (x108 : Int) (x109 : Int) (xs111 : List TSlot) (xs113 : List TStored) (xs116 : List (List Int)) (xs119 : List (List (Int × Bool))) (xs122 : List (List (Int × Int))) (xs124 : List (Int × Int)) : Option (Twindow_Window × Tstorage_Storage) :=
  some ((⟨(⟨xs91, xs94, xs97⟩ : TImage), x100, x101, xs103, x104, x105, x106, x107, x108, x109, xs111⟩ : Twindow_Window), (⟨xs113, xs116, xs119, xs122, xs124⟩ : Tstorage_Storage))
noncomputable def law17_went_l1b (p2 : List Int) (xs130 : List Int) (xs133 : List TNote) (xs136 : List Int) (x139 : Int) (x140 : Nat → Int) (xs143 : List TSlot) (x144 : Int) (x145 : Int) (x146 : Bool) (x147 : Bool) (x148 : Int) (x149 : Int) (xs152 : List TSlot) (xs155 : List TStored) (xs159 : List (List Int)) (xs163 : List (List (Int × Bool))) (xs167 : List (List (Int × Int))) (xs170 : List (Int × Int)) (x171 : Int) : Option (((List Int) × (List TNote) × (List Int) × Int × (Nat → Int) × (List TSlot) × Int × Int × Bool × Bool × Int × Int × (List TSlot) × (List TStored) × (List (List Int)) × (List (List (Int × Bool))) × (List (List (Int × Int))) × (List (Int × Int)) × Int) ⊕ (Twindow_Window × Tstorage_Storage)) :=
  if decide (x171 < (p2.length : Int)) then
  (ix p2 x171).bind fun x188 =>
  (law17_moves (⟨(⟨xs130, xs133, xs136⟩ : TImage), x139, x140, xs143, x144, x145, x146, x147, x148, x149, xs152⟩ : Twindow_Window) (⟨xs155, xs159, xs163, xs167, xs170⟩ : Tstorage_Storage)).bind fun x201 =>
  if decide ((x201.length : Int) = 0) then
  (law17_went_k1 xs130 xs133 xs136 x139 x140 xs143 x144 x145 x146 x147 x148 x149 xs152 xs155 xs159 xs163 xs167 xs170).map Sum.inr
  else
  (remO .u64 (IntKind.wrap .u64 x188) (IntKind.wrap .u64 (x201.length : Int))).bind fun x219 =>
  (ix x201 (w64 x219)).bind fun x222 =>
  (law17_do (⟨(⟨xs130, xs133, xs136⟩ : TImage), x139, x140, xs143, x144, x145, x146, x147, x148, x149, xs152⟩ : Twindow_Window) (⟨xs155, xs159, xs163, xs167, xs170⟩ : Tstorage_Storage) x222).bind fun x241 =>
  if decide (x241.1 ≠ 0) then
  (none).map Sum.inr
  else
  (storage_Storage_Settle x241.2.2).bind fun x277 =>
  (window_Window_Retire x241.2.1 x277).bind fun x300 =>
  some (Sum.inl (x300.img.code, x300.img.notes, x300.img.threads, x300.t, x300.regs, x300.slots, x300.pc, x300.seq, x300.ended, x300.held, x300.at_, x300.from_, x300.log, x277.events, x277.seen, x277.has, x277.now, x277.last, w64 (x171 + 1)))
  else
  (law17_went_k1 xs130 xs133 xs136 x139 x140 xs143 x144 x145 x146 x147 x148 x149 xs152 xs155 xs159 xs163 xs167 xs170).map Sum.inr
noncomputable def law17_went_l1 (p2 : List Int) (xs130 : List Int) (xs133 : List TNote) (xs136 : List Int) (x139 : Int) (x140 : Nat → Int) (xs143 : List TSlot) (x144 : Int) (x145 : Int) (x146 : Bool) (x147 : Bool) (x148 : Int) (x149 : Int) (xs152 : List TSlot) (xs155 : List TStored) (xs159 : List (List Int)) (xs163 : List (List (Int × Bool))) (xs167 : List (List (Int × Int))) (xs170 : List (Int × Int)) (x171 : Int) : Option (Twindow_Window × Tstorage_Storage) := loopO (fun s => law17_went_l1b p2 s.1 s.2.1 s.2.2.1 s.2.2.2.1 s.2.2.2.2.1 s.2.2.2.2.2.1 s.2.2.2.2.2.2.1 s.2.2.2.2.2.2.2.1 s.2.2.2.2.2.2.2.2.1 s.2.2.2.2.2.2.2.2.2.1 s.2.2.2.2.2.2.2.2.2.2.1 s.2.2.2.2.2.2.2.2.2.2.2.1 s.2.2.2.2.2.2.2.2.2.2.2.2.1 s.2.2.2.2.2.2.2.2.2.2.2.2.2.1 s.2.2.2.2.2.2.2.2.2.2.2.2.2.2.1 s.2.2.2.2.2.2.2.2.2.2.2.2.2.2.2.1 s.2.2.2.2.2.2.2.2.2.2.2.2.2.2.2.2.1 s.2.2.2.2.2.2.2.2.2.2.2.2.2.2.2.2.2.1 s.2.2.2.2.2.2.2.2.2.2.2.2.2.2.2.2.2.2) (xs130, xs133, xs136, x139, x140, xs143, x144, x145, x146, x147, x148, x149, xs152, xs155, xs159, xs163, xs167, xs170, x171)
noncomputable def law17_went (p0 : TImage) (p1 : Int) (p2 : List Int) : Option (Twindow_Window × Tstorage_Storage) :=
  (window_New p0 p1).bind fun x47 =>
  (storage_New (w64 (p1 + 1))).bind fun x68 =>
  law17_went_l1 p2 x47.img.code x47.img.notes x47.img.threads x47.t x47.regs x47.slots x47.pc x47.seq x47.ended x47.held x47.at_ x47.from_ x47.log x68.events x68.seen x68.has x68.now x68.last 0
noncomputable def law17_same_l1b (p0 : List TSlot) (p1 : List TSlot) (x8 : Int) : Option (Int ⊕ Bool) :=
  if decide (x8 < (p0.length : Int)) then
  (ix p0 x8).bind fun x21 =>
  (ix p1 x8).bind fun x35 =>
  if !((decide (x21.seq = x35.seq)) && ((decide (x21.pc = x35.pc)) && (((decide (x21.i.op = x35.i.op)) && ((decide (x21.i.d = x35.i.d)) && ((decide (x21.i.a = x35.i.a)) && ((decide (x21.i.b = x35.i.b)) && ((decide (x21.i.imm = x35.i.imm)) && true))))) && (((decide (x21.note.role = x35.note.role)) && ((decide (x21.note.what = x35.note.what)) && ((x21.note.volatile == x35.note.volatile) && ((x21.note.final == x35.note.final) && true)))) && ((decide (x21.next = x35.next)) && ((x21.done == x35.done) && ((x21.committed == x35.committed) && ((decide (x21.val = x35.val)) && ((decide (x21.at_ = x35.at_)) && ((decide (x21.from_ = x35.from_)) && ((decide (x21.id = x35.id)) && true))))))))))) then
  (some false).map Sum.inr
  else
  some (Sum.inl (w64 (x8 + 1)))
  else
  (some true).map Sum.inr
noncomputable def law17_same_l1 (p0 : List TSlot) (p1 : List TSlot) (x8 : Int) : Option Bool := loopO (fun s => law17_same_l1b p0 p1 s) x8
noncomputable def law17_same (p0 : List TSlot) (p1 : List TSlot) : Option Bool :=
  if decide ((p0.length : Int) ≠ (p1.length : Int)) then
  some false
  else
  law17_same_l1 p0 p1 0
noncomputable def window_Window_Retire_2_l1b : Option (Unit ⊕ Unit) :=
  (some ()).map Sum.inr
noncomputable def window_Window_Retire_2_l1 : Option Unit := loopO (fun s => window_Window_Retire_2_l1b ) ()
noncomputable def window_Window_Retire_2 (p1 : Tstorage_Storage) : Option Unit :=
  window_Window_Retire_2_l1
noncomputable def window_Window_Fetch_2 (p1 : Bool) : Option Int :=
  some 2
noncomputable def window_Window_Exec_2 (p1 : Int) (p2 : Tstorage_Storage) : Option Int :=
  some 2
noncomputable def window_Window_Commit_2 (p1 : Int) (p2 : Bool) (p3 : Tstorage_Storage) : Option Int :=
  some 2
noncomputable def window_Window_MayFetch_2 : Option Bool :=
  some false
noncomputable def window_Window_Parts_2 : Option Bool :=
  (window_Window_MayFetch_2).bind fun x1 =>
  if !x1 then
  some false
  else
  none
noncomputable def window_Window_slot_2 (p1 : Int) : Option Bool :=
  some false
noncomputable def window_Window_MayExec_2 (p1 : Int) (p2 : Tstorage_Storage) : Option Bool :=
  (window_Window_slot_2 p1).bind fun x17 =>
  (if !x17 then
  some true
  else
  none).bind fun y24 =>
  if y24 then
  some false
  else
  none
noncomputable def window_Window_MayCommit_2 (p1 : Int) (p2 : Bool) (p3 : Tstorage_Storage) : Option Bool :=
  (window_Window_slot_2 p1).bind fun x17 =>
  (if !x17 then
  some true
  else
  none).bind fun y24 =>
  (if y24 then
  some true
  else
  none).bind fun y31 =>
  if y31 then
  some false
  else
  none
noncomputable def window_Window_Ended_2 : Option Bool :=
  some false
noncomputable def window_Window_Left : Option Int :=
  some 0
noncomputable def window_Window_Slots_2 : Option (List TSlot) :=
  some []
noncomputable def window_Window_Log_2 : Option (List TSlot) :=
  some []
noncomputable def law17_WindowRefuses_k2 (p3 : Tlaw17_Move) (x59 : Twindow_Window × Tstorage_Storage) (x95 : Bool) : Option Bool :=
  (window_Window_Slots x59.1).bind fun x106 =>
  (window_Window_Log x59.1).bind fun x120 =>
  (law17_do x59.1 x59.2 p3).bind fun x134 =>
  (if !(x95 == (decide (x134.1 = 0))) then
  some true
  else
  (if !x95 then
  (if decide (x134.1 ≠ 1) then
  some true
  else
  (window_Window_Slots x134.2.1).bind fun x442 =>
  (law17_same x106 x442).bind fun x453 =>
  some (!x453)).bind fun y395 =>
  (if y395 then
  some true
  else
  (window_Window_Log x134.2.1).bind fun x418 =>
  (law17_same x120 x418).bind fun x429 =>
  some (!x429)).bind fun y402 =>
  some y402
  else
  some false).bind fun y384 =>
  some y384).bind fun y164 =>
  if y164 then
  some false
  else
  (window_Window_Retire_2 x134.2.2).bind fun x179 =>
  (window_Window_Fetch_2 false).bind fun x187 =>
  (if decide (x187 = 2) then
  (window_Window_Exec_2 0 x134.2.2).bind fun x372 =>
  some (decide (x372 = 2))
  else
  some false).bind fun y194 =>
  (if y194 then
  (window_Window_Commit_2 0 false x134.2.2).bind fun x361 =>
  some (decide (x361 = 2))
  else
  some false).bind fun y201 =>
  (if y201 then
  (window_Window_MayFetch_2).bind fun x349 =>
  some (!x349)
  else
  some false).bind fun y208 =>
  (if y208 then
  (window_Window_Parts_2).bind fun x337 =>
  some (!x337)
  else
  some false).bind fun y215 =>
  (if y215 then
  (window_Window_MayExec_2 0 x134.2.2).bind fun x325 =>
  some (!x325)
  else
  some false).bind fun y222 =>
  (if y222 then
  (window_Window_MayCommit_2 0 false x134.2.2).bind fun x313 =>
  some (!x313)
  else
  some false).bind fun y229 =>
  (if y229 then
  (window_Window_Ended_2).bind fun x301 =>
  some (!x301)
  else
  some false).bind fun y236 =>
  (if y236 then
  (window_Window_Left).bind fun x289 =>
  some (decide (x289 = 0))
  else
  some false).bind fun y243 =>
  (if y243 then
  (window_Window_Slots_2).bind fun x264 =>
  (window_Window_Log_2).bind fun x274 =>
  some (decide ((w64 ((x264.length : Int) + (x274.length : Int))) = 0))
  else
  some false).bind fun y250 =>
  some y250
noncomputable def law17_WindowRefuses_k1 (p0 : TImage) (p1 : Int) (p2 : List Int) (p3 : Tlaw17_Move) : Option Bool :=
  (law17_went p0 p1 p2).bind fun x59 =>
  if decide (p3.kind = 1) then
  (window_Window_MayFetch x59.1).bind fun x466 =>
  law17_WindowRefuses_k2 p3 x59 x466
  else
  if decide (p3.kind = 2) then
  (window_Window_MayExec x59.1 p3.k x59.2).bind fun x478 =>
  law17_WindowRefuses_k2 p3 x59 x478
  else
  if decide (p3.kind = 3) then
  (window_Window_MayCommit x59.1 p3.k p3.yes x59.2).bind fun x490 =>
  law17_WindowRefuses_k2 p3 x59 x490
  else
  some true
noncomputable def law17_WindowRefuses (p0 : TImage) (p1 : Int) (p2 : List Int) (p3 : Tlaw17_Move) : Option Bool :=
  (law17_alive).bind fun x21 =>
  if !x21 then
  some false
  else
  if ((decide (60 < (p0.code.length : Int))) || (decide (60 < (p0.notes.length : Int)))) || (decide (200 < (p2.length : Int))) then
  some true
  else
  if (window_New_2 p0 p1).isSome then
  (window_New_2 p0 p1).bind fun x508 =>
  (ref15_Good p0).bind fun x519 =>
  if ((!x519) || (decide (p1 < 0))) || (decide ((p0.threads.length : Int) ≤ p1)) then
  some true
  else
  law17_WindowRefuses_k1 p0 p1 p2 p3
  else
  (window_New p0 p1).bind fun x556 =>
  (ref15_Good p0).bind fun x580 =>
  if ((!x580) || (decide (p1 < 0))) || (decide ((p0.threads.length : Int) ≤ p1)) then
  some false
  else
  law17_WindowRefuses_k1 p0 p1 p2 p3
end Go.Vm.K17
