/-
 What functions compute, as plain functions.
-/
import Derived.Test.YtdnnbobadopkeaaDoorESp21
import Derived.Test.YtdnnbobadopkeaaDoorESp16
set_option linter.unusedSimpArgs false
set_option linter.unusedVariables false
namespace Go.Vm.G15w
open Go
theorem Z {α : Sort _} {a : α} : a = a := rfl
theorem cB {b c : Bool} (h : b = c) : Value.bool b = Value.bool c := by rw [h]
structure TNote where
 role : Int
 what : Int
 volatile : Bool
 final : Bool
def RT_TNote : RT TNote := ⟨4, fun V cs x => cs = [.int .i64 x.role, .int .i64 x.what, .bool x.volatile, .bool x.final], ⟨fun _ _ _ h => by rw [h]; rfl, fun _ _ _ h => by rw [h]; rfl, fun _ _ _ _ he h => h⟩⟩
structure TImage where
 code : List Int
 notes : List TNote
 threads : List Int
def RT_TImage : RT TImage := ⟨3, fun V cs x => ∃ v1 v2 v3 : Value, cs = [v1, v2, v3] ∧ Fz (RT.int .u32) V v1 x.code ∧ Fz RT_TNote V v2 x.notes ∧ Fz (RT.int .i64) V v3 x.threads, ⟨fun _ _ _ ⟨v1, v2, v3, h, f1, f2, f3⟩ => by rw [h]; rfl, fun _ _ _ ⟨v1, v2, v3, h, f1, f2, f3⟩ => by rw [h]; have := f1.one; have := f2.one; have := f3.one; simp only [List.all_cons, List.all_nil, *]; rfl, fun _ _ _ _ he ⟨v1, v2, v3, h, f1, f2, f3⟩ => ⟨v1, v2, v3, h, f1.up he, f2.up he, f3.up he⟩⟩⟩
structure Tisa_shape where
 name : ByteArray
 fields : ByteArray
 word : Int
def RT_Tisa_shape : RT Tisa_shape := ⟨3, fun V cs x => cs = [.string x.name, .string x.fields, .int .u32 x.word], ⟨fun _ _ _ h => by rw [h]; rfl, fun _ _ _ h => by rw [h]; rfl, fun _ _ _ _ he h => h⟩⟩
structure TInst where
 op : Int
 d : Int
 a : Int
 b : Int
 imm : Int
structure Tref02_Has where
 name : ByteArray
 d : Bool
 a : Bool
 b : Bool
 imm : Int
 word : Int
def str1 : ByteArray := ⟨#[84, 66, 76, 49]⟩
def str2 : ByteArray := ⟨#[108, 100]⟩
def str3 : ByteArray := ⟨#[100, 97, 109]⟩
def str4 : ByteArray := ⟨#[115, 116, 100]⟩
def str5 : ByteArray := ⟨#[97, 100, 100, 105]⟩
def str6 : ByteArray := ⟨#[100, 97, 105]⟩
def str7 : ByteArray := ⟨#[97, 100, 100]⟩
def str8 : ByteArray := ⟨#[100, 97, 98]⟩
def str9 : ByteArray := ⟨#[115, 117, 98, 102]⟩
def str10 : ByteArray := ⟨#[109, 117, 108, 108, 100]⟩
def str11 : ByteArray := ⟨#[100, 105, 118, 100]⟩
def str12 : ByteArray := ⟨#[99, 109, 112, 100]⟩
def str13 : ByteArray := ⟨#[97, 98]⟩
def str14 : ByteArray := ⟨#[99, 109, 112, 100, 105]⟩
def str15 : ByteArray := ⟨#[97, 105]⟩
def str16 : ByteArray := ⟨#[98, 99]⟩
def str17 : ByteArray := ⟨#[99, 111]⟩
def str18 : ByteArray := ⟨#[98]⟩
def str19 : ByteArray := ⟨#[108]⟩
def str20 : ByteArray := ⟨#[98, 108]⟩
def str21 : ByteArray := ⟨#[98, 108, 114]⟩
def str22 : ByteArray := ⟨#[109, 102, 108, 114]⟩
def str23 : ByteArray := ⟨#[100]⟩
def str24 : ByteArray := ⟨#[109, 116, 108, 114]⟩
def str25 : ByteArray := ⟨#[108, 100, 97, 114, 120]⟩
def str26 : ByteArray := ⟨#[115, 116, 100, 99, 120, 46]⟩
def str27 : ByteArray := ⟨#[115, 121, 110, 99]⟩
def str28 : ByteArray := ⟨#[108, 119, 115, 121, 110, 99]⟩
def str29 : ByteArray := ⟨#[105, 115, 121, 110, 99]⟩
def str30 : ByteArray := ⟨#[116, 114, 97, 112]⟩
def str31 : ByteArray := ⟨#[105]⟩
def str32 : ByteArray := ⟨#[111, 117, 116]⟩
def str33 : ByteArray := ⟨#[116, 104, 114, 101, 97, 100, 32]⟩
def str34 : ByteArray := ⟨#[58, 10]⟩
def str35 : ByteArray := ⟨#[32]⟩
def str36 : ByteArray := ⟨#[108, 116]⟩
def str37 : ByteArray := ⟨#[103, 116]⟩
def str38 : ByteArray := ⟨#[101, 113]⟩
def str39 : ByteArray := ⟨#[103, 101]⟩
def str40 : ByteArray := ⟨#[108, 101]⟩
def str41 : ByteArray := ⟨#[110, 101]⟩
def str42 : ByteArray := ⟨#[114]⟩
def str43 : ByteArray := ⟨#[44, 32]⟩
def str44 : ByteArray := ⟨#[115, 116, 97, 99, 107]⟩
def str45 : ByteArray := ⟨#[97, 99, 99, 101, 115, 115]⟩
def str46 : ByteArray := ⟨#[116, 97, 107, 101]⟩
def str47 : ByteArray := ⟨#[112, 117, 116]⟩
def str48 : ByteArray := ⟨#[104, 101, 108, 100]⟩
def str49 : ByteArray := ⟨#[108, 101, 102, 116]⟩
def str50 : ByteArray := ⟨#[32, 59, 32]⟩
def str51 : ByteArray := ⟨#[10]⟩
def str52 : ByteArray := ⟨#[98, 103, 101]⟩
def str53 : ByteArray := ⟨#[98, 108, 101]⟩
def str54 : ByteArray := ⟨#[98, 110, 101]⟩
def str55 : ByteArray := ⟨#[98, 108, 116]⟩
def str56 : ByteArray := ⟨#[98, 103, 116]⟩
def str57 : ByteArray := ⟨#[98, 101, 113]⟩
def str58 : ByteArray := ⟨#[44, 32, 114]⟩
def str59 : ByteArray := ⟨#[32, 59, 32, 115, 116, 97, 99, 107]⟩
def str60 : ByteArray := ⟨#[32, 59, 32, 97, 99, 99, 101, 115, 115]⟩
def str61 : ByteArray := ⟨#[32, 59, 32, 116, 97, 107, 101]⟩
def str62 : ByteArray := ⟨#[32, 59, 32, 112, 117, 116]⟩
def str63 : ByteArray := ⟨#[32, 59, 32, 104, 101, 108, 100]⟩
def str64 : ByteArray := ⟨#[32, 59, 32, 108, 101, 102, 116]⟩
def gl0 : List ByteArray := [ByteArray.empty, str44, str45, str46, str47, str48, str49]
theorem gl0_len : gl0.length = 7 := rfl
def gl1 : List Tisa_shape := [⟨ByteArray.empty, ByteArray.empty, 0⟩, ⟨str2, str3, 3892314112⟩, ⟨str4, str3, 4160749568⟩, ⟨str5, str6, 939524096⟩, ⟨str7, str8, 2080375316⟩, ⟨str9, str8, 2080374864⟩, ⟨str10, str8, 2080375250⟩, ⟨str11, str8, 2080375762⟩, ⟨str12, str13, 2082471936⟩, ⟨str14, str15, 740294656⟩, ⟨str16, str17, 1073741824⟩, ⟨str18, str19, 1207959552⟩, ⟨str20, str19, 1207959553⟩, ⟨str21, ByteArray.empty, 1317011488⟩, ⟨str22, str23, 2080899750⟩, ⟨str24, str23, 2080900006⟩, ⟨str25, str8, 2080374952⟩, ⟨str26, str8, 2080375213⟩, ⟨str27, ByteArray.empty, 2080375980⟩, ⟨str28, ByteArray.empty, 2082473132⟩, ⟨str29, ByteArray.empty, 1275068716⟩, ⟨str30, str31, 266338304⟩, ⟨str32, str23, 1140850690⟩]
theorem gl1_len : gl1.length = 23 := rfl
abbrev NG : Nat := 5
structure Glb (V : Vw) : Prop where
 lo : NG ≤ V.H.lo
 g0 : Fz RT.str V (.slice (some ⟨0, 0, none⟩) 7 7) gl0
 g1 : Fz RT_Tisa_shape V (.slice (some ⟨1, 0, none⟩) 23 23) gl1
 t2 : Tb V 2 .u8 Lib.asciiSpaceTab
 t4 : Tb V 4 .u64 Lib.pow10Tab
theorem Glb.up {V V2 : Vw} (h : Glb V) (he : V.le V2) : Glb V2 := ⟨by rw [he.lo]; exact h.lo, h.g0.up he, h.g1.up he, h.t2.up he, h.t4.up he⟩
noncomputable def image_number (p0 : ByteArray) : Option Int :=
  (ixS p0 0).bind fun x1 =>
  (shlO .i64 (w64 x1) 24).bind fun x4 =>
  (ixS p0 1).bind fun x7 =>
  (shlO .i64 (w64 x7) 16).bind fun x10 =>
  (ixS p0 2).bind fun x13 =>
  (shlO .i64 (w64 x13) 8).bind fun x16 =>
  (ixS p0 3).bind fun x19 =>
  some (orB .i64 (orB .i64 (orB .i64 x4 x10) x16) (w64 x19))
noncomputable def image_good (p0 : TNote) : Option Bool :=
  if (decide (p0.role < 0)) || (decide (6 < p0.role)) then
  some false
  else
  if decide (p0.role = 2) then
  some ((decide (1 ≤ p0.what)) && (decide (p0.what ≤ 5)))
  else
  some ((decide (p0.role = p0.role)) && ((decide (p0.what = 0)) && ((p0.volatile == false) && ((p0.final == false) && true))))
noncomputable def image_readNote (p0 : Int) : Option (TNote × Bool) :=
  (shrO .u8 p0 3).bind fun x6 =>
  (image_good (⟨w64 (andB .u8 p0 7), w64 (andB .u8 x6 7), decide ((andB .u8 p0 64) ≠ 0), decide ((andB .u8 p0 128) ≠ 0)⟩ : TNote)).bind fun x17 =>
  some ((⟨w64 (andB .u8 p0 7), w64 (andB .u8 x6 7), decide ((andB .u8 p0 64) ≠ 0), decide ((andB .u8 p0 128) ≠ 0)⟩ : TNote), x17)
noncomputable def word_good (p0 : Int) (p1 : Int) : Option Bool :=
  some ((((decide (0 ≤ p0)) && (decide (0 ≤ p1))) && (decide (p0 ≤ 32))) && (decide (p1 ≤ (w64 (32 - p0)))))
noncomputable def word_mask (p0 : Int) : Option Int :=
  if decide (32 ≤ p0) then
  some 4294967295
  else
  (shlO .u32 1 (max p0 0)).bind fun x5 =>
  some (IntKind.wrap .u32 (x5 - 1))
noncomputable def word_Get (p0 : Int) (p1 : Int) (p2 : Int) : Option Int :=
  (word_good p1 p2).bind fun x1 =>
  if !x1 then
  some 0
  else
  (shrO .u32 p0 (w64 ((w64 (32 - p1)) - p2))).bind fun x15 =>
  (word_mask p2).bind fun x18 =>
  some (andB .u32 x15 x18)
noncomputable def word_Signed_k1 (x18 : Int) : Option Int :=
  some x18
noncomputable def word_Signed (p0 : Int) (p1 : Int) : Option Int :=
  if (decide (p1 < 1)) || (decide (32 < p1)) then
  some 0
  else
  (word_mask p1).bind fun x10 =>
  (shrO .i64 (w64 (andB .u32 p0 x10)) (w64 (p1 - 1))).bind fun x24 =>
  if decide (x24 = 1) then
  (shlO .i64 1 p1).bind fun x29 =>
  word_Signed_k1 (w64 ((w64 (andB .u32 p0 x10)) - x29))
  else
  word_Signed_k1 (w64 (andB .u32 p0 x10))
noncomputable def isa_read_k1 (x34 : Int) (x50 : Int) (x51 : Int) (x52 : Int) (x53 : Int) : Option ((Int × Int × Int × Int × Int) ⊕ TInst) :=
  some (Sum.inl (x50, x51, x52, x53, w64 (x34 + 1)))
noncomputable def isa_read_l1b (p0 : Int) (p1 : Int) (xs22 : List Int) (x30 : Int) (x31 : Int) (x32 : Int) (x33 : Int) (x34 : Int) : Option ((Int × Int × Int × Int × Int) ⊕ TInst) :=
  if decide (x34 < (xs22.length : Int)) then
  (ix xs22 x34).bind fun x58 =>
  if decide (x58 = 100) then
  (word_Get p1 6 5).bind fun x74 =>
  isa_read_k1 x34 (w64 x74) x31 x32 x33
  else
  if decide (x58 = 97) then
  (word_Get p1 11 5).bind fun x88 =>
  isa_read_k1 x34 x30 (w64 x88) x32 x33
  else
  if decide (x58 = 98) then
  (word_Get p1 16 5).bind fun x102 =>
  isa_read_k1 x34 x30 x31 (w64 x102) x33
  else
  if decide (x58 = 105) then
  (word_Signed p1 16).bind fun x116 =>
  isa_read_k1 x34 x30 x31 x32 x116
  else
  if decide (x58 = 109) then
  (word_Get p1 16 14).bind fun x130 =>
  (word_Signed x130 14).bind fun x138 =>
  isa_read_k1 x34 x30 x31 x32 (w64 (4 * x138))
  else
  if decide (x58 = 111) then
  (word_Get p1 16 14).bind fun x152 =>
  (word_Signed x152 14).bind fun x160 =>
  isa_read_k1 x34 x30 x31 x32 x160
  else
  if decide (x58 = 108) then
  (word_Get p1 6 24).bind fun x174 =>
  (word_Signed x174 24).bind fun x182 =>
  isa_read_k1 x34 x30 x31 x32 x182
  else
  if decide (x58 = 99) then
  (word_Get p1 6 5).bind fun x196 =>
  (word_Get p1 11 5).bind fun x204 =>
  isa_read_k1 x34 (w64 x196) (w64 x204) x32 x33
  else
  isa_read_k1 x34 x30 x31 x32 x33
  else
  (some (⟨p0, x30, x31, x32, x33⟩ : TInst)).map Sum.inr
noncomputable def isa_read_l1 (p0 : Int) (p1 : Int) (xs22 : List Int) (x30 : Int) (x31 : Int) (x32 : Int) (x33 : Int) (x34 : Int) : Option TInst := loopO (fun s => isa_read_l1b p0 p1 xs22 s.1 s.2.1 s.2.2.1 s.2.2.2.1 s.2.2.2.2) (x30, x31, x32, x33, x34)
noncomputable def isa_read (p0 : Int) (p1 : Int) : Option TInst :=
  (ix gl1 p0).bind fun x14 =>
  (bytesO x14.fields).bind fun xs22 =>
  isa_read_l1 p0 p1 xs22 0 0 0 0 0
noncomputable def isa_used_k1 (x39 : Int) (x56 : Int) (x57 : Int) (x58 : Int) (x59 : Int) : Option ((Int × Int × Int × Int × Int) ⊕ TInst) :=
  some (Sum.inl (x56, x57, x58, x59, w64 (x39 + 1)))
noncomputable def isa_used_l1b (p0 : TInst) (xs27 : List Int) (x35 : Int) (x36 : Int) (x37 : Int) (x38 : Int) (x39 : Int) : Option ((Int × Int × Int × Int × Int) ⊕ TInst) :=
  if decide (x39 < (xs27.length : Int)) then
  (ix xs27 x39).bind fun x64 =>
  if decide (x64 = 100) then
  isa_used_k1 x39 p0.d x36 x37 x38
  else
  if decide (x64 = 97) then
  isa_used_k1 x39 x35 p0.a x37 x38
  else
  if decide (x64 = 98) then
  isa_used_k1 x39 x35 x36 p0.b x38
  else
  if decide (x64 = 99) then
  isa_used_k1 x39 p0.d p0.a x37 x38
  else
  isa_used_k1 x39 x35 x36 x37 p0.imm
  else
  (some (⟨p0.op, x35, x36, x37, x38⟩ : TInst)).map Sum.inr
noncomputable def isa_used_l1 (p0 : TInst) (xs27 : List Int) (x35 : Int) (x36 : Int) (x37 : Int) (x38 : Int) (x39 : Int) : Option TInst := loopO (fun s => isa_used_l1b p0 xs27 s.1 s.2.1 s.2.2.1 s.2.2.2.1 s.2.2.2.2) (x35, x36, x37, x38, x39)
noncomputable def isa_used (p0 : TInst) : Option TInst :=
  (ix gl1 p0.op).bind fun x19 =>
  (bytesO x19.fields).bind fun xs27 =>
  isa_used_l1 p0 xs27 0 0 0 0 0
noncomputable def isa_register (p0 : Int) : Option Bool :=
  some ((decide (0 ≤ p0)) && (decide (p0 < 32)))
noncomputable def word_Fits (p0 : Int) (p1 : Int) : Option Bool :=
  if decide (p1 < 1) then
  some false
  else
  if decide (63 < p1) then
  some true
  else
  (shlO .i64 (-1) (w64 (p1 - 1))).bind fun x9 =>
  (if decide (x9 ≤ p0) then
  (shlO .i64 1 (w64 (p1 - 1))).bind fun x26 =>
  some (decide (p0 < x26))
  else
  some false).bind fun y12 =>
  some y12
noncomputable def isa_part_k1 (x54 : Int) (x55 : Bool) : Option (Int × Int × Int × Bool) :=
  some (16, 14, x54, x55)
noncomputable def isa_part_k2 (x100 : Int) (x101 : Bool) : Option (Int × Int × Int × Bool) :=
  some (6, 10, x100, x101)
noncomputable def isa_part (p0 : Int) (p1 : TInst) : Option (Int × Int × Int × Bool) :=
  if decide (p0 = 100) then
  (isa_register p1.d).bind fun x6 =>
  some (6, 5, p1.d, x6)
  else
  if decide (p0 = 97) then
  (isa_register p1.a).bind fun x18 =>
  some (11, 5, p1.a, x18)
  else
  if decide (p0 = 98) then
  (isa_register p1.b).bind fun x30 =>
  some (16, 5, p1.b, x30)
  else
  if decide (p0 = 105) then
  (word_Fits p1.imm 16).bind fun x42 =>
  some (16, 16, p1.imm, x42)
  else
  if decide (p0 = 109) then
  (shrO .i64 p1.imm 2).bind fun x61 =>
  (word_Fits p1.imm 16).bind fun x64 =>
  if x64 then
  isa_part_k1 x61 (decide ((andB .i64 p1.imm 3) = 0))
  else
  isa_part_k1 x61 false
  else
  if decide (p0 = 111) then
  (word_Fits p1.imm 14).bind fun x78 =>
  some (16, 14, p1.imm, x78)
  else
  if decide (p0 = 108) then
  (word_Fits p1.imm 24).bind fun x90 =>
  some (6, 24, p1.imm, x90)
  else
  (shlO .i64 p1.d 5).bind fun x107 =>
  if decide (p1.d = 4) then
  if decide (0 ≤ p1.a) then
  isa_part_k2 (orB .i64 x107 p1.a) (decide (p1.a < 3))
  else
  isa_part_k2 (orB .i64 x107 p1.a) false
  else
  if decide (p1.d = 12) then
  if decide (0 ≤ p1.a) then
  isa_part_k2 (orB .i64 x107 p1.a) (decide (p1.a < 3))
  else
  isa_part_k2 (orB .i64 x107 p1.a) false
  else
  isa_part_k2 (orB .i64 x107 p1.a) false
noncomputable def isa_Good_l1b (p0 : TInst) (xs24 : List Int) (x32 : Int) : Option (Int ⊕ Bool) :=
  if decide (x32 < (xs24.length : Int)) then
  (ix xs24 x32).bind fun x47 =>
  (isa_part x47 p0).bind fun x61 =>
  if !x61.2.2.2 then
  (some false).map Sum.inr
  else
  some (Sum.inl (w64 (x32 + 1)))
  else
  (some true).map Sum.inr
noncomputable def isa_Good_l1 (p0 : TInst) (xs24 : List Int) (x32 : Int) : Option Bool := loopO (fun s => isa_Good_l1b p0 xs24 s) x32
noncomputable def isa_Good_k1 (p0 : TInst) (x6 : Bool) : Option Bool :=
  if x6 then
  some false
  else
  (ix gl1 p0.op).bind fun x16 =>
  (bytesO x16.fields).bind fun xs24 =>
  isa_Good_l1 p0 xs24 0
noncomputable def isa_Good (p0 : TInst) : Option Bool :=
  if decide (p0.op < 1) then
  isa_Good_k1 p0 true
  else
  if decide (22 < p0.op) then
  isa_Good_k1 p0 true
  else
  (isa_used p0).bind fun x89 =>
  if !((decide (x89.op = p0.op)) && ((decide (x89.d = p0.d)) && ((decide (x89.a = p0.a)) && ((decide (x89.b = p0.b)) && ((decide (x89.imm = p0.imm)) && true))))) then
  isa_Good_k1 p0 true
  else
  if decide (p0.op = 21) then
  isa_Good_k1 p0 (decide (p0.imm < 0))
  else
  isa_Good_k1 p0 false
noncomputable def word_Bits (p0 : Int) (p1 : Int) : Option Int :=
  (word_mask p1).bind fun x1 =>
  some (andB .u32 (IntKind.wrap .u32 p0) x1)
noncomputable def word_Put (p0 : Int) (p1 : Int) (p2 : Int) (p3 : Int) : Option Int :=
  (word_good p1 p2).bind fun x1 =>
  if !x1 then
  some p0
  else
  (word_mask p2).bind fun x15 =>
  (shlO .u32 x15 (w64 ((w64 (32 - p1)) - p2))).bind fun x23 =>
  (word_mask p2).bind fun x26 =>
  (shlO .u32 (andB .u32 p3 x26) (w64 ((w64 (32 - p1)) - p2))).bind fun x34 =>
  some (orB .u32 (andNotB .u32 p0 x23) x34)
noncomputable def isa_Encode_l1b (p0 : TInst) (xs37 : List Int) (x45 : Int) (x46 : Int) : Option ((Int × Int) ⊕ (Int × Int)) :=
  if decide (x46 < (xs37.length : Int)) then
  (ix xs37 x46).bind fun x61 =>
  (isa_part x61 p0).bind fun x75 =>
  (word_Bits x75.2.2.1 x75.2.1).bind fun x83 =>
  (word_Put x45 x75.1 x75.2.1 x83).bind fun x91 =>
  some (Sum.inl (x91, w64 (x46 + 1)))
  else
  (some (x45, 0)).map Sum.inr
noncomputable def isa_Encode_l1 (p0 : TInst) (xs37 : List Int) (x45 : Int) (x46 : Int) : Option (Int × Int) := loopO (fun s => isa_Encode_l1b p0 xs37 s.1 s.2) (x45, x46)
noncomputable def isa_Encode (p0 : TInst) : Option (Int × Int) :=
  (isa_Good p0).bind fun x6 =>
  if !x6 then
  some (0, 1)
  else
  (ix gl1 p0.op).bind fun x21 =>
  (ix gl1 p0.op).bind fun x29 =>
  (bytesO x29.fields).bind fun xs37 =>
  isa_Encode_l1 p0 xs37 x21.word 0
noncomputable def isa_Decode_l1b (p0 : Int) (x6 : Int) : Option (Int ⊕ (TInst × Int)) :=
  if decide (x6 ≤ 22) then
  (isa_read x6 p0).bind fun x19 =>
  (isa_Encode x19).bind fun x35 =>
  if (decide (x35.2 = 0)) && (decide (x35.1 = p0)) then
  (some (x19, 0)).map Sum.inr
  else
  some (Sum.inl (w64 (x6 + 1)))
  else
  (some ((⟨0, 0, 0, 0, 0⟩ : TInst), 4)).map Sum.inr
noncomputable def isa_Decode_l1 (p0 : Int) (x6 : Int) : Option (TInst × Int) := loopO (fun s => isa_Decode_l1b p0 s) x6
noncomputable def isa_Decode (p0 : Int) : Option (TInst × Int) :=
  isa_Decode_l1 p0 1
noncomputable def image_fits (p0 : TInst) (p1 : TNote) : Option Bool :=
  if decide (p0.op = 1) then
  some (((decide (p1.role = 1)) || (decide (p1.role = 2))) || (decide (p1.role = 5)))
  else
  if decide (p0.op = 2) then
  some (((decide (p1.role = 1)) || (decide (p1.role = 2))) || (decide (p1.role = 6)))
  else
  if decide (p0.op = 16) then
  some (decide (p1.role = 3))
  else
  if decide (p0.op = 17) then
  some (decide (p1.role = 4))
  else
  some (decide (p1.role = 0))
noncomputable def image_Good_k1 (p0 : TImage) (x41 : Int) (x65 : TInst × Int) (x81 : Bool) : Option (Int ⊕ Bool) :=
  if x81 then
  (some false).map Sum.inr
  else
  if (((decide (x65.1.op = 11)) || (decide (x65.1.op = 12))) || (decide (x65.1.op = 10))) && ((decide ((w64 (x41 + x65.1.imm)) < 0)) || (decide ((p0.code.length : Int) ≤ (w64 (x41 + x65.1.imm))))) then
  (some false).map Sum.inr
  else
  some (Sum.inl (w64 (x41 + 1)))
noncomputable def image_Good_l2b (p0 : TImage) (x191 : Int) : Option (Int ⊕ Bool) :=
  if decide (x191 < (p0.threads.length : Int)) then
  (ix p0.threads x191).bind fun x204 =>
  if (decide (x204 < 0)) || (decide ((p0.code.length : Int) ≤ x204)) then
  (some false).map Sum.inr
  else
  some (Sum.inl (w64 (x191 + 1)))
  else
  (some true).map Sum.inr
noncomputable def image_Good_l2 (p0 : TImage) (x191 : Int) : Option Bool := loopO (fun s => image_Good_l2b p0 s) x191
noncomputable def image_Good_l1b (p0 : TImage) (x41 : Int) : Option (Int ⊕ Bool) :=
  if decide (x41 < (p0.code.length : Int)) then
  (ix p0.code x41).bind fun x54 =>
  (isa_Decode x54).bind fun x65 =>
  if decide (x65.2 ≠ 0) then
  image_Good_k1 p0 x41 x65 true
  else
  (ix p0.notes x41).bind fun x142 =>
  (image_good x142).bind fun x153 =>
  if !x153 then
  image_Good_k1 p0 x41 x65 true
  else
  (ix p0.notes x41).bind fun x168 =>
  (image_fits x65.1 x168).bind fun x179 =>
  image_Good_k1 p0 x41 x65 (!x179)
  else
  (image_Good_l2 p0 0).map Sum.inr
noncomputable def image_Good_l1 (p0 : TImage) (x41 : Int) : Option Bool := loopO (fun s => image_Good_l1b p0 s) x41
noncomputable def image_Good (p0 : TImage) : Option Bool :=
  if (((decide ((p0.code.length : Int) = 0)) || (decide (8000 < (p0.code.length : Int)))) || (decide ((p0.notes.length : Int) ≠ (p0.code.length : Int)))) || (decide (8 < (p0.threads.length : Int))) then
  some false
  else
  image_Good_l1 p0 0
noncomputable def image_Decode_l2b (xs75 : List Int) (x123 : ByteArray) (xs126 : List Int) (xs129 : List TNote) : Option ((ByteArray × (List Int) × (List TNote)) ⊕ (TImage × Int)) :=
  if decide (x123 ≠ ByteArray.empty) then
  (ixS x123 4).bind fun x151 =>
  (image_readNote x151).bind fun x154 =>
  if !x154.2 then
  (some ((⟨[], [], []⟩ : TImage), 4)).map Sum.inr
  else
  (image_number x123).bind fun x186 =>
  (ap xs126 [IntKind.wrap .u32 x186]).bind fun xs199 =>
  (ap xs129 [x154.1]).bind fun xs212 =>
  (strSub x123 5 (x123.size : Int)).bind fun sx226 =>
  some (Sum.inl (sx226, xs199, xs212))
  else
  ((image_Good (⟨xs126, xs129, xs75⟩ : TImage)).bind fun x255 =>
  if !x255 then
  some ((⟨[], [], []⟩ : TImage), 4)
  else
  some ((⟨xs126, xs129, xs75⟩ : TImage), 0)).map Sum.inr
noncomputable def image_Decode_l2 (xs75 : List Int) (x123 : ByteArray) (xs126 : List Int) (xs129 : List TNote) : Option (TImage × Int) := loopO (fun s => image_Decode_l2b xs75 s.1 s.2.1 s.2.2) (x123, xs126, xs129)
noncomputable def image_Decode_l1b (x71 : ByteArray) (x72 : Int) (xs75 : List Int) : Option ((ByteArray × Int × (List Int)) ⊕ (TImage × Int)) :=
  if decide (0 < x72) then
  (image_number x71).bind fun x93 =>
  (ap xs75 [x93]).bind fun xs106 =>
  (strSub x71 4 (x71.size : Int)).bind fun sx117 =>
  some (Sum.inl (sx117, w64 (x72 - 1), xs106))
  else
  (image_Decode_l2 xs75 x71 [] []).map Sum.inr
noncomputable def image_Decode_l1 (x71 : ByteArray) (x72 : Int) (xs75 : List Int) : Option (TImage × Int) := loopO (fun s => image_Decode_l1b s.1 s.2.1 s.2.2) (x71, x72, xs75)
noncomputable def image_Decode (p0 : ByteArray) : Option (TImage × Int) :=
  (if decide ((p0.size : Int) < 9) then
  some true
  else
  (strSub p0 0 4).bind fun sx288 =>
  some (decide (sx288 ≠ str1))).bind fun y12 =>
  if y12 then
  some ((⟨[], [], []⟩ : TImage), 4)
  else
  (ixS p0 4).bind fun x29 =>
  (strSub p0 5 (p0.size : Int)).bind fun sx32 =>
  (image_number sx32).bind fun x35 =>
  if (decide (8000 < x35)) || (decide ((p0.size : Int) ≠ (w64 ((w64 (9 + (w64 (4 * (w64 x29))))) + (w64 (5 * x35)))))) then
  some ((⟨[], [], []⟩ : TImage), 4)
  else
  (strSub p0 9 (p0.size : Int)).bind fun sx68 =>
  image_Decode_l1 sx68 (w64 x29) []
noncomputable def image_four (p0 : Int) : Option (List Int) :=
  (shrO .u32 p0 24).bind fun x3 =>
  (shrO .u32 p0 16).bind fun x6 =>
  (shrO .u32 p0 8).bind fun x9 =>
  some [IntKind.wrap .u8 x3, IntKind.wrap .u8 x6, IntKind.wrap .u8 x9, IntKind.wrap .u8 p0]
noncomputable def image_note_k2 (x14 : Int) : Option Int :=
  some x14
noncomputable def image_note_k1 (p0 : TNote) (x9 : Int) : Option Int :=
  if p0.final then
  image_note_k2 (orB .u8 x9 128)
  else
  image_note_k2 x9
noncomputable def image_note (p0 : TNote) : Option Int :=
  (shlO .u8 (IntKind.wrap .u8 p0.what) 3).bind fun x6 =>
  if p0.volatile then
  image_note_k1 p0 (orB .u8 (orB .u8 (IntKind.wrap .u8 p0.role) x6) 64)
  else
  image_note_k1 p0 (orB .u8 (IntKind.wrap .u8 p0.role) x6)
noncomputable def image_Encode_l2b (p0 : TImage) (xs120 : List Int) (x121 : Int) : Option (((List Int) × Int) ⊕ (ByteArray × Int)) :=
  if decide (x121 < (p0.code.length : Int)) then
  (ix p0.code x121).bind fun x134 =>
  (image_four x134).bind fun x145 =>
  (ap xs120 x145).bind fun xs155 =>
  (ix p0.notes x121).bind fun x163 =>
  (image_note x163).bind fun x174 =>
  (ap xs155 [x174]).bind fun xs188 =>
  some (Sum.inl (xs188, w64 (x121 + 1)))
  else
  ((strO xs120).bind fun sx206 =>
  some (sx206, 0)).map Sum.inr
noncomputable def image_Encode_l2 (p0 : TImage) (xs120 : List Int) (x121 : Int) : Option (ByteArray × Int) := loopO (fun s => image_Encode_l2b p0 s.1 s.2) (xs120, x121)
noncomputable def image_Encode_l1b (p0 : TImage) (xs68 : List Int) (x69 : Int) : Option (((List Int) × Int) ⊕ (ByteArray × Int)) :=
  if decide (x69 < (p0.threads.length : Int)) then
  (ix p0.threads x69).bind fun x86 =>
  (image_four (IntKind.wrap .u32 x86)).bind fun x97 =>
  (ap xs68 x97).bind fun xs107 =>
  some (Sum.inl (xs107, w64 (x69 + 1)))
  else
  (image_Encode_l2 p0 xs68 0).map Sum.inr
noncomputable def image_Encode_l1 (p0 : TImage) (xs68 : List Int) (x69 : Int) : Option (ByteArray × Int) := loopO (fun s => image_Encode_l1b p0 s.1 s.2) (xs68, x69)
noncomputable def image_Encode (p0 : TImage) : Option (ByteArray × Int) :=
  (image_Good p0).bind fun x15 =>
  if !x15 then
  some (ByteArray.empty, 1)
  else
  (ap [84, 66, 76, 49] [IntKind.wrap .u8 (p0.threads.length : Int)]).bind fun xs40 =>
  (image_four (IntKind.wrap .u32 (p0.code.length : Int))).bind fun x48 =>
  (ap xs40 x48).bind fun xs58 =>
  image_Encode_l1 p0 xs58 0
noncomputable def law15_alive : Option Bool :=
  (image_Decode ByteArray.empty).bind fun x1 =>
  (mk 1 (⟨0, 0, false, false⟩ : TNote)).bind fun xs28 =>
  (image_Encode (⟨[266338304], xs28, [0]⟩ : TImage)).bind fun x62 =>
  some (((decide (x1.2 = 4)) && (decide (x62.2 = 0))) && (decide ((x62.1.size : Int) = 18)))
noncomputable def law15_great (p0 : TImage) : Option Bool :=
  some (((decide (200 < (p0.code.length : Int))) || (decide (200 < (p0.notes.length : Int)))) || (decide (20 < (p0.threads.length : Int))))
noncomputable def ref02_ext (p0 : Int) : Option Int :=
  some (IntKind.wrap .u32 (2080374784 + (IntKind.wrap .u32 (2 * p0))))
noncomputable def ref02_Of (p0 : Int) : Option (Tref02_Has × Bool) :=
  if decide (p0 = 1) then
  some ((⟨str2, true, true, false, 4, 3892314112⟩ : Tref02_Has), true)
  else
  if decide (p0 = 2) then
  some ((⟨str4, true, true, false, 4, 4160749568⟩ : Tref02_Has), true)
  else
  if decide (p0 = 3) then
  some ((⟨str5, true, true, false, 16, 939524096⟩ : Tref02_Has), true)
  else
  if decide (p0 = 4) then
  (ref02_ext 266).bind fun x32 =>
  some ((⟨str7, true, true, true, 0, x32⟩ : Tref02_Has), true)
  else
  if decide (p0 = 5) then
  (ref02_ext 40).bind fun x48 =>
  some ((⟨str9, true, true, true, 0, x48⟩ : Tref02_Has), true)
  else
  if decide (p0 = 6) then
  (ref02_ext 233).bind fun x64 =>
  some ((⟨str10, true, true, true, 0, x64⟩ : Tref02_Has), true)
  else
  if decide (p0 = 7) then
  (ref02_ext 489).bind fun x80 =>
  some ((⟨str11, true, true, true, 0, x80⟩ : Tref02_Has), true)
  else
  if decide (p0 = 8) then
  (ref02_ext 0).bind fun x96 =>
  some ((⟨str12, false, true, true, 0, IntKind.wrap .u32 (x96 + 2097152)⟩ : Tref02_Has), true)
  else
  if decide (p0 = 9) then
  some ((⟨str14, false, true, false, 16, 740294656⟩ : Tref02_Has), true)
  else
  if decide (p0 = 10) then
  some ((⟨ByteArray.empty, true, true, false, 14, 1073741824⟩ : Tref02_Has), true)
  else
  if decide (p0 = 11) then
  some ((⟨str18, false, false, false, 24, 1207959552⟩ : Tref02_Has), true)
  else
  if decide (p0 = 12) then
  some ((⟨str20, false, false, false, 24, 1207959553⟩ : Tref02_Has), true)
  else
  if decide (p0 = 13) then
  some ((⟨str21, false, false, false, 0, 1317011488⟩ : Tref02_Has), true)
  else
  if decide (p0 = 14) then
  (ref02_ext 339).bind fun x152 =>
  some ((⟨str22, true, false, false, 0, IntKind.wrap .u32 (x152 + 524288)⟩ : Tref02_Has), true)
  else
  if decide (p0 = 15) then
  (ref02_ext 467).bind fun x168 =>
  some ((⟨str24, true, false, false, 0, IntKind.wrap .u32 (x168 + 524288)⟩ : Tref02_Has), true)
  else
  if decide (p0 = 16) then
  (ref02_ext 84).bind fun x184 =>
  some ((⟨str25, true, true, true, 0, x184⟩ : Tref02_Has), true)
  else
  if decide (p0 = 17) then
  (ref02_ext 214).bind fun x200 =>
  some ((⟨str26, true, true, true, 0, IntKind.wrap .u32 (x200 + 1)⟩ : Tref02_Has), true)
  else
  if decide (p0 = 18) then
  some ((⟨str27, false, false, false, 0, 2080375980⟩ : Tref02_Has), true)
  else
  if decide (p0 = 19) then
  some ((⟨str28, false, false, false, 0, 2082473132⟩ : Tref02_Has), true)
  else
  if decide (p0 = 20) then
  some ((⟨str29, false, false, false, 0, 1275068716⟩ : Tref02_Has), true)
  else
  if decide (p0 = 21) then
  some ((⟨str30, false, false, false, 16, 266338304⟩ : Tref02_Has), true)
  else
  if decide (p0 = 22) then
  some ((⟨str32, true, false, false, 0, 1140850690⟩ : Tref02_Has), true)
  else
  some ((⟨ByteArray.empty, false, false, false, 0, 0⟩ : Tref02_Has), false)
noncomputable def ref01_Good (p0 : Int) (p1 : Int) : Option Bool :=
  some (((((decide (0 ≤ p0)) && (decide (0 ≤ p1))) && (decide (p0 ≤ 32))) && (decide (p1 ≤ 32))) && (decide ((w64 (p0 + p1)) ≤ 32)))
noncomputable def ref01_Bit_l1b (p1 : Int) (x1 : Int) (x2 : Int) : Option ((Int × Int) ⊕ Bool) :=
  if decide (p1 < x2) then
  (quoO .u32 x1 2).bind fun x15 =>
  some (Sum.inl (x15, w64 (x2 - 1)))
  else
  ((remO .u32 x1 2).bind fun x20 =>
  some (decide (x20 = 1))).map Sum.inr
noncomputable def ref01_Bit_l1 (p1 : Int) (x1 : Int) (x2 : Int) : Option Bool := loopO (fun s => ref01_Bit_l1b p1 s.1 s.2) (x1, x2)
noncomputable def ref01_Bit (p0 : Int) (p1 : Int) : Option Bool :=
  ref01_Bit_l1 p1 p0 31
noncomputable def ref01_Get_k1 (x16 : Int) (x29 : Int) : Option ((Int × Int) ⊕ Int) :=
  some (Sum.inl (x29, w64 (x16 + 1)))
noncomputable def ref01_Get_l1b (p0 : Int) (p1 : Int) (p2 : Int) (x15 : Int) (x16 : Int) : Option ((Int × Int) ⊕ Int) :=
  if decide (x16 < (w64 (p1 + p2))) then
  (ref01_Bit p0 x16).bind fun x34 =>
  if x34 then
  ref01_Get_k1 x16 (IntKind.wrap .u32 ((IntKind.wrap .u32 (2 * x15)) + 1))
  else
  ref01_Get_k1 x16 (IntKind.wrap .u32 (2 * x15))
  else
  (some x15).map Sum.inr
noncomputable def ref01_Get_l1 (p0 : Int) (p1 : Int) (p2 : Int) (x15 : Int) (x16 : Int) : Option Int := loopO (fun s => ref01_Get_l1b p0 p1 p2 s.1 s.2) (x15, x16)
noncomputable def ref01_Get (p0 : Int) (p1 : Int) (p2 : Int) : Option Int :=
  (ref01_Good p1 p2).bind fun x1 =>
  if !x1 then
  some 0
  else
  ref01_Get_l1 p0 p1 p2 0 p1
noncomputable def ref01_Signed_k1 (x11 : Int) (x24 : Int) : Option ((Int × Int) ⊕ Int) :=
  some (Sum.inl (x24, w64 (x11 + 1)))
noncomputable def ref01_Signed_l1b (p0 : Int) (p1 : Int) (x10 : Int) (x11 : Int) : Option ((Int × Int) ⊕ Int) :=
  if decide (x11 < 32) then
  (ref01_Bit p0 x11).bind fun x29 =>
  if x29 then
  if decide (x11 = (w64 (32 - p1))) then
  ref01_Signed_k1 x11 (w64 ((w64 (2 * x10)) - 1))
  else
  ref01_Signed_k1 x11 (w64 ((w64 (2 * x10)) + 1))
  else
  ref01_Signed_k1 x11 (w64 (2 * x10))
  else
  (some x10).map Sum.inr
noncomputable def ref01_Signed_l1 (p0 : Int) (p1 : Int) (x10 : Int) (x11 : Int) : Option Int := loopO (fun s => ref01_Signed_l1b p0 p1 s.1 s.2) (x10, x11)
noncomputable def ref01_Signed (p0 : Int) (p1 : Int) : Option Int :=
  if (decide (p1 < 1)) || (decide (32 < p1)) then
  some 0
  else
  ref01_Signed_l1 p0 p1 0 (w64 (32 - p1))
noncomputable def ref02_number (p0 : Bool) (p1 : Int) : Option Bool :=
  some (((p0 && (decide (0 ≤ p1))) && (decide (p1 ≤ 31))) || ((!p0) && (decide (p1 = 0))))
noncomputable def ref01_Fits_l1b (p0 : Int) (p1 : Int) (x9 : Int) (x10 : Int) (x11 : Int) : Option ((Int × Int × Int) ⊕ Bool) :=
  if decide (x11 < p1) then
  some (Sum.inl (w64 (2 * x9), w64 ((w64 (2 * x10)) + 1), w64 (x11 + 1)))
  else
  (some ((decide (x9 ≤ p0)) && (decide (p0 ≤ x10)))).map Sum.inr
noncomputable def ref01_Fits_l1 (p0 : Int) (p1 : Int) (x9 : Int) (x10 : Int) (x11 : Int) : Option Bool := loopO (fun s => ref01_Fits_l1b p0 p1 s.1 s.2.1 s.2.2) (x9, x10, x11)
noncomputable def ref01_Fits (p0 : Int) (p1 : Int) : Option Bool :=
  if decide (p1 < 1) then
  some false
  else
  if decide (63 < p1) then
  some true
  else
  ref01_Fits_l1 p0 p1 (-1) 0 1
noncomputable def ref02_Good (p0 : TInst) : Option Bool :=
  (ref02_Of p0.op).bind fun x6 =>
  (if !x6.2 then
  some true
  else
  (ref02_number x6.1.d p0.d).bind fun x200 =>
  some (!x200)).bind fun y22 =>
  (if y22 then
  some true
  else
  (ref02_number x6.1.a p0.a).bind fun x185 =>
  some (!x185)).bind fun y34 =>
  (if y34 then
  some true
  else
  (ref02_number x6.1.b p0.b).bind fun x172 =>
  some (!x172)).bind fun y46 =>
  if y46 then
  some false
  else
  if ((decide (p0.op = 10)) && (((decide (p0.d ≠ 4)) && (decide (p0.d ≠ 12))) || (decide (2 < p0.a)))) || ((decide (p0.op = 21)) && (decide (p0.imm < 0))) then
  some false
  else
  if decide (x6.1.imm = 0) then
  some (decide (p0.imm = 0))
  else
  if decide (x6.1.imm = 4) then
  (remO .i64 p0.imm 4).bind fun x105 =>
  (if decide (x105 = 0) then
  (ref01_Fits p0.imm 16).bind fun x122 =>
  some x122
  else
  some false).bind fun y108 =>
  some y108
  else
  (ref01_Fits p0.imm x6.1.imm).bind fun x134 =>
  some x134
noncomputable def ref02_Encode_k1 (x22 : Int) : Option Int :=
  some x22
noncomputable def ref02_Encode_k2 (p0 : TInst) (x6 : Tref02_Has × Bool) (x28 : Bool) : Option Int :=
  if x28 then
  (remO .i64 (w64 (p0.imm + 65536)) 65536).bind fun x35 =>
  ref02_Encode_k1 (IntKind.wrap .u32 ((IntKind.wrap .u32 ((IntKind.wrap .u32 ((IntKind.wrap .u32 (x6.1.word + (IntKind.wrap .u32 ((IntKind.wrap .u32 p0.d) * 2097152)))) + (IntKind.wrap .u32 ((IntKind.wrap .u32 p0.a) * 65536)))) + (IntKind.wrap .u32 ((IntKind.wrap .u32 p0.b) * 2048)))) + (IntKind.wrap .u32 x35)))
  else
  if decide (x6.1.imm = 14) then
  (remO .i64 (w64 ((w64 (4 * p0.imm)) + 65536)) 65536).bind fun x42 =>
  ref02_Encode_k1 (IntKind.wrap .u32 ((IntKind.wrap .u32 ((IntKind.wrap .u32 ((IntKind.wrap .u32 (x6.1.word + (IntKind.wrap .u32 ((IntKind.wrap .u32 p0.d) * 2097152)))) + (IntKind.wrap .u32 ((IntKind.wrap .u32 p0.a) * 65536)))) + (IntKind.wrap .u32 ((IntKind.wrap .u32 p0.b) * 2048)))) + (IntKind.wrap .u32 x42)))
  else
  if decide (x6.1.imm = 24) then
  (remO .i64 (w64 ((w64 (4 * p0.imm)) + 67108864)) 67108864).bind fun x49 =>
  ref02_Encode_k1 (IntKind.wrap .u32 ((IntKind.wrap .u32 ((IntKind.wrap .u32 ((IntKind.wrap .u32 (x6.1.word + (IntKind.wrap .u32 ((IntKind.wrap .u32 p0.d) * 2097152)))) + (IntKind.wrap .u32 ((IntKind.wrap .u32 p0.a) * 65536)))) + (IntKind.wrap .u32 ((IntKind.wrap .u32 p0.b) * 2048)))) + (IntKind.wrap .u32 x49)))
  else
  ref02_Encode_k1 (IntKind.wrap .u32 ((IntKind.wrap .u32 ((IntKind.wrap .u32 (x6.1.word + (IntKind.wrap .u32 ((IntKind.wrap .u32 p0.d) * 2097152)))) + (IntKind.wrap .u32 ((IntKind.wrap .u32 p0.a) * 65536)))) + (IntKind.wrap .u32 ((IntKind.wrap .u32 p0.b) * 2048))))
noncomputable def ref02_Encode (p0 : TInst) : Option Int :=
  (ref02_Of p0.op).bind fun x6 =>
  if decide (x6.1.imm = 4) then
  ref02_Encode_k2 p0 x6 true
  else
  ref02_Encode_k2 p0 x6 (decide (x6.1.imm = 16))
noncomputable def ref02_Decode_k4 (p0 : Int) (x6 : Int) (x43 : Int) (x48 : Int) (x53 : Int) (x58 : Int) : Option (Int ⊕ (TInst × Bool)) :=
  (ref02_Good (⟨x6, x43, x48, x53, x58⟩ : TInst)).bind fun x63 =>
  (if x63 then
  (ref02_Encode (⟨x6, x43, x48, x53, x58⟩ : TInst)).bind fun x94 =>
  some (decide (x94 = p0))
  else
  some false).bind fun y71 =>
  if y71 then
  (some ((⟨x6, x43, x48, x53, x58⟩ : TInst), true)).map Sum.inr
  else
  some (Sum.inl (w64 (x6 + 1)))
noncomputable def ref02_Decode_k3 (p0 : Int) (x6 : Int) (x19 : Tref02_Has × Bool) (x43 : Int) (x48 : Int) (x53 : Int) : Option (Int ⊕ (TInst × Bool)) :=
  if decide (x19.1.imm = 16) then
  (ref01_Signed p0 16).bind fun x107 =>
  ref02_Decode_k4 p0 x6 x43 x48 x53 x107
  else
  if decide (x19.1.imm = 4) then
  (ref01_Get p0 16 14).bind fun x122 =>
  (ref01_Signed x122 14).bind fun x130 =>
  ref02_Decode_k4 p0 x6 x43 x48 x53 (w64 (4 * x130))
  else
  if decide (x19.1.imm = 14) then
  (ref01_Get p0 16 14).bind fun x145 =>
  (ref01_Signed x145 14).bind fun x153 =>
  ref02_Decode_k4 p0 x6 x43 x48 x53 x153
  else
  if decide (x19.1.imm = 24) then
  (ref01_Get p0 6 24).bind fun x168 =>
  (ref01_Signed x168 24).bind fun x176 =>
  ref02_Decode_k4 p0 x6 x43 x48 x53 x176
  else
  ref02_Decode_k4 p0 x6 x43 x48 x53 0
noncomputable def ref02_Decode_k2 (p0 : Int) (x6 : Int) (x19 : Tref02_Has × Bool) (x43 : Int) (x48 : Int) : Option (Int ⊕ (TInst × Bool)) :=
  if x19.1.b then
  (ref01_Get p0 16 5).bind fun x192 =>
  ref02_Decode_k3 p0 x6 x19 x43 x48 (w64 x192)
  else
  ref02_Decode_k3 p0 x6 x19 x43 x48 0
noncomputable def ref02_Decode_k1 (p0 : Int) (x6 : Int) (x19 : Tref02_Has × Bool) (x43 : Int) : Option (Int ⊕ (TInst × Bool)) :=
  if x19.1.a then
  (ref01_Get p0 11 5).bind fun x206 =>
  ref02_Decode_k2 p0 x6 x19 x43 (w64 x206)
  else
  ref02_Decode_k2 p0 x6 x19 x43 0
noncomputable def ref02_Decode_l1b (p0 : Int) (x6 : Int) : Option (Int ⊕ (TInst × Bool)) :=
  if decide (x6 ≤ 22) then
  (ref02_Of x6).bind fun x19 =>
  if x19.1.d then
  (ref01_Get p0 6 5).bind fun x220 =>
  ref02_Decode_k1 p0 x6 x19 (w64 x220)
  else
  ref02_Decode_k1 p0 x6 x19 0
  else
  (some ((⟨0, 0, 0, 0, 0⟩ : TInst), false)).map Sum.inr
noncomputable def ref02_Decode_l1 (p0 : Int) (x6 : Int) : Option (TInst × Bool) := loopO (fun s => ref02_Decode_l1b p0 s) x6
noncomputable def ref02_Decode (p0 : Int) : Option (TInst × Bool) :=
  ref02_Decode_l1 p0 1
noncomputable def ref15_Good_l2b (x37 : Int) (x115 : TNote) (xs141 : List Int) (x146 : Bool) (x147 : Int) : Option ((Bool × Int) ⊕ (Int ⊕ Bool)) :=
  if decide (x147 < (xs141.length : Int)) then
  (ix xs141 x147).bind fun x160 =>
  some (Sum.inl (x146 || (decide (x160 = x115.role)), w64 (x147 + 1)))
  else
  (if ((!x146) || ((decide (x115.role = 2)) && ((decide (x115.what < 1)) || (decide (5 < x115.what))))) || ((decide (x115.role ≠ 2)) && (((decide (x115.what ≠ 0)) || x115.volatile) || x115.final)) then
  (some false).map Sum.inr
  else
  some (Sum.inl (w64 (x37 + 1)))).map Sum.inr
noncomputable def ref15_Good_l2 (x37 : Int) (x115 : TNote) (xs141 : List Int) (x146 : Bool) (x147 : Int) : Option (Int ⊕ Bool) := loopO (fun s => ref15_Good_l2b x37 x115 xs141 s.1 s.2) (x146, x147)
noncomputable def ref15_Good_k1 (x37 : Int) (x115 : TNote) (xs141 : List Int) : Option (Int ⊕ Bool) :=
  ref15_Good_l2 x37 x115 xs141 false 0
noncomputable def ref15_Good_l3b (p0 : TImage) (x349 : Int) : Option (Int ⊕ Bool) :=
  if decide (x349 < (p0.threads.length : Int)) then
  (ix p0.threads x349).bind fun x363 =>
  if (decide (x363 < 0)) || (decide ((p0.code.length : Int) ≤ x363)) then
  (some false).map Sum.inr
  else
  some (Sum.inl (w64 (x349 + 1)))
  else
  (some true).map Sum.inr
noncomputable def ref15_Good_l3 (p0 : TImage) (x349 : Int) : Option Bool := loopO (fun s => ref15_Good_l3b p0 s) x349
noncomputable def ref15_Good_l1b (p0 : TImage) (x37 : Int) : Option (Int ⊕ Bool) :=
  if decide (x37 < (p0.code.length : Int)) then
  (ix p0.code x37).bind fun x50 =>
  (ref02_Decode x50).bind fun x61 =>
  if !x61.2 then
  (some false).map Sum.inr
  else
  if ((decide (10 ≤ x61.1.op)) && (decide (x61.1.op ≤ 12))) && ((decide ((w64 (x37 + x61.1.imm)) < 0)) || (decide ((p0.code.length : Int) ≤ (w64 (x37 + x61.1.imm))))) then
  (some false).map Sum.inr
  else
  (ix p0.notes x37).bind fun x115 =>
  if decide (x61.1.op = 1) then
  ref15_Good_k1 x37 x115 [1, 2, 5]
  else
  if decide (x61.1.op = 2) then
  ref15_Good_k1 x37 x115 [1, 2, 6]
  else
  if decide (x61.1.op = 16) then
  ref15_Good_k1 x37 x115 [3]
  else
  if decide (x61.1.op = 17) then
  ref15_Good_k1 x37 x115 [4]
  else
  ref15_Good_k1 x37 x115 [0]
  else
  (ref15_Good_l3 p0 0).map Sum.inr
noncomputable def ref15_Good_l1 (p0 : TImage) (x37 : Int) : Option Bool := loopO (fun s => ref15_Good_l1b p0 s) x37
noncomputable def ref15_Good (p0 : TImage) : Option Bool :=
  if (((decide ((p0.code.length : Int) < 1)) || (decide (8000 < (p0.code.length : Int)))) || (decide ((p0.notes.length : Int) ≠ (p0.code.length : Int)))) || (decide (8 < (p0.threads.length : Int))) then
  some false
  else
  ref15_Good_l1 p0 0
noncomputable def strconv_Itoa (p0 : Int) : Option ByteArray :=
  itoaO p0
noncomputable def strings_Builder_WriteString (p0 : ByteArray) (p1 : ByteArray) : Option ByteArray :=
  bwO p0 p1
noncomputable def isa_condition (p0 : TInst) : Option ByteArray :=
  if decide (p0.d = 12) then
  (ix [str36, str37, str38] p0.a).bind fun x18 =>
  (catO str18 x18).bind fun x32 =>
  some x32
  else
  (ix [str39, str40, str41] p0.a).bind fun x40 =>
  (catO str18 x40).bind fun x54 =>
  some x54
noncomputable def strings_Join (p0 : List ByteArray) (p1 : ByteArray) : Option ByteArray :=
  joinO p0 p1
noncomputable def strings_TrimSpace (p0 : ByteArray) : Option ByteArray :=
  trimO p0
noncomputable def isa_Text_k1 (x76 : Int) (xs97 : List ByteArray) : Option (((List ByteArray) × Int) ⊕ ByteArray) :=
  some (Sum.inl (xs97, w64 (x76 + 1)))
noncomputable def isa_Text_l1b (p0 : TInst) (x21 : Tisa_shape) (xs65 : List Int) (xs75 : List ByteArray) (x76 : Int) : Option (((List ByteArray) × Int) ⊕ ByteArray) :=
  if decide (x76 < (xs65.length : Int)) then
  (ix xs65 x76).bind fun x102 =>
  if decide (x102 = 100) then
  (strconv_Itoa p0.d).bind fun x118 =>
  (catO str42 x118).bind fun x126 =>
  (ap xs75 [x126]).bind fun xs134 =>
  isa_Text_k1 x76 xs134
  else
  if decide (x102 = 97) then
  (strconv_Itoa p0.a).bind fun x146 =>
  (catO str42 x146).bind fun x154 =>
  (ap xs75 [x154]).bind fun xs162 =>
  isa_Text_k1 x76 xs162
  else
  if decide (x102 = 98) then
  (strconv_Itoa p0.b).bind fun x174 =>
  (catO str42 x174).bind fun x182 =>
  (ap xs75 [x182]).bind fun xs190 =>
  isa_Text_k1 x76 xs190
  else
  (strconv_Itoa p0.imm).bind fun x200 =>
  (ap xs75 [x200]).bind fun xs213 =>
  isa_Text_k1 x76 xs213
  else
  ((catO x21.name str35).bind fun x224 =>
  (strings_Join xs75 str43).bind fun x228 =>
  (catO x224 x228).bind fun x236 =>
  (strings_TrimSpace x236).bind fun x239 =>
  some x239).map Sum.inr
noncomputable def isa_Text_l1 (p0 : TInst) (x21 : Tisa_shape) (xs65 : List Int) (xs75 : List ByteArray) (x76 : Int) : Option ByteArray := loopO (fun s => isa_Text_l1b p0 x21 xs65 s.1 s.2) (xs75, x76)
noncomputable def isa_Text (p0 : TInst) : Option ByteArray :=
  (isa_Good p0).bind fun x6 =>
  if !x6 then
  some ByteArray.empty
  else
  (ix gl1 p0.op).bind fun x21 =>
  if decide (p0.op = 10) then
  (isa_condition p0).bind fun x39 =>
  (catO x39 str35).bind fun x47 =>
  (strconv_Itoa p0.imm).bind fun x50 =>
  (catO x47 x50).bind fun x58 =>
  some x58
  else
  (bytesO x21.fields).bind fun xs65 =>
  isa_Text_l1 p0 x21 xs65 [] 0
noncomputable def strings_Builder_String (p0 : ByteArray) : Option ByteArray :=
  bsO p0
noncomputable def image_List_k1 (x63 : Int) (xs76 : ByteArray) : Option ((ByteArray × Int) ⊕ ((ByteArray × Int) ⊕ ByteArray)) :=
  some (Sum.inl (xs76, w64 (x63 + 1)))
noncomputable def image_List_k2 (x36 : Int) (xs173 : ByteArray) : Option ((ByteArray × Int) ⊕ ByteArray) :=
  (strings_Builder_WriteString xs173 str51).bind fun x179 =>
  some (Sum.inl (x179, w64 (x36 + 1)))
noncomputable def image_List_l2b (p0 : TImage) (x36 : Int) (x51 : Int) (xs62 : ByteArray) (x63 : Int) : Option ((ByteArray × Int) ⊕ ((ByteArray × Int) ⊕ ByteArray)) :=
  if decide (x63 < (p0.threads.length : Int)) then
  (ix p0.threads x63).bind fun x81 =>
  if decide (x81 = x36) then
  (strconv_Itoa x63).bind fun x94 =>
  (catO str33 x94).bind fun x102 =>
  (catO x102 str34).bind fun x105 =>
  (strings_Builder_WriteString xs62 x105).bind fun x109 =>
  image_List_k1 x63 x109
  else
  image_List_k1 x63 xs62
  else
  ((isa_Decode x51).bind fun x124 =>
  (strconv_Itoa x36).bind fun x140 =>
  (catO x140 str35).bind fun x148 =>
  (isa_Text x124.1).bind fun x151 =>
  (catO x148 x151).bind fun x159 =>
  (strings_Builder_WriteString xs62 x159).bind fun x163 =>
  (ix p0.notes x36).bind fun x191 =>
  if decide (x191.role ≠ 0) then
  (ix gl0 x191.role).bind fun x204 =>
  (catO str50 x204).bind fun x212 =>
  (strings_Builder_WriteString x163 x212).bind fun x215 =>
  image_List_k2 x36 x215
  else
  image_List_k2 x36 x163).map Sum.inr
noncomputable def image_List_l2 (p0 : TImage) (x36 : Int) (x51 : Int) (xs62 : ByteArray) (x63 : Int) : Option ((ByteArray × Int) ⊕ ByteArray) := loopO (fun s => image_List_l2b p0 x36 x51 s.1 s.2) (xs62, x63)
noncomputable def image_List_l1b (p0 : TImage) (xs35 : ByteArray) (x36 : Int) : Option ((ByteArray × Int) ⊕ ByteArray) :=
  if decide (x36 < (p0.code.length : Int)) then
  (ix p0.code x36).bind fun x51 =>
  image_List_l2 p0 x36 x51 xs35 0
  else
  ((strings_Builder_String xs35).bind fun x235 =>
  some x235).map Sum.inr
noncomputable def image_List_l1 (p0 : TImage) (xs35 : ByteArray) (x36 : Int) : Option ByteArray := loopO (fun s => image_List_l1b p0 s.1 s.2) (xs35, x36)
noncomputable def image_List (p0 : TImage) : Option ByteArray :=
  (image_Good p0).bind fun x15 =>
  if !x15 then
  some ByteArray.empty
  else
  image_List_l1 p0 ByteArray.empty 0
noncomputable def ref02_Text_k1 (x67 : Int) (x82 : ByteArray) : Option ((ByteArray × Int) ⊕ ByteArray) :=
  some (Sum.inl (x82, w64 (x67 + 1)))
noncomputable def ref02_Text_k2 (x21 : Tref02_Has × Bool) (x118 : ByteArray) : Option ByteArray :=
  if decide (x118 = ByteArray.empty) then
  some x21.1.name
  else
  (strSub x118 1 (x118.size : Int)).bind fun sx128 =>
  (catO x21.1.name sx128).bind fun x131 =>
  some x131
noncomputable def ref02_Text_l1b (p0 : TInst) (x21 : Tref02_Has × Bool) (x66 : ByteArray) (x67 : Int) : Option ((ByteArray × Int) ⊕ ByteArray) :=
  if decide (x67 < 3) then
  (ix ([p0.d, p0.a, p0.b] : List Int) x67).bind fun x87 =>
  (ix ([x21.1.d, x21.1.a, x21.1.b] : List Bool) x67).bind fun x93 =>
  if x93 then
  (catO x66 str58).bind fun x101 =>
  (strconv_Itoa x87).bind fun x104 =>
  (catO x101 x104).bind fun x112 =>
  ref02_Text_k1 x67 x112
  else
  ref02_Text_k1 x67 x66
  else
  (if decide (0 < x21.1.imm) then
  (catO x66 str43).bind fun x138 =>
  (strconv_Itoa p0.imm).bind fun x141 =>
  (catO x138 x141).bind fun x149 =>
  ref02_Text_k2 x21 x149
  else
  ref02_Text_k2 x21 x66).map Sum.inr
noncomputable def ref02_Text_l1 (p0 : TInst) (x21 : Tref02_Has × Bool) (x66 : ByteArray) (x67 : Int) : Option ByteArray := loopO (fun s => ref02_Text_l1b p0 x21 s.1 s.2) (x66, x67)
noncomputable def ref02_Text (p0 : TInst) : Option ByteArray :=
  (ref02_Good p0).bind fun x6 =>
  if !x6 then
  some ByteArray.empty
  else
  (ref02_Of p0.op).bind fun x21 =>
  if decide (p0.op = 10) then
  (quoO .i64 p0.d 12).bind fun x39 =>
  (ix ([str52, str53, str54, str55, str56, str57] : List ByteArray) (w64 (p0.a + (w64 (3 * x39))))).bind fun x42 =>
  (catO x42 str35).bind fun x48 =>
  (strconv_Itoa p0.imm).bind fun x51 =>
  (catO x48 x51).bind fun x59 =>
  some x59
  else
  ref02_Text_l1 p0 x21 ByteArray.empty 0
noncomputable def ref15_List_k1 (x56 : Int) (x69 : ByteArray) : Option ((ByteArray × Int) ⊕ ((ByteArray × Int) ⊕ ByteArray)) :=
  some (Sum.inl (x69, w64 (x56 + 1)))
noncomputable def ref15_List_l2b (p0 : TImage) (x31 : Int) (x44 : Int) (x55 : ByteArray) (x56 : Int) : Option ((ByteArray × Int) ⊕ ((ByteArray × Int) ⊕ ByteArray)) :=
  if decide (x56 < (p0.threads.length : Int)) then
  (ix p0.threads x56).bind fun x74 =>
  if decide (x74 = x31) then
  (catO x55 str33).bind fun x87 =>
  (strconv_Itoa x56).bind fun x90 =>
  (catO x87 x90).bind fun x98 =>
  (catO x98 str34).bind fun x101 =>
  ref15_List_k1 x56 x101
  else
  ref15_List_k1 x56 x55
  else
  ((ref02_Decode x44).bind fun x107 =>
  (strconv_Itoa x31).bind fun x123 =>
  (catO x55 x123).bind fun x131 =>
  (catO x131 str35).bind fun x134 =>
  (ref02_Text x107.1).bind fun x137 =>
  (catO x134 x137).bind fun x145 =>
  (ix p0.notes x31).bind fun x148 =>
  (ix ([ByteArray.empty, str59, str60, str61, str62, str63, str64] : List ByteArray) x148.role).bind fun x159 =>
  (catO x145 x159).bind fun x165 =>
  (catO x165 str51).bind fun x168 =>
  some (Sum.inl (x168, w64 (x31 + 1)))).map Sum.inr
noncomputable def ref15_List_l2 (p0 : TImage) (x31 : Int) (x44 : Int) (x55 : ByteArray) (x56 : Int) : Option ((ByteArray × Int) ⊕ ByteArray) := loopO (fun s => ref15_List_l2b p0 x31 x44 s.1 s.2) (x55, x56)
noncomputable def ref15_List_l1b (p0 : TImage) (x30 : ByteArray) (x31 : Int) : Option ((ByteArray × Int) ⊕ ByteArray) :=
  if decide (x31 < (p0.code.length : Int)) then
  (ix p0.code x31).bind fun x44 =>
  ref15_List_l2 p0 x31 x44 x30 0
  else
  (some x30).map Sum.inr
noncomputable def ref15_List_l1 (p0 : TImage) (x30 : ByteArray) (x31 : Int) : Option ByteArray := loopO (fun s => ref15_List_l1b p0 s.1 s.2) (x30, x31)
noncomputable def ref15_List (p0 : TImage) : Option ByteArray :=
  (ref15_Good p0).bind fun x15 =>
  if !x15 then
  some ByteArray.empty
  else
  ref15_List_l1 p0 ByteArray.empty 0
noncomputable def ref15_four (p0 : Int) : Option ByteArray :=
  (quoO .i64 p0 16777216).bind fun x1 =>
  (remO .i64 x1 256).bind fun x4 =>
  (quoO .i64 p0 65536).bind fun x7 =>
  (remO .i64 x7 256).bind fun x10 =>
  (quoO .i64 p0 256).bind fun x13 =>
  (remO .i64 x13 256).bind fun x16 =>
  (remO .i64 p0 256).bind fun x19 =>
  (strO [IntKind.wrap .u8 x4, IntKind.wrap .u8 x10, IntKind.wrap .u8 x16, IntKind.wrap .u8 x19]).bind fun sx33 =>
  some sx33
noncomputable def ref15_Bytes_k2 (x79 : ByteArray) (x80 : Int) (x93 : Int) (x128 : Int) : Option ((ByteArray × Int) ⊕ ByteArray) :=
  (ref15_four (w64 x93)).bind fun x133 =>
  (catO x79 x133).bind fun x141 =>
  (strO [IntKind.wrap .u8 x128]).bind fun sx156 =>
  (catO x141 sx156).bind fun x159 =>
  some (Sum.inl (x159, w64 (x80 + 1)))
noncomputable def ref15_Bytes_k1 (x79 : ByteArray) (x80 : Int) (x93 : Int) (x104 : TNote) (x123 : Int) : Option ((ByteArray × Int) ⊕ ByteArray) :=
  if x104.final then
  ref15_Bytes_k2 x79 x80 x93 (w64 (x123 + 128))
  else
  ref15_Bytes_k2 x79 x80 x93 x123
noncomputable def ref15_Bytes_l2b (p0 : TImage) (x79 : ByteArray) (x80 : Int) : Option ((ByteArray × Int) ⊕ ByteArray) :=
  if decide (x80 < (p0.code.length : Int)) then
  (ix p0.code x80).bind fun x93 =>
  (ix p0.notes x80).bind fun x104 =>
  if x104.volatile then
  ref15_Bytes_k1 x79 x80 x93 x104 (w64 ((w64 (x104.role + (w64 (8 * x104.what)))) + 64))
  else
  ref15_Bytes_k1 x79 x80 x93 x104 (w64 (x104.role + (w64 (8 * x104.what))))
  else
  (some x79).map Sum.inr
noncomputable def ref15_Bytes_l2 (p0 : TImage) (x79 : ByteArray) (x80 : Int) : Option ByteArray := loopO (fun s => ref15_Bytes_l2b p0 s.1 s.2) (x79, x80)
noncomputable def ref15_Bytes_l1b (p0 : TImage) (x41 : ByteArray) (x42 : Int) : Option ((ByteArray × Int) ⊕ ByteArray) :=
  if decide (x42 < (p0.threads.length : Int)) then
  (ix p0.threads x42).bind fun x55 =>
  (ref15_four x55).bind fun x66 =>
  (catO x41 x66).bind fun x74 =>
  some (Sum.inl (x74, w64 (x42 + 1)))
  else
  (ref15_Bytes_l2 p0 x41 0).map Sum.inr
noncomputable def ref15_Bytes_l1 (p0 : TImage) (x41 : ByteArray) (x42 : Int) : Option ByteArray := loopO (fun s => ref15_Bytes_l1b p0 s.1 s.2) (x41, x42)
noncomputable def ref15_Bytes (p0 : TImage) : Option ByteArray :=
  (strO [IntKind.wrap .u8 (p0.threads.length : Int)]).bind fun sx24 =>
  (catO str1 sx24).bind fun x27 =>
  (ref15_four (p0.code.length : Int)).bind fun x30 =>
  (catO x27 x30).bind fun x38 =>
  ref15_Bytes_l1 p0 x38 0
noncomputable def ref15_Same_l3b (p0 : TImage) (p1 : TImage) (x141 : Int) : Option (Int ⊕ Bool) :=
  if decide (x141 < (p0.threads.length : Int)) then
  (ix p0.threads x141).bind fun x154 =>
  (ix p1.threads x141).bind fun x165 =>
  if decide (x154 ≠ x165) then
  (some false).map Sum.inr
  else
  some (Sum.inl (w64 (x141 + 1)))
  else
  (some true).map Sum.inr
noncomputable def ref15_Same_l3 (p0 : TImage) (p1 : TImage) (x141 : Int) : Option Bool := loopO (fun s => ref15_Same_l3b p0 p1 s) x141
noncomputable def ref15_Same_l2b (p0 : TImage) (p1 : TImage) (x95 : Int) : Option (Int ⊕ Bool) :=
  if decide (x95 < (p0.notes.length : Int)) then
  (ix p0.notes x95).bind fun x108 =>
  (ix p1.notes x95).bind fun x119 =>
  if !((decide (x108.role = x119.role)) && ((decide (x108.what = x119.what)) && ((x108.volatile == x119.volatile) && ((x108.final == x119.final) && true)))) then
  (some false).map Sum.inr
  else
  some (Sum.inl (w64 (x95 + 1)))
  else
  (ref15_Same_l3 p0 p1 0).map Sum.inr
noncomputable def ref15_Same_l2 (p0 : TImage) (p1 : TImage) (x95 : Int) : Option Bool := loopO (fun s => ref15_Same_l2b p0 p1 s) x95
noncomputable def ref15_Same_l1b (p0 : TImage) (p1 : TImage) (x49 : Int) : Option (Int ⊕ Bool) :=
  if decide (x49 < (p0.code.length : Int)) then
  (ix p0.code x49).bind fun x64 =>
  (ix p1.code x49).bind fun x75 =>
  if decide (x64 ≠ x75) then
  (some false).map Sum.inr
  else
  some (Sum.inl (w64 (x49 + 1)))
  else
  (ref15_Same_l2 p0 p1 0).map Sum.inr
noncomputable def ref15_Same_l1 (p0 : TImage) (p1 : TImage) (x49 : Int) : Option Bool := loopO (fun s => ref15_Same_l1b p0 p1 s) x49
noncomputable def ref15_Same (p0 : TImage) (p1 : TImage) : Option Bool :=
  if ((decide ((p0.code.length : Int) ≠ (p1.code.length : Int))) || (decide ((p0.notes.length : Int) ≠ (p1.notes.length : Int)))) || (decide ((p0.threads.length : Int) ≠ (p1.threads.length : Int))) then
  some false
  else
  ref15_Same_l1 p0 p1 0
noncomputable def law15_ImageWrites_k1 (p0 : TImage) (x46 : Bool) (x57 : ByteArray × Int) (x65 : Bool) : Option Bool :=
  if x65 then
  some false
  else
  if !x46 then
  some ((decide (x57.2 = 1)) && (decide (x57.1 = ByteArray.empty)))
  else
  (image_Decode x57.1).bind fun x88 =>
  (if decide (x57.2 = 0) then
  (ref15_Bytes p0).bind fun x162 =>
  some (decide (x57.1 = x162))
  else
  some false).bind fun y110 =>
  (if y110 && (decide (x88.2 = 0)) then
  (ref15_Same p0 x88.1).bind fun x145 =>
  some x145
  else
  some false).bind fun y125 =>
  some y125
noncomputable def law15_ImageWrites (p0 : TImage) : Option Bool :=
  (law15_alive).bind fun x12 =>
  if !x12 then
  some false
  else
  (law15_great p0).bind fun x30 =>
  if x30 then
  some true
  else
  (ref15_Good p0).bind fun x46 =>
  (image_Encode p0).bind fun x57 =>
  (image_Good p0).bind fun x176 =>
  if !(x176 == x46) then
  law15_ImageWrites_k1 p0 x46 x57 true
  else
  (image_List p0).bind fun x192 =>
  (ref15_List p0).bind fun x203 =>
  law15_ImageWrites_k1 p0 x46 x57 (decide (x192 ≠ x203))
end Go.Vm.G15w
