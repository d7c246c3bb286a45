/-
 What functions compute, as plain functions.
-/
import Derived.Test.YtipebnimgbigoaaDoorESp16
set_option linter.unusedSimpArgs false
set_option linter.unusedVariables false
namespace Go.Vm.G02
open Go
structure TInst where
 op : Int
 d : Int
 a : Int
 b : Int
 imm : Int
def RT_TInst : RT TInst := ⟨5, fun V cs x => cs = [.int .i64 x.op, .int .i64 x.d, .int .i64 x.a, .int .i64 x.b, .int .i64 x.imm], ⟨fun _ _ _ h => by rw [h]; rfl, fun _ _ _ h => by rw [h]; rfl, fun _ _ _ _ he h => h⟩⟩
structure Tisa_shape where
 name : ByteArray
 fields : ByteArray
 word : Int
def RT_Tisa_shape : RT Tisa_shape := ⟨3, fun V cs x => cs = [.string x.name, .string x.fields, .int .u32 x.word], ⟨fun _ _ _ h => by rw [h]; rfl, fun _ _ _ h => by rw [h]; rfl, fun _ _ _ _ he h => h⟩⟩
structure Tref02_Has where
 name : ByteArray
 d : Bool
 a : Bool
 b : Bool
 imm : Int
 word : Int
def RT_Tref02_Has : RT Tref02_Has := ⟨6, fun V cs x => cs = [.string x.name, .bool x.d, .bool x.a, .bool x.b, .int .i64 x.imm, .int .u32 x.word], ⟨fun _ _ _ h => by rw [h]; rfl, fun _ _ _ h => by rw [h]; rfl, fun _ _ _ _ he h => h⟩⟩
def str1 : ByteArray := ⟨#[108, 100]⟩
def str2 : ByteArray := ⟨#[100, 97, 109]⟩
def str3 : ByteArray := ⟨#[115, 116, 100]⟩
def str4 : ByteArray := ⟨#[97, 100, 100, 105]⟩
def str5 : ByteArray := ⟨#[100, 97, 105]⟩
def str6 : ByteArray := ⟨#[97, 100, 100]⟩
def str7 : ByteArray := ⟨#[100, 97, 98]⟩
def str8 : ByteArray := ⟨#[115, 117, 98, 102]⟩
def str9 : ByteArray := ⟨#[109, 117, 108, 108, 100]⟩
def str10 : ByteArray := ⟨#[100, 105, 118, 100]⟩
def str11 : ByteArray := ⟨#[99, 109, 112, 100]⟩
def str12 : ByteArray := ⟨#[97, 98]⟩
def str13 : ByteArray := ⟨#[99, 109, 112, 100, 105]⟩
def str14 : ByteArray := ⟨#[97, 105]⟩
def str15 : ByteArray := ⟨#[98, 99]⟩
def str16 : ByteArray := ⟨#[99, 111]⟩
def str17 : ByteArray := ⟨#[98]⟩
def str18 : ByteArray := ⟨#[108]⟩
def str19 : ByteArray := ⟨#[98, 108]⟩
def str20 : ByteArray := ⟨#[98, 108, 114]⟩
def str21 : ByteArray := ⟨#[109, 102, 108, 114]⟩
def str22 : ByteArray := ⟨#[100]⟩
def str23 : ByteArray := ⟨#[109, 116, 108, 114]⟩
def str24 : ByteArray := ⟨#[108, 100, 97, 114, 120]⟩
def str25 : ByteArray := ⟨#[115, 116, 100, 99, 120, 46]⟩
def str26 : ByteArray := ⟨#[115, 121, 110, 99]⟩
def str27 : ByteArray := ⟨#[108, 119, 115, 121, 110, 99]⟩
def str28 : ByteArray := ⟨#[105, 115, 121, 110, 99]⟩
def str29 : ByteArray := ⟨#[116, 114, 97, 112]⟩
def str30 : ByteArray := ⟨#[105]⟩
def str31 : ByteArray := ⟨#[111, 117, 116]⟩
def str32 : ByteArray := ⟨#[108, 116]⟩
def str33 : ByteArray := ⟨#[103, 116]⟩
def str34 : ByteArray := ⟨#[101, 113]⟩
def str35 : ByteArray := ⟨#[103, 101]⟩
def str36 : ByteArray := ⟨#[108, 101]⟩
def str37 : ByteArray := ⟨#[110, 101]⟩
def str38 : ByteArray := ⟨#[32]⟩
def str39 : ByteArray := ⟨#[114]⟩
def str40 : ByteArray := ⟨#[44, 32]⟩
def str41 : ByteArray := ⟨#[98, 103, 101]⟩
def str42 : ByteArray := ⟨#[98, 108, 101]⟩
def str43 : ByteArray := ⟨#[98, 110, 101]⟩
def str44 : ByteArray := ⟨#[98, 108, 116]⟩
def str45 : ByteArray := ⟨#[98, 103, 116]⟩
def str46 : ByteArray := ⟨#[98, 101, 113]⟩
def str47 : ByteArray := ⟨#[44, 32, 114]⟩
def gl0 : List Tisa_shape := [⟨ByteArray.empty, ByteArray.empty, 0⟩, ⟨str1, str2, 3892314112⟩, ⟨str3, str2, 4160749568⟩, ⟨str4, str5, 939524096⟩, ⟨str6, str7, 2080375316⟩, ⟨str8, str7, 2080374864⟩, ⟨str9, str7, 2080375250⟩, ⟨str10, str7, 2080375762⟩, ⟨str11, str12, 2082471936⟩, ⟨str13, str14, 740294656⟩, ⟨str15, str16, 1073741824⟩, ⟨str17, str18, 1207959552⟩, ⟨str19, str18, 1207959553⟩, ⟨str20, ByteArray.empty, 1317011488⟩, ⟨str21, str22, 2080899750⟩, ⟨str23, str22, 2080900006⟩, ⟨str24, str7, 2080374952⟩, ⟨str25, str7, 2080375213⟩, ⟨str26, ByteArray.empty, 2080375980⟩, ⟨str27, ByteArray.empty, 2082473132⟩, ⟨str28, ByteArray.empty, 1275068716⟩, ⟨str29, str30, 266338304⟩, ⟨str31, str22, 1140850690⟩]
theorem gl0_len : gl0.length = 23 := rfl
abbrev NG : Nat := 4
structure Glb (V : Vw) : Prop where
 lo : NG ≤ V.H.lo
 g0 : Fz RT_Tisa_shape V (.slice (some ⟨0, 0, none⟩) 23 23) gl0
 t1 : Tb V 1 .u8 Lib.asciiSpaceTab
 t3 : Tb V 3 .u64 Lib.pow10Tab
theorem Glb.up {V V2 : Vw} (h : Glb V) (he : V.le V2) : Glb V2 := ⟨by rw [he.lo]; exact h.lo, h.g0.up he, h.t1.up he, h.t3.up he⟩
noncomputable def isa_used_k1 (x39 : Int) (x56 : Int) (x57 : Int) (x58 : Int) (x59 : Int) : Option ((Int × Int × Int × Int × Int) ⊕ TInst) :=
  some (Sum.inl (x56, x57, x58, x59, w64 (x39 + 1)))
noncomputable def isa_used_l1b (p0 : TInst) (xs27 : List Int) (x35 : Int) (x36 : Int) (x37 : Int) (x38 : Int) (x39 : Int) : Option ((Int × Int × Int × Int × Int) ⊕ TInst) :=
  if decide (x39 < (xs27.length : Int)) then
  (ix xs27 x39).bind fun x64 =>
  if decide (x64 = 100) then
  isa_used_k1 x39 p0.d x36 x37 x38
  else
  if decide (x64 = 97) then
  isa_used_k1 x39 x35 p0.a x37 x38
  else
  if decide (x64 = 98) then
  isa_used_k1 x39 x35 x36 p0.b x38
  else
  if decide (x64 = 99) then
  isa_used_k1 x39 p0.d p0.a x37 x38
  else
  isa_used_k1 x39 x35 x36 x37 p0.imm
  else
  (some (⟨p0.op, x35, x36, x37, x38⟩ : TInst)).map Sum.inr
noncomputable def isa_used_l1 (p0 : TInst) (xs27 : List Int) (x35 : Int) (x36 : Int) (x37 : Int) (x38 : Int) (x39 : Int) : Option TInst := loopO (fun s => isa_used_l1b p0 xs27 s.1 s.2.1 s.2.2.1 s.2.2.2.1 s.2.2.2.2) (x35, x36, x37, x38, x39)
noncomputable def isa_used (p0 : TInst) : Option TInst :=
  (ix gl0 p0.op).bind fun x19 =>
  (bytesO x19.fields).bind fun xs27 =>
  isa_used_l1 p0 xs27 0 0 0 0 0
noncomputable def isa_register (p0 : Int) : Option Bool :=
  some ((decide (0 ≤ p0)) && (decide (p0 < 32)))
noncomputable def word_Fits (p0 : Int) (p1 : Int) : Option Bool :=
  if decide (p1 < 1) then
  some false
  else
  if decide (63 < p1) then
  some true
  else
  (shlO .i64 (-1) (w64 (p1 - 1))).bind fun x9 =>
  (if decide (x9 ≤ p0) then
  (shlO .i64 1 (w64 (p1 - 1))).bind fun x26 =>
  some (decide (p0 < x26))
  else
  some false).bind fun y12 =>
  some y12
noncomputable def isa_part_k1 (x54 : Int) (x55 : Bool) : Option (Int × Int × Int × Bool) :=
  some (16, 14, x54, x55)
noncomputable def isa_part_k2 (x100 : Int) (x101 : Bool) : Option (Int × Int × Int × Bool) :=
  some (6, 10, x100, x101)
noncomputable def isa_part (p0 : Int) (p1 : TInst) : Option (Int × Int × Int × Bool) :=
  if decide (p0 = 100) then
  (isa_register p1.d).bind fun x6 =>
  some (6, 5, p1.d, x6)
  else
  if decide (p0 = 97) then
  (isa_register p1.a).bind fun x18 =>
  some (11, 5, p1.a, x18)
  else
  if decide (p0 = 98) then
  (isa_register p1.b).bind fun x30 =>
  some (16, 5, p1.b, x30)
  else
  if decide (p0 = 105) then
  (word_Fits p1.imm 16).bind fun x42 =>
  some (16, 16, p1.imm, x42)
  else
  if decide (p0 = 109) then
  (shrO .i64 p1.imm 2).bind fun x61 =>
  (word_Fits p1.imm 16).bind fun x64 =>
  if x64 then
  isa_part_k1 x61 (decide ((andB .i64 p1.imm 3) = 0))
  else
  isa_part_k1 x61 false
  else
  if decide (p0 = 111) then
  (word_Fits p1.imm 14).bind fun x78 =>
  some (16, 14, p1.imm, x78)
  else
  if decide (p0 = 108) then
  (word_Fits p1.imm 24).bind fun x90 =>
  some (6, 24, p1.imm, x90)
  else
  (shlO .i64 p1.d 5).bind fun x107 =>
  if decide (p1.d = 4) then
  if decide (0 ≤ p1.a) then
  isa_part_k2 (orB .i64 x107 p1.a) (decide (p1.a < 3))
  else
  isa_part_k2 (orB .i64 x107 p1.a) false
  else
  if decide (p1.d = 12) then
  if decide (0 ≤ p1.a) then
  isa_part_k2 (orB .i64 x107 p1.a) (decide (p1.a < 3))
  else
  isa_part_k2 (orB .i64 x107 p1.a) false
  else
  isa_part_k2 (orB .i64 x107 p1.a) false
noncomputable def isa_Good_l1b (p0 : TInst) (xs24 : List Int) (x32 : Int) : Option (Int ⊕ Bool) :=
  if decide (x32 < (xs24.length : Int)) then
  (ix xs24 x32).bind fun x47 =>
  (isa_part x47 p0).bind fun x61 =>
  if !x61.2.2.2 then
  (some false).map Sum.inr
  else
  some (Sum.inl (w64 (x32 + 1)))
  else
  (some true).map Sum.inr
noncomputable def isa_Good_l1 (p0 : TInst) (xs24 : List Int) (x32 : Int) : Option Bool := loopO (fun s => isa_Good_l1b p0 xs24 s) x32
noncomputable def isa_Good_k1 (p0 : TInst) (x6 : Bool) : Option Bool :=
  if x6 then
  some false
  else
  (ix gl0 p0.op).bind fun x16 =>
  (bytesO x16.fields).bind fun xs24 =>
  isa_Good_l1 p0 xs24 0
noncomputable def isa_Good (p0 : TInst) : Option Bool :=
  if decide (p0.op < 1) then
  isa_Good_k1 p0 true
  else
  if decide (22 < p0.op) then
  isa_Good_k1 p0 true
  else
  (isa_used p0).bind fun x89 =>
  if !((decide (x89.op = p0.op)) && ((decide (x89.d = p0.d)) && ((decide (x89.a = p0.a)) && ((decide (x89.b = p0.b)) && ((decide (x89.imm = p0.imm)) && true))))) then
  isa_Good_k1 p0 true
  else
  if decide (p0.op = 21) then
  isa_Good_k1 p0 (decide (p0.imm < 0))
  else
  isa_Good_k1 p0 false
noncomputable def word_mask (p0 : Int) : Option Int :=
  if decide (32 ≤ p0) then
  some 4294967295
  else
  (shlO .u32 1 (max p0 0)).bind fun x5 =>
  some (IntKind.wrap .u32 (x5 - 1))
noncomputable def word_Bits (p0 : Int) (p1 : Int) : Option Int :=
  (word_mask p1).bind fun x1 =>
  some (andB .u32 (IntKind.wrap .u32 p0) x1)
noncomputable def word_good (p0 : Int) (p1 : Int) : Option Bool :=
  some ((((decide (0 ≤ p0)) && (decide (0 ≤ p1))) && (decide (p0 ≤ 32))) && (decide (p1 ≤ (w64 (32 - p0)))))
noncomputable def word_Put (p0 : Int) (p1 : Int) (p2 : Int) (p3 : Int) : Option Int :=
  (word_good p1 p2).bind fun x1 =>
  if !x1 then
  some p0
  else
  (word_mask p2).bind fun x15 =>
  (shlO .u32 x15 (w64 ((w64 (32 - p1)) - p2))).bind fun x23 =>
  (word_mask p2).bind fun x26 =>
  (shlO .u32 (andB .u32 p3 x26) (w64 ((w64 (32 - p1)) - p2))).bind fun x34 =>
  some (orB .u32 (andNotB .u32 p0 x23) x34)
noncomputable def isa_Encode_l1b (p0 : TInst) (xs37 : List Int) (x45 : Int) (x46 : Int) : Option ((Int × Int) ⊕ (Int × Int)) :=
  if decide (x46 < (xs37.length : Int)) then
  (ix xs37 x46).bind fun x61 =>
  (isa_part x61 p0).bind fun x75 =>
  (word_Bits x75.2.2.1 x75.2.1).bind fun x83 =>
  (word_Put x45 x75.1 x75.2.1 x83).bind fun x91 =>
  some (Sum.inl (x91, w64 (x46 + 1)))
  else
  (some (x45, 0)).map Sum.inr
noncomputable def isa_Encode_l1 (p0 : TInst) (xs37 : List Int) (x45 : Int) (x46 : Int) : Option (Int × Int) := loopO (fun s => isa_Encode_l1b p0 xs37 s.1 s.2) (x45, x46)
noncomputable def isa_Encode (p0 : TInst) : Option (Int × Int) :=
  (isa_Good p0).bind fun x6 =>
  if !x6 then
  some (0, 1)
  else
  (ix gl0 p0.op).bind fun x21 =>
  (ix gl0 p0.op).bind fun x29 =>
  (bytesO x29.fields).bind fun xs37 =>
  isa_Encode_l1 p0 xs37 x21.word 0
noncomputable def word_Get (p0 : Int) (p1 : Int) (p2 : Int) : Option Int :=
  (word_good p1 p2).bind fun x1 =>
  if !x1 then
  some 0
  else
  (shrO .u32 p0 (w64 ((w64 (32 - p1)) - p2))).bind fun x15 =>
  (word_mask p2).bind fun x18 =>
  some (andB .u32 x15 x18)
noncomputable def word_Signed_k1 (x18 : Int) : Option Int :=
  some x18
noncomputable def word_Signed (p0 : Int) (p1 : Int) : Option Int :=
  if (decide (p1 < 1)) || (decide (32 < p1)) then
  some 0
  else
  (word_mask p1).bind fun x10 =>
  (shrO .i64 (w64 (andB .u32 p0 x10)) (w64 (p1 - 1))).bind fun x24 =>
  if decide (x24 = 1) then
  (shlO .i64 1 p1).bind fun x29 =>
  word_Signed_k1 (w64 ((w64 (andB .u32 p0 x10)) - x29))
  else
  word_Signed_k1 (w64 (andB .u32 p0 x10))
noncomputable def isa_read_k1 (x34 : Int) (x50 : Int) (x51 : Int) (x52 : Int) (x53 : Int) : Option ((Int × Int × Int × Int × Int) ⊕ TInst) :=
  some (Sum.inl (x50, x51, x52, x53, w64 (x34 + 1)))
noncomputable def isa_read_l1b (p0 : Int) (p1 : Int) (xs22 : List Int) (x30 : Int) (x31 : Int) (x32 : Int) (x33 : Int) (x34 : Int) : Option ((Int × Int × Int × Int × Int) ⊕ TInst) :=
  if decide (x34 < (xs22.length : Int)) then
  (ix xs22 x34).bind fun x58 =>
  if decide (x58 = 100) then
  (word_Get p1 6 5).bind fun x74 =>
  isa_read_k1 x34 (w64 x74) x31 x32 x33
  else
  if decide (x58 = 97) then
  (word_Get p1 11 5).bind fun x88 =>
  isa_read_k1 x34 x30 (w64 x88) x32 x33
  else
  if decide (x58 = 98) then
  (word_Get p1 16 5).bind fun x102 =>
  isa_read_k1 x34 x30 x31 (w64 x102) x33
  else
  if decide (x58 = 105) then
  (word_Signed p1 16).bind fun x116 =>
  isa_read_k1 x34 x30 x31 x32 x116
  else
  if decide (x58 = 109) then
  (word_Get p1 16 14).bind fun x130 =>
  (word_Signed x130 14).bind fun x138 =>
  isa_read_k1 x34 x30 x31 x32 (w64 (4 * x138))
  else
  if decide (x58 = 111) then
  (word_Get p1 16 14).bind fun x152 =>
  (word_Signed x152 14).bind fun x160 =>
  isa_read_k1 x34 x30 x31 x32 x160
  else
  if decide (x58 = 108) then
  (word_Get p1 6 24).bind fun x174 =>
  (word_Signed x174 24).bind fun x182 =>
  isa_read_k1 x34 x30 x31 x32 x182
  else
  if decide (x58 = 99) then
  (word_Get p1 6 5).bind fun x196 =>
  (word_Get p1 11 5).bind fun x204 =>
  isa_read_k1 x34 (w64 x196) (w64 x204) x32 x33
  else
  isa_read_k1 x34 x30 x31 x32 x33
  else
  (some (⟨p0, x30, x31, x32, x33⟩ : TInst)).map Sum.inr
noncomputable def isa_read_l1 (p0 : Int) (p1 : Int) (xs22 : List Int) (x30 : Int) (x31 : Int) (x32 : Int) (x33 : Int) (x34 : Int) : Option TInst := loopO (fun s => isa_read_l1b p0 p1 xs22 s.1 s.2.1 s.2.2.1 s.2.2.2.1 s.2.2.2.2) (x30, x31, x32, x33, x34)
noncomputable def isa_read (p0 : Int) (p1 : Int) : Option TInst :=
  (ix gl0 p0).bind fun x14 =>
  (bytesO x14.fields).bind fun xs22 =>
  isa_read_l1 p0 p1 xs22 0 0 0 0 0
noncomputable def isa_Decode_l1b (p0 : Int) (x6 : Int) : Option (Int ⊕ (TInst × Int)) :=
  if decide (x6 ≤ 22) then
  (isa_read x6 p0).bind fun x19 =>
  (isa_Encode x19).bind fun x35 =>
  if (decide (x35.2 = 0)) && (decide (x35.1 = p0)) then
  (some (x19, 0)).map Sum.inr
  else
  some (Sum.inl (w64 (x6 + 1)))
  else
  (some ((⟨0, 0, 0, 0, 0⟩ : TInst), 4)).map Sum.inr
noncomputable def isa_Decode_l1 (p0 : Int) (x6 : Int) : Option (TInst × Int) := loopO (fun s => isa_Decode_l1b p0 s) x6
noncomputable def isa_Decode (p0 : Int) : Option (TInst × Int) :=
  isa_Decode_l1 p0 1
noncomputable def law02_alive : Option Bool :=
  (isa_Encode (⟨1, 3, 4, 0, 8⟩ : TInst)).bind fun x1 =>
  (isa_Decode 0).bind fun x9 =>
  some (((decide (x1.1 = 3898867720)) && (decide (x1.2 = 0))) && (decide (x9.2 = 4)))
noncomputable def ref02_ext (p0 : Int) : Option Int :=
  some (IntKind.wrap .u32 (2080374784 + (IntKind.wrap .u32 (2 * p0))))
noncomputable def ref02_Of (p0 : Int) : Option (Tref02_Has × Bool) :=
  if decide (p0 = 1) then
  some ((⟨str1, true, true, false, 4, 3892314112⟩ : Tref02_Has), true)
  else
  if decide (p0 = 2) then
  some ((⟨str3, true, true, false, 4, 4160749568⟩ : Tref02_Has), true)
  else
  if decide (p0 = 3) then
  some ((⟨str4, true, true, false, 16, 939524096⟩ : Tref02_Has), true)
  else
  if decide (p0 = 4) then
  (ref02_ext 266).bind fun x32 =>
  some ((⟨str6, true, true, true, 0, x32⟩ : Tref02_Has), true)
  else
  if decide (p0 = 5) then
  (ref02_ext 40).bind fun x48 =>
  some ((⟨str8, true, true, true, 0, x48⟩ : Tref02_Has), true)
  else
  if decide (p0 = 6) then
  (ref02_ext 233).bind fun x64 =>
  some ((⟨str9, true, true, true, 0, x64⟩ : Tref02_Has), true)
  else
  if decide (p0 = 7) then
  (ref02_ext 489).bind fun x80 =>
  some ((⟨str10, true, true, true, 0, x80⟩ : Tref02_Has), true)
  else
  if decide (p0 = 8) then
  (ref02_ext 0).bind fun x96 =>
  some ((⟨str11, false, true, true, 0, IntKind.wrap .u32 (x96 + 2097152)⟩ : Tref02_Has), true)
  else
  if decide (p0 = 9) then
  some ((⟨str13, false, true, false, 16, 740294656⟩ : Tref02_Has), true)
  else
  if decide (p0 = 10) then
  some ((⟨ByteArray.empty, true, true, false, 14, 1073741824⟩ : Tref02_Has), true)
  else
  if decide (p0 = 11) then
  some ((⟨str17, false, false, false, 24, 1207959552⟩ : Tref02_Has), true)
  else
  if decide (p0 = 12) then
  some ((⟨str19, false, false, false, 24, 1207959553⟩ : Tref02_Has), true)
  else
  if decide (p0 = 13) then
  some ((⟨str20, false, false, false, 0, 1317011488⟩ : Tref02_Has), true)
  else
  if decide (p0 = 14) then
  (ref02_ext 339).bind fun x152 =>
  some ((⟨str21, true, false, false, 0, IntKind.wrap .u32 (x152 + 524288)⟩ : Tref02_Has), true)
  else
  if decide (p0 = 15) then
  (ref02_ext 467).bind fun x168 =>
  some ((⟨str23, true, false, false, 0, IntKind.wrap .u32 (x168 + 524288)⟩ : Tref02_Has), true)
  else
  if decide (p0 = 16) then
  (ref02_ext 84).bind fun x184 =>
  some ((⟨str24, true, true, true, 0, x184⟩ : Tref02_Has), true)
  else
  if decide (p0 = 17) then
  (ref02_ext 214).bind fun x200 =>
  some ((⟨str25, true, true, true, 0, IntKind.wrap .u32 (x200 + 1)⟩ : Tref02_Has), true)
  else
  if decide (p0 = 18) then
  some ((⟨str26, false, false, false, 0, 2080375980⟩ : Tref02_Has), true)
  else
  if decide (p0 = 19) then
  some ((⟨str27, false, false, false, 0, 2082473132⟩ : Tref02_Has), true)
  else
  if decide (p0 = 20) then
  some ((⟨str28, false, false, false, 0, 1275068716⟩ : Tref02_Has), true)
  else
  if decide (p0 = 21) then
  some ((⟨str29, false, false, false, 16, 266338304⟩ : Tref02_Has), true)
  else
  if decide (p0 = 22) then
  some ((⟨str31, true, false, false, 0, 1140850690⟩ : Tref02_Has), true)
  else
  some ((⟨ByteArray.empty, false, false, false, 0, 0⟩ : Tref02_Has), false)
noncomputable def ref01_Good (p0 : Int) (p1 : Int) : Option Bool :=
  some (((((decide (0 ≤ p0)) && (decide (0 ≤ p1))) && (decide (p0 ≤ 32))) && (decide (p1 ≤ 32))) && (decide ((w64 (p0 + p1)) ≤ 32)))
noncomputable def ref01_Bit_l1b (p1 : Int) (x1 : Int) (x2 : Int) : Option ((Int × Int) ⊕ Bool) :=
  if decide (p1 < x2) then
  (quoO .u32 x1 2).bind fun x15 =>
  some (Sum.inl (x15, w64 (x2 - 1)))
  else
  ((remO .u32 x1 2).bind fun x20 =>
  some (decide (x20 = 1))).map Sum.inr
noncomputable def ref01_Bit_l1 (p1 : Int) (x1 : Int) (x2 : Int) : Option Bool := loopO (fun s => ref01_Bit_l1b p1 s.1 s.2) (x1, x2)
noncomputable def ref01_Bit (p0 : Int) (p1 : Int) : Option Bool :=
  ref01_Bit_l1 p1 p0 31
noncomputable def ref01_Get_k1 (x16 : Int) (x29 : Int) : Option ((Int × Int) ⊕ Int) :=
  some (Sum.inl (x29, w64 (x16 + 1)))
noncomputable def ref01_Get_l1b (p0 : Int) (p1 : Int) (p2 : Int) (x15 : Int) (x16 : Int) : Option ((Int × Int) ⊕ Int) :=
  if decide (x16 < (w64 (p1 + p2))) then
  (ref01_Bit p0 x16).bind fun x34 =>
  if x34 then
  ref01_Get_k1 x16 (IntKind.wrap .u32 ((IntKind.wrap .u32 (2 * x15)) + 1))
  else
  ref01_Get_k1 x16 (IntKind.wrap .u32 (2 * x15))
  else
  (some x15).map Sum.inr
noncomputable def ref01_Get_l1 (p0 : Int) (p1 : Int) (p2 : Int) (x15 : Int) (x16 : Int) : Option Int := loopO (fun s => ref01_Get_l1b p0 p1 p2 s.1 s.2) (x15, x16)
noncomputable def ref01_Get (p0 : Int) (p1 : Int) (p2 : Int) : Option Int :=
  (ref01_Good p1 p2).bind fun x1 =>
  if !x1 then
  some 0
  else
  ref01_Get_l1 p0 p1 p2 0 p1
noncomputable def ref01_Signed_k1 (x11 : Int) (x24 : Int) : Option ((Int × Int) ⊕ Int) :=
  some (Sum.inl (x24, w64 (x11 + 1)))
noncomputable def ref01_Signed_l1b (p0 : Int) (p1 : Int) (x10 : Int) (x11 : Int) : Option ((Int × Int) ⊕ Int) :=
  if decide (x11 < 32) then
  (ref01_Bit p0 x11).bind fun x29 =>
  if x29 then
  if decide (x11 = (w64 (32 - p1))) then
  ref01_Signed_k1 x11 (w64 ((w64 (2 * x10)) - 1))
  else
  ref01_Signed_k1 x11 (w64 ((w64 (2 * x10)) + 1))
  else
  ref01_Signed_k1 x11 (w64 (2 * x10))
  else
  (some x10).map Sum.inr
noncomputable def ref01_Signed_l1 (p0 : Int) (p1 : Int) (x10 : Int) (x11 : Int) : Option Int := loopO (fun s => ref01_Signed_l1b p0 p1 s.1 s.2) (x10, x11)
noncomputable def ref01_Signed (p0 : Int) (p1 : Int) : Option Int :=
  if (decide (p1 < 1)) || (decide (32 < p1)) then
  some 0
  else
  ref01_Signed_l1 p0 p1 0 (w64 (32 - p1))
noncomputable def ref02_number (p0 : Bool) (p1 : Int) : Option Bool :=
  some (((p0 && (decide (0 ≤ p1))) && (decide (p1 ≤ 31))) || ((!p0) && (decide (p1 = 0))))
noncomputable def ref01_Fits_l1b (p0 : Int) (p1 : Int) (x9 : Int) (x10 : Int) (x11 : Int) : Option ((Int × Int × Int) ⊕ Bool) :=
  if decide (x11 < p1) then
  some (Sum.inl (w64 (2 * x9), w64 ((w64 (2 * x10)) + 1), w64 (x11 + 1)))
  else
  (some ((decide (x9 ≤ p0)) && (decide (p0 ≤ x10)))).map Sum.inr
noncomputable def ref01_Fits_l1 (p0 : Int) (p1 : Int) (x9 : Int) (x10 : Int) (x11 : Int) : Option Bool := loopO (fun s => ref01_Fits_l1b p0 p1 s.1 s.2.1 s.2.2) (x9, x10, x11)
noncomputable def ref01_Fits (p0 : Int) (p1 : Int) : Option Bool :=
  if decide (p1 < 1) then
  some false
  else
  if decide (63 < p1) then
  some true
  else
  ref01_Fits_l1 p0 p1 (-1) 0 1
noncomputable def ref02_Good (p0 : TInst) : Option Bool :=
  (ref02_Of p0.op).bind fun x6 =>
  (if !x6.2 then
  some true
  else
  (ref02_number x6.1.d p0.d).bind fun x200 =>
  some (!x200)).bind fun y22 =>
  (if y22 then
  some true
  else
  (ref02_number x6.1.a p0.a).bind fun x185 =>
  some (!x185)).bind fun y34 =>
  (if y34 then
  some true
  else
  (ref02_number x6.1.b p0.b).bind fun x172 =>
  some (!x172)).bind fun y46 =>
  if y46 then
  some false
  else
  if ((decide (p0.op = 10)) && (((decide (p0.d ≠ 4)) && (decide (p0.d ≠ 12))) || (decide (2 < p0.a)))) || ((decide (p0.op = 21)) && (decide (p0.imm < 0))) then
  some false
  else
  if decide (x6.1.imm = 0) then
  some (decide (p0.imm = 0))
  else
  if decide (x6.1.imm = 4) then
  (remO .i64 p0.imm 4).bind fun x105 =>
  (if decide (x105 = 0) then
  (ref01_Fits p0.imm 16).bind fun x122 =>
  some x122
  else
  some false).bind fun y108 =>
  some y108
  else
  (ref01_Fits p0.imm x6.1.imm).bind fun x134 =>
  some x134
noncomputable def ref02_Encode_k1 (x22 : Int) : Option Int :=
  some x22
noncomputable def ref02_Encode_k2 (p0 : TInst) (x6 : Tref02_Has × Bool) (x28 : Bool) : Option Int :=
  if x28 then
  (remO .i64 (w64 (p0.imm + 65536)) 65536).bind fun x35 =>
  ref02_Encode_k1 (IntKind.wrap .u32 ((IntKind.wrap .u32 ((IntKind.wrap .u32 ((IntKind.wrap .u32 (x6.1.word + (IntKind.wrap .u32 ((IntKind.wrap .u32 p0.d) * 2097152)))) + (IntKind.wrap .u32 ((IntKind.wrap .u32 p0.a) * 65536)))) + (IntKind.wrap .u32 ((IntKind.wrap .u32 p0.b) * 2048)))) + (IntKind.wrap .u32 x35)))
  else
  if decide (x6.1.imm = 14) then
  (remO .i64 (w64 ((w64 (4 * p0.imm)) + 65536)) 65536).bind fun x42 =>
  ref02_Encode_k1 (IntKind.wrap .u32 ((IntKind.wrap .u32 ((IntKind.wrap .u32 ((IntKind.wrap .u32 (x6.1.word + (IntKind.wrap .u32 ((IntKind.wrap .u32 p0.d) * 2097152)))) + (IntKind.wrap .u32 ((IntKind.wrap .u32 p0.a) * 65536)))) + (IntKind.wrap .u32 ((IntKind.wrap .u32 p0.b) * 2048)))) + (IntKind.wrap .u32 x42)))
  else
  if decide (x6.1.imm = 24) then
  (remO .i64 (w64 ((w64 (4 * p0.imm)) + 67108864)) 67108864).bind fun x49 =>
  ref02_Encode_k1 (IntKind.wrap .u32 ((IntKind.wrap .u32 ((IntKind.wrap .u32 ((IntKind.wrap .u32 (x6.1.word + (IntKind.wrap .u32 ((IntKind.wrap .u32 p0.d) * 2097152)))) + (IntKind.wrap .u32 ((IntKind.wrap .u32 p0.a) * 65536)))) + (IntKind.wrap .u32 ((IntKind.wrap .u32 p0.b) * 2048)))) + (IntKind.wrap .u32 x49)))
  else
  ref02_Encode_k1 (IntKind.wrap .u32 ((IntKind.wrap .u32 ((IntKind.wrap .u32 (x6.1.word + (IntKind.wrap .u32 ((IntKind.wrap .u32 p0.d) * 2097152)))) + (IntKind.wrap .u32 ((IntKind.wrap .u32 p0.a) * 65536)))) + (IntKind.wrap .u32 ((IntKind.wrap .u32 p0.b) * 2048))))
noncomputable def ref02_Encode (p0 : TInst) : Option Int :=
  (ref02_Of p0.op).bind fun x6 =>
  if decide (x6.1.imm = 4) then
  ref02_Encode_k2 p0 x6 true
  else
  ref02_Encode_k2 p0 x6 (decide (x6.1.imm = 16))
noncomputable def ref02_Decode_k4 (p0 : Int) (x6 : Int) (x43 : Int) (x48 : Int) (x53 : Int) (x58 : Int) : Option (Int ⊕ (TInst × Bool)) :=
  (ref02_Good (⟨x6, x43, x48, x53, x58⟩ : TInst)).bind fun x63 =>
  (if x63 then
  (ref02_Encode (⟨x6, x43, x48, x53, x58⟩ : TInst)).bind fun x94 =>
  some (decide (x94 = p0))
  else
  some false).bind fun y71 =>
  if y71 then
  (some ((⟨x6, x43, x48, x53, x58⟩ : TInst), true)).map Sum.inr
  else
  some (Sum.inl (w64 (x6 + 1)))
noncomputable def ref02_Decode_k3 (p0 : Int) (x6 : Int) (x19 : Tref02_Has × Bool) (x43 : Int) (x48 : Int) (x53 : Int) : Option (Int ⊕ (TInst × Bool)) :=
  if decide (x19.1.imm = 16) then
  (ref01_Signed p0 16).bind fun x107 =>
  ref02_Decode_k4 p0 x6 x43 x48 x53 x107
  else
  if decide (x19.1.imm = 4) then
  (ref01_Get p0 16 14).bind fun x122 =>
  (ref01_Signed x122 14).bind fun x130 =>
  ref02_Decode_k4 p0 x6 x43 x48 x53 (w64 (4 * x130))
  else
  if decide (x19.1.imm = 14) then
  (ref01_Get p0 16 14).bind fun x145 =>
  (ref01_Signed x145 14).bind fun x153 =>
  ref02_Decode_k4 p0 x6 x43 x48 x53 x153
  else
  if decide (x19.1.imm = 24) then
  (ref01_Get p0 6 24).bind fun x168 =>
  (ref01_Signed x168 24).bind fun x176 =>
  ref02_Decode_k4 p0 x6 x43 x48 x53 x176
  else
  ref02_Decode_k4 p0 x6 x43 x48 x53 0
noncomputable def ref02_Decode_k2 (p0 : Int) (x6 : Int) (x19 : Tref02_Has × Bool) (x43 : Int) (x48 : Int) : Option (Int ⊕ (TInst × Bool)) :=
  if x19.1.b then
  (ref01_Get p0 16 5).bind fun x192 =>
  ref02_Decode_k3 p0 x6 x19 x43 x48 (w64 x192)
  else
  ref02_Decode_k3 p0 x6 x19 x43 x48 0
noncomputable def ref02_Decode_k1 (p0 : Int) (x6 : Int) (x19 : Tref02_Has × Bool) (x43 : Int) : Option (Int ⊕ (TInst × Bool)) :=
  if x19.1.a then
  (ref01_Get p0 11 5).bind fun x206 =>
  ref02_Decode_k2 p0 x6 x19 x43 (w64 x206)
  else
  ref02_Decode_k2 p0 x6 x19 x43 0
noncomputable def ref02_Decode_l1b (p0 : Int) (x6 : Int) : Option (Int ⊕ (TInst × Bool)) :=
  if decide (x6 ≤ 22) then
  (ref02_Of x6).bind fun x19 =>
  if x19.1.d then
  (ref01_Get p0 6 5).bind fun x220 =>
  ref02_Decode_k1 p0 x6 x19 (w64 x220)
  else
  ref02_Decode_k1 p0 x6 x19 0
  else
  (some ((⟨0, 0, 0, 0, 0⟩ : TInst), false)).map Sum.inr
noncomputable def ref02_Decode_l1 (p0 : Int) (x6 : Int) : Option (TInst × Bool) := loopO (fun s => ref02_Decode_l1b p0 s) x6
noncomputable def ref02_Decode (p0 : Int) : Option (TInst × Bool) :=
  ref02_Decode_l1 p0 1
noncomputable def law02_IsaReads (p0 : Int) : Option Bool :=
  (law02_alive).bind fun x1 =>
  if !x1 then
  some false
  else
  (isa_Decode p0).bind fun x15 =>
  (ref02_Decode p0).bind fun x31 =>
  if ((!((decide (x15.1.op = x31.1.op)) && ((decide (x15.1.d = x31.1.d)) && ((decide (x15.1.a = x31.1.a)) && ((decide (x15.1.b = x31.1.b)) && ((decide (x15.1.imm = x31.1.imm)) && true)))))) || (!((decide (x15.2 = 0)) == x31.2))) || ((!x31.2) && (decide (x15.2 ≠ 4))) then
  some false
  else
  (isa_Encode x15.1).bind fun x69 =>
  (if !x31.2 then
  some true
  else
  (if (decide (x69.2 = 0)) && (decide (x69.1 = p0)) then
  (isa_Good x15.1).bind fun x120 =>
  some x120
  else
  some false).bind fun y109 =>
  some y109).bind fun y77 =>
  some y77
noncomputable def isa_condition (p0 : TInst) : Option ByteArray :=
  if decide (p0.d = 12) then
  (ix [str32, str33, str34] p0.a).bind fun x18 =>
  (catO str17 x18).bind fun x32 =>
  some x32
  else
  (ix [str35, str36, str37] p0.a).bind fun x40 =>
  (catO str17 x40).bind fun x54 =>
  some x54
noncomputable def strconv_Itoa (p0 : Int) : Option ByteArray :=
  itoaO p0
noncomputable def strings_Join (p0 : List ByteArray) (p1 : ByteArray) : Option ByteArray :=
  joinO p0 p1
noncomputable def strings_TrimSpace (p0 : ByteArray) : Option ByteArray :=
  trimO p0
noncomputable def isa_Text_k1 (x76 : Int) (xs97 : List ByteArray) : Option (((List ByteArray) × Int) ⊕ ByteArray) :=
  some (Sum.inl (xs97, w64 (x76 + 1)))
noncomputable def isa_Text_l1b (p0 : TInst) (x21 : Tisa_shape) (xs65 : List Int) (xs75 : List ByteArray) (x76 : Int) : Option (((List ByteArray) × Int) ⊕ ByteArray) :=
  if decide (x76 < (xs65.length : Int)) then
  (ix xs65 x76).bind fun x102 =>
  if decide (x102 = 100) then
  (strconv_Itoa p0.d).bind fun x118 =>
  (catO str39 x118).bind fun x126 =>
  (ap xs75 [x126]).bind fun xs134 =>
  isa_Text_k1 x76 xs134
  else
  if decide (x102 = 97) then
  (strconv_Itoa p0.a).bind fun x146 =>
  (catO str39 x146).bind fun x154 =>
  (ap xs75 [x154]).bind fun xs162 =>
  isa_Text_k1 x76 xs162
  else
  if decide (x102 = 98) then
  (strconv_Itoa p0.b).bind fun x174 =>
  (catO str39 x174).bind fun x182 =>
  (ap xs75 [x182]).bind fun xs190 =>
  isa_Text_k1 x76 xs190
  else
  (strconv_Itoa p0.imm).bind fun x200 =>
  (ap xs75 [x200]).bind fun xs213 =>
  isa_Text_k1 x76 xs213
  else
  ((catO x21.name str38).bind fun x224 =>
  (strings_Join xs75 str40).bind fun x228 =>
  (catO x224 x228).bind fun x236 =>
  (strings_TrimSpace x236).bind fun x239 =>
  some x239).map Sum.inr
noncomputable def isa_Text_l1 (p0 : TInst) (x21 : Tisa_shape) (xs65 : List Int) (xs75 : List ByteArray) (x76 : Int) : Option ByteArray := loopO (fun s => isa_Text_l1b p0 x21 xs65 s.1 s.2) (xs75, x76)
noncomputable def isa_Text (p0 : TInst) : Option ByteArray :=
  (isa_Good p0).bind fun x6 =>
  if !x6 then
  some ByteArray.empty
  else
  (ix gl0 p0.op).bind fun x21 =>
  if decide (p0.op = 10) then
  (isa_condition p0).bind fun x39 =>
  (catO x39 str38).bind fun x47 =>
  (strconv_Itoa p0.imm).bind fun x50 =>
  (catO x47 x50).bind fun x58 =>
  some x58
  else
  (bytesO x21.fields).bind fun xs65 =>
  isa_Text_l1 p0 x21 xs65 [] 0
noncomputable def ref02_Text_k1 (x67 : Int) (x82 : ByteArray) : Option ((ByteArray × Int) ⊕ ByteArray) :=
  some (Sum.inl (x82, w64 (x67 + 1)))
noncomputable def ref02_Text_k2 (x21 : Tref02_Has × Bool) (x118 : ByteArray) : Option ByteArray :=
  if decide (x118 = ByteArray.empty) then
  some x21.1.name
  else
  (strSub x118 1 (x118.size : Int)).bind fun sx128 =>
  (catO x21.1.name sx128).bind fun x131 =>
  some x131
noncomputable def ref02_Text_l1b (p0 : TInst) (x21 : Tref02_Has × Bool) (x66 : ByteArray) (x67 : Int) : Option ((ByteArray × Int) ⊕ ByteArray) :=
  if decide (x67 < 3) then
  (ix ([p0.d, p0.a, p0.b] : List Int) x67).bind fun x87 =>
  (ix ([x21.1.d, x21.1.a, x21.1.b] : List Bool) x67).bind fun x93 =>
  if x93 then
  (catO x66 str47).bind fun x101 =>
  (strconv_Itoa x87).bind fun x104 =>
  (catO x101 x104).bind fun x112 =>
  ref02_Text_k1 x67 x112
  else
  ref02_Text_k1 x67 x66
  else
  (if decide (0 < x21.1.imm) then
  (catO x66 str40).bind fun x138 =>
  (strconv_Itoa p0.imm).bind fun x141 =>
  (catO x138 x141).bind fun x149 =>
  ref02_Text_k2 x21 x149
  else
  ref02_Text_k2 x21 x66).map Sum.inr
noncomputable def ref02_Text_l1 (p0 : TInst) (x21 : Tref02_Has × Bool) (x66 : ByteArray) (x67 : Int) : Option ByteArray := loopO (fun s => ref02_Text_l1b p0 x21 s.1 s.2) (x66, x67)
noncomputable def ref02_Text (p0 : TInst) : Option ByteArray :=
  (ref02_Good p0).bind fun x6 =>
  if !x6 then
  some ByteArray.empty
  else
  (ref02_Of p0.op).bind fun x21 =>
  if decide (p0.op = 10) then
  (quoO .i64 p0.d 12).bind fun x39 =>
  (ix ([str41, str42, str43, str44, str45, str46] : List ByteArray) (w64 (p0.a + (w64 (3 * x39))))).bind fun x42 =>
  (catO x42 str38).bind fun x48 =>
  (strconv_Itoa p0.imm).bind fun x51 =>
  (catO x48 x51).bind fun x59 =>
  some x59
  else
  ref02_Text_l1 p0 x21 ByteArray.empty 0
noncomputable def law02_IsaWrites_k1 (p0 : TInst) (x21 : Bool) (x29 : Int × Int) (x37 : Bool) : Option Bool :=
  if x37 then
  some false
  else
  (if x21 then
  (ref02_Encode p0).bind fun x89 =>
  some (decide (x29.1 = x89))
  else
  some false).bind fun y47 =>
  some (y47 || (((!x21) && (decide (x29.2 = 1))) && (decide (x29.1 = 0))))
noncomputable def law02_IsaWrites (p0 : TInst) : Option Bool :=
  (law02_alive).bind fun x6 =>
  if !x6 then
  some false
  else
  (ref02_Good p0).bind fun x21 =>
  (isa_Encode p0).bind fun x29 =>
  (isa_Good p0).bind fun x100 =>
  if !(x100 == x21) then
  law02_IsaWrites_k1 p0 x21 x29 true
  else
  (isa_Text p0).bind fun x113 =>
  (ref02_Text p0).bind fun x121 =>
  law02_IsaWrites_k1 p0 x21 x29 ((decide (x113 ≠ x121)) || (!((decide (x29.2 = 0)) == x21)))
noncomputable def law02_IsaTexts (p0 : TInst) (p1 : TInst) : Option Bool :=
  (law02_alive).bind fun x11 =>
  if !x11 then
  some false
  else
  (isa_Text p0).bind fun x27 =>
  (isa_Text p1).bind fun x35 =>
  (ref02_Good p0).bind fun x43 =>
  if (decide (x27 = ByteArray.empty)) == x43 then
  some false
  else
  (ref02_Good p0).bind fun x57 =>
  (if !x57 then
  some true
  else
  (ref02_Good p1).bind fun x94 =>
  some (!x94)).bind fun y65 =>
  some (y65 || ((decide (x27 = x35)) == ((decide (p0.op = p1.op)) && ((decide (p0.d = p1.d)) && ((decide (p0.a = p1.a)) && ((decide (p0.b = p1.b)) && ((decide (p0.imm = p1.imm)) && true)))))))
noncomputable def law02_IsaNear (p0 : Int) (p1 : Int) : Option Bool :=
  (law02_alive).bind fun x1 =>
  if !x1 then
  some false
  else
  if (decide (p1 < 0)) || (decide (31 < p1)) then
  some true
  else
  (isa_Decode p0).bind fun x24 =>
  (shlO .u32 1 (IntKind.wrap .u64 p1)).bind fun x40 =>
  (isa_Decode (xorB .u32 p0 x40)).bind fun x43 =>
  (if decide (x24.2 = 0) then
  (isa_Text x24.1).bind fun x132 =>
  some (decide (x132 = ByteArray.empty))
  else
  some false).bind fun y59 =>
  (if y59 then
  some true
  else
  (if decide (x43.2 = 0) then
  (isa_Text x43.1).bind fun x119 =>
  some (decide (x119 = ByteArray.empty))
  else
  some false).bind fun y107 =>
  some y107).bind fun y68 =>
  if y68 then
  some false
  else
  some (((decide (x24.2 ≠ 0)) || (decide (x43.2 ≠ 0))) || (!((decide (x24.1.op = x43.1.op)) && ((decide (x24.1.d = x43.1.d)) && ((decide (x24.1.a = x43.1.a)) && ((decide (x24.1.b = x43.1.b)) && ((decide (x24.1.imm = x43.1.imm)) && true)))))))
end Go.Vm.G02
