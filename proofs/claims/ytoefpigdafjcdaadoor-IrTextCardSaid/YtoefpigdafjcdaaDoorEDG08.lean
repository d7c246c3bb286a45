/-
 What functions compute, as plain functions.
-/
import Derived.Test.YtoefpigdafjcdaaDoorESp21
import Derived.Test.YtoefpigdafjcdaaDoorESp18
set_option linter.unusedSimpArgs false
set_option linter.unusedVariables false
namespace Go.Vm.G08
open Go
theorem Z {α : Sort _} {a : α} : a = a := rfl
theorem cB {b c : Bool} (h : b = c) : Value.bool b = Value.bool c := by rw [h]
structure TIns where
 op : Int
 d : Int
 a : Int
 b : Int
 imm : Int
 args : List Int
 what : Int
 volatile : Bool
 final : Bool
def RT_TIns : RT TIns := ⟨9, fun V cs x => ∃ v1 : Value, cs = [.int .i64 x.op, .int .i64 x.d, .int .i64 x.a, .int .i64 x.b, .int .i64 x.imm, v1, .int .i64 x.what, .bool x.volatile, .bool x.final] ∧ Fz (RT.int .i64) V v1 x.args, ⟨fun _ _ _ ⟨v1, h, f1⟩ => by rw [h]; rfl, fun _ _ _ ⟨v1, h, f1⟩ => by rw [h]; have := f1.one; simp only [List.all_cons, List.all_nil, *]; rfl, fun _ _ _ _ he ⟨v1, h, f1⟩ => ⟨v1, h, f1.up he⟩⟩⟩
structure TFunc where
 name : ByteArray
 params : Int
 regs : Int
 code : List TIns
def RT_TFunc : RT TFunc := ⟨4, fun V cs x => ∃ v1 : Value, cs = [.string x.name, .int .i64 x.params, .int .i64 x.regs, v1] ∧ Fz RT_TIns V v1 x.code, ⟨fun _ _ _ ⟨v1, h, f1⟩ => by rw [h]; rfl, fun _ _ _ ⟨v1, h, f1⟩ => by rw [h]; have := f1.one; simp only [List.all_cons, List.all_nil, *]; rfl, fun _ _ _ _ he ⟨v1, h, f1⟩ => ⟨v1, h, f1.up he⟩⟩⟩
structure TModule where
 funcs : List TFunc
 threads : List Int
def RT_TModule : RT TModule := ⟨2, fun V cs x => ∃ v1 v2 : Value, cs = [v1, v2] ∧ Fz RT_TFunc V v1 x.funcs ∧ Fz (RT.int .i64) V v2 x.threads, ⟨fun _ _ _ ⟨v1, v2, h, f1, f2⟩ => by rw [h]; rfl, fun _ _ _ ⟨v1, v2, h, f1, f2⟩ => by rw [h]; have := f1.one; have := f2.one; simp only [List.all_cons, List.all_nil, *]; rfl, fun _ _ _ _ he ⟨v1, v2, h, f1, f2⟩ => ⟨v1, v2, h, f1.up he, f2.up he⟩⟩⟩
def str1 : ByteArray := ⟨#[63]⟩
def str2 : ByteArray := ⟨#[99, 111, 110, 115, 116]⟩
def str3 : ByteArray := ⟨#[109, 111, 118, 101]⟩
def str4 : ByteArray := ⟨#[97, 100, 100]⟩
def str5 : ByteArray := ⟨#[115, 117, 98]⟩
def str6 : ByteArray := ⟨#[109, 117, 108]⟩
def str7 : ByteArray := ⟨#[100, 105, 118]⟩
def str8 : ByteArray := ⟨#[108, 101, 115, 115]⟩
def str9 : ByteArray := ⟨#[101, 113, 117, 97, 108]⟩
def str10 : ByteArray := ⟨#[108, 111, 97, 100]⟩
def str11 : ByteArray := ⟨#[115, 116, 111, 114, 101]⟩
def str12 : ByteArray := ⟨#[108, 97, 98, 101, 108]⟩
def str13 : ByteArray := ⟨#[106, 117, 109, 112]⟩
def str14 : ByteArray := ⟨#[122, 101, 114, 111]⟩
def str15 : ByteArray := ⟨#[99, 97, 108, 108]⟩
def str16 : ByteArray := ⟨#[114, 101, 116]⟩
def str17 : ByteArray := ⟨#[116, 114, 97, 112]⟩
def str18 : ByteArray := ⟨#[97, 108, 108, 111, 99]⟩
def str19 : ByteArray := ⟨#[101, 110, 116, 101, 114]⟩
def str20 : ByteArray := ⟨#[101, 120, 105, 116]⟩
def str21 : ByteArray := ⟨#[111, 117, 116]⟩
def str22 : ByteArray := ⟨#[102, 101, 110, 99, 101]⟩
def str23 : ByteArray := ⟨#[102, 114, 101, 101, 122, 101]⟩
def str24 : ByteArray := ⟨#[118]⟩
def str25 : ByteArray := ⟨#[32]⟩
def str26 : ByteArray := ⟨#[99, 111, 110, 115, 116, 32, 118, 51, 32, 55]⟩
def str27 : ByteArray := ⟨#[32, 118]⟩
def str28 : ByteArray := ⟨#[10]⟩
def gl0 : List ByteArray := [ByteArray.empty, str2, str3, str4, str5, str6, str7, str8, str9, str10, str11, str12, str13, str14, str15, str16, str17, str18, str19, str20, str21, str22, str23]
theorem gl0_len : gl0.length = 23 := rfl
abbrev NG : Nat := 2
structure Glb (V : Vw) : Prop where
 lo : NG ≤ V.H.lo
 g0 : Fz RT.str V (.slice (some ⟨0, 0, none⟩) 23 23) gl0
 t1 : Tb V 1 .u64 Lib.pow10Tab
theorem Glb.up {V V2 : Vw} (h : Glb V) (he : V.le V2) : Glb V2 := ⟨by rw [he.lo]; exact h.lo, h.g0.up he, h.t1.up he⟩
noncomputable def strconv_Itoa (p0 : Int) : Option ByteArray :=
  itoaO p0
noncomputable def strings_Join (p0 : List ByteArray) (p1 : ByteArray) : Option ByteArray :=
  joinO p0 p1
noncomputable def ir_Line_k2 (x35 : Int) (xs53 : List ByteArray) : Option (((List ByteArray) × Int) ⊕ ByteArray) :=
  some (Sum.inl (xs53, w64 (x35 + 1)))
noncomputable def ir_Line_l1b (p0 : TIns) (xs24 : List Int) (xs34 : List ByteArray) (x35 : Int) : Option (((List ByteArray) × Int) ⊕ ByteArray) :=
  if decide (x35 < (xs24.length : Int)) then
  (ix xs24 x35).bind fun x58 =>
  if decide (0 ≤ x58) then
  (strconv_Itoa x58).bind fun x74 =>
  (catO str24 x74).bind fun x82 =>
  (ap xs34 [x82]).bind fun xs90 =>
  ir_Line_k2 x35 xs90
  else
  ir_Line_k2 x35 xs34
  else
  ((strconv_Itoa p0.imm).bind fun x102 =>
  (ap xs34 [x102]).bind fun xs115 =>
  (strings_Join xs115 str25).bind fun x124 =>
  some x124).map Sum.inr
noncomputable def ir_Line_l1 (p0 : TIns) (xs24 : List Int) (xs34 : List ByteArray) (x35 : Int) : Option ByteArray := loopO (fun s => ir_Line_l1b p0 xs24 s.1 s.2) (xs34, x35)
noncomputable def ir_Line_k1 (p0 : TIns) (xs13 : List ByteArray) : Option ByteArray :=
  (apk 17592186044416 [p0.d, p0.a, p0.b] p0.args).bind fun xs24 =>
  ir_Line_l1 p0 xs24 xs13 0
noncomputable def ir_Line (p0 : TIns) : Option ByteArray :=
  if (decide (0 < p0.op)) && (decide (p0.op < 23)) then
  (ix gl0 p0.op).bind fun x145 =>
  (ix [str1] 0).bind fun x153 =>
  ir_Line_k1 p0 ([str1].set (Int.toNat 0) x145)
  else
  ir_Line_k1 p0 [str1]
noncomputable def law08_alive : Option Bool :=
  (ir_Line (⟨1, 3, (-1), (-1), 7, [], 0, false, false⟩ : TIns)).bind fun x1 =>
  some (cond (decide (x1 = str26)) true false)
noncomputable def law08_great_l1b (p0 : TFunc) (x8 : Int) : Option (Int ⊕ Bool) :=
  if decide (x8 < (p0.code.length : Int)) then
  (ix p0.code x8).bind fun x21 =>
  if decide (20 < (x21.args.length : Int)) then
  (some true).map Sum.inr
  else
  some (Sum.inl (w64 (x8 + 1)))
  else
  (some ((decide (60 < (p0.code.length : Int))) || (decide (200 < (p0.name.size : Int))))).map Sum.inr
noncomputable def law08_great_l1 (p0 : TFunc) (x8 : Int) : Option Bool := loopO (fun s => law08_great_l1b p0 s) x8
noncomputable def law08_great (p0 : TFunc) : Option Bool :=
  law08_great_l1 p0 0
noncomputable def ref08_Line_k2 (x33 : Int) (x48 : ByteArray) : Option ((ByteArray × Int) ⊕ ByteArray) :=
  some (Sum.inl (x48, w64 (x33 + 1)))
noncomputable def ref08_Line_l1b (p0 : TIns) (xs24 : List Int) (x32 : ByteArray) (x33 : Int) : Option ((ByteArray × Int) ⊕ ByteArray) :=
  if decide (x33 < (xs24.length : Int)) then
  (ix xs24 x33).bind fun x53 =>
  if decide (0 ≤ x53) then
  (catO x32 str27).bind fun x69 =>
  (strconv_Itoa x53).bind fun x72 =>
  (catO x69 x72).bind fun x80 =>
  ref08_Line_k2 x33 x80
  else
  ref08_Line_k2 x33 x32
  else
  ((catO x32 str25).bind fun x86 =>
  (strconv_Itoa p0.imm).bind fun x89 =>
  (catO x86 x89).bind fun x97 =>
  some x97).map Sum.inr
noncomputable def ref08_Line_l1 (p0 : TIns) (xs24 : List Int) (x32 : ByteArray) (x33 : Int) : Option ByteArray := loopO (fun s => ref08_Line_l1b p0 xs24 s.1 s.2) (x32, x33)
noncomputable def ref08_Line_k1 (p0 : TIns) (x13 : ByteArray) : Option ByteArray :=
  (apk 17592186044416 [p0.d, p0.a, p0.b] p0.args).bind fun xs24 =>
  ref08_Line_l1 p0 xs24 x13 0
noncomputable def ref08_Line (p0 : TIns) : Option ByteArray :=
  if (decide (1 ≤ p0.op)) && (decide (p0.op ≤ 22)) then
  (ix [str2, str3, str4, str5, str6, str7, str8, str9, str10, str11, str12, str13, str14, str15, str16, str17, str18, str19, str20, str21, str22, str23] (w64 (p0.op - 1))).bind fun x111 =>
  ref08_Line_k1 p0 x111
  else
  ref08_Line_k1 p0 str1
noncomputable def strings_Builder_WriteString (p0 : ByteArray) (p1 : ByteArray) : Option ByteArray :=
  bwO p0 p1
noncomputable def strings_Builder_String (p0 : ByteArray) : Option ByteArray :=
  bsO p0
noncomputable def ir_Text_l1b (p0 : TFunc) (xs54 : ByteArray) (x55 : Int) : Option ((ByteArray × Int) ⊕ ByteArray) :=
  if decide (x55 < (p0.code.length : Int)) then
  (ix p0.code x55).bind fun x69 =>
  (ir_Line x69).bind fun x91 =>
  (catO x91 str28).bind fun x99 =>
  (strings_Builder_WriteString xs54 x99).bind fun x103 =>
  some (Sum.inl (x103, w64 (x55 + 1)))
  else
  ((strings_Builder_String xs54).bind fun x116 =>
  some x116).map Sum.inr
noncomputable def ir_Text_l1 (p0 : TFunc) (xs54 : ByteArray) (x55 : Int) : Option ByteArray := loopO (fun s => ir_Text_l1b p0 s.1 s.2) (xs54, x55)
noncomputable def ir_Text (p0 : TFunc) : Option ByteArray :=
  (catO p0.name str25).bind fun x13 =>
  (strconv_Itoa p0.params).bind fun x16 =>
  (catO x13 x16).bind fun x24 =>
  (catO x24 str25).bind fun x27 =>
  (strconv_Itoa p0.regs).bind fun x30 =>
  (catO x27 x30).bind fun x38 =>
  (catO x38 str28).bind fun x41 =>
  (strings_Builder_WriteString ByteArray.empty x41).bind fun x44 =>
  ir_Text_l1 p0 x44 0
noncomputable def law08_IrText_l1b (p0 : TFunc) (x74 : ByteArray) (x75 : Int) : Option ((ByteArray × Int) ⊕ Bool) :=
  if decide (x75 < (p0.code.length : Int)) then
  (ix p0.code x75).bind fun x88 =>
  (ir_Line x88).bind fun x110 =>
  (ref08_Line x88).bind fun x119 =>
  if decide (x110 ≠ x119) then
  (some false).map Sum.inr
  else
  (ref08_Line x88).bind fun x135 =>
  (catO x74 x135).bind fun x143 =>
  (catO x143 str28).bind fun x146 =>
  some (Sum.inl (x146, w64 (x75 + 1)))
  else
  ((ir_Text p0).bind fun x153 =>
  some (decide (x153 = x74))).map Sum.inr
noncomputable def law08_IrText_l1 (p0 : TFunc) (x74 : ByteArray) (x75 : Int) : Option Bool := loopO (fun s => law08_IrText_l1b p0 s.1 s.2) (x74, x75)
noncomputable def law08_IrText (p0 : TFunc) : Option Bool :=
  (law08_alive).bind fun x8 =>
  if !x8 then
  some false
  else
  (law08_great p0).bind fun x24 =>
  if x24 then
  some true
  else
  (catO p0.name str25).bind fun x37 =>
  (ref08_Line (⟨99, (-1), (-1), (-1), p0.params, [], 0, false, false⟩ : TIns)).bind fun x40 =>
  (strSub x40 2 (x40.size : Int)).bind fun sx48 =>
  (catO x37 sx48).bind fun x51 =>
  (catO x51 str25).bind fun x54 =>
  (ref08_Line (⟨99, (-1), (-1), (-1), p0.regs, [], 0, false, false⟩ : TIns)).bind fun x57 =>
  (strSub x57 2 (x57.size : Int)).bind fun sx65 =>
  (catO x54 sx65).bind fun x68 =>
  (catO x68 str28).bind fun x71 =>
  law08_IrText_l1 p0 x71 0
noncomputable def ir_Labels_k1 (x13 : Int) (xs31 : List Int) : Option (((List Int) × Int) ⊕ (List Int)) :=
  some (Sum.inl (xs31, w64 (x13 + 1)))
noncomputable def ir_Labels_l1b (p0 : TFunc) (xs12 : List Int) (x13 : Int) : Option (((List Int) × Int) ⊕ (List Int)) :=
  if decide (x13 < (p0.code.length : Int)) then
  (ix p0.code x13).bind fun x36 =>
  if decide (x36.op = 11) then
  (ap xs12 [x36.imm]).bind fun xs64 =>
  ir_Labels_k1 x13 xs64
  else
  ir_Labels_k1 x13 xs12
  else
  (some xs12).map Sum.inr
noncomputable def ir_Labels_l1 (p0 : TFunc) (xs12 : List Int) (x13 : Int) : Option (List Int) := loopO (fun s => ir_Labels_l1b p0 s.1 s.2) (xs12, x13)
noncomputable def ir_Labels (p0 : TFunc) : Option (List Int) :=
  ir_Labels_l1 p0 [] 0
noncomputable def slices_Clone (p0 : List Int) : Option (List Int) :=
  (ap [] p0).bind fun xs15 =>
  some xs15
noncomputable def slices_Sort (p0 : List Int) : Option (List Int) :=
  sortO p0
noncomputable def slices_Compact (p0 : List Int) : Option (List Int) :=
  compactO p0
noncomputable def ir_bare (p0 : TIns) : Option Bool :=
  some ((((((decide (p0.op = 9)) || (decide (p0.op = 10))) || (((decide (p0.what = 0)) && (!p0.volatile)) && (!p0.final))) && ((decide (p0.op = 14)) || (decide ((p0.args.length : Int) = 0)))) && (((((((((((decide (p0.imm = 0)) || ((decide (p0.op = 9)) || (decide (p0.op = 10)))) || ((((decide (p0.op = 21)) && ((decide (p0.imm = 1)) || (decide (p0.imm = 2)))) && (decide (p0.a = (-1)))) || (((decide (p0.op = 21)) && (decide (p0.imm = 3))) && (decide (0 ≤ p0.a))))) || (decide (p0.op = 1))) || (decide (p0.op = 14))) || ((decide (p0.op = 16)) && (decide (0 < p0.imm)))) || ((decide (p0.op = 22)) && (decide (p0.imm = 1)))) || (decide (p0.op = 11))) || (decide (p0.op = 12))) || (decide (p0.op = 13))) || (decide (p0.op = 17)))) && ((decide (p0.op ≠ 21)) || ((((decide (p0.op = 21)) && ((decide (p0.imm = 1)) || (decide (p0.imm = 2)))) && (decide (p0.a = (-1)))) || (((decide (p0.op = 21)) && (decide (p0.imm = 3))) && (decide (0 ≤ p0.a))))))
noncomputable def ir_shape_k3 (x47 : Bool) : Option (Bool × Bool × Bool × Bool) :=
  if x47 then
  some (false, true, false, false)
  else
  some (false, false, false, false)
noncomputable def ir_shape_k2 (p0 : Int) (x26 : Bool) : Option (Bool × Bool × Bool × Bool) :=
  if x26 then
  some (false, false, false, true)
  else
  if decide (p0 = 13) then
  some (false, true, false, true)
  else
  if decide (p0 = 14) then
  some (true, false, false, false)
  else
  if decide (p0 = 17) then
  some (true, true, false, true)
  else
  if decide (p0 = 15) then
  ir_shape_k3 true
  else
  if decide (p0 = 18) then
  ir_shape_k3 true
  else
  if decide (p0 = 19) then
  ir_shape_k3 true
  else
  ir_shape_k3 (decide (p0 = 20))
noncomputable def ir_shape_k1 (p0 : Int) (x9 : Bool) : Option (Bool × Bool × Bool × Bool) :=
  if x9 then
  some (true, true, true, false)
  else
  if decide (p0 = 9) then
  some (true, true, false, false)
  else
  if decide (p0 = 10) then
  some (false, true, true, false)
  else
  if decide (p0 = 11) then
  ir_shape_k2 p0 true
  else
  ir_shape_k2 p0 (decide (p0 = 12))
noncomputable def ir_shape (p0 : Int) : Option (Bool × Bool × Bool × Bool) :=
  if decide (p0 = 1) then
  some (true, false, false, false)
  else
  if decide (p0 = 2) then
  some (true, true, false, false)
  else
  if decide (p0 = 3) then
  ir_shape_k1 p0 true
  else
  if decide (p0 = 4) then
  ir_shape_k1 p0 true
  else
  if decide (p0 = 5) then
  ir_shape_k1 p0 true
  else
  if decide (p0 = 6) then
  ir_shape_k1 p0 true
  else
  if decide (p0 = 7) then
  ir_shape_k1 p0 true
  else
  ir_shape_k1 p0 (decide (p0 = 8))
noncomputable def ir_reg (p0 : Bool) (p1 : Bool) (p2 : Int) (p3 : Int) : Option Bool :=
  if (!p0) || (p1 && (decide (p2 = (-1)))) then
  some (decide (p2 = (-1)))
  else
  some ((decide (0 ≤ p2)) && (decide (p2 < p3)))
noncomputable def slices_Index_l1b (p0 : List Int) (p1 : Int) (x3 : Int) : Option (Int ⊕ Int) :=
  if decide (x3 < (p0.length : Int)) then
  (ix p0 x3).bind fun x16 =>
  if decide (p1 = x16) then
  (some x3).map Sum.inr
  else
  some (Sum.inl (w64 (x3 + 1)))
  else
  (some (-1)).map Sum.inr
noncomputable def slices_Index_l1 (p0 : List Int) (p1 : Int) (x3 : Int) : Option Int := loopO (fun s => slices_Index_l1b p0 p1 s) x3
noncomputable def slices_Index (p0 : List Int) (p1 : Int) : Option Int :=
  slices_Index_l1 p0 p1 0
noncomputable def slices_Contains (p0 : List Int) (p1 : Int) : Option Bool :=
  (slices_Index p0 p1).bind fun x3 =>
  some (decide (0 ≤ x3))
noncomputable def ir_good_c1 (p0 : Int) (p1 : TFunc) : Option Bool :=
  some ((decide (p0 < 0)) || (decide (p1.regs ≤ p0)))
noncomputable def slices_IndexFunc_2_l1b (p0 : List Int) (p1_10 : TFunc) (x8 : Int) : Option (Int ⊕ Int) :=
  if decide (x8 < (p0.length : Int)) then
  (ix p0 x8).bind fun x21 =>
  (ir_good_c1 x21 p1_10).bind fun x33 =>
  if x33 then
  (some x8).map Sum.inr
  else
  some (Sum.inl (w64 (x8 + 1)))
  else
  (some (-1)).map Sum.inr
noncomputable def slices_IndexFunc_2_l1 (p0 : List Int) (p1_10 : TFunc) (x8 : Int) : Option Int := loopO (fun s => slices_IndexFunc_2_l1b p0 p1_10 s) x8
noncomputable def slices_IndexFunc_2 (p0 : List Int) (p1_10 : TFunc) : Option Int :=
  slices_IndexFunc_2_l1 p0 p1_10 0
noncomputable def slices_ContainsFunc_2 (p0 : List Int) (p1_10 : TFunc) : Option Bool :=
  (slices_IndexFunc_2 p0 p1_10).bind fun x8 =>
  some (decide (0 ≤ x8))
noncomputable def ir_good_k1 (p0 : TFunc) (p1 : TIns) (p2 : List Int) (x38 : Bool × Bool × Bool × Bool) (x46 : Bool) : Option Bool :=
  (ir_reg x38.1 (decide (p1.op = 14)) p1.d p0.regs).bind fun x51 =>
  (if !x51 then
  some true
  else
  (ir_reg x46 (((decide (p1.op = 9)) || (decide (p1.op = 10))) || (decide (p1.op = 15))) p1.a p0.regs).bind fun x179 =>
  some (!x179)).bind fun y59 =>
  (if y59 then
  some true
  else
  (ir_reg x38.2.2.1 false p1.b p0.regs).bind fun x152 =>
  some (!x152)).bind fun y85 =>
  if y85 then
  some false
  else
  (if x38.2.2.2 then
  (slices_Contains p2 p1.imm).bind fun x137 =>
  some (!x137)
  else
  some false).bind fun y104 =>
  if y104 then
  some false
  else
  (slices_ContainsFunc_2 p1.args p0).bind fun x124 =>
  some (!x124)
noncomputable def ir_good (p0 : TFunc) (p1 : TIns) (p2 : List Int) : Option Bool :=
  (if (decide (p1.op < 1)) || (decide (22 < p1.op)) then
  some true
  else
  (ir_bare p1).bind fun x204 =>
  some (!x204)).bind fun y23 =>
  if y23 then
  some false
  else
  (ir_shape p1.op).bind fun x38 =>
  if decide (p1.op = 21) then
  ir_good_k1 p0 p1 p2 x38 (decide (p1.imm = 3))
  else
  ir_good_k1 p0 p1 p2 x38 x38.2.1
noncomputable def ir_Good_c1 (p0 : TIns) (p1 : TFunc) (p2 : List Int) : Option Bool :=
  (ir_good p1 p0 p2).bind fun x21 =>
  some (!x21)
noncomputable def slices_IndexFunc_l1b (p0 : List TIns) (p1_10 : TFunc) (p1_11 : List Int) (x13 : Int) : Option (Int ⊕ Int) :=
  if decide (x13 < (p0.length : Int)) then
  (ix p0 x13).bind fun x26 =>
  (ir_Good_c1 x26 p1_10 p1_11).bind fun x44 =>
  if x44 then
  (some x13).map Sum.inr
  else
  some (Sum.inl (w64 (x13 + 1)))
  else
  (some (-1)).map Sum.inr
noncomputable def slices_IndexFunc_l1 (p0 : List TIns) (p1_10 : TFunc) (p1_11 : List Int) (x13 : Int) : Option Int := loopO (fun s => slices_IndexFunc_l1b p0 p1_10 p1_11 s) x13
noncomputable def slices_IndexFunc (p0 : List TIns) (p1_10 : TFunc) (p1_11 : List Int) : Option Int :=
  slices_IndexFunc_l1 p0 p1_10 p1_11 0
noncomputable def slices_ContainsFunc (p0 : List TIns) (p1_10 : TFunc) (p1_11 : List Int) : Option Bool :=
  (slices_IndexFunc p0 p1_10 p1_11).bind fun x16 =>
  some (decide (0 ≤ x16))
noncomputable def ir_Good_k1 (p0 : TFunc) (x9 : List Int) (x46 : Bool) : Option Bool :=
  if x46 then
  some false
  else
  (ix p0.code (w64 ((p0.code.length : Int) - 1))).bind fun x58 =>
  if ((decide (x58.op ≠ 15)) && (decide (x58.op ≠ 12))) && (decide (x58.op ≠ 16)) then
  some false
  else
  (slices_ContainsFunc p0.code p0 x9).bind fun x92 =>
  some (!x92)
noncomputable def ir_Good (p0 : TFunc) : Option Bool :=
  (ir_Labels p0).bind fun x9 =>
  (slices_Clone x9).bind fun x28 =>
  (slices_Sort x28).bind fun x38 =>
  if decide (p0.params < 0) then
  ir_Good_k1 p0 x9 true
  else
  if decide (p0.regs < p0.params) then
  ir_Good_k1 p0 x9 true
  else
  (slices_Compact x38).bind fun x120 =>
  if decide ((x120.length : Int) ≠ (x9.length : Int)) then
  ir_Good_k1 p0 x9 true
  else
  ir_Good_k1 p0 x9 (decide ((p0.code.length : Int) = 0))
noncomputable def ir_Whole_c1 (p0 : Int) (p1 : TModule) : Option Bool :=
  (if (decide (p0 < 0)) || (decide ((p1.funcs.length : Int) ≤ p0)) then
  some true
  else
  (ix p1.funcs p0).bind fun x34 =>
  some (decide (x34.params ≠ 0))).bind fun y16 =>
  some y16
noncomputable def slices_IndexFunc_3_l1b (p0 : List Int) (p1_10 : TModule) (x10 : Int) : Option (Int ⊕ Int) :=
  if decide (x10 < (p0.length : Int)) then
  (ix p0 x10).bind fun x23 =>
  (ir_Whole_c1 x23 p1_10).bind fun x36 =>
  if x36 then
  (some x10).map Sum.inr
  else
  some (Sum.inl (w64 (x10 + 1)))
  else
  (some (-1)).map Sum.inr
noncomputable def slices_IndexFunc_3_l1 (p0 : List Int) (p1_10 : TModule) (x10 : Int) : Option Int := loopO (fun s => slices_IndexFunc_3_l1b p0 p1_10 s) x10
noncomputable def slices_IndexFunc_3 (p0 : List Int) (p1_10 : TModule) : Option Int :=
  slices_IndexFunc_3_l1 p0 p1_10 0
noncomputable def slices_ContainsFunc_3 (p0 : List Int) (p1_10 : TModule) : Option Bool :=
  (slices_IndexFunc_3 p0 p1_10).bind fun x10 =>
  some (decide (0 ≤ x10))
noncomputable def ir_Whole_k1 (x62 : Int) (x97 : Bool) : Option (Int ⊕ (Int ⊕ Bool)) :=
  if x97 then
  ((some false).map Sum.inr).map Sum.inr
  else
  some (Sum.inl (w64 (x62 + 1)))
noncomputable def ir_Whole_l2b (p0 : TModule) (x10 : Int) (x23 : TFunc) (x62 : Int) : Option (Int ⊕ (Int ⊕ Bool)) :=
  if decide (x62 < (x23.code.length : Int)) then
  (ix x23.code x62).bind fun x76 =>
  if decide (x76.op = 14) then
  if decide (x76.imm < 0) then
  ir_Whole_k1 x62 true
  else
  if decide ((p0.funcs.length : Int) ≤ x76.imm) then
  ir_Whole_k1 x62 true
  else
  (ix p0.funcs x76.imm).bind fun x119 =>
  ir_Whole_k1 x62 (decide (x119.params ≠ (x76.args.length : Int)))
  else
  ir_Whole_k1 x62 false
  else
  (some (Sum.inl (w64 (x10 + 1)))).map Sum.inr
noncomputable def ir_Whole_l2 (p0 : TModule) (x10 : Int) (x23 : TFunc) (x62 : Int) : Option (Int ⊕ Bool) := loopO (fun s => ir_Whole_l2b p0 x10 x23 s) x62
noncomputable def ir_Whole_l1b (p0 : TModule) (x10 : Int) : Option (Int ⊕ Bool) :=
  if decide (x10 < (p0.funcs.length : Int)) then
  (ix p0.funcs x10).bind fun x23 =>
  (ir_Good x23).bind fun x45 =>
  if !x45 then
  (some false).map Sum.inr
  else
  ir_Whole_l2 p0 x10 x23 0
  else
  ((slices_ContainsFunc_3 p0.threads p0).bind fun x141 =>
  some (!x141)).map Sum.inr
noncomputable def ir_Whole_l1 (p0 : TModule) (x10 : Int) : Option Bool := loopO (fun s => ir_Whole_l1b p0 s) x10
noncomputable def ir_Whole (p0 : TModule) : Option Bool :=
  ir_Whole_l1 p0 0
noncomputable def law08_IrParts_l2b (x48 : Int) (x64 : TFunc) (x106 : Int) : Option (Int ⊕ (Int ⊕ Bool)) :=
  if decide (x106 < (x64.code.length : Int)) then
  (ix x64.code x106).bind fun x120 =>
  if decide (x120.op = 14) then
  ((some true).map Sum.inr).map Sum.inr
  else
  some (Sum.inl (w64 (x106 + 1)))
  else
  (some (Sum.inl (w64 (x48 + 1)))).map Sum.inr
noncomputable def law08_IrParts_l2 (x48 : Int) (x64 : TFunc) (x106 : Int) : Option (Int ⊕ Bool) := loopO (fun s => law08_IrParts_l2b x48 x64 s) x106
noncomputable def law08_IrParts_l1b (p0 : TModule) (p1 : TFunc) (xs40 : List TFunc) (x48 : Int) : Option (Int ⊕ Bool) :=
  if decide (x48 < (xs40.length : Int)) then
  (ix xs40 x48).bind fun x64 =>
  (law08_great x64).bind fun x89 =>
  if x89 then
  (some true).map Sum.inr
  else
  law08_IrParts_l2 x48 x64 0
  else
  ((if (decide (8 < (p0.funcs.length : Int))) || (decide (20 < (p0.threads.length : Int))) then
  some true
  else
  (ir_Whole p0).bind fun x254 =>
  some (!x254)).bind fun y163 =>
  if y163 then
  some true
  else
  (apk 2513169434916 [] p0.funcs).bind fun xs193 =>
  (ap xs193 [p1]).bind fun xs207 =>
  (ir_Whole (⟨xs207, p0.threads⟩ : TModule)).bind fun x225 =>
  (ir_Good p1).bind fun x234 =>
  some (x225 == x234)).map Sum.inr
noncomputable def law08_IrParts_l1 (p0 : TModule) (p1 : TFunc) (xs40 : List TFunc) (x48 : Int) : Option Bool := loopO (fun s => law08_IrParts_l1b p0 p1 xs40 s) x48
noncomputable def law08_IrParts (p0 : TModule) (p1 : TFunc) : Option Bool :=
  (law08_alive).bind fun x17 =>
  if !x17 then
  some false
  else
  (apk 2513169434916 [p1] p0.funcs).bind fun xs40 =>
  law08_IrParts_l1 p0 p1 xs40 0
end Go.Vm.G08
