/-
 What functions compute, as plain functions.
-/
import Derived.Test.YtngmbcedamphmaaESp19
set_option linter.unusedSimpArgs false
set_option linter.unusedVariables false
namespace Go.Vm.G13s
open Go
theorem Z {α : Sort _} {a : α} : a = a := rfl
theorem cB {b c : Bool} (h : b = c) : Value.bool b = Value.bool c := by rw [h]
structure TIns where
 op : Int
 d : Int
 a : Int
 b : Int
 imm : Int
 args : List Int
 what : Int
 volatile : Bool
 final : Bool
def RT_TIns : RT TIns := ⟨9, fun V cs x => ∃ v1 : Value, cs = [.int .i64 x.op, .int .i64 x.d, .int .i64 x.a, .int .i64 x.b, .int .i64 x.imm, v1, .int .i64 x.what, .bool x.volatile, .bool x.final] ∧ Fz (RT.int .i64) V v1 x.args, ⟨fun _ _ _ ⟨v1, h, f1⟩ => by rw [h]; rfl, fun _ _ _ ⟨v1, h, f1⟩ => by rw [h]; have := f1.one; simp only [List.all_cons, List.all_nil, *]; rfl, fun _ _ _ _ he ⟨v1, h, f1⟩ => ⟨v1, h, f1.up he⟩⟩⟩
structure TFunc where
 name : ByteArray
 params : Int
 regs : Int
 code : List TIns
def RT_TFunc : RT TFunc := ⟨4, fun V cs x => ∃ v1 : Value, cs = [.string x.name, .int .i64 x.params, .int .i64 x.regs, v1] ∧ Fz RT_TIns V v1 x.code, ⟨fun _ _ _ ⟨v1, h, f1⟩ => by rw [h]; rfl, fun _ _ _ ⟨v1, h, f1⟩ => by rw [h]; have := f1.one; simp only [List.all_cons, List.all_nil, *]; rfl, fun _ _ _ _ he ⟨v1, h, f1⟩ => ⟨v1, h, f1.up he⟩⟩⟩
structure Tflow_Span where
 reg : Int
 from_ : Int
 to_ : Int
def RT_Tflow_Span : RT Tflow_Span := ⟨3, fun V cs x => cs = [.int .i64 x.reg, .int .i64 x.from_, .int .i64 x.to_], ⟨fun _ _ _ h => by rw [h]; rfl, fun _ _ _ h => by rw [h]; rfl, fun _ _ _ _ he h => h⟩⟩
structure Tregs_scan where
 at_ : List Int
 active : List Tflow_Span
 free : List Bool
 spills : Int
structure Tregs_Map where
 at_ : List Int
 spill : Int
def str1 : ByteArray := ⟨(([0, 1, 2, 2, 3, 3, 3, 3, 4, 4, 4, 4, 4, 4, 4, 4, 5, 5, 5, 5, 5, 5, 5, 5, 5, 5, 5, 5, 5, 5, 5, 5, 6, 6, 6, 6, 6, 6, 6, 6, 6, 6, 6, 6, 6, 6, 6, 6, 6, 6, 6, 6, 6, 6, 6, 6, 6, 6, 6, 6, 6, 6, 6, 6].append [7, 7, 7, 7, 7, 7, 7, 7, 7, 7, 7, 7, 7, 7, 7, 7, 7, 7, 7, 7, 7, 7, 7, 7, 7, 7, 7, 7, 7, 7, 7, 7, 7, 7, 7, 7, 7, 7, 7, 7, 7, 7, 7, 7, 7, 7, 7, 7, 7, 7, 7, 7, 7, 7, 7, 7, 7, 7, 7, 7, 7, 7, 7, 7]).append ([8, 8, 8, 8, 8, 8, 8, 8, 8, 8, 8, 8, 8, 8, 8, 8, 8, 8, 8, 8, 8, 8, 8, 8, 8, 8, 8, 8, 8, 8, 8, 8, 8, 8, 8, 8, 8, 8, 8, 8, 8, 8, 8, 8, 8, 8, 8, 8, 8, 8, 8, 8, 8, 8, 8, 8, 8, 8, 8, 8, 8, 8, 8, 8].append [8, 8, 8, 8, 8, 8, 8, 8, 8, 8, 8, 8, 8, 8, 8, 8, 8, 8, 8, 8, 8, 8, 8, 8, 8, 8, 8, 8, 8, 8, 8, 8, 8, 8, 8, 8, 8, 8, 8, 8, 8, 8, 8, 8, 8, 8, 8, 8, 8, 8, 8, 8, 8, 8, 8, 8, 8, 8, 8, 8, 8, 8, 8, 8])).toArray⟩
noncomputable def flow_grow_c1 (p0 : Tflow_Span) (p1 : Int) : Option Bool :=
  some (decide (p0.reg = p1))
noncomputable def slices_IndexFunc_2_l1b (p0 : List Tflow_Span) (p1_10 : Int) (x6 : Int) : Option (Int ⊕ Int) :=
  if decide (x6 < (p0.length : Int)) then
  (ix p0 x6).bind fun x19 =>
  (flow_grow_c1 x19 p1_10).bind fun x34 =>
  if x34 then
  (some x6).map Sum.inr
  else
  some (Sum.inl (w64 (x6 + 1)))
  else
  (some (-1)).map Sum.inr
noncomputable def slices_IndexFunc_2_l1 (p0 : List Tflow_Span) (p1_10 : Int) (x6 : Int) : Option Int := loopO (fun s => slices_IndexFunc_2_l1b p0 p1_10 s) x6
noncomputable def slices_IndexFunc_2 (p0 : List Tflow_Span) (p1_10 : Int) : Option Int :=
  slices_IndexFunc_2_l1 p0 p1_10 0
noncomputable def flow_grow (p0 : List Tflow_Span) (p1 : Int) (p2 : Int) : Option (List Tflow_Span) :=
  (slices_IndexFunc_2 p0 p1).bind fun x11 =>
  if decide (x11 < 0) then
  (ap p0 [(⟨p1, p2, p2⟩ : Tflow_Span)]).bind fun xs26 =>
  some xs26
  else
  (ix p0 x11).bind fun x38 =>
  (ix p0 x11).bind fun x52 =>
  (ix p0 x11).bind fun x61 =>
  (ix (p0.set (Int.toNat x11) (⟨x61.reg, min x38.from_ p2, x61.to_⟩ : Tflow_Span)) x11).bind fun x73 =>
  some ((p0.set (Int.toNat x11) (⟨x61.reg, min x38.from_ p2, x61.to_⟩ : Tflow_Span)).set (Int.toNat x11) (⟨x73.reg, x73.from_, max x52.to_ p2⟩ : Tflow_Span))
noncomputable def flow_place_c1 (p0 : TIns) (p1 : Int) : Option Bool :=
  some ((decide (p0.op = 11)) && (decide (p0.imm = p1)))
noncomputable def slices_IndexFunc_3_l1b (p0 : List TIns) (p1_10 : Int) (x6 : Int) : Option (Int ⊕ Int) :=
  if decide (x6 < (p0.length : Int)) then
  (ix p0 x6).bind fun x19 =>
  (flow_place_c1 x19 p1_10).bind fun x33 =>
  if x33 then
  (some x6).map Sum.inr
  else
  some (Sum.inl (w64 (x6 + 1)))
  else
  (some (-1)).map Sum.inr
noncomputable def slices_IndexFunc_3_l1 (p0 : List TIns) (p1_10 : Int) (x6 : Int) : Option Int := loopO (fun s => slices_IndexFunc_3_l1b p0 p1_10 s) x6
noncomputable def slices_IndexFunc_3 (p0 : List TIns) (p1_10 : Int) : Option Int :=
  slices_IndexFunc_3_l1 p0 p1_10 0
noncomputable def flow_place (p0 : TFunc) (p1 : Int) : Option Int :=
  (slices_IndexFunc_3 p0.code p1).bind fun x14 =>
  some x14
noncomputable def slices_Index_l1b (p0 : List Int) (p1 : Int) (x3 : Int) : Option (Int ⊕ Int) :=
  if decide (x3 < (p0.length : Int)) then
  (ix p0 x3).bind fun x16 =>
  if decide (p1 = x16) then
  (some x3).map Sum.inr
  else
  some (Sum.inl (w64 (x3 + 1)))
  else
  (some (-1)).map Sum.inr
noncomputable def slices_Index_l1 (p0 : List Int) (p1 : Int) (x3 : Int) : Option Int := loopO (fun s => slices_Index_l1b p0 p1 s) x3
noncomputable def slices_Index (p0 : List Int) (p1 : Int) : Option Int :=
  slices_Index_l1 p0 p1 0
noncomputable def slices_Contains (p0 : List Int) (p1 : Int) : Option Bool :=
  (slices_Index p0 p1).bind fun x3 =>
  some (decide (0 ≤ x3))
noncomputable def flow_Next_k2 (xs55 : List Int) : Option (List Int) :=
  some xs55
noncomputable def flow_Next_k1 (p0 : TFunc) (x25 : TIns) (xs48 : List Int) : Option (List Int) :=
  if ((decide (x25.op = 12)) || (decide (x25.op = 13))) || (decide (x25.op = 17)) then
  (flow_place p0 x25.imm).bind fun x76 =>
  (if decide (0 ≤ x76) then
  (slices_Contains xs48 x76).bind fun x118 =>
  some (!x118)
  else
  some false).bind fun y84 =>
  if y84 then
  (apw xs48 [x76]).bind fun xs101 =>
  flow_Next_k2 xs101
  else
  flow_Next_k2 xs48
  else
  flow_Next_k2 xs48
noncomputable def flow_Next (p0 : TFunc) (p1 : Int) : Option (List Int) :=
  if (decide (p1 < 0)) || (decide ((p0.code.length : Int) ≤ p1)) then
  some []
  else
  (ix p0.code p1).bind fun x25 =>
  if (((decide (x25.op ≠ 12)) && (decide (x25.op ≠ 15))) && (decide (x25.op ≠ 16))) && (decide ((w64 (p1 + 1)) < (p0.code.length : Int))) then
  (apw [] [w64 (p1 + 1)]).bind fun xs167 =>
  flow_Next_k1 p0 x25 xs167
  else
  flow_Next_k1 p0 x25 []
noncomputable def flow_set_merge_l1b (p1 : List Bool) (xs5 : List Bool) (x6 : Bool) (x7 : Int) : Option (((List Bool) × Bool × Int) ⊕ (Bool × (List Bool))) :=
  if decide (x7 < (p1.length : Int)) then
  (ix p1 x7).bind fun x20 =>
  (if x6 then
  some true
  else
  (if x20 then
  (ix xs5 x7).bind fun x97 =>
  some (!x97)
  else
  some false).bind fun y83 =>
  some y83).bind fun y34 =>
  (ix xs5 x7).bind fun x48 =>
  (ix xs5 x7).bind fun x66 =>
  some (Sum.inl (xs5.set (Int.toNat x7) (x48 || x20), y34, w64 (x7 + 1)))
  else
  (some (x6, xs5)).map Sum.inr
noncomputable def flow_set_merge_l1 (p1 : List Bool) (xs5 : List Bool) (x6 : Bool) (x7 : Int) : Option (Bool × (List Bool)) := loopO (fun s => flow_set_merge_l1b p1 s.1 s.2.1 s.2.2) (xs5, x6, x7)
noncomputable def flow_set_merge (p0 : List Bool) (p1 : List Bool) : Option (Bool × (List Bool)) :=
  flow_set_merge_l1 p1 p0 false 0
noncomputable def slices_Clone (p0 : List Bool) : Option (List Bool) :=
  (ap [] p0).bind fun xs15 =>
  some xs15
noncomputable def ir_Def (p0 : TIns) : Option Int :=
  some p0.d
noncomputable def ir_Uses_k1 (x27 : Int) (xs45 : List Int) : Option (((List Int) × Int) ⊕ (List Int)) :=
  some (Sum.inl (xs45, w64 (x27 + 1)))
noncomputable def ir_Uses_l1b (xs16 : List Int) (xs26 : List Int) (x27 : Int) : Option (((List Int) × Int) ⊕ (List Int)) :=
  if decide (x27 < (xs16.length : Int)) then
  (ix xs16 x27).bind fun x50 =>
  if decide (0 ≤ x50) then
  (apw xs26 [x50]).bind fun xs71 =>
  ir_Uses_k1 x27 xs71
  else
  ir_Uses_k1 x27 xs26
  else
  (some xs26).map Sum.inr
noncomputable def ir_Uses_l1 (xs16 : List Int) (xs26 : List Int) (x27 : Int) : Option (List Int) := loopO (fun s => ir_Uses_l1b xs16 s.1 s.2) (xs26, x27)
noncomputable def ir_Uses (p0 : TIns) : Option (List Int) :=
  (apw [p0.a, p0.b] p0.args).bind fun xs16 =>
  ir_Uses_l1 xs16 [] 0
noncomputable def flow_step_k2 (x40 : Int) (xs57 : List Bool) : Option (((List Bool) × Int) ⊕ (List Bool)) :=
  some (Sum.inl (xs57, w64 (x40 + 1)))
noncomputable def flow_step_l1b (x29 : List Int) (xs39 : List Bool) (x40 : Int) : Option (((List Bool) × Int) ⊕ (List Bool)) :=
  if decide (x40 < (x29.length : Int)) then
  (ix x29 x40).bind fun x62 =>
  if decide (x62 < (xs39.length : Int)) then
  (ix xs39 x62).bind fun x78 =>
  flow_step_k2 x40 (xs39.set (Int.toNat x62) true)
  else
  flow_step_k2 x40 xs39
  else
  (some xs39).map Sum.inr
noncomputable def flow_step_l1 (x29 : List Int) (xs39 : List Bool) (x40 : Int) : Option (List Bool) := loopO (fun s => flow_step_l1b x29 s.1 s.2) (xs39, x40)
noncomputable def flow_step_k1 (p0 : TIns) (xs23 : List Bool) : Option (List Bool) :=
  (ir_Uses p0).bind fun x29 =>
  flow_step_l1 x29 xs23 0
noncomputable def flow_step (p0 : TIns) (p1 : List Bool) : Option (List Bool) :=
  (slices_Clone p1).bind fun x13 =>
  (ir_Def p0).bind fun x103 =>
  if (decide (0 ≤ x103)) && (decide (x103 < (x13.length : Int))) then
  (ix x13 x103).bind fun x120 =>
  flow_step_k1 p0 (x13.set (Int.toNat x103) false)
  else
  flow_step_k1 p0 x13
noncomputable def flow_Live_k1 (x121 : Int) (xs134 : List (List Bool)) (x135 : Bool) : Option (((List (List Bool)) × Bool × Int) ⊕ (((List (List Bool)) × Bool) ⊕ (List (List Bool)))) :=
  some (Sum.inl (xs134, x135, w64 (x121 - 1)))
noncomputable def flow_Live_l4b (p0 : TFunc) (xs31 : List (List Int)) (xs119 : List (List Bool)) (x120 : Bool) (x121 : Int) (x148 : List Int) (xs162 : List Bool) (x163 : Int) : Option (((List Bool) × Int) ⊕ (((List (List Bool)) × Bool × Int) ⊕ (((List (List Bool)) × Bool) ⊕ (List (List Bool))))) :=
  if decide (x163 < (x148.length : Int)) then
  (ix xs31 x121).bind fun x180 =>
  (ix x180 x163).bind fun x187 =>
  (ix xs119 x187).bind fun x201 =>
  (flow_set_merge xs162 x201).bind fun x215 =>
  some (Sum.inl (x215.2, w64 (x163 + 1)))
  else
  ((ix xs119 x121).bind fun x231 =>
  (ix p0.code x121).bind fun x244 =>
  (flow_step x244 xs162).bind fun x259 =>
  (flow_set_merge x231 x259).bind fun x273 =>
  if x273.1 then
  flow_Live_k1 x121 (xs119.set (Int.toNat x121) x273.2) true
  else
  flow_Live_k1 x121 (xs119.set (Int.toNat x121) x273.2) x120).map Sum.inr
noncomputable def flow_Live_l4 (p0 : TFunc) (xs31 : List (List Int)) (xs119 : List (List Bool)) (x120 : Bool) (x121 : Int) (x148 : List Int) (xs162 : List Bool) (x163 : Int) : Option (((List (List Bool)) × Bool × Int) ⊕ (((List (List Bool)) × Bool) ⊕ (List (List Bool)))) := loopO (fun s => flow_Live_l4b p0 xs31 xs119 x120 x121 x148 s.1 s.2) (xs162, x163)
noncomputable def flow_Live_l3b (p0 : TFunc) (xs31 : List (List Int)) (xs119 : List (List Bool)) (x120 : Bool) (x121 : Int) : Option (((List (List Bool)) × Bool × Int) ⊕ (((List (List Bool)) × Bool) ⊕ (List (List Bool)))) :=
  if decide (0 ≤ x121) then
  (mk (max p0.regs 0) false).bind fun xs140 =>
  (ix xs31 x121).bind fun x148 =>
  flow_Live_l4 p0 xs31 xs119 x120 x121 x148 xs140 0
  else
  (some (Sum.inl (xs119, x120))).map Sum.inr
noncomputable def flow_Live_l3 (p0 : TFunc) (xs31 : List (List Int)) (xs119 : List (List Bool)) (x120 : Bool) (x121 : Int) : Option (((List (List Bool)) × Bool) ⊕ (List (List Bool))) := loopO (fun s => flow_Live_l3b p0 xs31 s.1 s.2.1 s.2.2) (xs119, x120, x121)
noncomputable def flow_Live_l5b (xs105 : List (List Bool)) (xs296 : List (List Bool)) (xs297 : List (List Bool)) (x300 : Int) : Option (((List (List Bool)) × (List (List Bool)) × Int) ⊕ (List (List Bool))) :=
  if decide (x300 < (xs105.length : Int)) then
  (ix xs297 x300).bind fun x323 =>
  (ap xs296 [x323]).bind fun xs341 =>
  some (Sum.inl (xs341, xs297, w64 (x300 + 1)))
  else
  (some xs296).map Sum.inr
noncomputable def flow_Live_l5 (xs105 : List (List Bool)) (xs296 : List (List Bool)) (xs297 : List (List Bool)) (x300 : Int) : Option (List (List Bool)) := loopO (fun s => flow_Live_l5b xs105 s.1 s.2.1 s.2.2) (xs296, xs297, x300)
noncomputable def flow_Live_l2b (p0 : TFunc) (xs31 : List (List Int)) (xs105 : List (List Bool)) (x106 : Bool) : Option (((List (List Bool)) × Bool) ⊕ (List (List Bool))) :=
  if x106 then
  flow_Live_l3 p0 xs31 xs105 false (w64 ((p0.code.length : Int) - 1))
  else
  (flow_Live_l5 xs105 [] xs105 0).map Sum.inr
noncomputable def flow_Live_l2 (p0 : TFunc) (xs31 : List (List Int)) (xs105 : List (List Bool)) (x106 : Bool) : Option (List (List Bool)) := loopO (fun s => flow_Live_l2b p0 xs31 s.1 s.2) (xs105, x106)
noncomputable def flow_Live_l1b (p0 : TFunc) (xs10 : List (List Bool)) (xs29 : List (List Bool)) (xs31 : List (List Int)) (x32 : Int) : Option (((List (List Bool)) × (List (List Int)) × Int) ⊕ (List (List Bool))) :=
  if decide (x32 < (xs10.length : Int)) then
  (mk (max p0.regs 0) false).bind fun xs48 =>
  (ix xs29 x32).bind fun x56 =>
  (flow_Next p0 x32).bind fun x74 =>
  (ix xs31 x32).bind fun x84 =>
  some (Sum.inl (xs29.set (Int.toNat x32) xs48, xs31.set (Int.toNat x32) x74, w64 (x32 + 1)))
  else
  (flow_Live_l2 p0 xs31 xs29 true).map Sum.inr
noncomputable def flow_Live_l1 (p0 : TFunc) (xs10 : List (List Bool)) (xs29 : List (List Bool)) (xs31 : List (List Int)) (x32 : Int) : Option (List (List Bool)) := loopO (fun s => flow_Live_l1b p0 xs10 s.1 s.2.1 s.2.2) (xs29, xs31, x32)
noncomputable def flow_Live (p0 : TFunc) : Option (List (List Bool)) :=
  (mk (p0.code.length : Int) ([] : List Bool)).bind fun xs10 =>
  (mk (p0.code.length : Int) ([] : List Int)).bind fun xs19 =>
  flow_Live_l1 p0 xs10 xs10 xs19 0
noncomputable def math_bits_Len64_k3 (x13 : Int) (x14 : Int) : Option Int :=
  (ixS str1 (IntKind.wrap .u8 x13)).bind fun x19 =>
  some (w64 (x14 + (w64 x19)))
noncomputable def math_bits_Len64_k2 (x7 : Int) (x8 : Int) : Option Int :=
  if decide (256 ≤ x7) then
  (shrO .u64 x7 8).bind fun x25 =>
  math_bits_Len64_k3 x25 (w64 (x8 + 8))
  else
  math_bits_Len64_k3 x7 x8
noncomputable def math_bits_Len64_k1 (x1 : Int) (x2 : Int) : Option Int :=
  if decide (65536 ≤ x1) then
  (shrO .u64 x1 16).bind fun x31 =>
  math_bits_Len64_k2 x31 (w64 (x2 + 16))
  else
  math_bits_Len64_k2 x1 x2
noncomputable def math_bits_Len64 (p0 : Int) : Option Int :=
  if decide (4294967296 ≤ p0) then
  (shrO .u64 p0 32).bind fun x37 =>
  math_bits_Len64_k1 x37 32
  else
  math_bits_Len64_k1 p0 0
noncomputable def math_bits_Len (p0 : Int) : Option Int :=
  (math_bits_Len64 p0).bind fun x1 =>
  some x1
noncomputable def flow_Spans_c1 (p0 : Tflow_Span) (p1 : Tflow_Span) : Option Int :=
  if decide (p0.from_ ≠ p1.from_) then
  some (w64 (p0.from_ - p1.from_))
  else
  some (w64 (p0.reg - p1.reg))
noncomputable def s_insertionSort_k1 (x4 : Int) (xs17 : List Tflow_Span) (x18 : Int) (x29 : Bool) : Option (((List Tflow_Span) × Int) ⊕ (((List Tflow_Span) × Int) ⊕ (List Tflow_Span))) :=
  if x29 then
  (ix xs17 (w64 (x18 - 1))).bind fun x36 =>
  (ix xs17 x18).bind fun x50 =>
  (ix xs17 x18).bind fun x59 =>
  (ix (xs17.set (Int.toNat x18) x36) (w64 (x18 - 1))).bind fun x71 =>
  some (Sum.inl ((xs17.set (Int.toNat x18) x36).set (Int.toNat (w64 (x18 - 1))) x50, w64 (x18 - 1)))
  else
  (some (Sum.inl (xs17, w64 (x4 + 1)))).map Sum.inr
noncomputable def s_insertionSort_l2b (p1 : Int) (x4 : Int) (xs17 : List Tflow_Span) (x18 : Int) : Option (((List Tflow_Span) × Int) ⊕ (((List Tflow_Span) × Int) ⊕ (List Tflow_Span))) :=
  if decide (p1 < x18) then
  (ix xs17 x18).bind fun x87 =>
  (ix xs17 (w64 (x18 - 1))).bind fun x101 =>
  (flow_Spans_c1 x87 x101).bind fun x110 =>
  s_insertionSort_k1 x4 xs17 x18 (decide (x110 < 0))
  else
  s_insertionSort_k1 x4 xs17 x18 false
noncomputable def s_insertionSort_l2 (p1 : Int) (x4 : Int) (xs17 : List Tflow_Span) (x18 : Int) : Option (((List Tflow_Span) × Int) ⊕ (List Tflow_Span)) := loopO (fun s => s_insertionSort_l2b p1 x4 s.1 s.2) (xs17, x18)
noncomputable def s_insertionSort_l1b (p1 : Int) (p2 : Int) (xs3 : List Tflow_Span) (x4 : Int) : Option (((List Tflow_Span) × Int) ⊕ (List Tflow_Span)) :=
  if decide (x4 < p2) then
  s_insertionSort_l2 p1 x4 xs3 x4
  else
  (some xs3).map Sum.inr
noncomputable def s_insertionSort_l1 (p1 : Int) (p2 : Int) (xs3 : List Tflow_Span) (x4 : Int) : Option (List Tflow_Span) := loopO (fun s => s_insertionSort_l1b p1 p2 s.1 s.2) (xs3, x4)
noncomputable def s_insertionSort (p0 : List Tflow_Span) (p1 : Int) (p2 : Int) : Option (List Tflow_Span) :=
  s_insertionSort_l1 p1 p2 p0 (w64 (p1 + 1))
noncomputable def s_siftDown_k1 (p3 : Int) (xs3 : List Tflow_Span) (x4 : Int) (x20 : Int) : Option (((List Tflow_Span) × Int) ⊕ (List Tflow_Span)) :=
  (ix xs3 (w64 (p3 + x4))).bind fun x25 =>
  (ix xs3 (w64 (p3 + x20))).bind fun x39 =>
  (flow_Spans_c1 x25 x39).bind fun x48 =>
  if !(decide (x48 < 0)) then
  (some xs3).map Sum.inr
  else
  (ix xs3 (w64 (p3 + x20))).bind fun x63 =>
  (ix xs3 (w64 (p3 + x4))).bind fun x72 =>
  (ix xs3 (w64 (p3 + x4))).bind fun x81 =>
  (ix (xs3.set (Int.toNat (w64 (p3 + x4))) x63) (w64 (p3 + x20))).bind fun x93 =>
  some (Sum.inl ((xs3.set (Int.toNat (w64 (p3 + x4))) x63).set (Int.toNat (w64 (p3 + x20))) x72, x20))
noncomputable def s_siftDown_k2 (p3 : Int) (xs3 : List Tflow_Span) (x4 : Int) (x105 : Bool) : Option (((List Tflow_Span) × Int) ⊕ (List Tflow_Span)) :=
  if x105 then
  s_siftDown_k1 p3 xs3 x4 (w64 ((w64 ((w64 (2 * x4)) + 1)) + 1))
  else
  s_siftDown_k1 p3 xs3 x4 (w64 ((w64 (2 * x4)) + 1))
noncomputable def s_siftDown_l1b (p2 : Int) (p3 : Int) (xs3 : List Tflow_Span) (x4 : Int) : Option (((List Tflow_Span) × Int) ⊕ (List Tflow_Span)) :=
  if decide (p2 ≤ (w64 ((w64 (2 * x4)) + 1))) then
  (some xs3).map Sum.inr
  else
  if decide ((w64 ((w64 ((w64 (2 * x4)) + 1)) + 1)) < p2) then
  (ix xs3 (w64 (p3 + (w64 ((w64 (2 * x4)) + 1))))).bind fun x115 =>
  (ix xs3 (w64 ((w64 (p3 + (w64 ((w64 (2 * x4)) + 1)))) + 1))).bind fun x129 =>
  (flow_Spans_c1 x115 x129).bind fun x138 =>
  s_siftDown_k2 p3 xs3 x4 (decide (x138 < 0))
  else
  s_siftDown_k2 p3 xs3 x4 false
noncomputable def s_siftDown_l1 (p2 : Int) (p3 : Int) (xs3 : List Tflow_Span) (x4 : Int) : Option (List Tflow_Span) := loopO (fun s => s_siftDown_l1b p2 p3 s.1 s.2) (xs3, x4)
noncomputable def s_siftDown (p0 : List Tflow_Span) (p1 : Int) (p2 : Int) (p3 : Int) : Option (List Tflow_Span) :=
  s_siftDown_l1 p2 p3 p0 p1
noncomputable def s_heapSort_l2b (p1 : Int) (xs30 : List Tflow_Span) (x31 : Int) : Option (((List Tflow_Span) × Int) ⊕ (List Tflow_Span)) :=
  if decide (0 ≤ x31) then
  (ix xs30 (w64 (p1 + x31))).bind fun x44 =>
  (ix xs30 p1).bind fun x58 =>
  (ix xs30 p1).bind fun x67 =>
  (ix (xs30.set (Int.toNat p1) x44) (w64 (p1 + x31))).bind fun x79 =>
  (s_siftDown ((xs30.set (Int.toNat p1) x44).set (Int.toNat (w64 (p1 + x31))) x58) 0 x31 p1).bind fun x91 =>
  some (Sum.inl (x91, w64 (x31 - 1)))
  else
  (some xs30).map Sum.inr
noncomputable def s_heapSort_l2 (p1 : Int) (xs30 : List Tflow_Span) (x31 : Int) : Option (List Tflow_Span) := loopO (fun s => s_heapSort_l2b p1 s.1 s.2) (xs30, x31)
noncomputable def s_heapSort_l1b (p1 : Int) (p2 : Int) (xs6 : List Tflow_Span) (x7 : Int) : Option (((List Tflow_Span) × Int) ⊕ (List Tflow_Span)) :=
  if decide (0 ≤ x7) then
  (s_siftDown xs6 x7 (w64 (p2 - p1)) p1).bind fun x20 =>
  some (Sum.inl (x20, w64 (x7 - 1)))
  else
  (s_heapSort_l2 p1 xs6 (w64 ((w64 (p2 - p1)) - 1))).map Sum.inr
noncomputable def s_heapSort_l1 (p1 : Int) (p2 : Int) (xs6 : List Tflow_Span) (x7 : Int) : Option (List Tflow_Span) := loopO (fun s => s_heapSort_l1b p1 p2 s.1 s.2) (xs6, x7)
noncomputable def s_heapSort (p0 : List Tflow_Span) (p1 : Int) (p2 : Int) : Option (List Tflow_Span) :=
  (quoO .i64 (w64 ((w64 (p2 - p1)) - 1)) 2).bind fun x3 =>
  s_heapSort_l1 p1 p2 p0 x3
noncomputable def s_order2 (p0 : List Tflow_Span) (p1 : Int) (p2 : Int) (p3 : Int) : Option (Int × Int × Int) :=
  (ix p0 p2).bind fun x6 =>
  (ix p0 p1).bind fun x20 =>
  (flow_Spans_c1 x6 x20).bind fun x29 =>
  if decide (x29 < 0) then
  some (p2, p1, w64 (p3 + 1))
  else
  some (p1, p2, p3)
noncomputable def s_median (p0 : List Tflow_Span) (p1 : Int) (p2 : Int) (p3 : Int) (p4 : Int) : Option (Int × Int) :=
  (s_order2 p0 p1 p2 p4).bind fun x8 =>
  (s_order2 p0 x8.2.1 p3 x8.2.2).bind fun x18 =>
  (s_order2 p0 x8.1 x18.1 x18.2.2).bind fun x28 =>
  some (x28.2.1, x28.2.2)
noncomputable def s_medianAdjacent (p0 : List Tflow_Span) (p1 : Int) (p2 : Int) : Option (Int × Int) :=
  (s_median p0 (w64 (p1 - 1)) p1 (w64 (p1 + 1)) p2).bind fun x8 =>
  some (x8.1, x8.2)
noncomputable def s_choosePivot_k1 (x17 : Int) (x18 : Int) : Option (Int × Int) :=
  if decide (x17 = 0) then
  some (x18, 1)
  else
  if decide (x17 = 12) then
  some (x18, 2)
  else
  some (x18, 0)
noncomputable def s_choosePivot_k2 (p0 : List Tflow_Span) (x37 : Int) (x38 : Int) (x39 : Int) (x40 : Int) : Option (Int × Int) :=
  (s_median p0 x38 x39 x40 x37).bind fun x47 =>
  s_choosePivot_k1 x47.2 x47.1
noncomputable def s_choosePivot (p0 : List Tflow_Span) (p1 : Int) (p2 : Int) : Option (Int × Int) :=
  (quoO .i64 (w64 (p2 - p1)) 4).bind fun x8 =>
  (quoO .i64 (w64 (p2 - p1)) 4).bind fun x11 =>
  (quoO .i64 (w64 (p2 - p1)) 4).bind fun x14 =>
  if decide (8 ≤ (w64 (p2 - p1))) then
  if decide (50 ≤ (w64 (p2 - p1))) then
  (s_medianAdjacent p0 (w64 (p1 + (w64 (x8 * 1)))) 0).bind fun x58 =>
  (s_medianAdjacent p0 (w64 (p1 + (w64 (x11 * 2)))) x58.2).bind fun x68 =>
  (s_medianAdjacent p0 (w64 (p1 + (w64 (x14 * 3)))) x68.2).bind fun x78 =>
  s_choosePivot_k2 p0 x78.2 x58.1 x68.1 x78.1
  else
  s_choosePivot_k2 p0 0 (w64 (p1 + (w64 (x8 * 1)))) (w64 (p1 + (w64 (x11 * 2)))) (w64 (p1 + (w64 (x14 * 3))))
  else
  s_choosePivot_k1 0 (w64 (p1 + (w64 (x11 * 2))))
noncomputable def s_reverseRange_l1b (xs3 : List Tflow_Span) (x4 : Int) (x5 : Int) : Option (((List Tflow_Span) × Int × Int) ⊕ (List Tflow_Span)) :=
  if decide (x4 < x5) then
  (ix xs3 x5).bind fun x18 =>
  (ix xs3 x4).bind fun x32 =>
  (ix xs3 x4).bind fun x41 =>
  (ix (xs3.set (Int.toNat x4) x18) x5).bind fun x53 =>
  some (Sum.inl ((xs3.set (Int.toNat x4) x18).set (Int.toNat x5) x32, w64 (x4 + 1), w64 (x5 - 1)))
  else
  (some xs3).map Sum.inr
noncomputable def s_reverseRange_l1 (xs3 : List Tflow_Span) (x4 : Int) (x5 : Int) : Option (List Tflow_Span) := loopO (fun s => s_reverseRange_l1b s.1 s.2.1 s.2.2) (xs3, x4, x5)
noncomputable def s_reverseRange (p0 : List Tflow_Span) (p1 : Int) (p2 : Int) : Option (List Tflow_Span) :=
  s_reverseRange_l1 p0 p1 (w64 (p2 - 1))
noncomputable def s_partialInsertionSort_k1 (x5 : Int) (xs18 : List Tflow_Span) (x19 : Int) : Option (((List Tflow_Span) × Int × Int) ⊕ (Bool × (List Tflow_Span))) :=
  some (Sum.inl (xs18, x19, w64 (x5 + 1)))
noncomputable def s_partialInsertionSort_l3b (p2 : Int) (x5 : Int) (x24 : Int) (xs108 : List Tflow_Span) (x109 : Int) : Option (((List Tflow_Span) × Int) ⊕ (((List Tflow_Span) × Int × Int) ⊕ (Bool × (List Tflow_Span)))) :=
  if decide (x109 < p2) then
  (ix xs108 x109).bind fun x122 =>
  (ix xs108 (w64 (x109 - 1))).bind fun x131 =>
  (flow_Spans_c1 x122 x131).bind fun x140 =>
  if !(decide (x140 < 0)) then
  (s_partialInsertionSort_k1 x5 xs108 x24).map Sum.inr
  else
  (ix xs108 (w64 (x109 - 1))).bind fun x154 =>
  (ix xs108 x109).bind fun x163 =>
  (ix xs108 x109).bind fun x172 =>
  (ix (xs108.set (Int.toNat x109) x154) (w64 (x109 - 1))).bind fun x184 =>
  some (Sum.inl ((xs108.set (Int.toNat x109) x154).set (Int.toNat (w64 (x109 - 1))) x163, w64 (x109 + 1)))
  else
  (s_partialInsertionSort_k1 x5 xs108 x24).map Sum.inr
noncomputable def s_partialInsertionSort_l3 (p2 : Int) (x5 : Int) (x24 : Int) (xs108 : List Tflow_Span) (x109 : Int) : Option (((List Tflow_Span) × Int × Int) ⊕ (Bool × (List Tflow_Span))) := loopO (fun s => s_partialInsertionSort_l3b p2 x5 x24 s.1 s.2) (xs108, x109)
noncomputable def s_partialInsertionSort_k3 (p2 : Int) (x5 : Int) (x24 : Int) (xs101 : List Tflow_Span) : Option (((List Tflow_Span) × Int × Int) ⊕ (Bool × (List Tflow_Span))) :=
  if decide (2 ≤ (w64 (p2 - x24))) then
  s_partialInsertionSort_l3 p2 x5 x24 xs101 (w64 (x24 + 1))
  else
  s_partialInsertionSort_k1 x5 xs101 x24
noncomputable def s_partialInsertionSort_l4b (p2 : Int) (x5 : Int) (x24 : Int) (xs201 : List Tflow_Span) (x202 : Int) : Option (((List Tflow_Span) × Int) ⊕ (((List Tflow_Span) × Int × Int) ⊕ (Bool × (List Tflow_Span)))) :=
  if decide (1 ≤ x202) then
  (ix xs201 x202).bind fun x215 =>
  (ix xs201 (w64 (x202 - 1))).bind fun x224 =>
  (flow_Spans_c1 x215 x224).bind fun x233 =>
  if !(decide (x233 < 0)) then
  (s_partialInsertionSort_k3 p2 x5 x24 xs201).map Sum.inr
  else
  (ix xs201 (w64 (x202 - 1))).bind fun x247 =>
  (ix xs201 x202).bind fun x256 =>
  (ix xs201 x202).bind fun x265 =>
  (ix (xs201.set (Int.toNat x202) x247) (w64 (x202 - 1))).bind fun x277 =>
  some (Sum.inl ((xs201.set (Int.toNat x202) x247).set (Int.toNat (w64 (x202 - 1))) x256, w64 (x202 - 1)))
  else
  (s_partialInsertionSort_k3 p2 x5 x24 xs201).map Sum.inr
noncomputable def s_partialInsertionSort_l4 (p2 : Int) (x5 : Int) (x24 : Int) (xs201 : List Tflow_Span) (x202 : Int) : Option (((List Tflow_Span) × Int × Int) ⊕ (Bool × (List Tflow_Span))) := loopO (fun s => s_partialInsertionSort_l4b p2 x5 x24 s.1 s.2) (xs201, x202)
noncomputable def s_partialInsertionSort_k2 (p1 : Int) (p2 : Int) (xs3 : List Tflow_Span) (x5 : Int) (x24 : Int) (x35 : Bool) : Option (Int ⊕ (((List Tflow_Span) × Int × Int) ⊕ (Bool × (List Tflow_Span)))) :=
  if x35 then
  some (Sum.inl (w64 (x24 + 1)))
  else
  (if decide (x24 = p2) then
  (some (true, xs3)).map Sum.inr
  else
  if decide ((w64 (p2 - p1)) < 50) then
  (some (false, xs3)).map Sum.inr
  else
  (ix xs3 (w64 (x24 - 1))).bind fun x54 =>
  (ix xs3 x24).bind fun x68 =>
  (ix xs3 x24).bind fun x77 =>
  (ix (xs3.set (Int.toNat x24) x54) (w64 (x24 - 1))).bind fun x89 =>
  if decide (2 ≤ (w64 (x24 - p1))) then
  s_partialInsertionSort_l4 p2 x5 x24 ((xs3.set (Int.toNat x24) x54).set (Int.toNat (w64 (x24 - 1))) x68) (w64 (x24 - 1))
  else
  s_partialInsertionSort_k3 p2 x5 x24 ((xs3.set (Int.toNat x24) x54).set (Int.toNat (w64 (x24 - 1))) x68)).map Sum.inr
noncomputable def s_partialInsertionSort_l2b (p1 : Int) (p2 : Int) (xs3 : List Tflow_Span) (x5 : Int) (x24 : Int) : Option (Int ⊕ (((List Tflow_Span) × Int × Int) ⊕ (Bool × (List Tflow_Span)))) :=
  if decide (x24 < p2) then
  (ix xs3 x24).bind fun x294 =>
  (ix xs3 (w64 (x24 - 1))).bind fun x308 =>
  (flow_Spans_c1 x294 x308).bind fun x317 =>
  s_partialInsertionSort_k2 p1 p2 xs3 x5 x24 (!(decide (x317 < 0)))
  else
  s_partialInsertionSort_k2 p1 p2 xs3 x5 x24 false
noncomputable def s_partialInsertionSort_l2 (p1 : Int) (p2 : Int) (xs3 : List Tflow_Span) (x5 : Int) (x24 : Int) : Option (((List Tflow_Span) × Int × Int) ⊕ (Bool × (List Tflow_Span))) := loopO (fun s => s_partialInsertionSort_l2b p1 p2 xs3 x5 s) x24
noncomputable def s_partialInsertionSort_l1b (p1 : Int) (p2 : Int) (xs3 : List Tflow_Span) (x4 : Int) (x5 : Int) : Option (((List Tflow_Span) × Int × Int) ⊕ (Bool × (List Tflow_Span))) :=
  if decide (x5 < 5) then
  s_partialInsertionSort_l2 p1 p2 xs3 x5 x4
  else
  (some (false, xs3)).map Sum.inr
noncomputable def s_partialInsertionSort_l1 (p1 : Int) (p2 : Int) (xs3 : List Tflow_Span) (x4 : Int) (x5 : Int) : Option (Bool × (List Tflow_Span)) := loopO (fun s => s_partialInsertionSort_l1b p1 p2 s.1 s.2.1 s.2.2) (xs3, x4, x5)
noncomputable def s_partialInsertionSort (p0 : List Tflow_Span) (p1 : Int) (p2 : Int) : Option (Bool × (List Tflow_Span)) :=
  s_partialInsertionSort_l1 p1 p2 p0 (w64 (p1 + 1)) 0
noncomputable def s_partitionEqual_k2 (xs50 : List Tflow_Span) (x63 : Int) (x83 : Int) (x94 : Bool) : Option (Int ⊕ (((List Tflow_Span) × Int × Int) ⊕ (Int × (List Tflow_Span)))) :=
  if x94 then
  some (Sum.inl (w64 (x83 - 1)))
  else
  (if decide (x83 < x63) then
  (some (x63, xs50)).map Sum.inr
  else
  (ix xs50 x83).bind fun x108 =>
  (ix xs50 x63).bind fun x117 =>
  (ix xs50 x63).bind fun x126 =>
  (ix (xs50.set (Int.toNat x63) x108) x83).bind fun x138 =>
  some (Sum.inl ((xs50.set (Int.toNat x63) x108).set (Int.toNat x83) x117, w64 (x63 + 1), w64 (x83 - 1)))).map Sum.inr
noncomputable def s_partitionEqual_l3b (p1 : Int) (xs50 : List Tflow_Span) (x63 : Int) (x83 : Int) : Option (Int ⊕ (((List Tflow_Span) × Int × Int) ⊕ (Int × (List Tflow_Span)))) :=
  if decide (x63 ≤ x83) then
  (ix xs50 p1).bind fun x152 =>
  (ix xs50 x83).bind fun x161 =>
  (flow_Spans_c1 x152 x161).bind fun x170 =>
  s_partitionEqual_k2 xs50 x63 x83 (decide (x170 < 0))
  else
  s_partitionEqual_k2 xs50 x63 x83 false
noncomputable def s_partitionEqual_l3 (p1 : Int) (xs50 : List Tflow_Span) (x63 : Int) (x83 : Int) : Option (((List Tflow_Span) × Int × Int) ⊕ (Int × (List Tflow_Span))) := loopO (fun s => s_partitionEqual_l3b p1 xs50 x63 s) x83
noncomputable def s_partitionEqual_k1 (p1 : Int) (xs50 : List Tflow_Span) (x52 : Int) (x63 : Int) (x74 : Bool) : Option (Int ⊕ (((List Tflow_Span) × Int × Int) ⊕ (Int × (List Tflow_Span)))) :=
  if x74 then
  some (Sum.inl (w64 (x63 + 1)))
  else
  (s_partitionEqual_l3 p1 xs50 x63 x52).map Sum.inr
noncomputable def s_partitionEqual_l2b (p1 : Int) (xs50 : List Tflow_Span) (x52 : Int) (x63 : Int) : Option (Int ⊕ (((List Tflow_Span) × Int × Int) ⊕ (Int × (List Tflow_Span)))) :=
  if decide (x63 ≤ x52) then
  (ix xs50 p1).bind fun x181 =>
  (ix xs50 x63).bind fun x190 =>
  (flow_Spans_c1 x181 x190).bind fun x199 =>
  s_partitionEqual_k1 p1 xs50 x52 x63 (!(decide (x199 < 0)))
  else
  s_partitionEqual_k1 p1 xs50 x52 x63 false
noncomputable def s_partitionEqual_l2 (p1 : Int) (xs50 : List Tflow_Span) (x52 : Int) (x63 : Int) : Option (((List Tflow_Span) × Int × Int) ⊕ (Int × (List Tflow_Span))) := loopO (fun s => s_partitionEqual_l2b p1 xs50 x52 s) x63
noncomputable def s_partitionEqual_l1b (p1 : Int) (xs50 : List Tflow_Span) (x51 : Int) (x52 : Int) : Option (((List Tflow_Span) × Int × Int) ⊕ (Int × (List Tflow_Span))) :=
  s_partitionEqual_l2 p1 xs50 x52 x51
noncomputable def s_partitionEqual_l1 (p1 : Int) (xs50 : List Tflow_Span) (x51 : Int) (x52 : Int) : Option (Int × (List Tflow_Span)) := loopO (fun s => s_partitionEqual_l1b p1 s.1 s.2.1 s.2.2) (xs50, x51, x52)
noncomputable def s_partitionEqual (p0 : List Tflow_Span) (p1 : Int) (p2 : Int) (p3 : Int) : Option (Int × (List Tflow_Span)) :=
  (ix p0 p3).bind fun x3 =>
  (ix p0 p1).bind fun x17 =>
  (ix p0 p1).bind fun x26 =>
  (ix (p0.set (Int.toNat p1) x3) p3).bind fun x38 =>
  s_partitionEqual_l1 p1 ((p0.set (Int.toNat p1) x3).set (Int.toNat p3) x17) (w64 (p1 + 1)) (w64 (p2 - 1))
noncomputable def s_partition_k4 (p1 : Int) (xs178 : List Tflow_Span) (x191 : Int) (x211 : Int) (x222 : Bool) : Option (Int ⊕ (((List Tflow_Span) × Int × Int) ⊕ (Int × Bool × (List Tflow_Span)))) :=
  if x222 then
  some (Sum.inl (w64 (x211 - 1)))
  else
  (if decide (x211 < x191) then
  ((ix xs178 p1).bind fun x234 =>
  (ix xs178 x211).bind fun x243 =>
  (ix xs178 x211).bind fun x252 =>
  (ix (xs178.set (Int.toNat x211) x234) p1).bind fun x264 =>
  some (x211, false, (xs178.set (Int.toNat x211) x234).set (Int.toNat p1) x243)).map Sum.inr
  else
  (ix xs178 x211).bind fun x278 =>
  (ix xs178 x191).bind fun x287 =>
  (ix xs178 x191).bind fun x296 =>
  (ix (xs178.set (Int.toNat x191) x278) x211).bind fun x308 =>
  some (Sum.inl ((xs178.set (Int.toNat x191) x278).set (Int.toNat x211) x287, w64 (x191 + 1), w64 (x211 - 1)))).map Sum.inr
noncomputable def s_partition_l5b (p1 : Int) (xs178 : List Tflow_Span) (x191 : Int) (x211 : Int) : Option (Int ⊕ (((List Tflow_Span) × Int × Int) ⊕ (Int × Bool × (List Tflow_Span)))) :=
  if decide (x191 ≤ x211) then
  (ix xs178 x211).bind fun x322 =>
  (ix xs178 p1).bind fun x331 =>
  (flow_Spans_c1 x322 x331).bind fun x340 =>
  s_partition_k4 p1 xs178 x191 x211 (!(decide (x340 < 0)))
  else
  s_partition_k4 p1 xs178 x191 x211 false
noncomputable def s_partition_l5 (p1 : Int) (xs178 : List Tflow_Span) (x191 : Int) (x211 : Int) : Option (((List Tflow_Span) × Int × Int) ⊕ (Int × Bool × (List Tflow_Span))) := loopO (fun s => s_partition_l5b p1 xs178 x191 s) x211
noncomputable def s_partition_k3 (p1 : Int) (xs178 : List Tflow_Span) (x180 : Int) (x191 : Int) (x202 : Bool) : Option (Int ⊕ (((List Tflow_Span) × Int × Int) ⊕ (Int × Bool × (List Tflow_Span)))) :=
  if x202 then
  some (Sum.inl (w64 (x191 + 1)))
  else
  (s_partition_l5 p1 xs178 x191 x180).map Sum.inr
noncomputable def s_partition_l4b (p1 : Int) (xs178 : List Tflow_Span) (x180 : Int) (x191 : Int) : Option (Int ⊕ (((List Tflow_Span) × Int × Int) ⊕ (Int × Bool × (List Tflow_Span)))) :=
  if decide (x191 ≤ x180) then
  (ix xs178 x191).bind fun x351 =>
  (ix xs178 p1).bind fun x360 =>
  (flow_Spans_c1 x351 x360).bind fun x369 =>
  s_partition_k3 p1 xs178 x180 x191 (decide (x369 < 0))
  else
  s_partition_k3 p1 xs178 x180 x191 false
noncomputable def s_partition_l4 (p1 : Int) (xs178 : List Tflow_Span) (x180 : Int) (x191 : Int) : Option (((List Tflow_Span) × Int × Int) ⊕ (Int × Bool × (List Tflow_Span))) := loopO (fun s => s_partition_l4b p1 xs178 x180 s) x191
noncomputable def s_partition_l3b (p1 : Int) (xs178 : List Tflow_Span) (x179 : Int) (x180 : Int) : Option (((List Tflow_Span) × Int × Int) ⊕ (Int × Bool × (List Tflow_Span))) :=
  s_partition_l4 p1 xs178 x180 x179
noncomputable def s_partition_l3 (p1 : Int) (xs178 : List Tflow_Span) (x179 : Int) (x180 : Int) : Option (Int × Bool × (List Tflow_Span)) := loopO (fun s => s_partition_l3b p1 s.1 s.2.1 s.2.2) (xs178, x179, x180)
noncomputable def s_partition_k2 (p0 : List Tflow_Span) (p1 : Int) (p3 : Int) (x3 : Tflow_Span) (x17 : Tflow_Span) (x50 : Int) (x70 : Int) (x81 : Bool) : Option (Int ⊕ (Int × Bool × (List Tflow_Span))) :=
  if x81 then
  some (Sum.inl (w64 (x70 - 1)))
  else
  (if decide (x70 < x50) then
  (ix ((p0.set (Int.toNat p1) x3).set (Int.toNat p3) x17) p1).bind fun x92 =>
  (ix ((p0.set (Int.toNat p1) x3).set (Int.toNat p3) x17) x70).bind fun x101 =>
  (ix ((p0.set (Int.toNat p1) x3).set (Int.toNat p3) x17) x70).bind fun x110 =>
  (ix (((p0.set (Int.toNat p1) x3).set (Int.toNat p3) x17).set (Int.toNat x70) x92) p1).bind fun x122 =>
  some (x70, true, (((p0.set (Int.toNat p1) x3).set (Int.toNat p3) x17).set (Int.toNat x70) x92).set (Int.toNat p1) x101)
  else
  (ix ((p0.set (Int.toNat p1) x3).set (Int.toNat p3) x17) x70).bind fun x136 =>
  (ix ((p0.set (Int.toNat p1) x3).set (Int.toNat p3) x17) x50).bind fun x145 =>
  (ix ((p0.set (Int.toNat p1) x3).set (Int.toNat p3) x17) x50).bind fun x154 =>
  (ix (((p0.set (Int.toNat p1) x3).set (Int.toNat p3) x17).set (Int.toNat x50) x136) x70).bind fun x166 =>
  s_partition_l3 p1 ((((p0.set (Int.toNat p1) x3).set (Int.toNat p3) x17).set (Int.toNat x50) x136).set (Int.toNat x70) x145) (w64 (x50 + 1)) (w64 (x70 - 1))).map Sum.inr
noncomputable def s_partition_l2b (p0 : List Tflow_Span) (p1 : Int) (p3 : Int) (x3 : Tflow_Span) (x17 : Tflow_Span) (x50 : Int) (x70 : Int) : Option (Int ⊕ (Int × Bool × (List Tflow_Span))) :=
  if decide (x50 ≤ x70) then
  (ix ((p0.set (Int.toNat p1) x3).set (Int.toNat p3) x17) x70).bind fun x380 =>
  (ix ((p0.set (Int.toNat p1) x3).set (Int.toNat p3) x17) p1).bind fun x389 =>
  (flow_Spans_c1 x380 x389).bind fun x398 =>
  s_partition_k2 p0 p1 p3 x3 x17 x50 x70 (!(decide (x398 < 0)))
  else
  s_partition_k2 p0 p1 p3 x3 x17 x50 x70 false
noncomputable def s_partition_l2 (p0 : List Tflow_Span) (p1 : Int) (p3 : Int) (x3 : Tflow_Span) (x17 : Tflow_Span) (x50 : Int) (x70 : Int) : Option (Int × Bool × (List Tflow_Span)) := loopO (fun s => s_partition_l2b p0 p1 p3 x3 x17 x50 s) x70
noncomputable def s_partition_k1 (p0 : List Tflow_Span) (p1 : Int) (p2 : Int) (p3 : Int) (x3 : Tflow_Span) (x17 : Tflow_Span) (x50 : Int) (x61 : Bool) : Option (Int ⊕ (Int × Bool × (List Tflow_Span))) :=
  if x61 then
  some (Sum.inl (w64 (x50 + 1)))
  else
  (s_partition_l2 p0 p1 p3 x3 x17 x50 (w64 (p2 - 1))).map Sum.inr
noncomputable def s_partition_l1b (p0 : List Tflow_Span) (p1 : Int) (p2 : Int) (p3 : Int) (x3 : Tflow_Span) (x17 : Tflow_Span) (x50 : Int) : Option (Int ⊕ (Int × Bool × (List Tflow_Span))) :=
  if decide (x50 ≤ (w64 (p2 - 1))) then
  (ix ((p0.set (Int.toNat p1) x3).set (Int.toNat p3) x17) x50).bind fun x409 =>
  (ix ((p0.set (Int.toNat p1) x3).set (Int.toNat p3) x17) p1).bind fun x418 =>
  (flow_Spans_c1 x409 x418).bind fun x427 =>
  s_partition_k1 p0 p1 p2 p3 x3 x17 x50 (decide (x427 < 0))
  else
  s_partition_k1 p0 p1 p2 p3 x3 x17 x50 false
noncomputable def s_partition_l1 (p0 : List Tflow_Span) (p1 : Int) (p2 : Int) (p3 : Int) (x3 : Tflow_Span) (x17 : Tflow_Span) (x50 : Int) : Option (Int × Bool × (List Tflow_Span)) := loopO (fun s => s_partition_l1b p0 p1 p2 p3 x3 x17 s) x50
noncomputable def s_partition (p0 : List Tflow_Span) (p1 : Int) (p2 : Int) (p3 : Int) : Option (Int × Bool × (List Tflow_Span)) :=
  (ix p0 p3).bind fun x3 =>
  (ix p0 p1).bind fun x17 =>
  (ix p0 p1).bind fun x26 =>
  (ix (p0.set (Int.toNat p1) x3) p3).bind fun x38 =>
  s_partition_l1 p0 p1 p2 p3 x3 x17 (w64 (p1 + 1))
noncomputable def slices_nextPowerOfTwo (p0 : Int) : Option Int :=
  (math_bits_Len (IntKind.wrap .u64 p0)).bind fun x1 =>
  (shlO .u64 1 x1).bind fun x9 =>
  some x9
noncomputable def slices_xorshift_Next (p0 : Int) : Option (Int × Int) :=
  (shlO .u64 p0 13).bind fun x4 =>
  (shrO .u64 (xorB .u64 p0 x4) 7).bind fun x10 =>
  (shlO .u64 (xorB .u64 (xorB .u64 p0 x4) x10) 17).bind fun x16 =>
  some (xorB .u64 (xorB .u64 (xorB .u64 p0 x4) x10) x16, xorB .u64 (xorB .u64 (xorB .u64 p0 x4) x10) x16)
noncomputable def s_breakPatterns_k1 (p1 : Int) (xs24 : List Tflow_Span) (x26 : Int) (x45 : Int × Int) (x53 : Int) : Option (((List Tflow_Span) × Int × Int) ⊕ (List Tflow_Span)) :=
  (ix xs24 (w64 (p1 + x53))).bind fun x58 =>
  (ix xs24 x26).bind fun x72 =>
  (ix xs24 x26).bind fun x81 =>
  (ix (xs24.set (Int.toNat x26) x58) (w64 (p1 + x53))).bind fun x93 =>
  some (Sum.inl ((xs24.set (Int.toNat x26) x58).set (Int.toNat (w64 (p1 + x53))) x72, x45.2, w64 (x26 + 1)))
noncomputable def s_breakPatterns_l1b (p1 : Int) (p2 : Int) (x13 : Int) (xs24 : List Tflow_Span) (x25 : Int) (x26 : Int) : Option (((List Tflow_Span) × Int × Int) ⊕ (List Tflow_Span)) :=
  (quoO .i64 (w64 (p2 - p1)) 4).bind fun x39 =>
  if decide (x26 ≤ (w64 ((w64 (p1 + (w64 (x39 * 2)))) + 1))) then
  (slices_xorshift_Next x25).bind fun x45 =>
  if decide ((w64 (p2 - p1)) ≤ (w64 (andB .u64 x45.1 (IntKind.wrap .u64 (x13 - 1))))) then
  s_breakPatterns_k1 p1 xs24 x26 x45 (w64 ((w64 (andB .u64 x45.1 (IntKind.wrap .u64 (x13 - 1)))) - (w64 (p2 - p1))))
  else
  s_breakPatterns_k1 p1 xs24 x26 x45 (w64 (andB .u64 x45.1 (IntKind.wrap .u64 (x13 - 1))))
  else
  (some xs24).map Sum.inr
noncomputable def s_breakPatterns_l1 (p1 : Int) (p2 : Int) (x13 : Int) (xs24 : List Tflow_Span) (x25 : Int) (x26 : Int) : Option (List Tflow_Span) := loopO (fun s => s_breakPatterns_l1b p1 p2 x13 s.1 s.2.1 s.2.2) (xs24, x25, x26)
noncomputable def s_breakPatterns (p0 : List Tflow_Span) (p1 : Int) (p2 : Int) : Option (List Tflow_Span) :=
  if decide (8 ≤ (w64 (p2 - p1))) then
  (slices_nextPowerOfTwo (w64 (p2 - p1))).bind fun x13 =>
  (quoO .i64 (w64 (p2 - p1)) 4).bind fun x21 =>
  s_breakPatterns_l1 p1 p2 x13 p0 (IntKind.wrap .u64 (w64 (p2 - p1))) (w64 ((w64 (p1 + (w64 (x21 * 2)))) - 1))
  else
  some p0
noncomputable def s_pdqsort_k4 (rec_ : (List Tflow_Span) → Int → Int → Int → Option (List Tflow_Span)) (x4 : Int) (x5 : Int) (x7 : Bool) (x8 : Bool) (x46 : Int) (x60 : Int) (xs66 : List Tflow_Span) (x71 : Bool) : Option (((List Tflow_Span) × Int × Int × Int × Bool × Bool) ⊕ (List Tflow_Span)) :=
  if x71 then
  (s_partitionEqual xs66 x4 x5 x60).bind fun x78 =>
  some (Sum.inl (x78.2, x78.1, x5, x46, x7, x8))
  else
  (s_partition xs66 x4 x5 x60).bind fun x87 =>
  (quoO .i64 (w64 (x5 - x4)) 8).bind fun x95 =>
  if decide ((w64 (x87.1 - x4)) < (w64 (x5 - x87.1))) then
  (rec_ x87.2.2 x4 x87.1 x46).bind fun x100 =>
  some (Sum.inl (x100, w64 (x87.1 + 1), x5, x46, decide (x95 ≤ (w64 (x87.1 - x4))), x87.2.1))
  else
  (rec_ x87.2.2 (w64 (x87.1 + 1)) x5 x46).bind fun x109 =>
  some (Sum.inl (x109, x4, x87.1, x46, decide (x95 ≤ (w64 (x5 - x87.1))), x87.2.1))
noncomputable def s_pdqsort_k3 (rec_ : (List Tflow_Span) → Int → Int → Int → Option (List Tflow_Span)) (x4 : Int) (x5 : Int) (x7 : Bool) (x8 : Bool) (x46 : Int) (x60 : Int) (xs66 : List Tflow_Span) : Option (((List Tflow_Span) × Int × Int × Int × Bool × Bool) ⊕ (List Tflow_Span)) :=
  if decide (0 < x4) then
  (ix xs66 (w64 (x4 - 1))).bind fun x119 =>
  (ix xs66 x60).bind fun x133 =>
  (flow_Spans_c1 x119 x133).bind fun x142 =>
  s_pdqsort_k4 rec_ x4 x5 x7 x8 x46 x60 xs66 (!(decide (x142 < 0)))
  else
  s_pdqsort_k4 rec_ x4 x5 x7 x8 x46 x60 xs66 false
noncomputable def s_pdqsort_k2 (rec_ : (List Tflow_Span) → Int → Int → Int → Option (List Tflow_Span)) (x4 : Int) (x5 : Int) (x7 : Bool) (x8 : Bool) (x46 : Int) (xs59 : List Tflow_Span) (x60 : Int) (x61 : Int) : Option (((List Tflow_Span) × Int × Int × Int × Bool × Bool) ⊕ (List Tflow_Span)) :=
  if (x7 && x8) && (decide (x61 = 1)) then
  (s_partialInsertionSort xs59 x4 x5).bind fun x162 =>
  if x162.1 then
  (some x162.2).map Sum.inr
  else
  s_pdqsort_k3 rec_ x4 x5 x7 x8 x46 x60 x162.2
  else
  s_pdqsort_k3 rec_ x4 x5 x7 x8 x46 x60 xs59
noncomputable def s_pdqsort_k1 (rec_ : (List Tflow_Span) → Int → Int → Int → Option (List Tflow_Span)) (x4 : Int) (x5 : Int) (x7 : Bool) (x8 : Bool) (xs45 : List Tflow_Span) (x46 : Int) : Option (((List Tflow_Span) × Int × Int × Int × Bool × Bool) ⊕ (List Tflow_Span)) :=
  (s_choosePivot xs45 x4 x5).bind fun x51 =>
  if decide (x51.2 = 2) then
  (s_reverseRange xs45 x4 x5).bind fun x180 =>
  s_pdqsort_k2 rec_ x4 x5 x7 x8 x46 x180 (w64 ((w64 (x5 - 1)) - (w64 (x51.1 - x4)))) 1
  else
  s_pdqsort_k2 rec_ x4 x5 x7 x8 x46 xs45 x51.1 x51.2
noncomputable def s_pdqsort_l1b (rec_ : (List Tflow_Span) → Int → Int → Int → Option (List Tflow_Span)) (xs3 : List Tflow_Span) (x4 : Int) (x5 : Int) (x6 : Int) (x7 : Bool) (x8 : Bool) : Option (((List Tflow_Span) × Int × Int × Int × Bool × Bool) ⊕ (List Tflow_Span)) :=
  if decide ((w64 (x5 - x4)) ≤ 12) then
  (s_insertionSort xs3 x4 x5).bind fun x21 =>
  (some x21).map Sum.inr
  else
  if decide (x6 = 0) then
  (s_heapSort xs3 x4 x5).bind fun x34 =>
  (some x34).map Sum.inr
  else
  if !x7 then
  (s_breakPatterns xs3 x4 x5).bind fun x192 =>
  s_pdqsort_k1 rec_ x4 x5 x7 x8 x192 (w64 (x6 - 1))
  else
  s_pdqsort_k1 rec_ x4 x5 x7 x8 xs3 x6
noncomputable def s_pdqsort_l1 (rec_ : (List Tflow_Span) → Int → Int → Int → Option (List Tflow_Span)) (xs3 : List Tflow_Span) (x4 : Int) (x5 : Int) (x6 : Int) (x7 : Bool) (x8 : Bool) : Option (List Tflow_Span) := loopO (fun s => s_pdqsort_l1b rec_ s.1 s.2.1 s.2.2.1 s.2.2.2.1 s.2.2.2.2.1 s.2.2.2.2.2) (xs3, x4, x5, x6, x7, x8)
noncomputable def s_pdqsort_F (rec_ : (List Tflow_Span) → Int → Int → Int → Option (List Tflow_Span)) (p0 : List Tflow_Span) (p1 : Int) (p2 : Int) (p3 : Int) : Option (List Tflow_Span) :=
  s_pdqsort_l1 rec_ p0 p1 p2 p3 true true
noncomputable def s_pdqsort (p0 : List Tflow_Span) (p1 : Int) (p2 : Int) (p3 : Int) : Option (List Tflow_Span) := recO (fun rec_ a => s_pdqsort_F (fun p0 p1 p2 p3 => rec_ (p0, p1, p2, p3)) a.1 a.2.1 a.2.2.1 a.2.2.2) (p0, p1, p2, p3)
noncomputable def slices_SortFunc (p0 : List Tflow_Span) : Option (List Tflow_Span) :=
  (math_bits_Len (IntKind.wrap .u64 (p0.length : Int))).bind fun x3 =>
  (s_pdqsort p0 0 (p0.length : Int) x3).bind fun x11 =>
  some x11
noncomputable def flow_Spans_k1 (x94 : Int) (xs109 : List Tflow_Span) : Option (((List Tflow_Span) × Int) ⊕ (((List Tflow_Span) × Int) ⊕ (List Tflow_Span))) :=
  some (Sum.inl (xs109, w64 (x94 + 1)))
noncomputable def flow_Spans_k2 (x201 : Int) (xs222 : List Tflow_Span) : Option (((List Tflow_Span) × Int) ⊕ (((List Tflow_Span) × Int) ⊕ (List Tflow_Span))) :=
  some (Sum.inl (xs222, w64 (x201 + 1)))
noncomputable def flow_Spans_l4b (x59 : Int) (xs190 : List Int) (xs200 : List Tflow_Span) (x201 : Int) : Option (((List Tflow_Span) × Int) ⊕ (((List Tflow_Span) × Int) ⊕ (List Tflow_Span))) :=
  if decide (x201 < (xs190.length : Int)) then
  (ix xs190 x201).bind fun x227 =>
  if decide (0 ≤ x227) then
  (flow_grow xs200 x227 x59).bind fun x244 =>
  flow_Spans_k2 x201 x244
  else
  flow_Spans_k2 x201 xs200
  else
  (some (Sum.inl (xs200, w64 (x59 + 1)))).map Sum.inr
noncomputable def flow_Spans_l4 (x59 : Int) (xs190 : List Int) (xs200 : List Tflow_Span) (x201 : Int) : Option (((List Tflow_Span) × Int) ⊕ (List Tflow_Span)) := loopO (fun s => flow_Spans_l4b x59 xs190 s.1 s.2) (xs200, x201)
noncomputable def flow_Spans_l3b (p0 : TFunc) (x59 : Int) (x75 : List Bool) (xs93 : List Tflow_Span) (x94 : Int) : Option (((List Tflow_Span) × Int) ⊕ (((List Tflow_Span) × Int) ⊕ (List Tflow_Span))) :=
  if decide (x94 < (x75.length : Int)) then
  (ix x75 x94).bind fun x114 =>
  if x114 then
  (flow_grow xs93 x94 x59).bind fun x128 =>
  flow_Spans_k1 x94 x128
  else
  flow_Spans_k1 x94 xs93
  else
  ((ix p0.code x59).bind fun x144 =>
  (ir_Uses x144).bind fun x166 =>
  (ir_Def x144).bind fun x177 =>
  (apw x166 [x177]).bind fun xs190 =>
  flow_Spans_l4 x59 xs190 xs93 0).map Sum.inr
noncomputable def flow_Spans_l3 (p0 : TFunc) (x59 : Int) (x75 : List Bool) (xs93 : List Tflow_Span) (x94 : Int) : Option (((List Tflow_Span) × Int) ⊕ (List Tflow_Span)) := loopO (fun s => flow_Spans_l3b p0 x59 x75 s.1 s.2) (xs93, x94)
noncomputable def flow_Spans_l2b (p0 : TFunc) (x46 : List (List Bool)) (xs58 : List Tflow_Span) (x59 : Int) : Option (((List Tflow_Span) × Int) ⊕ (List Tflow_Span)) :=
  if decide (x59 < (x46.length : Int)) then
  (ix x46 x59).bind fun x75 =>
  flow_Spans_l3 p0 x59 x75 xs58 0
  else
  ((slices_SortFunc xs58).bind fun x265 =>
  some x265).map Sum.inr
noncomputable def flow_Spans_l2 (p0 : TFunc) (x46 : List (List Bool)) (xs58 : List Tflow_Span) (x59 : Int) : Option (List Tflow_Span) := loopO (fun s => flow_Spans_l2b p0 x46 s.1 s.2) (xs58, x59)
noncomputable def flow_Spans_l1b (p0 : TFunc) (xs12 : List Tflow_Span) (x13 : Int) : Option (((List Tflow_Span) × Int) ⊕ (List Tflow_Span)) :=
  if decide (x13 < p0.params) then
  (flow_grow xs12 x13 0).bind fun x31 =>
  some (Sum.inl (x31, w64 (x13 + 1)))
  else
  ((flow_Live p0).bind fun x46 =>
  flow_Spans_l2 p0 x46 xs12 0).map Sum.inr
noncomputable def flow_Spans_l1 (p0 : TFunc) (xs12 : List Tflow_Span) (x13 : Int) : Option (List Tflow_Span) := loopO (fun s => flow_Spans_l1b p0 s.1 s.2) (xs12, x13)
noncomputable def flow_Spans (p0 : TFunc) : Option (List Tflow_Span) :=
  flow_Spans_l1 p0 [] 0
noncomputable def regs_scan_expire_c1 (p0 : Tflow_Span) (p1 : Int) (p2 : Tregs_scan) : Option (Bool × Tregs_scan) :=
  if decide (p0.to_ < p1) then
  (ix p2.at_ p0.reg).bind fun x23 =>
  (ix p2.free x23).bind fun x37 =>
  some (true, (⟨p2.at_, [], p2.free.set (Int.toNat x23) true, p2.spills⟩ : Tregs_scan))
  else
  some (false, (⟨p2.at_, [], p2.free, p2.spills⟩ : Tregs_scan))
noncomputable def slices_IndexFunc_4_l1b (p0 : List Tflow_Span) (p1_10 : Int) (xs18 : List Int) (xs20 : List Bool) (x21 : Int) (x22 : Int) : Option (((List Int) × (List Bool) × Int × Int) ⊕ (Int × Tregs_scan)) :=
  if decide (x22 < (p0.length : Int)) then
  (ix p0 x22).bind fun x35 =>
  (regs_scan_expire_c1 x35 p1_10 (⟨xs18, [], xs20, x21⟩ : Tregs_scan)).bind fun x54 =>
  if x54.1 then
  (some (x22, (⟨x54.2.at_, [], x54.2.free, x54.2.spills⟩ : Tregs_scan))).map Sum.inr
  else
  some (Sum.inl (x54.2.at_, x54.2.free, x54.2.spills, w64 (x22 + 1)))
  else
  (some ((-1), (⟨xs18, [], xs20, x21⟩ : Tregs_scan))).map Sum.inr
noncomputable def slices_IndexFunc_4_l1 (p0 : List Tflow_Span) (p1_10 : Int) (xs18 : List Int) (xs20 : List Bool) (x21 : Int) (x22 : Int) : Option (Int × Tregs_scan) := loopO (fun s => slices_IndexFunc_4_l1b p0 p1_10 s.1 s.2.1 s.2.2.1 s.2.2.2) (xs18, xs20, x21, x22)
noncomputable def slices_IndexFunc_4 (p0 : List Tflow_Span) (p1_10 : Int) (p1_11 : Tregs_scan) : Option (Int × Tregs_scan) :=
  slices_IndexFunc_4_l1 p0 p1_10 p1_11.at_ p1_11.free p1_11.spills 0
noncomputable def slices_DeleteFunc_k1 (x45 : Int) (xs58 : List Tflow_Span) (xs59 : List Int) (xs61 : List Bool) (x62 : Int) (x63 : Int) : Option (((List Tflow_Span) × (List Int) × (List Bool) × Int × Int × Int) ⊕ ((List Tflow_Span) × Tregs_scan)) :=
  some (Sum.inl (xs58, xs59, xs61, x62, x63, w64 (x45 + 1)))
noncomputable def slices_DeleteFunc_l1b (p1_10 : Int) (xs39 : List Tflow_Span) (xs40 : List Int) (xs42 : List Bool) (x43 : Int) (x44 : Int) (x45 : Int) : Option (((List Tflow_Span) × (List Int) × (List Bool) × Int × Int × Int) ⊕ ((List Tflow_Span) × Tregs_scan)) :=
  if decide (x45 < (xs39.length : Int)) then
  (ix xs39 x45).bind fun x68 =>
  (regs_scan_expire_c1 x68 p1_10 (⟨xs40, [], xs42, x43⟩ : Tregs_scan)).bind fun x95 =>
  if !x95.1 then
  (ix xs39 x44).bind fun x107 =>
  slices_DeleteFunc_k1 x45 (xs39.set (Int.toNat x44) x68) x95.2.at_ x95.2.free x95.2.spills (w64 (x44 + 1))
  else
  slices_DeleteFunc_k1 x45 xs39 x95.2.at_ x95.2.free x95.2.spills x44
  else
  ((cutL xs39 0 x44).bind fun xs137 =>
  some (xs137, (⟨xs40, [], xs42, x43⟩ : Tregs_scan))).map Sum.inr
noncomputable def slices_DeleteFunc_l1 (p1_10 : Int) (xs39 : List Tflow_Span) (xs40 : List Int) (xs42 : List Bool) (x43 : Int) (x44 : Int) (x45 : Int) : Option ((List Tflow_Span) × Tregs_scan) := loopO (fun s => slices_DeleteFunc_l1b p1_10 s.1 s.2.1 s.2.2.1 s.2.2.2.1 s.2.2.2.2.1 s.2.2.2.2.2) (xs39, xs40, xs42, x43, x44, x45)
noncomputable def slices_DeleteFunc (p0 : List Tflow_Span) (p1_10 : Int) (p1_11 : Tregs_scan) : Option ((List Tflow_Span) × Tregs_scan) :=
  (slices_IndexFunc_4 p0 p1_10 (⟨p1_11.at_, [], p1_11.free, p1_11.spills⟩ : Tregs_scan)).bind fun x26 =>
  if decide (x26.1 = (-1)) then
  some (p0, (⟨x26.2.at_, [], x26.2.free, x26.2.spills⟩ : Tregs_scan))
  else
  slices_DeleteFunc_l1 p1_10 p0 x26.2.at_ x26.2.free x26.2.spills x26.1 (w64 (x26.1 + 1))
noncomputable def regs_scan_expire (p0 : Tregs_scan) (p1 : Int) : Option Tregs_scan :=
  (slices_DeleteFunc p0.active p1 (⟨p0.at_, [], p0.free, p0.spills⟩ : Tregs_scan)).bind fun x28 =>
  some (⟨x28.2.at_, x28.1, x28.2.free, x28.2.spills⟩ : Tregs_scan)
noncomputable def slices_Index_2_l1b (p0 : List Bool) (p1 : Bool) (x3 : Int) : Option (Int ⊕ Int) :=
  if decide (x3 < (p0.length : Int)) then
  (ix p0 x3).bind fun x16 =>
  if p1 == x16 then
  (some x3).map Sum.inr
  else
  some (Sum.inl (w64 (x3 + 1)))
  else
  (some (-1)).map Sum.inr
noncomputable def slices_Index_2_l1 (p0 : List Bool) (p1 : Bool) (x3 : Int) : Option Int := loopO (fun s => slices_Index_2_l1b p0 p1 s) x3
noncomputable def slices_Index_2 (p0 : List Bool) (p1 : Bool) : Option Int :=
  slices_Index_2_l1 p0 p1 0
noncomputable def regs_scan_spill (p0 : Tregs_scan) : Option (Int × Tregs_scan) :=
  some (w64 ((w64 (10 + (w64 (p0.spills + 1)))) - 1), (⟨p0.at_, p0.active, p0.free, w64 (p0.spills + 1)⟩ : Tregs_scan))
noncomputable def regs_scan_put_k1 (x87 : Int) (x105 : Int) : Option ((Int × Int) ⊕ Tregs_scan) :=
  some (Sum.inl (x105, w64 (x87 + 1)))
noncomputable def regs_scan_put_l1b (p0 : Tregs_scan) (p1 : Tflow_Span) (x86 : Int) (x87 : Int) : Option ((Int × Int) ⊕ Tregs_scan) :=
  if decide (x87 < (p0.active.length : Int)) then
  (ix p0.active x87).bind fun x110 =>
  (ix p0.active x86).bind fun x132 =>
  if decide (x132.to_ < x110.to_) then
  regs_scan_put_k1 x87 x87
  else
  regs_scan_put_k1 x87 x86
  else
  ((ix p0.active x86).bind fun x148 =>
  if decide (p1.to_ < x148.to_) then
  (ix p0.at_ x148.reg).bind fun x172 =>
  (ix p0.at_ p1.reg).bind fun x186 =>
  (regs_scan_spill (⟨p0.at_.set (Int.toNat p1.reg) x172, p0.active, p0.free, p0.spills⟩ : Tregs_scan)).bind fun x202 =>
  (ix x202.2.at_ x148.reg).bind fun x210 =>
  (ix x202.2.active x86).bind fun x222 =>
  some (⟨x202.2.at_.set (Int.toNat x148.reg) x202.1, x202.2.active.set (Int.toNat x86) p1, x202.2.free, x202.2.spills⟩ : Tregs_scan)
  else
  (regs_scan_spill p0).bind fun x242 =>
  (ix x242.2.at_ p1.reg).bind fun x250 =>
  some (⟨x242.2.at_.set (Int.toNat p1.reg) x242.1, x242.2.active, x242.2.free, x242.2.spills⟩ : Tregs_scan)).map Sum.inr
noncomputable def regs_scan_put_l1 (p0 : Tregs_scan) (p1 : Tflow_Span) (x86 : Int) (x87 : Int) : Option Tregs_scan := loopO (fun s => regs_scan_put_l1b p0 p1 s.1 s.2) (x86, x87)
noncomputable def regs_scan_put (p0 : Tregs_scan) (p1 : Tflow_Span) : Option Tregs_scan :=
  (slices_Index_2 p0.free true).bind fun x18 =>
  if decide (0 ≤ x18) then
  (ix p0.free x18).bind fun x28 =>
  (ix p0.at_ p1.reg).bind fun x45 =>
  (ap p0.active [p1]).bind fun xs67 =>
  some (⟨p0.at_.set (Int.toNat p1.reg) x18, xs67, p0.free.set (Int.toNat x18) false, p0.spills⟩ : Tregs_scan)
  else
  regs_scan_put_l1 p0 p1 0 0
noncomputable def regs_Assign_l3b (x108 : List Tflow_Span) (xs118 : List Int) (xs121 : List Tflow_Span) (xs122 : List Bool) (x123 : Int) (x124 : Int) : Option (((List Int) × (List Tflow_Span) × (List Bool) × Int × Int) ⊕ Tregs_Map) :=
  if decide (x124 < (x108.length : Int)) then
  (ix x108 x124).bind fun x146 =>
  (regs_scan_expire (⟨xs118, xs121, xs122, x123⟩ : Tregs_scan) x146.from_).bind fun x172 =>
  (regs_scan_put x172 x146).bind fun x186 =>
  some (Sum.inl (x186.at_, x186.active, x186.free, x186.spills, w64 (x124 + 1)))
  else
  (some (⟨xs118, x123⟩ : Tregs_Map)).map Sum.inr
noncomputable def regs_Assign_l3 (x108 : List Tflow_Span) (xs118 : List Int) (xs121 : List Tflow_Span) (xs122 : List Bool) (x123 : Int) (x124 : Int) : Option Tregs_Map := loopO (fun s => regs_Assign_l3b x108 s.1 s.2.1 s.2.2.1 s.2.2.2.1 s.2.2.2.2) (xs118, xs121, xs122, x123, x124)
noncomputable def regs_Assign_l2b (p0 : TFunc) (xs23 : List Bool) (xs36 : List Int) (xs74 : List Bool) (x75 : Int) : Option (((List Bool) × Int) ⊕ Tregs_Map) :=
  if decide (x75 < (xs23.length : Int)) then
  (ix xs74 x75).bind fun x88 =>
  some (Sum.inl (xs74.set (Int.toNat x75) true, w64 (x75 + 1)))
  else
  ((flow_Spans p0).bind fun x108 =>
  regs_Assign_l3 x108 xs36 [] xs74 0 0).map Sum.inr
noncomputable def regs_Assign_l2 (p0 : TFunc) (xs23 : List Bool) (xs36 : List Int) (xs74 : List Bool) (x75 : Int) : Option Tregs_Map := loopO (fun s => regs_Assign_l2b p0 xs23 xs36 s.1 s.2) (xs74, x75)
noncomputable def regs_Assign_l1b (p0 : TFunc) (xs15 : List Int) (xs23 : List Bool) (xs36 : List Int) (x37 : Int) : Option (((List Int) × Int) ⊕ Tregs_Map) :=
  if decide (x37 < (xs15.length : Int)) then
  (ix xs36 x37).bind fun x55 =>
  some (Sum.inl (xs36.set (Int.toNat x37) (-1), w64 (x37 + 1)))
  else
  (regs_Assign_l2 p0 xs23 xs36 xs23 0).map Sum.inr
noncomputable def regs_Assign_l1 (p0 : TFunc) (xs15 : List Int) (xs23 : List Bool) (xs36 : List Int) (x37 : Int) : Option Tregs_Map := loopO (fun s => regs_Assign_l1b p0 xs15 xs23 s.1 s.2) (xs36, x37)
noncomputable def regs_Assign (p0 : TFunc) : Option Tregs_Map :=
  (mk (max p0.regs 0) 0).bind fun xs15 =>
  (mk 10 false).bind fun xs23 =>
  regs_Assign_l1 p0 xs15 xs23 xs15 0
noncomputable def law13_alive : Option Bool :=
  (regs_Assign (⟨ByteArray.empty, 1, 1, [(⟨15, (-1), 0, (-1), 0, [], 0, false, false⟩ : TIns)]⟩ : TFunc)).bind fun x12 =>
  (if decide ((x12.at_.length : Int) = 1) then
  (ix x12.at_ 0).bind fun x52 =>
  some (decide (x52 = 0))
  else
  some false).bind fun y30 =>
  some (cond (y30 && (decide (x12.spill = 0))) true false)
noncomputable def ref08_has_k5 (x49 : Bool) : Option (Bool × Bool × Bool × Bool) :=
  if x49 then
  some (false, true, false, false)
  else
  some (false, false, false, false)
noncomputable def ref08_has_k4 (p0 : Int) (x32 : Bool) : Option (Bool × Bool × Bool × Bool) :=
  if x32 then
  some (false, false, false, true)
  else
  if decide (p0 = 13) then
  some (false, true, false, true)
  else
  if decide (p0 = 17) then
  some (true, true, false, true)
  else
  if decide (p0 = 15) then
  ref08_has_k5 true
  else
  if decide (p0 = 18) then
  ref08_has_k5 true
  else
  if decide (p0 = 19) then
  ref08_has_k5 true
  else
  ref08_has_k5 (decide (p0 = 20))
noncomputable def ref08_has_k3 (p0 : Int) (x19 : Bool) : Option (Bool × Bool × Bool × Bool) :=
  if x19 then
  some (true, true, true, false)
  else
  if decide (p0 = 10) then
  some (false, true, true, false)
  else
  if decide (p0 = 11) then
  ref08_has_k4 p0 true
  else
  ref08_has_k4 p0 (decide (p0 = 12))
noncomputable def ref08_has_k2 (p0 : Int) (x10 : Bool) : Option (Bool × Bool × Bool × Bool) :=
  if x10 then
  some (true, true, false, false)
  else
  if decide (p0 = 3) then
  ref08_has_k3 p0 true
  else
  if decide (p0 = 4) then
  ref08_has_k3 p0 true
  else
  if decide (p0 = 5) then
  ref08_has_k3 p0 true
  else
  if decide (p0 = 6) then
  ref08_has_k3 p0 true
  else
  if decide (p0 = 7) then
  ref08_has_k3 p0 true
  else
  ref08_has_k3 p0 (decide (p0 = 8))
noncomputable def ref08_has_k1 (p0 : Int) (x1 : Bool) : Option (Bool × Bool × Bool × Bool) :=
  if x1 then
  some (true, false, false, false)
  else
  if decide (p0 = 2) then
  ref08_has_k2 p0 true
  else
  ref08_has_k2 p0 (decide (p0 = 9))
noncomputable def ref08_has (p0 : Int) : Option (Bool × Bool × Bool × Bool) :=
  if decide (p0 = 1) then
  ref08_has_k1 p0 true
  else
  ref08_has_k1 p0 (decide (p0 = 14))
noncomputable def ref08_register (p0 : Bool) (p1 : Bool) (p2 : Int) (p3 : Int) : Option Bool :=
  if !p0 then
  some (decide (p2 = (-1)))
  else
  some (((decide (0 ≤ p2)) && (decide (p2 < p3))) || (p1 && (decide (p2 = (-1)))))
noncomputable def ref08_count_k1 (x9 : Int) (x23 : Int) : Option ((Int × Int) ⊕ Int) :=
  some (Sum.inl (x23, w64 (x9 + 1)))
noncomputable def ref08_count_l1b (p0 : TFunc) (p1 : Int) (x8 : Int) (x9 : Int) : Option ((Int × Int) ⊕ Int) :=
  if decide (x9 < (p0.code.length : Int)) then
  (ix p0.code x9).bind fun x28 =>
  if (decide (x28.op = 11)) && (decide (x28.imm = p1)) then
  ref08_count_k1 x9 (w64 (x8 + 1))
  else
  ref08_count_k1 x9 x8
  else
  (some x8).map Sum.inr
noncomputable def ref08_count_l1 (p0 : TFunc) (p1 : Int) (x8 : Int) (x9 : Int) : Option Int := loopO (fun s => ref08_count_l1b p0 p1 s.1 s.2) (x8, x9)
noncomputable def ref08_count (p0 : TFunc) (p1 : Int) : Option Int :=
  ref08_count_l1 p0 p1 0 0
noncomputable def ref08_ins_k2 (p0 : TFunc) (p1 : TIns) (x27 : Bool × Bool × Bool × Bool) (x166 : Bool) : Option Bool :=
  if x166 then
  some true
  else
  if decide (p1.op = 16) then
  some (decide (0 < p1.imm))
  else
  if decide (p1.op = 22) then
  some ((decide (p1.imm = 0)) || (decide (p1.imm = 1)))
  else
  if x27.2.2.2 then
  (ref08_count p0 p1.imm).bind fun x199 =>
  some (decide (0 < x199))
  else
  some (decide (p1.imm = 0))
noncomputable def ref08_ins_l1b (p0 : TFunc) (p1 : TIns) (x27 : Bool × Bool × Bool × Bool) (x93 : Int) : Option (Int ⊕ Bool) :=
  if decide (x93 < (p1.args.length : Int)) then
  (ix p1.args x93).bind fun x106 =>
  if ((decide (p1.op ≠ 14)) || (decide (x106 < 0))) || (decide (p0.regs ≤ x106)) then
  (some false).map Sum.inr
  else
  some (Sum.inl (w64 (x93 + 1)))
  else
  (if ((decide (p1.op ≠ 9)) && (decide (p1.op ≠ 10))) && (((decide (p1.what ≠ 0)) || p1.volatile) || p1.final) then
  some false
  else
  if decide (p1.op = 1) then
  ref08_ins_k2 p0 p1 x27 true
  else
  if decide (p1.op = 9) then
  ref08_ins_k2 p0 p1 x27 true
  else
  if decide (p1.op = 10) then
  ref08_ins_k2 p0 p1 x27 true
  else
  if decide (p1.op = 14) then
  ref08_ins_k2 p0 p1 x27 true
  else
  ref08_ins_k2 p0 p1 x27 (decide (p1.op = 21))).map Sum.inr
noncomputable def ref08_ins_l1 (p0 : TFunc) (p1 : TIns) (x27 : Bool × Bool × Bool × Bool) (x93 : Int) : Option Bool := loopO (fun s => ref08_ins_l1b p0 p1 x27 s) x93
noncomputable def ref08_ins_k1 (p0 : TFunc) (p1 : TIns) (x27 : Bool × Bool × Bool × Bool) (x35 : Bool) : Option Bool :=
  (ref08_register x27.1 (decide (p1.op = 14)) p1.d p0.regs).bind fun x40 =>
  (if !x40 then
  some true
  else
  (ref08_register x35 (((decide (p1.op = 9)) || (decide (p1.op = 10))) || (decide (p1.op = 15))) p1.a p0.regs).bind fun x271 =>
  some (!x271)).bind fun y48 =>
  (if y48 then
  some true
  else
  (ref08_register x27.2.2.1 false p1.b p0.regs).bind fun x244 =>
  some (!x244)).bind fun y74 =>
  if y74 then
  some false
  else
  ref08_ins_l1 p0 p1 x27 0
noncomputable def ref08_ins (p0 : TFunc) (p1 : TIns) : Option Bool :=
  if (decide (p1.op < 1)) || (decide (22 < p1.op)) then
  some false
  else
  (ref08_has p1.op).bind fun x27 =>
  if decide (p1.op = 21) then
  if (decide (p1.imm < 1)) || (decide (3 < p1.imm)) then
  some false
  else
  ref08_ins_k1 p0 p1 x27 (decide (p1.imm = 3))
  else
  ref08_ins_k1 p0 p1 x27 x27.2.1
noncomputable def ref08_Good_l1b (p0 : TFunc) (x55 : Int) : Option (Int ⊕ Bool) :=
  if decide (x55 < (p0.code.length : Int)) then
  (ix p0.code x55).bind fun x68 =>
  (ref08_ins p0 x68).bind fun x91 =>
  (if !x91 then
  some true
  else
  (if decide (x68.op = 11) then
  (ref08_count p0 x68.imm).bind fun x144 =>
  some (decide (x144 ≠ 1))
  else
  some false).bind fun y129 =>
  some y129).bind fun y99 =>
  if y99 then
  (some false).map Sum.inr
  else
  some (Sum.inl (w64 (x55 + 1)))
  else
  (some true).map Sum.inr
noncomputable def ref08_Good_l1 (p0 : TFunc) (x55 : Int) : Option Bool := loopO (fun s => ref08_Good_l1b p0 s) x55
noncomputable def ref08_Good (p0 : TFunc) : Option Bool :=
  if ((decide ((p0.code.length : Int) = 0)) || (decide (p0.params < 0))) || (decide (p0.regs < p0.params)) then
  some false
  else
  (ix p0.code (w64 ((p0.code.length : Int) - 1))).bind fun x27 =>
  if ((decide (x27.op ≠ 12)) && (decide (x27.op ≠ 15))) && (decide (x27.op ≠ 16)) then
  some false
  else
  ref08_Good_l1 p0 0
noncomputable def regs_Map_place (p0 : Tregs_Map) (p1 : Int) : Option Int :=
  if (decide (p1 < 0)) || (decide ((p0.at_.length : Int) ≤ p1)) then
  some p1
  else
  (ix p0.at_ p1).bind fun x21 =>
  some x21
noncomputable def slices_Clone_2 (p0 : List Int) : Option (List Int) :=
  (apw [] p0).bind fun xs16 =>
  some xs16
noncomputable def regs_Rename_l2b (p1 : Tregs_Map) (xs32 : List TIns) (x33 : Int) (x53 : TIns) (x75 : Int) (x84 : Int) (x93 : Int) (x111 : List Int) (xs124 : List Int) (x125 : Int) : Option (((List Int) × Int) ⊕ (((List TIns) × Int) ⊕ TFunc)) :=
  if decide (x125 < (x111.length : Int)) then
  (ix xs124 x125).bind fun x144 =>
  (regs_Map_place p1 x144).bind fun x159 =>
  (ix xs124 x125).bind fun x167 =>
  some (Sum.inl (xs124.set (Int.toNat x125) x159, w64 (x125 + 1)))
  else
  ((ap xs32 [(⟨x53.op, x75, x84, x93, x53.imm, xs124, x53.what, x53.volatile, x53.final⟩ : TIns)]).bind fun xs192 =>
  some (Sum.inl (xs192, w64 (x33 + 1)))).map Sum.inr
noncomputable def regs_Rename_l2 (p1 : Tregs_Map) (xs32 : List TIns) (x33 : Int) (x53 : TIns) (x75 : Int) (x84 : Int) (x93 : Int) (x111 : List Int) (xs124 : List Int) (x125 : Int) : Option (((List TIns) × Int) ⊕ TFunc) := loopO (fun s => regs_Rename_l2b p1 xs32 x33 x53 x75 x84 x93 x111 s.1 s.2) (xs124, x125)
noncomputable def regs_Rename_l1b (p0 : TFunc) (p1 : Tregs_Map) (xs32 : List TIns) (x33 : Int) : Option (((List TIns) × Int) ⊕ TFunc) :=
  if decide (x33 < (p0.code.length : Int)) then
  (ix p0.code x33).bind fun x53 =>
  (regs_Map_place p1 x53.d).bind fun x75 =>
  (regs_Map_place p1 x53.a).bind fun x84 =>
  (regs_Map_place p1 x53.b).bind fun x93 =>
  (slices_Clone_2 x53.args).bind fun x111 =>
  regs_Rename_l2 p1 xs32 x33 x53 x75 x84 x93 x111 x111 0
  else
  (some (⟨p0.name, p0.params, w64 (10 + p1.spill), xs32⟩ : TFunc)).map Sum.inr
noncomputable def regs_Rename_l1 (p0 : TFunc) (p1 : Tregs_Map) (xs32 : List TIns) (x33 : Int) : Option TFunc := loopO (fun s => regs_Rename_l1b p0 p1 s.1 s.2) (xs32, x33)
noncomputable def regs_Rename (p0 : TFunc) (p1 : Tregs_Map) : Option TFunc :=
  regs_Rename_l1 p0 p1 [] 0
noncomputable def law13_RegsSame_k1 (x105 : Int) (x121 : Bool) : Option (Int ⊕ Bool) :=
  if x121 then
  (some false).map Sum.inr
  else
  some (Sum.inl (w64 (x105 + 1)))
noncomputable def law13_RegsSame_l1b (p0 : TFunc) (x64 : TFunc) (x105 : Int) : Option (Int ⊕ Bool) :=
  if decide (x105 < (p0.code.length : Int)) then
  (ix p0.code x105).bind fun x133 =>
  (ix x64.code x105).bind fun x146 =>
  if decide (x133.op ≠ x146.op) then
  law13_RegsSame_k1 x105 true
  else
  (ix p0.code x105).bind fun x162 =>
  (ix x64.code x105).bind fun x175 =>
  if decide (x162.imm ≠ x175.imm) then
  law13_RegsSame_k1 x105 true
  else
  (ix p0.code x105).bind fun x191 =>
  (ix x64.code x105).bind fun x204 =>
  law13_RegsSame_k1 x105 (decide ((x191.args.length : Int) ≠ (x204.args.length : Int)))
  else
  (some true).map Sum.inr
noncomputable def law13_RegsSame_l1 (p0 : TFunc) (x64 : TFunc) (x105 : Int) : Option Bool := loopO (fun s => law13_RegsSame_l1b p0 x64 s) x105
noncomputable def law13_RegsSame (p0 : TFunc) : Option Bool :=
  (law13_alive).bind fun x8 =>
  if !x8 then
  some false
  else
  (if (decide (60 < (p0.code.length : Int))) || (decide (40 < p0.regs)) then
  some true
  else
  (ref08_Good p0).bind fun x252 =>
  some (!x252)).bind fun y29 =>
  if y29 then
  some true
  else
  (regs_Assign p0).bind fun x44 =>
  (regs_Rename p0 x44).bind fun x64 =>
  (if decide ((x64.code.length : Int) ≠ (p0.code.length : Int)) then
  some true
  else
  (ref08_Good x64).bind fun x227 =>
  some ((!x227) && (decide (p0.params ≤ x64.regs)))).bind fun y82 =>
  if y82 then
  some false
  else
  law13_RegsSame_l1 p0 x64 0
end Go.Vm.G13s
