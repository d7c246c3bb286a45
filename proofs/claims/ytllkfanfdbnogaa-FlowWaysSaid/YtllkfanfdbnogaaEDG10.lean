/-
  What functions compute, as plain functions.
-/
import Derived.Test.YtllkfanfdbnogaaESp8
set_option linter.unusedSimpArgs false
set_option linter.unusedVariables false
namespace Go.Vm.G10
open Go

structure TIns where
  op : Int
  d : Int
  a : Int
  b : Int
  imm : Int
  args : List Int
  what : Int
  volatile : Bool
  final : Bool
def RT_TIns : RT TIns := ⟨9, fun V cs x => ∃ v1 : Value, cs = [.int .i64 x.op, .int .i64 x.d, .int .i64 x.a, .int .i64 x.b, .int .i64 x.imm, v1, .int .i64 x.what, .bool x.volatile, .bool x.final] ∧ Fz (RT.int .i64) V v1 x.args, ⟨fun _ _ _ ⟨v1, h, f1⟩ => by rw [h]; rfl, fun _ _ _ ⟨v1, h, f1⟩ => by rw [h]; have := f1.one; simp only [List.all_cons, List.all_nil, *]; rfl, fun _ _ _ _ he ⟨v1, h, f1⟩ => ⟨v1, h, f1.up he⟩⟩⟩
structure TFunc where
  name : ByteArray
  params : Int
  regs : Int
  code : List TIns
def RT_TFunc : RT TFunc := ⟨4, fun V cs x => ∃ v1 : Value, cs = [.string x.name, .int .i64 x.params, .int .i64 x.regs, v1] ∧ Fz RT_TIns V v1 x.code, ⟨fun _ _ _ ⟨v1, h, f1⟩ => by rw [h]; rfl, fun _ _ _ ⟨v1, h, f1⟩ => by rw [h]; have := f1.one; simp only [List.all_cons, List.all_nil, *]; rfl, fun _ _ _ _ he ⟨v1, h, f1⟩ => ⟨v1, h, f1.up he⟩⟩⟩

noncomputable def flow_place_c1 (p0 : TIns) (p1 : Int) : Option Bool :=
  some ((decide (p0.op = 11)) && (decide (p0.imm = p1)))
noncomputable def slices_IndexFunc_l1b (p0 : List TIns) (p1_10 : Int) (x6 : Int) : Option (Int ⊕ Int) :=
  if decide (x6 < (p0.length : Int)) then
  (ix p0 x6).bind fun x19 =>
  (flow_place_c1 x19 p1_10).bind fun x33 =>
  if x33 then
  (some x6).map Sum.inr
  else
  some (Sum.inl (w64 (x6 + 1)))
  else
  (some (-1)).map Sum.inr
noncomputable def slices_IndexFunc_l1 (p0 : List TIns) (p1_10 : Int) (x6 : Int) : Option Int := loopO (fun s => slices_IndexFunc_l1b p0 p1_10 s) x6
noncomputable def slices_IndexFunc (p0 : List TIns) (p1_10 : Int) : Option Int :=
  slices_IndexFunc_l1 p0 p1_10 0
noncomputable def flow_place (p0 : TFunc) (p1 : Int) : Option Int :=
  (slices_IndexFunc p0.code p1).bind fun x14 =>
  some x14
noncomputable def slices_Index_l1b (p0 : List Int) (p1 : Int) (x3 : Int) : Option (Int ⊕ Int) :=
  if decide (x3 < (p0.length : Int)) then
  (ix p0 x3).bind fun x16 =>
  if decide (p1 = x16) then
  (some x3).map Sum.inr
  else
  some (Sum.inl (w64 (x3 + 1)))
  else
  (some (-1)).map Sum.inr
noncomputable def slices_Index_l1 (p0 : List Int) (p1 : Int) (x3 : Int) : Option Int := loopO (fun s => slices_Index_l1b p0 p1 s) x3
noncomputable def slices_Index (p0 : List Int) (p1 : Int) : Option Int :=
  slices_Index_l1 p0 p1 0
noncomputable def slices_Contains (p0 : List Int) (p1 : Int) : Option Bool :=
  (slices_Index p0 p1).bind fun x3 =>
  some (decide (0 ≤ x3))
noncomputable def flow_Next_k2 (xs55 : List Int) : Option (List Int) :=
  some xs55
noncomputable def flow_Next_k1 (p0 : TFunc) (x25 : TIns) (xs48 : List Int) : Option (List Int) :=
  if ((decide (x25.op = 12)) || (decide (x25.op = 13))) || (decide (x25.op = 17)) then
  (flow_place p0 x25.imm).bind fun x76 =>
  (if decide (0 ≤ x76) then
  (slices_Contains xs48 x76).bind fun x118 =>
  some (!x118)
  else
  some false).bind fun y84 =>
  if y84 then
  (ap xs48 [x76]).bind fun xs101 =>
  flow_Next_k2 xs101
  else
  flow_Next_k2 xs48
  else
  flow_Next_k2 xs48
noncomputable def flow_Next (p0 : TFunc) (p1 : Int) : Option (List Int) :=
  if (decide (p1 < 0)) || (decide ((p0.code.length : Int) ≤ p1)) then
  some []
  else
  (ix p0.code p1).bind fun x25 =>
  if (((decide (x25.op ≠ 12)) && (decide (x25.op ≠ 15))) && (decide (x25.op ≠ 16))) && (decide ((w64 (p1 + 1)) < (p0.code.length : Int))) then
  (ap [] [w64 (p1 + 1)]).bind fun xs167 =>
  flow_Next_k1 p0 x25 xs167
  else
  flow_Next_k1 p0 x25 []
noncomputable def flow_set_merge_l1b (p1 : List Bool) (xs5 : List Bool) (x6 : Bool) (x7 : Int) : Option (((List Bool) × Bool × Int) ⊕ (Bool × (List Bool))) :=
  if decide (x7 < (p1.length : Int)) then
  (ix p1 x7).bind fun x20 =>
  (if x6 then
  some true
  else
  (if x20 then
  (ix xs5 x7).bind fun x97 =>
  some (!x97)
  else
  some false).bind fun y83 =>
  some y83).bind fun y34 =>
  (ix xs5 x7).bind fun x48 =>
  (ix xs5 x7).bind fun x66 =>
  some (Sum.inl (xs5.set (Int.toNat x7) (x48 || x20), y34, w64 (x7 + 1)))
  else
  (some (x6, xs5)).map Sum.inr
noncomputable def flow_set_merge_l1 (p1 : List Bool) (xs5 : List Bool) (x6 : Bool) (x7 : Int) : Option (Bool × (List Bool)) := loopO (fun s => flow_set_merge_l1b p1 s.1 s.2.1 s.2.2) (xs5, x6, x7)
noncomputable def flow_set_merge (p0 : List Bool) (p1 : List Bool) : Option (Bool × (List Bool)) :=
  flow_set_merge_l1 p1 p0 false 0
noncomputable def slices_Clone (p0 : List Bool) : Option (List Bool) :=
  (ap [] p0).bind fun xs15 =>
  some xs15
noncomputable def ir_Def (p0 : TIns) : Option Int :=
  some p0.d
noncomputable def ir_Uses_k1 (x27 : Int) (xs45 : List Int) : Option (((List Int) × Int) ⊕ (List Int)) :=
  some (Sum.inl (xs45, w64 (x27 + 1)))
noncomputable def ir_Uses_l1b (xs16 : List Int) (xs26 : List Int) (x27 : Int) : Option (((List Int) × Int) ⊕ (List Int)) :=
  if decide (x27 < (xs16.length : Int)) then
  (ix xs16 x27).bind fun x50 =>
  if decide (0 ≤ x50) then
  (ap xs26 [x50]).bind fun xs71 =>
  ir_Uses_k1 x27 xs71
  else
  ir_Uses_k1 x27 xs26
  else
  (some xs26).map Sum.inr
noncomputable def ir_Uses_l1 (xs16 : List Int) (xs26 : List Int) (x27 : Int) : Option (List Int) := loopO (fun s => ir_Uses_l1b xs16 s.1 s.2) (xs26, x27)
noncomputable def ir_Uses (p0 : TIns) : Option (List Int) :=
  (ap [p0.a, p0.b] p0.args).bind fun xs16 =>
  ir_Uses_l1 xs16 [] 0
noncomputable def flow_step_k2 (x40 : Int) (xs57 : List Bool) : Option (((List Bool) × Int) ⊕ (List Bool)) :=
  some (Sum.inl (xs57, w64 (x40 + 1)))
noncomputable def flow_step_l1b (x29 : List Int) (xs39 : List Bool) (x40 : Int) : Option (((List Bool) × Int) ⊕ (List Bool)) :=
  if decide (x40 < (x29.length : Int)) then
  (ix x29 x40).bind fun x62 =>
  if decide (x62 < (xs39.length : Int)) then
  (ix xs39 x62).bind fun x78 =>
  flow_step_k2 x40 (xs39.set (Int.toNat x62) true)
  else
  flow_step_k2 x40 xs39
  else
  (some xs39).map Sum.inr
noncomputable def flow_step_l1 (x29 : List Int) (xs39 : List Bool) (x40 : Int) : Option (List Bool) := loopO (fun s => flow_step_l1b x29 s.1 s.2) (xs39, x40)
noncomputable def flow_step_k1 (p0 : TIns) (xs23 : List Bool) : Option (List Bool) :=
  (ir_Uses p0).bind fun x29 =>
  flow_step_l1 x29 xs23 0
noncomputable def flow_step (p0 : TIns) (p1 : List Bool) : Option (List Bool) :=
  (slices_Clone p1).bind fun x13 =>
  (ir_Def p0).bind fun x103 =>
  if (decide (0 ≤ x103)) && (decide (x103 < (x13.length : Int))) then
  (ix x13 x103).bind fun x120 =>
  flow_step_k1 p0 (x13.set (Int.toNat x103) false)
  else
  flow_step_k1 p0 x13
noncomputable def flow_Live_k1 (x121 : Int) (xs134 : List (List Bool)) (x135 : Bool) : Option (((List (List Bool)) × Bool × Int) ⊕ (((List (List Bool)) × Bool) ⊕ (List (List Bool)))) :=
  some (Sum.inl (xs134, x135, w64 (x121 - 1)))
noncomputable def flow_Live_l4b (p0 : TFunc) (xs31 : List (List Int)) (xs119 : List (List Bool)) (x120 : Bool) (x121 : Int) (x148 : List Int) (xs162 : List Bool) (x163 : Int) : Option (((List Bool) × Int) ⊕ (((List (List Bool)) × Bool × Int) ⊕ (((List (List Bool)) × Bool) ⊕ (List (List Bool))))) :=
  if decide (x163 < (x148.length : Int)) then
  (ix xs31 x121).bind fun x180 =>
  (ix x180 x163).bind fun x187 =>
  (ix xs119 x187).bind fun x201 =>
  (flow_set_merge xs162 x201).bind fun x215 =>
  some (Sum.inl (x215.2, w64 (x163 + 1)))
  else
  ((ix xs119 x121).bind fun x231 =>
  (ix p0.code x121).bind fun x244 =>
  (flow_step x244 xs162).bind fun x259 =>
  (flow_set_merge x231 x259).bind fun x273 =>
  if x273.1 then
  flow_Live_k1 x121 (xs119.set (Int.toNat x121) x273.2) true
  else
  flow_Live_k1 x121 (xs119.set (Int.toNat x121) x273.2) x120).map Sum.inr
noncomputable def flow_Live_l4 (p0 : TFunc) (xs31 : List (List Int)) (xs119 : List (List Bool)) (x120 : Bool) (x121 : Int) (x148 : List Int) (xs162 : List Bool) (x163 : Int) : Option (((List (List Bool)) × Bool × Int) ⊕ (((List (List Bool)) × Bool) ⊕ (List (List Bool)))) := loopO (fun s => flow_Live_l4b p0 xs31 xs119 x120 x121 x148 s.1 s.2) (xs162, x163)
noncomputable def flow_Live_l3b (p0 : TFunc) (xs31 : List (List Int)) (xs119 : List (List Bool)) (x120 : Bool) (x121 : Int) : Option (((List (List Bool)) × Bool × Int) ⊕ (((List (List Bool)) × Bool) ⊕ (List (List Bool)))) :=
  if decide (0 ≤ x121) then
  (mk (max p0.regs 0) false).bind fun xs140 =>
  (ix xs31 x121).bind fun x148 =>
  flow_Live_l4 p0 xs31 xs119 x120 x121 x148 xs140 0
  else
  (some (Sum.inl (xs119, x120))).map Sum.inr
noncomputable def flow_Live_l3 (p0 : TFunc) (xs31 : List (List Int)) (xs119 : List (List Bool)) (x120 : Bool) (x121 : Int) : Option (((List (List Bool)) × Bool) ⊕ (List (List Bool))) := loopO (fun s => flow_Live_l3b p0 xs31 s.1 s.2.1 s.2.2) (xs119, x120, x121)
noncomputable def flow_Live_l5b (xs105 : List (List Bool)) (xs296 : List (List Bool)) (xs297 : List (List Bool)) (x300 : Int) : Option (((List (List Bool)) × (List (List Bool)) × Int) ⊕ (List (List Bool))) :=
  if decide (x300 < (xs105.length : Int)) then
  (ix xs297 x300).bind fun x323 =>
  (ap xs296 [x323]).bind fun xs341 =>
  some (Sum.inl (xs341, xs297, w64 (x300 + 1)))
  else
  (some xs296).map Sum.inr
noncomputable def flow_Live_l5 (xs105 : List (List Bool)) (xs296 : List (List Bool)) (xs297 : List (List Bool)) (x300 : Int) : Option (List (List Bool)) := loopO (fun s => flow_Live_l5b xs105 s.1 s.2.1 s.2.2) (xs296, xs297, x300)
noncomputable def flow_Live_l2b (p0 : TFunc) (xs31 : List (List Int)) (xs105 : List (List Bool)) (x106 : Bool) : Option (((List (List Bool)) × Bool) ⊕ (List (List Bool))) :=
  if x106 then
  flow_Live_l3 p0 xs31 xs105 false (w64 ((p0.code.length : Int) - 1))
  else
  (flow_Live_l5 xs105 [] xs105 0).map Sum.inr
noncomputable def flow_Live_l2 (p0 : TFunc) (xs31 : List (List Int)) (xs105 : List (List Bool)) (x106 : Bool) : Option (List (List Bool)) := loopO (fun s => flow_Live_l2b p0 xs31 s.1 s.2) (xs105, x106)
noncomputable def flow_Live_l1b (p0 : TFunc) (xs10 : List (List Bool)) (xs29 : List (List Bool)) (xs31 : List (List Int)) (x32 : Int) : Option (((List (List Bool)) × (List (List Int)) × Int) ⊕ (List (List Bool))) :=
  if decide (x32 < (xs10.length : Int)) then
  (mk (max p0.regs 0) false).bind fun xs48 =>
  (ix xs29 x32).bind fun x56 =>
  (flow_Next p0 x32).bind fun x74 =>
  (ix xs31 x32).bind fun x84 =>
  some (Sum.inl (xs29.set (Int.toNat x32) xs48, xs31.set (Int.toNat x32) x74, w64 (x32 + 1)))
  else
  (flow_Live_l2 p0 xs31 xs29 true).map Sum.inr
noncomputable def flow_Live_l1 (p0 : TFunc) (xs10 : List (List Bool)) (xs29 : List (List Bool)) (xs31 : List (List Int)) (x32 : Int) : Option (List (List Bool)) := loopO (fun s => flow_Live_l1b p0 xs10 s.1 s.2.1 s.2.2) (xs29, xs31, x32)
noncomputable def flow_Live (p0 : TFunc) : Option (List (List Bool)) :=
  (mk (p0.code.length : Int) ([] : List Bool)).bind fun xs10 =>
  (mk (p0.code.length : Int) ([] : List Int)).bind fun xs19 =>
  flow_Live_l1 p0 xs10 xs10 xs19 0
noncomputable def law10_alive : Option Bool :=
  (flow_Live (⟨ByteArray.empty, 0, 1, [(⟨1, 0, (-1), (-1), 0, [], 0, false, false⟩ : TIns), (⟨15, (-1), 0, (-1), 0, [], 0, false, false⟩ : TIns)]⟩ : TFunc)).bind fun x20 =>
  (if decide ((x20.length : Int) = 2) then
  (ix x20 0).bind fun x90 =>
  (ix x90 0).bind fun x106 =>
  some (!x106)
  else
  some false).bind fun y30 =>
  (if y30 then
  (ix x20 1).bind fun x58 =>
  (ix x58 0).bind fun x74 =>
  some x74
  else
  some false).bind fun y42 =>
  some y42
noncomputable def ref08_has_k5 (x49 : Bool) : Option (Bool × Bool × Bool × Bool) :=
  if x49 then
  some (false, true, false, false)
  else
  some (false, false, false, false)
noncomputable def ref08_has_k4 (p0 : Int) (x32 : Bool) : Option (Bool × Bool × Bool × Bool) :=
  if x32 then
  some (false, false, false, true)
  else
  if decide (p0 = 13) then
  some (false, true, false, true)
  else
  if decide (p0 = 17) then
  some (true, true, false, true)
  else
  if decide (p0 = 15) then
  ref08_has_k5 true
  else
  if decide (p0 = 18) then
  ref08_has_k5 true
  else
  if decide (p0 = 19) then
  ref08_has_k5 true
  else
  ref08_has_k5 (decide (p0 = 20))
noncomputable def ref08_has_k3 (p0 : Int) (x19 : Bool) : Option (Bool × Bool × Bool × Bool) :=
  if x19 then
  some (true, true, true, false)
  else
  if decide (p0 = 10) then
  some (false, true, true, false)
  else
  if decide (p0 = 11) then
  ref08_has_k4 p0 true
  else
  ref08_has_k4 p0 (decide (p0 = 12))
noncomputable def ref08_has_k2 (p0 : Int) (x10 : Bool) : Option (Bool × Bool × Bool × Bool) :=
  if x10 then
  some (true, true, false, false)
  else
  if decide (p0 = 3) then
  ref08_has_k3 p0 true
  else
  if decide (p0 = 4) then
  ref08_has_k3 p0 true
  else
  if decide (p0 = 5) then
  ref08_has_k3 p0 true
  else
  if decide (p0 = 6) then
  ref08_has_k3 p0 true
  else
  if decide (p0 = 7) then
  ref08_has_k3 p0 true
  else
  ref08_has_k3 p0 (decide (p0 = 8))
noncomputable def ref08_has_k1 (p0 : Int) (x1 : Bool) : Option (Bool × Bool × Bool × Bool) :=
  if x1 then
  some (true, false, false, false)
  else
  if decide (p0 = 2) then
  ref08_has_k2 p0 true
  else
  ref08_has_k2 p0 (decide (p0 = 9))
noncomputable def ref08_has (p0 : Int) : Option (Bool × Bool × Bool × Bool) :=
  if decide (p0 = 1) then
  ref08_has_k1 p0 true
  else
  ref08_has_k1 p0 (decide (p0 = 14))
noncomputable def ref08_register (p0 : Bool) (p1 : Bool) (p2 : Int) (p3 : Int) : Option Bool :=
  if !p0 then
  some (decide (p2 = (-1)))
  else
  some (((decide (0 ≤ p2)) && (decide (p2 < p3))) || (p1 && (decide (p2 = (-1)))))
noncomputable def ref08_count_k1 (x9 : Int) (x23 : Int) : Option ((Int × Int) ⊕ Int) :=
  some (Sum.inl (x23, w64 (x9 + 1)))
noncomputable def ref08_count_l1b (p0 : TFunc) (p1 : Int) (x8 : Int) (x9 : Int) : Option ((Int × Int) ⊕ Int) :=
  if decide (x9 < (p0.code.length : Int)) then
  (ix p0.code x9).bind fun x28 =>
  if (decide (x28.op = 11)) && (decide (x28.imm = p1)) then
  ref08_count_k1 x9 (w64 (x8 + 1))
  else
  ref08_count_k1 x9 x8
  else
  (some x8).map Sum.inr
noncomputable def ref08_count_l1 (p0 : TFunc) (p1 : Int) (x8 : Int) (x9 : Int) : Option Int := loopO (fun s => ref08_count_l1b p0 p1 s.1 s.2) (x8, x9)
noncomputable def ref08_count (p0 : TFunc) (p1 : Int) : Option Int :=
  ref08_count_l1 p0 p1 0 0
noncomputable def ref08_ins_k2 (p0 : TFunc) (p1 : TIns) (x27 : Bool × Bool × Bool × Bool) (x166 : Bool) : Option Bool :=
  if x166 then
  some true
  else
  if decide (p1.op = 16) then
  some (decide (0 < p1.imm))
  else
  if decide (p1.op = 22) then
  some ((decide (p1.imm = 0)) || (decide (p1.imm = 1)))
  else
  if x27.2.2.2 then
  (ref08_count p0 p1.imm).bind fun x199 =>
  some (decide (0 < x199))
  else
  some (decide (p1.imm = 0))
noncomputable def ref08_ins_l1b (p0 : TFunc) (p1 : TIns) (x27 : Bool × Bool × Bool × Bool) (x93 : Int) : Option (Int ⊕ Bool) :=
  if decide (x93 < (p1.args.length : Int)) then
  (ix p1.args x93).bind fun x106 =>
  if ((decide (p1.op ≠ 14)) || (decide (x106 < 0))) || (decide (p0.regs ≤ x106)) then
  (some false).map Sum.inr
  else
  some (Sum.inl (w64 (x93 + 1)))
  else
  (if ((decide (p1.op ≠ 9)) && (decide (p1.op ≠ 10))) && (((decide (p1.what ≠ 0)) || p1.volatile) || p1.final) then
  some false
  else
  if decide (p1.op = 1) then
  ref08_ins_k2 p0 p1 x27 true
  else
  if decide (p1.op = 9) then
  ref08_ins_k2 p0 p1 x27 true
  else
  if decide (p1.op = 10) then
  ref08_ins_k2 p0 p1 x27 true
  else
  if decide (p1.op = 14) then
  ref08_ins_k2 p0 p1 x27 true
  else
  ref08_ins_k2 p0 p1 x27 (decide (p1.op = 21))).map Sum.inr
noncomputable def ref08_ins_l1 (p0 : TFunc) (p1 : TIns) (x27 : Bool × Bool × Bool × Bool) (x93 : Int) : Option Bool := loopO (fun s => ref08_ins_l1b p0 p1 x27 s) x93
noncomputable def ref08_ins_k1 (p0 : TFunc) (p1 : TIns) (x27 : Bool × Bool × Bool × Bool) (x35 : Bool) : Option Bool :=
  (ref08_register x27.1 (decide (p1.op = 14)) p1.d p0.regs).bind fun x40 =>
  (if !x40 then
  some true
  else
  (ref08_register x35 (((decide (p1.op = 9)) || (decide (p1.op = 10))) || (decide (p1.op = 15))) p1.a p0.regs).bind fun x271 =>
  some (!x271)).bind fun y48 =>
  (if y48 then
  some true
  else
  (ref08_register x27.2.2.1 false p1.b p0.regs).bind fun x244 =>
  some (!x244)).bind fun y74 =>
  if y74 then
  some false
  else
  ref08_ins_l1 p0 p1 x27 0
noncomputable def ref08_ins (p0 : TFunc) (p1 : TIns) : Option Bool :=
  if (decide (p1.op < 1)) || (decide (22 < p1.op)) then
  some false
  else
  (ref08_has p1.op).bind fun x27 =>
  if decide (p1.op = 21) then
  if (decide (p1.imm < 1)) || (decide (3 < p1.imm)) then
  some false
  else
  ref08_ins_k1 p0 p1 x27 (decide (p1.imm = 3))
  else
  ref08_ins_k1 p0 p1 x27 x27.2.1
noncomputable def ref08_Good_l1b (p0 : TFunc) (x55 : Int) : Option (Int ⊕ Bool) :=
  if decide (x55 < (p0.code.length : Int)) then
  (ix p0.code x55).bind fun x68 =>
  (ref08_ins p0 x68).bind fun x91 =>
  (if !x91 then
  some true
  else
  (if decide (x68.op = 11) then
  (ref08_count p0 x68.imm).bind fun x144 =>
  some (decide (x144 ≠ 1))
  else
  some false).bind fun y129 =>
  some y129).bind fun y99 =>
  if y99 then
  (some false).map Sum.inr
  else
  some (Sum.inl (w64 (x55 + 1)))
  else
  (some true).map Sum.inr
noncomputable def ref08_Good_l1 (p0 : TFunc) (x55 : Int) : Option Bool := loopO (fun s => ref08_Good_l1b p0 s) x55
noncomputable def ref08_Good (p0 : TFunc) : Option Bool :=
  if ((decide ((p0.code.length : Int) = 0)) || (decide (p0.params < 0))) || (decide (p0.regs < p0.params)) then
  some false
  else
  (ix p0.code (w64 ((p0.code.length : Int) - 1))).bind fun x27 =>
  if ((decide (x27.op ≠ 12)) && (decide (x27.op ≠ 15))) && (decide (x27.op ≠ 16)) then
  some false
  else
  ref08_Good_l1 p0 0
noncomputable def law10_great_l1b (p0 : TFunc) (x8 : Int) : Option (Int ⊕ Bool) :=
  if decide (x8 < (p0.code.length : Int)) then
  (ix p0.code x8).bind fun x21 =>
  if decide (6 < (x21.args.length : Int)) then
  (some true).map Sum.inr
  else
  some (Sum.inl (w64 (x8 + 1)))
  else
  ((if (decide (40 < (p0.code.length : Int))) || (decide (12 < p0.regs)) then
  some true
  else
  (ref08_Good p0).bind fun x74 =>
  some (!x74)).bind fun y58 =>
  some y58).map Sum.inr
noncomputable def law10_great_l1 (p0 : TFunc) (x8 : Int) : Option Bool := loopO (fun s => law10_great_l1b p0 s) x8
noncomputable def law10_great (p0 : TFunc) : Option Bool :=
  law10_great_l1 p0 0
noncomputable def ref10_reads_l1b (p0 : TIns) (p1 : Int) (x8 : Int) : Option (Int ⊕ Bool) :=
  if decide (x8 < (p0.args.length : Int)) then
  (ix p0.args x8).bind fun x21 =>
  if decide (x21 = p1) then
  (some true).map Sum.inr
  else
  some (Sum.inl (w64 (x8 + 1)))
  else
  (some ((decide (p0.a = p1)) || (decide (p0.b = p1)))).map Sum.inr
noncomputable def ref10_reads_l1 (p0 : TIns) (p1 : Int) (x8 : Int) : Option Bool := loopO (fun s => ref10_reads_l1b p0 p1 s) x8
noncomputable def ref10_reads (p0 : TIns) (p1 : Int) : Option Bool :=
  ref10_reads_l1 p0 p1 0
noncomputable def ref10_Next_k2 (xs55 : List Int) : Option (List Int) :=
  some xs55
noncomputable def ref10_Next_k3 (x78 : Int) (xs94 : List Int) : Option (((List Int) × Int) ⊕ (List Int)) :=
  some (Sum.inl (xs94, w64 (x78 + 1)))
noncomputable def ref10_Next_l1b (p0 : TFunc) (x25 : TIns) (xs77 : List Int) (x78 : Int) : Option (((List Int) × Int) ⊕ (List Int)) :=
  if decide (x78 < (p0.code.length : Int)) then
  (ix p0.code x78).bind fun x99 =>
  (if (decide (x99.op = 11)) && (decide (x99.imm = x25.imm)) then
  (if decide ((xs77.length : Int) = 0) then
  some true
  else
  (ix xs77 0).bind fun x181 =>
  some (decide (x181 ≠ x78))).bind fun y165 =>
  some y165
  else
  some false).bind fun y128 =>
  if y128 then
  (ap xs77 [x78]).bind fun xs151 =>
  ref10_Next_k3 x78 xs151
  else
  ref10_Next_k3 x78 xs77
  else
  (ref10_Next_k2 xs77).map Sum.inr
noncomputable def ref10_Next_l1 (p0 : TFunc) (x25 : TIns) (xs77 : List Int) (x78 : Int) : Option (List Int) := loopO (fun s => ref10_Next_l1b p0 x25 s.1 s.2) (xs77, x78)
noncomputable def ref10_Next_k1 (p0 : TFunc) (x25 : TIns) (xs48 : List Int) : Option (List Int) :=
  if ((decide (x25.op = 12)) || (decide (x25.op = 13))) || (decide (x25.op = 17)) then
  ref10_Next_l1 p0 x25 xs48 0
  else
  ref10_Next_k2 xs48
noncomputable def ref10_Next (p0 : TFunc) (p1 : Int) : Option (List Int) :=
  if (decide (p1 < 0)) || (decide ((p0.code.length : Int) ≤ p1)) then
  some []
  else
  (ix p0.code p1).bind fun x25 =>
  if (((decide (x25.op ≠ 12)) && (decide (x25.op ≠ 15))) && (decide (x25.op ≠ 16))) && (decide ((w64 (p1 + 1)) < (p0.code.length : Int))) then
  (ap [] [w64 (p1 + 1)]).bind fun xs237 =>
  ref10_Next_k1 p0 x25 xs237
  else
  ref10_Next_k1 p0 x25 []
noncomputable def ref10_Needed_l1b (p0 : TFunc) (p1 : Int) (xs21 : List Bool) (xs24 : List Int) : Option (((List Bool) × (List Int)) ⊕ Bool) :=
  if decide (0 < (xs24.length : Int)) then
  (ix xs24 0).bind fun x40 =>
  (cutL xs24 1 (xs24.length : Int)).bind fun xs54 =>
  (ix xs21 x40).bind fun x62 =>
  if x62 then
  some (Sum.inl (xs21, xs54))
  else
  (ix xs21 x40).bind fun x79 =>
  (ix p0.code x40).bind fun x91 =>
  (ref10_reads x91 p1).bind fun x105 =>
  if x105 then
  (some true).map Sum.inr
  else
  (ix p0.code x40).bind fun x121 =>
  if decide (x121.d ≠ p1) then
  (ref10_Next p0 x40).bind fun x137 =>
  (ap xs54 x137).bind fun xs147 =>
  some (Sum.inl (xs21.set (Int.toNat x40) true, xs147))
  else
  some (Sum.inl (xs21.set (Int.toNat x40) true, xs54))
  else
  (some false).map Sum.inr
noncomputable def ref10_Needed_l1 (p0 : TFunc) (p1 : Int) (xs21 : List Bool) (xs24 : List Int) : Option Bool := loopO (fun s => ref10_Needed_l1b p0 p1 s.1 s.2) (xs21, xs24)
noncomputable def ref10_Needed (p0 : TFunc) (p1 : Int) (p2 : Int) : Option Bool :=
  (mk (p0.code.length : Int) false).bind fun xs8 =>
  ref10_Needed_l1 p0 p1 xs8 [p2]
noncomputable def law10_FlowLive_l2b (p0 : TFunc) (x54 : Int) (x92 : List Bool) (x103 : Int) : Option (Int ⊕ (Int ⊕ Bool)) :=
  if decide (x103 < (x92.length : Int)) then
  (ix x92 x103).bind fun x116 =>
  (ref10_Needed p0 x103 x54).bind fun x128 =>
  if !(x116 == x128) then
  ((some false).map Sum.inr).map Sum.inr
  else
  some (Sum.inl (w64 (x103 + 1)))
  else
  (some (Sum.inl (w64 (x54 + 1)))).map Sum.inr
noncomputable def law10_FlowLive_l2 (p0 : TFunc) (x54 : Int) (x92 : List Bool) (x103 : Int) : Option (Int ⊕ Bool) := loopO (fun s => law10_FlowLive_l2b p0 x54 x92 s) x103
noncomputable def law10_FlowLive_l1b (p0 : TFunc) (x38 : List (List Bool)) (x54 : Int) : Option (Int ⊕ Bool) :=
  if decide (x54 < (x38.length : Int)) then
  (ix x38 x54).bind fun x69 =>
  if decide ((x69.length : Int) ≠ p0.regs) then
  (some false).map Sum.inr
  else
  (ix x38 x54).bind fun x92 =>
  law10_FlowLive_l2 p0 x54 x92 0
  else
  (some true).map Sum.inr
noncomputable def law10_FlowLive_l1 (p0 : TFunc) (x38 : List (List Bool)) (x54 : Int) : Option Bool := loopO (fun s => law10_FlowLive_l1b p0 x38 s) x54
noncomputable def law10_FlowLive (p0 : TFunc) : Option Bool :=
  (law10_alive).bind fun x8 =>
  if !x8 then
  some false
  else
  (law10_great p0).bind fun x24 =>
  if x24 then
  some true
  else
  (flow_Live p0).bind fun x38 =>
  if decide ((x38.length : Int) ≠ (p0.code.length : Int)) then
  some false
  else
  law10_FlowLive_l1 p0 x38 0
noncomputable def law10_FlowReads_k1 (x183 : Int) : Option (Int ⊕ (Int ⊕ Bool)) :=
  some (Sum.inl (w64 (x183 + 1)))
noncomputable def law10_FlowReads_l5b (x38 : List (List Bool)) (x63 : TIns) (x183 : Int) (x281 : List Int) (x291 : Bool) (x292 : Int) : Option ((Bool × Int) ⊕ (Int ⊕ (Int ⊕ Bool))) :=
  if decide (x292 < (x281.length : Int)) then
  (ix x281 x292).bind fun x310 =>
  (if x291 then
  some true
  else
  (ix x38 x310).bind fun x347 =>
  (ix x347 x183).bind fun x358 =>
  (if x358 then
  (ir_Def x63).bind fun x383 =>
  some (decide (x383 ≠ x183))
  else
  some false).bind fun y369 =>
  some y369).bind fun y324 =>
  some (Sum.inl (y324, w64 (x292 + 1)))
  else
  (if !x291 then
  ((some false).map Sum.inr).map Sum.inr
  else
  law10_FlowReads_k1 x183 ).map Sum.inr
noncomputable def law10_FlowReads_l5 (x38 : List (List Bool)) (x63 : TIns) (x183 : Int) (x281 : List Int) (x291 : Bool) (x292 : Int) : Option (Int ⊕ (Int ⊕ Bool)) := loopO (fun s => law10_FlowReads_l5b x38 x63 x183 x281 s.1 s.2) (x291, x292)
noncomputable def law10_FlowReads_l4b (p0 : TFunc) (x38 : List (List Bool)) (x48 : Int) (x63 : TIns) (x183 : Int) (x229 : List Int) (x239 : Bool) (x240 : Int) : Option ((Bool × Int) ⊕ (Int ⊕ (Int ⊕ Bool))) :=
  if decide (x240 < (x229.length : Int)) then
  (ix x229 x240).bind fun x257 =>
  some (Sum.inl (x239 || (decide (x257 = x183)), w64 (x240 + 1)))
  else
  ((flow_Next p0 x48).bind fun x281 =>
  law10_FlowReads_l5 x38 x63 x183 x281 x239 0).map Sum.inr
noncomputable def law10_FlowReads_l4 (p0 : TFunc) (x38 : List (List Bool)) (x48 : Int) (x63 : TIns) (x183 : Int) (x229 : List Int) (x239 : Bool) (x240 : Int) : Option (Int ⊕ (Int ⊕ Bool)) := loopO (fun s => law10_FlowReads_l4b p0 x38 x48 x63 x183 x229 s.1 s.2) (x239, x240)
noncomputable def law10_FlowReads_l3b (p0 : TFunc) (x38 : List (List Bool)) (x48 : Int) (x63 : TIns) (x167 : List Bool) (x183 : Int) : Option (Int ⊕ (Int ⊕ Bool)) :=
  if decide (x183 < (x167.length : Int)) then
  (ix x38 x48).bind fun x201 =>
  (ix x201 x183).bind fun x212 =>
  if !x212 then
  law10_FlowReads_k1 x183 
  else
  (ir_Uses x63).bind fun x229 =>
  law10_FlowReads_l4 p0 x38 x48 x63 x183 x229 false 0
  else
  (some (Sum.inl (w64 (x48 + 1)))).map Sum.inr
noncomputable def law10_FlowReads_l3 (p0 : TFunc) (x38 : List (List Bool)) (x48 : Int) (x63 : TIns) (x167 : List Bool) (x183 : Int) : Option (Int ⊕ Bool) := loopO (fun s => law10_FlowReads_l3b p0 x38 x48 x63 x167 s) x183
noncomputable def law10_FlowReads_l2b (p0 : TFunc) (x38 : List (List Bool)) (x48 : Int) (x63 : TIns) (x85 : List Int) (x95 : Int) : Option (Int ⊕ (Int ⊕ Bool)) :=
  if decide (x95 < (x85.length : Int)) then
  (ix x85 x95).bind fun x112 =>
  (ix x38 x48).bind fun x126 =>
  (ix x126 x112).bind fun x142 =>
  if !x142 then
  ((some false).map Sum.inr).map Sum.inr
  else
  some (Sum.inl (w64 (x95 + 1)))
  else
  ((ix x38 x48).bind fun x167 =>
  law10_FlowReads_l3 p0 x38 x48 x63 x167 0).map Sum.inr
noncomputable def law10_FlowReads_l2 (p0 : TFunc) (x38 : List (List Bool)) (x48 : Int) (x63 : TIns) (x85 : List Int) (x95 : Int) : Option (Int ⊕ Bool) := loopO (fun s => law10_FlowReads_l2b p0 x38 x48 x63 x85 s) x95
noncomputable def law10_FlowReads_l1b (p0 : TFunc) (x38 : List (List Bool)) (x48 : Int) : Option (Int ⊕ Bool) :=
  if decide (x48 < (p0.code.length : Int)) then
  (ix p0.code x48).bind fun x63 =>
  (ir_Uses x63).bind fun x85 =>
  law10_FlowReads_l2 p0 x38 x48 x63 x85 0
  else
  (some true).map Sum.inr
noncomputable def law10_FlowReads_l1 (p0 : TFunc) (x38 : List (List Bool)) (x48 : Int) : Option Bool := loopO (fun s => law10_FlowReads_l1b p0 x38 s) x48
noncomputable def law10_FlowReads (p0 : TFunc) : Option Bool :=
  (law10_alive).bind fun x8 =>
  if !x8 then
  some false
  else
  (law10_great p0).bind fun x24 =>
  if x24 then
  some true
  else
  (flow_Live p0).bind fun x38 =>
  law10_FlowReads_l1 p0 x38 0
noncomputable def flow_Reached_k1 (xs42 : List Bool) (xs45 : List Int) : Option (((List Bool) × (List Int)) ⊕ (List Bool)) :=
  (cutL xs45 1 (xs45.length : Int)).bind fun xs50 =>
  some (Sum.inl (xs42, xs50))
noncomputable def flow_Reached_l1b (p0 : TFunc) (xs23 : List Bool) (xs26 : List Int) : Option (((List Bool) × (List Int)) ⊕ (List Bool)) :=
  if decide (0 < (xs26.length : Int)) then
  (ix xs26 0).bind fun x58 =>
  (if decide (x58 < (xs23.length : Int)) then
  (ix xs23 x58).bind fun x125 =>
  some (!x125)
  else
  some false).bind fun y72 =>
  if y72 then
  (ix xs23 x58).bind fun x85 =>
  (flow_Next p0 x58).bind fun x103 =>
  (ap xs26 x103).bind fun xs113 =>
  flow_Reached_k1 (xs23.set (Int.toNat x58) true) xs113
  else
  flow_Reached_k1 xs23 xs26
  else
  (some xs23).map Sum.inr
noncomputable def flow_Reached_l1 (p0 : TFunc) (xs23 : List Bool) (xs26 : List Int) : Option (List Bool) := loopO (fun s => flow_Reached_l1b p0 s.1 s.2) (xs23, xs26)
noncomputable def flow_Reached (p0 : TFunc) : Option (List Bool) :=
  (mk (p0.code.length : Int) false).bind fun xs10 =>
  flow_Reached_l1 p0 xs10 [0]
noncomputable def ref10_Reached_l1b (p0 : TFunc) (p1 : Int) (xs21 : List Bool) (xs24 : List Int) : Option (((List Bool) × (List Int)) ⊕ Bool) :=
  if decide (0 < (xs24.length : Int)) then
  (ix xs24 0).bind fun x40 =>
  (cutL xs24 1 (xs24.length : Int)).bind fun xs54 =>
  if decide (x40 = p1) then
  (some true).map Sum.inr
  else
  (ix xs21 x40).bind fun x70 =>
  if !x70 then
  (ix xs21 x40).bind fun x87 =>
  (ref10_Next p0 x40).bind fun x100 =>
  (ap xs54 x100).bind fun xs110 =>
  some (Sum.inl (xs21.set (Int.toNat x40) true, xs110))
  else
  some (Sum.inl (xs21, xs54))
  else
  (some false).map Sum.inr
noncomputable def ref10_Reached_l1 (p0 : TFunc) (p1 : Int) (xs21 : List Bool) (xs24 : List Int) : Option Bool := loopO (fun s => ref10_Reached_l1b p0 p1 s.1 s.2) (xs21, xs24)
noncomputable def ref10_Reached (p0 : TFunc) (p1 : Int) : Option Bool :=
  (mk (p0.code.length : Int) false).bind fun xs8 =>
  ref10_Reached_l1 p0 p1 xs8 [0]
noncomputable def law10_FlowNext_k2 (x54 : Int) (x162 : Bool) : Option (Int ⊕ Bool) :=
  if x162 then
  (some false).map Sum.inr
  else
  some (Sum.inl (w64 (x54 + 1)))
noncomputable def law10_FlowNext_l2b (p0 : TFunc) (x38 : List Bool) (x54 : Int) (x75 : List Int) (x86 : List Int) (x105 : Int) : Option (Int ⊕ (Int ⊕ Bool)) :=
  if decide (x105 < (x75.length : Int)) then
  (ix x75 x105).bind fun x122 =>
  (ix x86 x105).bind fun x136 =>
  if decide (x122 ≠ x136) then
  ((some false).map Sum.inr).map Sum.inr
  else
  some (Sum.inl (w64 (x105 + 1)))
  else
  (if (decide (0 ≤ x54)) && (decide (x54 < (x38.length : Int))) then
  (ix x38 x54).bind fun x183 =>
  (ref10_Reached p0 x54).bind fun x198 =>
  law10_FlowNext_k2 x54 (!(x183 == x198))
  else
  law10_FlowNext_k2 x54 false).map Sum.inr
noncomputable def law10_FlowNext_l2 (p0 : TFunc) (x38 : List Bool) (x54 : Int) (x75 : List Int) (x86 : List Int) (x105 : Int) : Option (Int ⊕ Bool) := loopO (fun s => law10_FlowNext_l2b p0 x38 x54 x75 x86 s) x105
noncomputable def law10_FlowNext_k1 (p0 : TFunc) (x38 : List Bool) (x54 : Int) (x69 : Int) : Option (Int ⊕ Bool) :=
  (flow_Next p0 x69).bind fun x75 =>
  (ref10_Next p0 x69).bind fun x86 =>
  if decide ((x75.length : Int) ≠ (x86.length : Int)) then
  (some false).map Sum.inr
  else
  law10_FlowNext_l2 p0 x38 x54 x75 x86 0
noncomputable def law10_FlowNext_l1b (p0 : TFunc) (p1 : Int) (x38 : List Bool) (x54 : Int) : Option (Int ⊕ Bool) :=
  if decide (x54 ≤ (p0.code.length : Int)) then
  if decide (x54 = (p0.code.length : Int)) then
  law10_FlowNext_k1 p0 x38 x54 p1
  else
  law10_FlowNext_k1 p0 x38 x54 x54
  else
  (some true).map Sum.inr
noncomputable def law10_FlowNext_l1 (p0 : TFunc) (p1 : Int) (x38 : List Bool) (x54 : Int) : Option Bool := loopO (fun s => law10_FlowNext_l1b p0 p1 x38 s) x54
noncomputable def law10_FlowNext (p0 : TFunc) (p1 : Int) : Option Bool :=
  (law10_alive).bind fun x8 =>
  if !x8 then
  some false
  else
  (law10_great p0).bind fun x24 =>
  if x24 then
  some true
  else
  (flow_Reached p0).bind fun x38 =>
  if decide ((x38.length : Int) ≠ (p0.code.length : Int)) then
  some false
  else
  law10_FlowNext_l1 p0 p1 x38 (-1)
noncomputable def law10_FlowWays_l2b (p0 : TFunc) (x38 : List Bool) (x70 : Int) (x85 : Bool) (x95 : List Int) (x105 : Int) : Option (Int ⊕ (Int ⊕ Bool)) :=
  if decide (x105 < (x95.length : Int)) then
  (ix x95 x105).bind fun x121 =>
  (if (decide (x121 < 0)) || (decide ((p0.code.length : Int) ≤ x121)) then
  some true
  else
  (if x85 then
  (ix x38 x121).bind fun x184 =>
  some (!x184)
  else
  some false).bind fun y170 =>
  some y170).bind fun y143 =>
  if y143 then
  ((some false).map Sum.inr).map Sum.inr
  else
  some (Sum.inl (w64 (x105 + 1)))
  else
  (some (Sum.inl (w64 (x70 + 1)))).map Sum.inr
noncomputable def law10_FlowWays_l2 (p0 : TFunc) (x38 : List Bool) (x70 : Int) (x85 : Bool) (x95 : List Int) (x105 : Int) : Option (Int ⊕ Bool) := loopO (fun s => law10_FlowWays_l2b p0 x38 x70 x85 x95 s) x105
noncomputable def law10_FlowWays_l1b (p0 : TFunc) (x38 : List Bool) (x70 : Int) : Option (Int ⊕ Bool) :=
  if decide (x70 < (x38.length : Int)) then
  (ix x38 x70).bind fun x85 =>
  (flow_Next p0 x70).bind fun x95 =>
  law10_FlowWays_l2 p0 x38 x70 x85 x95 0
  else
  (some true).map Sum.inr
noncomputable def law10_FlowWays_l1 (p0 : TFunc) (x38 : List Bool) (x70 : Int) : Option Bool := loopO (fun s => law10_FlowWays_l1b p0 x38 s) x70
noncomputable def law10_FlowWays (p0 : TFunc) : Option Bool :=
  (law10_alive).bind fun x8 =>
  if !x8 then
  some false
  else
  (law10_great p0).bind fun x24 =>
  if x24 then
  some true
  else
  (flow_Reached p0).bind fun x38 =>
  (ix x38 0).bind fun x48 =>
  if !x48 then
  some false
  else
  law10_FlowWays_l1 p0 x38 0
end Go.Vm.G10
