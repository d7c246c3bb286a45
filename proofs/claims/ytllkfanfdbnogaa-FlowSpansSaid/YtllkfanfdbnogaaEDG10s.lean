/-
  What functions compute, as plain functions.
-/
import Derived.Test.YtllkfanfdbnogaaESp10
set_option linter.unusedSimpArgs false
set_option linter.unusedVariables false
namespace Go.Vm.G10s
open Go

structure TIns where
  op : Int
  d : Int
  a : Int
  b : Int
  imm : Int
  args : List Int
  what : Int
  volatile : Bool
  final : Bool
def RT_TIns : RT TIns := ⟨9, fun V cs x => ∃ v1 : Value, cs = [.int .i64 x.op, .int .i64 x.d, .int .i64 x.a, .int .i64 x.b, .int .i64 x.imm, v1, .int .i64 x.what, .bool x.volatile, .bool x.final] ∧ Fz (RT.int .i64) V v1 x.args, ⟨fun _ _ _ ⟨v1, h, f1⟩ => by rw [h]; rfl, fun _ _ _ ⟨v1, h, f1⟩ => by rw [h]; have := f1.one; simp only [List.all_cons, List.all_nil, *]; rfl, fun _ _ _ _ he ⟨v1, h, f1⟩ => ⟨v1, h, f1.up he⟩⟩⟩
structure TFunc where
  name : ByteArray
  params : Int
  regs : Int
  code : List TIns
def RT_TFunc : RT TFunc := ⟨4, fun V cs x => ∃ v1 : Value, cs = [.string x.name, .int .i64 x.params, .int .i64 x.regs, v1] ∧ Fz RT_TIns V v1 x.code, ⟨fun _ _ _ ⟨v1, h, f1⟩ => by rw [h]; rfl, fun _ _ _ ⟨v1, h, f1⟩ => by rw [h]; have := f1.one; simp only [List.all_cons, List.all_nil, *]; rfl, fun _ _ _ _ he ⟨v1, h, f1⟩ => ⟨v1, h, f1.up he⟩⟩⟩
structure Tflow_Span where
  reg : Int
  from_ : Int
  to_ : Int
def RT_Tflow_Span : RT Tflow_Span := ⟨3, fun V cs x => cs = [.int .i64 x.reg, .int .i64 x.from_, .int .i64 x.to_], ⟨fun _ _ _ h => by rw [h]; rfl, fun _ _ _ h => by rw [h]; rfl, fun _ _ _ _ he h => h⟩⟩

def str1 : ByteArray := ⟨(([0, 1, 2, 2, 3, 3, 3, 3, 4, 4, 4, 4, 4, 4, 4, 4, 5, 5, 5, 5, 5, 5, 5, 5, 5, 5, 5, 5, 5, 5, 5, 5, 6, 6, 6, 6, 6, 6, 6, 6, 6, 6, 6, 6, 6, 6, 6, 6, 6, 6, 6, 6, 6, 6, 6, 6, 6, 6, 6, 6, 6, 6, 6, 6].append [7, 7, 7, 7, 7, 7, 7, 7, 7, 7, 7, 7, 7, 7, 7, 7, 7, 7, 7, 7, 7, 7, 7, 7, 7, 7, 7, 7, 7, 7, 7, 7, 7, 7, 7, 7, 7, 7, 7, 7, 7, 7, 7, 7, 7, 7, 7, 7, 7, 7, 7, 7, 7, 7, 7, 7, 7, 7, 7, 7, 7, 7, 7, 7]).append ([8, 8, 8, 8, 8, 8, 8, 8, 8, 8, 8, 8, 8, 8, 8, 8, 8, 8, 8, 8, 8, 8, 8, 8, 8, 8, 8, 8, 8, 8, 8, 8, 8, 8, 8, 8, 8, 8, 8, 8, 8, 8, 8, 8, 8, 8, 8, 8, 8, 8, 8, 8, 8, 8, 8, 8, 8, 8, 8, 8, 8, 8, 8, 8].append [8, 8, 8, 8, 8, 8, 8, 8, 8, 8, 8, 8, 8, 8, 8, 8, 8, 8, 8, 8, 8, 8, 8, 8, 8, 8, 8, 8, 8, 8, 8, 8, 8, 8, 8, 8, 8, 8, 8, 8, 8, 8, 8, 8, 8, 8, 8, 8, 8, 8, 8, 8, 8, 8, 8, 8, 8, 8, 8, 8, 8, 8, 8, 8])).toArray⟩
noncomputable def flow_place_c1 (p0 : TIns) (p1 : Int) : Option Bool :=
  some ((decide (p0.op = 11)) && (decide (p0.imm = p1)))
noncomputable def slices_IndexFunc_l1b (p0 : List TIns) (p1_10 : Int) (x6 : Int) : Option (Int ⊕ Int) :=
  if decide (x6 < (p0.length : Int)) then
  (ix p0 x6).bind fun x19 =>
  (flow_place_c1 x19 p1_10).bind fun x33 =>
  if x33 then
  (some x6).map Sum.inr
  else
  some (Sum.inl (w64 (x6 + 1)))
  else
  (some (-1)).map Sum.inr
noncomputable def slices_IndexFunc_l1 (p0 : List TIns) (p1_10 : Int) (x6 : Int) : Option Int := loopO (fun s => slices_IndexFunc_l1b p0 p1_10 s) x6
noncomputable def slices_IndexFunc (p0 : List TIns) (p1_10 : Int) : Option Int :=
  slices_IndexFunc_l1 p0 p1_10 0
noncomputable def flow_place (p0 : TFunc) (p1 : Int) : Option Int :=
  (slices_IndexFunc p0.code p1).bind fun x14 =>
  some x14
noncomputable def slices_Index_l1b (p0 : List Int) (p1 : Int) (x3 : Int) : Option (Int ⊕ Int) :=
  if decide (x3 < (p0.length : Int)) then
  (ix p0 x3).bind fun x16 =>
  if decide (p1 = x16) then
  (some x3).map Sum.inr
  else
  some (Sum.inl (w64 (x3 + 1)))
  else
  (some (-1)).map Sum.inr
noncomputable def slices_Index_l1 (p0 : List Int) (p1 : Int) (x3 : Int) : Option Int := loopO (fun s => slices_Index_l1b p0 p1 s) x3
noncomputable def slices_Index (p0 : List Int) (p1 : Int) : Option Int :=
  slices_Index_l1 p0 p1 0
noncomputable def slices_Contains (p0 : List Int) (p1 : Int) : Option Bool :=
  (slices_Index p0 p1).bind fun x3 =>
  some (decide (0 ≤ x3))
noncomputable def flow_Next_k2 (xs55 : List Int) : Option (List Int) :=
  some xs55
noncomputable def flow_Next_k1 (p0 : TFunc) (x25 : TIns) (xs48 : List Int) : Option (List Int) :=
  if ((decide (x25.op = 12)) || (decide (x25.op = 13))) || (decide (x25.op = 17)) then
  (flow_place p0 x25.imm).bind fun x76 =>
  (if decide (0 ≤ x76) then
  (slices_Contains xs48 x76).bind fun x118 =>
  some (!x118)
  else
  some false).bind fun y84 =>
  if y84 then
  (ap xs48 [x76]).bind fun xs101 =>
  flow_Next_k2 xs101
  else
  flow_Next_k2 xs48
  else
  flow_Next_k2 xs48
noncomputable def flow_Next (p0 : TFunc) (p1 : Int) : Option (List Int) :=
  if (decide (p1 < 0)) || (decide ((p0.code.length : Int) ≤ p1)) then
  some []
  else
  (ix p0.code p1).bind fun x25 =>
  if (((decide (x25.op ≠ 12)) && (decide (x25.op ≠ 15))) && (decide (x25.op ≠ 16))) && (decide ((w64 (p1 + 1)) < (p0.code.length : Int))) then
  (ap [] [w64 (p1 + 1)]).bind fun xs167 =>
  flow_Next_k1 p0 x25 xs167
  else
  flow_Next_k1 p0 x25 []
noncomputable def flow_set_merge_l1b (p1 : List Bool) (xs5 : List Bool) (x6 : Bool) (x7 : Int) : Option (((List Bool) × Bool × Int) ⊕ (Bool × (List Bool))) :=
  if decide (x7 < (p1.length : Int)) then
  (ix p1 x7).bind fun x20 =>
  (if x6 then
  some true
  else
  (if x20 then
  (ix xs5 x7).bind fun x97 =>
  some (!x97)
  else
  some false).bind fun y83 =>
  some y83).bind fun y34 =>
  (ix xs5 x7).bind fun x48 =>
  (ix xs5 x7).bind fun x66 =>
  some (Sum.inl (xs5.set (Int.toNat x7) (x48 || x20), y34, w64 (x7 + 1)))
  else
  (some (x6, xs5)).map Sum.inr
noncomputable def flow_set_merge_l1 (p1 : List Bool) (xs5 : List Bool) (x6 : Bool) (x7 : Int) : Option (Bool × (List Bool)) := loopO (fun s => flow_set_merge_l1b p1 s.1 s.2.1 s.2.2) (xs5, x6, x7)
noncomputable def flow_set_merge (p0 : List Bool) (p1 : List Bool) : Option (Bool × (List Bool)) :=
  flow_set_merge_l1 p1 p0 false 0
noncomputable def slices_Clone (p0 : List Bool) : Option (List Bool) :=
  (ap [] p0).bind fun xs15 =>
  some xs15
noncomputable def ir_Def (p0 : TIns) : Option Int :=
  some p0.d
noncomputable def ir_Uses_k1 (x27 : Int) (xs45 : List Int) : Option (((List Int) × Int) ⊕ (List Int)) :=
  some (Sum.inl (xs45, w64 (x27 + 1)))
noncomputable def ir_Uses_l1b (xs16 : List Int) (xs26 : List Int) (x27 : Int) : Option (((List Int) × Int) ⊕ (List Int)) :=
  if decide (x27 < (xs16.length : Int)) then
  (ix xs16 x27).bind fun x50 =>
  if decide (0 ≤ x50) then
  (ap xs26 [x50]).bind fun xs71 =>
  ir_Uses_k1 x27 xs71
  else
  ir_Uses_k1 x27 xs26
  else
  (some xs26).map Sum.inr
noncomputable def ir_Uses_l1 (xs16 : List Int) (xs26 : List Int) (x27 : Int) : Option (List Int) := loopO (fun s => ir_Uses_l1b xs16 s.1 s.2) (xs26, x27)
noncomputable def ir_Uses (p0 : TIns) : Option (List Int) :=
  (ap [p0.a, p0.b] p0.args).bind fun xs16 =>
  ir_Uses_l1 xs16 [] 0
noncomputable def flow_step_k2 (x40 : Int) (xs57 : List Bool) : Option (((List Bool) × Int) ⊕ (List Bool)) :=
  some (Sum.inl (xs57, w64 (x40 + 1)))
noncomputable def flow_step_l1b (x29 : List Int) (xs39 : List Bool) (x40 : Int) : Option (((List Bool) × Int) ⊕ (List Bool)) :=
  if decide (x40 < (x29.length : Int)) then
  (ix x29 x40).bind fun x62 =>
  if decide (x62 < (xs39.length : Int)) then
  (ix xs39 x62).bind fun x78 =>
  flow_step_k2 x40 (xs39.set (Int.toNat x62) true)
  else
  flow_step_k2 x40 xs39
  else
  (some xs39).map Sum.inr
noncomputable def flow_step_l1 (x29 : List Int) (xs39 : List Bool) (x40 : Int) : Option (List Bool) := loopO (fun s => flow_step_l1b x29 s.1 s.2) (xs39, x40)
noncomputable def flow_step_k1 (p0 : TIns) (xs23 : List Bool) : Option (List Bool) :=
  (ir_Uses p0).bind fun x29 =>
  flow_step_l1 x29 xs23 0
noncomputable def flow_step (p0 : TIns) (p1 : List Bool) : Option (List Bool) :=
  (slices_Clone p1).bind fun x13 =>
  (ir_Def p0).bind fun x103 =>
  if (decide (0 ≤ x103)) && (decide (x103 < (x13.length : Int))) then
  (ix x13 x103).bind fun x120 =>
  flow_step_k1 p0 (x13.set (Int.toNat x103) false)
  else
  flow_step_k1 p0 x13
noncomputable def flow_Live_k1 (x121 : Int) (xs134 : List (List Bool)) (x135 : Bool) : Option (((List (List Bool)) × Bool × Int) ⊕ (((List (List Bool)) × Bool) ⊕ (List (List Bool)))) :=
  some (Sum.inl (xs134, x135, w64 (x121 - 1)))
noncomputable def flow_Live_l4b (p0 : TFunc) (xs31 : List (List Int)) (xs119 : List (List Bool)) (x120 : Bool) (x121 : Int) (x148 : List Int) (xs162 : List Bool) (x163 : Int) : Option (((List Bool) × Int) ⊕ (((List (List Bool)) × Bool × Int) ⊕ (((List (List Bool)) × Bool) ⊕ (List (List Bool))))) :=
  if decide (x163 < (x148.length : Int)) then
  (ix xs31 x121).bind fun x180 =>
  (ix x180 x163).bind fun x187 =>
  (ix xs119 x187).bind fun x201 =>
  (flow_set_merge xs162 x201).bind fun x215 =>
  some (Sum.inl (x215.2, w64 (x163 + 1)))
  else
  ((ix xs119 x121).bind fun x231 =>
  (ix p0.code x121).bind fun x244 =>
  (flow_step x244 xs162).bind fun x259 =>
  (flow_set_merge x231 x259).bind fun x273 =>
  if x273.1 then
  flow_Live_k1 x121 (xs119.set (Int.toNat x121) x273.2) true
  else
  flow_Live_k1 x121 (xs119.set (Int.toNat x121) x273.2) x120).map Sum.inr
noncomputable def flow_Live_l4 (p0 : TFunc) (xs31 : List (List Int)) (xs119 : List (List Bool)) (x120 : Bool) (x121 : Int) (x148 : List Int) (xs162 : List Bool) (x163 : Int) : Option (((List (List Bool)) × Bool × Int) ⊕ (((List (List Bool)) × Bool) ⊕ (List (List Bool)))) := loopO (fun s => flow_Live_l4b p0 xs31 xs119 x120 x121 x148 s.1 s.2) (xs162, x163)
noncomputable def flow_Live_l3b (p0 : TFunc) (xs31 : List (List Int)) (xs119 : List (List Bool)) (x120 : Bool) (x121 : Int) : Option (((List (List Bool)) × Bool × Int) ⊕ (((List (List Bool)) × Bool) ⊕ (List (List Bool)))) :=
  if decide (0 ≤ x121) then
  (mk (max p0.regs 0) false).bind fun xs140 =>
  (ix xs31 x121).bind fun x148 =>
  flow_Live_l4 p0 xs31 xs119 x120 x121 x148 xs140 0
  else
  (some (Sum.inl (xs119, x120))).map Sum.inr
noncomputable def flow_Live_l3 (p0 : TFunc) (xs31 : List (List Int)) (xs119 : List (List Bool)) (x120 : Bool) (x121 : Int) : Option (((List (List Bool)) × Bool) ⊕ (List (List Bool))) := loopO (fun s => flow_Live_l3b p0 xs31 s.1 s.2.1 s.2.2) (xs119, x120, x121)
noncomputable def flow_Live_l5b (xs105 : List (List Bool)) (xs296 : List (List Bool)) (xs297 : List (List Bool)) (x300 : Int) : Option (((List (List Bool)) × (List (List Bool)) × Int) ⊕ (List (List Bool))) :=
  if decide (x300 < (xs105.length : Int)) then
  (ix xs297 x300).bind fun x323 =>
  (ap xs296 [x323]).bind fun xs341 =>
  some (Sum.inl (xs341, xs297, w64 (x300 + 1)))
  else
  (some xs296).map Sum.inr
noncomputable def flow_Live_l5 (xs105 : List (List Bool)) (xs296 : List (List Bool)) (xs297 : List (List Bool)) (x300 : Int) : Option (List (List Bool)) := loopO (fun s => flow_Live_l5b xs105 s.1 s.2.1 s.2.2) (xs296, xs297, x300)
noncomputable def flow_Live_l2b (p0 : TFunc) (xs31 : List (List Int)) (xs105 : List (List Bool)) (x106 : Bool) : Option (((List (List Bool)) × Bool) ⊕ (List (List Bool))) :=
  if x106 then
  flow_Live_l3 p0 xs31 xs105 false (w64 ((p0.code.length : Int) - 1))
  else
  (flow_Live_l5 xs105 [] xs105 0).map Sum.inr
noncomputable def flow_Live_l2 (p0 : TFunc) (xs31 : List (List Int)) (xs105 : List (List Bool)) (x106 : Bool) : Option (List (List Bool)) := loopO (fun s => flow_Live_l2b p0 xs31 s.1 s.2) (xs105, x106)
noncomputable def flow_Live_l1b (p0 : TFunc) (xs10 : List (List Bool)) (xs29 : List (List Bool)) (xs31 : List (List Int)) (x32 : Int) : Option (((List (List Bool)) × (List (List Int)) × Int) ⊕ (List (List Bool))) :=
  if decide (x32 < (xs10.length : Int)) then
  (mk (max p0.regs 0) false).bind fun xs48 =>
  (ix xs29 x32).bind fun x56 =>
  (flow_Next p0 x32).bind fun x74 =>
  (ix xs31 x32).bind fun x84 =>
  some (Sum.inl (xs29.set (Int.toNat x32) xs48, xs31.set (Int.toNat x32) x74, w64 (x32 + 1)))
  else
  (flow_Live_l2 p0 xs31 xs29 true).map Sum.inr
noncomputable def flow_Live_l1 (p0 : TFunc) (xs10 : List (List Bool)) (xs29 : List (List Bool)) (xs31 : List (List Int)) (x32 : Int) : Option (List (List Bool)) := loopO (fun s => flow_Live_l1b p0 xs10 s.1 s.2.1 s.2.2) (xs29, xs31, x32)
noncomputable def flow_Live (p0 : TFunc) : Option (List (List Bool)) :=
  (mk (p0.code.length : Int) ([] : List Bool)).bind fun xs10 =>
  (mk (p0.code.length : Int) ([] : List Int)).bind fun xs19 =>
  flow_Live_l1 p0 xs10 xs10 xs19 0
noncomputable def law10_alive : Option Bool :=
  (flow_Live (⟨ByteArray.empty, 0, 1, [(⟨1, 0, (-1), (-1), 0, [], 0, false, false⟩ : TIns), (⟨15, (-1), 0, (-1), 0, [], 0, false, false⟩ : TIns)]⟩ : TFunc)).bind fun x20 =>
  (if decide ((x20.length : Int) = 2) then
  (ix x20 0).bind fun x90 =>
  (ix x90 0).bind fun x106 =>
  some (!x106)
  else
  some false).bind fun y30 =>
  (if y30 then
  (ix x20 1).bind fun x58 =>
  (ix x58 0).bind fun x74 =>
  some x74
  else
  some false).bind fun y42 =>
  some y42
noncomputable def ref08_has_k5 (x49 : Bool) : Option (Bool × Bool × Bool × Bool) :=
  if x49 then
  some (false, true, false, false)
  else
  some (false, false, false, false)
noncomputable def ref08_has_k4 (p0 : Int) (x32 : Bool) : Option (Bool × Bool × Bool × Bool) :=
  if x32 then
  some (false, false, false, true)
  else
  if decide (p0 = 13) then
  some (false, true, false, true)
  else
  if decide (p0 = 17) then
  some (true, true, false, true)
  else
  if decide (p0 = 15) then
  ref08_has_k5 true
  else
  if decide (p0 = 18) then
  ref08_has_k5 true
  else
  if decide (p0 = 19) then
  ref08_has_k5 true
  else
  ref08_has_k5 (decide (p0 = 20))
noncomputable def ref08_has_k3 (p0 : Int) (x19 : Bool) : Option (Bool × Bool × Bool × Bool) :=
  if x19 then
  some (true, true, true, false)
  else
  if decide (p0 = 10) then
  some (false, true, true, false)
  else
  if decide (p0 = 11) then
  ref08_has_k4 p0 true
  else
  ref08_has_k4 p0 (decide (p0 = 12))
noncomputable def ref08_has_k2 (p0 : Int) (x10 : Bool) : Option (Bool × Bool × Bool × Bool) :=
  if x10 then
  some (true, true, false, false)
  else
  if decide (p0 = 3) then
  ref08_has_k3 p0 true
  else
  if decide (p0 = 4) then
  ref08_has_k3 p0 true
  else
  if decide (p0 = 5) then
  ref08_has_k3 p0 true
  else
  if decide (p0 = 6) then
  ref08_has_k3 p0 true
  else
  if decide (p0 = 7) then
  ref08_has_k3 p0 true
  else
  ref08_has_k3 p0 (decide (p0 = 8))
noncomputable def ref08_has_k1 (p0 : Int) (x1 : Bool) : Option (Bool × Bool × Bool × Bool) :=
  if x1 then
  some (true, false, false, false)
  else
  if decide (p0 = 2) then
  ref08_has_k2 p0 true
  else
  ref08_has_k2 p0 (decide (p0 = 9))
noncomputable def ref08_has (p0 : Int) : Option (Bool × Bool × Bool × Bool) :=
  if decide (p0 = 1) then
  ref08_has_k1 p0 true
  else
  ref08_has_k1 p0 (decide (p0 = 14))
noncomputable def ref08_register (p0 : Bool) (p1 : Bool) (p2 : Int) (p3 : Int) : Option Bool :=
  if !p0 then
  some (decide (p2 = (-1)))
  else
  some (((decide (0 ≤ p2)) && (decide (p2 < p3))) || (p1 && (decide (p2 = (-1)))))
noncomputable def ref08_count_k1 (x9 : Int) (x23 : Int) : Option ((Int × Int) ⊕ Int) :=
  some (Sum.inl (x23, w64 (x9 + 1)))
noncomputable def ref08_count_l1b (p0 : TFunc) (p1 : Int) (x8 : Int) (x9 : Int) : Option ((Int × Int) ⊕ Int) :=
  if decide (x9 < (p0.code.length : Int)) then
  (ix p0.code x9).bind fun x28 =>
  if (decide (x28.op = 11)) && (decide (x28.imm = p1)) then
  ref08_count_k1 x9 (w64 (x8 + 1))
  else
  ref08_count_k1 x9 x8
  else
  (some x8).map Sum.inr
noncomputable def ref08_count_l1 (p0 : TFunc) (p1 : Int) (x8 : Int) (x9 : Int) : Option Int := loopO (fun s => ref08_count_l1b p0 p1 s.1 s.2) (x8, x9)
noncomputable def ref08_count (p0 : TFunc) (p1 : Int) : Option Int :=
  ref08_count_l1 p0 p1 0 0
noncomputable def ref08_ins_k2 (p0 : TFunc) (p1 : TIns) (x27 : Bool × Bool × Bool × Bool) (x166 : Bool) : Option Bool :=
  if x166 then
  some true
  else
  if decide (p1.op = 16) then
  some (decide (0 < p1.imm))
  else
  if decide (p1.op = 22) then
  some ((decide (p1.imm = 0)) || (decide (p1.imm = 1)))
  else
  if x27.2.2.2 then
  (ref08_count p0 p1.imm).bind fun x199 =>
  some (decide (0 < x199))
  else
  some (decide (p1.imm = 0))
noncomputable def ref08_ins_l1b (p0 : TFunc) (p1 : TIns) (x27 : Bool × Bool × Bool × Bool) (x93 : Int) : Option (Int ⊕ Bool) :=
  if decide (x93 < (p1.args.length : Int)) then
  (ix p1.args x93).bind fun x106 =>
  if ((decide (p1.op ≠ 14)) || (decide (x106 < 0))) || (decide (p0.regs ≤ x106)) then
  (some false).map Sum.inr
  else
  some (Sum.inl (w64 (x93 + 1)))
  else
  (if ((decide (p1.op ≠ 9)) && (decide (p1.op ≠ 10))) && (((decide (p1.what ≠ 0)) || p1.volatile) || p1.final) then
  some false
  else
  if decide (p1.op = 1) then
  ref08_ins_k2 p0 p1 x27 true
  else
  if decide (p1.op = 9) then
  ref08_ins_k2 p0 p1 x27 true
  else
  if decide (p1.op = 10) then
  ref08_ins_k2 p0 p1 x27 true
  else
  if decide (p1.op = 14) then
  ref08_ins_k2 p0 p1 x27 true
  else
  ref08_ins_k2 p0 p1 x27 (decide (p1.op = 21))).map Sum.inr
noncomputable def ref08_ins_l1 (p0 : TFunc) (p1 : TIns) (x27 : Bool × Bool × Bool × Bool) (x93 : Int) : Option Bool := loopO (fun s => ref08_ins_l1b p0 p1 x27 s) x93
noncomputable def ref08_ins_k1 (p0 : TFunc) (p1 : TIns) (x27 : Bool × Bool × Bool × Bool) (x35 : Bool) : Option Bool :=
  (ref08_register x27.1 (decide (p1.op = 14)) p1.d p0.regs).bind fun x40 =>
  (if !x40 then
  some true
  else
  (ref08_register x35 (((decide (p1.op = 9)) || (decide (p1.op = 10))) || (decide (p1.op = 15))) p1.a p0.regs).bind fun x271 =>
  some (!x271)).bind fun y48 =>
  (if y48 then
  some true
  else
  (ref08_register x27.2.2.1 false p1.b p0.regs).bind fun x244 =>
  some (!x244)).bind fun y74 =>
  if y74 then
  some false
  else
  ref08_ins_l1 p0 p1 x27 0
noncomputable def ref08_ins (p0 : TFunc) (p1 : TIns) : Option Bool :=
  if (decide (p1.op < 1)) || (decide (22 < p1.op)) then
  some false
  else
  (ref08_has p1.op).bind fun x27 =>
  if decide (p1.op = 21) then
  if (decide (p1.imm < 1)) || (decide (3 < p1.imm)) then
  some false
  else
  ref08_ins_k1 p0 p1 x27 (decide (p1.imm = 3))
  else
  ref08_ins_k1 p0 p1 x27 x27.2.1
noncomputable def ref08_Good_l1b (p0 : TFunc) (x55 : Int) : Option (Int ⊕ Bool) :=
  if decide (x55 < (p0.code.length : Int)) then
  (ix p0.code x55).bind fun x68 =>
  (ref08_ins p0 x68).bind fun x91 =>
  (if !x91 then
  some true
  else
  (if decide (x68.op = 11) then
  (ref08_count p0 x68.imm).bind fun x144 =>
  some (decide (x144 ≠ 1))
  else
  some false).bind fun y129 =>
  some y129).bind fun y99 =>
  if y99 then
  (some false).map Sum.inr
  else
  some (Sum.inl (w64 (x55 + 1)))
  else
  (some true).map Sum.inr
noncomputable def ref08_Good_l1 (p0 : TFunc) (x55 : Int) : Option Bool := loopO (fun s => ref08_Good_l1b p0 s) x55
noncomputable def ref08_Good (p0 : TFunc) : Option Bool :=
  if ((decide ((p0.code.length : Int) = 0)) || (decide (p0.params < 0))) || (decide (p0.regs < p0.params)) then
  some false
  else
  (ix p0.code (w64 ((p0.code.length : Int) - 1))).bind fun x27 =>
  if ((decide (x27.op ≠ 12)) && (decide (x27.op ≠ 15))) && (decide (x27.op ≠ 16)) then
  some false
  else
  ref08_Good_l1 p0 0
noncomputable def law10_great_l1b (p0 : TFunc) (x8 : Int) : Option (Int ⊕ Bool) :=
  if decide (x8 < (p0.code.length : Int)) then
  (ix p0.code x8).bind fun x21 =>
  if decide (6 < (x21.args.length : Int)) then
  (some true).map Sum.inr
  else
  some (Sum.inl (w64 (x8 + 1)))
  else
  ((if (decide (40 < (p0.code.length : Int))) || (decide (12 < p0.regs)) then
  some true
  else
  (ref08_Good p0).bind fun x74 =>
  some (!x74)).bind fun y58 =>
  some y58).map Sum.inr
noncomputable def law10_great_l1 (p0 : TFunc) (x8 : Int) : Option Bool := loopO (fun s => law10_great_l1b p0 s) x8
noncomputable def law10_great (p0 : TFunc) : Option Bool :=
  law10_great_l1 p0 0
noncomputable def flow_grow_c1 (p0 : Tflow_Span) (p1 : Int) : Option Bool :=
  some (decide (p0.reg = p1))
noncomputable def slices_IndexFunc_2_l1b (p0 : List Tflow_Span) (p1_10 : Int) (x6 : Int) : Option (Int ⊕ Int) :=
  if decide (x6 < (p0.length : Int)) then
  (ix p0 x6).bind fun x19 =>
  (flow_grow_c1 x19 p1_10).bind fun x30 =>
  if x30 then
  (some x6).map Sum.inr
  else
  some (Sum.inl (w64 (x6 + 1)))
  else
  (some (-1)).map Sum.inr
noncomputable def slices_IndexFunc_2_l1 (p0 : List Tflow_Span) (p1_10 : Int) (x6 : Int) : Option Int := loopO (fun s => slices_IndexFunc_2_l1b p0 p1_10 s) x6
noncomputable def slices_IndexFunc_2 (p0 : List Tflow_Span) (p1_10 : Int) : Option Int :=
  slices_IndexFunc_2_l1 p0 p1_10 0
noncomputable def slices_IndexFunc_3_l1b (p0 : List Tflow_Span) (p1_10 : Int) (x6 : Int) : Option (Int ⊕ Int) :=
  if decide (x6 < (p0.length : Int)) then
  (ix p0 x6).bind fun x19 =>
  (flow_grow_c1 x19 p1_10).bind fun x34 =>
  if x34 then
  (some x6).map Sum.inr
  else
  some (Sum.inl (w64 (x6 + 1)))
  else
  (some (-1)).map Sum.inr
noncomputable def slices_IndexFunc_3_l1 (p0 : List Tflow_Span) (p1_10 : Int) (x6 : Int) : Option Int := loopO (fun s => slices_IndexFunc_3_l1b p0 p1_10 s) x6
noncomputable def slices_IndexFunc_3 (p0 : List Tflow_Span) (p1_10 : Int) : Option Int :=
  slices_IndexFunc_3_l1 p0 p1_10 0
noncomputable def flow_grow (p0 : List Tflow_Span) (p1 : Int) (p2 : Int) : Option (List Tflow_Span) :=
  (slices_IndexFunc_3 p0 p1).bind fun x11 =>
  if decide (x11 < 0) then
  (ap p0 [(⟨p1, p2, p2⟩ : Tflow_Span)]).bind fun xs26 =>
  some xs26
  else
  (ix p0 x11).bind fun x38 =>
  (ix p0 x11).bind fun x52 =>
  (ix p0 x11).bind fun x61 =>
  (ix (p0.set (Int.toNat x11) (⟨x61.reg, min x38.from_ p2, x61.to_⟩ : Tflow_Span)) x11).bind fun x73 =>
  some ((p0.set (Int.toNat x11) (⟨x61.reg, min x38.from_ p2, x61.to_⟩ : Tflow_Span)).set (Int.toNat x11) (⟨x73.reg, x73.from_, max x52.to_ p2⟩ : Tflow_Span))
noncomputable def math_bits_Len64_k3 (x13 : Int) (x14 : Int) : Option Int :=
  (ixS str1 (IntKind.wrap .u8 x13)).bind fun x19 =>
  some (w64 (x14 + (w64 x19)))
noncomputable def math_bits_Len64_k2 (x7 : Int) (x8 : Int) : Option Int :=
  if decide (256 ≤ x7) then
  (shrO .u64 x7 8).bind fun x25 =>
  math_bits_Len64_k3 x25 (w64 (x8 + 8))
  else
  math_bits_Len64_k3 x7 x8
noncomputable def math_bits_Len64_k1 (x1 : Int) (x2 : Int) : Option Int :=
  if decide (65536 ≤ x1) then
  (shrO .u64 x1 16).bind fun x31 =>
  math_bits_Len64_k2 x31 (w64 (x2 + 16))
  else
  math_bits_Len64_k2 x1 x2
noncomputable def math_bits_Len64 (p0 : Int) : Option Int :=
  if decide (4294967296 ≤ p0) then
  (shrO .u64 p0 32).bind fun x37 =>
  math_bits_Len64_k1 x37 32
  else
  math_bits_Len64_k1 p0 0
noncomputable def math_bits_Len (p0 : Int) : Option Int :=
  (math_bits_Len64 p0).bind fun x1 =>
  some x1
noncomputable def flow_Spans_c1 (p0 : Tflow_Span) (p1 : Tflow_Span) : Option Int :=
  if decide (p0.from_ ≠ p1.from_) then
  some (w64 (p0.from_ - p1.from_))
  else
  some (w64 (p0.reg - p1.reg))
noncomputable def slices_insertionSortCmpFunc_k1 (x4 : Int) (xs17 : List Tflow_Span) (x18 : Int) (x29 : Bool) : Option (((List Tflow_Span) × Int) ⊕ (((List Tflow_Span) × Int) ⊕ (List Tflow_Span))) :=
  if x29 then
  (ix xs17 (w64 (x18 - 1))).bind fun x36 =>
  (ix xs17 x18).bind fun x50 =>
  (ix xs17 x18).bind fun x59 =>
  (ix (xs17.set (Int.toNat x18) x36) (w64 (x18 - 1))).bind fun x71 =>
  some (Sum.inl ((xs17.set (Int.toNat x18) x36).set (Int.toNat (w64 (x18 - 1))) x50, w64 (x18 - 1)))
  else
  (some (Sum.inl (xs17, w64 (x4 + 1)))).map Sum.inr
noncomputable def slices_insertionSortCmpFunc_l2b (p1 : Int) (x4 : Int) (xs17 : List Tflow_Span) (x18 : Int) : Option (((List Tflow_Span) × Int) ⊕ (((List Tflow_Span) × Int) ⊕ (List Tflow_Span))) :=
  if decide (p1 < x18) then
  (ix xs17 x18).bind fun x87 =>
  (ix xs17 (w64 (x18 - 1))).bind fun x101 =>
  (flow_Spans_c1 x87 x101).bind fun x110 =>
  slices_insertionSortCmpFunc_k1 x4 xs17 x18 (decide (x110 < 0))
  else
  slices_insertionSortCmpFunc_k1 x4 xs17 x18 false
noncomputable def slices_insertionSortCmpFunc_l2 (p1 : Int) (x4 : Int) (xs17 : List Tflow_Span) (x18 : Int) : Option (((List Tflow_Span) × Int) ⊕ (List Tflow_Span)) := loopO (fun s => slices_insertionSortCmpFunc_l2b p1 x4 s.1 s.2) (xs17, x18)
noncomputable def slices_insertionSortCmpFunc_l1b (p1 : Int) (p2 : Int) (xs3 : List Tflow_Span) (x4 : Int) : Option (((List Tflow_Span) × Int) ⊕ (List Tflow_Span)) :=
  if decide (x4 < p2) then
  slices_insertionSortCmpFunc_l2 p1 x4 xs3 x4
  else
  (some xs3).map Sum.inr
noncomputable def slices_insertionSortCmpFunc_l1 (p1 : Int) (p2 : Int) (xs3 : List Tflow_Span) (x4 : Int) : Option (List Tflow_Span) := loopO (fun s => slices_insertionSortCmpFunc_l1b p1 p2 s.1 s.2) (xs3, x4)
noncomputable def slices_insertionSortCmpFunc (p0 : List Tflow_Span) (p1 : Int) (p2 : Int) : Option (List Tflow_Span) :=
  slices_insertionSortCmpFunc_l1 p1 p2 p0 (w64 (p1 + 1))
noncomputable def slices_siftDownCmpFunc_k1 (p3 : Int) (xs3 : List Tflow_Span) (x4 : Int) (x20 : Int) : Option (((List Tflow_Span) × Int) ⊕ (List Tflow_Span)) :=
  (ix xs3 (w64 (p3 + x4))).bind fun x25 =>
  (ix xs3 (w64 (p3 + x20))).bind fun x39 =>
  (flow_Spans_c1 x25 x39).bind fun x48 =>
  if !(decide (x48 < 0)) then
  (some xs3).map Sum.inr
  else
  (ix xs3 (w64 (p3 + x20))).bind fun x63 =>
  (ix xs3 (w64 (p3 + x4))).bind fun x72 =>
  (ix xs3 (w64 (p3 + x4))).bind fun x81 =>
  (ix (xs3.set (Int.toNat (w64 (p3 + x4))) x63) (w64 (p3 + x20))).bind fun x93 =>
  some (Sum.inl ((xs3.set (Int.toNat (w64 (p3 + x4))) x63).set (Int.toNat (w64 (p3 + x20))) x72, x20))
noncomputable def slices_siftDownCmpFunc_k2 (p3 : Int) (xs3 : List Tflow_Span) (x4 : Int) (x105 : Bool) : Option (((List Tflow_Span) × Int) ⊕ (List Tflow_Span)) :=
  if x105 then
  slices_siftDownCmpFunc_k1 p3 xs3 x4 (w64 ((w64 ((w64 (2 * x4)) + 1)) + 1))
  else
  slices_siftDownCmpFunc_k1 p3 xs3 x4 (w64 ((w64 (2 * x4)) + 1))
noncomputable def slices_siftDownCmpFunc_l1b (p2 : Int) (p3 : Int) (xs3 : List Tflow_Span) (x4 : Int) : Option (((List Tflow_Span) × Int) ⊕ (List Tflow_Span)) :=
  if decide (p2 ≤ (w64 ((w64 (2 * x4)) + 1))) then
  (some xs3).map Sum.inr
  else
  if decide ((w64 ((w64 ((w64 (2 * x4)) + 1)) + 1)) < p2) then
  (ix xs3 (w64 (p3 + (w64 ((w64 (2 * x4)) + 1))))).bind fun x115 =>
  (ix xs3 (w64 ((w64 (p3 + (w64 ((w64 (2 * x4)) + 1)))) + 1))).bind fun x129 =>
  (flow_Spans_c1 x115 x129).bind fun x138 =>
  slices_siftDownCmpFunc_k2 p3 xs3 x4 (decide (x138 < 0))
  else
  slices_siftDownCmpFunc_k2 p3 xs3 x4 false
noncomputable def slices_siftDownCmpFunc_l1 (p2 : Int) (p3 : Int) (xs3 : List Tflow_Span) (x4 : Int) : Option (List Tflow_Span) := loopO (fun s => slices_siftDownCmpFunc_l1b p2 p3 s.1 s.2) (xs3, x4)
noncomputable def slices_siftDownCmpFunc (p0 : List Tflow_Span) (p1 : Int) (p2 : Int) (p3 : Int) : Option (List Tflow_Span) :=
  slices_siftDownCmpFunc_l1 p2 p3 p0 p1
noncomputable def slices_heapSortCmpFunc_l2b (p1 : Int) (xs30 : List Tflow_Span) (x31 : Int) : Option (((List Tflow_Span) × Int) ⊕ (List Tflow_Span)) :=
  if decide (0 ≤ x31) then
  (ix xs30 (w64 (p1 + x31))).bind fun x44 =>
  (ix xs30 p1).bind fun x58 =>
  (ix xs30 p1).bind fun x67 =>
  (ix (xs30.set (Int.toNat p1) x44) (w64 (p1 + x31))).bind fun x79 =>
  (slices_siftDownCmpFunc ((xs30.set (Int.toNat p1) x44).set (Int.toNat (w64 (p1 + x31))) x58) 0 x31 p1).bind fun x91 =>
  some (Sum.inl (x91, w64 (x31 - 1)))
  else
  (some xs30).map Sum.inr
noncomputable def slices_heapSortCmpFunc_l2 (p1 : Int) (xs30 : List Tflow_Span) (x31 : Int) : Option (List Tflow_Span) := loopO (fun s => slices_heapSortCmpFunc_l2b p1 s.1 s.2) (xs30, x31)
noncomputable def slices_heapSortCmpFunc_l1b (p1 : Int) (p2 : Int) (xs6 : List Tflow_Span) (x7 : Int) : Option (((List Tflow_Span) × Int) ⊕ (List Tflow_Span)) :=
  if decide (0 ≤ x7) then
  (slices_siftDownCmpFunc xs6 x7 (w64 (p2 - p1)) p1).bind fun x20 =>
  some (Sum.inl (x20, w64 (x7 - 1)))
  else
  (slices_heapSortCmpFunc_l2 p1 xs6 (w64 ((w64 (p2 - p1)) - 1))).map Sum.inr
noncomputable def slices_heapSortCmpFunc_l1 (p1 : Int) (p2 : Int) (xs6 : List Tflow_Span) (x7 : Int) : Option (List Tflow_Span) := loopO (fun s => slices_heapSortCmpFunc_l1b p1 p2 s.1 s.2) (xs6, x7)
noncomputable def slices_heapSortCmpFunc (p0 : List Tflow_Span) (p1 : Int) (p2 : Int) : Option (List Tflow_Span) :=
  (quoO .i64 (w64 ((w64 (p2 - p1)) - 1)) 2).bind fun x3 =>
  slices_heapSortCmpFunc_l1 p1 p2 p0 x3
noncomputable def slices_order2CmpFunc (p0 : List Tflow_Span) (p1 : Int) (p2 : Int) (p3 : Int) : Option (Int × Int × Int) :=
  (ix p0 p2).bind fun x6 =>
  (ix p0 p1).bind fun x20 =>
  (flow_Spans_c1 x6 x20).bind fun x29 =>
  if decide (x29 < 0) then
  some (p2, p1, w64 (p3 + 1))
  else
  some (p1, p2, p3)
noncomputable def slices_medianCmpFunc (p0 : List Tflow_Span) (p1 : Int) (p2 : Int) (p3 : Int) (p4 : Int) : Option (Int × Int) :=
  (slices_order2CmpFunc p0 p1 p2 p4).bind fun x8 =>
  (slices_order2CmpFunc p0 x8.2.1 p3 x8.2.2).bind fun x18 =>
  (slices_order2CmpFunc p0 x8.1 x18.1 x18.2.2).bind fun x28 =>
  some (x28.2.1, x28.2.2)
noncomputable def slices_medianAdjacentCmpFunc (p0 : List Tflow_Span) (p1 : Int) (p2 : Int) : Option (Int × Int) :=
  (slices_medianCmpFunc p0 (w64 (p1 - 1)) p1 (w64 (p1 + 1)) p2).bind fun x8 =>
  some (x8.1, x8.2)
noncomputable def slices_choosePivotCmpFunc_k1 (x17 : Int) (x18 : Int) : Option (Int × Int) :=
  if decide (x17 = 0) then
  some (x18, 1)
  else
  if decide (x17 = 12) then
  some (x18, 2)
  else
  some (x18, 0)
noncomputable def slices_choosePivotCmpFunc_k2 (p0 : List Tflow_Span) (x37 : Int) (x38 : Int) (x39 : Int) (x40 : Int) : Option (Int × Int) :=
  (slices_medianCmpFunc p0 x38 x39 x40 x37).bind fun x47 =>
  slices_choosePivotCmpFunc_k1 x47.2 x47.1
noncomputable def slices_choosePivotCmpFunc (p0 : List Tflow_Span) (p1 : Int) (p2 : Int) : Option (Int × Int) :=
  (quoO .i64 (w64 (p2 - p1)) 4).bind fun x8 =>
  (quoO .i64 (w64 (p2 - p1)) 4).bind fun x11 =>
  (quoO .i64 (w64 (p2 - p1)) 4).bind fun x14 =>
  if decide (8 ≤ (w64 (p2 - p1))) then
  if decide (50 ≤ (w64 (p2 - p1))) then
  (slices_medianAdjacentCmpFunc p0 (w64 (p1 + (w64 (x8 * 1)))) 0).bind fun x58 =>
  (slices_medianAdjacentCmpFunc p0 (w64 (p1 + (w64 (x11 * 2)))) x58.2).bind fun x68 =>
  (slices_medianAdjacentCmpFunc p0 (w64 (p1 + (w64 (x14 * 3)))) x68.2).bind fun x78 =>
  slices_choosePivotCmpFunc_k2 p0 x78.2 x58.1 x68.1 x78.1
  else
  slices_choosePivotCmpFunc_k2 p0 0 (w64 (p1 + (w64 (x8 * 1)))) (w64 (p1 + (w64 (x11 * 2)))) (w64 (p1 + (w64 (x14 * 3))))
  else
  slices_choosePivotCmpFunc_k1 0 (w64 (p1 + (w64 (x11 * 2))))
noncomputable def slices_reverseRangeCmpFunc_l1b (xs3 : List Tflow_Span) (x4 : Int) (x5 : Int) : Option (((List Tflow_Span) × Int × Int) ⊕ (List Tflow_Span)) :=
  if decide (x4 < x5) then
  (ix xs3 x5).bind fun x18 =>
  (ix xs3 x4).bind fun x32 =>
  (ix xs3 x4).bind fun x41 =>
  (ix (xs3.set (Int.toNat x4) x18) x5).bind fun x53 =>
  some (Sum.inl ((xs3.set (Int.toNat x4) x18).set (Int.toNat x5) x32, w64 (x4 + 1), w64 (x5 - 1)))
  else
  (some xs3).map Sum.inr
noncomputable def slices_reverseRangeCmpFunc_l1 (xs3 : List Tflow_Span) (x4 : Int) (x5 : Int) : Option (List Tflow_Span) := loopO (fun s => slices_reverseRangeCmpFunc_l1b s.1 s.2.1 s.2.2) (xs3, x4, x5)
noncomputable def slices_reverseRangeCmpFunc (p0 : List Tflow_Span) (p1 : Int) (p2 : Int) : Option (List Tflow_Span) :=
  slices_reverseRangeCmpFunc_l1 p0 p1 (w64 (p2 - 1))
noncomputable def slices_partialInsertionSortCmpFunc_k1 (x5 : Int) (xs18 : List Tflow_Span) (x19 : Int) : Option (((List Tflow_Span) × Int × Int) ⊕ (Bool × (List Tflow_Span))) :=
  some (Sum.inl (xs18, x19, w64 (x5 + 1)))
noncomputable def slices_partialInsertionSortCmpFunc_l3b (p2 : Int) (x5 : Int) (x24 : Int) (xs108 : List Tflow_Span) (x109 : Int) : Option (((List Tflow_Span) × Int) ⊕ (((List Tflow_Span) × Int × Int) ⊕ (Bool × (List Tflow_Span)))) :=
  if decide (x109 < p2) then
  (ix xs108 x109).bind fun x122 =>
  (ix xs108 (w64 (x109 - 1))).bind fun x131 =>
  (flow_Spans_c1 x122 x131).bind fun x140 =>
  if !(decide (x140 < 0)) then
  (slices_partialInsertionSortCmpFunc_k1 x5 xs108 x24).map Sum.inr
  else
  (ix xs108 (w64 (x109 - 1))).bind fun x154 =>
  (ix xs108 x109).bind fun x163 =>
  (ix xs108 x109).bind fun x172 =>
  (ix (xs108.set (Int.toNat x109) x154) (w64 (x109 - 1))).bind fun x184 =>
  some (Sum.inl ((xs108.set (Int.toNat x109) x154).set (Int.toNat (w64 (x109 - 1))) x163, w64 (x109 + 1)))
  else
  (slices_partialInsertionSortCmpFunc_k1 x5 xs108 x24).map Sum.inr
noncomputable def slices_partialInsertionSortCmpFunc_l3 (p2 : Int) (x5 : Int) (x24 : Int) (xs108 : List Tflow_Span) (x109 : Int) : Option (((List Tflow_Span) × Int × Int) ⊕ (Bool × (List Tflow_Span))) := loopO (fun s => slices_partialInsertionSortCmpFunc_l3b p2 x5 x24 s.1 s.2) (xs108, x109)
noncomputable def slices_partialInsertionSortCmpFunc_k3 (p2 : Int) (x5 : Int) (x24 : Int) (xs101 : List Tflow_Span) : Option (((List Tflow_Span) × Int × Int) ⊕ (Bool × (List Tflow_Span))) :=
  if decide (2 ≤ (w64 (p2 - x24))) then
  slices_partialInsertionSortCmpFunc_l3 p2 x5 x24 xs101 (w64 (x24 + 1))
  else
  slices_partialInsertionSortCmpFunc_k1 x5 xs101 x24
noncomputable def slices_partialInsertionSortCmpFunc_l4b (p2 : Int) (x5 : Int) (x24 : Int) (xs201 : List Tflow_Span) (x202 : Int) : Option (((List Tflow_Span) × Int) ⊕ (((List Tflow_Span) × Int × Int) ⊕ (Bool × (List Tflow_Span)))) :=
  if decide (1 ≤ x202) then
  (ix xs201 x202).bind fun x215 =>
  (ix xs201 (w64 (x202 - 1))).bind fun x224 =>
  (flow_Spans_c1 x215 x224).bind fun x233 =>
  if !(decide (x233 < 0)) then
  (slices_partialInsertionSortCmpFunc_k3 p2 x5 x24 xs201).map Sum.inr
  else
  (ix xs201 (w64 (x202 - 1))).bind fun x247 =>
  (ix xs201 x202).bind fun x256 =>
  (ix xs201 x202).bind fun x265 =>
  (ix (xs201.set (Int.toNat x202) x247) (w64 (x202 - 1))).bind fun x277 =>
  some (Sum.inl ((xs201.set (Int.toNat x202) x247).set (Int.toNat (w64 (x202 - 1))) x256, w64 (x202 - 1)))
  else
  (slices_partialInsertionSortCmpFunc_k3 p2 x5 x24 xs201).map Sum.inr
noncomputable def slices_partialInsertionSortCmpFunc_l4 (p2 : Int) (x5 : Int) (x24 : Int) (xs201 : List Tflow_Span) (x202 : Int) : Option (((List Tflow_Span) × Int × Int) ⊕ (Bool × (List Tflow_Span))) := loopO (fun s => slices_partialInsertionSortCmpFunc_l4b p2 x5 x24 s.1 s.2) (xs201, x202)
noncomputable def slices_partialInsertionSortCmpFunc_k2 (p1 : Int) (p2 : Int) (xs3 : List Tflow_Span) (x5 : Int) (x24 : Int) (x35 : Bool) : Option (Int ⊕ (((List Tflow_Span) × Int × Int) ⊕ (Bool × (List Tflow_Span)))) :=
  if x35 then
  some (Sum.inl (w64 (x24 + 1)))
  else
  (if decide (x24 = p2) then
  (some (true, xs3)).map Sum.inr
  else
  if decide ((w64 (p2 - p1)) < 50) then
  (some (false, xs3)).map Sum.inr
  else
  (ix xs3 (w64 (x24 - 1))).bind fun x54 =>
  (ix xs3 x24).bind fun x68 =>
  (ix xs3 x24).bind fun x77 =>
  (ix (xs3.set (Int.toNat x24) x54) (w64 (x24 - 1))).bind fun x89 =>
  if decide (2 ≤ (w64 (x24 - p1))) then
  slices_partialInsertionSortCmpFunc_l4 p2 x5 x24 ((xs3.set (Int.toNat x24) x54).set (Int.toNat (w64 (x24 - 1))) x68) (w64 (x24 - 1))
  else
  slices_partialInsertionSortCmpFunc_k3 p2 x5 x24 ((xs3.set (Int.toNat x24) x54).set (Int.toNat (w64 (x24 - 1))) x68)).map Sum.inr
noncomputable def slices_partialInsertionSortCmpFunc_l2b (p1 : Int) (p2 : Int) (xs3 : List Tflow_Span) (x5 : Int) (x24 : Int) : Option (Int ⊕ (((List Tflow_Span) × Int × Int) ⊕ (Bool × (List Tflow_Span)))) :=
  if decide (x24 < p2) then
  (ix xs3 x24).bind fun x294 =>
  (ix xs3 (w64 (x24 - 1))).bind fun x308 =>
  (flow_Spans_c1 x294 x308).bind fun x317 =>
  slices_partialInsertionSortCmpFunc_k2 p1 p2 xs3 x5 x24 (!(decide (x317 < 0)))
  else
  slices_partialInsertionSortCmpFunc_k2 p1 p2 xs3 x5 x24 false
noncomputable def slices_partialInsertionSortCmpFunc_l2 (p1 : Int) (p2 : Int) (xs3 : List Tflow_Span) (x5 : Int) (x24 : Int) : Option (((List Tflow_Span) × Int × Int) ⊕ (Bool × (List Tflow_Span))) := loopO (fun s => slices_partialInsertionSortCmpFunc_l2b p1 p2 xs3 x5 s) x24
noncomputable def slices_partialInsertionSortCmpFunc_l1b (p1 : Int) (p2 : Int) (xs3 : List Tflow_Span) (x4 : Int) (x5 : Int) : Option (((List Tflow_Span) × Int × Int) ⊕ (Bool × (List Tflow_Span))) :=
  if decide (x5 < 5) then
  slices_partialInsertionSortCmpFunc_l2 p1 p2 xs3 x5 x4
  else
  (some (false, xs3)).map Sum.inr
noncomputable def slices_partialInsertionSortCmpFunc_l1 (p1 : Int) (p2 : Int) (xs3 : List Tflow_Span) (x4 : Int) (x5 : Int) : Option (Bool × (List Tflow_Span)) := loopO (fun s => slices_partialInsertionSortCmpFunc_l1b p1 p2 s.1 s.2.1 s.2.2) (xs3, x4, x5)
noncomputable def slices_partialInsertionSortCmpFunc (p0 : List Tflow_Span) (p1 : Int) (p2 : Int) : Option (Bool × (List Tflow_Span)) :=
  slices_partialInsertionSortCmpFunc_l1 p1 p2 p0 (w64 (p1 + 1)) 0
noncomputable def slices_partitionEqualCmpFunc_k2 (xs50 : List Tflow_Span) (x63 : Int) (x83 : Int) (x94 : Bool) : Option (Int ⊕ (((List Tflow_Span) × Int × Int) ⊕ (Int × (List Tflow_Span)))) :=
  if x94 then
  some (Sum.inl (w64 (x83 - 1)))
  else
  (if decide (x83 < x63) then
  (some (x63, xs50)).map Sum.inr
  else
  (ix xs50 x83).bind fun x108 =>
  (ix xs50 x63).bind fun x117 =>
  (ix xs50 x63).bind fun x126 =>
  (ix (xs50.set (Int.toNat x63) x108) x83).bind fun x138 =>
  some (Sum.inl ((xs50.set (Int.toNat x63) x108).set (Int.toNat x83) x117, w64 (x63 + 1), w64 (x83 - 1)))).map Sum.inr
noncomputable def slices_partitionEqualCmpFunc_l3b (p1 : Int) (xs50 : List Tflow_Span) (x63 : Int) (x83 : Int) : Option (Int ⊕ (((List Tflow_Span) × Int × Int) ⊕ (Int × (List Tflow_Span)))) :=
  if decide (x63 ≤ x83) then
  (ix xs50 p1).bind fun x152 =>
  (ix xs50 x83).bind fun x161 =>
  (flow_Spans_c1 x152 x161).bind fun x170 =>
  slices_partitionEqualCmpFunc_k2 xs50 x63 x83 (decide (x170 < 0))
  else
  slices_partitionEqualCmpFunc_k2 xs50 x63 x83 false
noncomputable def slices_partitionEqualCmpFunc_l3 (p1 : Int) (xs50 : List Tflow_Span) (x63 : Int) (x83 : Int) : Option (((List Tflow_Span) × Int × Int) ⊕ (Int × (List Tflow_Span))) := loopO (fun s => slices_partitionEqualCmpFunc_l3b p1 xs50 x63 s) x83
noncomputable def slices_partitionEqualCmpFunc_k1 (p1 : Int) (xs50 : List Tflow_Span) (x52 : Int) (x63 : Int) (x74 : Bool) : Option (Int ⊕ (((List Tflow_Span) × Int × Int) ⊕ (Int × (List Tflow_Span)))) :=
  if x74 then
  some (Sum.inl (w64 (x63 + 1)))
  else
  (slices_partitionEqualCmpFunc_l3 p1 xs50 x63 x52).map Sum.inr
noncomputable def slices_partitionEqualCmpFunc_l2b (p1 : Int) (xs50 : List Tflow_Span) (x52 : Int) (x63 : Int) : Option (Int ⊕ (((List Tflow_Span) × Int × Int) ⊕ (Int × (List Tflow_Span)))) :=
  if decide (x63 ≤ x52) then
  (ix xs50 p1).bind fun x181 =>
  (ix xs50 x63).bind fun x190 =>
  (flow_Spans_c1 x181 x190).bind fun x199 =>
  slices_partitionEqualCmpFunc_k1 p1 xs50 x52 x63 (!(decide (x199 < 0)))
  else
  slices_partitionEqualCmpFunc_k1 p1 xs50 x52 x63 false
noncomputable def slices_partitionEqualCmpFunc_l2 (p1 : Int) (xs50 : List Tflow_Span) (x52 : Int) (x63 : Int) : Option (((List Tflow_Span) × Int × Int) ⊕ (Int × (List Tflow_Span))) := loopO (fun s => slices_partitionEqualCmpFunc_l2b p1 xs50 x52 s) x63
noncomputable def slices_partitionEqualCmpFunc_l1b (p1 : Int) (xs50 : List Tflow_Span) (x51 : Int) (x52 : Int) : Option (((List Tflow_Span) × Int × Int) ⊕ (Int × (List Tflow_Span))) :=
  slices_partitionEqualCmpFunc_l2 p1 xs50 x52 x51
noncomputable def slices_partitionEqualCmpFunc_l1 (p1 : Int) (xs50 : List Tflow_Span) (x51 : Int) (x52 : Int) : Option (Int × (List Tflow_Span)) := loopO (fun s => slices_partitionEqualCmpFunc_l1b p1 s.1 s.2.1 s.2.2) (xs50, x51, x52)
noncomputable def slices_partitionEqualCmpFunc (p0 : List Tflow_Span) (p1 : Int) (p2 : Int) (p3 : Int) : Option (Int × (List Tflow_Span)) :=
  (ix p0 p3).bind fun x3 =>
  (ix p0 p1).bind fun x17 =>
  (ix p0 p1).bind fun x26 =>
  (ix (p0.set (Int.toNat p1) x3) p3).bind fun x38 =>
  slices_partitionEqualCmpFunc_l1 p1 ((p0.set (Int.toNat p1) x3).set (Int.toNat p3) x17) (w64 (p1 + 1)) (w64 (p2 - 1))
noncomputable def slices_partitionCmpFunc_k4 (p1 : Int) (xs178 : List Tflow_Span) (x191 : Int) (x211 : Int) (x222 : Bool) : Option (Int ⊕ (((List Tflow_Span) × Int × Int) ⊕ (Int × Bool × (List Tflow_Span)))) :=
  if x222 then
  some (Sum.inl (w64 (x211 - 1)))
  else
  (if decide (x211 < x191) then
  ((ix xs178 p1).bind fun x234 =>
  (ix xs178 x211).bind fun x243 =>
  (ix xs178 x211).bind fun x252 =>
  (ix (xs178.set (Int.toNat x211) x234) p1).bind fun x264 =>
  some (x211, false, (xs178.set (Int.toNat x211) x234).set (Int.toNat p1) x243)).map Sum.inr
  else
  (ix xs178 x211).bind fun x278 =>
  (ix xs178 x191).bind fun x287 =>
  (ix xs178 x191).bind fun x296 =>
  (ix (xs178.set (Int.toNat x191) x278) x211).bind fun x308 =>
  some (Sum.inl ((xs178.set (Int.toNat x191) x278).set (Int.toNat x211) x287, w64 (x191 + 1), w64 (x211 - 1)))).map Sum.inr
noncomputable def slices_partitionCmpFunc_l5b (p1 : Int) (xs178 : List Tflow_Span) (x191 : Int) (x211 : Int) : Option (Int ⊕ (((List Tflow_Span) × Int × Int) ⊕ (Int × Bool × (List Tflow_Span)))) :=
  if decide (x191 ≤ x211) then
  (ix xs178 x211).bind fun x322 =>
  (ix xs178 p1).bind fun x331 =>
  (flow_Spans_c1 x322 x331).bind fun x340 =>
  slices_partitionCmpFunc_k4 p1 xs178 x191 x211 (!(decide (x340 < 0)))
  else
  slices_partitionCmpFunc_k4 p1 xs178 x191 x211 false
noncomputable def slices_partitionCmpFunc_l5 (p1 : Int) (xs178 : List Tflow_Span) (x191 : Int) (x211 : Int) : Option (((List Tflow_Span) × Int × Int) ⊕ (Int × Bool × (List Tflow_Span))) := loopO (fun s => slices_partitionCmpFunc_l5b p1 xs178 x191 s) x211
noncomputable def slices_partitionCmpFunc_k3 (p1 : Int) (xs178 : List Tflow_Span) (x180 : Int) (x191 : Int) (x202 : Bool) : Option (Int ⊕ (((List Tflow_Span) × Int × Int) ⊕ (Int × Bool × (List Tflow_Span)))) :=
  if x202 then
  some (Sum.inl (w64 (x191 + 1)))
  else
  (slices_partitionCmpFunc_l5 p1 xs178 x191 x180).map Sum.inr
noncomputable def slices_partitionCmpFunc_l4b (p1 : Int) (xs178 : List Tflow_Span) (x180 : Int) (x191 : Int) : Option (Int ⊕ (((List Tflow_Span) × Int × Int) ⊕ (Int × Bool × (List Tflow_Span)))) :=
  if decide (x191 ≤ x180) then
  (ix xs178 x191).bind fun x351 =>
  (ix xs178 p1).bind fun x360 =>
  (flow_Spans_c1 x351 x360).bind fun x369 =>
  slices_partitionCmpFunc_k3 p1 xs178 x180 x191 (decide (x369 < 0))
  else
  slices_partitionCmpFunc_k3 p1 xs178 x180 x191 false
noncomputable def slices_partitionCmpFunc_l4 (p1 : Int) (xs178 : List Tflow_Span) (x180 : Int) (x191 : Int) : Option (((List Tflow_Span) × Int × Int) ⊕ (Int × Bool × (List Tflow_Span))) := loopO (fun s => slices_partitionCmpFunc_l4b p1 xs178 x180 s) x191
noncomputable def slices_partitionCmpFunc_l3b (p1 : Int) (xs178 : List Tflow_Span) (x179 : Int) (x180 : Int) : Option (((List Tflow_Span) × Int × Int) ⊕ (Int × Bool × (List Tflow_Span))) :=
  slices_partitionCmpFunc_l4 p1 xs178 x180 x179
noncomputable def slices_partitionCmpFunc_l3 (p1 : Int) (xs178 : List Tflow_Span) (x179 : Int) (x180 : Int) : Option (Int × Bool × (List Tflow_Span)) := loopO (fun s => slices_partitionCmpFunc_l3b p1 s.1 s.2.1 s.2.2) (xs178, x179, x180)
noncomputable def slices_partitionCmpFunc_k2 (p0 : List Tflow_Span) (p1 : Int) (p3 : Int) (x3 : Tflow_Span) (x17 : Tflow_Span) (x50 : Int) (x70 : Int) (x81 : Bool) : Option (Int ⊕ (Int × Bool × (List Tflow_Span))) :=
  if x81 then
  some (Sum.inl (w64 (x70 - 1)))
  else
  (if decide (x70 < x50) then
  (ix ((p0.set (Int.toNat p1) x3).set (Int.toNat p3) x17) p1).bind fun x92 =>
  (ix ((p0.set (Int.toNat p1) x3).set (Int.toNat p3) x17) x70).bind fun x101 =>
  (ix ((p0.set (Int.toNat p1) x3).set (Int.toNat p3) x17) x70).bind fun x110 =>
  (ix (((p0.set (Int.toNat p1) x3).set (Int.toNat p3) x17).set (Int.toNat x70) x92) p1).bind fun x122 =>
  some (x70, true, (((p0.set (Int.toNat p1) x3).set (Int.toNat p3) x17).set (Int.toNat x70) x92).set (Int.toNat p1) x101)
  else
  (ix ((p0.set (Int.toNat p1) x3).set (Int.toNat p3) x17) x70).bind fun x136 =>
  (ix ((p0.set (Int.toNat p1) x3).set (Int.toNat p3) x17) x50).bind fun x145 =>
  (ix ((p0.set (Int.toNat p1) x3).set (Int.toNat p3) x17) x50).bind fun x154 =>
  (ix (((p0.set (Int.toNat p1) x3).set (Int.toNat p3) x17).set (Int.toNat x50) x136) x70).bind fun x166 =>
  slices_partitionCmpFunc_l3 p1 ((((p0.set (Int.toNat p1) x3).set (Int.toNat p3) x17).set (Int.toNat x50) x136).set (Int.toNat x70) x145) (w64 (x50 + 1)) (w64 (x70 - 1))).map Sum.inr
noncomputable def slices_partitionCmpFunc_l2b (p0 : List Tflow_Span) (p1 : Int) (p3 : Int) (x3 : Tflow_Span) (x17 : Tflow_Span) (x50 : Int) (x70 : Int) : Option (Int ⊕ (Int × Bool × (List Tflow_Span))) :=
  if decide (x50 ≤ x70) then
  (ix ((p0.set (Int.toNat p1) x3).set (Int.toNat p3) x17) x70).bind fun x380 =>
  (ix ((p0.set (Int.toNat p1) x3).set (Int.toNat p3) x17) p1).bind fun x389 =>
  (flow_Spans_c1 x380 x389).bind fun x398 =>
  slices_partitionCmpFunc_k2 p0 p1 p3 x3 x17 x50 x70 (!(decide (x398 < 0)))
  else
  slices_partitionCmpFunc_k2 p0 p1 p3 x3 x17 x50 x70 false
noncomputable def slices_partitionCmpFunc_l2 (p0 : List Tflow_Span) (p1 : Int) (p3 : Int) (x3 : Tflow_Span) (x17 : Tflow_Span) (x50 : Int) (x70 : Int) : Option (Int × Bool × (List Tflow_Span)) := loopO (fun s => slices_partitionCmpFunc_l2b p0 p1 p3 x3 x17 x50 s) x70
noncomputable def slices_partitionCmpFunc_k1 (p0 : List Tflow_Span) (p1 : Int) (p2 : Int) (p3 : Int) (x3 : Tflow_Span) (x17 : Tflow_Span) (x50 : Int) (x61 : Bool) : Option (Int ⊕ (Int × Bool × (List Tflow_Span))) :=
  if x61 then
  some (Sum.inl (w64 (x50 + 1)))
  else
  (slices_partitionCmpFunc_l2 p0 p1 p3 x3 x17 x50 (w64 (p2 - 1))).map Sum.inr
noncomputable def slices_partitionCmpFunc_l1b (p0 : List Tflow_Span) (p1 : Int) (p2 : Int) (p3 : Int) (x3 : Tflow_Span) (x17 : Tflow_Span) (x50 : Int) : Option (Int ⊕ (Int × Bool × (List Tflow_Span))) :=
  if decide (x50 ≤ (w64 (p2 - 1))) then
  (ix ((p0.set (Int.toNat p1) x3).set (Int.toNat p3) x17) x50).bind fun x409 =>
  (ix ((p0.set (Int.toNat p1) x3).set (Int.toNat p3) x17) p1).bind fun x418 =>
  (flow_Spans_c1 x409 x418).bind fun x427 =>
  slices_partitionCmpFunc_k1 p0 p1 p2 p3 x3 x17 x50 (decide (x427 < 0))
  else
  slices_partitionCmpFunc_k1 p0 p1 p2 p3 x3 x17 x50 false
noncomputable def slices_partitionCmpFunc_l1 (p0 : List Tflow_Span) (p1 : Int) (p2 : Int) (p3 : Int) (x3 : Tflow_Span) (x17 : Tflow_Span) (x50 : Int) : Option (Int × Bool × (List Tflow_Span)) := loopO (fun s => slices_partitionCmpFunc_l1b p0 p1 p2 p3 x3 x17 s) x50
noncomputable def slices_partitionCmpFunc (p0 : List Tflow_Span) (p1 : Int) (p2 : Int) (p3 : Int) : Option (Int × Bool × (List Tflow_Span)) :=
  (ix p0 p3).bind fun x3 =>
  (ix p0 p1).bind fun x17 =>
  (ix p0 p1).bind fun x26 =>
  (ix (p0.set (Int.toNat p1) x3) p3).bind fun x38 =>
  slices_partitionCmpFunc_l1 p0 p1 p2 p3 x3 x17 (w64 (p1 + 1))
noncomputable def slices_nextPowerOfTwo (p0 : Int) : Option Int :=
  (math_bits_Len (IntKind.wrap .u64 p0)).bind fun x1 =>
  (shlO .u64 1 x1).bind fun x9 =>
  some x9
noncomputable def slices_xorshift_Next (p0 : Int) : Option (Int × Int) :=
  (shlO .u64 p0 13).bind fun x4 =>
  (shrO .u64 (xorB .u64 p0 x4) 7).bind fun x10 =>
  (shlO .u64 (xorB .u64 (xorB .u64 p0 x4) x10) 17).bind fun x16 =>
  some (xorB .u64 (xorB .u64 (xorB .u64 p0 x4) x10) x16, xorB .u64 (xorB .u64 (xorB .u64 p0 x4) x10) x16)
noncomputable def slices_breakPatternsCmpFunc_k1 (p1 : Int) (xs24 : List Tflow_Span) (x26 : Int) (x45 : Int × Int) (x53 : Int) : Option (((List Tflow_Span) × Int × Int) ⊕ (List Tflow_Span)) :=
  (ix xs24 (w64 (p1 + x53))).bind fun x58 =>
  (ix xs24 x26).bind fun x72 =>
  (ix xs24 x26).bind fun x81 =>
  (ix (xs24.set (Int.toNat x26) x58) (w64 (p1 + x53))).bind fun x93 =>
  some (Sum.inl ((xs24.set (Int.toNat x26) x58).set (Int.toNat (w64 (p1 + x53))) x72, x45.2, w64 (x26 + 1)))
noncomputable def slices_breakPatternsCmpFunc_l1b (p1 : Int) (p2 : Int) (x13 : Int) (xs24 : List Tflow_Span) (x25 : Int) (x26 : Int) : Option (((List Tflow_Span) × Int × Int) ⊕ (List Tflow_Span)) :=
  (quoO .i64 (w64 (p2 - p1)) 4).bind fun x39 =>
  if decide (x26 ≤ (w64 ((w64 (p1 + (w64 (x39 * 2)))) + 1))) then
  (slices_xorshift_Next x25).bind fun x45 =>
  if decide ((w64 (p2 - p1)) ≤ (w64 (andB .u64 x45.1 (IntKind.wrap .u64 (x13 - 1))))) then
  slices_breakPatternsCmpFunc_k1 p1 xs24 x26 x45 (w64 ((w64 (andB .u64 x45.1 (IntKind.wrap .u64 (x13 - 1)))) - (w64 (p2 - p1))))
  else
  slices_breakPatternsCmpFunc_k1 p1 xs24 x26 x45 (w64 (andB .u64 x45.1 (IntKind.wrap .u64 (x13 - 1))))
  else
  (some xs24).map Sum.inr
noncomputable def slices_breakPatternsCmpFunc_l1 (p1 : Int) (p2 : Int) (x13 : Int) (xs24 : List Tflow_Span) (x25 : Int) (x26 : Int) : Option (List Tflow_Span) := loopO (fun s => slices_breakPatternsCmpFunc_l1b p1 p2 x13 s.1 s.2.1 s.2.2) (xs24, x25, x26)
noncomputable def slices_breakPatternsCmpFunc (p0 : List Tflow_Span) (p1 : Int) (p2 : Int) : Option (List Tflow_Span) :=
  if decide (8 ≤ (w64 (p2 - p1))) then
  (slices_nextPowerOfTwo (w64 (p2 - p1))).bind fun x13 =>
  (quoO .i64 (w64 (p2 - p1)) 4).bind fun x21 =>
  slices_breakPatternsCmpFunc_l1 p1 p2 x13 p0 (IntKind.wrap .u64 (w64 (p2 - p1))) (w64 ((w64 (p1 + (w64 (x21 * 2)))) - 1))
  else
  some p0
noncomputable def slices_pdqsortCmpFunc_k4 (rec_ : (List Tflow_Span) → Int → Int → Int → Option (List Tflow_Span)) (x4 : Int) (x5 : Int) (x7 : Bool) (x8 : Bool) (x46 : Int) (x60 : Int) (xs66 : List Tflow_Span) (x71 : Bool) : Option (((List Tflow_Span) × Int × Int × Int × Bool × Bool) ⊕ (List Tflow_Span)) :=
  if x71 then
  (slices_partitionEqualCmpFunc xs66 x4 x5 x60).bind fun x78 =>
  some (Sum.inl (x78.2, x78.1, x5, x46, x7, x8))
  else
  (slices_partitionCmpFunc xs66 x4 x5 x60).bind fun x87 =>
  (quoO .i64 (w64 (x5 - x4)) 8).bind fun x95 =>
  if decide ((w64 (x87.1 - x4)) < (w64 (x5 - x87.1))) then
  (rec_ x87.2.2 x4 x87.1 x46).bind fun x100 =>
  some (Sum.inl (x100, w64 (x87.1 + 1), x5, x46, decide (x95 ≤ (w64 (x87.1 - x4))), x87.2.1))
  else
  (rec_ x87.2.2 (w64 (x87.1 + 1)) x5 x46).bind fun x109 =>
  some (Sum.inl (x109, x4, x87.1, x46, decide (x95 ≤ (w64 (x5 - x87.1))), x87.2.1))
noncomputable def slices_pdqsortCmpFunc_k3 (rec_ : (List Tflow_Span) → Int → Int → Int → Option (List Tflow_Span)) (x4 : Int) (x5 : Int) (x7 : Bool) (x8 : Bool) (x46 : Int) (x60 : Int) (xs66 : List Tflow_Span) : Option (((List Tflow_Span) × Int × Int × Int × Bool × Bool) ⊕ (List Tflow_Span)) :=
  if decide (0 < x4) then
  (ix xs66 (w64 (x4 - 1))).bind fun x119 =>
  (ix xs66 x60).bind fun x133 =>
  (flow_Spans_c1 x119 x133).bind fun x142 =>
  slices_pdqsortCmpFunc_k4 rec_ x4 x5 x7 x8 x46 x60 xs66 (!(decide (x142 < 0)))
  else
  slices_pdqsortCmpFunc_k4 rec_ x4 x5 x7 x8 x46 x60 xs66 false
noncomputable def slices_pdqsortCmpFunc_k2 (rec_ : (List Tflow_Span) → Int → Int → Int → Option (List Tflow_Span)) (x4 : Int) (x5 : Int) (x7 : Bool) (x8 : Bool) (x46 : Int) (xs59 : List Tflow_Span) (x60 : Int) (x61 : Int) : Option (((List Tflow_Span) × Int × Int × Int × Bool × Bool) ⊕ (List Tflow_Span)) :=
  if (x7 && x8) && (decide (x61 = 1)) then
  (slices_partialInsertionSortCmpFunc xs59 x4 x5).bind fun x162 =>
  if x162.1 then
  (some x162.2).map Sum.inr
  else
  slices_pdqsortCmpFunc_k3 rec_ x4 x5 x7 x8 x46 x60 x162.2
  else
  slices_pdqsortCmpFunc_k3 rec_ x4 x5 x7 x8 x46 x60 xs59
noncomputable def slices_pdqsortCmpFunc_k1 (rec_ : (List Tflow_Span) → Int → Int → Int → Option (List Tflow_Span)) (x4 : Int) (x5 : Int) (x7 : Bool) (x8 : Bool) (xs45 : List Tflow_Span) (x46 : Int) : Option (((List Tflow_Span) × Int × Int × Int × Bool × Bool) ⊕ (List Tflow_Span)) :=
  (slices_choosePivotCmpFunc xs45 x4 x5).bind fun x51 =>
  if decide (x51.2 = 2) then
  (slices_reverseRangeCmpFunc xs45 x4 x5).bind fun x180 =>
  slices_pdqsortCmpFunc_k2 rec_ x4 x5 x7 x8 x46 x180 (w64 ((w64 (x5 - 1)) - (w64 (x51.1 - x4)))) 1
  else
  slices_pdqsortCmpFunc_k2 rec_ x4 x5 x7 x8 x46 xs45 x51.1 x51.2
noncomputable def slices_pdqsortCmpFunc_l1b (rec_ : (List Tflow_Span) → Int → Int → Int → Option (List Tflow_Span)) (xs3 : List Tflow_Span) (x4 : Int) (x5 : Int) (x6 : Int) (x7 : Bool) (x8 : Bool) : Option (((List Tflow_Span) × Int × Int × Int × Bool × Bool) ⊕ (List Tflow_Span)) :=
  if decide ((w64 (x5 - x4)) ≤ 12) then
  (slices_insertionSortCmpFunc xs3 x4 x5).bind fun x21 =>
  (some x21).map Sum.inr
  else
  if decide (x6 = 0) then
  (slices_heapSortCmpFunc xs3 x4 x5).bind fun x34 =>
  (some x34).map Sum.inr
  else
  if !x7 then
  (slices_breakPatternsCmpFunc xs3 x4 x5).bind fun x192 =>
  slices_pdqsortCmpFunc_k1 rec_ x4 x5 x7 x8 x192 (w64 (x6 - 1))
  else
  slices_pdqsortCmpFunc_k1 rec_ x4 x5 x7 x8 xs3 x6
noncomputable def slices_pdqsortCmpFunc_l1 (rec_ : (List Tflow_Span) → Int → Int → Int → Option (List Tflow_Span)) (xs3 : List Tflow_Span) (x4 : Int) (x5 : Int) (x6 : Int) (x7 : Bool) (x8 : Bool) : Option (List Tflow_Span) := loopO (fun s => slices_pdqsortCmpFunc_l1b rec_ s.1 s.2.1 s.2.2.1 s.2.2.2.1 s.2.2.2.2.1 s.2.2.2.2.2) (xs3, x4, x5, x6, x7, x8)
noncomputable def slices_pdqsortCmpFunc_F (rec_ : (List Tflow_Span) → Int → Int → Int → Option (List Tflow_Span)) (p0 : List Tflow_Span) (p1 : Int) (p2 : Int) (p3 : Int) : Option (List Tflow_Span) :=
  slices_pdqsortCmpFunc_l1 rec_ p0 p1 p2 p3 true true
noncomputable def slices_pdqsortCmpFunc (p0 : List Tflow_Span) (p1 : Int) (p2 : Int) (p3 : Int) : Option (List Tflow_Span) := recO (fun rec_ a => slices_pdqsortCmpFunc_F (fun p0 p1 p2 p3 => rec_ (p0, p1, p2, p3)) a.1 a.2.1 a.2.2.1 a.2.2.2) (p0, p1, p2, p3)
noncomputable def slices_SortFunc (p0 : List Tflow_Span) : Option (List Tflow_Span) :=
  (math_bits_Len (IntKind.wrap .u64 (p0.length : Int))).bind fun x3 =>
  (slices_pdqsortCmpFunc p0 0 (p0.length : Int) x3).bind fun x11 =>
  some x11
noncomputable def flow_Spans_k1 (x94 : Int) (xs109 : List Tflow_Span) : Option (((List Tflow_Span) × Int) ⊕ (((List Tflow_Span) × Int) ⊕ (List Tflow_Span))) :=
  some (Sum.inl (xs109, w64 (x94 + 1)))
noncomputable def flow_Spans_k2 (x201 : Int) (xs222 : List Tflow_Span) : Option (((List Tflow_Span) × Int) ⊕ (((List Tflow_Span) × Int) ⊕ (List Tflow_Span))) :=
  some (Sum.inl (xs222, w64 (x201 + 1)))
noncomputable def flow_Spans_l4b (x59 : Int) (xs190 : List Int) (xs200 : List Tflow_Span) (x201 : Int) : Option (((List Tflow_Span) × Int) ⊕ (((List Tflow_Span) × Int) ⊕ (List Tflow_Span))) :=
  if decide (x201 < (xs190.length : Int)) then
  (ix xs190 x201).bind fun x227 =>
  if decide (0 ≤ x227) then
  (flow_grow xs200 x227 x59).bind fun x244 =>
  flow_Spans_k2 x201 x244
  else
  flow_Spans_k2 x201 xs200
  else
  (some (Sum.inl (xs200, w64 (x59 + 1)))).map Sum.inr
noncomputable def flow_Spans_l4 (x59 : Int) (xs190 : List Int) (xs200 : List Tflow_Span) (x201 : Int) : Option (((List Tflow_Span) × Int) ⊕ (List Tflow_Span)) := loopO (fun s => flow_Spans_l4b x59 xs190 s.1 s.2) (xs200, x201)
noncomputable def flow_Spans_l3b (p0 : TFunc) (x59 : Int) (x75 : List Bool) (xs93 : List Tflow_Span) (x94 : Int) : Option (((List Tflow_Span) × Int) ⊕ (((List Tflow_Span) × Int) ⊕ (List Tflow_Span))) :=
  if decide (x94 < (x75.length : Int)) then
  (ix x75 x94).bind fun x114 =>
  if x114 then
  (flow_grow xs93 x94 x59).bind fun x128 =>
  flow_Spans_k1 x94 x128
  else
  flow_Spans_k1 x94 xs93
  else
  ((ix p0.code x59).bind fun x144 =>
  (ir_Uses x144).bind fun x166 =>
  (ir_Def x144).bind fun x177 =>
  (ap x166 [x177]).bind fun xs190 =>
  flow_Spans_l4 x59 xs190 xs93 0).map Sum.inr
noncomputable def flow_Spans_l3 (p0 : TFunc) (x59 : Int) (x75 : List Bool) (xs93 : List Tflow_Span) (x94 : Int) : Option (((List Tflow_Span) × Int) ⊕ (List Tflow_Span)) := loopO (fun s => flow_Spans_l3b p0 x59 x75 s.1 s.2) (xs93, x94)
noncomputable def flow_Spans_l2b (p0 : TFunc) (x46 : List (List Bool)) (xs58 : List Tflow_Span) (x59 : Int) : Option (((List Tflow_Span) × Int) ⊕ (List Tflow_Span)) :=
  if decide (x59 < (x46.length : Int)) then
  (ix x46 x59).bind fun x75 =>
  flow_Spans_l3 p0 x59 x75 xs58 0
  else
  ((slices_SortFunc xs58).bind fun x265 =>
  some x265).map Sum.inr
noncomputable def flow_Spans_l2 (p0 : TFunc) (x46 : List (List Bool)) (xs58 : List Tflow_Span) (x59 : Int) : Option (List Tflow_Span) := loopO (fun s => flow_Spans_l2b p0 x46 s.1 s.2) (xs58, x59)
noncomputable def flow_Spans_l1b (p0 : TFunc) (xs12 : List Tflow_Span) (x13 : Int) : Option (((List Tflow_Span) × Int) ⊕ (List Tflow_Span)) :=
  if decide (x13 < p0.params) then
  (flow_grow xs12 x13 0).bind fun x31 =>
  some (Sum.inl (x31, w64 (x13 + 1)))
  else
  ((flow_Live p0).bind fun x46 =>
  flow_Spans_l2 p0 x46 xs12 0).map Sum.inr
noncomputable def flow_Spans_l1 (p0 : TFunc) (xs12 : List Tflow_Span) (x13 : Int) : Option (List Tflow_Span) := loopO (fun s => flow_Spans_l1b p0 s.1 s.2) (xs12, x13)
noncomputable def flow_Spans (p0 : TFunc) : Option (List Tflow_Span) :=
  flow_Spans_l1 p0 [] 0
noncomputable def ref10_reads_l1b (p0 : TIns) (p1 : Int) (x8 : Int) : Option (Int ⊕ Bool) :=
  if decide (x8 < (p0.args.length : Int)) then
  (ix p0.args x8).bind fun x21 =>
  if decide (x21 = p1) then
  (some true).map Sum.inr
  else
  some (Sum.inl (w64 (x8 + 1)))
  else
  (some ((decide (p0.a = p1)) || (decide (p0.b = p1)))).map Sum.inr
noncomputable def ref10_reads_l1 (p0 : TIns) (p1 : Int) (x8 : Int) : Option Bool := loopO (fun s => ref10_reads_l1b p0 p1 s) x8
noncomputable def ref10_reads (p0 : TIns) (p1 : Int) : Option Bool :=
  ref10_reads_l1 p0 p1 0
noncomputable def ref10_Next_k2 (xs55 : List Int) : Option (List Int) :=
  some xs55
noncomputable def ref10_Next_k3 (x78 : Int) (xs94 : List Int) : Option (((List Int) × Int) ⊕ (List Int)) :=
  some (Sum.inl (xs94, w64 (x78 + 1)))
noncomputable def ref10_Next_l1b (p0 : TFunc) (x25 : TIns) (xs77 : List Int) (x78 : Int) : Option (((List Int) × Int) ⊕ (List Int)) :=
  if decide (x78 < (p0.code.length : Int)) then
  (ix p0.code x78).bind fun x99 =>
  (if (decide (x99.op = 11)) && (decide (x99.imm = x25.imm)) then
  (if decide ((xs77.length : Int) = 0) then
  some true
  else
  (ix xs77 0).bind fun x181 =>
  some (decide (x181 ≠ x78))).bind fun y165 =>
  some y165
  else
  some false).bind fun y128 =>
  if y128 then
  (ap xs77 [x78]).bind fun xs151 =>
  ref10_Next_k3 x78 xs151
  else
  ref10_Next_k3 x78 xs77
  else
  (ref10_Next_k2 xs77).map Sum.inr
noncomputable def ref10_Next_l1 (p0 : TFunc) (x25 : TIns) (xs77 : List Int) (x78 : Int) : Option (List Int) := loopO (fun s => ref10_Next_l1b p0 x25 s.1 s.2) (xs77, x78)
noncomputable def ref10_Next_k1 (p0 : TFunc) (x25 : TIns) (xs48 : List Int) : Option (List Int) :=
  if ((decide (x25.op = 12)) || (decide (x25.op = 13))) || (decide (x25.op = 17)) then
  ref10_Next_l1 p0 x25 xs48 0
  else
  ref10_Next_k2 xs48
noncomputable def ref10_Next (p0 : TFunc) (p1 : Int) : Option (List Int) :=
  if (decide (p1 < 0)) || (decide ((p0.code.length : Int) ≤ p1)) then
  some []
  else
  (ix p0.code p1).bind fun x25 =>
  if (((decide (x25.op ≠ 12)) && (decide (x25.op ≠ 15))) && (decide (x25.op ≠ 16))) && (decide ((w64 (p1 + 1)) < (p0.code.length : Int))) then
  (ap [] [w64 (p1 + 1)]).bind fun xs237 =>
  ref10_Next_k1 p0 x25 xs237
  else
  ref10_Next_k1 p0 x25 []
noncomputable def ref10_Needed_l1b (p0 : TFunc) (p1 : Int) (xs21 : List Bool) (xs24 : List Int) : Option (((List Bool) × (List Int)) ⊕ Bool) :=
  if decide (0 < (xs24.length : Int)) then
  (ix xs24 0).bind fun x40 =>
  (cutL xs24 1 (xs24.length : Int)).bind fun xs54 =>
  (ix xs21 x40).bind fun x62 =>
  if x62 then
  some (Sum.inl (xs21, xs54))
  else
  (ix xs21 x40).bind fun x79 =>
  (ix p0.code x40).bind fun x91 =>
  (ref10_reads x91 p1).bind fun x105 =>
  if x105 then
  (some true).map Sum.inr
  else
  (ix p0.code x40).bind fun x121 =>
  if decide (x121.d ≠ p1) then
  (ref10_Next p0 x40).bind fun x137 =>
  (ap xs54 x137).bind fun xs147 =>
  some (Sum.inl (xs21.set (Int.toNat x40) true, xs147))
  else
  some (Sum.inl (xs21.set (Int.toNat x40) true, xs54))
  else
  (some false).map Sum.inr
noncomputable def ref10_Needed_l1 (p0 : TFunc) (p1 : Int) (xs21 : List Bool) (xs24 : List Int) : Option Bool := loopO (fun s => ref10_Needed_l1b p0 p1 s.1 s.2) (xs21, xs24)
noncomputable def ref10_Needed (p0 : TFunc) (p1 : Int) (p2 : Int) : Option Bool :=
  (mk (p0.code.length : Int) false).bind fun xs8 =>
  ref10_Needed_l1 p0 p1 xs8 [p2]
noncomputable def ref10_Span_k1 (x11 : Int) (x24 : Int) (x25 : Int) (x26 : Bool) : Option ((Int × Int × Bool × Int) ⊕ (Int × Int × Bool)) :=
  some (Sum.inl (x24, x25, x26, w64 (x11 + 1)))
noncomputable def ref10_Span_k3 (x11 : Int) (x80 : Int) (x85 : Int) : Option ((Int × Int × Bool × Int) ⊕ (Int × Int × Bool)) :=
  ref10_Span_k1 x11 x80 x85 true
noncomputable def ref10_Span_k2 (x9 : Int) (x10 : Bool) (x11 : Int) (x80 : Int) : Option ((Int × Int × Bool × Int) ⊕ (Int × Int × Bool)) :=
  if (!x10) || (decide (x9 < x11)) then
  ref10_Span_k3 x11 x80 x11
  else
  ref10_Span_k3 x11 x80 x9
noncomputable def ref10_Span_l1b (p0 : TFunc) (p1 : Int) (x8 : Int) (x9 : Int) (x10 : Bool) (x11 : Int) : Option ((Int × Int × Bool × Int) ⊕ (Int × Int × Bool)) :=
  if decide (x11 < (p0.code.length : Int)) then
  (ix p0.code x11).bind fun x31 =>
  (ref10_reads x31 p1).bind fun x53 =>
  (if x53 || (decide (x31.d = p1)) then
  some true
  else
  (ref10_Needed p0 p1 x11).bind fun x123 =>
  some x123).bind fun y68 =>
  if y68 then
  if (!x10) || (decide (x11 < x8)) then
  ref10_Span_k2 x9 x10 x11 x11
  else
  ref10_Span_k2 x9 x10 x11 x8
  else
  ref10_Span_k1 x11 x8 x9 x10
  else
  (some (x8, x9, x10)).map Sum.inr
noncomputable def ref10_Span_l1 (p0 : TFunc) (p1 : Int) (x8 : Int) (x9 : Int) (x10 : Bool) (x11 : Int) : Option (Int × Int × Bool) := loopO (fun s => ref10_Span_l1b p0 p1 s.1 s.2.1 s.2.2.1 s.2.2.2) (x8, x9, x10, x11)
noncomputable def ref10_Span (p0 : TFunc) (p1 : Int) : Option (Int × Int × Bool) :=
  ref10_Span_l1 p0 p1 0 0 (decide (p1 < p0.params)) 0
noncomputable def law10_FlowSpans_l3b (p0 : TFunc) (x49 : Int) (x65 : Int × Int × Bool) (x131 : Int) (x136 : Int) : Option (Int ⊕ ((Int × Int) ⊕ Bool)) :=
  if decide (x136 < (p0.code.length : Int)) then
  (ref10_Needed p0 x49 x136).bind fun x150 =>
  if x150 && ((decide (x136 < x65.1)) || (decide (x65.2.1 < x136))) then
  ((some false).map Sum.inr).map Sum.inr
  else
  some (Sum.inl (w64 (x136 + 1)))
  else
  (some (Sum.inl (x131, w64 (x49 + 1)))).map Sum.inr
noncomputable def law10_FlowSpans_l3 (p0 : TFunc) (x49 : Int) (x65 : Int × Int × Bool) (x131 : Int) (x136 : Int) : Option ((Int × Int) ⊕ Bool) := loopO (fun s => law10_FlowSpans_l3b p0 x49 x65 x131 s) x136
noncomputable def law10_FlowSpans_k1 (p0 : TFunc) (x49 : Int) (x65 : Int × Int × Bool) (x131 : Int) : Option ((Int × Int) ⊕ Bool) :=
  law10_FlowSpans_l3 p0 x49 x65 x131 0
noncomputable def law10_FlowSpans_l2b (p0 : TFunc) (x38 : List Tflow_Span) (x48 : Int) (x49 : Int) (x65 : Int × Int × Bool) (x73 : Bool) (x74 : Int) : Option ((Bool × Int) ⊕ ((Int × Int) ⊕ Bool)) :=
  if decide (x74 < (x38.length : Int)) then
  (ix x38 x74).bind fun x87 =>
  some (Sum.inl (x73 || ((decide (x87.reg = x49)) && ((decide (x87.from_ = x65.1)) && ((decide (x87.to_ = x65.2.1)) && true))), w64 (x74 + 1)))
  else
  (if !(x73 == x65.2.2) then
  (some false).map Sum.inr
  else
  if x65.2.2 then
  law10_FlowSpans_k1 p0 x49 x65 (w64 (x48 + 1))
  else
  law10_FlowSpans_k1 p0 x49 x65 x48).map Sum.inr
noncomputable def law10_FlowSpans_l2 (p0 : TFunc) (x38 : List Tflow_Span) (x48 : Int) (x49 : Int) (x65 : Int × Int × Bool) (x73 : Bool) (x74 : Int) : Option ((Int × Int) ⊕ Bool) := loopO (fun s => law10_FlowSpans_l2b p0 x38 x48 x49 x65 s.1 s.2) (x73, x74)
noncomputable def law10_FlowSpans_k2 (x192 : Int) (x206 : Bool) : Option (Int ⊕ Bool) :=
  if x206 then
  (some false).map Sum.inr
  else
  some (Sum.inl (w64 (x192 + 1)))
noncomputable def law10_FlowSpans_l4b (x38 : List Tflow_Span) (x48 : Int) (x192 : Int) : Option (Int ⊕ Bool) :=
  if decide (x192 < (x38.length : Int)) then
  (ix x38 (w64 (x192 - 1))).bind fun x217 =>
  (ix x38 x192).bind fun x231 =>
  if decide (x231.from_ < x217.from_) then
  law10_FlowSpans_k2 x192 true
  else
  (ix x38 (w64 (x192 - 1))).bind fun x243 =>
  (ix x38 x192).bind fun x252 =>
  if decide (x243.from_ = x252.from_) then
  (ix x38 (w64 (x192 - 1))).bind fun x263 =>
  (ix x38 x192).bind fun x272 =>
  law10_FlowSpans_k2 x192 (decide (x272.reg ≤ x263.reg))
  else
  law10_FlowSpans_k2 x192 false
  else
  (some (decide (x48 = (x38.length : Int)))).map Sum.inr
noncomputable def law10_FlowSpans_l4 (x38 : List Tflow_Span) (x48 : Int) (x192 : Int) : Option Bool := loopO (fun s => law10_FlowSpans_l4b x38 x48 s) x192
noncomputable def law10_FlowSpans_l1b (p0 : TFunc) (x38 : List Tflow_Span) (x48 : Int) (x49 : Int) : Option ((Int × Int) ⊕ Bool) :=
  if decide (x49 < p0.regs) then
  (ref10_Span p0 x49).bind fun x65 =>
  law10_FlowSpans_l2 p0 x38 x48 x49 x65 false 0
  else
  (law10_FlowSpans_l4 x38 x48 1).map Sum.inr
noncomputable def law10_FlowSpans_l1 (p0 : TFunc) (x38 : List Tflow_Span) (x48 : Int) (x49 : Int) : Option Bool := loopO (fun s => law10_FlowSpans_l1b p0 x38 s.1 s.2) (x48, x49)
noncomputable def law10_FlowSpans (p0 : TFunc) : Option Bool :=
  (law10_alive).bind fun x8 =>
  if !x8 then
  some false
  else
  (law10_great p0).bind fun x24 =>
  if x24 then
  some true
  else
  (flow_Spans p0).bind fun x38 =>
  law10_FlowSpans_l1 p0 x38 0 0
end Go.Vm.G10s
