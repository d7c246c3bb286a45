/-
 What functions compute, as plain functions.
-/
import Derived.Test.YtcacllfgnjlhiaaEF11a
set_option linter.unusedSimpArgs false
set_option linter.unusedVariables false
namespace Go.Vm.G11
open Go
structure TIns where
 op : Int
 d : Int
 a : Int
 b : Int
 imm : Int
 args : List Int
 what : Int
 volatile : Bool
 final : Bool
def RT_TIns : RT TIns := ⟨9, fun V cs x => ∃ v1 : Value, cs = [.int .i64 x.op, .int .i64 x.d, .int .i64 x.a, .int .i64 x.b, .int .i64 x.imm, v1, .int .i64 x.what, .bool x.volatile, .bool x.final] ∧ Fz (RT.int .i64) V v1 x.args, ⟨fun _ _ _ ⟨v1, h, f1⟩ => by rw [h]; rfl, fun _ _ _ ⟨v1, h, f1⟩ => by rw [h]; have := f1.one; simp only [List.all_cons, List.all_nil, *]; rfl, fun _ _ _ _ he ⟨v1, h, f1⟩ => ⟨v1, h, f1.up he⟩⟩⟩
structure TFunc where
 name : ByteArray
 params : Int
 regs : Int
 code : List TIns
def RT_TFunc : RT TFunc := ⟨4, fun V cs x => ∃ v1 : Value, cs = [.string x.name, .int .i64 x.params, .int .i64 x.regs, v1] ∧ Fz RT_TIns V v1 x.code, ⟨fun _ _ _ ⟨v1, h, f1⟩ => by rw [h]; rfl, fun _ _ _ ⟨v1, h, f1⟩ => by rw [h]; have := f1.one; simp only [List.all_cons, List.all_nil, *]; rfl, fun _ _ _ _ he ⟨v1, h, f1⟩ => ⟨v1, h, f1.up he⟩⟩⟩
structure TModule where
 funcs : List TFunc
 threads : List Int
def RT_TModule : RT TModule := ⟨2, fun V cs x => ∃ v1 v2 : Value, cs = [v1, v2] ∧ Fz RT_TFunc V v1 x.funcs ∧ Fz (RT.int .i64) V v2 x.threads, ⟨fun _ _ _ ⟨v1, v2, h, f1, f2⟩ => by rw [h]; rfl, fun _ _ _ ⟨v1, v2, h, f1, f2⟩ => by rw [h]; have := f1.one; have := f2.one; simp only [List.all_cons, List.all_nil, *]; rfl, fun _ _ _ _ he ⟨v1, v2, h, f1, f2⟩ => ⟨v1, v2, h, f1.up he, f2.up he⟩⟩⟩
structure Ttidy_Options where
 fold : Bool
 copy : Bool
 dead : Bool
def RT_Ttidy_Options : RT Ttidy_Options := ⟨3, fun V cs x => cs = [.bool x.fold, .bool x.copy, .bool x.dead], ⟨fun _ _ _ h => by rw [h]; rfl, fun _ _ _ h => by rw [h]; rfl, fun _ _ _ _ he h => h⟩⟩
structure Ttidy_facts where
 num : List (Int × Int)
 same : List (Int × Int)
noncomputable def law11_con (p0 : Int) (p1 : Int) : Option TIns :=
  some (⟨1, p0, (-1), (-1), p1, [], 0, false, false⟩ : TIns)
noncomputable def tidy_fresh : Option Ttidy_facts :=
  some (⟨[], []⟩ : Ttidy_facts)
noncomputable def slices_Clone (p0 : List TIns) : Option (List TIns) :=
  (ap [] p0).bind fun xs16 =>
  some xs16
noncomputable def tidy_facts_look (p0 : Ttidy_facts) (p1 : Int) : Option Int :=
  if ((mG p0.same p1).isSome) && (decide (0 ≤ p1)) then
  some ((mG p0.same p1).getD 0)
  else
  some p1
noncomputable def slices_Clone_2 (p0 : List Int) : Option (List Int) :=
  (ap [] p0).bind fun xs16 =>
  some xs16
noncomputable def tidy_facts_renamed_l1b (p0 : Ttidy_facts) (p1 : TIns) (x25 : Int) (x36 : Int) (x51 : List Int) (xs64 : List Int) (x65 : Int) : Option (((List Int) × Int) ⊕ TIns) :=
  if decide (x65 < (x51.length : Int)) then
  (ix xs64 x65).bind fun x84 =>
  (tidy_facts_look p0 x84).bind fun x101 =>
  (ix xs64 x65).bind fun x109 =>
  some (Sum.inl (xs64.set (Int.toNat x65) x101, w64 (x65 + 1)))
  else
  (some (⟨p1.op, p1.d, x25, x36, p1.imm, xs64, p1.what, p1.volatile, p1.final⟩ : TIns)).map Sum.inr
noncomputable def tidy_facts_renamed_l1 (p0 : Ttidy_facts) (p1 : TIns) (x25 : Int) (x36 : Int) (x51 : List Int) (xs64 : List Int) (x65 : Int) : Option TIns := loopO (fun s => tidy_facts_renamed_l1b p0 p1 x25 x36 x51 s.1 s.2) (xs64, x65)
noncomputable def tidy_facts_renamed (p0 : Ttidy_facts) (p1 : TIns) : Option TIns :=
  (tidy_facts_look p0 p1.a).bind fun x25 =>
  (tidy_facts_look p0 p1.b).bind fun x36 =>
  (slices_Clone_2 p1.args).bind fun x51 =>
  tidy_facts_renamed_l1 p0 p1 x25 x36 x51 x51 0
noncomputable def tidy_small (p0 : Int) : Option Bool :=
  some ((decide ((-32768) ≤ p0)) && (decide (p0 ≤ 32767)))
noncomputable def tidy_reckon_k1 (x1 : Bool) : Option (Int × Bool) :=
  if x1 then
  some (1, true)
  else
  some (0, true)
noncomputable def tidy_reckon (p0 : Int) (p1 : Int) (p2 : Int) : Option (Int × Bool) :=
  if decide (p0 = 3) then
  some (w64 (p1 + p2), true)
  else
  if decide (p0 = 4) then
  some (w64 (p1 - p2), true)
  else
  if decide (p0 = 5) then
  some (w64 (p1 * p2), true)
  else
  if decide (p0 = 7) then
  tidy_reckon_k1 (decide (p1 < p2))
  else
  if decide (p0 = 8) then
  tidy_reckon_k1 (decide (p1 = p2))
  else
  some (0, false)
noncomputable def tidy_facts_fold (p0 : Ttidy_facts) (p1 : TIns) : Option TIns :=
  (if (decide (p1.op = 2)) && ((mG p0.num p1.a).isSome) then
  (tidy_small ((mG p0.num p1.a).getD 0)).bind fun x149 =>
  some x149
  else
  some false).bind fun y36 =>
  if y36 then
  some (⟨1, p1.d, (-1), (-1), (mG p0.num p1.a).getD 0, [], 0, false, false⟩ : TIns)
  else
  if ((decide (p1.op = 13)) && ((mG p0.num p1.a).isSome)) && (decide (((mG p0.num p1.a).getD 0) = 0)) then
  some (⟨12, (-1), (-1), (-1), p1.imm, [], 0, false, false⟩ : TIns)
  else
  if (((decide (p1.op < 3)) || (decide (8 < p1.op))) || (!((mG p0.num p1.a).isSome))) || (!((mG p0.num p1.b).isSome)) then
  some p1
  else
  (tidy_reckon p1.op ((mG p0.num p1.a).getD 0) ((mG p0.num p1.b).getD 0)).bind fun x97 =>
  (if x97.2 then
  (tidy_small x97.1).bind fun x131 =>
  some x131
  else
  some false).bind fun y105 =>
  if y105 then
  some (⟨1, p1.d, (-1), (-1), x97.1, [], 0, false, false⟩ : TIns)
  else
  some p1
noncomputable def tidy_facts_forget (p0 : Ttidy_facts) (p1 : Int) : Option Ttidy_facts :=
  (forgetO p0.num p0.same p1).map fun q => ⟨q.1, q.2⟩
noncomputable def tidy_facts_learn (p0 : Ttidy_facts) (p1 : TIns) : Option Ttidy_facts :=
  if decide (p1.d < 0) then
  some p0
  else
  (tidy_facts_forget p0 p1.d).bind fun x27 =>
  if decide (p1.op = 1) then
  some (⟨mS x27.num p1.d p1.imm, x27.same⟩ : Ttidy_facts)
  else
  if (decide (p1.op = 2)) && (decide (p1.a ≠ p1.d)) then
  some (⟨x27.num, mS x27.same p1.d p1.a⟩ : Ttidy_facts)
  else
  some x27
noncomputable def tidy_row_k3 (xs55 : List TIns) (x56 : Int) (xs105 : List (Int × Int)) (xs108 : List (Int × Int)) (x128 : Int) (x129 : Int) (x130 : Int) (x131 : Int) (x132 : Int) (xs133 : List Int) (x136 : Int) (x137 : Bool) (x138 : Bool) : Option (((List (Int × Int)) × (List (Int × Int)) × (List TIns) × Int) ⊕ TFunc) :=
  (tidy_facts_learn (⟨xs105, xs108⟩ : Ttidy_facts) (⟨x128, x129, x130, x131, x132, xs133, x136, x137, x138⟩ : TIns)).bind fun x146 =>
  (ix xs55 x56).bind fun x158 =>
  some (Sum.inl (x146.num, x146.same, xs55.set (Int.toNat x56) (⟨x128, x129, x130, x131, x132, xs133, x136, x137, x138⟩ : TIns), w64 (x56 + 1)))
noncomputable def tidy_row_k2 (p1 : Ttidy_Options) (xs55 : List TIns) (x56 : Int) (xs105 : List (Int × Int)) (xs108 : List (Int × Int)) (x113 : Int) (x114 : Int) (x115 : Int) (x116 : Int) (x117 : Int) (xs118 : List Int) (x121 : Int) (x122 : Bool) (x123 : Bool) : Option (((List (Int × Int)) × (List (Int × Int)) × (List TIns) × Int) ⊕ TFunc) :=
  if p1.fold then
  (tidy_facts_fold (⟨xs105, xs108⟩ : Ttidy_facts) (⟨x113, x114, x115, x116, x117, xs118, x121, x122, x123⟩ : TIns)).bind fun x186 =>
  tidy_row_k3 xs55 x56 xs105 xs108 x186.op x186.d x186.a x186.b x186.imm x186.args x186.what x186.volatile x186.final
  else
  tidy_row_k3 xs55 x56 xs105 xs108 x113 x114 x115 x116 x117 xs118 x121 x122 x123
noncomputable def tidy_row_k1 (p1 : Ttidy_Options) (xs55 : List TIns) (x56 : Int) (x76 : TIns) (xs105 : List (Int × Int)) (xs108 : List (Int × Int)) : Option (((List (Int × Int)) × (List (Int × Int)) × (List TIns) × Int) ⊕ TFunc) :=
  if p1.copy then
  (tidy_facts_renamed (⟨xs105, xs108⟩ : Ttidy_facts) x76).bind fun x215 =>
  tidy_row_k2 p1 xs55 x56 xs105 xs108 x215.op x215.d x215.a x215.b x215.imm x215.args x215.what x215.volatile x215.final
  else
  tidy_row_k2 p1 xs55 x56 xs105 xs108 x76.op x76.d x76.a x76.b x76.imm x76.args x76.what x76.volatile x76.final
noncomputable def tidy_row_l1b (p0 : TFunc) (p1 : Ttidy_Options) (x36 : List TIns) (xs51 : List (Int × Int)) (xs54 : List (Int × Int)) (xs55 : List TIns) (x56 : Int) : Option (((List (Int × Int)) × (List (Int × Int)) × (List TIns) × Int) ⊕ TFunc) :=
  if decide (x56 < (x36.length : Int)) then
  (ix xs55 x56).bind fun x76 =>
  if decide (x76.op = 11) then
  (tidy_fresh).bind fun x241 =>
  tidy_row_k1 p1 xs55 x56 x76 x241.num x241.same
  else
  tidy_row_k1 p1 xs55 x56 x76 xs51 xs54
  else
  (some (⟨p0.name, p0.params, p0.regs, xs55⟩ : TFunc)).map Sum.inr
noncomputable def tidy_row_l1 (p0 : TFunc) (p1 : Ttidy_Options) (x36 : List TIns) (xs51 : List (Int × Int)) (xs54 : List (Int × Int)) (xs55 : List TIns) (x56 : Int) : Option TFunc := loopO (fun s => tidy_row_l1b p0 p1 x36 s.1 s.2.1 s.2.2.1 s.2.2.2) (xs51, xs54, xs55, x56)
noncomputable def tidy_row (p0 : TFunc) (p1 : Ttidy_Options) : Option TFunc :=
  (tidy_fresh).bind fun x20 =>
  (slices_Clone p0.code).bind fun x36 =>
  tidy_row_l1 p0 p1 x36 x20.num x20.same x36 0
noncomputable def flow_place_c1 (p0 : TIns) (p1 : Int) : Option Bool :=
  some ((decide (p0.op = 11)) && (decide (p0.imm = p1)))
noncomputable def slices_IndexFunc_l1b (p0 : List TIns) (p1_10 : Int) (x6 : Int) : Option (Int ⊕ Int) :=
  if decide (x6 < (p0.length : Int)) then
  (ix p0 x6).bind fun x19 =>
  (flow_place_c1 x19 p1_10).bind fun x33 =>
  if x33 then
  (some x6).map Sum.inr
  else
  some (Sum.inl (w64 (x6 + 1)))
  else
  (some (-1)).map Sum.inr
noncomputable def slices_IndexFunc_l1 (p0 : List TIns) (p1_10 : Int) (x6 : Int) : Option Int := loopO (fun s => slices_IndexFunc_l1b p0 p1_10 s) x6
noncomputable def slices_IndexFunc (p0 : List TIns) (p1_10 : Int) : Option Int :=
  slices_IndexFunc_l1 p0 p1_10 0
noncomputable def flow_place (p0 : TFunc) (p1 : Int) : Option Int :=
  (slices_IndexFunc p0.code p1).bind fun x14 =>
  some x14
noncomputable def slices_Index_l1b (p0 : List Int) (p1 : Int) (x3 : Int) : Option (Int ⊕ Int) :=
  if decide (x3 < (p0.length : Int)) then
  (ix p0 x3).bind fun x16 =>
  if decide (p1 = x16) then
  (some x3).map Sum.inr
  else
  some (Sum.inl (w64 (x3 + 1)))
  else
  (some (-1)).map Sum.inr
noncomputable def slices_Index_l1 (p0 : List Int) (p1 : Int) (x3 : Int) : Option Int := loopO (fun s => slices_Index_l1b p0 p1 s) x3
noncomputable def slices_Index (p0 : List Int) (p1 : Int) : Option Int :=
  slices_Index_l1 p0 p1 0
noncomputable def slices_Contains (p0 : List Int) (p1 : Int) : Option Bool :=
  (slices_Index p0 p1).bind fun x3 =>
  some (decide (0 ≤ x3))
noncomputable def flow_Next_k2 (xs55 : List Int) : Option (List Int) :=
  some xs55
noncomputable def flow_Next_k1 (p0 : TFunc) (x25 : TIns) (xs48 : List Int) : Option (List Int) :=
  if ((decide (x25.op = 12)) || (decide (x25.op = 13))) || (decide (x25.op = 17)) then
  (flow_place p0 x25.imm).bind fun x76 =>
  (if decide (0 ≤ x76) then
  (slices_Contains xs48 x76).bind fun x118 =>
  some (!x118)
  else
  some false).bind fun y84 =>
  if y84 then
  (ap xs48 [x76]).bind fun xs101 =>
  flow_Next_k2 xs101
  else
  flow_Next_k2 xs48
  else
  flow_Next_k2 xs48
noncomputable def flow_Next (p0 : TFunc) (p1 : Int) : Option (List Int) :=
  if (decide (p1 < 0)) || (decide ((p0.code.length : Int) ≤ p1)) then
  some []
  else
  (ix p0.code p1).bind fun x25 =>
  if (((decide (x25.op ≠ 12)) && (decide (x25.op ≠ 15))) && (decide (x25.op ≠ 16))) && (decide ((w64 (p1 + 1)) < (p0.code.length : Int))) then
  (ap [] [w64 (p1 + 1)]).bind fun xs167 =>
  flow_Next_k1 p0 x25 xs167
  else
  flow_Next_k1 p0 x25 []
noncomputable def flow_set_merge_l1b (p1 : List Bool) (xs5 : List Bool) (x6 : Bool) (x7 : Int) : Option (((List Bool) × Bool × Int) ⊕ (Bool × (List Bool))) :=
  if decide (x7 < (p1.length : Int)) then
  (ix p1 x7).bind fun x20 =>
  (if x6 then
  some true
  else
  (if x20 then
  (ix xs5 x7).bind fun x97 =>
  some (!x97)
  else
  some false).bind fun y83 =>
  some y83).bind fun y34 =>
  (ix xs5 x7).bind fun x48 =>
  (ix xs5 x7).bind fun x66 =>
  some (Sum.inl (xs5.set (Int.toNat x7) (x48 || x20), y34, w64 (x7 + 1)))
  else
  (some (x6, xs5)).map Sum.inr
noncomputable def flow_set_merge_l1 (p1 : List Bool) (xs5 : List Bool) (x6 : Bool) (x7 : Int) : Option (Bool × (List Bool)) := loopO (fun s => flow_set_merge_l1b p1 s.1 s.2.1 s.2.2) (xs5, x6, x7)
noncomputable def flow_set_merge (p0 : List Bool) (p1 : List Bool) : Option (Bool × (List Bool)) :=
  flow_set_merge_l1 p1 p0 false 0
noncomputable def slices_Clone_3 (p0 : List Bool) : Option (List Bool) :=
  (ap [] p0).bind fun xs15 =>
  some xs15
noncomputable def ir_Def (p0 : TIns) : Option Int :=
  some p0.d
noncomputable def ir_Uses_k1 (x27 : Int) (xs45 : List Int) : Option (((List Int) × Int) ⊕ (List Int)) :=
  some (Sum.inl (xs45, w64 (x27 + 1)))
noncomputable def ir_Uses_l1b (xs16 : List Int) (xs26 : List Int) (x27 : Int) : Option (((List Int) × Int) ⊕ (List Int)) :=
  if decide (x27 < (xs16.length : Int)) then
  (ix xs16 x27).bind fun x50 =>
  if decide (0 ≤ x50) then
  (ap xs26 [x50]).bind fun xs71 =>
  ir_Uses_k1 x27 xs71
  else
  ir_Uses_k1 x27 xs26
  else
  (some xs26).map Sum.inr
noncomputable def ir_Uses_l1 (xs16 : List Int) (xs26 : List Int) (x27 : Int) : Option (List Int) := loopO (fun s => ir_Uses_l1b xs16 s.1 s.2) (xs26, x27)
noncomputable def ir_Uses (p0 : TIns) : Option (List Int) :=
  (ap [p0.a, p0.b] p0.args).bind fun xs16 =>
  ir_Uses_l1 xs16 [] 0
noncomputable def flow_step_k2 (x40 : Int) (xs57 : List Bool) : Option (((List Bool) × Int) ⊕ (List Bool)) :=
  some (Sum.inl (xs57, w64 (x40 + 1)))
noncomputable def flow_step_l1b (x29 : List Int) (xs39 : List Bool) (x40 : Int) : Option (((List Bool) × Int) ⊕ (List Bool)) :=
  if decide (x40 < (x29.length : Int)) then
  (ix x29 x40).bind fun x62 =>
  if decide (x62 < (xs39.length : Int)) then
  (ix xs39 x62).bind fun x78 =>
  flow_step_k2 x40 (xs39.set (Int.toNat x62) true)
  else
  flow_step_k2 x40 xs39
  else
  (some xs39).map Sum.inr
noncomputable def flow_step_l1 (x29 : List Int) (xs39 : List Bool) (x40 : Int) : Option (List Bool) := loopO (fun s => flow_step_l1b x29 s.1 s.2) (xs39, x40)
noncomputable def flow_step_k1 (p0 : TIns) (xs23 : List Bool) : Option (List Bool) :=
  (ir_Uses p0).bind fun x29 =>
  flow_step_l1 x29 xs23 0
noncomputable def flow_step (p0 : TIns) (p1 : List Bool) : Option (List Bool) :=
  (slices_Clone_3 p1).bind fun x13 =>
  (ir_Def p0).bind fun x103 =>
  if (decide (0 ≤ x103)) && (decide (x103 < (x13.length : Int))) then
  (ix x13 x103).bind fun x120 =>
  flow_step_k1 p0 (x13.set (Int.toNat x103) false)
  else
  flow_step_k1 p0 x13
noncomputable def flow_Live_k1 (x121 : Int) (xs134 : List (List Bool)) (x135 : Bool) : Option (((List (List Bool)) × Bool × Int) ⊕ (((List (List Bool)) × Bool) ⊕ (List (List Bool)))) :=
  some (Sum.inl (xs134, x135, w64 (x121 - 1)))
noncomputable def flow_Live_l4b (p0 : TFunc) (xs31 : List (List Int)) (xs119 : List (List Bool)) (x120 : Bool) (x121 : Int) (x148 : List Int) (xs162 : List Bool) (x163 : Int) : Option (((List Bool) × Int) ⊕ (((List (List Bool)) × Bool × Int) ⊕ (((List (List Bool)) × Bool) ⊕ (List (List Bool))))) :=
  if decide (x163 < (x148.length : Int)) then
  (ix xs31 x121).bind fun x180 =>
  (ix x180 x163).bind fun x187 =>
  (ix xs119 x187).bind fun x201 =>
  (flow_set_merge xs162 x201).bind fun x215 =>
  some (Sum.inl (x215.2, w64 (x163 + 1)))
  else
  ((ix xs119 x121).bind fun x231 =>
  (ix p0.code x121).bind fun x244 =>
  (flow_step x244 xs162).bind fun x259 =>
  (flow_set_merge x231 x259).bind fun x273 =>
  if x273.1 then
  flow_Live_k1 x121 (xs119.set (Int.toNat x121) x273.2) true
  else
  flow_Live_k1 x121 (xs119.set (Int.toNat x121) x273.2) x120).map Sum.inr
noncomputable def flow_Live_l4 (p0 : TFunc) (xs31 : List (List Int)) (xs119 : List (List Bool)) (x120 : Bool) (x121 : Int) (x148 : List Int) (xs162 : List Bool) (x163 : Int) : Option (((List (List Bool)) × Bool × Int) ⊕ (((List (List Bool)) × Bool) ⊕ (List (List Bool)))) := loopO (fun s => flow_Live_l4b p0 xs31 xs119 x120 x121 x148 s.1 s.2) (xs162, x163)
noncomputable def flow_Live_l3b (p0 : TFunc) (xs31 : List (List Int)) (xs119 : List (List Bool)) (x120 : Bool) (x121 : Int) : Option (((List (List Bool)) × Bool × Int) ⊕ (((List (List Bool)) × Bool) ⊕ (List (List Bool)))) :=
  if decide (0 ≤ x121) then
  (mk (max p0.regs 0) false).bind fun xs140 =>
  (ix xs31 x121).bind fun x148 =>
  flow_Live_l4 p0 xs31 xs119 x120 x121 x148 xs140 0
  else
  (some (Sum.inl (xs119, x120))).map Sum.inr
noncomputable def flow_Live_l3 (p0 : TFunc) (xs31 : List (List Int)) (xs119 : List (List Bool)) (x120 : Bool) (x121 : Int) : Option (((List (List Bool)) × Bool) ⊕ (List (List Bool))) := loopO (fun s => flow_Live_l3b p0 xs31 s.1 s.2.1 s.2.2) (xs119, x120, x121)
noncomputable def flow_Live_l5b (xs105 : List (List Bool)) (xs296 : List (List Bool)) (xs297 : List (List Bool)) (x300 : Int) : Option (((List (List Bool)) × (List (List Bool)) × Int) ⊕ (List (List Bool))) :=
  if decide (x300 < (xs105.length : Int)) then
  (ix xs297 x300).bind fun x323 =>
  (ap xs296 [x323]).bind fun xs341 =>
  some (Sum.inl (xs341, xs297, w64 (x300 + 1)))
  else
  (some xs296).map Sum.inr
noncomputable def flow_Live_l5 (xs105 : List (List Bool)) (xs296 : List (List Bool)) (xs297 : List (List Bool)) (x300 : Int) : Option (List (List Bool)) := loopO (fun s => flow_Live_l5b xs105 s.1 s.2.1 s.2.2) (xs296, xs297, x300)
noncomputable def flow_Live_l2b (p0 : TFunc) (xs31 : List (List Int)) (xs105 : List (List Bool)) (x106 : Bool) : Option (((List (List Bool)) × Bool) ⊕ (List (List Bool))) :=
  if x106 then
  flow_Live_l3 p0 xs31 xs105 false (w64 ((p0.code.length : Int) - 1))
  else
  (flow_Live_l5 xs105 [] xs105 0).map Sum.inr
noncomputable def flow_Live_l2 (p0 : TFunc) (xs31 : List (List Int)) (xs105 : List (List Bool)) (x106 : Bool) : Option (List (List Bool)) := loopO (fun s => flow_Live_l2b p0 xs31 s.1 s.2) (xs105, x106)
noncomputable def flow_Live_l1b (p0 : TFunc) (xs10 : List (List Bool)) (xs29 : List (List Bool)) (xs31 : List (List Int)) (x32 : Int) : Option (((List (List Bool)) × (List (List Int)) × Int) ⊕ (List (List Bool))) :=
  if decide (x32 < (xs10.length : Int)) then
  (mk (max p0.regs 0) false).bind fun xs48 =>
  (ix xs29 x32).bind fun x56 =>
  (flow_Next p0 x32).bind fun x74 =>
  (ix xs31 x32).bind fun x84 =>
  some (Sum.inl (xs29.set (Int.toNat x32) xs48, xs31.set (Int.toNat x32) x74, w64 (x32 + 1)))
  else
  (flow_Live_l2 p0 xs31 xs29 true).map Sum.inr
noncomputable def flow_Live_l1 (p0 : TFunc) (xs10 : List (List Bool)) (xs29 : List (List Bool)) (xs31 : List (List Int)) (x32 : Int) : Option (List (List Bool)) := loopO (fun s => flow_Live_l1b p0 xs10 s.1 s.2.1 s.2.2) (xs29, xs31, x32)
noncomputable def flow_Live (p0 : TFunc) : Option (List (List Bool)) :=
  (mk (p0.code.length : Int) ([] : List Bool)).bind fun xs10 =>
  (mk (p0.code.length : Int) ([] : List Int)).bind fun xs19 =>
  flow_Live_l1 p0 xs10 xs10 xs19 0
noncomputable def flow_Reached_k1 (xs42 : List Bool) (xs45 : List Int) : Option (((List Bool) × (List Int)) ⊕ (List Bool)) :=
  (cutL xs45 1 (xs45.length : Int)).bind fun xs50 =>
  some (Sum.inl (xs42, xs50))
noncomputable def flow_Reached_l1b (p0 : TFunc) (xs23 : List Bool) (xs26 : List Int) : Option (((List Bool) × (List Int)) ⊕ (List Bool)) :=
  if decide (0 < (xs26.length : Int)) then
  (ix xs26 0).bind fun x58 =>
  (if decide (x58 < (xs23.length : Int)) then
  (ix xs23 x58).bind fun x125 =>
  some (!x125)
  else
  some false).bind fun y72 =>
  if y72 then
  (ix xs23 x58).bind fun x85 =>
  (flow_Next p0 x58).bind fun x103 =>
  (ap xs26 x103).bind fun xs113 =>
  flow_Reached_k1 (xs23.set (Int.toNat x58) true) xs113
  else
  flow_Reached_k1 xs23 xs26
  else
  (some xs23).map Sum.inr
noncomputable def flow_Reached_l1 (p0 : TFunc) (xs23 : List Bool) (xs26 : List Int) : Option (List Bool) := loopO (fun s => flow_Reached_l1b p0 s.1 s.2) (xs23, xs26)
noncomputable def flow_Reached (p0 : TFunc) : Option (List Bool) :=
  (mk (p0.code.length : Int) false).bind fun xs10 =>
  flow_Reached_l1 p0 xs10 [0]
noncomputable def ir_Pure (p0 : TIns) : Option Bool :=
  some ((decide (1 ≤ p0.op)) && (decide (p0.op ≤ 8)))
noncomputable def tidy_idle_c1 (p0 : Int) (p1 : List (List Bool)) (p2 : TIns) : Option Bool :=
  (ix p1 p0).bind fun x11 =>
  (ix x11 p2.d).bind fun x27 =>
  some x27
noncomputable def slices_IndexFunc_2_l1b (p0 : List Int) (p1_10 : List (List Bool)) (p1_11 : TIns) (x13 : Int) : Option (Int ⊕ Int) :=
  if decide (x13 < (p0.length : Int)) then
  (ix p0 x13).bind fun x26 =>
  (tidy_idle_c1 x26 p1_10 p1_11).bind fun x44 =>
  if x44 then
  (some x13).map Sum.inr
  else
  some (Sum.inl (w64 (x13 + 1)))
  else
  (some (-1)).map Sum.inr
noncomputable def slices_IndexFunc_2_l1 (p0 : List Int) (p1_10 : List (List Bool)) (p1_11 : TIns) (x13 : Int) : Option Int := loopO (fun s => slices_IndexFunc_2_l1b p0 p1_10 p1_11 s) x13
noncomputable def slices_IndexFunc_2 (p0 : List Int) (p1_10 : List (List Bool)) (p1_11 : TIns) : Option Int :=
  slices_IndexFunc_2_l1 p0 p1_10 p1_11 0
noncomputable def slices_ContainsFunc (p0 : List Int) (p1_10 : List (List Bool)) (p1_11 : TIns) : Option Bool :=
  (slices_IndexFunc_2 p0 p1_10 p1_11).bind fun x17 =>
  some (decide (0 ≤ x17))
noncomputable def tidy_idle_k1 (p0 : TFunc) (p1 : Int) (p2 : List (List Bool)) (x15 : TIns) (x51 : Bool) : Option Bool :=
  if x51 then
  some true
  else
  (ir_Pure x15).bind fun x64 =>
  (if x64 then
  (flow_Next p0 p1).bind fun x91 =>
  (slices_ContainsFunc x91 p2 x15).bind fun x106 =>
  some (!x106)
  else
  some false).bind fun y72 =>
  some y72
noncomputable def tidy_idle (p0 : TFunc) (p1 : Int) (p2 : List (List Bool)) : Option Bool :=
  (ix p0.code p1).bind fun x15 =>
  if (decide (x15.op = 2)) && (decide (x15.d = x15.a)) then
  some true
  else
  if decide (x15.op = 12) then
  if decide ((w64 (p1 + 1)) < (p0.code.length : Int)) then
  (ix p0.code (w64 (p1 + 1))).bind fun x126 =>
  if decide (x126.op = 11) then
  (ix p0.code (w64 (p1 + 1))).bind fun x141 =>
  tidy_idle_k1 p0 p1 p2 x15 (decide (x141.imm = x15.imm))
  else
  tidy_idle_k1 p0 p1 p2 x15 false
  else
  tidy_idle_k1 p0 p1 p2 x15 false
  else
  tidy_idle_k1 p0 p1 p2 x15 false
noncomputable def tidy_swept_k1 (x40 : Int) (xs62 : List TIns) : Option (((List TIns) × Int) ⊕ (TFunc × Bool)) :=
  some (Sum.inl (xs62, w64 (x40 + 1)))
noncomputable def tidy_swept_k2 (p0 : TFunc) (xs39 : List TIns) (xs180 : List TIns) : Option (TFunc × Bool) :=
  some ((⟨p0.name, p0.params, p0.regs, xs180⟩ : TFunc), decide ((xs39.length : Int) < (p0.code.length : Int)))
noncomputable def tidy_swept_l1b (p0 : TFunc) (x16 : List (List Bool)) (x27 : List Bool) (xs39 : List TIns) (x40 : Int) : Option (((List TIns) × Int) ⊕ (TFunc × Bool)) :=
  if decide (x40 < (p0.code.length : Int)) then
  (ix p0.code x40).bind fun x67 =>
  (if decide (x67.op = 11) then
  some true
  else
  (ix x27 x40).bind fun x129 =>
  (if x129 then
  (tidy_idle p0 x40 x16).bind fun x159 =>
  some (!x159)
  else
  some false).bind fun y143 =>
  some y143).bind fun y88 =>
  if y88 then
  (ap xs39 [x67]).bind fun xs113 =>
  tidy_swept_k1 x40 xs113
  else
  tidy_swept_k1 x40 xs39
  else
  ((if decide ((xs39.length : Int) = 0) then
  some true
  else
  (ix xs39 (w64 ((xs39.length : Int) - 1))).bind fun x238 =>
  some (decide (x238.op = 11))).bind fun y200 =>
  if y200 then
  (ap xs39 ([(⟨15, (-1), (-1), (-1), 0, [], 0, false, false⟩ : TIns)])).bind fun xs220 =>
  tidy_swept_k2 p0 xs39 xs220
  else
  tidy_swept_k2 p0 xs39 xs39).map Sum.inr
noncomputable def tidy_swept_l1 (p0 : TFunc) (x16 : List (List Bool)) (x27 : List Bool) (xs39 : List TIns) (x40 : Int) : Option (TFunc × Bool) := loopO (fun s => tidy_swept_l1b p0 x16 x27 s.1 s.2) (xs39, x40)
noncomputable def tidy_swept (p0 : TFunc) : Option (TFunc × Bool) :=
  (flow_Live p0).bind fun x16 =>
  (flow_Reached p0).bind fun x27 =>
  tidy_swept_l1 p0 x16 x27 [] 0
noncomputable def tidy_Func_l1b (x34 : ByteArray) (x35 : Int) (x36 : Int) (xs37 : List TIns) (x40 : Bool) : Option ((ByteArray × Int × Int × (List TIns) × Bool) ⊕ TFunc) :=
  if x40 then
  (tidy_swept (⟨x34, x35, x36, xs37⟩ : TFunc)).bind fun x57 =>
  some (Sum.inl (x57.1.name, x57.1.params, x57.1.regs, x57.1.code, decide ((x57.1.code.length : Int) < (xs37.length : Int))))
  else
  (some (⟨x34, x35, x36, xs37⟩ : TFunc)).map Sum.inr
noncomputable def tidy_Func_l1 (x34 : ByteArray) (x35 : Int) (x36 : Int) (xs37 : List TIns) (x40 : Bool) : Option TFunc := loopO (fun s => tidy_Func_l1b s.1 s.2.1 s.2.2.1 s.2.2.2.1 s.2.2.2.2) (x34, x35, x36, xs37, x40)
noncomputable def tidy_Func (p0 : TFunc) (p1 : Ttidy_Options) : Option TFunc :=
  (tidy_row p0 p1).bind fun x21 =>
  tidy_Func_l1 x21.name x21.params x21.regs x21.code p1.dead
noncomputable def law11_alive : Option Bool :=
  (law11_con 0 2).bind fun x1 =>
  (law11_con 1 3).bind fun x11 =>
  (tidy_Func (⟨ByteArray.empty, 0, 3, [x1, x11, (⟨3, 2, 0, 1, 0, [], 0, false, false⟩ : TIns), (⟨20, (-1), 2, (-1), 0, [], 0, false, false⟩ : TIns), (⟨15, (-1), (-1), (-1), 0, [], 0, false, false⟩ : TIns)]⟩ : TFunc) (⟨true, true, true⟩ : Ttidy_Options)).bind fun x41 =>
  (if decide ((x41.code.length : Int) = 3) then
  (ix x41.code 0).bind fun x106 =>
  some (decide (x106.op = 1))
  else
  some false).bind fun y59 =>
  (if y59 then
  (ix x41.code 0).bind fun x88 =>
  some (decide (x88.imm = 5))
  else
  some false).bind fun y71 =>
  some y71
noncomputable def ref08_has_k5 (x49 : Bool) : Option (Bool × Bool × Bool × Bool) :=
  if x49 then
  some (false, true, false, false)
  else
  some (false, false, false, false)
noncomputable def ref08_has_k4 (p0 : Int) (x32 : Bool) : Option (Bool × Bool × Bool × Bool) :=
  if x32 then
  some (false, false, false, true)
  else
  if decide (p0 = 13) then
  some (false, true, false, true)
  else
  if decide (p0 = 17) then
  some (true, true, false, true)
  else
  if decide (p0 = 15) then
  ref08_has_k5 true
  else
  if decide (p0 = 18) then
  ref08_has_k5 true
  else
  if decide (p0 = 19) then
  ref08_has_k5 true
  else
  ref08_has_k5 (decide (p0 = 20))
noncomputable def ref08_has_k3 (p0 : Int) (x19 : Bool) : Option (Bool × Bool × Bool × Bool) :=
  if x19 then
  some (true, true, true, false)
  else
  if decide (p0 = 10) then
  some (false, true, true, false)
  else
  if decide (p0 = 11) then
  ref08_has_k4 p0 true
  else
  ref08_has_k4 p0 (decide (p0 = 12))
noncomputable def ref08_has_k2 (p0 : Int) (x10 : Bool) : Option (Bool × Bool × Bool × Bool) :=
  if x10 then
  some (true, true, false, false)
  else
  if decide (p0 = 3) then
  ref08_has_k3 p0 true
  else
  if decide (p0 = 4) then
  ref08_has_k3 p0 true
  else
  if decide (p0 = 5) then
  ref08_has_k3 p0 true
  else
  if decide (p0 = 6) then
  ref08_has_k3 p0 true
  else
  if decide (p0 = 7) then
  ref08_has_k3 p0 true
  else
  ref08_has_k3 p0 (decide (p0 = 8))
noncomputable def ref08_has_k1 (p0 : Int) (x1 : Bool) : Option (Bool × Bool × Bool × Bool) :=
  if x1 then
  some (true, false, false, false)
  else
  if decide (p0 = 2) then
  ref08_has_k2 p0 true
  else
  ref08_has_k2 p0 (decide (p0 = 9))
noncomputable def ref08_has (p0 : Int) : Option (Bool × Bool × Bool × Bool) :=
  if decide (p0 = 1) then
  ref08_has_k1 p0 true
  else
  ref08_has_k1 p0 (decide (p0 = 14))
noncomputable def ref08_register (p0 : Bool) (p1 : Bool) (p2 : Int) (p3 : Int) : Option Bool :=
  if !p0 then
  some (decide (p2 = (-1)))
  else
  some (((decide (0 ≤ p2)) && (decide (p2 < p3))) || (p1 && (decide (p2 = (-1)))))
noncomputable def ref08_count_k1 (x9 : Int) (x23 : Int) : Option ((Int × Int) ⊕ Int) :=
  some (Sum.inl (x23, w64 (x9 + 1)))
noncomputable def ref08_count_l1b (p0 : TFunc) (p1 : Int) (x8 : Int) (x9 : Int) : Option ((Int × Int) ⊕ Int) :=
  if decide (x9 < (p0.code.length : Int)) then
  (ix p0.code x9).bind fun x28 =>
  if (decide (x28.op = 11)) && (decide (x28.imm = p1)) then
  ref08_count_k1 x9 (w64 (x8 + 1))
  else
  ref08_count_k1 x9 x8
  else
  (some x8).map Sum.inr
noncomputable def ref08_count_l1 (p0 : TFunc) (p1 : Int) (x8 : Int) (x9 : Int) : Option Int := loopO (fun s => ref08_count_l1b p0 p1 s.1 s.2) (x8, x9)
noncomputable def ref08_count (p0 : TFunc) (p1 : Int) : Option Int :=
  ref08_count_l1 p0 p1 0 0
noncomputable def ref08_ins_k2 (p0 : TFunc) (p1 : TIns) (x27 : Bool × Bool × Bool × Bool) (x166 : Bool) : Option Bool :=
  if x166 then
  some true
  else
  if decide (p1.op = 16) then
  some (decide (0 < p1.imm))
  else
  if decide (p1.op = 22) then
  some ((decide (p1.imm = 0)) || (decide (p1.imm = 1)))
  else
  if x27.2.2.2 then
  (ref08_count p0 p1.imm).bind fun x199 =>
  some (decide (0 < x199))
  else
  some (decide (p1.imm = 0))
noncomputable def ref08_ins_l1b (p0 : TFunc) (p1 : TIns) (x27 : Bool × Bool × Bool × Bool) (x93 : Int) : Option (Int ⊕ Bool) :=
  if decide (x93 < (p1.args.length : Int)) then
  (ix p1.args x93).bind fun x106 =>
  if ((decide (p1.op ≠ 14)) || (decide (x106 < 0))) || (decide (p0.regs ≤ x106)) then
  (some false).map Sum.inr
  else
  some (Sum.inl (w64 (x93 + 1)))
  else
  (if ((decide (p1.op ≠ 9)) && (decide (p1.op ≠ 10))) && (((decide (p1.what ≠ 0)) || p1.volatile) || p1.final) then
  some false
  else
  if decide (p1.op = 1) then
  ref08_ins_k2 p0 p1 x27 true
  else
  if decide (p1.op = 9) then
  ref08_ins_k2 p0 p1 x27 true
  else
  if decide (p1.op = 10) then
  ref08_ins_k2 p0 p1 x27 true
  else
  if decide (p1.op = 14) then
  ref08_ins_k2 p0 p1 x27 true
  else
  ref08_ins_k2 p0 p1 x27 (decide (p1.op = 21))).map Sum.inr
noncomputable def ref08_ins_l1 (p0 : TFunc) (p1 : TIns) (x27 : Bool × Bool × Bool × Bool) (x93 : Int) : Option Bool := loopO (fun s => ref08_ins_l1b p0 p1 x27 s) x93
noncomputable def ref08_ins_k1 (p0 : TFunc) (p1 : TIns) (x27 : Bool × Bool × Bool × Bool) (x35 : Bool) : Option Bool :=
  (ref08_register x27.1 (decide (p1.op = 14)) p1.d p0.regs).bind fun x40 =>
  (if !x40 then
  some true
  else
  (ref08_register x35 (((decide (p1.op = 9)) || (decide (p1.op = 10))) || (decide (p1.op = 15))) p1.a p0.regs).bind fun x271 =>
  some (!x271)).bind fun y48 =>
  (if y48 then
  some true
  else
  (ref08_register x27.2.2.1 false p1.b p0.regs).bind fun x244 =>
  some (!x244)).bind fun y74 =>
  if y74 then
  some false
  else
  ref08_ins_l1 p0 p1 x27 0
noncomputable def ref08_ins (p0 : TFunc) (p1 : TIns) : Option Bool :=
  if (decide (p1.op < 1)) || (decide (22 < p1.op)) then
  some false
  else
  (ref08_has p1.op).bind fun x27 =>
  if decide (p1.op = 21) then
  if (decide (p1.imm < 1)) || (decide (3 < p1.imm)) then
  some false
  else
  ref08_ins_k1 p0 p1 x27 (decide (p1.imm = 3))
  else
  ref08_ins_k1 p0 p1 x27 x27.2.1
noncomputable def ref08_Good_l1b (p0 : TFunc) (x55 : Int) : Option (Int ⊕ Bool) :=
  if decide (x55 < (p0.code.length : Int)) then
  (ix p0.code x55).bind fun x68 =>
  (ref08_ins p0 x68).bind fun x91 =>
  (if !x91 then
  some true
  else
  (if decide (x68.op = 11) then
  (ref08_count p0 x68.imm).bind fun x144 =>
  some (decide (x144 ≠ 1))
  else
  some false).bind fun y129 =>
  some y129).bind fun y99 =>
  if y99 then
  (some false).map Sum.inr
  else
  some (Sum.inl (w64 (x55 + 1)))
  else
  (some true).map Sum.inr
noncomputable def ref08_Good_l1 (p0 : TFunc) (x55 : Int) : Option Bool := loopO (fun s => ref08_Good_l1b p0 s) x55
noncomputable def ref08_Good (p0 : TFunc) : Option Bool :=
  if ((decide ((p0.code.length : Int) = 0)) || (decide (p0.params < 0))) || (decide (p0.regs < p0.params)) then
  some false
  else
  (ix p0.code (w64 ((p0.code.length : Int) - 1))).bind fun x27 =>
  if ((decide (x27.op ≠ 12)) && (decide (x27.op ≠ 15))) && (decide (x27.op ≠ 16)) then
  some false
  else
  ref08_Good_l1 p0 0
noncomputable def ref08_Whole_k1 (x62 : Int) (x97 : Bool) : Option (Int ⊕ (Int ⊕ Bool)) :=
  if x97 then
  ((some false).map Sum.inr).map Sum.inr
  else
  some (Sum.inl (w64 (x62 + 1)))
noncomputable def ref08_Whole_l2b (p0 : TModule) (x10 : Int) (x23 : TFunc) (x62 : Int) : Option (Int ⊕ (Int ⊕ Bool)) :=
  if decide (x62 < (x23.code.length : Int)) then
  (ix x23.code x62).bind fun x76 =>
  if decide (x76.op = 14) then
  if decide (x76.imm < 0) then
  ref08_Whole_k1 x62 true
  else
  if decide ((p0.funcs.length : Int) ≤ x76.imm) then
  ref08_Whole_k1 x62 true
  else
  (ix p0.funcs x76.imm).bind fun x119 =>
  ref08_Whole_k1 x62 (decide ((x76.args.length : Int) ≠ x119.params))
  else
  ref08_Whole_k1 x62 false
  else
  (some (Sum.inl (w64 (x10 + 1)))).map Sum.inr
noncomputable def ref08_Whole_l2 (p0 : TModule) (x10 : Int) (x23 : TFunc) (x62 : Int) : Option (Int ⊕ Bool) := loopO (fun s => ref08_Whole_l2b p0 x10 x23 s) x62
noncomputable def ref08_Whole_l3b (p0 : TModule) (x139 : Int) : Option (Int ⊕ Bool) :=
  if decide (x139 < (p0.threads.length : Int)) then
  (ix p0.threads x139).bind fun x152 =>
  (if (decide (x152 < 0)) || (decide ((p0.funcs.length : Int) ≤ x152)) then
  some true
  else
  (ix p0.funcs x152).bind fun x194 =>
  some (decide (x194.params ≠ 0))).bind fun y171 =>
  if y171 then
  (some false).map Sum.inr
  else
  some (Sum.inl (w64 (x139 + 1)))
  else
  (some true).map Sum.inr
noncomputable def ref08_Whole_l3 (p0 : TModule) (x139 : Int) : Option Bool := loopO (fun s => ref08_Whole_l3b p0 s) x139
noncomputable def ref08_Whole_l1b (p0 : TModule) (x10 : Int) : Option (Int ⊕ Bool) :=
  if decide (x10 < (p0.funcs.length : Int)) then
  (ix p0.funcs x10).bind fun x23 =>
  (ref08_Good x23).bind fun x45 =>
  if !x45 then
  (some false).map Sum.inr
  else
  ref08_Whole_l2 p0 x10 x23 0
  else
  (ref08_Whole_l3 p0 0).map Sum.inr
noncomputable def ref08_Whole_l1 (p0 : TModule) (x10 : Int) : Option Bool := loopO (fun s => ref08_Whole_l1b p0 s) x10
noncomputable def ref08_Whole (p0 : TModule) : Option Bool :=
  ref08_Whole_l1 p0 0
noncomputable def law11_great_l1b (p0 : TModule) (x10 : Int) : Option (Int ⊕ Bool) :=
  if decide (x10 < (p0.funcs.length : Int)) then
  (ix p0.funcs x10).bind fun x23 =>
  if (decide (40 < (x23.code.length : Int))) || (decide (12 < x23.regs)) then
  (some true).map Sum.inr
  else
  some (Sum.inl (w64 (x10 + 1)))
  else
  ((if (decide (6 < (p0.funcs.length : Int))) || (decide (4 < (p0.threads.length : Int))) then
  some true
  else
  (ref08_Whole p0).bind fun x85 =>
  some (!x85)).bind fun y68 =>
  some y68).map Sum.inr
noncomputable def law11_great_l1 (p0 : TModule) (x10 : Int) : Option Bool := loopO (fun s => law11_great_l1b p0 s) x10
noncomputable def law11_great (p0 : TModule) : Option Bool :=
  law11_great_l1 p0 0
noncomputable def tidy_Module_l1b (p0 : TModule) (p1 : Ttidy_Options) (x25 : List Int) (xs45 : List TFunc) (x46 : Int) : Option (((List TFunc) × Int) ⊕ TModule) :=
  if decide (x46 < (p0.funcs.length : Int)) then
  (ix p0.funcs x46).bind fun x67 =>
  (tidy_Func x67 p1).bind fun x89 =>
  (ap xs45 [x89]).bind fun xs104 =>
  some (Sum.inl (xs104, w64 (x46 + 1)))
  else
  (some (⟨xs45, x25⟩ : TModule)).map Sum.inr
noncomputable def tidy_Module_l1 (p0 : TModule) (p1 : Ttidy_Options) (x25 : List Int) (xs45 : List TFunc) (x46 : Int) : Option TModule := loopO (fun s => tidy_Module_l1b p0 p1 x25 s.1 s.2) (xs45, x46)
noncomputable def tidy_Module (p0 : TModule) (p1 : Ttidy_Options) : Option TModule :=
  (slices_Clone_2 p0.threads).bind fun x25 =>
  tidy_Module_l1 p0 p1 x25 [] 0
noncomputable def ref11_Same_l2b (x47 : Int) (x61 : TIns) (x82 : TIns) (x177 : Int) : Option (Int ⊕ (Int ⊕ Bool)) :=
  if decide (x177 < (x61.args.length : Int)) then
  (ix x61.args x177).bind fun x193 =>
  (ix x82.args x177).bind fun x204 =>
  if decide (x193 ≠ x204) then
  ((some false).map Sum.inr).map Sum.inr
  else
  some (Sum.inl (w64 (x177 + 1)))
  else
  (some (Sum.inl (w64 (x47 + 1)))).map Sum.inr
noncomputable def ref11_Same_l2 (x47 : Int) (x61 : TIns) (x82 : TIns) (x177 : Int) : Option (Int ⊕ Bool) := loopO (fun s => ref11_Same_l2b x47 x61 x82 s) x177
noncomputable def ref11_Same_l1b (p0 : TFunc) (p1 : TFunc) (x47 : Int) : Option (Int ⊕ Bool) :=
  if decide (x47 < (p0.code.length : Int)) then
  (ix p0.code x47).bind fun x61 =>
  (ix p1.code x47).bind fun x82 =>
  if ((((((((decide (x61.op ≠ x82.op)) || (decide (x61.d ≠ x82.d))) || (decide (x61.a ≠ x82.a))) || (decide (x61.b ≠ x82.b))) || (decide (x61.imm ≠ x82.imm))) || (decide (x61.what ≠ x82.what))) || (!(x61.volatile == x82.volatile))) || (!(x61.final == x82.final))) || (decide ((x61.args.length : Int) ≠ (x82.args.length : Int))) then
  (some false).map Sum.inr
  else
  ref11_Same_l2 x47 x61 x82 0
  else
  (some true).map Sum.inr
noncomputable def ref11_Same_l1 (p0 : TFunc) (p1 : TFunc) (x47 : Int) : Option Bool := loopO (fun s => ref11_Same_l1b p0 p1 s) x47
noncomputable def ref11_Same (p0 : TFunc) (p1 : TFunc) : Option Bool :=
  if (((decide (p0.name ≠ p1.name)) || (decide (p0.params ≠ p1.params))) || (decide (p0.regs ≠ p1.regs))) || (decide ((p0.code.length : Int) ≠ (p1.code.length : Int))) then
  some false
  else
  ref11_Same_l1 p0 p1 0
noncomputable def ref11_Acts_k1 (x9 : Int) (x23 : Int) : Option ((Int × Int) ⊕ Int) :=
  some (Sum.inl (x23, w64 (x9 + 1)))
noncomputable def ref11_Acts_l1b (p0 : TFunc) (p1 : Int) (x8 : Int) (x9 : Int) : Option ((Int × Int) ⊕ Int) :=
  if decide (x9 < (p0.code.length : Int)) then
  (ix p0.code x9).bind fun x28 =>
  if decide (x28.op = p1) then
  ref11_Acts_k1 x9 (w64 (x8 + 1))
  else
  ref11_Acts_k1 x9 x8
  else
  (some x8).map Sum.inr
noncomputable def ref11_Acts_l1 (p0 : TFunc) (p1 : Int) (x8 : Int) (x9 : Int) : Option Int := loopO (fun s => ref11_Acts_l1b p0 p1 s.1 s.2) (x8, x9)
noncomputable def ref11_Acts (p0 : TFunc) (p1 : Int) : Option Int :=
  ref11_Acts_l1 p0 p1 0 0
noncomputable def law11_TidyLess_k2 (x183 : Int) (x206 : Bool) : Option (Int ⊕ (Int ⊕ Bool)) :=
  if x206 then
  ((some false).map Sum.inr).map Sum.inr
  else
  some (Sum.inl (w64 (x183 + 1)))
noncomputable def law11_TidyLess_l2b (p1 : Ttidy_Options) (x109 : Int) (x126 : TFunc) (x147 : TFunc) (x183 : Int) : Option (Int ⊕ (Int ⊕ Bool)) :=
  if decide (x183 ≤ 22) then
  if ((decide (x183 ≠ 12)) && (decide (x183 ≠ 13))) && (decide (x183 ≠ 15)) then
  (ref11_Acts x147 x183).bind fun x225 =>
  (ref11_Acts x126 x183).bind fun x234 =>
  if decide (x234 < x225) then
  law11_TidyLess_k2 x183 true
  else
  if !p1.dead then
  (ref11_Acts x147 x183).bind fun x249 =>
  (ref11_Acts x126 x183).bind fun x258 =>
  law11_TidyLess_k2 x183 (decide (x249 ≠ x258))
  else
  law11_TidyLess_k2 x183 false
  else
  law11_TidyLess_k2 x183 false
  else
  (some (Sum.inl (w64 (x109 + 1)))).map Sum.inr
noncomputable def law11_TidyLess_l2 (p1 : Ttidy_Options) (x109 : Int) (x126 : TFunc) (x147 : TFunc) (x183 : Int) : Option (Int ⊕ Bool) := loopO (fun s => law11_TidyLess_l2b p1 x109 x126 x147 s) x183
noncomputable def law11_TidyLess_k1 (p1 : Ttidy_Options) (x109 : Int) (x126 : TFunc) (x147 : TFunc) (x168 : Bool) : Option (Int ⊕ Bool) :=
  if x168 then
  (some false).map Sum.inr
  else
  law11_TidyLess_l2 p1 x109 x126 x147 9
noncomputable def law11_TidyLess_l1b (p0 : TModule) (p1 : Ttidy_Options) (x49 : TModule) (x63 : TModule) (x109 : Int) : Option (Int ⊕ Bool) :=
  if decide (x109 < (p0.funcs.length : Int)) then
  (ix p0.funcs x109).bind fun x126 =>
  (ix x49.funcs x109).bind fun x147 =>
  if decide ((w64 ((x126.code.length : Int) + 1)) < (x147.code.length : Int)) then
  law11_TidyLess_k1 p1 x109 x126 x147 true
  else
  if decide (x147.name ≠ x126.name) then
  law11_TidyLess_k1 p1 x109 x126 x147 true
  else
  if decide (x147.params ≠ x126.params) then
  law11_TidyLess_k1 p1 x109 x126 x147 true
  else
  if decide (x147.regs ≠ x126.regs) then
  law11_TidyLess_k1 p1 x109 x126 x147 true
  else
  (ix x63.funcs x109).bind fun x307 =>
  (ref11_Same x126 x307).bind fun x322 =>
  law11_TidyLess_k1 p1 x109 x126 x147 (!x322)
  else
  (some true).map Sum.inr
noncomputable def law11_TidyLess_l1 (p0 : TModule) (p1 : Ttidy_Options) (x49 : TModule) (x63 : TModule) (x109 : Int) : Option Bool := loopO (fun s => law11_TidyLess_l1b p0 p1 x49 x63 s) x109
noncomputable def law11_TidyLess (p0 : TModule) (p1 : Ttidy_Options) : Option Bool :=
  (law11_alive).bind fun x15 =>
  if !x15 then
  some false
  else
  (law11_great p0).bind fun x33 =>
  if x33 then
  some true
  else
  (tidy_Module p0 p1).bind fun x49 =>
  (tidy_Module p0 (⟨false, false, false⟩ : Ttidy_Options)).bind fun x63 =>
  if (decide ((x49.funcs.length : Int) ≠ (p0.funcs.length : Int))) || (decide ((x49.threads.length : Int) ≠ (p0.threads.length : Int))) then
  some false
  else
  law11_TidyLess_l1 p0 p1 x49 x63 0
end Go.Vm.G11
