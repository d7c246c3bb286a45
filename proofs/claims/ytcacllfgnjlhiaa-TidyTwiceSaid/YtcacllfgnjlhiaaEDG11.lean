/-
 What functions compute, as plain functions.
-/
import Derived.Test.YtcacllfgnjlhiaaEF11a
set_option linter.unusedSimpArgs false
set_option linter.unusedVariables false
namespace Go.Vm.G11
open Go
theorem cB {b c : Bool} (h : b = c) : Value.bool b = Value.bool c := by rw [h]
structure TIns where
 op : Int
 d : Int
 a : Int
 b : Int
 imm : Int
 args : List Int
 what : Int
 volatile : Bool
 final : Bool
def RT_TIns : RT TIns := ⟨9, fun V cs x => ∃ v1 : Value, cs = [.int .i64 x.op, .int .i64 x.d, .int .i64 x.a, .int .i64 x.b, .int .i64 x.imm, v1, .int .i64 x.what, .bool x.volatile, .bool x.final] ∧ Fz (RT.int .i64) V v1 x.args, ⟨fun _ _ _ ⟨v1, h, f1⟩ => by rw [h]; rfl, fun _ _ _ ⟨v1, h, f1⟩ => by rw [h]; have := f1.one; simp only [List.all_cons, List.all_nil, *]; rfl, fun _ _ _ _ he ⟨v1, h, f1⟩ => ⟨v1, h, f1.up he⟩⟩⟩
structure TFunc where
 name : ByteArray
 params : Int
 regs : Int
 code : List TIns
def RT_TFunc : RT TFunc := ⟨4, fun V cs x => ∃ v1 : Value, cs = [.string x.name, .int .i64 x.params, .int .i64 x.regs, v1] ∧ Fz RT_TIns V v1 x.code, ⟨fun _ _ _ ⟨v1, h, f1⟩ => by rw [h]; rfl, fun _ _ _ ⟨v1, h, f1⟩ => by rw [h]; have := f1.one; simp only [List.all_cons, List.all_nil, *]; rfl, fun _ _ _ _ he ⟨v1, h, f1⟩ => ⟨v1, h, f1.up he⟩⟩⟩
structure TModule where
 funcs : List TFunc
 threads : List Int
def RT_TModule : RT TModule := ⟨2, fun V cs x => ∃ v1 v2 : Value, cs = [v1, v2] ∧ Fz RT_TFunc V v1 x.funcs ∧ Fz (RT.int .i64) V v2 x.threads, ⟨fun _ _ _ ⟨v1, v2, h, f1, f2⟩ => by rw [h]; rfl, fun _ _ _ ⟨v1, v2, h, f1, f2⟩ => by rw [h]; have := f1.one; have := f2.one; simp only [List.all_cons, List.all_nil, *]; rfl, fun _ _ _ _ he ⟨v1, v2, h, f1, f2⟩ => ⟨v1, v2, h, f1.up he, f2.up he⟩⟩⟩
structure Ttidy_Options where
 fold : Bool
 copy : Bool
 dead : Bool
def RT_Ttidy_Options : RT Ttidy_Options := ⟨3, fun V cs x => cs = [.bool x.fold, .bool x.copy, .bool x.dead], ⟨fun _ _ _ h => by rw [h]; rfl, fun _ _ _ h => by rw [h]; rfl, fun _ _ _ _ he h => h⟩⟩
structure Ttidy_facts where
 num : List (Int × Int)
 same : List (Int × Int)
structure TAct where
 kind : Int
 at_ : Int
 val : Int
 what : Int
 volatile : Bool
 final : Bool
def RT_TAct : RT TAct := ⟨6, fun V cs x => cs = [.int .i64 x.kind, .int .i64 x.at_, .int .i64 x.val, .int .i64 x.what, .bool x.volatile, .bool x.final], ⟨fun _ _ _ h => by rw [h]; rfl, fun _ _ _ h => by rw [h]; rfl, fun _ _ _ _ he h => h⟩⟩
structure TrM where
 m : TModule
 me : Int
 reads : List Int
 fuel : Int
 used : Int
 held : List (Int × Int)
 acts : List TAct
 over : Bool
 ended : Bool
 most : Int
noncomputable def law11_con (p0 : Int) (p1 : Int) : Option TIns :=
  some (⟨1, p0, (-1), (-1), p1, [], 0, false, false⟩ : TIns)
noncomputable def tidy_fresh : Option Ttidy_facts :=
  some (⟨[], []⟩ : Ttidy_facts)
noncomputable def slices_Clone (p0 : List TIns) : Option (List TIns) :=
  (ap [] p0).bind fun xs16 =>
  some xs16
noncomputable def tidy_facts_look (p0 : Ttidy_facts) (p1 : Int) : Option Int :=
  if ((mG p0.same p1).isSome) && (decide (0 ≤ p1)) then
  some ((mG p0.same p1).getD 0)
  else
  some p1
noncomputable def slices_Clone_2 (p0 : List Int) : Option (List Int) :=
  (ap [] p0).bind fun xs16 =>
  some xs16
noncomputable def tidy_facts_renamed_l1b (p0 : Ttidy_facts) (p1 : TIns) (x25 : Int) (x36 : Int) (x51 : List Int) (xs64 : List Int) (x65 : Int) : Option (((List Int) × Int) ⊕ TIns) :=
  if decide (x65 < (x51.length : Int)) then
  (ix xs64 x65).bind fun x84 =>
  (tidy_facts_look p0 x84).bind fun x101 =>
  (ix xs64 x65).bind fun x109 =>
  some (Sum.inl (xs64.set (Int.toNat x65) x101, w64 (x65 + 1)))
  else
  (some (⟨p1.op, p1.d, x25, x36, p1.imm, xs64, p1.what, p1.volatile, p1.final⟩ : TIns)).map Sum.inr
noncomputable def tidy_facts_renamed_l1 (p0 : Ttidy_facts) (p1 : TIns) (x25 : Int) (x36 : Int) (x51 : List Int) (xs64 : List Int) (x65 : Int) : Option TIns := loopO (fun s => tidy_facts_renamed_l1b p0 p1 x25 x36 x51 s.1 s.2) (xs64, x65)
noncomputable def tidy_facts_renamed (p0 : Ttidy_facts) (p1 : TIns) : Option TIns :=
  (tidy_facts_look p0 p1.a).bind fun x25 =>
  (tidy_facts_look p0 p1.b).bind fun x36 =>
  (slices_Clone_2 p1.args).bind fun x51 =>
  tidy_facts_renamed_l1 p0 p1 x25 x36 x51 x51 0
noncomputable def tidy_small (p0 : Int) : Option Bool :=
  some ((decide ((-32768) ≤ p0)) && (decide (p0 ≤ 32767)))
noncomputable def tidy_reckon_k1 (x1 : Bool) : Option (Int × Bool) :=
  if x1 then
  some (1, true)
  else
  some (0, true)
noncomputable def tidy_reckon (p0 : Int) (p1 : Int) (p2 : Int) : Option (Int × Bool) :=
  if decide (p0 = 3) then
  some (w64 (p1 + p2), true)
  else
  if decide (p0 = 4) then
  some (w64 (p1 - p2), true)
  else
  if decide (p0 = 5) then
  some (w64 (p1 * p2), true)
  else
  if decide (p0 = 7) then
  tidy_reckon_k1 (decide (p1 < p2))
  else
  if decide (p0 = 8) then
  tidy_reckon_k1 (decide (p1 = p2))
  else
  some (0, false)
noncomputable def tidy_facts_fold (p0 : Ttidy_facts) (p1 : TIns) : Option TIns :=
  (if (decide (p1.op = 2)) && ((mG p0.num p1.a).isSome) then
  (tidy_small ((mG p0.num p1.a).getD 0)).bind fun x149 =>
  some x149
  else
  some false).bind fun y36 =>
  if y36 then
  some (⟨1, p1.d, (-1), (-1), (mG p0.num p1.a).getD 0, [], 0, false, false⟩ : TIns)
  else
  if ((decide (p1.op = 13)) && ((mG p0.num p1.a).isSome)) && (decide (((mG p0.num p1.a).getD 0) = 0)) then
  some (⟨12, (-1), (-1), (-1), p1.imm, [], 0, false, false⟩ : TIns)
  else
  if (((decide (p1.op < 3)) || (decide (8 < p1.op))) || (!((mG p0.num p1.a).isSome))) || (!((mG p0.num p1.b).isSome)) then
  some p1
  else
  (tidy_reckon p1.op ((mG p0.num p1.a).getD 0) ((mG p0.num p1.b).getD 0)).bind fun x97 =>
  (if x97.2 then
  (tidy_small x97.1).bind fun x131 =>
  some x131
  else
  some false).bind fun y105 =>
  if y105 then
  some (⟨1, p1.d, (-1), (-1), x97.1, [], 0, false, false⟩ : TIns)
  else
  some p1
noncomputable def tidy_facts_forget (p0 : Ttidy_facts) (p1 : Int) : Option Ttidy_facts :=
  (forgetO p0.num p0.same p1).map fun q => ⟨q.1, q.2⟩
noncomputable def tidy_facts_learn (p0 : Ttidy_facts) (p1 : TIns) : Option Ttidy_facts :=
  if decide (p1.d < 0) then
  some p0
  else
  (tidy_facts_forget p0 p1.d).bind fun x27 =>
  if decide (p1.op = 1) then
  some (⟨mS x27.num p1.d p1.imm, x27.same⟩ : Ttidy_facts)
  else
  if (decide (p1.op = 2)) && (decide (p1.a ≠ p1.d)) then
  some (⟨x27.num, mS x27.same p1.d p1.a⟩ : Ttidy_facts)
  else
  some x27
noncomputable def tidy_row_k3 (xs55 : List TIns) (x56 : Int) (xs105 : List (Int × Int)) (xs108 : List (Int × Int)) (x128 : Int) (x129 : Int) (x130 : Int) (x131 : Int) (x132 : Int) (xs133 : List Int) (x136 : Int) (x137 : Bool) (x138 : Bool) : Option (((List (Int × Int)) × (List (Int × Int)) × (List TIns) × Int) ⊕ TFunc) :=
  (tidy_facts_learn (⟨xs105, xs108⟩ : Ttidy_facts) (⟨x128, x129, x130, x131, x132, xs133, x136, x137, x138⟩ : TIns)).bind fun x146 =>
  (ix xs55 x56).bind fun x158 =>
  some (Sum.inl (x146.num, x146.same, xs55.set (Int.toNat x56) (⟨x128, x129, x130, x131, x132, xs133, x136, x137, x138⟩ : TIns), w64 (x56 + 1)))
noncomputable def tidy_row_k2 (p1 : Ttidy_Options) (xs55 : List TIns) (x56 : Int) (xs105 : List (Int × Int)) (xs108 : List (Int × Int)) (x113 : Int) (x114 : Int) (x115 : Int) (x116 : Int) (x117 : Int) (xs118 : List Int) (x121 : Int) (x122 : Bool) (x123 : Bool) : Option (((List (Int × Int)) × (List (Int × Int)) × (List TIns) × Int) ⊕ TFunc) :=
  if p1.fold then
  (tidy_facts_fold (⟨xs105, xs108⟩ : Ttidy_facts) (⟨x113, x114, x115, x116, x117, xs118, x121, x122, x123⟩ : TIns)).bind fun x186 =>
  tidy_row_k3 xs55 x56 xs105 xs108 x186.op x186.d x186.a x186.b x186.imm x186.args x186.what x186.volatile x186.final
  else
  tidy_row_k3 xs55 x56 xs105 xs108 x113 x114 x115 x116 x117 xs118 x121 x122 x123
noncomputable def tidy_row_k1 (p1 : Ttidy_Options) (xs55 : List TIns) (x56 : Int) (x76 : TIns) (xs105 : List (Int × Int)) (xs108 : List (Int × Int)) : Option (((List (Int × Int)) × (List (Int × Int)) × (List TIns) × Int) ⊕ TFunc) :=
  if p1.copy then
  (tidy_facts_renamed (⟨xs105, xs108⟩ : Ttidy_facts) x76).bind fun x215 =>
  tidy_row_k2 p1 xs55 x56 xs105 xs108 x215.op x215.d x215.a x215.b x215.imm x215.args x215.what x215.volatile x215.final
  else
  tidy_row_k2 p1 xs55 x56 xs105 xs108 x76.op x76.d x76.a x76.b x76.imm x76.args x76.what x76.volatile x76.final
noncomputable def tidy_row_l1b (p0 : TFunc) (p1 : Ttidy_Options) (x36 : List TIns) (xs51 : List (Int × Int)) (xs54 : List (Int × Int)) (xs55 : List TIns) (x56 : Int) : Option (((List (Int × Int)) × (List (Int × Int)) × (List TIns) × Int) ⊕ TFunc) :=
  if decide (x56 < (x36.length : Int)) then
  (ix xs55 x56).bind fun x76 =>
  if decide (x76.op = 11) then
  (tidy_fresh).bind fun x241 =>
  tidy_row_k1 p1 xs55 x56 x76 x241.num x241.same
  else
  tidy_row_k1 p1 xs55 x56 x76 xs51 xs54
  else
  (some (⟨p0.name, p0.params, p0.regs, xs55⟩ : TFunc)).map Sum.inr
noncomputable def tidy_row_l1 (p0 : TFunc) (p1 : Ttidy_Options) (x36 : List TIns) (xs51 : List (Int × Int)) (xs54 : List (Int × Int)) (xs55 : List TIns) (x56 : Int) : Option TFunc := loopO (fun s => tidy_row_l1b p0 p1 x36 s.1 s.2.1 s.2.2.1 s.2.2.2) (xs51, xs54, xs55, x56)
noncomputable def tidy_row (p0 : TFunc) (p1 : Ttidy_Options) : Option TFunc :=
  (tidy_fresh).bind fun x20 =>
  (slices_Clone p0.code).bind fun x36 =>
  tidy_row_l1 p0 p1 x36 x20.num x20.same x36 0
noncomputable def flow_place_c1 (p0 : TIns) (p1 : Int) : Option Bool :=
  some ((decide (p0.op = 11)) && (decide (p0.imm = p1)))
noncomputable def slices_IndexFunc_l1b (p0 : List TIns) (p1_10 : Int) (x6 : Int) : Option (Int ⊕ Int) :=
  if decide (x6 < (p0.length : Int)) then
  (ix p0 x6).bind fun x19 =>
  (flow_place_c1 x19 p1_10).bind fun x33 =>
  if x33 then
  (some x6).map Sum.inr
  else
  some (Sum.inl (w64 (x6 + 1)))
  else
  (some (-1)).map Sum.inr
noncomputable def slices_IndexFunc_l1 (p0 : List TIns) (p1_10 : Int) (x6 : Int) : Option Int := loopO (fun s => slices_IndexFunc_l1b p0 p1_10 s) x6
noncomputable def slices_IndexFunc (p0 : List TIns) (p1_10 : Int) : Option Int :=
  slices_IndexFunc_l1 p0 p1_10 0
noncomputable def flow_place (p0 : TFunc) (p1 : Int) : Option Int :=
  (slices_IndexFunc p0.code p1).bind fun x14 =>
  some x14
noncomputable def slices_Index_l1b (p0 : List Int) (p1 : Int) (x3 : Int) : Option (Int ⊕ Int) :=
  if decide (x3 < (p0.length : Int)) then
  (ix p0 x3).bind fun x16 =>
  if decide (p1 = x16) then
  (some x3).map Sum.inr
  else
  some (Sum.inl (w64 (x3 + 1)))
  else
  (some (-1)).map Sum.inr
noncomputable def slices_Index_l1 (p0 : List Int) (p1 : Int) (x3 : Int) : Option Int := loopO (fun s => slices_Index_l1b p0 p1 s) x3
noncomputable def slices_Index (p0 : List Int) (p1 : Int) : Option Int :=
  slices_Index_l1 p0 p1 0
noncomputable def slices_Contains (p0 : List Int) (p1 : Int) : Option Bool :=
  (slices_Index p0 p1).bind fun x3 =>
  some (decide (0 ≤ x3))
noncomputable def flow_Next_k2 (xs55 : List Int) : Option (List Int) :=
  some xs55
noncomputable def flow_Next_k1 (p0 : TFunc) (x25 : TIns) (xs48 : List Int) : Option (List Int) :=
  if ((decide (x25.op = 12)) || (decide (x25.op = 13))) || (decide (x25.op = 17)) then
  (flow_place p0 x25.imm).bind fun x76 =>
  (if decide (0 ≤ x76) then
  (slices_Contains xs48 x76).bind fun x118 =>
  some (!x118)
  else
  some false).bind fun y84 =>
  if y84 then
  (ap xs48 [x76]).bind fun xs101 =>
  flow_Next_k2 xs101
  else
  flow_Next_k2 xs48
  else
  flow_Next_k2 xs48
noncomputable def flow_Next (p0 : TFunc) (p1 : Int) : Option (List Int) :=
  if (decide (p1 < 0)) || (decide ((p0.code.length : Int) ≤ p1)) then
  some []
  else
  (ix p0.code p1).bind fun x25 =>
  if (((decide (x25.op ≠ 12)) && (decide (x25.op ≠ 15))) && (decide (x25.op ≠ 16))) && (decide ((w64 (p1 + 1)) < (p0.code.length : Int))) then
  (ap [] [w64 (p1 + 1)]).bind fun xs167 =>
  flow_Next_k1 p0 x25 xs167
  else
  flow_Next_k1 p0 x25 []
noncomputable def flow_set_merge_l1b (p1 : List Bool) (xs5 : List Bool) (x6 : Bool) (x7 : Int) : Option (((List Bool) × Bool × Int) ⊕ (Bool × (List Bool))) :=
  if decide (x7 < (p1.length : Int)) then
  (ix p1 x7).bind fun x20 =>
  (if x6 then
  some true
  else
  (if x20 then
  (ix xs5 x7).bind fun x97 =>
  some (!x97)
  else
  some false).bind fun y83 =>
  some y83).bind fun y34 =>
  (ix xs5 x7).bind fun x48 =>
  (ix xs5 x7).bind fun x66 =>
  some (Sum.inl (xs5.set (Int.toNat x7) (x48 || x20), y34, w64 (x7 + 1)))
  else
  (some (x6, xs5)).map Sum.inr
noncomputable def flow_set_merge_l1 (p1 : List Bool) (xs5 : List Bool) (x6 : Bool) (x7 : Int) : Option (Bool × (List Bool)) := loopO (fun s => flow_set_merge_l1b p1 s.1 s.2.1 s.2.2) (xs5, x6, x7)
noncomputable def flow_set_merge (p0 : List Bool) (p1 : List Bool) : Option (Bool × (List Bool)) :=
  flow_set_merge_l1 p1 p0 false 0
noncomputable def slices_Clone_3 (p0 : List Bool) : Option (List Bool) :=
  (ap [] p0).bind fun xs15 =>
  some xs15
noncomputable def ir_Def (p0 : TIns) : Option Int :=
  some p0.d
noncomputable def ir_Uses_k1 (x27 : Int) (xs45 : List Int) : Option (((List Int) × Int) ⊕ (List Int)) :=
  some (Sum.inl (xs45, w64 (x27 + 1)))
noncomputable def ir_Uses_l1b (xs16 : List Int) (xs26 : List Int) (x27 : Int) : Option (((List Int) × Int) ⊕ (List Int)) :=
  if decide (x27 < (xs16.length : Int)) then
  (ix xs16 x27).bind fun x50 =>
  if decide (0 ≤ x50) then
  (ap xs26 [x50]).bind fun xs71 =>
  ir_Uses_k1 x27 xs71
  else
  ir_Uses_k1 x27 xs26
  else
  (some xs26).map Sum.inr
noncomputable def ir_Uses_l1 (xs16 : List Int) (xs26 : List Int) (x27 : Int) : Option (List Int) := loopO (fun s => ir_Uses_l1b xs16 s.1 s.2) (xs26, x27)
noncomputable def ir_Uses (p0 : TIns) : Option (List Int) :=
  (ap [p0.a, p0.b] p0.args).bind fun xs16 =>
  ir_Uses_l1 xs16 [] 0
noncomputable def flow_step_k2 (x40 : Int) (xs57 : List Bool) : Option (((List Bool) × Int) ⊕ (List Bool)) :=
  some (Sum.inl (xs57, w64 (x40 + 1)))
noncomputable def flow_step_l1b (x29 : List Int) (xs39 : List Bool) (x40 : Int) : Option (((List Bool) × Int) ⊕ (List Bool)) :=
  if decide (x40 < (x29.length : Int)) then
  (ix x29 x40).bind fun x62 =>
  if decide (x62 < (xs39.length : Int)) then
  (ix xs39 x62).bind fun x78 =>
  flow_step_k2 x40 (xs39.set (Int.toNat x62) true)
  else
  flow_step_k2 x40 xs39
  else
  (some xs39).map Sum.inr
noncomputable def flow_step_l1 (x29 : List Int) (xs39 : List Bool) (x40 : Int) : Option (List Bool) := loopO (fun s => flow_step_l1b x29 s.1 s.2) (xs39, x40)
noncomputable def flow_step_k1 (p0 : TIns) (xs23 : List Bool) : Option (List Bool) :=
  (ir_Uses p0).bind fun x29 =>
  flow_step_l1 x29 xs23 0
noncomputable def flow_step (p0 : TIns) (p1 : List Bool) : Option (List Bool) :=
  (slices_Clone_3 p1).bind fun x13 =>
  (ir_Def p0).bind fun x103 =>
  if (decide (0 ≤ x103)) && (decide (x103 < (x13.length : Int))) then
  (ix x13 x103).bind fun x120 =>
  flow_step_k1 p0 (x13.set (Int.toNat x103) false)
  else
  flow_step_k1 p0 x13
noncomputable def flow_Live_k1 (x121 : Int) (xs134 : List (List Bool)) (x135 : Bool) : Option (((List (List Bool)) × Bool × Int) ⊕ (((List (List Bool)) × Bool) ⊕ (List (List Bool)))) :=
  some (Sum.inl (xs134, x135, w64 (x121 - 1)))
noncomputable def flow_Live_l4b (p0 : TFunc) (xs31 : List (List Int)) (xs119 : List (List Bool)) (x120 : Bool) (x121 : Int) (x148 : List Int) (xs162 : List Bool) (x163 : Int) : Option (((List Bool) × Int) ⊕ (((List (List Bool)) × Bool × Int) ⊕ (((List (List Bool)) × Bool) ⊕ (List (List Bool))))) :=
  if decide (x163 < (x148.length : Int)) then
  (ix xs31 x121).bind fun x180 =>
  (ix x180 x163).bind fun x187 =>
  (ix xs119 x187).bind fun x201 =>
  (flow_set_merge xs162 x201).bind fun x215 =>
  some (Sum.inl (x215.2, w64 (x163 + 1)))
  else
  ((ix xs119 x121).bind fun x231 =>
  (ix p0.code x121).bind fun x244 =>
  (flow_step x244 xs162).bind fun x259 =>
  (flow_set_merge x231 x259).bind fun x273 =>
  if x273.1 then
  flow_Live_k1 x121 (xs119.set (Int.toNat x121) x273.2) true
  else
  flow_Live_k1 x121 (xs119.set (Int.toNat x121) x273.2) x120).map Sum.inr
noncomputable def flow_Live_l4 (p0 : TFunc) (xs31 : List (List Int)) (xs119 : List (List Bool)) (x120 : Bool) (x121 : Int) (x148 : List Int) (xs162 : List Bool) (x163 : Int) : Option (((List (List Bool)) × Bool × Int) ⊕ (((List (List Bool)) × Bool) ⊕ (List (List Bool)))) := loopO (fun s => flow_Live_l4b p0 xs31 xs119 x120 x121 x148 s.1 s.2) (xs162, x163)
noncomputable def flow_Live_l3b (p0 : TFunc) (xs31 : List (List Int)) (xs119 : List (List Bool)) (x120 : Bool) (x121 : Int) : Option (((List (List Bool)) × Bool × Int) ⊕ (((List (List Bool)) × Bool) ⊕ (List (List Bool)))) :=
  if decide (0 ≤ x121) then
  (mk (max p0.regs 0) false).bind fun xs140 =>
  (ix xs31 x121).bind fun x148 =>
  flow_Live_l4 p0 xs31 xs119 x120 x121 x148 xs140 0
  else
  (some (Sum.inl (xs119, x120))).map Sum.inr
noncomputable def flow_Live_l3 (p0 : TFunc) (xs31 : List (List Int)) (xs119 : List (List Bool)) (x120 : Bool) (x121 : Int) : Option (((List (List Bool)) × Bool) ⊕ (List (List Bool))) := loopO (fun s => flow_Live_l3b p0 xs31 s.1 s.2.1 s.2.2) (xs119, x120, x121)
noncomputable def flow_Live_l5b (xs105 : List (List Bool)) (xs296 : List (List Bool)) (xs297 : List (List Bool)) (x300 : Int) : Option (((List (List Bool)) × (List (List Bool)) × Int) ⊕ (List (List Bool))) :=
  if decide (x300 < (xs105.length : Int)) then
  (ix xs297 x300).bind fun x323 =>
  (ap xs296 [x323]).bind fun xs341 =>
  some (Sum.inl (xs341, xs297, w64 (x300 + 1)))
  else
  (some xs296).map Sum.inr
noncomputable def flow_Live_l5 (xs105 : List (List Bool)) (xs296 : List (List Bool)) (xs297 : List (List Bool)) (x300 : Int) : Option (List (List Bool)) := loopO (fun s => flow_Live_l5b xs105 s.1 s.2.1 s.2.2) (xs296, xs297, x300)
noncomputable def flow_Live_l2b (p0 : TFunc) (xs31 : List (List Int)) (xs105 : List (List Bool)) (x106 : Bool) : Option (((List (List Bool)) × Bool) ⊕ (List (List Bool))) :=
  if x106 then
  flow_Live_l3 p0 xs31 xs105 false (w64 ((p0.code.length : Int) - 1))
  else
  (flow_Live_l5 xs105 [] xs105 0).map Sum.inr
noncomputable def flow_Live_l2 (p0 : TFunc) (xs31 : List (List Int)) (xs105 : List (List Bool)) (x106 : Bool) : Option (List (List Bool)) := loopO (fun s => flow_Live_l2b p0 xs31 s.1 s.2) (xs105, x106)
noncomputable def flow_Live_l1b (p0 : TFunc) (xs10 : List (List Bool)) (xs29 : List (List Bool)) (xs31 : List (List Int)) (x32 : Int) : Option (((List (List Bool)) × (List (List Int)) × Int) ⊕ (List (List Bool))) :=
  if decide (x32 < (xs10.length : Int)) then
  (mk (max p0.regs 0) false).bind fun xs48 =>
  (ix xs29 x32).bind fun x56 =>
  (flow_Next p0 x32).bind fun x74 =>
  (ix xs31 x32).bind fun x84 =>
  some (Sum.inl (xs29.set (Int.toNat x32) xs48, xs31.set (Int.toNat x32) x74, w64 (x32 + 1)))
  else
  (flow_Live_l2 p0 xs31 xs29 true).map Sum.inr
noncomputable def flow_Live_l1 (p0 : TFunc) (xs10 : List (List Bool)) (xs29 : List (List Bool)) (xs31 : List (List Int)) (x32 : Int) : Option (List (List Bool)) := loopO (fun s => flow_Live_l1b p0 xs10 s.1 s.2.1 s.2.2) (xs29, xs31, x32)
noncomputable def flow_Live (p0 : TFunc) : Option (List (List Bool)) :=
  (mk (p0.code.length : Int) ([] : List Bool)).bind fun xs10 =>
  (mk (p0.code.length : Int) ([] : List Int)).bind fun xs19 =>
  flow_Live_l1 p0 xs10 xs10 xs19 0
noncomputable def flow_Reached_k1 (xs42 : List Bool) (xs45 : List Int) : Option (((List Bool) × (List Int)) ⊕ (List Bool)) :=
  (cutL xs45 1 (xs45.length : Int)).bind fun xs50 =>
  some (Sum.inl (xs42, xs50))
noncomputable def flow_Reached_l1b (p0 : TFunc) (xs23 : List Bool) (xs26 : List Int) : Option (((List Bool) × (List Int)) ⊕ (List Bool)) :=
  if decide (0 < (xs26.length : Int)) then
  (ix xs26 0).bind fun x58 =>
  (if decide (x58 < (xs23.length : Int)) then
  (ix xs23 x58).bind fun x125 =>
  some (!x125)
  else
  some false).bind fun y72 =>
  if y72 then
  (ix xs23 x58).bind fun x85 =>
  (flow_Next p0 x58).bind fun x103 =>
  (ap xs26 x103).bind fun xs113 =>
  flow_Reached_k1 (xs23.set (Int.toNat x58) true) xs113
  else
  flow_Reached_k1 xs23 xs26
  else
  (some xs23).map Sum.inr
noncomputable def flow_Reached_l1 (p0 : TFunc) (xs23 : List Bool) (xs26 : List Int) : Option (List Bool) := loopO (fun s => flow_Reached_l1b p0 s.1 s.2) (xs23, xs26)
noncomputable def flow_Reached (p0 : TFunc) : Option (List Bool) :=
  (mk (p0.code.length : Int) false).bind fun xs10 =>
  flow_Reached_l1 p0 xs10 [0]
noncomputable def ir_Pure (p0 : TIns) : Option Bool :=
  some ((decide (1 ≤ p0.op)) && (decide (p0.op ≤ 8)))
noncomputable def tidy_idle_c1 (p0 : Int) (p1 : List (List Bool)) (p2 : TIns) : Option Bool :=
  (ix p1 p0).bind fun x11 =>
  (ix x11 p2.d).bind fun x27 =>
  some x27
noncomputable def slices_IndexFunc_2_l1b (p0 : List Int) (p1_10 : List (List Bool)) (p1_11 : TIns) (x13 : Int) : Option (Int ⊕ Int) :=
  if decide (x13 < (p0.length : Int)) then
  (ix p0 x13).bind fun x26 =>
  (tidy_idle_c1 x26 p1_10 p1_11).bind fun x44 =>
  if x44 then
  (some x13).map Sum.inr
  else
  some (Sum.inl (w64 (x13 + 1)))
  else
  (some (-1)).map Sum.inr
noncomputable def slices_IndexFunc_2_l1 (p0 : List Int) (p1_10 : List (List Bool)) (p1_11 : TIns) (x13 : Int) : Option Int := loopO (fun s => slices_IndexFunc_2_l1b p0 p1_10 p1_11 s) x13
noncomputable def slices_IndexFunc_2 (p0 : List Int) (p1_10 : List (List Bool)) (p1_11 : TIns) : Option Int :=
  slices_IndexFunc_2_l1 p0 p1_10 p1_11 0
noncomputable def slices_ContainsFunc (p0 : List Int) (p1_10 : List (List Bool)) (p1_11 : TIns) : Option Bool :=
  (slices_IndexFunc_2 p0 p1_10 p1_11).bind fun x17 =>
  some (decide (0 ≤ x17))
noncomputable def tidy_idle_k1 (p0 : TFunc) (p1 : Int) (p2 : List (List Bool)) (x15 : TIns) (x51 : Bool) : Option Bool :=
  if x51 then
  some true
  else
  (ir_Pure x15).bind fun x64 =>
  (if x64 then
  (flow_Next p0 p1).bind fun x91 =>
  (slices_ContainsFunc x91 p2 x15).bind fun x106 =>
  some (!x106)
  else
  some false).bind fun y72 =>
  some y72
noncomputable def tidy_idle (p0 : TFunc) (p1 : Int) (p2 : List (List Bool)) : Option Bool :=
  (ix p0.code p1).bind fun x15 =>
  if (decide (x15.op = 2)) && (decide (x15.d = x15.a)) then
  some true
  else
  if decide (x15.op = 12) then
  if decide ((w64 (p1 + 1)) < (p0.code.length : Int)) then
  (ix p0.code (w64 (p1 + 1))).bind fun x126 =>
  if decide (x126.op = 11) then
  (ix p0.code (w64 (p1 + 1))).bind fun x141 =>
  tidy_idle_k1 p0 p1 p2 x15 (decide (x141.imm = x15.imm))
  else
  tidy_idle_k1 p0 p1 p2 x15 false
  else
  tidy_idle_k1 p0 p1 p2 x15 false
  else
  tidy_idle_k1 p0 p1 p2 x15 false
noncomputable def tidy_swept_k1 (x40 : Int) (xs62 : List TIns) : Option (((List TIns) × Int) ⊕ (TFunc × Bool)) :=
  some (Sum.inl (xs62, w64 (x40 + 1)))
noncomputable def tidy_swept_k2 (p0 : TFunc) (xs39 : List TIns) (xs180 : List TIns) : Option (TFunc × Bool) :=
  some ((⟨p0.name, p0.params, p0.regs, xs180⟩ : TFunc), decide ((xs39.length : Int) < (p0.code.length : Int)))
noncomputable def tidy_swept_l1b (p0 : TFunc) (x16 : List (List Bool)) (x27 : List Bool) (xs39 : List TIns) (x40 : Int) : Option (((List TIns) × Int) ⊕ (TFunc × Bool)) :=
  if decide (x40 < (p0.code.length : Int)) then
  (ix p0.code x40).bind fun x67 =>
  (if decide (x67.op = 11) then
  some true
  else
  (ix x27 x40).bind fun x129 =>
  (if x129 then
  (tidy_idle p0 x40 x16).bind fun x159 =>
  some (!x159)
  else
  some false).bind fun y143 =>
  some y143).bind fun y88 =>
  if y88 then
  (ap xs39 [x67]).bind fun xs113 =>
  tidy_swept_k1 x40 xs113
  else
  tidy_swept_k1 x40 xs39
  else
  ((if decide ((xs39.length : Int) = 0) then
  some true
  else
  (ix xs39 (w64 ((xs39.length : Int) - 1))).bind fun x238 =>
  some (decide (x238.op = 11))).bind fun y200 =>
  if y200 then
  (ap xs39 ([(⟨15, (-1), (-1), (-1), 0, [], 0, false, false⟩ : TIns)])).bind fun xs220 =>
  tidy_swept_k2 p0 xs39 xs220
  else
  tidy_swept_k2 p0 xs39 xs39).map Sum.inr
noncomputable def tidy_swept_l1 (p0 : TFunc) (x16 : List (List Bool)) (x27 : List Bool) (xs39 : List TIns) (x40 : Int) : Option (TFunc × Bool) := loopO (fun s => tidy_swept_l1b p0 x16 x27 s.1 s.2) (xs39, x40)
noncomputable def tidy_swept (p0 : TFunc) : Option (TFunc × Bool) :=
  (flow_Live p0).bind fun x16 =>
  (flow_Reached p0).bind fun x27 =>
  tidy_swept_l1 p0 x16 x27 [] 0
noncomputable def tidy_Func_l1b (x34 : ByteArray) (x35 : Int) (x36 : Int) (xs37 : List TIns) (x40 : Bool) : Option ((ByteArray × Int × Int × (List TIns) × Bool) ⊕ TFunc) :=
  if x40 then
  (tidy_swept (⟨x34, x35, x36, xs37⟩ : TFunc)).bind fun x57 =>
  some (Sum.inl (x57.1.name, x57.1.params, x57.1.regs, x57.1.code, decide ((x57.1.code.length : Int) < (xs37.length : Int))))
  else
  (some (⟨x34, x35, x36, xs37⟩ : TFunc)).map Sum.inr
noncomputable def tidy_Func_l1 (x34 : ByteArray) (x35 : Int) (x36 : Int) (xs37 : List TIns) (x40 : Bool) : Option TFunc := loopO (fun s => tidy_Func_l1b s.1 s.2.1 s.2.2.1 s.2.2.2.1 s.2.2.2.2) (x34, x35, x36, xs37, x40)
noncomputable def tidy_Func (p0 : TFunc) (p1 : Ttidy_Options) : Option TFunc :=
  (tidy_row p0 p1).bind fun x21 =>
  tidy_Func_l1 x21.name x21.params x21.regs x21.code p1.dead
noncomputable def law11_alive : Option Bool :=
  (law11_con 0 2).bind fun x1 =>
  (law11_con 1 3).bind fun x11 =>
  (tidy_Func (⟨ByteArray.empty, 0, 3, [x1, x11, (⟨3, 2, 0, 1, 0, [], 0, false, false⟩ : TIns), (⟨20, (-1), 2, (-1), 0, [], 0, false, false⟩ : TIns), (⟨15, (-1), (-1), (-1), 0, [], 0, false, false⟩ : TIns)]⟩ : TFunc) (⟨true, true, true⟩ : Ttidy_Options)).bind fun x41 =>
  (if decide ((x41.code.length : Int) = 3) then
  (ix x41.code 0).bind fun x106 =>
  some (decide (x106.op = 1))
  else
  some false).bind fun y59 =>
  (if y59 then
  (ix x41.code 0).bind fun x88 =>
  some (decide (x88.imm = 5))
  else
  some false).bind fun y71 =>
  some y71
noncomputable def ref08_has_k5 (x49 : Bool) : Option (Bool × Bool × Bool × Bool) :=
  if x49 then
  some (false, true, false, false)
  else
  some (false, false, false, false)
noncomputable def ref08_has_k4 (p0 : Int) (x32 : Bool) : Option (Bool × Bool × Bool × Bool) :=
  if x32 then
  some (false, false, false, true)
  else
  if decide (p0 = 13) then
  some (false, true, false, true)
  else
  if decide (p0 = 17) then
  some (true, true, false, true)
  else
  if decide (p0 = 15) then
  ref08_has_k5 true
  else
  if decide (p0 = 18) then
  ref08_has_k5 true
  else
  if decide (p0 = 19) then
  ref08_has_k5 true
  else
  ref08_has_k5 (decide (p0 = 20))
noncomputable def ref08_has_k3 (p0 : Int) (x19 : Bool) : Option (Bool × Bool × Bool × Bool) :=
  if x19 then
  some (true, true, true, false)
  else
  if decide (p0 = 10) then
  some (false, true, true, false)
  else
  if decide (p0 = 11) then
  ref08_has_k4 p0 true
  else
  ref08_has_k4 p0 (decide (p0 = 12))
noncomputable def ref08_has_k2 (p0 : Int) (x10 : Bool) : Option (Bool × Bool × Bool × Bool) :=
  if x10 then
  some (true, true, false, false)
  else
  if decide (p0 = 3) then
  ref08_has_k3 p0 true
  else
  if decide (p0 = 4) then
  ref08_has_k3 p0 true
  else
  if decide (p0 = 5) then
  ref08_has_k3 p0 true
  else
  if decide (p0 = 6) then
  ref08_has_k3 p0 true
  else
  if decide (p0 = 7) then
  ref08_has_k3 p0 true
  else
  ref08_has_k3 p0 (decide (p0 = 8))
noncomputable def ref08_has_k1 (p0 : Int) (x1 : Bool) : Option (Bool × Bool × Bool × Bool) :=
  if x1 then
  some (true, false, false, false)
  else
  if decide (p0 = 2) then
  ref08_has_k2 p0 true
  else
  ref08_has_k2 p0 (decide (p0 = 9))
noncomputable def ref08_has (p0 : Int) : Option (Bool × Bool × Bool × Bool) :=
  if decide (p0 = 1) then
  ref08_has_k1 p0 true
  else
  ref08_has_k1 p0 (decide (p0 = 14))
noncomputable def ref08_register (p0 : Bool) (p1 : Bool) (p2 : Int) (p3 : Int) : Option Bool :=
  if !p0 then
  some (decide (p2 = (-1)))
  else
  some (((decide (0 ≤ p2)) && (decide (p2 < p3))) || (p1 && (decide (p2 = (-1)))))
noncomputable def ref08_count_k1 (x9 : Int) (x23 : Int) : Option ((Int × Int) ⊕ Int) :=
  some (Sum.inl (x23, w64 (x9 + 1)))
noncomputable def ref08_count_l1b (p0 : TFunc) (p1 : Int) (x8 : Int) (x9 : Int) : Option ((Int × Int) ⊕ Int) :=
  if decide (x9 < (p0.code.length : Int)) then
  (ix p0.code x9).bind fun x28 =>
  if (decide (x28.op = 11)) && (decide (x28.imm = p1)) then
  ref08_count_k1 x9 (w64 (x8 + 1))
  else
  ref08_count_k1 x9 x8
  else
  (some x8).map Sum.inr
noncomputable def ref08_count_l1 (p0 : TFunc) (p1 : Int) (x8 : Int) (x9 : Int) : Option Int := loopO (fun s => ref08_count_l1b p0 p1 s.1 s.2) (x8, x9)
noncomputable def ref08_count (p0 : TFunc) (p1 : Int) : Option Int :=
  ref08_count_l1 p0 p1 0 0
noncomputable def ref08_ins_k2 (p0 : TFunc) (p1 : TIns) (x27 : Bool × Bool × Bool × Bool) (x166 : Bool) : Option Bool :=
  if x166 then
  some true
  else
  if decide (p1.op = 16) then
  some (decide (0 < p1.imm))
  else
  if decide (p1.op = 22) then
  some ((decide (p1.imm = 0)) || (decide (p1.imm = 1)))
  else
  if x27.2.2.2 then
  (ref08_count p0 p1.imm).bind fun x199 =>
  some (decide (0 < x199))
  else
  some (decide (p1.imm = 0))
noncomputable def ref08_ins_l1b (p0 : TFunc) (p1 : TIns) (x27 : Bool × Bool × Bool × Bool) (x93 : Int) : Option (Int ⊕ Bool) :=
  if decide (x93 < (p1.args.length : Int)) then
  (ix p1.args x93).bind fun x106 =>
  if ((decide (p1.op ≠ 14)) || (decide (x106 < 0))) || (decide (p0.regs ≤ x106)) then
  (some false).map Sum.inr
  else
  some (Sum.inl (w64 (x93 + 1)))
  else
  (if ((decide (p1.op ≠ 9)) && (decide (p1.op ≠ 10))) && (((decide (p1.what ≠ 0)) || p1.volatile) || p1.final) then
  some false
  else
  if decide (p1.op = 1) then
  ref08_ins_k2 p0 p1 x27 true
  else
  if decide (p1.op = 9) then
  ref08_ins_k2 p0 p1 x27 true
  else
  if decide (p1.op = 10) then
  ref08_ins_k2 p0 p1 x27 true
  else
  if decide (p1.op = 14) then
  ref08_ins_k2 p0 p1 x27 true
  else
  ref08_ins_k2 p0 p1 x27 (decide (p1.op = 21))).map Sum.inr
noncomputable def ref08_ins_l1 (p0 : TFunc) (p1 : TIns) (x27 : Bool × Bool × Bool × Bool) (x93 : Int) : Option Bool := loopO (fun s => ref08_ins_l1b p0 p1 x27 s) x93
noncomputable def ref08_ins_k1 (p0 : TFunc) (p1 : TIns) (x27 : Bool × Bool × Bool × Bool) (x35 : Bool) : Option Bool :=
  (ref08_register x27.1 (decide (p1.op = 14)) p1.d p0.regs).bind fun x40 =>
  (if !x40 then
  some true
  else
  (ref08_register x35 (((decide (p1.op = 9)) || (decide (p1.op = 10))) || (decide (p1.op = 15))) p1.a p0.regs).bind fun x271 =>
  some (!x271)).bind fun y48 =>
  (if y48 then
  some true
  else
  (ref08_register x27.2.2.1 false p1.b p0.regs).bind fun x244 =>
  some (!x244)).bind fun y74 =>
  if y74 then
  some false
  else
  ref08_ins_l1 p0 p1 x27 0
noncomputable def ref08_ins (p0 : TFunc) (p1 : TIns) : Option Bool :=
  if (decide (p1.op < 1)) || (decide (22 < p1.op)) then
  some false
  else
  (ref08_has p1.op).bind fun x27 =>
  if decide (p1.op = 21) then
  if (decide (p1.imm < 1)) || (decide (3 < p1.imm)) then
  some false
  else
  ref08_ins_k1 p0 p1 x27 (decide (p1.imm = 3))
  else
  ref08_ins_k1 p0 p1 x27 x27.2.1
noncomputable def ref08_Good_l1b (p0 : TFunc) (x55 : Int) : Option (Int ⊕ Bool) :=
  if decide (x55 < (p0.code.length : Int)) then
  (ix p0.code x55).bind fun x68 =>
  (ref08_ins p0 x68).bind fun x91 =>
  (if !x91 then
  some true
  else
  (if decide (x68.op = 11) then
  (ref08_count p0 x68.imm).bind fun x144 =>
  some (decide (x144 ≠ 1))
  else
  some false).bind fun y129 =>
  some y129).bind fun y99 =>
  if y99 then
  (some false).map Sum.inr
  else
  some (Sum.inl (w64 (x55 + 1)))
  else
  (some true).map Sum.inr
noncomputable def ref08_Good_l1 (p0 : TFunc) (x55 : Int) : Option Bool := loopO (fun s => ref08_Good_l1b p0 s) x55
noncomputable def ref08_Good (p0 : TFunc) : Option Bool :=
  if ((decide ((p0.code.length : Int) = 0)) || (decide (p0.params < 0))) || (decide (p0.regs < p0.params)) then
  some false
  else
  (ix p0.code (w64 ((p0.code.length : Int) - 1))).bind fun x27 =>
  if ((decide (x27.op ≠ 12)) && (decide (x27.op ≠ 15))) && (decide (x27.op ≠ 16)) then
  some false
  else
  ref08_Good_l1 p0 0
noncomputable def ref08_Whole_k1 (x62 : Int) (x97 : Bool) : Option (Int ⊕ (Int ⊕ Bool)) :=
  if x97 then
  ((some false).map Sum.inr).map Sum.inr
  else
  some (Sum.inl (w64 (x62 + 1)))
noncomputable def ref08_Whole_l2b (p0 : TModule) (x10 : Int) (x23 : TFunc) (x62 : Int) : Option (Int ⊕ (Int ⊕ Bool)) :=
  if decide (x62 < (x23.code.length : Int)) then
  (ix x23.code x62).bind fun x76 =>
  if decide (x76.op = 14) then
  if decide (x76.imm < 0) then
  ref08_Whole_k1 x62 true
  else
  if decide ((p0.funcs.length : Int) ≤ x76.imm) then
  ref08_Whole_k1 x62 true
  else
  (ix p0.funcs x76.imm).bind fun x119 =>
  ref08_Whole_k1 x62 (decide ((x76.args.length : Int) ≠ x119.params))
  else
  ref08_Whole_k1 x62 false
  else
  (some (Sum.inl (w64 (x10 + 1)))).map Sum.inr
noncomputable def ref08_Whole_l2 (p0 : TModule) (x10 : Int) (x23 : TFunc) (x62 : Int) : Option (Int ⊕ Bool) := loopO (fun s => ref08_Whole_l2b p0 x10 x23 s) x62
noncomputable def ref08_Whole_l3b (p0 : TModule) (x139 : Int) : Option (Int ⊕ Bool) :=
  if decide (x139 < (p0.threads.length : Int)) then
  (ix p0.threads x139).bind fun x152 =>
  (if (decide (x152 < 0)) || (decide ((p0.funcs.length : Int) ≤ x152)) then
  some true
  else
  (ix p0.funcs x152).bind fun x194 =>
  some (decide (x194.params ≠ 0))).bind fun y171 =>
  if y171 then
  (some false).map Sum.inr
  else
  some (Sum.inl (w64 (x139 + 1)))
  else
  (some true).map Sum.inr
noncomputable def ref08_Whole_l3 (p0 : TModule) (x139 : Int) : Option Bool := loopO (fun s => ref08_Whole_l3b p0 s) x139
noncomputable def ref08_Whole_l1b (p0 : TModule) (x10 : Int) : Option (Int ⊕ Bool) :=
  if decide (x10 < (p0.funcs.length : Int)) then
  (ix p0.funcs x10).bind fun x23 =>
  (ref08_Good x23).bind fun x45 =>
  if !x45 then
  (some false).map Sum.inr
  else
  ref08_Whole_l2 p0 x10 x23 0
  else
  (ref08_Whole_l3 p0 0).map Sum.inr
noncomputable def ref08_Whole_l1 (p0 : TModule) (x10 : Int) : Option Bool := loopO (fun s => ref08_Whole_l1b p0 s) x10
noncomputable def ref08_Whole (p0 : TModule) : Option Bool :=
  ref08_Whole_l1 p0 0
noncomputable def law11_great_l1b (p0 : TModule) (x10 : Int) : Option (Int ⊕ Bool) :=
  if decide (x10 < (p0.funcs.length : Int)) then
  (ix p0.funcs x10).bind fun x23 =>
  if (decide (40 < (x23.code.length : Int))) || (decide (12 < x23.regs)) then
  (some true).map Sum.inr
  else
  some (Sum.inl (w64 (x10 + 1)))
  else
  ((if (decide (6 < (p0.funcs.length : Int))) || (decide (4 < (p0.threads.length : Int))) then
  some true
  else
  (ref08_Whole p0).bind fun x85 =>
  some (!x85)).bind fun y68 =>
  some y68).map Sum.inr
noncomputable def law11_great_l1 (p0 : TModule) (x10 : Int) : Option Bool := loopO (fun s => law11_great_l1b p0 s) x10
noncomputable def law11_great (p0 : TModule) : Option Bool :=
  law11_great_l1 p0 0
noncomputable def tidy_Module_l1b (p0 : TModule) (p1 : Ttidy_Options) (x25 : List Int) (xs45 : List TFunc) (x46 : Int) : Option (((List TFunc) × Int) ⊕ TModule) :=
  if decide (x46 < (p0.funcs.length : Int)) then
  (ix p0.funcs x46).bind fun x67 =>
  (tidy_Func x67 p1).bind fun x89 =>
  (ap xs45 [x89]).bind fun xs104 =>
  some (Sum.inl (xs104, w64 (x46 + 1)))
  else
  (some (⟨xs45, x25⟩ : TModule)).map Sum.inr
noncomputable def tidy_Module_l1 (p0 : TModule) (p1 : Ttidy_Options) (x25 : List Int) (xs45 : List TFunc) (x46 : Int) : Option TModule := loopO (fun s => tidy_Module_l1b p0 p1 x25 s.1 s.2) (xs45, x46)
noncomputable def tidy_Module (p0 : TModule) (p1 : Ttidy_Options) : Option TModule :=
  (slices_Clone_2 p0.threads).bind fun x25 =>
  tidy_Module_l1 p0 p1 x25 [] 0
noncomputable def rM_do (p0 : TrM) (p1 : Int) (p2 : Int) (p3 : Int) (p4 : TIns) : Option TrM :=
  (ap p0.acts [(⟨p1, p2, p3, p4.what, p4.volatile, p4.final⟩ : TAct)]).bind fun xs36 =>
  some (⟨p0.m, p0.me, p0.reads, p0.fuel, p0.used, p0.held, xs36, p0.over, p0.ended, p0.most⟩ : TrM)
noncomputable def rM_trap (p0 : TrM) (p1 : Int) : Option TrM :=
  (rM_do p0 4 0 p1 (⟨0, 0, 0, 0, 0, [], 0, false, false⟩ : TIns)).bind fun x27 =>
  some (⟨x27.m, x27.me, x27.reads, x27.fuel, x27.used, x27.held, x27.acts, true, true, x27.most⟩ : TrM)
noncomputable def ref08_reckon (p0 : Int) (p1 : Int) (p2 : Int) : Option Int :=
  if ((decide (p0 = 7)) && (decide (p1 < p2))) || ((decide (p0 = 8)) && (decide (p1 = p2))) then
  some 1
  else
  if decide (p0 = 3) then
  some (w64 (p1 + p2))
  else
  if decide (p0 = 4) then
  some (w64 (p1 - p2))
  else
  if decide (p0 = 5) then
  some (w64 (p1 * p2))
  else
  if decide (p0 = 6) then
  if decide (p2 = 0) then
  some 0
  else
  if decide (p2 = (-1)) then
  some (w64 (0 - p1))
  else
  (quoO .i64 p1 p2).bind fun x43 =>
  some x43
  else
  some 0
noncomputable def rM_read (p0 : TrM) : Option (Int × Bool × TrM) :=
  if decide ((p0.reads.length : Int) = 0) then
  some (0, false, (⟨p0.m, p0.me, p0.reads, p0.fuel, p0.used, p0.held, p0.acts, true, p0.ended, p0.most⟩ : TrM))
  else
  (ix p0.reads 0).bind fun x34 =>
  (cutL p0.reads 1 (p0.reads.length : Int)).bind fun xs45 =>
  some (x34, true, (⟨p0.m, p0.me, xs45, p0.fuel, p0.used, p0.held, p0.acts, p0.over, p0.ended, p0.most⟩ : TrM))
noncomputable def ref08_find_l1b (p0 : TFunc) (p1 : Int) (x8 : Int) : Option (Int ⊕ Int) :=
  if decide (x8 < (p0.code.length : Int)) then
  (ix p0.code x8).bind fun x21 =>
  if (decide (x21.op = 11)) && (decide (x21.imm = p1)) then
  (some x8).map Sum.inr
  else
  some (Sum.inl (w64 (x8 + 1)))
  else
  (some (p0.code.length : Int)).map Sum.inr
noncomputable def ref08_find_l1 (p0 : TFunc) (p1 : Int) (x8 : Int) : Option Int := loopO (fun s => ref08_find_l1b p0 p1 s) x8
noncomputable def ref08_find (p0 : TFunc) (p1 : Int) : Option Int :=
  ref08_find_l1 p0 p1 0
noncomputable def rM_enter (p0 : TrM) (p1 : Int) : Option TrM :=
  (rM_read p0).bind fun x27 =>
  if !x27.2.1 then
  some x27.2.2
  else
  if ((decide (((mG x27.2.2.held p1).getD 0) = 0)) && (decide (x27.1 ≠ 0))) || ((decide (0 < ((mG x27.2.2.held p1).getD 0))) && (decide (x27.1 ≠ (w64 ((w64 (1024 * (w64 (x27.2.2.me + 1)))) + ((mG x27.2.2.held p1).getD 0)))))) then
  some (⟨x27.2.2.m, x27.2.2.me, x27.2.2.reads, x27.2.2.fuel, x27.2.2.used, x27.2.2.held, x27.2.2.acts, true, x27.2.2.ended, x27.2.2.most⟩ : TrM)
  else
  if decide (((mG x27.2.2.held p1).getD 0) = 1023) then
  (rM_trap x27.2.2 6).bind fun x88 =>
  some x88
  else
  (rM_do (⟨x27.2.2.m, x27.2.2.me, x27.2.2.reads, x27.2.2.fuel, x27.2.2.used, mS x27.2.2.held p1 (w64 (((mG x27.2.2.held p1).getD 0) + 1)), x27.2.2.acts, x27.2.2.over, x27.2.2.ended, x27.2.2.most⟩ : TrM) 5 p1 (w64 ((w64 (1024 * (w64 (x27.2.2.me + 1)))) + (w64 (((mG x27.2.2.held p1).getD 0) + 1)))) (⟨0, 0, 0, 0, 0, [], 0, false, false⟩ : TIns)).bind fun x117 =>
  some x117
noncomputable def rM_leave_k1 (p0 : TrM) (p1 : Int) (x37 : Int) : Option TrM :=
  (rM_do (⟨p0.m, p0.me, p0.reads, p0.fuel, p0.used, mS p0.held p1 (w64 (((mG p0.held p1).getD 0) - 1)), p0.acts, p0.over, p0.ended, p0.most⟩ : TrM) 6 p1 x37 (⟨0, 0, 0, 0, 0, [], 0, false, false⟩ : TIns)).bind fun x48 =>
  some x48
noncomputable def rM_leave (p0 : TrM) (p1 : Int) : Option TrM :=
  if decide (((mG (mS p0.held p1 (w64 (((mG p0.held p1).getD 0) - 1))) p1).getD 0) = 0) then
  rM_leave_k1 p0 p1 0
  else
  rM_leave_k1 p0 p1 (w64 ((w64 (1024 * (w64 (p0.me + 1)))) + ((mG (mS p0.held p1 (w64 (((mG p0.held p1).getD 0) - 1))) p1).getD 0)))
noncomputable def rM_Call_k1 (xs160 : List TFunc) (xs163 : List Int) (x166 : Int) (xs167 : List Int) (x170 : Int) (x171 : Int) (xs174 : List (Int × Int)) (xs177 : List TAct) (x178 : Bool) (x179 : Bool) (x180 : Int) (xs181 : List Int) (x182 : Int) : Option (((List TFunc) × (List Int) × Int × (List Int) × Int × Int × (List (Int × Int)) × (List TAct) × Bool × Bool × Int × (List Int) × Int) ⊕ (Int × TrM)) :=
  some (Sum.inl (xs160, xs163, x166, xs167, x170, x171, xs174, xs177, x178, x179, x180, xs181, w64 (x182 + 1)))
noncomputable def rM_Call_l3b (rec_ : TrM → Int → (List Int) → Int → Option (Int × TrM)) (p3 : Int) (xs122 : List TFunc) (xs125 : List Int) (x128 : Int) (xs129 : List Int) (x132 : Int) (x133 : Int) (xs136 : List (Int × Int)) (xs139 : List TAct) (x141 : Bool) (x142 : Int) (xs143 : List Int) (x144 : Int) (x187 : Bool) (x205 : TIns) (xs485 : List Int) (x486 : Int) : Option (((List Int) × Int) ⊕ (((List TFunc) × (List Int) × Int × (List Int) × Int × Int × (List (Int × Int)) × (List TAct) × Bool × Bool × Int × (List Int) × Int) ⊕ (Int × TrM))) :=
  if decide (x486 < (x205.args.length : Int)) then
  (ix x205.args x486).bind fun x508 =>
  (ix xs143 x508).bind fun x519 =>
  (ap xs485 [x519]).bind fun xs538 =>
  some (Sum.inl (xs538, w64 (x486 + 1)))
  else
  ((rec_ (⟨(⟨xs122, xs125⟩ : TModule), x128, xs129, w64 (x132 - 1), x133, xs136, xs139, x187, x141, x142⟩ : TrM) x205.imm xs485 (w64 (p3 + 1))).bind fun x561 =>
  if decide (0 ≤ x205.d) then
  (ix xs143 x205.d).bind fun x581 =>
  rM_Call_k1 x561.2.m.funcs x561.2.m.threads x561.2.me x561.2.reads x561.2.fuel x561.2.used x561.2.held x561.2.acts x561.2.over x561.2.ended x561.2.most (xs143.set (Int.toNat x205.d) x561.1) x144
  else
  rM_Call_k1 x561.2.m.funcs x561.2.m.threads x561.2.me x561.2.reads x561.2.fuel x561.2.used x561.2.held x561.2.acts x561.2.over x561.2.ended x561.2.most xs143 x144).map Sum.inr
noncomputable def rM_Call_l3 (rec_ : TrM → Int → (List Int) → Int → Option (Int × TrM)) (p3 : Int) (xs122 : List TFunc) (xs125 : List Int) (x128 : Int) (xs129 : List Int) (x132 : Int) (x133 : Int) (xs136 : List (Int × Int)) (xs139 : List TAct) (x141 : Bool) (x142 : Int) (xs143 : List Int) (x144 : Int) (x187 : Bool) (x205 : TIns) (xs485 : List Int) (x486 : Int) : Option (((List TFunc) × (List Int) × Int × (List Int) × Int × Int × (List (Int × Int)) × (List TAct) × Bool × Bool × Int × (List Int) × Int) ⊕ (Int × TrM)) := loopO (fun s => rM_Call_l3b rec_ p3 xs122 xs125 x128 xs129 x132 x133 xs136 xs139 x141 x142 xs143 x144 x187 x205 s.1 s.2) (xs485, x486)
noncomputable def rM_Call_k4 (rec_ : TrM → Int → (List Int) → Int → Option (Int × TrM)) (p3 : Int) (x51 : TFunc) (xs122 : List TFunc) (xs125 : List Int) (x128 : Int) (xs129 : List Int) (x132 : Int) (x133 : Int) (xs136 : List (Int × Int)) (xs139 : List TAct) (x141 : Bool) (x142 : Int) (xs143 : List Int) (x144 : Int) (x187 : Bool) (x205 : TIns) (x226 : Int) (x279 : Bool) : Option (((List TFunc) × (List Int) × Int × (List Int) × Int × Int × (List (Int × Int)) × (List TAct) × Bool × Bool × Int × (List Int) × Int) ⊕ (Int × TrM)) :=
  if x279 then
  (ix xs143 x205.b).bind fun x286 =>
  (ref08_reckon x205.op x226 x286).bind fun x300 =>
  (ix xs143 x205.d).bind fun x308 =>
  rM_Call_k1 xs122 xs125 x128 xs129 (w64 (x132 - 1)) x133 xs136 xs139 x187 x141 x142 (xs143.set (Int.toNat x205.d) x300) x144
  else
  if decide (x205.op = 9) then
  (rM_read (⟨(⟨xs122, xs125⟩ : TModule), x128, xs129, w64 (x132 - 1), x133, xs136, xs139, x187, x141, x142⟩ : TrM)).bind fun x333 =>
  if x333.2.1 then
  (ix xs143 x205.d).bind fun x353 =>
  (rM_do x333.2.2 1 (w64 (x226 + x205.imm)) x333.1 x205).bind fun x377 =>
  rM_Call_k1 x377.m.funcs x377.m.threads x377.me x377.reads x377.fuel x377.used x377.held x377.acts x377.over x377.ended x377.most (xs143.set (Int.toNat x205.d) x333.1) x144
  else
  rM_Call_k1 x333.2.2.m.funcs x333.2.2.m.threads x333.2.2.me x333.2.2.reads x333.2.2.fuel x333.2.2.used x333.2.2.held x333.2.2.acts x333.2.2.over x333.2.2.ended x333.2.2.most xs143 x144
  else
  if decide (x205.op = 10) then
  (ix xs143 x205.b).bind fun x401 =>
  (rM_do (⟨(⟨xs122, xs125⟩ : TModule), x128, xs129, w64 (x132 - 1), x133, xs136, xs139, x187, x141, x142⟩ : TrM) 2 (w64 (x226 + x205.imm)) x401 x205).bind fun x422 =>
  rM_Call_k1 x422.m.funcs x422.m.threads x422.me x422.reads x422.fuel x422.used x422.held x422.acts x422.over x422.ended x422.most xs143 x144
  else
  if decide (x205.op = 12) then
  (ref08_find x51 x205.imm).bind fun x445 =>
  rM_Call_k1 xs122 xs125 x128 xs129 (w64 (x132 - 1)) x133 xs136 xs139 x187 x141 x142 xs143 x445
  else
  if decide (x205.op = 13) then
  if decide (x226 = 0) then
  (ref08_find x51 x205.imm).bind fun x463 =>
  rM_Call_k1 xs122 xs125 x128 xs129 (w64 (x132 - 1)) x133 xs136 xs139 x187 x141 x142 xs143 x463
  else
  rM_Call_k1 xs122 xs125 x128 xs129 (w64 (x132 - 1)) x133 xs136 xs139 x187 x141 x142 xs143 x144
  else
  if decide (x205.op = 14) then
  rM_Call_l3 rec_ p3 xs122 xs125 x128 xs129 x132 x133 xs136 xs139 x141 x142 xs143 x144 x187 x205 [] 0
  else
  if decide (x205.op = 15) then
  (some (x226, (⟨(⟨xs122, xs125⟩ : TModule), x128, xs129, w64 (x132 - 1), x133, xs136, xs139, x187, x141, x142⟩ : TrM))).map Sum.inr
  else
  if decide (x205.op = 16) then
  (rM_trap (⟨(⟨xs122, xs125⟩ : TModule), x128, xs129, w64 (x132 - 1), x133, xs136, xs139, x187, x141, x142⟩ : TrM) x205.imm).bind fun x624 =>
  rM_Call_k1 x624.m.funcs x624.m.threads x624.me x624.reads x624.fuel x624.used x624.held x624.acts x624.over x624.ended x624.most xs143 x144
  else
  if decide (x205.op = 17) then
  if ((decide (x226 < 0)) || (decide (512 < x226))) || (decide (512 < (w64 (x133 + x226)))) then
  (ix xs143 x205.d).bind fun x663 =>
  (ref08_find x51 x205.imm).bind fun x681 =>
  rM_Call_k1 xs122 xs125 x128 xs129 (w64 (x132 - 1)) x133 xs136 xs139 x187 x141 x142 (xs143.set (Int.toNat x205.d) 0) x681
  else
  (ix xs143 x205.d).bind fun x694 =>
  rM_Call_k1 xs122 xs125 x128 xs129 (w64 (x132 - 1)) (w64 (x133 + x226)) xs136 xs139 x187 x141 x142 (xs143.set (Int.toNat x205.d) (w64 ((w64 (1048576 * (w64 (x128 + 1)))) + (w64 (8 * x133))))) x144
  else
  if decide (x205.op = 18) then
  (rM_enter (⟨(⟨xs122, xs125⟩ : TModule), x128, xs129, w64 (x132 - 1), x133, xs136, xs139, x187, x141, x142⟩ : TrM) x226).bind fun x729 =>
  rM_Call_k1 x729.m.funcs x729.m.threads x729.me x729.reads x729.fuel x729.used x729.held x729.acts x729.over x729.ended x729.most xs143 x144
  else
  if decide (x205.op = 19) then
  (rM_leave (⟨(⟨xs122, xs125⟩ : TModule), x128, xs129, w64 (x132 - 1), x133, xs136, xs139, x187, x141, x142⟩ : TrM) x226).bind fun x757 =>
  rM_Call_k1 x757.m.funcs x757.m.threads x757.me x757.reads x757.fuel x757.used x757.held x757.acts x757.over x757.ended x757.most xs143 x144
  else
  if decide (x205.op = 20) then
  (rM_do (⟨(⟨xs122, xs125⟩ : TModule), x128, xs129, w64 (x132 - 1), x133, xs136, xs139, x187, x141, x142⟩ : TrM) 3 0 x226 (⟨0, 0, 0, 0, 0, [], 0, false, false⟩ : TIns)).bind fun x785 =>
  rM_Call_k1 x785.m.funcs x785.m.threads x785.me x785.reads x785.fuel x785.used x785.held x785.acts x785.over x785.ended x785.most xs143 x144
  else
  rM_Call_k1 xs122 xs125 x128 xs129 (w64 (x132 - 1)) x133 xs136 xs139 x187 x141 x142 xs143 x144
noncomputable def rM_Call_k3 (rec_ : TrM → Int → (List Int) → Int → Option (Int × TrM)) (p3 : Int) (x51 : TFunc) (xs122 : List TFunc) (xs125 : List Int) (x128 : Int) (xs129 : List Int) (x132 : Int) (x133 : Int) (xs136 : List (Int × Int)) (xs139 : List TAct) (x141 : Bool) (x142 : Int) (xs143 : List Int) (x144 : Int) (x187 : Bool) (x205 : TIns) (x226 : Int) : Option (((List TFunc) × (List Int) × Int × (List Int) × Int × Int × (List (Int × Int)) × (List TAct) × Bool × Bool × Int × (List Int) × Int) ⊕ (Int × TrM)) :=
  if decide (x205.op = 1) then
  (ix xs143 x205.d).bind fun x233 =>
  rM_Call_k1 xs122 xs125 x128 xs129 (w64 (x132 - 1)) x133 xs136 xs139 x187 x141 x142 (xs143.set (Int.toNat x205.d) x205.imm) x144
  else
  if decide (x205.op = 2) then
  (ix xs143 x205.d).bind fun x257 =>
  rM_Call_k1 xs122 xs125 x128 xs129 (w64 (x132 - 1)) x133 xs136 xs139 x187 x141 x142 (xs143.set (Int.toNat x205.d) x226) x144
  else
  if decide (x205.op = 3) then
  rM_Call_k4 rec_ p3 x51 xs122 xs125 x128 xs129 x132 x133 xs136 xs139 x141 x142 xs143 x144 x187 x205 x226 true
  else
  if decide (x205.op = 4) then
  rM_Call_k4 rec_ p3 x51 xs122 xs125 x128 xs129 x132 x133 xs136 xs139 x141 x142 xs143 x144 x187 x205 x226 true
  else
  if decide (x205.op = 5) then
  rM_Call_k4 rec_ p3 x51 xs122 xs125 x128 xs129 x132 x133 xs136 xs139 x141 x142 xs143 x144 x187 x205 x226 true
  else
  if decide (x205.op = 6) then
  rM_Call_k4 rec_ p3 x51 xs122 xs125 x128 xs129 x132 x133 xs136 xs139 x141 x142 xs143 x144 x187 x205 x226 true
  else
  if decide (x205.op = 7) then
  rM_Call_k4 rec_ p3 x51 xs122 xs125 x128 xs129 x132 x133 xs136 xs139 x141 x142 xs143 x144 x187 x205 x226 true
  else
  rM_Call_k4 rec_ p3 x51 xs122 xs125 x128 xs129 x132 x133 xs136 xs139 x141 x142 xs143 x144 x187 x205 x226 (decide (x205.op = 8))
noncomputable def rM_Call_k2 (rec_ : TrM → Int → (List Int) → Int → Option (Int × TrM)) (p3 : Int) (x51 : TFunc) (xs122 : List TFunc) (xs125 : List Int) (x128 : Int) (xs129 : List Int) (x132 : Int) (x133 : Int) (xs136 : List (Int × Int)) (xs139 : List TAct) (x141 : Bool) (x142 : Int) (xs143 : List Int) (x144 : Int) (x187 : Bool) : Option (((List TFunc) × (List Int) × Int × (List Int) × Int × Int × (List (Int × Int)) × (List TAct) × Bool × Bool × Int × (List Int) × Int) ⊕ (Int × TrM)) :=
  if x187 then
  (some (0, (⟨(⟨xs122, xs125⟩ : TModule), x128, xs129, x132, x133, xs136, xs139, x187, x141, x142⟩ : TrM))).map Sum.inr
  else
  (ix x51.code x144).bind fun x205 =>
  if decide (0 ≤ x205.a) then
  (ix xs143 x205.a).bind fun x826 =>
  rM_Call_k3 rec_ p3 x51 xs122 xs125 x128 xs129 x132 x133 xs136 xs139 x141 x142 xs143 x144 x187 x205 x826
  else
  rM_Call_k3 rec_ p3 x51 xs122 xs125 x128 xs129 x132 x133 xs136 xs139 x141 x142 xs143 x144 x187 x205 0
noncomputable def rM_Call_k5 (rec_ : TrM → Int → (List Int) → Int → Option (Int × TrM)) (p3 : Int) (x51 : TFunc) (xs122 : List TFunc) (xs125 : List Int) (x128 : Int) (xs129 : List Int) (x132 : Int) (x133 : Int) (xs136 : List (Int × Int)) (xs139 : List TAct) (x140 : Bool) (x141 : Bool) (x142 : Int) (xs143 : List Int) (x144 : Int) (x853 : Bool) : Option (((List TFunc) × (List Int) × Int × (List Int) × Int × Int × (List (Int × Int)) × (List TAct) × Bool × Bool × Int × (List Int) × Int) ⊕ (Int × TrM)) :=
  if x853 then
  rM_Call_k2 rec_ p3 x51 xs122 xs125 x128 xs129 x132 x133 xs136 xs139 x141 x142 xs143 x144 true
  else
  rM_Call_k2 rec_ p3 x51 xs122 xs125 x128 xs129 x132 x133 xs136 xs139 x141 x142 xs143 x144 x140
noncomputable def rM_Call_l2b (rec_ : TrM → Int → (List Int) → Int → Option (Int × TrM)) (p3 : Int) (x51 : TFunc) (xs122 : List TFunc) (xs125 : List Int) (x128 : Int) (xs129 : List Int) (x132 : Int) (x133 : Int) (xs136 : List (Int × Int)) (xs139 : List TAct) (x140 : Bool) (x141 : Bool) (x142 : Int) (xs143 : List Int) (x144 : Int) : Option (((List TFunc) × (List Int) × Int × (List Int) × Int × Int × (List (Int × Int)) × (List TAct) × Bool × Bool × Int × (List Int) × Int) ⊕ (Int × TrM)) :=
  if decide (x144 < (x51.code.length : Int)) then
  if decide (x132 = 0) then
  rM_Call_k5 rec_ p3 x51 xs122 xs125 x128 xs129 x132 x133 xs136 xs139 x140 x141 x142 xs143 x144 true
  else
  rM_Call_k5 rec_ p3 x51 xs122 xs125 x128 xs129 x132 x133 xs136 xs139 x140 x141 x142 xs143 x144 (decide (x142 ≤ (xs139.length : Int)))
  else
  (some (0, (⟨(⟨xs122, xs125⟩ : TModule), x128, xs129, x132, x133, xs136, xs139, x140, x141, x142⟩ : TrM))).map Sum.inr
noncomputable def rM_Call_l2 (rec_ : TrM → Int → (List Int) → Int → Option (Int × TrM)) (p3 : Int) (x51 : TFunc) (xs122 : List TFunc) (xs125 : List Int) (x128 : Int) (xs129 : List Int) (x132 : Int) (x133 : Int) (xs136 : List (Int × Int)) (xs139 : List TAct) (x140 : Bool) (x141 : Bool) (x142 : Int) (xs143 : List Int) (x144 : Int) : Option (Int × TrM) := loopO (fun s => rM_Call_l2b rec_ p3 x51 s.1 s.2.1 s.2.2.1 s.2.2.2.1 s.2.2.2.2.1 s.2.2.2.2.2.1 s.2.2.2.2.2.2.1 s.2.2.2.2.2.2.2.1 s.2.2.2.2.2.2.2.2.1 s.2.2.2.2.2.2.2.2.2.1 s.2.2.2.2.2.2.2.2.2.2.1 s.2.2.2.2.2.2.2.2.2.2.2.1 s.2.2.2.2.2.2.2.2.2.2.2.2) (xs122, xs125, x128, xs129, x132, x133, xs136, xs139, x140, x141, x142, xs143, x144)
noncomputable def rM_Call_l1b (rec_ : TrM → Int → (List Int) → Int → Option (Int × TrM)) (p0 : TrM) (p3 : Int) (x51 : TFunc) (xs88 : List Int) : Option ((List Int) ⊕ (Int × TrM)) :=
  if decide ((xs88.length : Int) < x51.regs) then
  (ap xs88 [0]).bind fun xs111 =>
  some (Sum.inl xs111)
  else
  (rM_Call_l2 rec_ p3 x51 p0.m.funcs p0.m.threads p0.me p0.reads p0.fuel p0.used p0.held p0.acts p0.over p0.ended p0.most xs88 0).map Sum.inr
noncomputable def rM_Call_l1 (rec_ : TrM → Int → (List Int) → Int → Option (Int × TrM)) (p0 : TrM) (p3 : Int) (x51 : TFunc) (xs88 : List Int) : Option (Int × TrM) := loopO (fun s => rM_Call_l1b rec_ p0 p3 x51 s) xs88
noncomputable def rM_Call_F (rec_ : TrM → Int → (List Int) → Int → Option (Int × TrM)) (p0 : TrM) (p1 : Int) (p2 : List Int) (p3 : Int) : Option (Int × TrM) :=
  if decide (16 < p3) then
  (rM_trap p0 5).bind fun x31 =>
  some (0, x31)
  else
  (ix p0.m.funcs p1).bind fun x51 =>
  (ap [] p2).bind fun xs78 =>
  rM_Call_l1 rec_ p0 p3 x51 xs78
noncomputable def rM_Call (p0 : TrM) (p1 : Int) (p2 : List Int) (p3 : Int) : Option (Int × TrM) := recO (fun rec_ a => rM_Call_F (fun p0 p1 p2 p3 => rec_ (p0, p1, p2, p3)) a.1 a.2.1 a.2.2.1 a.2.2.2) (p0, p1, p2, p3)
noncomputable def ref08_Begin_k1 (xs75 : List TFunc) (xs78 : List Int) (x81 : Int) (xs82 : List Int) (x85 : Int) (x86 : Int) (xs89 : List (Int × Int)) (xs92 : List TAct) (x93 : Bool) (x94 : Bool) (x95 : Int) : Option ((List TAct) × Bool) :=
  some (xs92, x94)
noncomputable def ref08_Begin (p0 : TModule) (p1 : Int) (p2 : List Int) (p3 : Int) (p4 : Int) : Option ((List TAct) × Bool) :=
  if (decide (p1 < 0)) || (decide ((p0.threads.length : Int) ≤ p1)) then
  some ([], false)
  else
  (ix p0.threads p1).bind fun x39 =>
  (rM_Call (⟨p0, p1, p2, p3, 0, [], [], false, false, p4⟩ : TrM) x39 [] 0).bind fun x57 =>
  if !x57.2.over then
  (rM_do x57.2 7 0 0 (⟨0, 0, 0, 0, 0, [], 0, false, false⟩ : TIns)).bind fun x109 =>
  ref08_Begin_k1 x109.m.funcs x109.m.threads x109.me x109.reads x109.fuel x109.used x109.held x109.acts x109.over true x109.most
  else
  ref08_Begin_k1 x57.2.m.funcs x57.2.m.threads x57.2.me x57.2.reads x57.2.fuel x57.2.used x57.2.held x57.2.acts x57.2.over x57.2.ended x57.2.most
noncomputable def ref08_Run (p0 : TModule) (p1 : Int) (p2 : List Int) (p3 : Int) : Option ((List TAct) × Bool) :=
  (ref08_Begin p0 p1 p2 p3 1152921504606846976).bind fun x17 =>
  some (x17.1, x17.2)
noncomputable def ref07_Same_3_l1b (p0 : List TAct) (p1 : List TAct) (x9 : Int) : Option (Int ⊕ Bool) :=
  if decide (x9 < (p0.length : Int)) then
  (ix p0 x9).bind fun x22 =>
  (ix p1 x9).bind fun x33 =>
  if !((decide (x22.kind = x33.kind)) && ((decide (x22.at_ = x33.at_)) && ((decide (x22.val = x33.val)) && ((decide (x22.what = x33.what)) && ((x22.volatile == x33.volatile) && ((x22.final == x33.final) && true)))))) then
  (some false).map Sum.inr
  else
  some (Sum.inl (w64 (x9 + 1)))
  else
  (some true).map Sum.inr
noncomputable def ref07_Same_3_l1 (p0 : List TAct) (p1 : List TAct) (x9 : Int) : Option Bool := loopO (fun s => ref07_Same_3_l1b p0 p1 s) x9
noncomputable def ref07_Same_3 (p0 : List TAct) (p1 : List TAct) : Option Bool :=
  if decide ((p0.length : Int) ≠ (p1.length : Int)) then
  some false
  else
  ref07_Same_3_l1 p0 p1 0
noncomputable def law11_TidyTwice_l1b (p2 : List Int) (x57 : TModule) (x79 : TModule) (x99 : Int) : Option (Int ⊕ Bool) :=
  if decide (x99 < (x57.funcs.length : Int)) then
  (ix x79.funcs x99).bind fun x116 =>
  (ix x57.funcs x99).bind fun x129 =>
  if decide ((w64 ((x129.code.length : Int) + 1)) < (x116.code.length : Int)) then
  (some false).map Sum.inr
  else
  some (Sum.inl (w64 (x99 + 1)))
  else
  ((ref08_Run x57 0 p2 2000).bind fun x154 =>
  (ref08_Run x79 0 p2 2000).bind fun x173 =>
  (if decide ((x154.1.length : Int) ≤ (x173.1.length : Int)) then
  (cutL x173.1 0 (x154.1.length : Int)).bind fun xs245 =>
  (ref07_Same_3 x154.1 xs245).bind fun x252 =>
  some x252
  else
  some false).bind fun y189 =>
  some (y189 && ((!x154.2) || (x173.2 && (decide ((x154.1.length : Int) = (x173.1.length : Int))))))).map Sum.inr
noncomputable def law11_TidyTwice_l1 (p2 : List Int) (x57 : TModule) (x79 : TModule) (x99 : Int) : Option Bool := loopO (fun s => law11_TidyTwice_l1b p2 x57 x79 s) x99
noncomputable def law11_TidyTwice (p0 : TModule) (p1 : Ttidy_Options) (p2 : List Int) : Option Bool :=
  (law11_alive).bind fun x17 =>
  if !x17 then
  some false
  else
  (law11_great p0).bind fun x35 =>
  if x35 || (decide (100 < (p2.length : Int))) then
  some true
  else
  (tidy_Module p0 p1).bind fun x57 =>
  (tidy_Module x57 p1).bind fun x79 =>
  law11_TidyTwice_l1 p2 x57 x79 0
end Go.Vm.G11
