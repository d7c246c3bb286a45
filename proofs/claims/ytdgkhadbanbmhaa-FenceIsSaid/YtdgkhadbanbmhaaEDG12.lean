/-
  What functions compute, as plain functions.
-/
import Derived.Test.YtdgkhadbanbmhaaESp8
set_option linter.unusedSimpArgs false
set_option linter.unusedVariables false
namespace Go.Vm.G12
open Go

structure TIns where
  op : Int
  d : Int
  a : Int
  b : Int
  imm : Int
  args : List Int
  what : Int
  volatile : Bool
  final : Bool
def RT_TIns : RT TIns := ⟨9, fun V cs x => ∃ v1 : Value, cs = [.int .i64 x.op, .int .i64 x.d, .int .i64 x.a, .int .i64 x.b, .int .i64 x.imm, v1, .int .i64 x.what, .bool x.volatile, .bool x.final] ∧ Fz (RT.int .i64) V v1 x.args, ⟨fun _ _ _ ⟨v1, h, f1⟩ => by rw [h]; rfl, fun _ _ _ ⟨v1, h, f1⟩ => by rw [h]; have := f1.one; simp only [List.all_cons, List.all_nil, *]; rfl, fun _ _ _ _ he ⟨v1, h, f1⟩ => ⟨v1, h, f1.up he⟩⟩⟩
structure TFunc where
  name : ByteArray
  params : Int
  regs : Int
  code : List TIns
def RT_TFunc : RT TFunc := ⟨4, fun V cs x => ∃ v1 : Value, cs = [.string x.name, .int .i64 x.params, .int .i64 x.regs, v1] ∧ Fz RT_TIns V v1 x.code, ⟨fun _ _ _ ⟨v1, h, f1⟩ => by rw [h]; rfl, fun _ _ _ ⟨v1, h, f1⟩ => by rw [h]; have := f1.one; simp only [List.all_cons, List.all_nil, *]; rfl, fun _ _ _ _ he ⟨v1, h, f1⟩ => ⟨v1, h, f1.up he⟩⟩⟩
structure TModule where
  funcs : List TFunc
  threads : List Int
def RT_TModule : RT TModule := ⟨2, fun V cs x => ∃ v1 v2 : Value, cs = [v1, v2] ∧ Fz RT_TFunc V v1 x.funcs ∧ Fz (RT.int .i64) V v2 x.threads, ⟨fun _ _ _ ⟨v1, v2, h, f1, f2⟩ => by rw [h]; rfl, fun _ _ _ ⟨v1, v2, h, f1, f2⟩ => by rw [h]; have := f1.one; have := f2.one; simp only [List.all_cons, List.all_nil, *]; rfl, fun _ _ _ _ he ⟨v1, v2, h, f1, f2⟩ => ⟨v1, v2, h, f1.up he, f2.up he⟩⟩⟩
structure Tfence_Options where
  naive : Bool
  bare : Bool
  merged : Bool
def RT_Tfence_Options : RT Tfence_Options := ⟨3, fun V cs x => cs = [.bool x.naive, .bool x.bare, .bool x.merged], ⟨fun _ _ _ h => by rw [h]; rfl, fun _ _ _ h => by rw [h]; rfl, fun _ _ _ _ he h => h⟩⟩

noncomputable def fence_fence (p0 : Int) : Option TIns :=
  some (⟨21, (-1), (-1), (-1), p0, [], 0, false, false⟩ : TIns)
noncomputable def fence_frozen (p0 : TIns) (p1 : Tfence_Options) : Option (List TIns) :=
  if (decide (p0.imm = 1)) && p1.bare then
  some []
  else
  (fence_fence 2).bind fun x28 =>
  some [x28]
noncomputable def fence_ahead_k1 (x78 : Bool) : Option (List TIns) :=
  if x78 then
  (fence_fence 1).bind fun x85 =>
  some [x85]
  else
  some []
noncomputable def fence_ahead (p0 : TIns) (p1 : Tfence_Options) : Option (List TIns) :=
  if ((decide (p0.op = 9)) && p0.volatile) && (!p1.naive) then
  (fence_fence 1).bind fun x28 =>
  some [x28]
  else
  if ((decide (p0.op = 10)) && p0.volatile) && p1.naive then
  (fence_fence 2).bind fun x59 =>
  some [x59]
  else
  if (decide (p0.op = 10)) && p0.volatile then
  fence_ahead_k1 true
  else
  if decide (p0.op = 18) then
  fence_ahead_k1 true
  else
  fence_ahead_k1 (decide (p0.op = 19))
noncomputable def fence_acquire (p0 : Int) : Option TIns :=
  some (⟨21, (-1), p0, (-1), 3, [], 0, false, false⟩ : TIns)
noncomputable def fence_behind (p0 : TIns) (p1 : Tfence_Options) : Option (List TIns) :=
  if ((decide (p0.op = 9)) && p0.volatile) && p1.naive then
  (fence_fence 2).bind fun x27 =>
  some [x27]
  else
  if (decide (p0.op = 9)) && p0.volatile then
  (fence_acquire p0.d).bind fun x53 =>
  some [x53]
  else
  if ((decide (p0.op = 10)) && p0.volatile) && p1.naive then
  (fence_fence 1).bind fun x84 =>
  some [x84]
  else
  some []
noncomputable def fence_plain (p0 : TIns) : Option Bool :=
  some ((decide (p0.op = 21)) && ((decide (p0.imm = 1)) || (decide (p0.imm = 2))))
noncomputable def fence_merged_k1 (x8 : Int) (xs27 : List TIns) : Option (((List TIns) × Int) ⊕ (List TIns)) :=
  some (Sum.inl (xs27, w64 (x8 + 1)))
noncomputable def fence_merged_l1b (p0 : List TIns) (xs7 : List TIns) (x8 : Int) : Option (((List TIns) × Int) ⊕ (List TIns)) :=
  if decide (x8 < (p0.length : Int)) then
  (ix p0 x8).bind fun x32 =>
  (if decide (0 < (xs7.length : Int)) then
  (fence_plain x32).bind fun x158 =>
  some x158
  else
  some false).bind fun y56 =>
  (if y56 then
  (ix xs7 (w64 ((xs7.length : Int) - 1))).bind fun x128 =>
  (fence_plain x128).bind fun x144 =>
  some x144
  else
  some false).bind fun y64 =>
  if y64 then
  (ix xs7 (w64 ((xs7.length : Int) - 1))).bind fun x78 =>
  (ix xs7 (w64 ((xs7.length : Int) - 1))).bind fun x94 =>
  fence_merged_k1 x8 (xs7.set (Int.toNat (w64 ((xs7.length : Int) - 1))) (⟨x94.op, x94.d, x94.a, x94.b, min x78.imm x32.imm, x94.args, x94.what, x94.volatile, x94.final⟩ : TIns))
  else
  (ap xs7 [x32]).bind fun xs116 =>
  fence_merged_k1 x8 xs116
  else
  (some xs7).map Sum.inr
noncomputable def fence_merged_l1 (p0 : List TIns) (xs7 : List TIns) (x8 : Int) : Option (List TIns) := loopO (fun s => fence_merged_l1b p0 s.1 s.2) (xs7, x8)
noncomputable def fence_merged (p0 : List TIns) : Option (List TIns) :=
  fence_merged_l1 p0 [] 0
noncomputable def fence_Func_k1 (x23 : Int) (xs44 : List TIns) : Option (((List TIns) × Int) ⊕ TFunc) :=
  some (Sum.inl (xs44, w64 (x23 + 1)))
noncomputable def fence_Func_k2 (p0 : TFunc) (xs154 : List TIns) : Option TFunc :=
  some (⟨p0.name, p0.params, p0.regs, xs154⟩ : TFunc)
noncomputable def fence_Func_l1b (p0 : TFunc) (p1 : Tfence_Options) (xs22 : List TIns) (x23 : Int) : Option (((List TIns) × Int) ⊕ TFunc) :=
  if decide (x23 < (p0.code.length : Int)) then
  (ix p0.code x23).bind fun x49 =>
  if decide (x49.op = 22) then
  (fence_frozen x49 p1).bind fun x73 =>
  (ap xs22 x73).bind fun xs83 =>
  fence_Func_k1 x23 xs83
  else
  (fence_ahead x49 p1).bind fun x95 =>
  (ap xs22 x95).bind fun xs105 =>
  (ap xs105 [x49]).bind fun xs119 =>
  (fence_behind x49 p1).bind fun x128 =>
  (ap xs119 x128).bind fun xs138 =>
  fence_Func_k1 x23 xs138
  else
  (if p1.merged then
  (fence_merged xs22).bind fun x176 =>
  fence_Func_k2 p0 x176
  else
  fence_Func_k2 p0 xs22).map Sum.inr
noncomputable def fence_Func_l1 (p0 : TFunc) (p1 : Tfence_Options) (xs22 : List TIns) (x23 : Int) : Option TFunc := loopO (fun s => fence_Func_l1b p0 p1 s.1 s.2) (xs22, x23)
noncomputable def fence_Func (p0 : TFunc) (p1 : Tfence_Options) : Option TFunc :=
  fence_Func_l1 p0 p1 [] 0
noncomputable def law12_alive : Option Bool :=
  (fence_Func (⟨ByteArray.empty, 0, 1, [(⟨9, 0, (-1), (-1), 0, [], 0, true, false⟩ : TIns)]⟩ : TFunc) (⟨false, false, false⟩ : Tfence_Options)).bind fun x11 =>
  (if decide ((x11.code.length : Int) = 3) then
  (ix x11.code 0).bind fun x75 =>
  some (decide (x75.imm = 1))
  else
  some false).bind fun y29 =>
  (if y29 then
  (ix x11.code 2).bind fun x57 =>
  some (decide (x57.imm = 3))
  else
  some false).bind fun y41 =>
  some y41
noncomputable def law12_great_l1b (p0 : TModule) (x10 : Int) : Option (Int ⊕ Bool) :=
  if decide (x10 < (p0.funcs.length : Int)) then
  (ix p0.funcs x10).bind fun x23 =>
  if decide (60 < (x23.code.length : Int)) then
  (some true).map Sum.inr
  else
  some (Sum.inl (w64 (x10 + 1)))
  else
  (some ((decide (6 < (p0.funcs.length : Int))) || (decide (10 < (p0.threads.length : Int))))).map Sum.inr
noncomputable def law12_great_l1 (p0 : TModule) (x10 : Int) : Option Bool := loopO (fun s => law12_great_l1b p0 s) x10
noncomputable def law12_great (p0 : TModule) : Option Bool :=
  law12_great_l1 p0 0
noncomputable def slices_Clone (p0 : List Int) : Option (List Int) :=
  (ap [] p0).bind fun xs16 =>
  some xs16
noncomputable def fence_Module_l1b (p0 : TModule) (p1 : Tfence_Options) (x25 : List Int) (xs45 : List TFunc) (x46 : Int) : Option (((List TFunc) × Int) ⊕ TModule) :=
  if decide (x46 < (p0.funcs.length : Int)) then
  (ix p0.funcs x46).bind fun x67 =>
  (fence_Func x67 p1).bind fun x89 =>
  (ap xs45 [x89]).bind fun xs104 =>
  some (Sum.inl (xs104, w64 (x46 + 1)))
  else
  (some (⟨xs45, x25⟩ : TModule)).map Sum.inr
noncomputable def fence_Module_l1 (p0 : TModule) (p1 : Tfence_Options) (x25 : List Int) (xs45 : List TFunc) (x46 : Int) : Option TModule := loopO (fun s => fence_Module_l1b p0 p1 x25 s.1 s.2) (xs45, x46)
noncomputable def fence_Module (p0 : TModule) (p1 : Tfence_Options) : Option TModule :=
  (slices_Clone p0.threads).bind fun x25 =>
  fence_Module_l1 p0 p1 x25 [] 0
noncomputable def law12_bare_k1 (x18 : Int) (xs38 : List TIns) : Option (((List TIns) × Int) ⊕ TFunc) :=
  some (Sum.inl (xs38, w64 (x18 + 1)))
noncomputable def law12_bare_l1b (p0 : TFunc) (xs17 : List TIns) (x18 : Int) : Option (((List TIns) × Int) ⊕ TFunc) :=
  if decide (x18 < (p0.code.length : Int)) then
  (ix p0.code x18).bind fun x43 =>
  if (decide (x43.op ≠ 21)) && (decide (x43.op ≠ 22)) then
  (ap xs17 [x43]).bind fun xs78 =>
  law12_bare_k1 x18 xs78
  else
  law12_bare_k1 x18 xs17
  else
  (some (⟨p0.name, p0.params, p0.regs, xs17⟩ : TFunc)).map Sum.inr
noncomputable def law12_bare_l1 (p0 : TFunc) (xs17 : List TIns) (x18 : Int) : Option TFunc := loopO (fun s => law12_bare_l1b p0 s.1 s.2) (xs17, x18)
noncomputable def law12_bare (p0 : TFunc) : Option TFunc :=
  law12_bare_l1 p0 [] 0
noncomputable def ref11_Same_l2b (x47 : Int) (x61 : TIns) (x82 : TIns) (x177 : Int) : Option (Int ⊕ (Int ⊕ Bool)) :=
  if decide (x177 < (x61.args.length : Int)) then
  (ix x61.args x177).bind fun x193 =>
  (ix x82.args x177).bind fun x204 =>
  if decide (x193 ≠ x204) then
  ((some false).map Sum.inr).map Sum.inr
  else
  some (Sum.inl (w64 (x177 + 1)))
  else
  (some (Sum.inl (w64 (x47 + 1)))).map Sum.inr
noncomputable def ref11_Same_l2 (x47 : Int) (x61 : TIns) (x82 : TIns) (x177 : Int) : Option (Int ⊕ Bool) := loopO (fun s => ref11_Same_l2b x47 x61 x82 s) x177
noncomputable def ref11_Same_l1b (p0 : TFunc) (p1 : TFunc) (x47 : Int) : Option (Int ⊕ Bool) :=
  if decide (x47 < (p0.code.length : Int)) then
  (ix p0.code x47).bind fun x61 =>
  (ix p1.code x47).bind fun x82 =>
  if ((((((((decide (x61.op ≠ x82.op)) || (decide (x61.d ≠ x82.d))) || (decide (x61.a ≠ x82.a))) || (decide (x61.b ≠ x82.b))) || (decide (x61.imm ≠ x82.imm))) || (decide (x61.what ≠ x82.what))) || (!(x61.volatile == x82.volatile))) || (!(x61.final == x82.final))) || (decide ((x61.args.length : Int) ≠ (x82.args.length : Int))) then
  (some false).map Sum.inr
  else
  ref11_Same_l2 x47 x61 x82 0
  else
  (some true).map Sum.inr
noncomputable def ref11_Same_l1 (p0 : TFunc) (p1 : TFunc) (x47 : Int) : Option Bool := loopO (fun s => ref11_Same_l1b p0 p1 s) x47
noncomputable def ref11_Same (p0 : TFunc) (p1 : TFunc) : Option Bool :=
  if (((decide (p0.name ≠ p1.name)) || (decide (p0.params ≠ p1.params))) || (decide (p0.regs ≠ p1.regs))) || (decide ((p0.code.length : Int) ≠ (p1.code.length : Int))) then
  some false
  else
  ref11_Same_l1 p0 p1 0
noncomputable def ref08_has_k5 (x49 : Bool) : Option (Bool × Bool × Bool × Bool) :=
  if x49 then
  some (false, true, false, false)
  else
  some (false, false, false, false)
noncomputable def ref08_has_k4 (p0 : Int) (x32 : Bool) : Option (Bool × Bool × Bool × Bool) :=
  if x32 then
  some (false, false, false, true)
  else
  if decide (p0 = 13) then
  some (false, true, false, true)
  else
  if decide (p0 = 17) then
  some (true, true, false, true)
  else
  if decide (p0 = 15) then
  ref08_has_k5 true
  else
  if decide (p0 = 18) then
  ref08_has_k5 true
  else
  if decide (p0 = 19) then
  ref08_has_k5 true
  else
  ref08_has_k5 (decide (p0 = 20))
noncomputable def ref08_has_k3 (p0 : Int) (x19 : Bool) : Option (Bool × Bool × Bool × Bool) :=
  if x19 then
  some (true, true, true, false)
  else
  if decide (p0 = 10) then
  some (false, true, true, false)
  else
  if decide (p0 = 11) then
  ref08_has_k4 p0 true
  else
  ref08_has_k4 p0 (decide (p0 = 12))
noncomputable def ref08_has_k2 (p0 : Int) (x10 : Bool) : Option (Bool × Bool × Bool × Bool) :=
  if x10 then
  some (true, true, false, false)
  else
  if decide (p0 = 3) then
  ref08_has_k3 p0 true
  else
  if decide (p0 = 4) then
  ref08_has_k3 p0 true
  else
  if decide (p0 = 5) then
  ref08_has_k3 p0 true
  else
  if decide (p0 = 6) then
  ref08_has_k3 p0 true
  else
  if decide (p0 = 7) then
  ref08_has_k3 p0 true
  else
  ref08_has_k3 p0 (decide (p0 = 8))
noncomputable def ref08_has_k1 (p0 : Int) (x1 : Bool) : Option (Bool × Bool × Bool × Bool) :=
  if x1 then
  some (true, false, false, false)
  else
  if decide (p0 = 2) then
  ref08_has_k2 p0 true
  else
  ref08_has_k2 p0 (decide (p0 = 9))
noncomputable def ref08_has (p0 : Int) : Option (Bool × Bool × Bool × Bool) :=
  if decide (p0 = 1) then
  ref08_has_k1 p0 true
  else
  ref08_has_k1 p0 (decide (p0 = 14))
noncomputable def ref08_register (p0 : Bool) (p1 : Bool) (p2 : Int) (p3 : Int) : Option Bool :=
  if !p0 then
  some (decide (p2 = (-1)))
  else
  some (((decide (0 ≤ p2)) && (decide (p2 < p3))) || (p1 && (decide (p2 = (-1)))))
noncomputable def ref08_count_k1 (x9 : Int) (x23 : Int) : Option ((Int × Int) ⊕ Int) :=
  some (Sum.inl (x23, w64 (x9 + 1)))
noncomputable def ref08_count_l1b (p0 : TFunc) (p1 : Int) (x8 : Int) (x9 : Int) : Option ((Int × Int) ⊕ Int) :=
  if decide (x9 < (p0.code.length : Int)) then
  (ix p0.code x9).bind fun x28 =>
  if (decide (x28.op = 11)) && (decide (x28.imm = p1)) then
  ref08_count_k1 x9 (w64 (x8 + 1))
  else
  ref08_count_k1 x9 x8
  else
  (some x8).map Sum.inr
noncomputable def ref08_count_l1 (p0 : TFunc) (p1 : Int) (x8 : Int) (x9 : Int) : Option Int := loopO (fun s => ref08_count_l1b p0 p1 s.1 s.2) (x8, x9)
noncomputable def ref08_count (p0 : TFunc) (p1 : Int) : Option Int :=
  ref08_count_l1 p0 p1 0 0
noncomputable def ref08_ins_k2 (p0 : TFunc) (p1 : TIns) (x27 : Bool × Bool × Bool × Bool) (x166 : Bool) : Option Bool :=
  if x166 then
  some true
  else
  if decide (p1.op = 16) then
  some (decide (0 < p1.imm))
  else
  if decide (p1.op = 22) then
  some ((decide (p1.imm = 0)) || (decide (p1.imm = 1)))
  else
  if x27.2.2.2 then
  (ref08_count p0 p1.imm).bind fun x199 =>
  some (decide (0 < x199))
  else
  some (decide (p1.imm = 0))
noncomputable def ref08_ins_l1b (p0 : TFunc) (p1 : TIns) (x27 : Bool × Bool × Bool × Bool) (x93 : Int) : Option (Int ⊕ Bool) :=
  if decide (x93 < (p1.args.length : Int)) then
  (ix p1.args x93).bind fun x106 =>
  if ((decide (p1.op ≠ 14)) || (decide (x106 < 0))) || (decide (p0.regs ≤ x106)) then
  (some false).map Sum.inr
  else
  some (Sum.inl (w64 (x93 + 1)))
  else
  (if ((decide (p1.op ≠ 9)) && (decide (p1.op ≠ 10))) && (((decide (p1.what ≠ 0)) || p1.volatile) || p1.final) then
  some false
  else
  if decide (p1.op = 1) then
  ref08_ins_k2 p0 p1 x27 true
  else
  if decide (p1.op = 9) then
  ref08_ins_k2 p0 p1 x27 true
  else
  if decide (p1.op = 10) then
  ref08_ins_k2 p0 p1 x27 true
  else
  if decide (p1.op = 14) then
  ref08_ins_k2 p0 p1 x27 true
  else
  ref08_ins_k2 p0 p1 x27 (decide (p1.op = 21))).map Sum.inr
noncomputable def ref08_ins_l1 (p0 : TFunc) (p1 : TIns) (x27 : Bool × Bool × Bool × Bool) (x93 : Int) : Option Bool := loopO (fun s => ref08_ins_l1b p0 p1 x27 s) x93
noncomputable def ref08_ins_k1 (p0 : TFunc) (p1 : TIns) (x27 : Bool × Bool × Bool × Bool) (x35 : Bool) : Option Bool :=
  (ref08_register x27.1 (decide (p1.op = 14)) p1.d p0.regs).bind fun x40 =>
  (if !x40 then
  some true
  else
  (ref08_register x35 (((decide (p1.op = 9)) || (decide (p1.op = 10))) || (decide (p1.op = 15))) p1.a p0.regs).bind fun x271 =>
  some (!x271)).bind fun y48 =>
  (if y48 then
  some true
  else
  (ref08_register x27.2.2.1 false p1.b p0.regs).bind fun x244 =>
  some (!x244)).bind fun y74 =>
  if y74 then
  some false
  else
  ref08_ins_l1 p0 p1 x27 0
noncomputable def ref08_ins (p0 : TFunc) (p1 : TIns) : Option Bool :=
  if (decide (p1.op < 1)) || (decide (22 < p1.op)) then
  some false
  else
  (ref08_has p1.op).bind fun x27 =>
  if decide (p1.op = 21) then
  if (decide (p1.imm < 1)) || (decide (3 < p1.imm)) then
  some false
  else
  ref08_ins_k1 p0 p1 x27 (decide (p1.imm = 3))
  else
  ref08_ins_k1 p0 p1 x27 x27.2.1
noncomputable def ref08_Good_l1b (p0 : TFunc) (x55 : Int) : Option (Int ⊕ Bool) :=
  if decide (x55 < (p0.code.length : Int)) then
  (ix p0.code x55).bind fun x68 =>
  (ref08_ins p0 x68).bind fun x91 =>
  (if !x91 then
  some true
  else
  (if decide (x68.op = 11) then
  (ref08_count p0 x68.imm).bind fun x144 =>
  some (decide (x144 ≠ 1))
  else
  some false).bind fun y129 =>
  some y129).bind fun y99 =>
  if y99 then
  (some false).map Sum.inr
  else
  some (Sum.inl (w64 (x55 + 1)))
  else
  (some true).map Sum.inr
noncomputable def ref08_Good_l1 (p0 : TFunc) (x55 : Int) : Option Bool := loopO (fun s => ref08_Good_l1b p0 s) x55
noncomputable def ref08_Good (p0 : TFunc) : Option Bool :=
  if ((decide ((p0.code.length : Int) = 0)) || (decide (p0.params < 0))) || (decide (p0.regs < p0.params)) then
  some false
  else
  (ix p0.code (w64 ((p0.code.length : Int) - 1))).bind fun x27 =>
  if ((decide (x27.op ≠ 12)) && (decide (x27.op ≠ 15))) && (decide (x27.op ≠ 16)) then
  some false
  else
  ref08_Good_l1 p0 0
noncomputable def law12_FenceStays_k1 (x69 : Int) (x105 : Bool) : Option (Int ⊕ Bool) :=
  if x105 then
  (some false).map Sum.inr
  else
  some (Sum.inl (w64 (x69 + 1)))
noncomputable def law12_FenceStays_l1b (p0 : TModule) (x49 : TModule) (x69 : Int) : Option (Int ⊕ Bool) :=
  if decide (x69 < (p0.funcs.length : Int)) then
  (ix p0.funcs x69).bind fun x84 =>
  (law12_bare x84).bind fun x117 =>
  (ix x49.funcs x69).bind fun x127 =>
  (law12_bare x127).bind fun x141 =>
  (ref11_Same x117 x141).bind fun x152 =>
  if !x152 then
  law12_FenceStays_k1 x69 true
  else
  (ref08_Good x84).bind fun x167 =>
  if x167 then
  (ix x49.funcs x69).bind fun x177 =>
  (ref08_Good x177).bind fun x191 =>
  law12_FenceStays_k1 x69 (!x191)
  else
  law12_FenceStays_k1 x69 false
  else
  (some true).map Sum.inr
noncomputable def law12_FenceStays_l1 (p0 : TModule) (x49 : TModule) (x69 : Int) : Option Bool := loopO (fun s => law12_FenceStays_l1b p0 x49 s) x69
noncomputable def law12_FenceStays (p0 : TModule) (p1 : Tfence_Options) : Option Bool :=
  (law12_alive).bind fun x15 =>
  if !x15 then
  some false
  else
  (law12_great p0).bind fun x33 =>
  if x33 then
  some true
  else
  (fence_Module p0 p1).bind fun x49 =>
  law12_FenceStays_l1 p0 x49 0
noncomputable def ref12_one (p0 : Int) (p1 : Int) : Option TIns :=
  some (⟨21, (-1), p1, (-1), p0, [], 0, false, false⟩ : TIns)
noncomputable def ref12_Of (p0 : TIns) (p1 : Bool) (p2 : Bool) : Option (List TIns) :=
  if decide (p0.op = 22) then
  if (decide (p0.imm = 1)) && p2 then
  some []
  else
  (ref12_one 2 (-1)).bind fun x23 =>
  some [x23]
  else
  if (decide (p0.op = 9)) && p0.volatile then
  if p1 then
  (ref12_one 2 (-1)).bind fun x51 =>
  some [p0, x51]
  else
  (ref12_one 1 (-1)).bind fun x70 =>
  (ref12_one 3 p0.d).bind fun x80 =>
  some [x70, p0, x80]
  else
  if ((decide (p0.op = 10)) && p0.volatile) && p1 then
  (ref12_one 2 (-1)).bind fun x111 =>
  (ref12_one 1 (-1)).bind fun x121 =>
  some [x111, p0, x121]
  else
  if (((decide (p0.op = 10)) && p0.volatile) || (decide (p0.op = 18))) || (decide (p0.op = 19)) then
  (ref12_one 1 (-1)).bind fun x160 =>
  some [x160, p0]
  else
  some [p0]
noncomputable def ref12_weak (p0 : TIns) : Option Bool :=
  some ((decide (p0.op = 21)) && ((decide (p0.imm = 1)) || (decide (p0.imm = 2))))
noncomputable def ref12_Code_k1 (x123 : Int) (x167 : Int) : Option ((Int × Int) ⊕ (((List TIns) × Int) ⊕ (List TIns))) :=
  some (Sum.inl (w64 (x123 + 1), x167))
noncomputable def ref12_Code_l3b (xs12 : List TIns) (xs81 : List TIns) (x99 : TIns) (x123 : Int) (x124 : Int) : Option ((Int × Int) ⊕ (((List TIns) × Int) ⊕ (List TIns))) :=
  (ref12_weak (⟨x99.op, x99.d, x99.a, x99.b, x124, x99.args, x99.what, x99.volatile, x99.final⟩ : TIns)).bind fun x139 =>
  (if x139 && (decide (x123 < (xs12.length : Int))) then
  (ix xs12 x123).bind fun x220 =>
  (ref12_weak x220).bind fun x231 =>
  some x231
  else
  some false).bind fun y154 =>
  if y154 then
  (ix xs12 x123).bind fun x172 =>
  if decide (x172.imm < x124) then
  (ix xs12 x123).bind fun x185 =>
  ref12_Code_k1 x123 x185.imm
  else
  ref12_Code_k1 x123 x124
  else
  ((ap xs81 [(⟨x99.op, x99.d, x99.a, x99.b, x124, x99.args, x99.what, x99.volatile, x99.final⟩ : TIns)]).bind fun xs208 =>
  some (Sum.inl (xs208, x123))).map Sum.inr
noncomputable def ref12_Code_l3 (xs12 : List TIns) (xs81 : List TIns) (x99 : TIns) (x123 : Int) (x124 : Int) : Option (((List TIns) × Int) ⊕ (List TIns)) := loopO (fun s => ref12_Code_l3b xs12 xs81 x99 s.1 s.2) (x123, x124)
noncomputable def ref12_Code_l2b (xs12 : List TIns) (xs81 : List TIns) (x82 : Int) : Option (((List TIns) × Int) ⊕ (List TIns)) :=
  if decide (x82 < (xs12.length : Int)) then
  (ix xs12 x82).bind fun x99 =>
  ref12_Code_l3 xs12 xs81 x99 (w64 (x82 + 1)) x99.imm
  else
  (some xs81).map Sum.inr
noncomputable def ref12_Code_l2 (xs12 : List TIns) (xs81 : List TIns) (x82 : Int) : Option (List TIns) := loopO (fun s => ref12_Code_l2b xs12 s.1 s.2) (xs81, x82)
noncomputable def ref12_Code_l1b (p0 : TFunc) (p1 : Bool) (p2 : Bool) (p3 : Bool) (xs12 : List TIns) (x13 : Int) : Option (((List TIns) × Int) ⊕ (List TIns)) :=
  if decide (x13 < (p0.code.length : Int)) then
  (ix p0.code x13).bind fun x29 =>
  (ref12_Of x29 p1 p2).bind fun x51 =>
  (ap xs12 x51).bind fun xs61 =>
  some (Sum.inl (xs61, w64 (x13 + 1)))
  else
  (if !p3 then
  some xs12
  else
  ref12_Code_l2 xs12 [] 0).map Sum.inr
noncomputable def ref12_Code_l1 (p0 : TFunc) (p1 : Bool) (p2 : Bool) (p3 : Bool) (xs12 : List TIns) (x13 : Int) : Option (List TIns) := loopO (fun s => ref12_Code_l1b p0 p1 p2 p3 s.1 s.2) (xs12, x13)
noncomputable def ref12_Code (p0 : TFunc) (p1 : Bool) (p2 : Bool) (p3 : Bool) : Option (List TIns) :=
  ref12_Code_l1 p0 p1 p2 p3 [] 0
noncomputable def fence_Count_k1 (x47 : Int) (x61 : Int) : Option ((Int × Int) ⊕ ((Int × Int) ⊕ Int)) :=
  some (Sum.inl (x61, w64 (x47 + 1)))
noncomputable def fence_Count_l2b (p1 : Int) (x11 : Int) (x25 : TFunc) (x46 : Int) (x47 : Int) : Option ((Int × Int) ⊕ ((Int × Int) ⊕ Int)) :=
  if decide (x47 < (x25.code.length : Int)) then
  (ix x25.code x47).bind fun x66 =>
  if (decide (x66.op = 21)) && (decide (x66.imm = p1)) then
  fence_Count_k1 x47 (w64 (x46 + 1))
  else
  fence_Count_k1 x47 x46
  else
  (some (Sum.inl (x46, w64 (x11 + 1)))).map Sum.inr
noncomputable def fence_Count_l2 (p1 : Int) (x11 : Int) (x25 : TFunc) (x46 : Int) (x47 : Int) : Option ((Int × Int) ⊕ Int) := loopO (fun s => fence_Count_l2b p1 x11 x25 s.1 s.2) (x46, x47)
noncomputable def fence_Count_l1b (p0 : TModule) (p1 : Int) (x10 : Int) (x11 : Int) : Option ((Int × Int) ⊕ Int) :=
  if decide (x11 < (p0.funcs.length : Int)) then
  (ix p0.funcs x11).bind fun x25 =>
  fence_Count_l2 p1 x11 x25 x10 0
  else
  (some x10).map Sum.inr
noncomputable def fence_Count_l1 (p0 : TModule) (p1 : Int) (x10 : Int) (x11 : Int) : Option Int := loopO (fun s => fence_Count_l1b p0 p1 s.1 s.2) (x10, x11)
noncomputable def fence_Count (p0 : TModule) (p1 : Int) : Option Int :=
  fence_Count_l1 p0 p1 0 0
noncomputable def law12_FenceIs_k2 (x172 : Int) (xs186 : List Int) : Option (((List Int) × Int) ⊕ (((List Int) × Int) ⊕ Bool)) :=
  some (Sum.inl (xs186, w64 (x172 + 1)))
noncomputable def law12_FenceIs_l2b (x94 : Int) (xs154 : List TIns) (xs171 : List Int) (x172 : Int) : Option (((List Int) × Int) ⊕ (((List Int) × Int) ⊕ Bool)) :=
  if decide (x172 < (xs154.length : Int)) then
  (ix xs154 x172).bind fun x191 =>
  if ((decide (x191.op = 21)) && (decide (0 ≤ x191.imm))) && (decide (x191.imm < 4)) then
  (ix xs171 x191.imm).bind fun x226 =>
  (ix xs171 x191.imm).bind fun x234 =>
  law12_FenceIs_k2 x172 (xs171.set (Int.toNat x191.imm) (w64 (x226 + 1)))
  else
  law12_FenceIs_k2 x172 xs171
  else
  (some (Sum.inl (xs171, w64 (x94 + 1)))).map Sum.inr
noncomputable def law12_FenceIs_l2 (x94 : Int) (xs154 : List TIns) (xs171 : List Int) (x172 : Int) : Option (((List Int) × Int) ⊕ Bool) := loopO (fun s => law12_FenceIs_l2b x94 xs154 s.1 s.2) (xs171, x172)
noncomputable def law12_FenceIs_k1 (xs93 : List Int) (x94 : Int) (xs154 : List TIns) (x157 : Bool) : Option (((List Int) × Int) ⊕ Bool) :=
  if x157 then
  (some false).map Sum.inr
  else
  law12_FenceIs_l2 x94 xs154 xs93 0
noncomputable def law12_FenceIs_l3b (x49 : TModule) (xs93 : List Int) (x324 : Int) : Option (Int ⊕ Bool) :=
  if decide (x324 < 4) then
  (ix xs93 x324).bind fun x339 =>
  (fence_Count x49 x324).bind fun x347 =>
  if decide (x347 ≠ x339) then
  (some false).map Sum.inr
  else
  some (Sum.inl (w64 (x324 + 1)))
  else
  (some true).map Sum.inr
noncomputable def law12_FenceIs_l3 (x49 : TModule) (xs93 : List Int) (x324 : Int) : Option Bool := loopO (fun s => law12_FenceIs_l3b x49 xs93 s) x324
noncomputable def law12_FenceIs_l1b (p0 : TModule) (p1 : Tfence_Options) (x49 : TModule) (xs93 : List Int) (x94 : Int) : Option (((List Int) × Int) ⊕ Bool) :=
  if decide (x94 < (p0.funcs.length : Int)) then
  (ix p0.funcs x94).bind fun x111 =>
  (ref12_Code x111 p1.naive p1.bare p1.merged).bind fun x141 =>
  (ix x49.funcs x94).bind fun x252 =>
  (ref11_Same x252 (⟨x111.name, x111.params, x111.regs, x141⟩ : TFunc)).bind fun x272 =>
  if !x272 then
  law12_FenceIs_k1 xs93 x94 x141 true
  else
  (fence_Func x111 p1).bind fun x292 =>
  (ref11_Same x292 (⟨x111.name, x111.params, x111.regs, x141⟩ : TFunc)).bind fun x303 =>
  law12_FenceIs_k1 xs93 x94 x141 (!x303)
  else
  (law12_FenceIs_l3 x49 xs93 0).map Sum.inr
noncomputable def law12_FenceIs_l1 (p0 : TModule) (p1 : Tfence_Options) (x49 : TModule) (xs93 : List Int) (x94 : Int) : Option Bool := loopO (fun s => law12_FenceIs_l1b p0 p1 x49 s.1 s.2) (xs93, x94)
noncomputable def law12_FenceIs (p0 : TModule) (p1 : Tfence_Options) : Option Bool :=
  (law12_alive).bind fun x15 =>
  if !x15 then
  some false
  else
  (law12_great p0).bind fun x33 =>
  if x33 then
  some true
  else
  (fence_Module p0 p1).bind fun x49 =>
  if (decide ((x49.funcs.length : Int) ≠ (p0.funcs.length : Int))) || (decide ((x49.threads.length : Int) ≠ (p0.threads.length : Int))) then
  some false
  else
  law12_FenceIs_l1 p0 p1 x49 (List.replicate 4 0) 0
noncomputable def law12_FenceMerges_l2b (x107 : Int) (x121 : TFunc) (x142 : Int) : Option (Int ⊕ (Int ⊕ Bool)) :=
  if decide (x142 < (x121.code.length : Int)) then
  (ix x121.code (w64 (x142 - 1))).bind fun x155 =>
  (ix x121.code x142).bind fun x168 =>
  if (((decide (x155.op = 21)) && (decide (x168.op = 21))) && ((decide (x155.imm = 1)) || (decide (x155.imm = 2)))) && ((decide (x168.imm = 1)) || (decide (x168.imm = 2))) then
  ((some false).map Sum.inr).map Sum.inr
  else
  some (Sum.inl (w64 (x142 + 1)))
  else
  (some (Sum.inl (w64 (x107 + 1)))).map Sum.inr
noncomputable def law12_FenceMerges_l2 (x107 : Int) (x121 : TFunc) (x142 : Int) : Option (Int ⊕ Bool) := loopO (fun s => law12_FenceMerges_l2b x107 x121 s) x142
noncomputable def law12_FenceMerges_l1b (x77 : TModule) (x107 : Int) : Option (Int ⊕ Bool) :=
  if decide (x107 < (x77.funcs.length : Int)) then
  (ix x77.funcs x107).bind fun x121 =>
  law12_FenceMerges_l2 x107 x121 1
  else
  (some true).map Sum.inr
noncomputable def law12_FenceMerges_l1 (x77 : TModule) (x107 : Int) : Option Bool := loopO (fun s => law12_FenceMerges_l1b x77 s) x107
noncomputable def law12_FenceMerges_k1 (x77 : TModule) (x97 : Bool) : Option Bool :=
  if x97 then
  some false
  else
  law12_FenceMerges_l1 x77 0
noncomputable def law12_FenceMerges (p0 : TModule) (p1 : Tfence_Options) : Option Bool :=
  (law12_alive).bind fun x15 =>
  if !x15 then
  some false
  else
  (law12_great p0).bind fun x33 =>
  if x33 then
  some true
  else
  (fence_Module p0 (⟨p1.naive, p1.bare, false⟩ : Tfence_Options)).bind fun x52 =>
  (fence_Module p0 (⟨p1.naive, p1.bare, true⟩ : Tfence_Options)).bind fun x77 =>
  (fence_Count x77 1).bind fun x261 =>
  (fence_Count x77 2).bind fun x271 =>
  (fence_Count x52 1).bind fun x281 =>
  (fence_Count x52 2).bind fun x291 =>
  if decide ((w64 (x281 + x291)) < (w64 (x261 + x271))) then
  law12_FenceMerges_k1 x77 true
  else
  (fence_Count x52 3).bind fun x307 =>
  (fence_Count x77 3).bind fun x317 =>
  law12_FenceMerges_k1 x77 (decide (x307 ≠ x317))
end Go.Vm.G12
