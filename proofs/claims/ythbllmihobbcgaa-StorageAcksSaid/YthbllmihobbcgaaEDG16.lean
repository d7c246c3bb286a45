/-
  What functions compute, as plain functions.
-/
import Derived.Test.YthbllmihobbcgaaESp9
set_option linter.unusedSimpArgs false
set_option linter.unusedVariables false
namespace Go.Vm.G16
open Go

structure Tlaw16_Call where
  kind : Int
  t : Int
  n : Int
  at_ : Int
  val : Int
def RT_Tlaw16_Call : RT Tlaw16_Call := ⟨5, fun V cs x => cs = [.int .i64 x.kind, .int .i64 x.t, .int .i64 x.n, .int .i64 x.at_, .int .i64 x.val], ⟨fun _ _ _ h => by rw [h]; rfl, fun _ _ _ h => by rw [h]; rfl, fun _ _ _ _ he h => h⟩⟩
structure Tref16_Event where
  thread : Int
  bar : Bool
  at_ : Int
  val : Int
def RT_Tref16_Event : RT Tref16_Event := ⟨4, fun V cs x => cs = [.int .i64 x.thread, .bool x.bar, .int .i64 x.at_, .int .i64 x.val], ⟨fun _ _ _ h => by rw [h]; rfl, fun _ _ _ h => by rw [h]; rfl, fun _ _ _ _ he h => h⟩⟩
structure Tstorage_Storage where
  events : List Tref16_Event
  seen : List (List Int)
  has : List (List (Int × Bool))
  now : List (List (Int × Int))
  last : List (Int × Int)
structure Tref16_Storage where
  n : Int
  e : List Tref16_Event
  come : List (List Int)
def RT_Tref16_Storage : RT Tref16_Storage := ⟨3, fun V cs x => ∃ v1 v2 : Value, cs = [.int .i64 x.n, v1, v2] ∧ Fz RT_Tref16_Event V v1 x.e ∧ Fz (RT.sl (RT.int .i64)) V v2 x.come, ⟨fun _ _ _ ⟨v1, v2, h, f1, f2⟩ => by rw [h]; rfl, fun _ _ _ ⟨v1, v2, h, f1, f2⟩ => by rw [h]; have := f1.one; have := f2.one; simp only [List.all_cons, List.all_nil, *]; rfl, fun _ _ _ _ he ⟨v1, v2, h, f1, f2⟩ => ⟨v1, v2, h, f1.up he, f2.up he⟩⟩⟩

noncomputable def storage_New_l1b (p0 : Int) (xs30 : List (List Int)) (xs34 : List (List (Int × Bool))) (xs38 : List (List (Int × Int))) (x39 : Int) : Option (((List (List Int)) × (List (List (Int × Bool))) × (List (List (Int × Int))) × Int) ⊕ Tstorage_Storage) :=
  if decide (x39 < (min (max p0 0) 8)) then
  (ap xs30 ([[]])).bind fun xs71 =>
  (ap xs34 ([[]])).bind fun xs90 =>
  (ap xs38 ([[]])).bind fun xs109 =>
  some (Sum.inl (xs71, xs90, xs109, w64 (x39 + 1)))
  else
  (some (⟨[], xs30, xs34, xs38, []⟩ : Tstorage_Storage)).map Sum.inr
noncomputable def storage_New_l1 (p0 : Int) (xs30 : List (List Int)) (xs34 : List (List (Int × Bool))) (xs38 : List (List (Int × Int))) (x39 : Int) : Option Tstorage_Storage := loopO (fun s => storage_New_l1b p0 s.1 s.2.1 s.2.2.1 s.2.2.2) (xs30, xs34, xs38, x39)
noncomputable def storage_New (p0 : Int) : Option Tstorage_Storage :=
  storage_New_l1 p0 [] [] [] 0
noncomputable def storage_Storage_thread (p0 : Tstorage_Storage) (p1 : Int) : Option Bool :=
  some ((decide (0 ≤ p1)) && (decide (p1 < (p0.seen.length : Int))))
noncomputable def storage_Storage_come (p0 : Tstorage_Storage) (p1 : Int) (p2 : Int) : Option Tstorage_Storage :=
  (ix p0.seen p1).bind fun x30 =>
  (ap x30 [p2]).bind fun xs48 =>
  (ix p0.seen p1).bind fun x56 =>
  (ix p0.has p1).bind fun x63 =>
  (ix p0.events (w64 (p2 - 1))).bind fun x79 =>
  if !x79.bar then
  (ix p0.now p1).bind fun x104 =>
  some (⟨p0.events, p0.seen.set (Int.toNat p1) xs48, p0.has.set (Int.toNat p1) (mS x63 p2 true), p0.now.set (Int.toNat p1) (mS x104 x79.at_ p2), p0.last⟩ : Tstorage_Storage)
  else
  some (⟨p0.events, p0.seen.set (Int.toNat p1) xs48, p0.has.set (Int.toNat p1) (mS x63 p2 true), p0.now, p0.last⟩ : Tstorage_Storage)
noncomputable def storage_Storage_accept_k1 (p0 : Tstorage_Storage) (p1 : Tref16_Event) (xs40 : List Tref16_Event) (xs51 : List (Int × Int)) : Option (Int × Tstorage_Storage) :=
  (storage_Storage_come (⟨xs40, p0.seen, p0.has, p0.now, xs51⟩ : Tstorage_Storage) p1.thread (xs40.length : Int)).bind fun x62 =>
  some ((xs40.length : Int), x62)
noncomputable def storage_Storage_accept (p0 : Tstorage_Storage) (p1 : Tref16_Event) : Option (Int × Tstorage_Storage) :=
  (ap p0.events [p1]).bind fun xs40 =>
  if !p1.bar then
  storage_Storage_accept_k1 p0 p1 xs40 (mS p0.last p1.at_ (xs40.length : Int))
  else
  storage_Storage_accept_k1 p0 p1 xs40 p0.last
noncomputable def storage_Storage_Write (p0 : Tstorage_Storage) (p1 : Int) (p2 : Int) (p3 : Int) : Option (Int × Tstorage_Storage) :=
  (storage_Storage_thread p0 p1).bind fun x36 =>
  if !x36 then
  some (0, p0)
  else
  (storage_Storage_accept p0 (⟨p1, false, p2, p3⟩ : Tref16_Event)).bind fun x56 =>
  some (x56.1, x56.2)
noncomputable def storage_Storage_Read (p0 : Tstorage_Storage) (p1 : Int) (p2 : Int) : Option (Int × Int) :=
  (storage_Storage_thread p0 p1).bind fun x23 =>
  if !x23 then
  some (0, 0)
  else
  (ix p0.now p1).bind fun x37 =>
  if decide (((mG x37 p2).getD 0) = 0) then
  some (0, 0)
  else
  (ix p0.events (w64 (((mG x37 p2).getD 0) - 1))).bind fun x60 =>
  some (x60.val, (mG x37 p2).getD 0)
noncomputable def storage_Storage_Seen (p0 : Tstorage_Storage) (p1 : Int) (p2 : Int) : Option Bool :=
  (storage_Storage_thread p0 p1).bind fun x23 =>
  (if x23 then
  (ix p0.has p1).bind fun x49 =>
  some ((mG x49 p2).getD false)
  else
  some false).bind fun y31 =>
  some y31
noncomputable def storage_Storage_passed (p0 : Tstorage_Storage) (p1 : Int) (p2 : Int) : Option Bool :=
  (ix p0.events (w64 (p2 - 1))).bind fun x17 =>
  (storage_Storage_Read p0 p1 x17.at_).bind fun x37 =>
  some (decide (p2 ≤ x37.2))
noncomputable def slices_Index_l1b (p0 : List Int) (p1 : Int) (x3 : Int) : Option (Int ⊕ Int) :=
  if decide (x3 < (p0.length : Int)) then
  (ix p0 x3).bind fun x16 =>
  if decide (p1 = x16) then
  (some x3).map Sum.inr
  else
  some (Sum.inl (w64 (x3 + 1)))
  else
  (some (-1)).map Sum.inr
noncomputable def slices_Index_l1 (p0 : List Int) (p1 : Int) (x3 : Int) : Option Int := loopO (fun s => slices_Index_l1b p0 p1 s) x3
noncomputable def slices_Index (p0 : List Int) (p1 : Int) : Option Int :=
  slices_Index_l1 p0 p1 0
noncomputable def storage_Storage_ahead (p0 : Tstorage_Storage) (p1 : Int) : Option (List Int) :=
  (ix p0.events (w64 (p1 - 1))).bind fun x19 =>
  (ix p0.seen x19.thread).bind fun x33 =>
  (slices_Index x33 p1).bind fun x46 =>
  (cutL x33 0 x46).bind fun xs54 =>
  some xs54
noncomputable def storage_Storage_May_l1b (p0 : Tstorage_Storage) (p1 : Int) (x60 : Tref16_Event) (x103 : List Int) (x113 : Int) : Option (Int ⊕ Bool) :=
  if decide (x113 < (x103.length : Int)) then
  (ix x103 x113).bind fun x126 =>
  (ix p0.events (w64 (x126 - 1))).bind fun x149 =>
  (if x149.bar then
  (storage_Storage_Seen p0 p1 x126).bind fun x265 =>
  some (!x265)
  else
  some false).bind fun y167 =>
  (if y167 then
  some true
  else
  (if (!x149.bar) && x60.bar then
  (storage_Storage_passed p0 p1 x126).bind fun x235 =>
  some (!x235)
  else
  some false).bind fun y215 =>
  some y215).bind fun y178 =>
  if y178 then
  (some false).map Sum.inr
  else
  some (Sum.inl (w64 (x113 + 1)))
  else
  (some true).map Sum.inr
noncomputable def storage_Storage_May_l1 (p0 : Tstorage_Storage) (p1 : Int) (x60 : Tref16_Event) (x103 : List Int) (x113 : Int) : Option Bool := loopO (fun s => storage_Storage_May_l1b p0 p1 x60 x103 s) x113
noncomputable def storage_Storage_May (p0 : Tstorage_Storage) (p1 : Int) (p2 : Int) : Option Bool :=
  (storage_Storage_thread p0 p1).bind fun x23 =>
  (if ((!x23) || (decide (p2 < 1))) || (decide ((p0.events.length : Int) < p2)) then
  some true
  else
  (storage_Storage_Seen p0 p1 p2).bind fun x326 =>
  some x326).bind fun y46 =>
  if y46 then
  some false
  else
  (ix p0.events (w64 (p2 - 1))).bind fun x60 =>
  (if !x60.bar then
  (storage_Storage_passed p0 p1 p2).bind fun x297 =>
  some x297
  else
  some false).bind fun y82 =>
  if y82 then
  some false
  else
  (storage_Storage_ahead p0 p2).bind fun x103 =>
  storage_Storage_May_l1 p0 p1 x60 x103 0
noncomputable def law16_alive : Option Bool :=
  (storage_New 2).bind fun x1 =>
  (storage_Storage_Write x1 0 8 1).bind fun x31 =>
  (storage_Storage_Write x31.2 1 8 2).bind fun x58 =>
  (storage_Storage_Read x58.2 0 8).bind fun x85 =>
  (if (((decide (x31.1 = 1)) && (decide (x58.1 = 2))) && (decide (x85.1 = 1))) && (decide (x85.2 = 1)) then
  (storage_Storage_May x58.2 1 1).bind fun x159 =>
  some (!x159)
  else
  some false).bind fun y108 =>
  (if y108 then
  (storage_Storage_May x58.2 0 2).bind fun x140 =>
  some x140
  else
  some false).bind fun y117 =>
  some y117
noncomputable def storage_Storage_Threads (p0 : Tstorage_Storage) : Option Int :=
  some (p0.seen.length : Int)
noncomputable def storage_Storage_Barrier (p0 : Tstorage_Storage) (p1 : Int) : Option (Int × Tstorage_Storage) :=
  (storage_Storage_thread p0 p1).bind fun x36 =>
  if !x36 then
  some (0, p0)
  else
  (storage_Storage_accept p0 (⟨p1, true, 0, 0⟩ : Tref16_Event)).bind fun x56 =>
  some (x56.1, x56.2)
noncomputable def storage_Storage_Go (p0 : Tstorage_Storage) (p1 : Int) (p2 : Int) : Option (Int × Tstorage_Storage) :=
  (storage_Storage_May p0 p1 p2).bind fun x36 =>
  if !x36 then
  some (1, p0)
  else
  (storage_Storage_come p0 p1 p2).bind fun x56 =>
  some (0, x56)
noncomputable def law16_made_k1 (x61 : Int) (xs76 : List Tref16_Event) (xs80 : List (List Int)) (xs84 : List (List (Int × Bool))) (xs88 : List (List (Int × Int))) (xs91 : List (Int × Int)) : Option (((List Tref16_Event) × (List (List Int)) × (List (List (Int × Bool))) × (List (List (Int × Int))) × (List (Int × Int)) × Int) ⊕ Tstorage_Storage) :=
  some (Sum.inl (xs76, xs80, xs84, xs88, xs91, w64 (x61 + 1)))
noncomputable def law16_made_l1b (p1 : List Tlaw16_Call) (xs45 : List Tref16_Event) (xs49 : List (List Int)) (xs53 : List (List (Int × Bool))) (xs57 : List (List (Int × Int))) (xs60 : List (Int × Int)) (x61 : Int) : Option (((List Tref16_Event) × (List (List Int)) × (List (List (Int × Bool))) × (List (List (Int × Int))) × (List (Int × Int)) × Int) ⊕ Tstorage_Storage) :=
  if decide (x61 < (p1.length : Int)) then
  (ix p1 x61).bind fun x96 =>
  if decide (x96.kind = 0) then
  (storage_Storage_Write (⟨xs45, xs49, xs53, xs57, xs60⟩ : Tstorage_Storage) x96.t x96.at_ x96.val).bind fun x123 =>
  law16_made_k1 x61 x123.2.events x123.2.seen x123.2.has x123.2.now x123.2.last
  else
  if decide (x96.kind = 1) then
  (storage_Storage_Barrier (⟨xs45, xs49, xs53, xs57, xs60⟩ : Tstorage_Storage) x96.t).bind fun x154 =>
  law16_made_k1 x61 x154.2.events x154.2.seen x154.2.has x154.2.now x154.2.last
  else
  if decide (x96.kind = 2) then
  (storage_Storage_Go (⟨xs45, xs49, xs53, xs57, xs60⟩ : Tstorage_Storage) x96.t x96.n).bind fun x185 =>
  law16_made_k1 x61 x185.2.events x185.2.seen x185.2.has x185.2.now x185.2.last
  else
  law16_made_k1 x61 xs45 xs49 xs53 xs57 xs60
  else
  (some (⟨xs45, xs49, xs53, xs57, xs60⟩ : Tstorage_Storage)).map Sum.inr
noncomputable def law16_made_l1 (p1 : List Tlaw16_Call) (xs45 : List Tref16_Event) (xs49 : List (List Int)) (xs53 : List (List (Int × Bool))) (xs57 : List (List (Int × Int))) (xs60 : List (Int × Int)) (x61 : Int) : Option Tstorage_Storage := loopO (fun s => law16_made_l1b p1 s.1 s.2.1 s.2.2.1 s.2.2.2.1 s.2.2.2.2.1 s.2.2.2.2.2) (xs45, xs49, xs53, xs57, xs60, x61)
noncomputable def law16_made (p0 : Int) (p1 : List Tlaw16_Call) : Option Tstorage_Storage :=
  (storage_New p0).bind fun x19 =>
  law16_made_l1 p1 x19.events x19.seen x19.has x19.now x19.last 0
noncomputable def law16_StorageForward_l2b (p2 : Int) (xs67 : List Int) (x68 : Int) (x94 : Tstorage_Storage) (xs118 : List Int) (x119 : Int) : Option (((List Int) × Int) ⊕ (((List Int) × Int) ⊕ Bool)) :=
  if decide (x119 < (xs67.length : Int)) then
  (storage_Storage_Read x94 x119 p2).bind fun x145 =>
  (ix xs118 x119).bind fun x153 =>
  if decide (x145.2 < x153) then
  ((some false).map Sum.inr).map Sum.inr
  else
  (ix xs118 x119).bind fun x180 =>
  some (Sum.inl (xs118.set (Int.toNat x119) x145.2, w64 (x119 + 1)))
  else
  (some (Sum.inl (xs118, w64 (x68 + 1)))).map Sum.inr
noncomputable def law16_StorageForward_l2 (p2 : Int) (xs67 : List Int) (x68 : Int) (x94 : Tstorage_Storage) (xs118 : List Int) (x119 : Int) : Option (((List Int) × Int) ⊕ Bool) := loopO (fun s => law16_StorageForward_l2b p2 xs67 x68 x94 s.1 s.2) (xs118, x119)
noncomputable def law16_StorageForward_l1b (p0 : Int) (p1 : List Tlaw16_Call) (p2 : Int) (xs67 : List Int) (x68 : Int) : Option (((List Int) × Int) ⊕ Bool) :=
  if decide (x68 < (p1.length : Int)) then
  (cutL p1 0 (w64 (x68 + 1))).bind fun xs88 =>
  (law16_made p0 xs88).bind fun x94 =>
  law16_StorageForward_l2 p2 xs67 x68 x94 xs67 0
  else
  (some true).map Sum.inr
noncomputable def law16_StorageForward_l1 (p0 : Int) (p1 : List Tlaw16_Call) (p2 : Int) (xs67 : List Int) (x68 : Int) : Option Bool := loopO (fun s => law16_StorageForward_l1b p0 p1 p2 s.1 s.2) (xs67, x68)
noncomputable def law16_StorageForward (p0 : Int) (p1 : List Tlaw16_Call) (p2 : Int) : Option Bool :=
  (law16_alive).bind fun x3 =>
  if !x3 then
  some false
  else
  if decide (40 < (p1.length : Int)) then
  some true
  else
  (storage_New p0).bind fun x21 =>
  (storage_Storage_Threads x21).bind fun x51 =>
  (mk x51 0).bind fun xs59 =>
  law16_StorageForward_l1 p0 p1 p2 xs59 0
noncomputable def ref16_New_k2 (x14 : Int) : Option Tref16_Storage :=
  (mk x14 ([] : List Int)).bind fun xs19 =>
  some (⟨x14, [], xs19⟩ : Tref16_Storage)
noncomputable def ref16_New_k1 (x9 : Int) : Option Tref16_Storage :=
  if decide (8 < x9) then
  ref16_New_k2 8
  else
  ref16_New_k2 x9
noncomputable def ref16_New (p0 : Int) : Option Tref16_Storage :=
  if decide (p0 < 0) then
  ref16_New_k1 0
  else
  ref16_New_k1 p0
noncomputable def ref16_Storage_Accept_k1 (p0 : Tref16_Storage) (p1 : Tref16_Event) (x19 : Bool) : Option (Int × Tref16_Storage) :=
  if x19 then
  some (0, p0)
  else
  (ap p0.e [p1]).bind fun xs34 =>
  (ix p0.come p1.thread).bind fun x50 =>
  (ap [] x50).bind fun xs63 =>
  (ap xs63 [(xs34.length : Int)]).bind fun xs76 =>
  (ix p0.come p1.thread).bind fun x84 =>
  some ((xs34.length : Int), (⟨p0.n, xs34, p0.come.set (Int.toNat p1.thread) xs76⟩ : Tref16_Storage))
noncomputable def ref16_Storage_Accept (p0 : Tref16_Storage) (p1 : Tref16_Event) : Option (Int × Tref16_Storage) :=
  if decide (p1.thread < 0) then
  ref16_Storage_Accept_k1 p0 p1 true
  else
  ref16_Storage_Accept_k1 p0 p1 (decide (p0.n ≤ p1.thread))
noncomputable def law16_ahead_l1b (p0 : Tref16_Storage) (p1 : Int) (p2 : Int) (x11 : List Int) (x25 : Int) : Option (Int ⊕ (List Int)) :=
  if decide (x25 < (x11.length : Int)) then
  (ix p0.come p1).bind fun x38 =>
  (ix x38 x25).bind fun x45 =>
  if decide (x45 = p2) then
  (ix p0.come p1).bind fun x61 =>
  (cutL x38 0 x25).bind fun xs65 =>
  (some xs65).map Sum.inr
  else
  some (Sum.inl (w64 (x25 + 1)))
  else
  (some []).map Sum.inr
noncomputable def law16_ahead_l1 (p0 : Tref16_Storage) (p1 : Int) (p2 : Int) (x11 : List Int) (x25 : Int) : Option (List Int) := loopO (fun s => law16_ahead_l1b p0 p1 p2 x11 s) x25
noncomputable def law16_ahead (p0 : Tref16_Storage) (p1 : Int) (p2 : Int) : Option (List Int) :=
  (ix p0.come p1).bind fun x11 =>
  law16_ahead_l1 p0 p1 p2 x11 0
noncomputable def law16_StorageBars_k1 (x87 : Int) (x109 : Int) (xs112 : List Tref16_Event) (xs116 : List (List Int)) (xs119 : List Tref16_Event) (xs123 : List (List Int)) (xs127 : List (List (Int × Bool))) (xs131 : List (List (Int × Int))) (xs134 : List (Int × Int)) : Option ((Int × (List Tref16_Event) × (List (List Int)) × (List Tref16_Event) × (List (List Int)) × (List (List (Int × Bool))) × (List (List (Int × Int))) × (List (Int × Int)) × Int) ⊕ Bool) :=
  some (Sum.inl (x109, xs112, xs116, xs119, xs123, xs127, xs131, xs134, w64 (x87 + 1)))
noncomputable def law16_StorageBars_k2 (x343 : Int) : Option (Int ⊕ Bool) :=
  some (Sum.inl (w64 (x343 + 1)))
noncomputable def law16_StorageBars_k3 (x399 : Int) : Option (Int ⊕ (Int ⊕ Bool)) :=
  some (Sum.inl (w64 (x399 + 1)))
noncomputable def law16_StorageBars_l5b (xs64 : List Tref16_Event) (xs71 : List Tref16_Event) (xs75 : List (List Int)) (xs79 : List (List (Int × Bool))) (xs83 : List (List (Int × Int))) (xs86 : List (Int × Int)) (x343 : Int) (x478 : Int) (x491 : Int) (x515 : Int) : Option (Int ⊕ (Int ⊕ (Int ⊕ (Int ⊕ Bool)))) :=
  (storage_Storage_Threads (⟨xs71, xs75, xs79, xs83, xs86⟩ : Tstorage_Storage)).bind fun x532 =>
  if decide (x515 < x532) then
  (ix xs64 (w64 (x491 - 1))).bind fun x542 =>
  (storage_Storage_Read (⟨xs71, xs75, xs79, xs83, xs86⟩ : Tstorage_Storage) x515 x542.at_).bind fun x557 =>
  (ix xs64 (w64 (x491 - 1))).bind fun x565 =>
  (if !x565.bar then
  (storage_Storage_Seen (⟨xs71, xs75, xs79, xs83, xs86⟩ : Tstorage_Storage) x515 (w64 (x343 + 1))).bind fun x627 =>
  some x627
  else
  some false).bind fun y574 =>
  if y574 && (decide (x557.2 < x491)) then
  ((((some false).map Sum.inr).map Sum.inr).map Sum.inr).map Sum.inr
  else
  some (Sum.inl (w64 (x515 + 1)))
  else
  (some (Sum.inl (w64 (x478 + 1)))).map Sum.inr
noncomputable def law16_StorageBars_l5 (xs64 : List Tref16_Event) (xs71 : List Tref16_Event) (xs75 : List (List Int)) (xs79 : List (List (Int × Bool))) (xs83 : List (List (Int × Int))) (xs86 : List (Int × Int)) (x343 : Int) (x478 : Int) (x491 : Int) (x515 : Int) : Option (Int ⊕ (Int ⊕ (Int ⊕ Bool))) := loopO (fun s => law16_StorageBars_l5b xs64 xs71 xs75 xs79 xs83 xs86 x343 x478 x491 s) x515
noncomputable def law16_StorageBars_l4b (xs64 : List Tref16_Event) (xs71 : List Tref16_Event) (xs75 : List (List Int)) (xs79 : List (List (Int × Bool))) (xs83 : List (List (Int × Int))) (xs86 : List (Int × Int)) (x343 : Int) (x399 : Int) (x468 : List Int) (x478 : Int) : Option (Int ⊕ (Int ⊕ (Int ⊕ Bool))) :=
  if decide (x478 < (x468.length : Int)) then
  (ix x468 x478).bind fun x491 =>
  law16_StorageBars_l5 xs64 xs71 xs75 xs79 xs83 xs86 x343 x478 x491 0
  else
  (law16_StorageBars_k3 x399 ).map Sum.inr
noncomputable def law16_StorageBars_l4 (xs64 : List Tref16_Event) (xs71 : List Tref16_Event) (xs75 : List (List Int)) (xs79 : List (List (Int × Bool))) (xs83 : List (List (Int × Int))) (xs86 : List (Int × Int)) (x343 : Int) (x399 : Int) (x468 : List Int) (x478 : Int) : Option (Int ⊕ (Int ⊕ Bool)) := loopO (fun s => law16_StorageBars_l4b xs64 xs71 xs75 xs79 xs83 xs86 x343 x399 x468 s) x478
noncomputable def law16_StorageBars_l3b (x61 : Int) (xs64 : List Tref16_Event) (xs68 : List (List Int)) (xs71 : List Tref16_Event) (xs75 : List (List Int)) (xs79 : List (List (Int × Bool))) (xs83 : List (List (Int × Int))) (xs86 : List (Int × Int)) (x343 : Int) (x389 : List Int) (x399 : Int) : Option (Int ⊕ (Int ⊕ Bool)) :=
  if decide (x399 < (x389.length : Int)) then
  (ix x389 x399).bind fun x417 =>
  (ix xs64 (w64 (x417 - 1))).bind fun x440 =>
  if !x440.bar then
  law16_StorageBars_k3 x399 
  else
  (ix xs64 (w64 (x417 - 1))).bind fun x455 =>
  (law16_ahead (⟨x61, xs64, xs68⟩ : Tref16_Storage) x455.thread x417).bind fun x468 =>
  law16_StorageBars_l4 xs64 xs71 xs75 xs79 xs83 xs86 x343 x399 x468 0
  else
  (law16_StorageBars_k2 x343 ).map Sum.inr
noncomputable def law16_StorageBars_l3 (x61 : Int) (xs64 : List Tref16_Event) (xs68 : List (List Int)) (xs71 : List Tref16_Event) (xs75 : List (List Int)) (xs79 : List (List (Int × Bool))) (xs83 : List (List (Int × Int))) (xs86 : List (Int × Int)) (x343 : Int) (x389 : List Int) (x399 : Int) : Option (Int ⊕ Bool) := loopO (fun s => law16_StorageBars_l3b x61 xs64 xs68 xs71 xs75 xs79 xs83 xs86 x343 x389 s) x399
noncomputable def law16_StorageBars_l2b (x61 : Int) (xs64 : List Tref16_Event) (xs68 : List (List Int)) (xs71 : List Tref16_Event) (xs75 : List (List Int)) (xs79 : List (List (Int × Bool))) (xs83 : List (List (Int × Int))) (xs86 : List (Int × Int)) (x343 : Int) : Option (Int ⊕ Bool) :=
  if decide (x343 < (xs64.length : Int)) then
  (ix xs64 x343).bind fun x360 =>
  if x360.bar then
  law16_StorageBars_k2 x343 
  else
  (law16_ahead (⟨x61, xs64, xs68⟩ : Tref16_Storage) x360.thread (w64 (x343 + 1))).bind fun x389 =>
  law16_StorageBars_l3 x61 xs64 xs68 xs71 xs75 xs79 xs83 xs86 x343 x389 0
  else
  (some true).map Sum.inr
noncomputable def law16_StorageBars_l2 (x61 : Int) (xs64 : List Tref16_Event) (xs68 : List (List Int)) (xs71 : List Tref16_Event) (xs75 : List (List Int)) (xs79 : List (List (Int × Bool))) (xs83 : List (List (Int × Int))) (xs86 : List (Int × Int)) (x343 : Int) : Option Bool := loopO (fun s => law16_StorageBars_l2b x61 xs64 xs68 xs71 xs75 xs79 xs83 xs86 s) x343
noncomputable def law16_StorageBars_l1b (p1 : List Tlaw16_Call) (x61 : Int) (xs64 : List Tref16_Event) (xs68 : List (List Int)) (xs71 : List Tref16_Event) (xs75 : List (List Int)) (xs79 : List (List (Int × Bool))) (xs83 : List (List (Int × Int))) (xs86 : List (Int × Int)) (x87 : Int) : Option ((Int × (List Tref16_Event) × (List (List Int)) × (List Tref16_Event) × (List (List Int)) × (List (List (Int × Bool))) × (List (List (Int × Int))) × (List (Int × Int)) × Int) ⊕ Bool) :=
  if decide (x87 < (p1.length : Int)) then
  (ix p1 x87).bind fun x139 =>
  if decide (x139.kind = 0) then
  (storage_Storage_Write (⟨xs71, xs75, xs79, xs83, xs86⟩ : Tstorage_Storage) x139.t x139.at_ x139.val).bind fun x166 =>
  (ref16_Storage_Accept (⟨x61, xs64, xs68⟩ : Tref16_Storage) (⟨x139.t, false, x139.at_, x139.val⟩ : Tref16_Event)).bind fun x190 =>
  law16_StorageBars_k1 x87 x190.2.n x190.2.e x190.2.come x166.2.events x166.2.seen x166.2.has x166.2.now x166.2.last
  else
  if decide (x139.kind = 1) then
  (storage_Storage_Barrier (⟨xs71, xs75, xs79, xs83, xs86⟩ : Tstorage_Storage) x139.t).bind fun x213 =>
  (ref16_Storage_Accept (⟨x61, xs64, xs68⟩ : Tref16_Storage) (⟨x139.t, true, 0, 0⟩ : Tref16_Event)).bind fun x237 =>
  law16_StorageBars_k1 x87 x237.2.n x237.2.e x237.2.come x213.2.events x213.2.seen x213.2.has x213.2.now x213.2.last
  else
  if decide (x139.kind = 2) then
  (storage_Storage_Go (⟨xs71, xs75, xs79, xs83, xs86⟩ : Tstorage_Storage) x139.t x139.n).bind fun x260 =>
  if decide (x260.1 = 0) then
  (ix xs68 x139.t).bind fun x283 =>
  (ap x283 [x139.n]).bind fun xs301 =>
  (ix xs68 x139.t).bind fun x309 =>
  law16_StorageBars_k1 x87 x61 xs64 (xs68.set (Int.toNat x139.t) xs301) x260.2.events x260.2.seen x260.2.has x260.2.now x260.2.last
  else
  law16_StorageBars_k1 x87 x61 xs64 xs68 x260.2.events x260.2.seen x260.2.has x260.2.now x260.2.last
  else
  law16_StorageBars_k1 x87 x61 xs64 xs68 xs71 xs75 xs79 xs83 xs86
  else
  (law16_StorageBars_l2 x61 xs64 xs68 xs71 xs75 xs79 xs83 xs86 0).map Sum.inr
noncomputable def law16_StorageBars_l1 (p1 : List Tlaw16_Call) (x61 : Int) (xs64 : List Tref16_Event) (xs68 : List (List Int)) (xs71 : List Tref16_Event) (xs75 : List (List Int)) (xs79 : List (List (Int × Bool))) (xs83 : List (List (Int × Int))) (xs86 : List (Int × Int)) (x87 : Int) : Option Bool := loopO (fun s => law16_StorageBars_l1b p1 s.1 s.2.1 s.2.2.1 s.2.2.2.1 s.2.2.2.2.1 s.2.2.2.2.2.1 s.2.2.2.2.2.2.1 s.2.2.2.2.2.2.2.1 s.2.2.2.2.2.2.2.2) (x61, xs64, xs68, xs71, xs75, xs79, xs83, xs86, x87)
noncomputable def law16_StorageBars (p0 : Int) (p1 : List Tlaw16_Call) : Option Bool :=
  (law16_alive).bind fun x3 =>
  if !x3 then
  some false
  else
  if decide (40 < (p1.length : Int)) then
  some true
  else
  (ref16_New p0).bind fun x21 =>
  (storage_New p0).bind fun x37 =>
  law16_StorageBars_l1 p1 x21.n x21.e x21.come x37.events x37.seen x37.has x37.now x37.last 0
noncomputable def storage_Storage_Last (p0 : Tstorage_Storage) (p1 : Int) : Option Int :=
  some ((mG p0.last p1).getD 0)
noncomputable def law16_StorageOwn_l2b (p2 : Int) (p3 : Int) (p4 : Int) (xs53 : List Int) (x121 : Int × Tstorage_Storage) (x182 : Int) : Option (Int ⊕ Bool) :=
  (storage_Storage_Threads x121.2).bind fun x199 =>
  if decide (x182 < x199) then
  (storage_Storage_Read x121.2 x182 p3).bind fun x215 =>
  (if (decide (x182 = p2)) && ((decide (x215.1 ≠ p4)) || (decide (x215.2 ≠ x121.1))) then
  some true
  else
  (if decide (x182 ≠ p2) then
  (ix xs53 x182).bind fun x280 =>
  some (decide (x215.2 ≠ x280))
  else
  some false).bind fun y266 =>
  some y266).bind fun y234 =>
  if y234 then
  (some false).map Sum.inr
  else
  some (Sum.inl (w64 (x182 + 1)))
  else
  ((storage_Storage_Last x121.2 p3).bind fun x307 =>
  (if decide (x307 = x121.1) then
  (storage_Storage_Seen x121.2 p2 x121.1).bind fun x341 =>
  some x341
  else
  some false).bind fun y315 =>
  some y315).map Sum.inr
noncomputable def law16_StorageOwn_l2 (p2 : Int) (p3 : Int) (p4 : Int) (xs53 : List Int) (x121 : Int × Tstorage_Storage) (x182 : Int) : Option Bool := loopO (fun s => law16_StorageOwn_l2b p2 p3 p4 xs53 x121 s) x182
noncomputable def law16_StorageOwn_l1b (p2 : Int) (p3 : Int) (p4 : Int) (x22 : Tstorage_Storage) (xs53 : List Int) (x54 : Int) : Option (((List Int) × Int) ⊕ Bool) :=
  (storage_Storage_Threads x22).bind fun x78 =>
  if decide (x54 < x78) then
  (storage_Storage_Read x22 x54 p3).bind fun x94 =>
  (ix xs53 x54).bind fun x102 =>
  some (Sum.inl (xs53.set (Int.toNat x54) x94.2, w64 (x54 + 1)))
  else
  ((storage_Storage_Write x22 p2 p3 p4).bind fun x121 =>
  if decide (x121.1 = 0) then
  (if decide (p2 < 0) then
  some true
  else
  (storage_Storage_Threads x121.2).bind fun x172 =>
  some (decide (x172 ≤ p2))).bind fun y144 =>
  some y144
  else
  law16_StorageOwn_l2 p2 p3 p4 xs53 x121 0).map Sum.inr
noncomputable def law16_StorageOwn_l1 (p2 : Int) (p3 : Int) (p4 : Int) (x22 : Tstorage_Storage) (xs53 : List Int) (x54 : Int) : Option Bool := loopO (fun s => law16_StorageOwn_l1b p2 p3 p4 x22 s.1 s.2) (xs53, x54)
noncomputable def law16_StorageOwn (p0 : Int) (p1 : List Tlaw16_Call) (p2 : Int) (p3 : Int) (p4 : Int) : Option Bool :=
  (law16_alive).bind fun x3 =>
  if !x3 then
  some false
  else
  if decide (40 < (p1.length : Int)) then
  some true
  else
  (law16_made p0 p1).bind fun x22 =>
  law16_StorageOwn_l1 p2 p3 p4 x22 (List.replicate 8 0) 0
noncomputable def storage_Storage_Acked_l1b (p0 : Tstorage_Storage) (p1 : Int) (x47 : Int) : Option (Int ⊕ Bool) :=
  if decide (x47 < (p0.seen.length : Int)) then
  (storage_Storage_Seen p0 x47 p1).bind fun x66 =>
  if !x66 then
  (some false).map Sum.inr
  else
  some (Sum.inl (w64 (x47 + 1)))
  else
  (some true).map Sum.inr
noncomputable def storage_Storage_Acked_l1 (p0 : Tstorage_Storage) (p1 : Int) (x47 : Int) : Option Bool := loopO (fun s => storage_Storage_Acked_l1b p0 p1 s) x47
noncomputable def storage_Storage_Acked (p0 : Tstorage_Storage) (p1 : Int) : Option Bool :=
  (if (decide (p1 < 1)) || (decide ((p0.events.length : Int) < p1)) then
  some true
  else
  (ix p0.events (w64 (p1 - 1))).bind fun x88 =>
  some (!x88.bar)).bind fun y27 =>
  if y27 then
  some false
  else
  storage_Storage_Acked_l1 p0 p1 0
noncomputable def law16_StorageAcks_k1 (x87 : Int) (x109 : Int) (xs112 : List Tref16_Event) (xs116 : List (List Int)) (xs119 : List Tref16_Event) (xs123 : List (List Int)) (xs127 : List (List (Int × Bool))) (xs131 : List (List (Int × Int))) (xs134 : List (Int × Int)) : Option ((Int × (List Tref16_Event) × (List (List Int)) × (List Tref16_Event) × (List (List Int)) × (List (List (Int × Bool))) × (List (List (Int × Int))) × (List (Int × Int)) × Int) ⊕ Bool) :=
  some (Sum.inl (x109, xs112, xs116, xs119, xs123, xs127, xs131, xs134, w64 (x87 + 1)))
noncomputable def law16_StorageAcks_k2 (x343 : Int) : Option (Int ⊕ Bool) :=
  some (Sum.inl (w64 (x343 + 1)))
noncomputable def law16_StorageAcks_l4b (xs64 : List Tref16_Event) (xs71 : List Tref16_Event) (xs75 : List (List Int)) (xs79 : List (List (Int × Bool))) (xs83 : List (List (Int × Int))) (xs86 : List (Int × Int)) (x411 : Int) (x483 : List Int) (x493 : Int) : Option (Int ⊕ (Int ⊕ (Int ⊕ Bool))) :=
  if decide (x493 < (x483.length : Int)) then
  (ix x483 x493).bind fun x506 =>
  (ix xs64 (w64 (x506 - 1))).bind fun x529 =>
  (storage_Storage_Read (⟨xs71, xs75, xs79, xs83, xs86⟩ : Tstorage_Storage) x411 x529.at_).bind fun x545 =>
  (ix xs64 (w64 (x506 - 1))).bind fun x553 =>
  if (!x553.bar) && (decide (x545.2 < x506)) then
  (((some false).map Sum.inr).map Sum.inr).map Sum.inr
  else
  some (Sum.inl (w64 (x493 + 1)))
  else
  (some (Sum.inl (w64 (x411 + 1)))).map Sum.inr
noncomputable def law16_StorageAcks_l4 (xs64 : List Tref16_Event) (xs71 : List Tref16_Event) (xs75 : List (List Int)) (xs79 : List (List (Int × Bool))) (xs83 : List (List (Int × Int))) (xs86 : List (Int × Int)) (x411 : Int) (x483 : List Int) (x493 : Int) : Option (Int ⊕ (Int ⊕ Bool)) := loopO (fun s => law16_StorageAcks_l4b xs64 xs71 xs75 xs79 xs83 xs86 x411 x483 s) x493
noncomputable def law16_StorageAcks_l3b (x61 : Int) (xs64 : List Tref16_Event) (xs68 : List (List Int)) (xs71 : List Tref16_Event) (xs75 : List (List Int)) (xs79 : List (List (Int × Bool))) (xs83 : List (List (Int × Int))) (xs86 : List (Int × Int)) (x343 : Int) (x360 : Tref16_Event) (x411 : Int) : Option (Int ⊕ (Int ⊕ Bool)) :=
  (storage_Storage_Threads (⟨xs71, xs75, xs79, xs83, xs86⟩ : Tstorage_Storage)).bind fun x438 =>
  if decide (x411 < x438) then
  (storage_Storage_Seen (⟨xs71, xs75, xs79, xs83, xs86⟩ : Tstorage_Storage) x411 (w64 (x343 + 1))).bind fun x454 =>
  if !x454 then
  ((some false).map Sum.inr).map Sum.inr
  else
  (law16_ahead (⟨x61, xs64, xs68⟩ : Tref16_Storage) x360.thread (w64 (x343 + 1))).bind fun x483 =>
  law16_StorageAcks_l4 xs64 xs71 xs75 xs79 xs83 xs86 x411 x483 0
  else
  (law16_StorageAcks_k2 x343 ).map Sum.inr
noncomputable def law16_StorageAcks_l3 (x61 : Int) (xs64 : List Tref16_Event) (xs68 : List (List Int)) (xs71 : List Tref16_Event) (xs75 : List (List Int)) (xs79 : List (List (Int × Bool))) (xs83 : List (List (Int × Int))) (xs86 : List (Int × Int)) (x343 : Int) (x360 : Tref16_Event) (x411 : Int) : Option (Int ⊕ Bool) := loopO (fun s => law16_StorageAcks_l3b x61 xs64 xs68 xs71 xs75 xs79 xs83 xs86 x343 x360 s) x411
noncomputable def law16_StorageAcks_l2b (x61 : Int) (xs64 : List Tref16_Event) (xs68 : List (List Int)) (xs71 : List Tref16_Event) (xs75 : List (List Int)) (xs79 : List (List (Int × Bool))) (xs83 : List (List (Int × Int))) (xs86 : List (Int × Int)) (x343 : Int) : Option (Int ⊕ Bool) :=
  if decide (x343 < (xs64.length : Int)) then
  (ix xs64 x343).bind fun x360 =>
  (storage_Storage_Acked (⟨xs71, xs75, xs79, xs83, xs86⟩ : Tstorage_Storage) (w64 (x343 + 1))).bind fun x388 =>
  if !x388 then
  law16_StorageAcks_k2 x343 
  else
  law16_StorageAcks_l3 x61 xs64 xs68 xs71 xs75 xs79 xs83 xs86 x343 x360 0
  else
  (some true).map Sum.inr
noncomputable def law16_StorageAcks_l2 (x61 : Int) (xs64 : List Tref16_Event) (xs68 : List (List Int)) (xs71 : List Tref16_Event) (xs75 : List (List Int)) (xs79 : List (List (Int × Bool))) (xs83 : List (List (Int × Int))) (xs86 : List (Int × Int)) (x343 : Int) : Option Bool := loopO (fun s => law16_StorageAcks_l2b x61 xs64 xs68 xs71 xs75 xs79 xs83 xs86 s) x343
noncomputable def law16_StorageAcks_l1b (p1 : List Tlaw16_Call) (x61 : Int) (xs64 : List Tref16_Event) (xs68 : List (List Int)) (xs71 : List Tref16_Event) (xs75 : List (List Int)) (xs79 : List (List (Int × Bool))) (xs83 : List (List (Int × Int))) (xs86 : List (Int × Int)) (x87 : Int) : Option ((Int × (List Tref16_Event) × (List (List Int)) × (List Tref16_Event) × (List (List Int)) × (List (List (Int × Bool))) × (List (List (Int × Int))) × (List (Int × Int)) × Int) ⊕ Bool) :=
  if decide (x87 < (p1.length : Int)) then
  (ix p1 x87).bind fun x139 =>
  if decide (x139.kind = 0) then
  (storage_Storage_Write (⟨xs71, xs75, xs79, xs83, xs86⟩ : Tstorage_Storage) x139.t x139.at_ x139.val).bind fun x166 =>
  (ref16_Storage_Accept (⟨x61, xs64, xs68⟩ : Tref16_Storage) (⟨x139.t, false, x139.at_, x139.val⟩ : Tref16_Event)).bind fun x190 =>
  law16_StorageAcks_k1 x87 x190.2.n x190.2.e x190.2.come x166.2.events x166.2.seen x166.2.has x166.2.now x166.2.last
  else
  if decide (x139.kind = 1) then
  (storage_Storage_Barrier (⟨xs71, xs75, xs79, xs83, xs86⟩ : Tstorage_Storage) x139.t).bind fun x213 =>
  (ref16_Storage_Accept (⟨x61, xs64, xs68⟩ : Tref16_Storage) (⟨x139.t, true, 0, 0⟩ : Tref16_Event)).bind fun x237 =>
  law16_StorageAcks_k1 x87 x237.2.n x237.2.e x237.2.come x213.2.events x213.2.seen x213.2.has x213.2.now x213.2.last
  else
  if decide (x139.kind = 2) then
  (storage_Storage_Go (⟨xs71, xs75, xs79, xs83, xs86⟩ : Tstorage_Storage) x139.t x139.n).bind fun x260 =>
  if decide (x260.1 = 0) then
  (ix xs68 x139.t).bind fun x283 =>
  (ap x283 [x139.n]).bind fun xs301 =>
  (ix xs68 x139.t).bind fun x309 =>
  law16_StorageAcks_k1 x87 x61 xs64 (xs68.set (Int.toNat x139.t) xs301) x260.2.events x260.2.seen x260.2.has x260.2.now x260.2.last
  else
  law16_StorageAcks_k1 x87 x61 xs64 xs68 x260.2.events x260.2.seen x260.2.has x260.2.now x260.2.last
  else
  law16_StorageAcks_k1 x87 x61 xs64 xs68 xs71 xs75 xs79 xs83 xs86
  else
  (law16_StorageAcks_l2 x61 xs64 xs68 xs71 xs75 xs79 xs83 xs86 0).map Sum.inr
noncomputable def law16_StorageAcks_l1 (p1 : List Tlaw16_Call) (x61 : Int) (xs64 : List Tref16_Event) (xs68 : List (List Int)) (xs71 : List Tref16_Event) (xs75 : List (List Int)) (xs79 : List (List (Int × Bool))) (xs83 : List (List (Int × Int))) (xs86 : List (Int × Int)) (x87 : Int) : Option Bool := loopO (fun s => law16_StorageAcks_l1b p1 s.1 s.2.1 s.2.2.1 s.2.2.2.1 s.2.2.2.2.1 s.2.2.2.2.2.1 s.2.2.2.2.2.2.1 s.2.2.2.2.2.2.2.1 s.2.2.2.2.2.2.2.2) (x61, xs64, xs68, xs71, xs75, xs79, xs83, xs86, x87)
noncomputable def law16_StorageAcks (p0 : Int) (p1 : List Tlaw16_Call) : Option Bool :=
  (law16_alive).bind fun x3 =>
  if !x3 then
  some false
  else
  if decide (40 < (p1.length : Int)) then
  some true
  else
  (ref16_New p0).bind fun x21 =>
  (storage_New p0).bind fun x37 =>
  law16_StorageAcks_l1 p1 x21.n x21.e x21.come x37.events x37.seen x37.has x37.now x37.last 0
noncomputable def storage_Storage_Settle_k1 (x93 : Int) (xs108 : List Tref16_Event) (xs112 : List (List Int)) (xs116 : List (List (Int × Bool))) (xs120 : List (List (Int × Int))) (xs123 : List (Int × Int)) : Option (((List Tref16_Event) × (List (List Int)) × (List (List (Int × Bool))) × (List (List (Int × Int))) × (List (Int × Int)) × Int) ⊕ (((List Tref16_Event) × (List (List Int)) × (List (List (Int × Bool))) × (List (List (Int × Int))) × (List (Int × Int)) × Int) ⊕ Tstorage_Storage)) :=
  some (Sum.inl (xs108, xs112, xs116, xs120, xs123, w64 (x93 + 1)))
noncomputable def storage_Storage_Settle_l2b (xs46 : List Tref16_Event) (x62 : Int) (xs77 : List Tref16_Event) (xs81 : List (List Int)) (xs85 : List (List (Int × Bool))) (xs89 : List (List (Int × Int))) (xs92 : List (Int × Int)) (x93 : Int) : Option (((List Tref16_Event) × (List (List Int)) × (List (List (Int × Bool))) × (List (List (Int × Int))) × (List (Int × Int)) × Int) ⊕ (((List Tref16_Event) × (List (List Int)) × (List (List (Int × Bool))) × (List (List (Int × Int))) × (List (Int × Int)) × Int) ⊕ Tstorage_Storage)) :=
  if decide (x93 < (xs46.length : Int)) then
  (storage_Storage_May (⟨xs77, xs81, xs85, xs89, xs92⟩ : Tstorage_Storage) x62 (w64 (x93 + 1))).bind fun x134 =>
  if x134 then
  (storage_Storage_Go (⟨xs77, xs81, xs85, xs89, xs92⟩ : Tstorage_Storage) x62 (w64 (x93 + 1))).bind fun x150 =>
  storage_Storage_Settle_k1 x93 x150.2.events x150.2.seen x150.2.has x150.2.now x150.2.last
  else
  storage_Storage_Settle_k1 x93 xs77 xs81 xs85 xs89 xs92
  else
  (some (Sum.inl (xs77, xs81, xs85, xs89, xs92, w64 (x62 + 1)))).map Sum.inr
noncomputable def storage_Storage_Settle_l2 (xs46 : List Tref16_Event) (x62 : Int) (xs77 : List Tref16_Event) (xs81 : List (List Int)) (xs85 : List (List (Int × Bool))) (xs89 : List (List (Int × Int))) (xs92 : List (Int × Int)) (x93 : Int) : Option (((List Tref16_Event) × (List (List Int)) × (List (List (Int × Bool))) × (List (List (Int × Int))) × (List (Int × Int)) × Int) ⊕ Tstorage_Storage) := loopO (fun s => storage_Storage_Settle_l2b xs46 x62 s.1 s.2.1 s.2.2.1 s.2.2.2.1 s.2.2.2.2.1 s.2.2.2.2.2) (xs77, xs81, xs85, xs89, xs92, x93)
noncomputable def storage_Storage_Settle_l1b (x36 : Int) (xs46 : List Tref16_Event) (xs50 : List (List Int)) (xs54 : List (List (Int × Bool))) (xs58 : List (List (Int × Int))) (xs61 : List (Int × Int)) (x62 : Int) : Option (((List Tref16_Event) × (List (List Int)) × (List (List (Int × Bool))) × (List (List (Int × Int))) × (List (Int × Int)) × Int) ⊕ Tstorage_Storage) :=
  if decide (x62 < x36) then
  storage_Storage_Settle_l2 xs46 x62 xs46 xs50 xs54 xs58 xs61 0
  else
  (some (⟨xs46, xs50, xs54, xs58, xs61⟩ : Tstorage_Storage)).map Sum.inr
noncomputable def storage_Storage_Settle_l1 (x36 : Int) (xs46 : List Tref16_Event) (xs50 : List (List Int)) (xs54 : List (List (Int × Bool))) (xs58 : List (List (Int × Int))) (xs61 : List (Int × Int)) (x62 : Int) : Option Tstorage_Storage := loopO (fun s => storage_Storage_Settle_l1b x36 s.1 s.2.1 s.2.2.1 s.2.2.2.1 s.2.2.2.2.1 s.2.2.2.2.2) (xs46, xs50, xs54, xs58, xs61, x62)
noncomputable def storage_Storage_Settle (p0 : Tstorage_Storage) : Option Tstorage_Storage :=
  (storage_Storage_Threads p0).bind fun x36 =>
  storage_Storage_Settle_l1 x36 p0.events p0.seen p0.has p0.now p0.last 0
noncomputable def slices_Clone (p0 : List Tref16_Event) : Option (List Tref16_Event) :=
  (ap [] p0).bind fun xs15 =>
  some xs15
noncomputable def storage_Storage_Events (p0 : Tstorage_Storage) : Option (List Tref16_Event) :=
  (slices_Clone p0.events).bind fun x20 =>
  some x20
noncomputable def law16_StorageSettles_l2b (x52 : Tstorage_Storage) (x89 : Int) (x109 : Tref16_Event) (x155 : Int) : Option (Int ⊕ (Int ⊕ Bool)) :=
  (storage_Storage_Threads x52).bind fun x180 =>
  if decide (x155 < x180) then
  (storage_Storage_Read x52 x155 x109.at_).bind fun x196 =>
  (storage_Storage_May x52 x155 (w64 (x89 + 1))).bind fun x210 =>
  (if x210 then
  some true
  else
  (if !x109.bar then
  (storage_Storage_Last x52 x109.at_).bind fun x275 =>
  some (decide (x196.2 ≠ x275))
  else
  some false).bind fun y253 =>
  some y253).bind fun y218 =>
  if y218 then
  ((some false).map Sum.inr).map Sum.inr
  else
  some (Sum.inl (w64 (x155 + 1)))
  else
  (some (Sum.inl (w64 (x89 + 1)))).map Sum.inr
noncomputable def law16_StorageSettles_l2 (x52 : Tstorage_Storage) (x89 : Int) (x109 : Tref16_Event) (x155 : Int) : Option (Int ⊕ Bool) := loopO (fun s => law16_StorageSettles_l2b x52 x89 x109 s) x155
noncomputable def law16_StorageSettles_l1b (x52 : Tstorage_Storage) (x79 : List Tref16_Event) (x89 : Int) : Option (Int ⊕ Bool) :=
  if decide (x89 < (x79.length : Int)) then
  (ix x79 x89).bind fun x109 =>
  (if x109.bar then
  (storage_Storage_Acked x52 (w64 (x89 + 1))).bind fun x298 =>
  some (!x298)
  else
  some false).bind fun y131 =>
  if y131 then
  (some false).map Sum.inr
  else
  law16_StorageSettles_l2 x52 x89 x109 0
  else
  (some true).map Sum.inr
noncomputable def law16_StorageSettles_l1 (x52 : Tstorage_Storage) (x79 : List Tref16_Event) (x89 : Int) : Option Bool := loopO (fun s => law16_StorageSettles_l1b x52 x79 s) x89
noncomputable def law16_StorageSettles (p0 : Int) (p1 : List Tlaw16_Call) : Option Bool :=
  (law16_alive).bind fun x3 =>
  if !x3 then
  some false
  else
  if decide (40 < (p1.length : Int)) then
  some true
  else
  (law16_made p0 p1).bind fun x22 =>
  (storage_Storage_Settle x22).bind fun x52 =>
  (storage_Storage_Events x52).bind fun x79 =>
  law16_StorageSettles_l1 x52 x79 0
end Go.Vm.G16
