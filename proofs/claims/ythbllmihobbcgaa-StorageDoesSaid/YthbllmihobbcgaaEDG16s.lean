/-
 What functions compute, as plain functions.
-/
import Derived.Test.YthbllmihobbcgaaESp16
import Derived.Test.YthbllmihobbcgaaESp23
import Derived.Test.YthbllmihobbcgaaESp12
set_option linter.unusedSimpArgs false
set_option linter.unusedVariables false
namespace Go.Vm.G16s
open Go
theorem Z {α : Sort _} {a : α} : a = a := rfl
theorem cB {b c : Bool} (h : b = c) : Value.bool b = Value.bool c := by rw [h]
structure Tlaw16_Call where
 kind : Int
 t : Int
 n : Int
 at_ : Int
 val : Int
def RT_Tlaw16_Call : RT Tlaw16_Call := ⟨5, fun V cs x => cs = [.int .i64 x.kind, .int .i64 x.t, .int .i64 x.n, .int .i64 x.at_, .int .i64 x.val], ⟨fun _ _ _ h => by rw [h]; rfl, fun _ _ _ h => by rw [h]; rfl, fun _ _ _ _ he h => h⟩⟩
structure Tref16_Event where
 thread : Int
 bar : Bool
 at_ : Int
 val : Int
def RT_Tref16_Event : RT Tref16_Event := ⟨4, fun V cs x => cs = [.int .i64 x.thread, .bool x.bar, .int .i64 x.at_, .int .i64 x.val], ⟨fun _ _ _ h => by rw [h]; rfl, fun _ _ _ h => by rw [h]; rfl, fun _ _ _ _ he h => h⟩⟩
structure Tstorage_Storage where
 events : List Tref16_Event
 seen : List (List Int)
 has : List (List (Int × Bool))
 now : List (List (Int × Int))
 last : List (Int × Int)
structure Tref16_Storage where
 n : Int
 e : List Tref16_Event
 come : List (List Int)
def RT_Tref16_Storage : RT Tref16_Storage := ⟨3, fun V cs x => ∃ v1 v2 : Value, cs = [.int .i64 x.n, v1, v2] ∧ Fz RT_Tref16_Event V v1 x.e ∧ Fz (RT.sl (RT.int .i64)) V v2 x.come, ⟨fun _ _ _ ⟨v1, v2, h, f1, f2⟩ => by rw [h]; rfl, fun _ _ _ ⟨v1, v2, h, f1, f2⟩ => by rw [h]; have := f1.one; have := f2.one; simp only [List.all_cons, List.all_nil, *]; rfl, fun _ _ _ _ he ⟨v1, v2, h, f1, f2⟩ => ⟨v1, v2, h, f1.up he, f2.up he⟩⟩⟩
noncomputable def storage_New_l1b (p0 : Int) (xs30 : List (List Int)) (xs34 : List (List (Int × Bool))) (xs38 : List (List (Int × Int))) (x39 : Int) : Option (((List (List Int)) × (List (List (Int × Bool))) × (List (List (Int × Int))) × Int) ⊕ Tstorage_Storage) :=
  if decide (x39 < (min (max p0 0) 8)) then
  (ap xs30 ([[]])).bind fun xs71 =>
  (ap xs34 ([[]])).bind fun xs90 =>
  (ap xs38 ([[]])).bind fun xs109 =>
  some (Sum.inl (xs71, xs90, xs109, w64 (x39 + 1)))
  else
  (some (⟨[], xs30, xs34, xs38, []⟩ : Tstorage_Storage)).map Sum.inr
noncomputable def storage_New_l1 (p0 : Int) (xs30 : List (List Int)) (xs34 : List (List (Int × Bool))) (xs38 : List (List (Int × Int))) (x39 : Int) : Option Tstorage_Storage := loopO (fun s => storage_New_l1b p0 s.1 s.2.1 s.2.2.1 s.2.2.2) (xs30, xs34, xs38, x39)
noncomputable def storage_New (p0 : Int) : Option Tstorage_Storage :=
  storage_New_l1 p0 [] [] [] 0
noncomputable def storage_Storage_thread (p0 : Tstorage_Storage) (p1 : Int) : Option Bool :=
  some ((decide (0 ≤ p1)) && (decide (p1 < (p0.seen.length : Int))))
noncomputable def storage_Storage_come (p0 : Tstorage_Storage) (p1 : Int) (p2 : Int) : Option Tstorage_Storage :=
  (ix p0.seen p1).bind fun x28 =>
  (ap x28 [p2]).bind fun xs46 =>
  (ix p0.seen p1).bind fun x54 =>
  (ix p0.has p1).bind fun x61 =>
  (ix p0.events (w64 (p2 - 1))).bind fun x77 =>
  if !x77.bar then
  (ix p0.now p1).bind fun x102 =>
  some (⟨p0.events, p0.seen.set (Int.toNat p1) xs46, p0.has.set (Int.toNat p1) (mS x61 p2 true), p0.now.set (Int.toNat p1) (mS x102 x77.at_ p2), p0.last⟩ : Tstorage_Storage)
  else
  some (⟨p0.events, p0.seen.set (Int.toNat p1) xs46, p0.has.set (Int.toNat p1) (mS x61 p2 true), p0.now, p0.last⟩ : Tstorage_Storage)
noncomputable def storage_Storage_accept_k1 (p0 : Tstorage_Storage) (p1 : Tref16_Event) (xs40 : List Tref16_Event) (xs51 : List (Int × Int)) : Option (Int × Tstorage_Storage) :=
  (storage_Storage_come (⟨xs40, p0.seen, p0.has, p0.now, xs51⟩ : Tstorage_Storage) p1.thread (xs40.length : Int)).bind fun x62 =>
  some ((xs40.length : Int), x62)
noncomputable def storage_Storage_accept (p0 : Tstorage_Storage) (p1 : Tref16_Event) : Option (Int × Tstorage_Storage) :=
  (ap p0.events [p1]).bind fun xs40 =>
  if !p1.bar then
  storage_Storage_accept_k1 p0 p1 xs40 (mS p0.last p1.at_ (xs40.length : Int))
  else
  storage_Storage_accept_k1 p0 p1 xs40 p0.last
noncomputable def storage_Storage_Write (p0 : Tstorage_Storage) (p1 : Int) (p2 : Int) (p3 : Int) : Option (Int × Tstorage_Storage) :=
  (storage_Storage_thread p0 p1).bind fun x36 =>
  if !x36 then
  some (0, p0)
  else
  (storage_Storage_accept p0 (⟨p1, false, p2, p3⟩ : Tref16_Event)).bind fun x56 =>
  some (x56.1, x56.2)
noncomputable def storage_Storage_Read (p0 : Tstorage_Storage) (p1 : Int) (p2 : Int) : Option (Int × Int) :=
  (storage_Storage_thread p0 p1).bind fun x23 =>
  if !x23 then
  some (0, 0)
  else
  (ix p0.now p1).bind fun x37 =>
  if decide (((mG x37 p2).getD 0) = 0) then
  some (0, 0)
  else
  (ix p0.events (w64 (((mG x37 p2).getD 0) - 1))).bind fun x60 =>
  some (x60.val, (mG x37 p2).getD 0)
noncomputable def storage_Storage_Seen (p0 : Tstorage_Storage) (p1 : Int) (p2 : Int) : Option Bool :=
  (storage_Storage_thread p0 p1).bind fun x23 =>
  (if x23 then
  (ix p0.has p1).bind fun x49 =>
  some ((mG x49 p2).getD false)
  else
  some false).bind fun y31 =>
  some y31
noncomputable def storage_Storage_passed (p0 : Tstorage_Storage) (p1 : Int) (p2 : Int) : Option Bool :=
  (ix p0.events (w64 (p2 - 1))).bind fun x17 =>
  (storage_Storage_Read p0 p1 x17.at_).bind fun x37 =>
  some (decide (p2 ≤ x37.2))
noncomputable def slices_Index_l1b (p0 : List Int) (p1 : Int) (x3 : Int) : Option (Int ⊕ Int) :=
  if decide (x3 < (p0.length : Int)) then
  (ix p0 x3).bind fun x16 =>
  if decide (p1 = x16) then
  (some x3).map Sum.inr
  else
  some (Sum.inl (w64 (x3 + 1)))
  else
  (some (-1)).map Sum.inr
noncomputable def slices_Index_l1 (p0 : List Int) (p1 : Int) (x3 : Int) : Option Int := loopO (fun s => slices_Index_l1b p0 p1 s) x3
noncomputable def slices_Index (p0 : List Int) (p1 : Int) : Option Int :=
  slices_Index_l1 p0 p1 0
noncomputable def storage_Storage_ahead (p0 : Tstorage_Storage) (p1 : Int) : Option (List Int) :=
  (ix p0.events (w64 (p1 - 1))).bind fun x19 =>
  (ix p0.seen x19.thread).bind fun x33 =>
  (slices_Index x33 p1).bind fun x46 =>
  (cutL x33 0 x46).bind fun xs54 =>
  some xs54
noncomputable def storage_Storage_May_l1b (p0 : Tstorage_Storage) (p1 : Int) (x60 : Tref16_Event) (x103 : List Int) (x113 : Int) : Option (Int ⊕ Bool) :=
  if decide (x113 < (x103.length : Int)) then
  (ix x103 x113).bind fun x126 =>
  (ix p0.events (w64 (x126 - 1))).bind fun x149 =>
  (if x149.bar then
  (storage_Storage_Seen p0 p1 x126).bind fun x265 =>
  some (!x265)
  else
  some false).bind fun y167 =>
  (if y167 then
  some true
  else
  (if (!x149.bar) && x60.bar then
  (storage_Storage_passed p0 p1 x126).bind fun x235 =>
  some (!x235)
  else
  some false).bind fun y215 =>
  some y215).bind fun y178 =>
  if y178 then
  (some false).map Sum.inr
  else
  some (Sum.inl (w64 (x113 + 1)))
  else
  (some true).map Sum.inr
noncomputable def storage_Storage_May_l1 (p0 : Tstorage_Storage) (p1 : Int) (x60 : Tref16_Event) (x103 : List Int) (x113 : Int) : Option Bool := loopO (fun s => storage_Storage_May_l1b p0 p1 x60 x103 s) x113
noncomputable def storage_Storage_May (p0 : Tstorage_Storage) (p1 : Int) (p2 : Int) : Option Bool :=
  (storage_Storage_thread p0 p1).bind fun x23 =>
  (if ((!x23) || (decide (p2 < 1))) || (decide ((p0.events.length : Int) < p2)) then
  some true
  else
  (storage_Storage_Seen p0 p1 p2).bind fun x326 =>
  some x326).bind fun y46 =>
  if y46 then
  some false
  else
  (ix p0.events (w64 (p2 - 1))).bind fun x60 =>
  (if !x60.bar then
  (storage_Storage_passed p0 p1 p2).bind fun x297 =>
  some x297
  else
  some false).bind fun y82 =>
  if y82 then
  some false
  else
  (storage_Storage_ahead p0 p2).bind fun x103 =>
  storage_Storage_May_l1 p0 p1 x60 x103 0
noncomputable def law16_alive : Option Bool :=
  (storage_New 2).bind fun x1 =>
  (storage_Storage_Write x1 0 8 1).bind fun x31 =>
  (storage_Storage_Write x31.2 1 8 2).bind fun x58 =>
  (storage_Storage_Read x58.2 0 8).bind fun x85 =>
  (if (((decide (x31.1 = 1)) && (decide (x58.1 = 2))) && (decide (x85.1 = 1))) && (decide (x85.2 = 1)) then
  (storage_Storage_May x58.2 1 1).bind fun x159 =>
  some (!x159)
  else
  some false).bind fun y108 =>
  (if y108 then
  (storage_Storage_May x58.2 0 2).bind fun x140 =>
  some x140
  else
  some false).bind fun y117 =>
  some y117
noncomputable def ref16_New_k2 (x14 : Int) : Option Tref16_Storage :=
  (mk x14 ([] : List Int)).bind fun xs19 =>
  some (⟨x14, [], xs19⟩ : Tref16_Storage)
noncomputable def ref16_New_k1 (x9 : Int) : Option Tref16_Storage :=
  if decide (8 < x9) then
  ref16_New_k2 8
  else
  ref16_New_k2 x9
noncomputable def ref16_New (p0 : Int) : Option Tref16_Storage :=
  if decide (p0 < 0) then
  ref16_New_k1 0
  else
  ref16_New_k1 p0
noncomputable def ref16_Storage_Accept_k1 (p0 : Tref16_Storage) (p1 : Tref16_Event) (x19 : Bool) : Option (Int × Tref16_Storage) :=
  if x19 then
  some (0, p0)
  else
  (ap p0.e [p1]).bind fun xs34 =>
  (ix p0.come p1.thread).bind fun x50 =>
  (ap [] x50).bind fun xs63 =>
  (ap xs63 [(xs34.length : Int)]).bind fun xs76 =>
  (ix p0.come p1.thread).bind fun x84 =>
  some ((xs34.length : Int), (⟨p0.n, xs34, p0.come.set (Int.toNat p1.thread) xs76⟩ : Tref16_Storage))
noncomputable def ref16_Storage_Accept (p0 : Tref16_Storage) (p1 : Tref16_Event) : Option (Int × Tref16_Storage) :=
  if decide (p1.thread < 0) then
  ref16_Storage_Accept_k1 p0 p1 true
  else
  ref16_Storage_Accept_k1 p0 p1 (decide (p0.n ≤ p1.thread))
noncomputable def storage_Storage_Barrier (p0 : Tstorage_Storage) (p1 : Int) : Option (Int × Tstorage_Storage) :=
  (storage_Storage_thread p0 p1).bind fun x36 =>
  if !x36 then
  some (0, p0)
  else
  (storage_Storage_accept p0 (⟨p1, true, 0, 0⟩ : Tref16_Event)).bind fun x56 =>
  some (x56.1, x56.2)
noncomputable def ref16_Storage_Has_l1b (p0 : Tref16_Storage) (p1 : Int) (p2 : Int) (x22 : List Int) (x36 : Int) : Option (Int ⊕ Bool) :=
  if decide (x36 < (x22.length : Int)) then
  (ix p0.come p1).bind fun x49 =>
  (ix x49 x36).bind fun x56 =>
  if decide (x56 = p2) then
  (some true).map Sum.inr
  else
  some (Sum.inl (w64 (x36 + 1)))
  else
  (some false).map Sum.inr
noncomputable def ref16_Storage_Has_l1 (p0 : Tref16_Storage) (p1 : Int) (p2 : Int) (x22 : List Int) (x36 : Int) : Option Bool := loopO (fun s => ref16_Storage_Has_l1b p0 p1 p2 x22 s) x36
noncomputable def ref16_Storage_Has (p0 : Tref16_Storage) (p1 : Int) (p2 : Int) : Option Bool :=
  if (decide (p1 < 0)) || (decide (p0.n ≤ p1)) then
  some false
  else
  (ix p0.come p1).bind fun x22 =>
  ref16_Storage_Has_l1 p0 p1 p2 x22 0
noncomputable def ref16_Storage_passed_k1 (x9 : Int) (x22 : Bool) : Option (Int ⊕ Bool) :=
  if x22 then
  (some true).map Sum.inr
  else
  some (Sum.inl (w64 (x9 + 1)))
noncomputable def ref16_Storage_passed_l1b (p0 : Tref16_Storage) (p1 : Int) (p2 : Int) (x9 : Int) : Option (Int ⊕ Bool) :=
  if decide (x9 ≤ (p0.e.length : Int)) then
  (ix p0.e (w64 (x9 - 1))).bind fun x32 =>
  if !x32.bar then
  (ix p0.e (w64 (x9 - 1))).bind fun x49 =>
  (ix p0.e (w64 (p2 - 1))).bind fun x58 =>
  if decide (x49.at_ = x58.at_) then
  (ref16_Storage_Has p0 p1 x9).bind fun x72 =>
  ref16_Storage_passed_k1 x9 x72
  else
  ref16_Storage_passed_k1 x9 false
  else
  ref16_Storage_passed_k1 x9 false
  else
  (some false).map Sum.inr
noncomputable def ref16_Storage_passed_l1 (p0 : Tref16_Storage) (p1 : Int) (p2 : Int) (x9 : Int) : Option Bool := loopO (fun s => ref16_Storage_passed_l1b p0 p1 p2 s) x9
noncomputable def ref16_Storage_passed (p0 : Tref16_Storage) (p1 : Int) (p2 : Int) : Option Bool :=
  ref16_Storage_passed_l1 p0 p1 p2 p2
noncomputable def ref16_Storage_May_l1b (p0 : Tref16_Storage) (p1 : Int) (p2 : Int) (x47 : Tref16_Event) (x84 : List Int) (x98 : Int) : Option (Int ⊕ Bool) :=
  if decide (x98 < (x84.length : Int)) then
  (ix p0.come x47.thread).bind fun x115 =>
  (ix x115 x98).bind fun x122 =>
  if decide (x122 = p2) then
  (some true).map Sum.inr
  else
  (ix p0.e (w64 (x122 - 1))).bind fun x143 =>
  (if x143.bar then
  (ref16_Storage_Has p0 p1 x122).bind fun x250 =>
  some (!x250)
  else
  some false).bind fun y161 =>
  (if y161 then
  some true
  else
  (if (!x143.bar) && x47.bar then
  (ref16_Storage_passed p0 p1 x122).bind fun x226 =>
  some (!x226)
  else
  some false).bind fun y209 =>
  some y209).bind fun y172 =>
  if y172 then
  (some false).map Sum.inr
  else
  some (Sum.inl (w64 (x98 + 1)))
  else
  (some true).map Sum.inr
noncomputable def ref16_Storage_May_l1 (p0 : Tref16_Storage) (p1 : Int) (p2 : Int) (x47 : Tref16_Event) (x84 : List Int) (x98 : Int) : Option Bool := loopO (fun s => ref16_Storage_May_l1b p0 p1 p2 x47 x84 s) x98
noncomputable def ref16_Storage_May (p0 : Tref16_Storage) (p1 : Int) (p2 : Int) : Option Bool :=
  (if (((decide (p1 < 0)) || (decide (p0.n ≤ p1))) || (decide (p2 < 1))) || (decide ((p0.e.length : Int) < p2)) then
  some true
  else
  (ref16_Storage_Has p0 p1 p2).bind fun x299 =>
  some x299).bind fun y33 =>
  if y33 then
  some false
  else
  (ix p0.e (w64 (p2 - 1))).bind fun x47 =>
  (if !x47.bar then
  (ref16_Storage_passed p0 p1 p2).bind fun x276 =>
  some x276
  else
  some false).bind fun y69 =>
  if y69 then
  some false
  else
  (ix p0.come x47.thread).bind fun x84 =>
  ref16_Storage_May_l1 p0 p1 p2 x47 x84 0
noncomputable def storage_Storage_Go (p0 : Tstorage_Storage) (p1 : Int) (p2 : Int) : Option (Int × Tstorage_Storage) :=
  (storage_Storage_May p0 p1 p2).bind fun x34 =>
  if !x34 then
  some (1, p0)
  else
  (storage_Storage_come p0 p1 p2).bind fun x54 =>
  some (0, x54)
noncomputable def storage_Storage_Threads (p0 : Tstorage_Storage) : Option Int :=
  some (p0.seen.length : Int)
noncomputable def storage_Storage_Settle_k1 (x87 : Int) (xs100 : List Tref16_Event) (xs104 : List (List Int)) (xs108 : List (List (Int × Bool))) (xs112 : List (List (Int × Int))) (xs115 : List (Int × Int)) : Option (((List Tref16_Event) × (List (List Int)) × (List (List (Int × Bool))) × (List (List (Int × Int))) × (List (Int × Int)) × Int) ⊕ (((List Tref16_Event) × (List (List Int)) × (List (List (Int × Bool))) × (List (List (Int × Int))) × (List (Int × Int)) × Int) ⊕ Tstorage_Storage)) :=
  some (Sum.inl (xs100, xs104, xs108, xs112, xs115, w64 (x87 + 1)))
noncomputable def storage_Storage_Settle_l2b (xs42 : List Tref16_Event) (x58 : Int) (xs71 : List Tref16_Event) (xs75 : List (List Int)) (xs79 : List (List (Int × Bool))) (xs83 : List (List (Int × Int))) (xs86 : List (Int × Int)) (x87 : Int) : Option (((List Tref16_Event) × (List (List Int)) × (List (List (Int × Bool))) × (List (List (Int × Int))) × (List (Int × Int)) × Int) ⊕ (((List Tref16_Event) × (List (List Int)) × (List (List (Int × Bool))) × (List (List (Int × Int))) × (List (Int × Int)) × Int) ⊕ Tstorage_Storage)) :=
  if decide (x87 < (xs42.length : Int)) then
  (storage_Storage_May (⟨xs71, xs75, xs79, xs83, xs86⟩ : Tstorage_Storage) x58 (w64 (x87 + 1))).bind fun x126 =>
  if x126 then
  (storage_Storage_Go (⟨xs71, xs75, xs79, xs83, xs86⟩ : Tstorage_Storage) x58 (w64 (x87 + 1))).bind fun x142 =>
  storage_Storage_Settle_k1 x87 x142.2.events x142.2.seen x142.2.has x142.2.now x142.2.last
  else
  storage_Storage_Settle_k1 x87 xs71 xs75 xs79 xs83 xs86
  else
  (some (Sum.inl (xs71, xs75, xs79, xs83, xs86, w64 (x58 + 1)))).map Sum.inr
noncomputable def storage_Storage_Settle_l2 (xs42 : List Tref16_Event) (x58 : Int) (xs71 : List Tref16_Event) (xs75 : List (List Int)) (xs79 : List (List (Int × Bool))) (xs83 : List (List (Int × Int))) (xs86 : List (Int × Int)) (x87 : Int) : Option (((List Tref16_Event) × (List (List Int)) × (List (List (Int × Bool))) × (List (List (Int × Int))) × (List (Int × Int)) × Int) ⊕ Tstorage_Storage) := loopO (fun s => storage_Storage_Settle_l2b xs42 x58 s.1 s.2.1 s.2.2.1 s.2.2.2.1 s.2.2.2.2.1 s.2.2.2.2.2) (xs71, xs75, xs79, xs83, xs86, x87)
noncomputable def storage_Storage_Settle_l1b (x34 : Int) (xs42 : List Tref16_Event) (xs46 : List (List Int)) (xs50 : List (List (Int × Bool))) (xs54 : List (List (Int × Int))) (xs57 : List (Int × Int)) (x58 : Int) : Option (((List Tref16_Event) × (List (List Int)) × (List (List (Int × Bool))) × (List (List (Int × Int))) × (List (Int × Int)) × Int) ⊕ Tstorage_Storage) :=
  if decide (x58 < x34) then
  storage_Storage_Settle_l2 xs42 x58 xs42 xs46 xs50 xs54 xs57 0
  else
  (some (⟨xs42, xs46, xs50, xs54, xs57⟩ : Tstorage_Storage)).map Sum.inr
noncomputable def storage_Storage_Settle_l1 (x34 : Int) (xs42 : List Tref16_Event) (xs46 : List (List Int)) (xs50 : List (List (Int × Bool))) (xs54 : List (List (Int × Int))) (xs57 : List (Int × Int)) (x58 : Int) : Option Tstorage_Storage := loopO (fun s => storage_Storage_Settle_l1b x34 s.1 s.2.1 s.2.2.1 s.2.2.2.1 s.2.2.2.2.1 s.2.2.2.2.2) (xs42, xs46, xs50, xs54, xs57, x58)
noncomputable def storage_Storage_Settle (p0 : Tstorage_Storage) : Option Tstorage_Storage :=
  (storage_Storage_Threads p0).bind fun x34 =>
  storage_Storage_Settle_l1 x34 p0.events p0.seen p0.has p0.now p0.last 0
noncomputable def slices_Clone (p0 : List Tref16_Event) : Option (List Tref16_Event) :=
  (ap [] p0).bind fun xs15 =>
  some xs15
noncomputable def storage_Storage_Events (p0 : Tstorage_Storage) : Option (List Tref16_Event) :=
  (slices_Clone p0.events).bind fun x20 =>
  some x20
noncomputable def storage_Storage_Acked_l1b (p0 : Tstorage_Storage) (p1 : Int) (x47 : Int) : Option (Int ⊕ Bool) :=
  if decide (x47 < (p0.seen.length : Int)) then
  (storage_Storage_Seen p0 x47 p1).bind fun x66 =>
  if !x66 then
  (some false).map Sum.inr
  else
  some (Sum.inl (w64 (x47 + 1)))
  else
  (some true).map Sum.inr
noncomputable def storage_Storage_Acked_l1 (p0 : Tstorage_Storage) (p1 : Int) (x47 : Int) : Option Bool := loopO (fun s => storage_Storage_Acked_l1b p0 p1 s) x47
noncomputable def storage_Storage_Acked (p0 : Tstorage_Storage) (p1 : Int) : Option Bool :=
  (if (decide (p1 < 1)) || (decide ((p0.events.length : Int) < p1)) then
  some true
  else
  (ix p0.events (w64 (p1 - 1))).bind fun x88 =>
  some (!x88.bar)).bind fun y27 =>
  if y27 then
  some false
  else
  storage_Storage_Acked_l1 p0 p1 0
noncomputable def ref16_Storage_Acked_l1b (p0 : Tref16_Storage) (p1 : Int) (x39 : Int) : Option (Int ⊕ Bool) :=
  if decide (x39 < p0.n) then
  (ref16_Storage_Has p0 x39 p1).bind fun x55 =>
  if !x55 then
  (some false).map Sum.inr
  else
  some (Sum.inl (w64 (x39 + 1)))
  else
  (some true).map Sum.inr
noncomputable def ref16_Storage_Acked_l1 (p0 : Tref16_Storage) (p1 : Int) (x39 : Int) : Option Bool := loopO (fun s => ref16_Storage_Acked_l1b p0 p1 s) x39
noncomputable def ref16_Storage_Acked (p0 : Tref16_Storage) (p1 : Int) : Option Bool :=
  (if (decide (p1 < 1)) || (decide ((p0.e.length : Int) < p1)) then
  some true
  else
  (ix p0.e (w64 (p1 - 1))).bind fun x77 =>
  some (!x77.bar)).bind fun y19 =>
  if y19 then
  some false
  else
  ref16_Storage_Acked_l1 p0 p1 0
noncomputable def ref16_Storage_Read_k1 (x10 : Int) (x23 : Int) : Option ((Int × Int) ⊕ (Int × Int)) :=
  some (Sum.inl (x23, w64 (x10 + 1)))
noncomputable def ref16_Storage_Read_l1b (p0 : Tref16_Storage) (p1 : Int) (p2 : Int) (x9 : Int) (x10 : Int) : Option ((Int × Int) ⊕ (Int × Int)) :=
  if decide (x10 ≤ (p0.e.length : Int)) then
  (ref16_Storage_Has p0 p1 x10).bind fun x31 =>
  (if x31 then
  (ix p0.e (w64 (x10 - 1))).bind fun x96 =>
  some (!x96.bar)
  else
  some false).bind fun y39 =>
  (if y39 then
  (ix p0.e (w64 (x10 - 1))).bind fun x77 =>
  some (decide (x77.at_ = p2))
  else
  some false).bind fun y55 =>
  if y55 then
  ref16_Storage_Read_k1 x10 x10
  else
  ref16_Storage_Read_k1 x10 x9
  else
  (if decide (x9 = 0) then
  some (0, 0)
  else
  (ix p0.e (w64 (x9 - 1))).bind fun x119 =>
  some (x119.val, x9)).map Sum.inr
noncomputable def ref16_Storage_Read_l1 (p0 : Tref16_Storage) (p1 : Int) (p2 : Int) (x9 : Int) (x10 : Int) : Option (Int × Int) := loopO (fun s => ref16_Storage_Read_l1b p0 p1 p2 s.1 s.2) (x9, x10)
noncomputable def ref16_Storage_Read (p0 : Tref16_Storage) (p1 : Int) (p2 : Int) : Option (Int × Int) :=
  ref16_Storage_Read_l1 p0 p1 p2 0 1
noncomputable def storage_Storage_Order (p0 : Tstorage_Storage) (p1 : Int) : Option (List Int) :=
  (storage_Storage_Events p0).bind fun l => orderO (l.map fun e => (e.thread, e.bar, e.at_, e.val)) p1
noncomputable def ref16_Storage_Order_k1 (x14 : Int) (xs35 : List Int) : Option (((List Int) × Int) ⊕ (List Int)) :=
  some (Sum.inl (xs35, w64 (x14 + 1)))
noncomputable def ref16_Storage_Order_l1b (p0 : Tref16_Storage) (p1 : Int) (xs13 : List Int) (x14 : Int) : Option (((List Int) × Int) ⊕ (List Int)) :=
  if decide (x14 < (p0.e.length : Int)) then
  (ix p0.e x14).bind fun x40 =>
  if (!x40.bar) && (decide (x40.at_ = p1)) then
  (ap xs13 [w64 (x14 + 1)]).bind fun xs76 =>
  ref16_Storage_Order_k1 x14 xs76
  else
  ref16_Storage_Order_k1 x14 xs13
  else
  (some xs13).map Sum.inr
noncomputable def ref16_Storage_Order_l1 (p0 : Tref16_Storage) (p1 : Int) (xs13 : List Int) (x14 : Int) : Option (List Int) := loopO (fun s => ref16_Storage_Order_l1b p0 p1 s.1 s.2) (xs13, x14)
noncomputable def ref16_Storage_Order (p0 : Tref16_Storage) (p1 : Int) : Option (List Int) :=
  ref16_Storage_Order_l1 p0 p1 [] 0
noncomputable def storage_Storage_Last (p0 : Tstorage_Storage) (p1 : Int) : Option Int :=
  some ((mG p0.last p1).getD 0)
noncomputable def law16_same_l3b (p0 : Tstorage_Storage) (p1 : Tref16_Storage) (x119 : Int) (x132 : Int) : Option (Int ⊕ (Int ⊕ Bool)) :=
  if decide (x132 ≤ p1.n) then
  (storage_Storage_Seen p0 x132 x119).bind fun x151 =>
  (ref16_Storage_Has p1 x132 x119).bind fun x162 =>
  (if !(x151 == x162) then
  some true
  else
  (storage_Storage_May p0 x132 x119).bind fun x225 =>
  (ref16_Storage_May p1 x132 x119).bind fun x236 =>
  some (!(x225 == x236))).bind fun y170 =>
  if y170 then
  ((some false).map Sum.inr).map Sum.inr
  else
  some (Sum.inl (w64 (x132 + 1)))
  else
  ((storage_Storage_Acked p0 x119).bind fun x253 =>
  (ref16_Storage_Acked p1 x119).bind fun x264 =>
  if !(x253 == x264) then
  (some false).map Sum.inr
  else
  some (Sum.inl (w64 (x119 + 1)))).map Sum.inr
noncomputable def law16_same_l3 (p0 : Tstorage_Storage) (p1 : Tref16_Storage) (x119 : Int) (x132 : Int) : Option (Int ⊕ Bool) := loopO (fun s => law16_same_l3b p0 p1 x119 s) x132
noncomputable def law16_same_l5b (p0 : Tstorage_Storage) (p2 : Tlaw16_Call) (x382 : List Int) (x395 : List Int) (x421 : Int) (x422 : Int) : Option ((Int × Int) ⊕ Bool) :=
  if decide (x422 < (x382.length : Int)) then
  (ix x382 x422).bind fun x447 =>
  (ix x395 x422).bind fun x461 =>
  if decide (x447 ≠ x461) then
  (some false).map Sum.inr
  else
  (ix x382 x422).bind fun x483 =>
  some (Sum.inl (x483, w64 (x422 + 1)))
  else
  ((storage_Storage_Last p0 p2.at_).bind fun x500 =>
  some (decide (x500 = x421))).map Sum.inr
noncomputable def law16_same_l5 (p0 : Tstorage_Storage) (p2 : Tlaw16_Call) (x382 : List Int) (x395 : List Int) (x421 : Int) (x422 : Int) : Option Bool := loopO (fun s => law16_same_l5b p0 p2 x382 x395 s.1 s.2) (x421, x422)
noncomputable def law16_same_l4b (p0 : Tstorage_Storage) (p1 : Tref16_Storage) (p2 : Tlaw16_Call) (x303 : Int) : Option (Int ⊕ Bool) :=
  if decide (x303 ≤ p1.n) then
  (storage_Storage_Read p0 x303 p2.at_).bind fun x323 =>
  (ref16_Storage_Read p1 x303 p2.at_).bind fun x334 =>
  if (decide (x323.1 ≠ x334.1)) || (decide (x323.2 ≠ x334.2)) then
  (some false).map Sum.inr
  else
  some (Sum.inl (w64 (x303 + 1)))
  else
  ((storage_Storage_Order p0 p2.at_).bind fun x382 =>
  (ref16_Storage_Order p1 p2.at_).bind fun x395 =>
  if decide ((x382.length : Int) ≠ (x395.length : Int)) then
  some false
  else
  law16_same_l5 p0 p2 x382 x395 0 0).map Sum.inr
noncomputable def law16_same_l4 (p0 : Tstorage_Storage) (p1 : Tref16_Storage) (p2 : Tlaw16_Call) (x303 : Int) : Option Bool := loopO (fun s => law16_same_l4b p0 p1 p2 s) x303
noncomputable def law16_same_l2b (p0 : Tstorage_Storage) (p1 : Tref16_Storage) (p2 : Tlaw16_Call) (x36 : List Tref16_Event) (x119 : Int) : Option (Int ⊕ Bool) :=
  if decide (x119 ≤ (w64 ((x36.length : Int) + 1))) then
  law16_same_l3 p0 p1 x119 (-1)
  else
  (law16_same_l4 p0 p1 p2 (-1)).map Sum.inr
noncomputable def law16_same_l2 (p0 : Tstorage_Storage) (p1 : Tref16_Storage) (p2 : Tlaw16_Call) (x36 : List Tref16_Event) (x119 : Int) : Option Bool := loopO (fun s => law16_same_l2b p0 p1 p2 x36 s) x119
noncomputable def law16_same_l1b (p0 : Tstorage_Storage) (p1 : Tref16_Storage) (p2 : Tlaw16_Call) (x36 : List Tref16_Event) (x57 : Int) : Option (Int ⊕ Bool) :=
  if decide (x57 < (x36.length : Int)) then
  (ix x36 x57).bind fun x70 =>
  (ix p1.e x57).bind fun x92 =>
  if !((decide (x70.thread = x92.thread)) && ((x70.bar == x92.bar) && ((decide (x70.at_ = x92.at_)) && ((decide (x70.val = x92.val)) && true)))) then
  (some false).map Sum.inr
  else
  some (Sum.inl (w64 (x57 + 1)))
  else
  (law16_same_l2 p0 p1 p2 x36 0).map Sum.inr
noncomputable def law16_same_l1 (p0 : Tstorage_Storage) (p1 : Tref16_Storage) (p2 : Tlaw16_Call) (x36 : List Tref16_Event) (x57 : Int) : Option Bool := loopO (fun s => law16_same_l1b p0 p1 p2 x36 s) x57
noncomputable def law16_same_k1 (p0 : Tstorage_Storage) (p1 : Tref16_Storage) (p2 : Tlaw16_Call) (x36 : List Tref16_Event) (x46 : Bool) : Option Bool :=
  if x46 then
  some false
  else
  law16_same_l1 p0 p1 p2 x36 0
noncomputable def law16_same (p0 : Tstorage_Storage) (p1 : Tref16_Storage) (p2 : Tlaw16_Call) : Option Bool :=
  (storage_Storage_Events p0).bind fun x36 =>
  (storage_Storage_Threads p0).bind fun x518 =>
  if decide (x518 ≠ p1.n) then
  law16_same_k1 p0 p1 p2 x36 true
  else
  law16_same_k1 p0 p1 p2 x36 (decide ((x36.length : Int) ≠ (p1.e.length : Int)))
noncomputable def storage_Storage_Threads_2 : Option Int :=
  some 0
noncomputable def storage_Storage_Settle_2_l1b (x1 : Int) : Option (Unit ⊕ Unit) :=
  if decide (0 < x1) then
  none
  else
  (some ()).map Sum.inr
noncomputable def storage_Storage_Settle_2_l1 (x1 : Int) : Option Unit := loopO (fun s => storage_Storage_Settle_2_l1b x1 ) ()
noncomputable def storage_Storage_Settle_2 : Option Unit :=
  (storage_Storage_Threads_2).bind fun x1 =>
  storage_Storage_Settle_2_l1 x1
noncomputable def storage_Storage_thread_2 (p1 : Int) : Option Bool :=
  some false
noncomputable def storage_Storage_Read_2 (p1 : Int) (p2 : Int) : Option (Int × Int) :=
  (storage_Storage_thread_2 p1).bind fun x1 =>
  if !x1 then
  some (0, 0)
  else
  none
noncomputable def storage_Storage_Go_2 (p1 : Int) (p2 : Int) : Option Int :=
  some 2
noncomputable def storage_Storage_Write_2 (p1 : Int) (p2 : Int) (p3 : Int) : Option Int :=
  (storage_Storage_thread_2 p1).bind fun x1 =>
  if !x1 then
  some 0
  else
  none
noncomputable def storage_Storage_Barrier_2 (p1 : Int) : Option Int :=
  (storage_Storage_thread_2 p1).bind fun x1 =>
  if !x1 then
  some 0
  else
  none
noncomputable def storage_Storage_Last_2 (p1 : Int) : Option Int :=
  some 0
noncomputable def storage_Storage_Events_2 : Option (List Tref16_Event) :=
  some []
noncomputable def storage_Storage_Order_2 (p1 : Int) : Option (List Int) :=
  orderO [] p1
noncomputable def storage_Storage_Seen_2 (p1 : Int) (p2 : Int) : Option Bool :=
  (storage_Storage_thread_2 p1).bind fun x1 =>
  (if x1 then
  none
  else
  some false).bind fun y9 =>
  some y9
noncomputable def storage_Storage_May_2 (p1 : Int) (p2 : Int) : Option Bool :=
  (storage_Storage_thread_2 p1).bind fun x1 =>
  (if (!x1) || (decide (p2 < 1)) then
  some true
  else
  none).bind fun y14 =>
  (if y14 then
  some true
  else
  (storage_Storage_Seen_2 p1 p2).bind fun x45 =>
  some x45).bind fun y27 =>
  if y27 then
  some false
  else
  none
noncomputable def storage_Storage_Acked_2 (p1 : Int) : Option Bool :=
  some false
noncomputable def law16_StorageDoes_k1 (x87 : Int) (x109 : Tlaw16_Call) (xs130 : List Tref16_Event) (xs134 : List (List Int)) (xs138 : List (List (Int × Bool))) (xs142 : List (List (Int × Int))) (xs145 : List (Int × Int)) (x146 : Int) (xs149 : List Tref16_Event) (xs153 : List (List Int)) : Option (((List Tref16_Event) × (List (List Int)) × (List (List (Int × Bool))) × (List (List (Int × Int))) × (List (Int × Int)) × Int × (List Tref16_Event) × (List (List Int)) × Int) ⊕ Bool) :=
  (law16_same (⟨xs130, xs134, xs138, xs142, xs145⟩ : Tstorage_Storage) (⟨x146, xs149, xs153⟩ : Tref16_Storage) x109).bind fun x167 =>
  if !x167 then
  (some false).map Sum.inr
  else
  some (Sum.inl (xs130, xs134, xs138, xs142, xs145, x146, xs149, xs153, w64 (x87 + 1)))
noncomputable def law16_StorageDoes_k2 (x501 : Int) (xs515 : List (List Int)) : Option (((List (List Int)) × Int) ⊕ (((List (List Int)) × Int) ⊕ (((List Tref16_Event) × (List (List Int)) × (List (List (Int × Bool))) × (List (List (Int × Int))) × (List (Int × Int)) × Int × (List Tref16_Event) × (List (List Int)) × Int) ⊕ Bool))) :=
  some (Sum.inl (xs515, w64 (x501 + 1)))
noncomputable def law16_StorageDoes_l3b (x79 : Int) (xs82 : List Tref16_Event) (x476 : Int) (xs500 : List (List Int)) (x501 : Int) : Option (((List (List Int)) × Int) ⊕ (((List (List Int)) × Int) ⊕ (((List Tref16_Event) × (List (List Int)) × (List (List (Int × Bool))) × (List (List (Int × Int))) × (List (Int × Int)) × Int × (List Tref16_Event) × (List (List Int)) × Int) ⊕ Bool))) :=
  if decide (x501 ≤ (xs82.length : Int)) then
  (ref16_Storage_May (⟨x79, xs82, xs500⟩ : Tref16_Storage) x476 x501).bind fun x523 =>
  if x523 then
  (ix xs500 x476).bind fun x533 =>
  (ap x533 [x501]).bind fun xs551 =>
  (ix xs500 x476).bind fun x559 =>
  law16_StorageDoes_k2 x501 (xs500.set (Int.toNat x476) xs551)
  else
  law16_StorageDoes_k2 x501 xs500
  else
  (some (Sum.inl (xs500, w64 (x476 + 1)))).map Sum.inr
noncomputable def law16_StorageDoes_l3 (x79 : Int) (xs82 : List Tref16_Event) (x476 : Int) (xs500 : List (List Int)) (x501 : Int) : Option (((List (List Int)) × Int) ⊕ (((List Tref16_Event) × (List (List Int)) × (List (List (Int × Bool))) × (List (List (Int × Int))) × (List (Int × Int)) × Int × (List Tref16_Event) × (List (List Int)) × Int) ⊕ Bool)) := loopO (fun s => law16_StorageDoes_l3b x79 xs82 x476 s.1 s.2) (xs500, x501)
noncomputable def law16_StorageDoes_l2b (x79 : Int) (xs82 : List Tref16_Event) (x87 : Int) (x109 : Tlaw16_Call) (x455 : Tstorage_Storage) (xs475 : List (List Int)) (x476 : Int) : Option (((List (List Int)) × Int) ⊕ (((List Tref16_Event) × (List (List Int)) × (List (List (Int × Bool))) × (List (List (Int × Int))) × (List (Int × Int)) × Int × (List Tref16_Event) × (List (List Int)) × Int) ⊕ Bool)) :=
  if decide (x476 < x79) then
  law16_StorageDoes_l3 x79 xs82 x476 xs475 1
  else
  (law16_StorageDoes_k1 x87 x109 x455.events x455.seen x455.has x455.now x455.last x79 xs82 xs475).map Sum.inr
noncomputable def law16_StorageDoes_l2 (x79 : Int) (xs82 : List Tref16_Event) (x87 : Int) (x109 : Tlaw16_Call) (x455 : Tstorage_Storage) (xs475 : List (List Int)) (x476 : Int) : Option (((List Tref16_Event) × (List (List Int)) × (List (List (Int × Bool))) × (List (List (Int × Int))) × (List (Int × Int)) × Int × (List Tref16_Event) × (List (List Int)) × Int) ⊕ Bool) := loopO (fun s => law16_StorageDoes_l2b x79 xs82 x87 x109 x455 s.1 s.2) (xs475, x476)
noncomputable def law16_StorageDoes_l1b (p1 : List Tlaw16_Call) (xs63 : List Tref16_Event) (xs67 : List (List Int)) (xs71 : List (List (Int × Bool))) (xs75 : List (List (Int × Int))) (xs78 : List (Int × Int)) (x79 : Int) (xs82 : List Tref16_Event) (xs86 : List (List Int)) (x87 : Int) : Option (((List Tref16_Event) × (List (List Int)) × (List (List (Int × Bool))) × (List (List (Int × Int))) × (List (Int × Int)) × Int × (List Tref16_Event) × (List (List Int)) × Int) ⊕ Bool) :=
  if decide (x87 < (p1.length : Int)) then
  (ix p1 x87).bind fun x109 =>
  if decide (x109.kind = 0) then
  (storage_Storage_Write (⟨xs63, xs67, xs71, xs75, xs78⟩ : Tstorage_Storage) x109.t x109.at_ x109.val).bind fun x201 =>
  (ref16_Storage_Accept (⟨x79, xs82, xs86⟩ : Tref16_Storage) (⟨x109.t, false, x109.at_, x109.val⟩ : Tref16_Event)).bind fun x225 =>
  if decide (x201.1 ≠ x225.1) then
  (some false).map Sum.inr
  else
  law16_StorageDoes_k1 x87 x109 x201.2.events x201.2.seen x201.2.has x201.2.now x201.2.last x225.2.n x225.2.e x225.2.come
  else
  if decide (x109.kind = 1) then
  (storage_Storage_Barrier (⟨xs63, xs67, xs71, xs75, xs78⟩ : Tstorage_Storage) x109.t).bind fun x272 =>
  (ref16_Storage_Accept (⟨x79, xs82, xs86⟩ : Tref16_Storage) (⟨x109.t, true, 0, 0⟩ : Tref16_Event)).bind fun x296 =>
  if decide (x272.1 ≠ x296.1) then
  (some false).map Sum.inr
  else
  law16_StorageDoes_k1 x87 x109 x272.2.events x272.2.seen x272.2.has x272.2.now x272.2.last x296.2.n x296.2.e x296.2.come
  else
  if decide (x109.kind = 2) then
  (ref16_Storage_May (⟨x79, xs82, xs86⟩ : Tref16_Storage) x109.t x109.n).bind fun x340 =>
  (storage_Storage_Go (⟨xs63, xs67, xs71, xs75, xs78⟩ : Tstorage_Storage) x109.t x109.n).bind fun x354 =>
  if (!((decide (x354.1 = 0)) == x340)) || ((!x340) && (decide (x354.1 ≠ 1))) then
  (some false).map Sum.inr
  else
  if x340 then
  (ix xs86 x109.t).bind fun x399 =>
  (ap x399 [x109.n]).bind fun xs417 =>
  (ix xs86 x109.t).bind fun x425 =>
  law16_StorageDoes_k1 x87 x109 x354.2.events x354.2.seen x354.2.has x354.2.now x354.2.last x79 xs82 (xs86.set (Int.toNat x109.t) xs417)
  else
  law16_StorageDoes_k1 x87 x109 x354.2.events x354.2.seen x354.2.has x354.2.now x354.2.last x79 xs82 xs86
  else
  if decide (x109.kind = 3) then
  (storage_Storage_Settle (⟨xs63, xs67, xs71, xs75, xs78⟩ : Tstorage_Storage)).bind fun x455 =>
  law16_StorageDoes_l2 x79 xs82 x87 x109 x455 xs86 0
  else
  law16_StorageDoes_k1 x87 x109 xs63 xs67 xs71 xs75 xs78 x79 xs82 xs86
  else
  ((storage_Storage_Settle_2).bind fun x606 =>
  (storage_Storage_Read_2 0 0).bind fun x614 =>
  (storage_Storage_Go_2 0 1).bind fun x622 =>
  (if decide (x622 = 2) then
  (storage_Storage_Write_2 0 0 0).bind fun x738 =>
  (storage_Storage_Barrier_2 0).bind fun x746 =>
  (storage_Storage_Last_2 0).bind fun x754 =>
  (storage_Storage_Threads_2).bind fun x762 =>
  (storage_Storage_Events_2).bind fun x770 =>
  (storage_Storage_Order_2 0).bind fun x780 =>
  some (decide ((w64 ((w64 ((w64 ((w64 ((w64 ((w64 ((w64 (x614.1 + x614.2)) + x738)) + x746)) + x754)) + x762)) + (x770.length : Int))) + (x780.length : Int))) = 0))
  else
  some false).bind fun y630 =>
  (if y630 then
  (storage_Storage_Seen_2 0 1).bind fun x725 =>
  some (!x725)
  else
  some false).bind fun y660 =>
  (if y660 then
  (storage_Storage_May_2 0 1).bind fun x712 =>
  some (!x712)
  else
  some false).bind fun y669 =>
  (if y669 then
  (storage_Storage_Acked_2 1).bind fun x699 =>
  some (!x699)
  else
  some false).bind fun y678 =>
  some y678).map Sum.inr
noncomputable def law16_StorageDoes_l1 (p1 : List Tlaw16_Call) (xs63 : List Tref16_Event) (xs67 : List (List Int)) (xs71 : List (List (Int × Bool))) (xs75 : List (List (Int × Int))) (xs78 : List (Int × Int)) (x79 : Int) (xs82 : List Tref16_Event) (xs86 : List (List Int)) (x87 : Int) : Option Bool := loopO (fun s => law16_StorageDoes_l1b p1 s.1 s.2.1 s.2.2.1 s.2.2.2.1 s.2.2.2.2.1 s.2.2.2.2.2.1 s.2.2.2.2.2.2.1 s.2.2.2.2.2.2.2.1 s.2.2.2.2.2.2.2.2) (xs63, xs67, xs71, xs75, xs78, x79, xs82, xs86, x87)
noncomputable def law16_StorageDoes (p0 : Int) (p1 : List Tlaw16_Call) : Option Bool :=
  (law16_alive).bind fun x3 =>
  if !x3 then
  some false
  else
  if decide (30 < (p1.length : Int)) then
  some true
  else
  (storage_New p0).bind fun x21 =>
  (ref16_New p0).bind fun x45 =>
  law16_StorageDoes_l1 p1 x21.events x21.seen x21.has x21.now x21.last x45.n x45.e x45.come 0
end Go.Vm.G16s
