/-
 What functions compute, as plain functions.
-/
import Derived.Test.YtbmkccjfldmgiaaESp12
set_option linter.unusedSimpArgs false
set_option linter.unusedVariables false
namespace Go.Vm.GA21
open Go
def fnt46 : List Value := [.func (.func 26) #[] #[], .func (.func 27) #[] #[], .func (.func 28) #[] #[], .func (.func 29) #[] #[], .func (.func 30) #[] #[], .func (.func 54) #[] #[]]
structure TAct where
 kind : Int
 at_ : Int
 val : Int
 what : Int
 volatile : Bool
 final : Bool
def RT_TAct : RT TAct := ⟨6, fun V cs x => cs = [.int .i64 x.kind, .int .i64 x.at_, .int .i64 x.val, .int .i64 x.what, .bool x.volatile, .bool x.final], ⟨fun _ _ _ h => by rw [h]; rfl, fun _ _ _ h => by rw [h]; rfl, fun _ _ _ _ he h => h⟩⟩
structure TEvent where
 t : Int
 act : TAct
 rf : Int
 id : Int
def RT_TEvent : RT TEvent := ⟨9, fun V cs x => cs = [.int .i64 x.t, .int .i64 x.act.kind, .int .i64 x.act.at_, .int .i64 x.act.val, .int .i64 x.act.what, .bool x.act.volatile, .bool x.act.final, .int .i64 x.rf, .int .i64 x.id], ⟨fun _ _ _ h => by rw [h]; rfl, fun _ _ _ h => by rw [h]; rfl, fun _ _ _ _ he h => h⟩⟩
structure Tnd where
 e : TEvent
 at_ : Int
def RT_Tnd : RT Tnd := ⟨10, fun V cs x => cs = [.int .i64 x.e.t, .int .i64 x.e.act.kind, .int .i64 x.e.act.at_, .int .i64 x.e.act.val, .int .i64 x.e.act.what, .bool x.e.act.volatile, .bool x.e.act.final, .int .i64 x.e.rf, .int .i64 x.e.id, .int .i64 x.at_], ⟨fun _ _ _ h => by rw [h]; rfl, fun _ _ _ h => by rw [h]; rfl, fun _ _ _ _ he h => h⟩⟩
structure Tref21_Node where
 e : TEvent
 at_ : Int
def RT_Tref21_Node : RT Tref21_Node := ⟨10, fun V cs x => cs = [.int .i64 x.e.t, .int .i64 x.e.act.kind, .int .i64 x.e.act.at_, .int .i64 x.e.act.val, .int .i64 x.e.act.what, .bool x.e.act.volatile, .bool x.e.act.final, .int .i64 x.e.rf, .int .i64 x.e.id, .int .i64 x.at_], ⟨fun _ _ _ h => by rw [h]; rfl, fun _ _ _ h => by rw [h]; rfl, fun _ _ _ _ he h => h⟩⟩
def str1 : ByteArray := ⟨(([0, 1, 2, 2, 3, 3, 3, 3, 4, 4, 4, 4, 4, 4, 4, 4, 5, 5, 5, 5, 5, 5, 5, 5, 5, 5, 5, 5, 5, 5, 5, 5, 6, 6, 6, 6, 6, 6, 6, 6, 6, 6, 6, 6, 6, 6, 6, 6, 6, 6, 6, 6, 6, 6, 6, 6, 6, 6, 6, 6, 6, 6, 6, 6].append [7, 7, 7, 7, 7, 7, 7, 7, 7, 7, 7, 7, 7, 7, 7, 7, 7, 7, 7, 7, 7, 7, 7, 7, 7, 7, 7, 7, 7, 7, 7, 7, 7, 7, 7, 7, 7, 7, 7, 7, 7, 7, 7, 7, 7, 7, 7, 7, 7, 7, 7, 7, 7, 7, 7, 7, 7, 7, 7, 7, 7, 7, 7, 7]).append ([8, 8, 8, 8, 8, 8, 8, 8, 8, 8, 8, 8, 8, 8, 8, 8, 8, 8, 8, 8, 8, 8, 8, 8, 8, 8, 8, 8, 8, 8, 8, 8, 8, 8, 8, 8, 8, 8, 8, 8, 8, 8, 8, 8, 8, 8, 8, 8, 8, 8, 8, 8, 8, 8, 8, 8, 8, 8, 8, 8, 8, 8, 8, 8].append [8, 8, 8, 8, 8, 8, 8, 8, 8, 8, 8, 8, 8, 8, 8, 8, 8, 8, 8, 8, 8, 8, 8, 8, 8, 8, 8, 8, 8, 8, 8, 8, 8, 8, 8, 8, 8, 8, 8, 8, 8, 8, 8, 8, 8, 8, 8, 8, 8, 8, 8, 8, 8, 8, 8, 8, 8, 8, 8, 8, 8, 8, 8, 8])).toArray⟩
noncomputable def law21_w (p0 : Int) (p1 : Int) (p2 : Int) : Option TEvent :=
  some (⟨p0, (⟨2, p1, 1, 0, false, false⟩ : TAct), 0, p2⟩ : TEvent)
noncomputable def law21_r (p0 : Int) (p1 : Int) (p2 : Int) : Option TEvent :=
  some (⟨p0, (⟨1, p1, 0, 0, false, false⟩ : TAct), p2, 0⟩ : TEvent)
noncomputable def order_writes (p0 : TAct) : Option Bool :=
  some (((decide (p0.kind = 2)) || (decide (p0.kind = 5))) || (decide (p0.kind = 6)))
noncomputable def order_reads (p0 : TAct) : Option Bool :=
  some ((decide (p0.kind = 1)) || (decide (p0.kind = 5)))
noncomputable def order_every (p0 : TAct) : Option Bool :=
  some true
noncomputable def order_Run_nodes_k1 (x43 : Int) (xs58 : List Tnd) : Option (((List Tnd) × Int) ⊕ (((List Tnd) × Int) ⊕ (List Tnd))) :=
  some (Sum.inl (xs58, w64 (x43 + 1)))
noncomputable def order_Run_nodes_l2b (p0 : List (List TEvent)) (x9 : Int) (x26 : List TEvent) (xs42 : List Tnd) (x43 : Int) : Option (((List Tnd) × Int) ⊕ (((List Tnd) × Int) ⊕ (List Tnd))) :=
  if decide (x43 < (x26.length : Int)) then
  (ix p0 x9).bind fun x63 =>
  (ix x63 x43).bind fun x70 =>
  (order_writes x70.act).bind fun x92 =>
  (if x92 then
  some true
  else
  (order_reads x70.act).bind fun x156 =>
  some x156).bind fun y101 =>
  (if y101 then
  (order_every x70.act).bind fun x141 =>
  some x141
  else
  some false).bind fun y110 =>
  if y110 then
  (ap xs42 [(⟨x70, x43⟩ : Tnd)]).bind fun xs127 =>
  order_Run_nodes_k1 x43 xs127
  else
  order_Run_nodes_k1 x43 xs42
  else
  (some (Sum.inl (xs42, w64 (x9 + 1)))).map Sum.inr
noncomputable def order_Run_nodes_l2 (p0 : List (List TEvent)) (x9 : Int) (x26 : List TEvent) (xs42 : List Tnd) (x43 : Int) : Option (((List Tnd) × Int) ⊕ (List Tnd)) := loopO (fun s => order_Run_nodes_l2b p0 x9 x26 s.1 s.2) (xs42, x43)
noncomputable def order_Run_nodes_l1b (p0 : List (List TEvent)) (xs8 : List Tnd) (x9 : Int) : Option (((List Tnd) × Int) ⊕ (List Tnd)) :=
  if decide (x9 < (p0.length : Int)) then
  (ix p0 x9).bind fun x26 =>
  order_Run_nodes_l2 p0 x9 x26 xs8 0
  else
  (some xs8).map Sum.inr
noncomputable def order_Run_nodes_l1 (p0 : List (List TEvent)) (xs8 : List Tnd) (x9 : Int) : Option (List Tnd) := loopO (fun s => order_Run_nodes_l1b p0 s.1 s.2) (xs8, x9)
noncomputable def order_Run_nodes (p0 : List (List TEvent)) : Option (List Tnd) :=
  order_Run_nodes_l1 p0 [] 0
noncomputable def order_po (p0 : Tnd) (p1 : Tnd) : Option Bool :=
  some ((decide (p0.e.t = p1.e.t)) && (decide (p0.at_ < p1.at_)))
noncomputable def order_Run_Coherent_c1 (p0 : Tnd) (p1 : Tnd) : Option Bool :=
  (order_po p0 p1).bind fun x11 =>
  some (x11 && (decide (p0.e.act.at_ = p1.e.act.at_)))
noncomputable def order_rf (p0 : Tnd) (p1 : Tnd) : Option Bool :=
  (if decide (0 < p0.e.id) then
  (order_reads p1.e.act).bind fun x37 =>
  some x37
  else
  some false).bind fun y11 =>
  some (y11 && (decide (p1.e.rf = p0.e.id)))
noncomputable def order_co (p0 : Tnd) (p1 : Tnd) : Option Bool :=
  (order_writes p0.e.act).bind fun x11 =>
  (if x11 then
  (order_writes p1.e.act).bind fun x58 =>
  some x58
  else
  some false).bind fun y19 =>
  some ((y19 && (decide (p0.e.act.at_ = p1.e.act.at_))) && (decide (p0.e.id < p1.e.id)))
noncomputable def order_fr (p0 : Tnd) (p1 : Tnd) : Option Bool :=
  (order_reads p0.e.act).bind fun x11 =>
  (if x11 then
  (order_writes p1.e.act).bind fun x65 =>
  some x65
  else
  some false).bind fun y19 =>
  some (((y19 && (decide (p0.e.act.at_ = p1.e.act.at_))) && (decide (p0.e.rf < p1.e.id))) && (!(((decide (p0.e.t = p1.e.t)) && (((decide (p0.e.act.kind = p1.e.act.kind)) && ((decide (p0.e.act.at_ = p1.e.act.at_)) && ((decide (p0.e.act.val = p1.e.act.val)) && ((decide (p0.e.act.what = p1.e.act.what)) && ((p0.e.act.volatile == p1.e.act.volatile) && ((p0.e.act.final == p1.e.act.final) && true)))))) && ((decide (p0.e.rf = p1.e.rf)) && ((decide (p0.e.id = p1.e.id)) && true)))) && ((decide (p0.at_ = p1.at_)) && true))))
noncomputable def order_released (p0 : Tnd) (p1 : Tnd) : Option Bool :=
  some ((((((decide (p0.e.act.kind = 6)) || (p0.e.act.volatile && (decide (p0.e.act.kind = 2)))) && ((decide (p1.e.act.kind = 5)) || (p1.e.act.volatile && (decide (p1.e.act.kind = 1))))) && (decide (p0.e.act.at_ = p1.e.act.at_))) && (decide (0 < p0.e.id))) && (decide (p0.e.id ≤ p1.e.rf)))
noncomputable def order_join_c1 (p0 : Nat) (p1 : Tnd) (p2 : Tnd) : Option Bool :=
  if decide (p0 = 0) then
  (order_Run_Coherent_c1 p1 p2).bind fun x12 =>
  some x12
  else
  if decide (p0 = 1) then
  (order_po p1 p2).bind fun x25 =>
  some x25
  else
  if decide (p0 = 2) then
  (order_rf p1 p2).bind fun x38 =>
  some x38
  else
  if decide (p0 = 3) then
  (order_co p1 p2).bind fun x51 =>
  some x51
  else
  if decide (p0 = 4) then
  (order_fr p1 p2).bind fun x64 =>
  some x64
  else
  if decide (p0 = 5) then
  (order_released p1 p2).bind fun x77 =>
  some x77
  else
  none
noncomputable def slices_IndexFunc_l1b (p0 : List Nat) (p1_10 : Tnd) (p1_11 : Tnd) (x9 : Int) : Option (Int ⊕ Int) :=
  if decide (x9 < (p0.length : Int)) then
  (ix p0 x9).bind fun x22 =>
  (order_join_c1 x22 p1_10 p1_11).bind fun x40 =>
  if x40 then
  (some x9).map Sum.inr
  else
  some (Sum.inl (w64 (x9 + 1)))
  else
  (some (-1)).map Sum.inr
noncomputable def slices_IndexFunc_l1 (p0 : List Nat) (p1_10 : Tnd) (p1_11 : Tnd) (x9 : Int) : Option Int := loopO (fun s => slices_IndexFunc_l1b p0 p1_10 p1_11 s) x9
noncomputable def slices_IndexFunc (p0 : List Nat) (p1_10 : Tnd) (p1_11 : Tnd) : Option Int :=
  slices_IndexFunc_l1 p0 p1_10 p1_11 0
noncomputable def slices_ContainsFunc (p0 : List Nat) (p1_10 : Tnd) (p1_11 : Tnd) : Option Bool :=
  (slices_IndexFunc p0 p1_10 p1_11).bind fun x12 =>
  some (decide (0 ≤ x12))
noncomputable def order_join_k1 (x84 : Int) (xs101 : List (List Bool)) : Option (((List (List Bool)) × Int) ⊕ (((List (List Bool)) × Int) ⊕ (List (List Bool)))) :=
  some (Sum.inl (xs101, w64 (x84 + 1)))
noncomputable def order_join_l2b (p0 : List Tnd) (p1 : List Nat) (x19 : Int) (x35 : Tnd) (xs83 : List (List Bool)) (x84 : Int) : Option (((List (List Bool)) × Int) ⊕ (((List (List Bool)) × Int) ⊕ (List (List Bool)))) :=
  if decide (x84 < (p0.length : Int)) then
  (ix p0 x84).bind fun x106 =>
  (ix xs83 x19).bind fun x123 =>
  if decide (x19 ≠ x84) then
  (slices_ContainsFunc p1 x35 x106).bind fun x136 =>
  (ix xs83 x19).bind fun x147 =>
  (ix x147 x84).bind fun x154 =>
  order_join_k1 x84 (xs83.set (Int.toNat x19) (x147.set (Int.toNat x84) x136))
  else
  (ix xs83 x19).bind fun x178 =>
  (ix x178 x84).bind fun x185 =>
  order_join_k1 x84 (xs83.set (Int.toNat x19) (x178.set (Int.toNat x84) false))
  else
  (some (Sum.inl (xs83, w64 (x19 + 1)))).map Sum.inr
noncomputable def order_join_l2 (p0 : List Tnd) (p1 : List Nat) (x19 : Int) (x35 : Tnd) (xs83 : List (List Bool)) (x84 : Int) : Option (((List (List Bool)) × Int) ⊕ (List (List Bool))) := loopO (fun s => order_join_l2b p0 p1 x19 x35 s.1 s.2) (xs83, x84)
noncomputable def order_join_l1b (p0 : List Tnd) (p1 : List Nat) (xs18 : List (List Bool)) (x19 : Int) : Option (((List (List Bool)) × Int) ⊕ (List (List Bool))) :=
  if decide (x19 < (p0.length : Int)) then
  (ix p0 x19).bind fun x35 =>
  (mk (p0.length : Int) false).bind fun xs57 =>
  (ix xs18 x19).bind fun x65 =>
  order_join_l2 p0 p1 x19 x35 (xs18.set (Int.toNat x19) xs57) 0
  else
  (some xs18).map Sum.inr
noncomputable def order_join_l1 (p0 : List Tnd) (p1 : List Nat) (xs18 : List (List Bool)) (x19 : Int) : Option (List (List Bool)) := loopO (fun s => order_join_l1b p0 p1 s.1 s.2) (xs18, x19)
noncomputable def order_join (p0 : List Tnd) (p1 : List Nat) : Option (List (List Bool)) :=
  (mk (p0.length : Int) ([] : List Bool)).bind fun xs8 =>
  order_join_l1 p0 p1 xs8 0
noncomputable def order_graph_visit_l1b (rec_ : (List (List Bool)) → Int → (List Int) → Option (Bool × (List Int))) (p0 : List (List Bool)) (p1 : Int) (x23 : List Bool) (xs37 : List Int) (x38 : Int) : Option (((List Int) × Int) ⊕ (Bool × (List Int))) :=
  if decide (x38 < (x23.length : Int)) then
  (ix p0 p1).bind fun x51 =>
  (ix x51 x38).bind fun x58 =>
  (if x58 then
  (ix xs37 x38).bind fun x104 =>
  (if decide (x104 = 1) then
  some (true, xs37)
  else
  (ix xs37 x38).bind fun x135 =>
  (if decide (x135 = 0) then
  (rec_ p0 x38 xs37).bind fun x159 =>
  some (x159.1, x159.2)
  else
  some (false, xs37)).bind fun y144 =>
  some (y144.1, y144.2)).bind fun y113 =>
  some (y113.1, y113.2)
  else
  some (false, xs37)).bind fun y73 =>
  if y73.1 then
  (some (true, y73.2)).map Sum.inr
  else
  some (Sum.inl (y73.2, w64 (x38 + 1)))
  else
  ((ix xs37 p1).bind fun x174 =>
  some (false, xs37.set (Int.toNat p1) 2)).map Sum.inr
noncomputable def order_graph_visit_l1 (rec_ : (List (List Bool)) → Int → (List Int) → Option (Bool × (List Int))) (p0 : List (List Bool)) (p1 : Int) (x23 : List Bool) (xs37 : List Int) (x38 : Int) : Option (Bool × (List Int)) := loopO (fun s => order_graph_visit_l1b rec_ p0 p1 x23 s.1 s.2) (xs37, x38)
noncomputable def order_graph_visit_F (rec_ : (List (List Bool)) → Int → (List Int) → Option (Bool × (List Int))) (p0 : List (List Bool)) (p1 : Int) (p2 : List Int) : Option (Bool × (List Int)) :=
  (ix p2 p1).bind fun x6 =>
  (ix p0 p1).bind fun x23 =>
  order_graph_visit_l1 rec_ p0 p1 x23 (p2.set (Int.toNat p1) 1) 0
noncomputable def order_graph_visit (p0 : List (List Bool)) (p1 : Int) (p2 : List Int) : Option (Bool × (List Int)) := recO (fun rec_ a => order_graph_visit_F (fun p0 p1 p2 => rec_ (p0, p1, p2)) a.1 a.2.1 a.2.2) (p0, p1, p2)
noncomputable def order_graph_cyclic_l1b (p0 : List (List Bool)) (xs12 : List Int) (x13 : Int) : Option (((List Int) × Int) ⊕ Bool) :=
  if decide (x13 < (p0.length : Int)) then
  (ix xs12 x13).bind fun x28 =>
  (if decide (x28 = 0) then
  (order_graph_visit p0 x13 xs12).bind fun x62 =>
  some (x62.1, x62.2)
  else
  some (false, xs12)).bind fun y42 =>
  if y42.1 then
  (some true).map Sum.inr
  else
  some (Sum.inl (y42.2, w64 (x13 + 1)))
  else
  (some false).map Sum.inr
noncomputable def order_graph_cyclic_l1 (p0 : List (List Bool)) (xs12 : List Int) (x13 : Int) : Option Bool := loopO (fun s => order_graph_cyclic_l1b p0 s.1 s.2) (xs12, x13)
noncomputable def order_graph_cyclic (p0 : List (List Bool)) : Option Bool :=
  (mk (p0.length : Int) 0).bind fun xs4 =>
  order_graph_cyclic_l1 p0 xs4 0
noncomputable def order_Run_Serial (p0 : List (List TEvent)) : Option Bool :=
  (order_Run_nodes p0).bind fun x4 =>
  (order_join x4 [1, 2, 3, 4]).bind fun x20 =>
  (order_graph_cyclic x20).bind fun x31 =>
  some (!x31)
noncomputable def order_Run_Coherent (p0 : List (List TEvent)) : Option Bool :=
  (order_Run_nodes p0).bind fun x4 =>
  (order_join x4 [0, 2, 3, 4]).bind fun x20 =>
  (order_graph_cyclic x20).bind fun x31 =>
  some (!x31)
noncomputable def order_graph_closed_k1 (x115 : Int) (xs128 : List (List Bool)) (xs131 : List Int) : Option (((List (List Bool)) × (List Int) × Int) ⊕ (((List (List Bool)) × (List Int)) ⊕ (((List (List Bool)) × Int) ⊕ (List (List Bool))))) :=
  some (Sum.inl (xs128, xs131, w64 (x115 + 1)))
noncomputable def order_graph_closed_l3b (p0 : List (List Bool)) (x18 : Int) (x83 : Int) (x97 : List Bool) (xs111 : List (List Bool)) (xs114 : List Int) (x115 : Int) : Option (((List (List Bool)) × (List Int) × Int) ⊕ (((List (List Bool)) × (List Int)) ⊕ (((List (List Bool)) × Int) ⊕ (List (List Bool))))) :=
  if decide (x115 < (x97.length : Int)) then
  (ix p0 x83).bind fun x136 =>
  (ix x136 x115).bind fun x143 =>
  (if x143 then
  (ix xs111 x18).bind fun x217 =>
  (ix x217 x115).bind fun x225 =>
  some (!x225)
  else
  some false).bind fun y158 =>
  if y158 then
  (ix xs111 x18).bind fun x174 =>
  (ix x174 x115).bind fun x182 =>
  (ap xs114 [x115]).bind fun xs204 =>
  order_graph_closed_k1 x115 (xs111.set (Int.toNat x18) (x174.set (Int.toNat x115) true)) xs204
  else
  order_graph_closed_k1 x115 xs111 xs114
  else
  ((cutL xs114 1 (xs114.length : Int)).bind fun xs245 =>
  some (Sum.inl (xs111, xs245))).map Sum.inr
noncomputable def order_graph_closed_l3 (p0 : List (List Bool)) (x18 : Int) (x83 : Int) (x97 : List Bool) (xs111 : List (List Bool)) (xs114 : List Int) (x115 : Int) : Option (((List (List Bool)) × (List Int)) ⊕ (((List (List Bool)) × Int) ⊕ (List (List Bool)))) := loopO (fun s => order_graph_closed_l3b p0 x18 x83 x97 s.1 s.2.1 s.2.2) (xs111, xs114, x115)
noncomputable def order_graph_closed_l2b (p0 : List (List Bool)) (x18 : Int) (xs64 : List (List Bool)) (xs67 : List Int) : Option (((List (List Bool)) × (List Int)) ⊕ (((List (List Bool)) × Int) ⊕ (List (List Bool)))) :=
  if decide (0 < (xs67.length : Int)) then
  (ix xs67 0).bind fun x83 =>
  (ix p0 x83).bind fun x97 =>
  order_graph_closed_l3 p0 x18 x83 x97 xs64 xs67 0
  else
  (some (Sum.inl (xs64, w64 (x18 + 1)))).map Sum.inr
noncomputable def order_graph_closed_l2 (p0 : List (List Bool)) (x18 : Int) (xs64 : List (List Bool)) (xs67 : List Int) : Option (((List (List Bool)) × Int) ⊕ (List (List Bool))) := loopO (fun s => order_graph_closed_l2b p0 x18 s.1 s.2) (xs64, xs67)
noncomputable def order_graph_closed_l1b (p0 : List (List Bool)) (xs17 : List (List Bool)) (x18 : Int) : Option (((List (List Bool)) × Int) ⊕ (List (List Bool))) :=
  if decide (x18 < (p0.length : Int)) then
  (mk (p0.length : Int) false).bind fun xs33 =>
  (ix xs17 x18).bind fun x41 =>
  order_graph_closed_l2 p0 x18 (xs17.set (Int.toNat x18) xs33) [x18]
  else
  (some xs17).map Sum.inr
noncomputable def order_graph_closed_l1 (p0 : List (List Bool)) (xs17 : List (List Bool)) (x18 : Int) : Option (List (List Bool)) := loopO (fun s => order_graph_closed_l1b p0 s.1 s.2) (xs17, x18)
noncomputable def order_graph_closed (p0 : List (List Bool)) : Option (List (List Bool)) :=
  (mk (p0.length : Int) ([] : List Bool)).bind fun xs7 =>
  order_graph_closed_l1 p0 xs7 0
noncomputable def order_Run_happens (p0 : List (List TEvent)) (p1 : List Tnd) : Option (List (List Bool)) :=
  (order_join p1 [1, 5]).bind fun x15 =>
  (order_graph_closed x15).bind fun x26 =>
  some x26
noncomputable def order_syncs (p0 : TAct) : Option Bool :=
  some (((p0.volatile && ((decide (p0.kind = 1)) || (decide (p0.kind = 2)))) || (decide (p0.kind = 5))) || (decide (p0.kind = 6)))
noncomputable def order_Run_Racy_l2b (x15 : List (List Bool)) (xs26 : List Tnd) (xs29 : List Tnd) (x32 : Int) (x53 : Tnd) (xs73 : List Tnd) (x79 : Int) : Option (Int ⊕ (((List Tnd) × (List Tnd) × Int) ⊕ Bool)) :=
  if decide (x79 < (xs73.length : Int)) then
  (ix xs73 x79).bind fun x95 =>
  (order_syncs x53.e.act).bind fun x114 =>
  (if !x114 then
  some true
  else
  (order_syncs x95.e.act).bind fun x319 =>
  some (!x319)).bind fun y122 =>
  (if (y122 && (decide (x53.e.t ≠ x95.e.t))) && (decide (x53.e.act.at_ = x95.e.act.at_)) then
  (order_writes x53.e.act).bind fun x277 =>
  (if x277 then
  some true
  else
  (order_writes x95.e.act).bind fun x300 =>
  some x300).bind fun y285 =>
  some y285
  else
  some false).bind fun y155 =>
  (if y155 then
  (ix x15 x32).bind fun x244 =>
  (ix x244 x79).bind fun x257 =>
  some (!x257)
  else
  some false).bind fun y171 =>
  (if y171 then
  (ix x15 x79).bind fun x211 =>
  (ix x211 x32).bind fun x224 =>
  some (!x224)
  else
  some false).bind fun y185 =>
  if y185 then
  ((some true).map Sum.inr).map Sum.inr
  else
  some (Sum.inl (w64 (x79 + 1)))
  else
  (some (Sum.inl (xs26, xs29, w64 (x32 + 1)))).map Sum.inr
noncomputable def order_Run_Racy_l2 (x15 : List (List Bool)) (xs26 : List Tnd) (xs29 : List Tnd) (x32 : Int) (x53 : Tnd) (xs73 : List Tnd) (x79 : Int) : Option (((List Tnd) × (List Tnd) × Int) ⊕ Bool) := loopO (fun s => order_Run_Racy_l2b x15 xs26 xs29 x32 x53 xs73 s) x79
noncomputable def order_Run_Racy_l1b (x4 : List Tnd) (x15 : List (List Bool)) (xs26 : List Tnd) (xs29 : List Tnd) (x32 : Int) : Option (((List Tnd) × (List Tnd) × Int) ⊕ Bool) :=
  if decide (x32 < (x4.length : Int)) then
  (ix xs29 x32).bind fun x53 =>
  (cutL xs26 0 x32).bind fun xs73 =>
  order_Run_Racy_l2 x15 xs26 xs29 x32 x53 xs73 0
  else
  (some false).map Sum.inr
noncomputable def order_Run_Racy_l1 (x4 : List Tnd) (x15 : List (List Bool)) (xs26 : List Tnd) (xs29 : List Tnd) (x32 : Int) : Option Bool := loopO (fun s => order_Run_Racy_l1b x4 x15 s.1 s.2.1 s.2.2) (xs26, xs29, x32)
noncomputable def order_Run_Racy (p0 : List (List TEvent)) : Option Bool :=
  (order_Run_nodes p0).bind fun x4 =>
  (order_Run_happens p0 x4).bind fun x15 =>
  order_Run_Racy_l1 x4 x15 x4 x4 0
noncomputable def law21_alive : Option Bool :=
  (law21_w 0 8 1).bind fun x1 =>
  (law21_r 0 16 0).bind fun x9 =>
  (law21_w 1 16 2).bind fun x22 =>
  (law21_r 1 8 0).bind fun x30 =>
  (order_Run_Serial ([[x1, x9], [x22, x30]])).bind fun x49 =>
  (if !x49 then
  (order_Run_Coherent ([[x1, x9], [x22, x30]])).bind fun x91 =>
  some x91
  else
  some false).bind fun y57 =>
  (if y57 then
  (order_Run_Racy ([[x1, x9], [x22, x30]])).bind fun x77 =>
  some x77
  else
  some false).bind fun y65 =>
  some y65
noncomputable def law21_great_l1b (p0 : List (List TEvent)) (x3 : Int) (x4 : Int) : Option ((Int × Int) ⊕ Bool) :=
  if decide (x4 < (p0.length : Int)) then
  (ix p0 x4).bind fun x17 =>
  some (Sum.inl (w64 (x3 + (x17.length : Int)), w64 (x4 + 1)))
  else
  (some ((decide (5 < (p0.length : Int))) || (decide (24 < x3)))).map Sum.inr
noncomputable def law21_great_l1 (p0 : List (List TEvent)) (x3 : Int) (x4 : Int) : Option Bool := loopO (fun s => law21_great_l1b p0 s.1 s.2) (x3, x4)
noncomputable def law21_great (p0 : List (List TEvent)) : Option Bool :=
  law21_great_l1 p0 0 0
noncomputable def ref21_Good_l2b (x9 : Int) (x22 : List TEvent) (xs35 : List (Int × Bool)) (x36 : Int) : Option (((List (Int × Bool)) × Int) ⊕ (((List (Int × Bool)) × Int) ⊕ Bool)) :=
  if decide (x36 < (x22.length : Int)) then
  (ix x22 x36).bind fun x49 =>
  if ((decide (x49.t ≠ x9)) || (decide (x49.rf < 0))) || (decide (x49.id < 0)) then
  ((some false).map Sum.inr).map Sum.inr
  else
  if (decide (0 < x49.id)) && ((mG xs35 x49.id).getD false) then
  ((some false).map Sum.inr).map Sum.inr
  else
  some (Sum.inl (mS xs35 x49.id true, w64 (x36 + 1)))
  else
  (some (Sum.inl (xs35, w64 (x9 + 1)))).map Sum.inr
noncomputable def ref21_Good_l2 (x9 : Int) (x22 : List TEvent) (xs35 : List (Int × Bool)) (x36 : Int) : Option (((List (Int × Bool)) × Int) ⊕ Bool) := loopO (fun s => ref21_Good_l2b x9 x22 s.1 s.2) (xs35, x36)
noncomputable def ref21_Good_l1b (p0 : List (List TEvent)) (xs8 : List (Int × Bool)) (x9 : Int) : Option (((List (Int × Bool)) × Int) ⊕ Bool) :=
  if decide (x9 < (p0.length : Int)) then
  (ix p0 x9).bind fun x22 =>
  ref21_Good_l2 x9 x22 xs8 0
  else
  (some true).map Sum.inr
noncomputable def ref21_Good_l1 (p0 : List (List TEvent)) (xs8 : List (Int × Bool)) (x9 : Int) : Option Bool := loopO (fun s => ref21_Good_l1b p0 s.1 s.2) (xs8, x9)
noncomputable def ref21_Good (p0 : List (List TEvent)) : Option Bool :=
  ref21_Good_l1 p0 [] 0
noncomputable def order_Run_Apart_c1 (p0 : TAct) : Option Bool :=
  some ((decide (p0.kind = 5)) || (decide (p0.kind = 6)))
noncomputable def order_Run_nodes_2_k1 (x39 : Int) (xs54 : List Tnd) : Option (((List Tnd) × Int) ⊕ (((List Tnd) × Int) ⊕ (List Tnd))) :=
  some (Sum.inl (xs54, w64 (x39 + 1)))
noncomputable def order_Run_nodes_2_l2b (x8 : Int) (x23 : List TEvent) (xs38 : List Tnd) (x39 : Int) : Option (((List Tnd) × Int) ⊕ (((List Tnd) × Int) ⊕ (List Tnd))) :=
  if decide (x39 < (x23.length : Int)) then
  (ix x23 x39).bind fun x59 =>
  (order_writes x59.act).bind fun x78 =>
  (if x78 then
  some true
  else
  (order_reads x59.act).bind fun x141 =>
  some x141).bind fun y86 =>
  (if y86 then
  (order_Run_Apart_c1 x59.act).bind fun x126 =>
  some x126
  else
  some false).bind fun y95 =>
  if y95 then
  (ap xs38 [(⟨x59, x39⟩ : Tnd)]).bind fun xs112 =>
  order_Run_nodes_2_k1 x39 xs112
  else
  order_Run_nodes_2_k1 x39 xs38
  else
  (some (Sum.inl (xs38, w64 (x8 + 1)))).map Sum.inr
noncomputable def order_Run_nodes_2_l2 (x8 : Int) (x23 : List TEvent) (xs38 : List Tnd) (x39 : Int) : Option (((List Tnd) × Int) ⊕ (List Tnd)) := loopO (fun s => order_Run_nodes_2_l2b x8 x23 s.1 s.2) (xs38, x39)
noncomputable def order_Run_nodes_2_l1b (p0 : List (List TEvent)) (xs7 : List Tnd) (x8 : Int) : Option (((List Tnd) × Int) ⊕ (List Tnd)) :=
  if decide (x8 < (p0.length : Int)) then
  (ix p0 x8).bind fun x23 =>
  order_Run_nodes_2_l2 x8 x23 xs7 0
  else
  (some xs7).map Sum.inr
noncomputable def order_Run_nodes_2_l1 (p0 : List (List TEvent)) (xs7 : List Tnd) (x8 : Int) : Option (List Tnd) := loopO (fun s => order_Run_nodes_2_l1b p0 s.1 s.2) (xs7, x8)
noncomputable def order_Run_nodes_2 (p0 : List (List TEvent)) : Option (List Tnd) :=
  order_Run_nodes_2_l1 p0 [] 0
noncomputable def math_bits_Len64_k3 (x13 : Int) (x14 : Int) : Option Int :=
  (ixS str1 (IntKind.wrap .u8 x13)).bind fun x19 =>
  some (w64 (x14 + (w64 x19)))
noncomputable def math_bits_Len64_k2 (x7 : Int) (x8 : Int) : Option Int :=
  if decide (256 ≤ x7) then
  (shrO .u64 x7 8).bind fun x25 =>
  math_bits_Len64_k3 x25 (w64 (x8 + 8))
  else
  math_bits_Len64_k3 x7 x8
noncomputable def math_bits_Len64_k1 (x1 : Int) (x2 : Int) : Option Int :=
  if decide (65536 ≤ x1) then
  (shrO .u64 x1 16).bind fun x31 =>
  math_bits_Len64_k2 x31 (w64 (x2 + 16))
  else
  math_bits_Len64_k2 x1 x2
noncomputable def math_bits_Len64 (p0 : Int) : Option Int :=
  if decide (4294967296 ≤ p0) then
  (shrO .u64 p0 32).bind fun x37 =>
  math_bits_Len64_k1 x37 32
  else
  math_bits_Len64_k1 p0 0
noncomputable def math_bits_Len (p0 : Int) : Option Int :=
  (math_bits_Len64 p0).bind fun x1 =>
  some x1
noncomputable def order_Run_Apart_c2 (p0 : Tnd) (p1 : Tnd) : Option Int :=
  some (w64 (p0.e.id - p1.e.id))
noncomputable def s_insertionSort_k1 (x4 : Int) (xs17 : List Tnd) (x18 : Int) (x29 : Bool) : Option (((List Tnd) × Int) ⊕ (((List Tnd) × Int) ⊕ (List Tnd))) :=
  if x29 then
  (ix xs17 (w64 (x18 - 1))).bind fun x36 =>
  (ix xs17 x18).bind fun x50 =>
  (ix xs17 x18).bind fun x59 =>
  (ix (xs17.set (Int.toNat x18) x36) (w64 (x18 - 1))).bind fun x71 =>
  some (Sum.inl ((xs17.set (Int.toNat x18) x36).set (Int.toNat (w64 (x18 - 1))) x50, w64 (x18 - 1)))
  else
  (some (Sum.inl (xs17, w64 (x4 + 1)))).map Sum.inr
noncomputable def s_insertionSort_l2b (p1 : Int) (x4 : Int) (xs17 : List Tnd) (x18 : Int) : Option (((List Tnd) × Int) ⊕ (((List Tnd) × Int) ⊕ (List Tnd))) :=
  if decide (p1 < x18) then
  (ix xs17 x18).bind fun x87 =>
  (ix xs17 (w64 (x18 - 1))).bind fun x101 =>
  (order_Run_Apart_c2 x87 x101).bind fun x110 =>
  s_insertionSort_k1 x4 xs17 x18 (decide (x110 < 0))
  else
  s_insertionSort_k1 x4 xs17 x18 false
noncomputable def s_insertionSort_l2 (p1 : Int) (x4 : Int) (xs17 : List Tnd) (x18 : Int) : Option (((List Tnd) × Int) ⊕ (List Tnd)) := loopO (fun s => s_insertionSort_l2b p1 x4 s.1 s.2) (xs17, x18)
noncomputable def s_insertionSort_l1b (p1 : Int) (p2 : Int) (xs3 : List Tnd) (x4 : Int) : Option (((List Tnd) × Int) ⊕ (List Tnd)) :=
  if decide (x4 < p2) then
  s_insertionSort_l2 p1 x4 xs3 x4
  else
  (some xs3).map Sum.inr
noncomputable def s_insertionSort_l1 (p1 : Int) (p2 : Int) (xs3 : List Tnd) (x4 : Int) : Option (List Tnd) := loopO (fun s => s_insertionSort_l1b p1 p2 s.1 s.2) (xs3, x4)
noncomputable def s_insertionSort (p0 : List Tnd) (p1 : Int) (p2 : Int) : Option (List Tnd) :=
  s_insertionSort_l1 p1 p2 p0 (w64 (p1 + 1))
noncomputable def s_siftDown_k1 (p3 : Int) (xs3 : List Tnd) (x4 : Int) (x20 : Int) : Option (((List Tnd) × Int) ⊕ (List Tnd)) :=
  (ix xs3 (w64 (p3 + x4))).bind fun x25 =>
  (ix xs3 (w64 (p3 + x20))).bind fun x39 =>
  (order_Run_Apart_c2 x25 x39).bind fun x48 =>
  if !(decide (x48 < 0)) then
  (some xs3).map Sum.inr
  else
  (ix xs3 (w64 (p3 + x20))).bind fun x63 =>
  (ix xs3 (w64 (p3 + x4))).bind fun x72 =>
  (ix xs3 (w64 (p3 + x4))).bind fun x81 =>
  (ix (xs3.set (Int.toNat (w64 (p3 + x4))) x63) (w64 (p3 + x20))).bind fun x93 =>
  some (Sum.inl ((xs3.set (Int.toNat (w64 (p3 + x4))) x63).set (Int.toNat (w64 (p3 + x20))) x72, x20))
noncomputable def s_siftDown_k2 (p3 : Int) (xs3 : List Tnd) (x4 : Int) (x105 : Bool) : Option (((List Tnd) × Int) ⊕ (List Tnd)) :=
  if x105 then
  s_siftDown_k1 p3 xs3 x4 (w64 ((w64 ((w64 (2 * x4)) + 1)) + 1))
  else
  s_siftDown_k1 p3 xs3 x4 (w64 ((w64 (2 * x4)) + 1))
noncomputable def s_siftDown_l1b (p2 : Int) (p3 : Int) (xs3 : List Tnd) (x4 : Int) : Option (((List Tnd) × Int) ⊕ (List Tnd)) :=
  if decide (p2 ≤ (w64 ((w64 (2 * x4)) + 1))) then
  (some xs3).map Sum.inr
  else
  if decide ((w64 ((w64 ((w64 (2 * x4)) + 1)) + 1)) < p2) then
  (ix xs3 (w64 (p3 + (w64 ((w64 (2 * x4)) + 1))))).bind fun x115 =>
  (ix xs3 (w64 ((w64 (p3 + (w64 ((w64 (2 * x4)) + 1)))) + 1))).bind fun x129 =>
  (order_Run_Apart_c2 x115 x129).bind fun x138 =>
  s_siftDown_k2 p3 xs3 x4 (decide (x138 < 0))
  else
  s_siftDown_k2 p3 xs3 x4 false
noncomputable def s_siftDown_l1 (p2 : Int) (p3 : Int) (xs3 : List Tnd) (x4 : Int) : Option (List Tnd) := loopO (fun s => s_siftDown_l1b p2 p3 s.1 s.2) (xs3, x4)
noncomputable def s_siftDown (p0 : List Tnd) (p1 : Int) (p2 : Int) (p3 : Int) : Option (List Tnd) :=
  s_siftDown_l1 p2 p3 p0 p1
noncomputable def s_heapSort_l2b (p1 : Int) (xs30 : List Tnd) (x31 : Int) : Option (((List Tnd) × Int) ⊕ (List Tnd)) :=
  if decide (0 ≤ x31) then
  (ix xs30 (w64 (p1 + x31))).bind fun x44 =>
  (ix xs30 p1).bind fun x58 =>
  (ix xs30 p1).bind fun x67 =>
  (ix (xs30.set (Int.toNat p1) x44) (w64 (p1 + x31))).bind fun x79 =>
  (s_siftDown ((xs30.set (Int.toNat p1) x44).set (Int.toNat (w64 (p1 + x31))) x58) 0 x31 p1).bind fun x91 =>
  some (Sum.inl (x91, w64 (x31 - 1)))
  else
  (some xs30).map Sum.inr
noncomputable def s_heapSort_l2 (p1 : Int) (xs30 : List Tnd) (x31 : Int) : Option (List Tnd) := loopO (fun s => s_heapSort_l2b p1 s.1 s.2) (xs30, x31)
noncomputable def s_heapSort_l1b (p1 : Int) (p2 : Int) (xs6 : List Tnd) (x7 : Int) : Option (((List Tnd) × Int) ⊕ (List Tnd)) :=
  if decide (0 ≤ x7) then
  (s_siftDown xs6 x7 (w64 (p2 - p1)) p1).bind fun x20 =>
  some (Sum.inl (x20, w64 (x7 - 1)))
  else
  (s_heapSort_l2 p1 xs6 (w64 ((w64 (p2 - p1)) - 1))).map Sum.inr
noncomputable def s_heapSort_l1 (p1 : Int) (p2 : Int) (xs6 : List Tnd) (x7 : Int) : Option (List Tnd) := loopO (fun s => s_heapSort_l1b p1 p2 s.1 s.2) (xs6, x7)
noncomputable def s_heapSort (p0 : List Tnd) (p1 : Int) (p2 : Int) : Option (List Tnd) :=
  (quoO .i64 (w64 ((w64 (p2 - p1)) - 1)) 2).bind fun x3 =>
  s_heapSort_l1 p1 p2 p0 x3
noncomputable def s_order2 (p0 : List Tnd) (p1 : Int) (p2 : Int) (p3 : Int) : Option (Int × Int × Int) :=
  (ix p0 p2).bind fun x6 =>
  (ix p0 p1).bind fun x20 =>
  (order_Run_Apart_c2 x6 x20).bind fun x29 =>
  if decide (x29 < 0) then
  some (p2, p1, w64 (p3 + 1))
  else
  some (p1, p2, p3)
noncomputable def s_median (p0 : List Tnd) (p1 : Int) (p2 : Int) (p3 : Int) (p4 : Int) : Option (Int × Int) :=
  (s_order2 p0 p1 p2 p4).bind fun x8 =>
  (s_order2 p0 x8.2.1 p3 x8.2.2).bind fun x18 =>
  (s_order2 p0 x8.1 x18.1 x18.2.2).bind fun x28 =>
  some (x28.2.1, x28.2.2)
noncomputable def s_medianAdjacent (p0 : List Tnd) (p1 : Int) (p2 : Int) : Option (Int × Int) :=
  (s_median p0 (w64 (p1 - 1)) p1 (w64 (p1 + 1)) p2).bind fun x8 =>
  some (x8.1, x8.2)
noncomputable def s_choosePivot_k1 (x17 : Int) (x18 : Int) : Option (Int × Int) :=
  if decide (x17 = 0) then
  some (x18, 1)
  else
  if decide (x17 = 12) then
  some (x18, 2)
  else
  some (x18, 0)
noncomputable def s_choosePivot_k2 (p0 : List Tnd) (x37 : Int) (x38 : Int) (x39 : Int) (x40 : Int) : Option (Int × Int) :=
  (s_median p0 x38 x39 x40 x37).bind fun x47 =>
  s_choosePivot_k1 x47.2 x47.1
noncomputable def s_choosePivot (p0 : List Tnd) (p1 : Int) (p2 : Int) : Option (Int × Int) :=
  (quoO .i64 (w64 (p2 - p1)) 4).bind fun x8 =>
  (quoO .i64 (w64 (p2 - p1)) 4).bind fun x11 =>
  (quoO .i64 (w64 (p2 - p1)) 4).bind fun x14 =>
  if decide (8 ≤ (w64 (p2 - p1))) then
  if decide (50 ≤ (w64 (p2 - p1))) then
  (s_medianAdjacent p0 (w64 (p1 + (w64 (x8 * 1)))) 0).bind fun x58 =>
  (s_medianAdjacent p0 (w64 (p1 + (w64 (x11 * 2)))) x58.2).bind fun x68 =>
  (s_medianAdjacent p0 (w64 (p1 + (w64 (x14 * 3)))) x68.2).bind fun x78 =>
  s_choosePivot_k2 p0 x78.2 x58.1 x68.1 x78.1
  else
  s_choosePivot_k2 p0 0 (w64 (p1 + (w64 (x8 * 1)))) (w64 (p1 + (w64 (x11 * 2)))) (w64 (p1 + (w64 (x14 * 3))))
  else
  s_choosePivot_k1 0 (w64 (p1 + (w64 (x11 * 2))))
noncomputable def s_reverseRange_l1b (xs3 : List Tnd) (x4 : Int) (x5 : Int) : Option (((List Tnd) × Int × Int) ⊕ (List Tnd)) :=
  if decide (x4 < x5) then
  (ix xs3 x5).bind fun x18 =>
  (ix xs3 x4).bind fun x32 =>
  (ix xs3 x4).bind fun x41 =>
  (ix (xs3.set (Int.toNat x4) x18) x5).bind fun x53 =>
  some (Sum.inl ((xs3.set (Int.toNat x4) x18).set (Int.toNat x5) x32, w64 (x4 + 1), w64 (x5 - 1)))
  else
  (some xs3).map Sum.inr
noncomputable def s_reverseRange_l1 (xs3 : List Tnd) (x4 : Int) (x5 : Int) : Option (List Tnd) := loopO (fun s => s_reverseRange_l1b s.1 s.2.1 s.2.2) (xs3, x4, x5)
noncomputable def s_reverseRange (p0 : List Tnd) (p1 : Int) (p2 : Int) : Option (List Tnd) :=
  s_reverseRange_l1 p0 p1 (w64 (p2 - 1))
noncomputable def s_partialInsertionSort_k1 (x5 : Int) (xs18 : List Tnd) (x19 : Int) : Option (((List Tnd) × Int × Int) ⊕ (Bool × (List Tnd))) :=
  some (Sum.inl (xs18, x19, w64 (x5 + 1)))
noncomputable def s_partialInsertionSort_l3b (p2 : Int) (x5 : Int) (x24 : Int) (xs108 : List Tnd) (x109 : Int) : Option (((List Tnd) × Int) ⊕ (((List Tnd) × Int × Int) ⊕ (Bool × (List Tnd)))) :=
  if decide (x109 < p2) then
  (ix xs108 x109).bind fun x122 =>
  (ix xs108 (w64 (x109 - 1))).bind fun x131 =>
  (order_Run_Apart_c2 x122 x131).bind fun x140 =>
  if !(decide (x140 < 0)) then
  (s_partialInsertionSort_k1 x5 xs108 x24).map Sum.inr
  else
  (ix xs108 (w64 (x109 - 1))).bind fun x154 =>
  (ix xs108 x109).bind fun x163 =>
  (ix xs108 x109).bind fun x172 =>
  (ix (xs108.set (Int.toNat x109) x154) (w64 (x109 - 1))).bind fun x184 =>
  some (Sum.inl ((xs108.set (Int.toNat x109) x154).set (Int.toNat (w64 (x109 - 1))) x163, w64 (x109 + 1)))
  else
  (s_partialInsertionSort_k1 x5 xs108 x24).map Sum.inr
noncomputable def s_partialInsertionSort_l3 (p2 : Int) (x5 : Int) (x24 : Int) (xs108 : List Tnd) (x109 : Int) : Option (((List Tnd) × Int × Int) ⊕ (Bool × (List Tnd))) := loopO (fun s => s_partialInsertionSort_l3b p2 x5 x24 s.1 s.2) (xs108, x109)
noncomputable def s_partialInsertionSort_k3 (p2 : Int) (x5 : Int) (x24 : Int) (xs101 : List Tnd) : Option (((List Tnd) × Int × Int) ⊕ (Bool × (List Tnd))) :=
  if decide (2 ≤ (w64 (p2 - x24))) then
  s_partialInsertionSort_l3 p2 x5 x24 xs101 (w64 (x24 + 1))
  else
  s_partialInsertionSort_k1 x5 xs101 x24
noncomputable def s_partialInsertionSort_l4b (p2 : Int) (x5 : Int) (x24 : Int) (xs201 : List Tnd) (x202 : Int) : Option (((List Tnd) × Int) ⊕ (((List Tnd) × Int × Int) ⊕ (Bool × (List Tnd)))) :=
  if decide (1 ≤ x202) then
  (ix xs201 x202).bind fun x215 =>
  (ix xs201 (w64 (x202 - 1))).bind fun x224 =>
  (order_Run_Apart_c2 x215 x224).bind fun x233 =>
  if !(decide (x233 < 0)) then
  (s_partialInsertionSort_k3 p2 x5 x24 xs201).map Sum.inr
  else
  (ix xs201 (w64 (x202 - 1))).bind fun x247 =>
  (ix xs201 x202).bind fun x256 =>
  (ix xs201 x202).bind fun x265 =>
  (ix (xs201.set (Int.toNat x202) x247) (w64 (x202 - 1))).bind fun x277 =>
  some (Sum.inl ((xs201.set (Int.toNat x202) x247).set (Int.toNat (w64 (x202 - 1))) x256, w64 (x202 - 1)))
  else
  (s_partialInsertionSort_k3 p2 x5 x24 xs201).map Sum.inr
noncomputable def s_partialInsertionSort_l4 (p2 : Int) (x5 : Int) (x24 : Int) (xs201 : List Tnd) (x202 : Int) : Option (((List Tnd) × Int × Int) ⊕ (Bool × (List Tnd))) := loopO (fun s => s_partialInsertionSort_l4b p2 x5 x24 s.1 s.2) (xs201, x202)
noncomputable def s_partialInsertionSort_k2 (p1 : Int) (p2 : Int) (xs3 : List Tnd) (x5 : Int) (x24 : Int) (x35 : Bool) : Option (Int ⊕ (((List Tnd) × Int × Int) ⊕ (Bool × (List Tnd)))) :=
  if x35 then
  some (Sum.inl (w64 (x24 + 1)))
  else
  (if decide (x24 = p2) then
  (some (true, xs3)).map Sum.inr
  else
  if decide ((w64 (p2 - p1)) < 50) then
  (some (false, xs3)).map Sum.inr
  else
  (ix xs3 (w64 (x24 - 1))).bind fun x54 =>
  (ix xs3 x24).bind fun x68 =>
  (ix xs3 x24).bind fun x77 =>
  (ix (xs3.set (Int.toNat x24) x54) (w64 (x24 - 1))).bind fun x89 =>
  if decide (2 ≤ (w64 (x24 - p1))) then
  s_partialInsertionSort_l4 p2 x5 x24 ((xs3.set (Int.toNat x24) x54).set (Int.toNat (w64 (x24 - 1))) x68) (w64 (x24 - 1))
  else
  s_partialInsertionSort_k3 p2 x5 x24 ((xs3.set (Int.toNat x24) x54).set (Int.toNat (w64 (x24 - 1))) x68)).map Sum.inr
noncomputable def s_partialInsertionSort_l2b (p1 : Int) (p2 : Int) (xs3 : List Tnd) (x5 : Int) (x24 : Int) : Option (Int ⊕ (((List Tnd) × Int × Int) ⊕ (Bool × (List Tnd)))) :=
  if decide (x24 < p2) then
  (ix xs3 x24).bind fun x294 =>
  (ix xs3 (w64 (x24 - 1))).bind fun x308 =>
  (order_Run_Apart_c2 x294 x308).bind fun x317 =>
  s_partialInsertionSort_k2 p1 p2 xs3 x5 x24 (!(decide (x317 < 0)))
  else
  s_partialInsertionSort_k2 p1 p2 xs3 x5 x24 false
noncomputable def s_partialInsertionSort_l2 (p1 : Int) (p2 : Int) (xs3 : List Tnd) (x5 : Int) (x24 : Int) : Option (((List Tnd) × Int × Int) ⊕ (Bool × (List Tnd))) := loopO (fun s => s_partialInsertionSort_l2b p1 p2 xs3 x5 s) x24
noncomputable def s_partialInsertionSort_l1b (p1 : Int) (p2 : Int) (xs3 : List Tnd) (x4 : Int) (x5 : Int) : Option (((List Tnd) × Int × Int) ⊕ (Bool × (List Tnd))) :=
  if decide (x5 < 5) then
  s_partialInsertionSort_l2 p1 p2 xs3 x5 x4
  else
  (some (false, xs3)).map Sum.inr
noncomputable def s_partialInsertionSort_l1 (p1 : Int) (p2 : Int) (xs3 : List Tnd) (x4 : Int) (x5 : Int) : Option (Bool × (List Tnd)) := loopO (fun s => s_partialInsertionSort_l1b p1 p2 s.1 s.2.1 s.2.2) (xs3, x4, x5)
noncomputable def s_partialInsertionSort (p0 : List Tnd) (p1 : Int) (p2 : Int) : Option (Bool × (List Tnd)) :=
  s_partialInsertionSort_l1 p1 p2 p0 (w64 (p1 + 1)) 0
noncomputable def s_partitionEqual_k2 (xs50 : List Tnd) (x63 : Int) (x83 : Int) (x94 : Bool) : Option (Int ⊕ (((List Tnd) × Int × Int) ⊕ (Int × (List Tnd)))) :=
  if x94 then
  some (Sum.inl (w64 (x83 - 1)))
  else
  (if decide (x83 < x63) then
  (some (x63, xs50)).map Sum.inr
  else
  (ix xs50 x83).bind fun x108 =>
  (ix xs50 x63).bind fun x117 =>
  (ix xs50 x63).bind fun x126 =>
  (ix (xs50.set (Int.toNat x63) x108) x83).bind fun x138 =>
  some (Sum.inl ((xs50.set (Int.toNat x63) x108).set (Int.toNat x83) x117, w64 (x63 + 1), w64 (x83 - 1)))).map Sum.inr
noncomputable def s_partitionEqual_l3b (p1 : Int) (xs50 : List Tnd) (x63 : Int) (x83 : Int) : Option (Int ⊕ (((List Tnd) × Int × Int) ⊕ (Int × (List Tnd)))) :=
  if decide (x63 ≤ x83) then
  (ix xs50 p1).bind fun x152 =>
  (ix xs50 x83).bind fun x161 =>
  (order_Run_Apart_c2 x152 x161).bind fun x170 =>
  s_partitionEqual_k2 xs50 x63 x83 (decide (x170 < 0))
  else
  s_partitionEqual_k2 xs50 x63 x83 false
noncomputable def s_partitionEqual_l3 (p1 : Int) (xs50 : List Tnd) (x63 : Int) (x83 : Int) : Option (((List Tnd) × Int × Int) ⊕ (Int × (List Tnd))) := loopO (fun s => s_partitionEqual_l3b p1 xs50 x63 s) x83
noncomputable def s_partitionEqual_k1 (p1 : Int) (xs50 : List Tnd) (x52 : Int) (x63 : Int) (x74 : Bool) : Option (Int ⊕ (((List Tnd) × Int × Int) ⊕ (Int × (List Tnd)))) :=
  if x74 then
  some (Sum.inl (w64 (x63 + 1)))
  else
  (s_partitionEqual_l3 p1 xs50 x63 x52).map Sum.inr
noncomputable def s_partitionEqual_l2b (p1 : Int) (xs50 : List Tnd) (x52 : Int) (x63 : Int) : Option (Int ⊕ (((List Tnd) × Int × Int) ⊕ (Int × (List Tnd)))) :=
  if decide (x63 ≤ x52) then
  (ix xs50 p1).bind fun x181 =>
  (ix xs50 x63).bind fun x190 =>
  (order_Run_Apart_c2 x181 x190).bind fun x199 =>
  s_partitionEqual_k1 p1 xs50 x52 x63 (!(decide (x199 < 0)))
  else
  s_partitionEqual_k1 p1 xs50 x52 x63 false
noncomputable def s_partitionEqual_l2 (p1 : Int) (xs50 : List Tnd) (x52 : Int) (x63 : Int) : Option (((List Tnd) × Int × Int) ⊕ (Int × (List Tnd))) := loopO (fun s => s_partitionEqual_l2b p1 xs50 x52 s) x63
noncomputable def s_partitionEqual_l1b (p1 : Int) (xs50 : List Tnd) (x51 : Int) (x52 : Int) : Option (((List Tnd) × Int × Int) ⊕ (Int × (List Tnd))) :=
  s_partitionEqual_l2 p1 xs50 x52 x51
noncomputable def s_partitionEqual_l1 (p1 : Int) (xs50 : List Tnd) (x51 : Int) (x52 : Int) : Option (Int × (List Tnd)) := loopO (fun s => s_partitionEqual_l1b p1 s.1 s.2.1 s.2.2) (xs50, x51, x52)
noncomputable def s_partitionEqual (p0 : List Tnd) (p1 : Int) (p2 : Int) (p3 : Int) : Option (Int × (List Tnd)) :=
  (ix p0 p3).bind fun x3 =>
  (ix p0 p1).bind fun x17 =>
  (ix p0 p1).bind fun x26 =>
  (ix (p0.set (Int.toNat p1) x3) p3).bind fun x38 =>
  s_partitionEqual_l1 p1 ((p0.set (Int.toNat p1) x3).set (Int.toNat p3) x17) (w64 (p1 + 1)) (w64 (p2 - 1))
noncomputable def s_partition_k4 (p1 : Int) (xs178 : List Tnd) (x191 : Int) (x211 : Int) (x222 : Bool) : Option (Int ⊕ (((List Tnd) × Int × Int) ⊕ (Int × Bool × (List Tnd)))) :=
  if x222 then
  some (Sum.inl (w64 (x211 - 1)))
  else
  (if decide (x211 < x191) then
  ((ix xs178 p1).bind fun x234 =>
  (ix xs178 x211).bind fun x243 =>
  (ix xs178 x211).bind fun x252 =>
  (ix (xs178.set (Int.toNat x211) x234) p1).bind fun x264 =>
  some (x211, false, (xs178.set (Int.toNat x211) x234).set (Int.toNat p1) x243)).map Sum.inr
  else
  (ix xs178 x211).bind fun x278 =>
  (ix xs178 x191).bind fun x287 =>
  (ix xs178 x191).bind fun x296 =>
  (ix (xs178.set (Int.toNat x191) x278) x211).bind fun x308 =>
  some (Sum.inl ((xs178.set (Int.toNat x191) x278).set (Int.toNat x211) x287, w64 (x191 + 1), w64 (x211 - 1)))).map Sum.inr
noncomputable def s_partition_l5b (p1 : Int) (xs178 : List Tnd) (x191 : Int) (x211 : Int) : Option (Int ⊕ (((List Tnd) × Int × Int) ⊕ (Int × Bool × (List Tnd)))) :=
  if decide (x191 ≤ x211) then
  (ix xs178 x211).bind fun x322 =>
  (ix xs178 p1).bind fun x331 =>
  (order_Run_Apart_c2 x322 x331).bind fun x340 =>
  s_partition_k4 p1 xs178 x191 x211 (!(decide (x340 < 0)))
  else
  s_partition_k4 p1 xs178 x191 x211 false
noncomputable def s_partition_l5 (p1 : Int) (xs178 : List Tnd) (x191 : Int) (x211 : Int) : Option (((List Tnd) × Int × Int) ⊕ (Int × Bool × (List Tnd))) := loopO (fun s => s_partition_l5b p1 xs178 x191 s) x211
noncomputable def s_partition_k3 (p1 : Int) (xs178 : List Tnd) (x180 : Int) (x191 : Int) (x202 : Bool) : Option (Int ⊕ (((List Tnd) × Int × Int) ⊕ (Int × Bool × (List Tnd)))) :=
  if x202 then
  some (Sum.inl (w64 (x191 + 1)))
  else
  (s_partition_l5 p1 xs178 x191 x180).map Sum.inr
noncomputable def s_partition_l4b (p1 : Int) (xs178 : List Tnd) (x180 : Int) (x191 : Int) : Option (Int ⊕ (((List Tnd) × Int × Int) ⊕ (Int × Bool × (List Tnd)))) :=
  if decide (x191 ≤ x180) then
  (ix xs178 x191).bind fun x351 =>
  (ix xs178 p1).bind fun x360 =>
  (order_Run_Apart_c2 x351 x360).bind fun x369 =>
  s_partition_k3 p1 xs178 x180 x191 (decide (x369 < 0))
  else
  s_partition_k3 p1 xs178 x180 x191 false
noncomputable def s_partition_l4 (p1 : Int) (xs178 : List Tnd) (x180 : Int) (x191 : Int) : Option (((List Tnd) × Int × Int) ⊕ (Int × Bool × (List Tnd))) := loopO (fun s => s_partition_l4b p1 xs178 x180 s) x191
noncomputable def s_partition_l3b (p1 : Int) (xs178 : List Tnd) (x179 : Int) (x180 : Int) : Option (((List Tnd) × Int × Int) ⊕ (Int × Bool × (List Tnd))) :=
  s_partition_l4 p1 xs178 x180 x179
noncomputable def s_partition_l3 (p1 : Int) (xs178 : List Tnd) (x179 : Int) (x180 : Int) : Option (Int × Bool × (List Tnd)) := loopO (fun s => s_partition_l3b p1 s.1 s.2.1 s.2.2) (xs178, x179, x180)
noncomputable def s_partition_k2 (p0 : List Tnd) (p1 : Int) (p3 : Int) (x3 : Tnd) (x17 : Tnd) (x50 : Int) (x70 : Int) (x81 : Bool) : Option (Int ⊕ (Int × Bool × (List Tnd))) :=
  if x81 then
  some (Sum.inl (w64 (x70 - 1)))
  else
  (if decide (x70 < x50) then
  (ix ((p0.set (Int.toNat p1) x3).set (Int.toNat p3) x17) p1).bind fun x92 =>
  (ix ((p0.set (Int.toNat p1) x3).set (Int.toNat p3) x17) x70).bind fun x101 =>
  (ix ((p0.set (Int.toNat p1) x3).set (Int.toNat p3) x17) x70).bind fun x110 =>
  (ix (((p0.set (Int.toNat p1) x3).set (Int.toNat p3) x17).set (Int.toNat x70) x92) p1).bind fun x122 =>
  some (x70, true, (((p0.set (Int.toNat p1) x3).set (Int.toNat p3) x17).set (Int.toNat x70) x92).set (Int.toNat p1) x101)
  else
  (ix ((p0.set (Int.toNat p1) x3).set (Int.toNat p3) x17) x70).bind fun x136 =>
  (ix ((p0.set (Int.toNat p1) x3).set (Int.toNat p3) x17) x50).bind fun x145 =>
  (ix ((p0.set (Int.toNat p1) x3).set (Int.toNat p3) x17) x50).bind fun x154 =>
  (ix (((p0.set (Int.toNat p1) x3).set (Int.toNat p3) x17).set (Int.toNat x50) x136) x70).bind fun x166 =>
  s_partition_l3 p1 ((((p0.set (Int.toNat p1) x3).set (Int.toNat p3) x17).set (Int.toNat x50) x136).set (Int.toNat x70) x145) (w64 (x50 + 1)) (w64 (x70 - 1))).map Sum.inr
noncomputable def s_partition_l2b (p0 : List Tnd) (p1 : Int) (p3 : Int) (x3 : Tnd) (x17 : Tnd) (x50 : Int) (x70 : Int) : Option (Int ⊕ (Int × Bool × (List Tnd))) :=
  if decide (x50 ≤ x70) then
  (ix ((p0.set (Int.toNat p1) x3).set (Int.toNat p3) x17) x70).bind fun x380 =>
  (ix ((p0.set (Int.toNat p1) x3).set (Int.toNat p3) x17) p1).bind fun x389 =>
  (order_Run_Apart_c2 x380 x389).bind fun x398 =>
  s_partition_k2 p0 p1 p3 x3 x17 x50 x70 (!(decide (x398 < 0)))
  else
  s_partition_k2 p0 p1 p3 x3 x17 x50 x70 false
noncomputable def s_partition_l2 (p0 : List Tnd) (p1 : Int) (p3 : Int) (x3 : Tnd) (x17 : Tnd) (x50 : Int) (x70 : Int) : Option (Int × Bool × (List Tnd)) := loopO (fun s => s_partition_l2b p0 p1 p3 x3 x17 x50 s) x70
noncomputable def s_partition_k1 (p0 : List Tnd) (p1 : Int) (p2 : Int) (p3 : Int) (x3 : Tnd) (x17 : Tnd) (x50 : Int) (x61 : Bool) : Option (Int ⊕ (Int × Bool × (List Tnd))) :=
  if x61 then
  some (Sum.inl (w64 (x50 + 1)))
  else
  (s_partition_l2 p0 p1 p3 x3 x17 x50 (w64 (p2 - 1))).map Sum.inr
noncomputable def s_partition_l1b (p0 : List Tnd) (p1 : Int) (p2 : Int) (p3 : Int) (x3 : Tnd) (x17 : Tnd) (x50 : Int) : Option (Int ⊕ (Int × Bool × (List Tnd))) :=
  if decide (x50 ≤ (w64 (p2 - 1))) then
  (ix ((p0.set (Int.toNat p1) x3).set (Int.toNat p3) x17) x50).bind fun x409 =>
  (ix ((p0.set (Int.toNat p1) x3).set (Int.toNat p3) x17) p1).bind fun x418 =>
  (order_Run_Apart_c2 x409 x418).bind fun x427 =>
  s_partition_k1 p0 p1 p2 p3 x3 x17 x50 (decide (x427 < 0))
  else
  s_partition_k1 p0 p1 p2 p3 x3 x17 x50 false
noncomputable def s_partition_l1 (p0 : List Tnd) (p1 : Int) (p2 : Int) (p3 : Int) (x3 : Tnd) (x17 : Tnd) (x50 : Int) : Option (Int × Bool × (List Tnd)) := loopO (fun s => s_partition_l1b p0 p1 p2 p3 x3 x17 s) x50
noncomputable def s_partition (p0 : List Tnd) (p1 : Int) (p2 : Int) (p3 : Int) : Option (Int × Bool × (List Tnd)) :=
  (ix p0 p3).bind fun x3 =>
  (ix p0 p1).bind fun x17 =>
  (ix p0 p1).bind fun x26 =>
  (ix (p0.set (Int.toNat p1) x3) p3).bind fun x38 =>
  s_partition_l1 p0 p1 p2 p3 x3 x17 (w64 (p1 + 1))
noncomputable def slices_nextPowerOfTwo (p0 : Int) : Option Int :=
  (math_bits_Len (IntKind.wrap .u64 p0)).bind fun x1 =>
  (shlO .u64 1 x1).bind fun x9 =>
  some x9
noncomputable def slices_xorshift_Next (p0 : Int) : Option (Int × Int) :=
  (shlO .u64 p0 13).bind fun x4 =>
  (shrO .u64 (xorB .u64 p0 x4) 7).bind fun x10 =>
  (shlO .u64 (xorB .u64 (xorB .u64 p0 x4) x10) 17).bind fun x16 =>
  some (xorB .u64 (xorB .u64 (xorB .u64 p0 x4) x10) x16, xorB .u64 (xorB .u64 (xorB .u64 p0 x4) x10) x16)
noncomputable def s_breakPatterns_k1 (p1 : Int) (xs24 : List Tnd) (x26 : Int) (x45 : Int × Int) (x53 : Int) : Option (((List Tnd) × Int × Int) ⊕ (List Tnd)) :=
  (ix xs24 (w64 (p1 + x53))).bind fun x58 =>
  (ix xs24 x26).bind fun x72 =>
  (ix xs24 x26).bind fun x81 =>
  (ix (xs24.set (Int.toNat x26) x58) (w64 (p1 + x53))).bind fun x93 =>
  some (Sum.inl ((xs24.set (Int.toNat x26) x58).set (Int.toNat (w64 (p1 + x53))) x72, x45.2, w64 (x26 + 1)))
noncomputable def s_breakPatterns_l1b (p1 : Int) (p2 : Int) (x13 : Int) (xs24 : List Tnd) (x25 : Int) (x26 : Int) : Option (((List Tnd) × Int × Int) ⊕ (List Tnd)) :=
  (quoO .i64 (w64 (p2 - p1)) 4).bind fun x39 =>
  if decide (x26 ≤ (w64 ((w64 (p1 + (w64 (x39 * 2)))) + 1))) then
  (slices_xorshift_Next x25).bind fun x45 =>
  if decide ((w64 (p2 - p1)) ≤ (w64 (andB .u64 x45.1 (IntKind.wrap .u64 (x13 - 1))))) then
  s_breakPatterns_k1 p1 xs24 x26 x45 (w64 ((w64 (andB .u64 x45.1 (IntKind.wrap .u64 (x13 - 1)))) - (w64 (p2 - p1))))
  else
  s_breakPatterns_k1 p1 xs24 x26 x45 (w64 (andB .u64 x45.1 (IntKind.wrap .u64 (x13 - 1))))
  else
  (some xs24).map Sum.inr
noncomputable def s_breakPatterns_l1 (p1 : Int) (p2 : Int) (x13 : Int) (xs24 : List Tnd) (x25 : Int) (x26 : Int) : Option (List Tnd) := loopO (fun s => s_breakPatterns_l1b p1 p2 x13 s.1 s.2.1 s.2.2) (xs24, x25, x26)
noncomputable def s_breakPatterns (p0 : List Tnd) (p1 : Int) (p2 : Int) : Option (List Tnd) :=
  if decide (8 ≤ (w64 (p2 - p1))) then
  (slices_nextPowerOfTwo (w64 (p2 - p1))).bind fun x13 =>
  (quoO .i64 (w64 (p2 - p1)) 4).bind fun x21 =>
  s_breakPatterns_l1 p1 p2 x13 p0 (IntKind.wrap .u64 (w64 (p2 - p1))) (w64 ((w64 (p1 + (w64 (x21 * 2)))) - 1))
  else
  some p0
noncomputable def s_pdqsort_k4 (rec_ : (List Tnd) → Int → Int → Int → Option (List Tnd)) (x4 : Int) (x5 : Int) (x7 : Bool) (x8 : Bool) (x46 : Int) (x60 : Int) (xs66 : List Tnd) (x71 : Bool) : Option (((List Tnd) × Int × Int × Int × Bool × Bool) ⊕ (List Tnd)) :=
  if x71 then
  (s_partitionEqual xs66 x4 x5 x60).bind fun x78 =>
  some (Sum.inl (x78.2, x78.1, x5, x46, x7, x8))
  else
  (s_partition xs66 x4 x5 x60).bind fun x87 =>
  (quoO .i64 (w64 (x5 - x4)) 8).bind fun x95 =>
  if decide ((w64 (x87.1 - x4)) < (w64 (x5 - x87.1))) then
  (rec_ x87.2.2 x4 x87.1 x46).bind fun x100 =>
  some (Sum.inl (x100, w64 (x87.1 + 1), x5, x46, decide (x95 ≤ (w64 (x87.1 - x4))), x87.2.1))
  else
  (rec_ x87.2.2 (w64 (x87.1 + 1)) x5 x46).bind fun x109 =>
  some (Sum.inl (x109, x4, x87.1, x46, decide (x95 ≤ (w64 (x5 - x87.1))), x87.2.1))
noncomputable def s_pdqsort_k3 (rec_ : (List Tnd) → Int → Int → Int → Option (List Tnd)) (x4 : Int) (x5 : Int) (x7 : Bool) (x8 : Bool) (x46 : Int) (x60 : Int) (xs66 : List Tnd) : Option (((List Tnd) × Int × Int × Int × Bool × Bool) ⊕ (List Tnd)) :=
  if decide (0 < x4) then
  (ix xs66 (w64 (x4 - 1))).bind fun x119 =>
  (ix xs66 x60).bind fun x133 =>
  (order_Run_Apart_c2 x119 x133).bind fun x142 =>
  s_pdqsort_k4 rec_ x4 x5 x7 x8 x46 x60 xs66 (!(decide (x142 < 0)))
  else
  s_pdqsort_k4 rec_ x4 x5 x7 x8 x46 x60 xs66 false
noncomputable def s_pdqsort_k2 (rec_ : (List Tnd) → Int → Int → Int → Option (List Tnd)) (x4 : Int) (x5 : Int) (x7 : Bool) (x8 : Bool) (x46 : Int) (xs59 : List Tnd) (x60 : Int) (x61 : Int) : Option (((List Tnd) × Int × Int × Int × Bool × Bool) ⊕ (List Tnd)) :=
  if (x7 && x8) && (decide (x61 = 1)) then
  (s_partialInsertionSort xs59 x4 x5).bind fun x162 =>
  if x162.1 then
  (some x162.2).map Sum.inr
  else
  s_pdqsort_k3 rec_ x4 x5 x7 x8 x46 x60 x162.2
  else
  s_pdqsort_k3 rec_ x4 x5 x7 x8 x46 x60 xs59
noncomputable def s_pdqsort_k1 (rec_ : (List Tnd) → Int → Int → Int → Option (List Tnd)) (x4 : Int) (x5 : Int) (x7 : Bool) (x8 : Bool) (xs45 : List Tnd) (x46 : Int) : Option (((List Tnd) × Int × Int × Int × Bool × Bool) ⊕ (List Tnd)) :=
  (s_choosePivot xs45 x4 x5).bind fun x51 =>
  if decide (x51.2 = 2) then
  (s_reverseRange xs45 x4 x5).bind fun x180 =>
  s_pdqsort_k2 rec_ x4 x5 x7 x8 x46 x180 (w64 ((w64 (x5 - 1)) - (w64 (x51.1 - x4)))) 1
  else
  s_pdqsort_k2 rec_ x4 x5 x7 x8 x46 xs45 x51.1 x51.2
noncomputable def s_pdqsort_l1b (rec_ : (List Tnd) → Int → Int → Int → Option (List Tnd)) (xs3 : List Tnd) (x4 : Int) (x5 : Int) (x6 : Int) (x7 : Bool) (x8 : Bool) : Option (((List Tnd) × Int × Int × Int × Bool × Bool) ⊕ (List Tnd)) :=
  if decide ((w64 (x5 - x4)) ≤ 12) then
  (s_insertionSort xs3 x4 x5).bind fun x21 =>
  (some x21).map Sum.inr
  else
  if decide (x6 = 0) then
  (s_heapSort xs3 x4 x5).bind fun x34 =>
  (some x34).map Sum.inr
  else
  if !x7 then
  (s_breakPatterns xs3 x4 x5).bind fun x192 =>
  s_pdqsort_k1 rec_ x4 x5 x7 x8 x192 (w64 (x6 - 1))
  else
  s_pdqsort_k1 rec_ x4 x5 x7 x8 xs3 x6
noncomputable def s_pdqsort_l1 (rec_ : (List Tnd) → Int → Int → Int → Option (List Tnd)) (xs3 : List Tnd) (x4 : Int) (x5 : Int) (x6 : Int) (x7 : Bool) (x8 : Bool) : Option (List Tnd) := loopO (fun s => s_pdqsort_l1b rec_ s.1 s.2.1 s.2.2.1 s.2.2.2.1 s.2.2.2.2.1 s.2.2.2.2.2) (xs3, x4, x5, x6, x7, x8)
noncomputable def s_pdqsort_F (rec_ : (List Tnd) → Int → Int → Int → Option (List Tnd)) (p0 : List Tnd) (p1 : Int) (p2 : Int) (p3 : Int) : Option (List Tnd) :=
  s_pdqsort_l1 rec_ p0 p1 p2 p3 true true
noncomputable def s_pdqsort (p0 : List Tnd) (p1 : Int) (p2 : Int) (p3 : Int) : Option (List Tnd) := recO (fun rec_ a => s_pdqsort_F (fun p0 p1 p2 p3 => rec_ (p0, p1, p2, p3)) a.1 a.2.1 a.2.2.1 a.2.2.2) (p0, p1, p2, p3)
noncomputable def slices_SortFunc (p0 : List Tnd) : Option (List Tnd) :=
  (math_bits_Len (IntKind.wrap .u64 (p0.length : Int))).bind fun x3 =>
  (s_pdqsort p0 0 (p0.length : Int) x3).bind fun x11 =>
  some x11
noncomputable def order_Run_Apart_l1b (x19 : List Tnd) (xs27 : List (Int × TEvent)) (x28 : Int) : Option (((List (Int × TEvent)) × Int) ⊕ Bool) :=
  if decide (x28 < (x19.length : Int)) then
  (ix x19 x28).bind fun x43 =>
  (some ((mG xs27 x43.e.act.at_).getD (⟨0, (⟨0, 0, 0, 0, false, false⟩ : TAct), 0, 0⟩ : TEvent))).bind fun x70 =>
  if ((((mG xs27 x43.e.act.at_).isSome) && (decide (x70.act.val ≠ 0))) && (decide (x70.t ≠ x43.e.t))) || ((decide (x43.e.act.kind = 6)) && ((!((mG xs27 x43.e.act.at_).isSome)) || (decide (x70.t ≠ x43.e.t)))) then
  (some false).map Sum.inr
  else
  some (Sum.inl (mS xs27 x43.e.act.at_ x43.e, w64 (x28 + 1)))
  else
  (some true).map Sum.inr
noncomputable def order_Run_Apart_l1 (x19 : List Tnd) (xs27 : List (Int × TEvent)) (x28 : Int) : Option Bool := loopO (fun s => order_Run_Apart_l1b x19 s.1 s.2) (xs27, x28)
noncomputable def order_Run_Apart (p0 : List (List TEvent)) : Option Bool :=
  (order_Run_nodes_2 p0).bind fun x9 =>
  (slices_SortFunc x9).bind fun x19 =>
  order_Run_Apart_l1 x19 [] 0
noncomputable def ref21_Reads (p0 : Tref21_Node) : Option Bool :=
  some ((decide (p0.e.act.kind = 1)) || (decide (p0.e.act.kind = 5)))
noncomputable def ref21_Writes (p0 : Tref21_Node) : Option Bool :=
  some (((decide (p0.e.act.kind = 2)) || (decide (p0.e.act.kind = 5))) || (decide (p0.e.act.kind = 6)))
noncomputable def ref21_Synced (p0 : Tref21_Node) : Option Bool :=
  some (((decide (p0.e.act.kind = 5)) || (decide (p0.e.act.kind = 6))) || (p0.e.act.volatile && ((decide (p0.e.act.kind = 1)) || (decide (p0.e.act.kind = 2)))))
noncomputable def ref21_Nodes_k1 (x39 : Int) (xs54 : List Tref21_Node) : Option (((List Tref21_Node) × Int) ⊕ (((List Tref21_Node) × Int) ⊕ (List Tref21_Node))) :=
  some (Sum.inl (xs54, w64 (x39 + 1)))
noncomputable def ref21_Nodes_l2b (p1 : Bool) (x8 : Int) (x23 : List TEvent) (xs38 : List Tref21_Node) (x39 : Int) : Option (((List Tref21_Node) × Int) ⊕ (((List Tref21_Node) × Int) ⊕ (List Tref21_Node))) :=
  if decide (x39 < (x23.length : Int)) then
  (ix x23 x39).bind fun x59 =>
  (ref21_Reads (⟨x59, x39⟩ : Tref21_Node)).bind fun x86 =>
  (if x86 then
  some true
  else
  (ref21_Writes (⟨x59, x39⟩ : Tref21_Node)).bind fun x167 =>
  some x167).bind fun y94 =>
  (if y94 then
  (if !p1 then
  some true
  else
  (ref21_Synced (⟨x59, x39⟩ : Tref21_Node)).bind fun x152 =>
  some x152).bind fun y137 =>
  some y137
  else
  some false).bind fun y102 =>
  if y102 then
  (ap xs38 [(⟨x59, x39⟩ : Tref21_Node)]).bind fun xs121 =>
  ref21_Nodes_k1 x39 xs121
  else
  ref21_Nodes_k1 x39 xs38
  else
  (some (Sum.inl (xs38, w64 (x8 + 1)))).map Sum.inr
noncomputable def ref21_Nodes_l2 (p1 : Bool) (x8 : Int) (x23 : List TEvent) (xs38 : List Tref21_Node) (x39 : Int) : Option (((List Tref21_Node) × Int) ⊕ (List Tref21_Node)) := loopO (fun s => ref21_Nodes_l2b p1 x8 x23 s.1 s.2) (xs38, x39)
noncomputable def ref21_Nodes_l1b (p0 : List (List TEvent)) (p1 : Bool) (xs7 : List Tref21_Node) (x8 : Int) : Option (((List Tref21_Node) × Int) ⊕ (List Tref21_Node)) :=
  if decide (x8 < (p0.length : Int)) then
  (ix p0 x8).bind fun x23 =>
  ref21_Nodes_l2 p1 x8 x23 xs7 0
  else
  (some xs7).map Sum.inr
noncomputable def ref21_Nodes_l1 (p0 : List (List TEvent)) (p1 : Bool) (xs7 : List Tref21_Node) (x8 : Int) : Option (List Tref21_Node) := loopO (fun s => ref21_Nodes_l1b p0 p1 s.1 s.2) (xs7, x8)
noncomputable def ref21_Nodes (p0 : List (List TEvent)) (p1 : Bool) : Option (List Tref21_Node) :=
  ref21_Nodes_l1 p0 p1 [] 0
noncomputable def ref21_Apart_k1 (x16 : Int) (xs33 : List Tref21_Node) : Option (((List Tref21_Node) × Int) ⊕ Bool) :=
  some (Sum.inl (xs33, w64 (x16 + 1)))
noncomputable def ref21_Apart_k2 (x90 : Int) : Option (Int ⊕ Bool) :=
  some (Sum.inl (w64 (x90 + 1)))
noncomputable def ref21_Apart_k3 (x131 : Int) (x146 : Int) : Option ((Int × Int) ⊕ (Int ⊕ Bool)) :=
  some (Sum.inl (x146, w64 (x131 + 1)))
noncomputable def ref21_Apart_k4 (x130 : Int) (x131 : Int) (x168 : Bool) : Option ((Int × Int) ⊕ (Int ⊕ Bool)) :=
  if x168 then
  ref21_Apart_k3 x131 x131
  else
  ref21_Apart_k3 x131 x130
noncomputable def ref21_Apart_k5 (x90 : Int) (x211 : Bool) : Option (Int ⊕ Bool) :=
  if x211 then
  (some false).map Sum.inr
  else
  ref21_Apart_k2 x90
noncomputable def ref21_Apart_l3b (xs15 : List Tref21_Node) (x90 : Int) (x108 : Tref21_Node) (x130 : Int) (x131 : Int) : Option ((Int × Int) ⊕ (Int ⊕ Bool)) :=
  if decide (x131 < (xs15.length : Int)) then
  (ix xs15 x131).bind fun x151 =>
  if decide (x151.e.act.at_ = x108.e.act.at_) then
  if decide (x151.e.id < x108.e.id) then
  if decide (x130 < 0) then
  ref21_Apart_k4 x130 x131 true
  else
  (ix xs15 x130).bind fun x184 =>
  ref21_Apart_k4 x130 x131 (decide (x184.e.id < x151.e.id))
  else
  ref21_Apart_k4 x130 x131 false
  else
  ref21_Apart_k4 x130 x131 false
  else
  (if decide (x130 < 0) then
  if decide (x108.e.act.kind = 6) then
  (some false).map Sum.inr
  else
  ref21_Apart_k2 x90
  else
  (ix xs15 x130).bind fun x222 =>
  if decide (x222.e.t ≠ x108.e.t) then
  (ix xs15 x130).bind fun x233 =>
  if decide (x233.e.act.val ≠ 0) then
  ref21_Apart_k5 x90 true
  else
  ref21_Apart_k5 x90 (decide (x108.e.act.kind = 6))
  else
  ref21_Apart_k5 x90 false).map Sum.inr
noncomputable def ref21_Apart_l3 (xs15 : List Tref21_Node) (x90 : Int) (x108 : Tref21_Node) (x130 : Int) (x131 : Int) : Option (Int ⊕ Bool) := loopO (fun s => ref21_Apart_l3b xs15 x90 x108 s.1 s.2) (x130, x131)
noncomputable def ref21_Apart_l2b (xs15 : List Tref21_Node) (x90 : Int) : Option (Int ⊕ Bool) :=
  if decide (x90 < (xs15.length : Int)) then
  (ix xs15 x90).bind fun x108 =>
  ref21_Apart_l3 xs15 x90 x108 (-1) 0
  else
  (some true).map Sum.inr
noncomputable def ref21_Apart_l2 (xs15 : List Tref21_Node) (x90 : Int) : Option Bool := loopO (fun s => ref21_Apart_l2b xs15 s) x90
noncomputable def ref21_Apart_l1b (x3 : List Tref21_Node) (xs15 : List Tref21_Node) (x16 : Int) : Option (((List Tref21_Node) × Int) ⊕ Bool) :=
  if decide (x16 < (x3.length : Int)) then
  (ix x3 x16).bind fun x38 =>
  if (decide (x38.e.act.kind = 5)) || (decide (x38.e.act.kind = 6)) then
  (ap xs15 [x38]).bind fun xs75 =>
  ref21_Apart_k1 x16 xs75
  else
  ref21_Apart_k1 x16 xs15
  else
  (ref21_Apart_l2 xs15 0).map Sum.inr
noncomputable def ref21_Apart_l1 (x3 : List Tref21_Node) (xs15 : List Tref21_Node) (x16 : Int) : Option Bool := loopO (fun s => ref21_Apart_l1b x3 s.1 s.2) (xs15, x16)
noncomputable def ref21_Apart (p0 : List (List TEvent)) : Option Bool :=
  (ref21_Nodes p0 true).bind fun x3 =>
  ref21_Apart_l1 x3 [] 0
noncomputable def law21_OrderApart_l2b (x39 : Int) (x52 : List TEvent) (x65 : Int) : Option (Int ⊕ (Int ⊕ Bool)) :=
  if decide (x65 < (x52.length : Int)) then
  (ix x52 x65).bind fun x78 =>
  if ((decide (x78.act.kind = 5)) || (decide (x78.act.kind = 6))) && (decide (x78.id = 0)) then
  ((some true).map Sum.inr).map Sum.inr
  else
  some (Sum.inl (w64 (x65 + 1)))
  else
  (some (Sum.inl (w64 (x39 + 1)))).map Sum.inr
noncomputable def law21_OrderApart_l2 (x39 : Int) (x52 : List TEvent) (x65 : Int) : Option (Int ⊕ Bool) := loopO (fun s => law21_OrderApart_l2b x39 x52 s) x65
noncomputable def law21_OrderApart_l1b (p0 : List (List TEvent)) (x39 : Int) : Option (Int ⊕ Bool) :=
  if decide (x39 < (p0.length : Int)) then
  (ix p0 x39).bind fun x52 =>
  law21_OrderApart_l2 x39 x52 0
  else
  ((order_Run_Apart p0).bind fun x125 =>
  (ref21_Apart p0).bind fun x134 =>
  some (x125 == x134)).map Sum.inr
noncomputable def law21_OrderApart_l1 (p0 : List (List TEvent)) (x39 : Int) : Option Bool := loopO (fun s => law21_OrderApart_l1b p0 s) x39
noncomputable def law21_OrderApart (p0 : List (List TEvent)) : Option Bool :=
  (law21_alive).bind fun x3 =>
  if !x3 then
  some false
  else
  (law21_great p0).bind fun x18 =>
  (if x18 then
  some true
  else
  (ref21_Good p0).bind fun x148 =>
  some (!x148)).bind fun y26 =>
  if y26 then
  some true
  else
  law21_OrderApart_l1 p0 0
end Go.Vm.GA21
