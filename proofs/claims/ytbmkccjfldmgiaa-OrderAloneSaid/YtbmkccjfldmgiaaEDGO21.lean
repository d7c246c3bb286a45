/-
  What functions compute, as plain functions.
-/
import Derived.Test.YtbmkccjfldmgiaaESp12
set_option linter.unusedSimpArgs false
set_option linter.unusedVariables false
namespace Go.Vm.GO21
open Go

def fnt46 : List Value := [.func (.func 26) #[] #[], .func (.func 27) #[] #[], .func (.func 28) #[] #[], .func (.func 29) #[] #[], .func (.func 30) #[] #[], .func (.func 54) #[] #[]]
structure TAct where
  kind : Int
  at_ : Int
  val : Int
  what : Int
  volatile : Bool
  final : Bool
def RT_TAct : RT TAct := ⟨6, fun V cs x => cs = [.int .i64 x.kind, .int .i64 x.at_, .int .i64 x.val, .int .i64 x.what, .bool x.volatile, .bool x.final], ⟨fun _ _ _ h => by rw [h]; rfl, fun _ _ _ h => by rw [h]; rfl, fun _ _ _ _ he h => h⟩⟩
structure TEvent where
  t : Int
  act : TAct
  rf : Int
  id : Int
def RT_TEvent : RT TEvent := ⟨9, fun V cs x => cs = [.int .i64 x.t, .int .i64 x.act.kind, .int .i64 x.act.at_, .int .i64 x.act.val, .int .i64 x.act.what, .bool x.act.volatile, .bool x.act.final, .int .i64 x.rf, .int .i64 x.id], ⟨fun _ _ _ h => by rw [h]; rfl, fun _ _ _ h => by rw [h]; rfl, fun _ _ _ _ he h => h⟩⟩
structure Torder_node where
  e : TEvent
  at_ : Int
def RT_Torder_node : RT Torder_node := ⟨10, fun V cs x => cs = [.int .i64 x.e.t, .int .i64 x.e.act.kind, .int .i64 x.e.act.at_, .int .i64 x.e.act.val, .int .i64 x.e.act.what, .bool x.e.act.volatile, .bool x.e.act.final, .int .i64 x.e.rf, .int .i64 x.e.id, .int .i64 x.at_], ⟨fun _ _ _ h => by rw [h]; rfl, fun _ _ _ h => by rw [h]; rfl, fun _ _ _ _ he h => h⟩⟩

def str1 : ByteArray := ⟨(([0, 1, 2, 2, 3, 3, 3, 3, 4, 4, 4, 4, 4, 4, 4, 4, 5, 5, 5, 5, 5, 5, 5, 5, 5, 5, 5, 5, 5, 5, 5, 5, 6, 6, 6, 6, 6, 6, 6, 6, 6, 6, 6, 6, 6, 6, 6, 6, 6, 6, 6, 6, 6, 6, 6, 6, 6, 6, 6, 6, 6, 6, 6, 6].append [7, 7, 7, 7, 7, 7, 7, 7, 7, 7, 7, 7, 7, 7, 7, 7, 7, 7, 7, 7, 7, 7, 7, 7, 7, 7, 7, 7, 7, 7, 7, 7, 7, 7, 7, 7, 7, 7, 7, 7, 7, 7, 7, 7, 7, 7, 7, 7, 7, 7, 7, 7, 7, 7, 7, 7, 7, 7, 7, 7, 7, 7, 7, 7]).append ([8, 8, 8, 8, 8, 8, 8, 8, 8, 8, 8, 8, 8, 8, 8, 8, 8, 8, 8, 8, 8, 8, 8, 8, 8, 8, 8, 8, 8, 8, 8, 8, 8, 8, 8, 8, 8, 8, 8, 8, 8, 8, 8, 8, 8, 8, 8, 8, 8, 8, 8, 8, 8, 8, 8, 8, 8, 8, 8, 8, 8, 8, 8, 8].append [8, 8, 8, 8, 8, 8, 8, 8, 8, 8, 8, 8, 8, 8, 8, 8, 8, 8, 8, 8, 8, 8, 8, 8, 8, 8, 8, 8, 8, 8, 8, 8, 8, 8, 8, 8, 8, 8, 8, 8, 8, 8, 8, 8, 8, 8, 8, 8, 8, 8, 8, 8, 8, 8, 8, 8, 8, 8, 8, 8, 8, 8, 8, 8])).toArray⟩
noncomputable def law21_w (p0 : Int) (p1 : Int) (p2 : Int) : Option TEvent :=
  some (⟨p0, (⟨2, p1, 1, 0, false, false⟩ : TAct), 0, p2⟩ : TEvent)
noncomputable def law21_r (p0 : Int) (p1 : Int) (p2 : Int) : Option TEvent :=
  some (⟨p0, (⟨1, p1, 0, 0, false, false⟩ : TAct), p2, 0⟩ : TEvent)
noncomputable def order_writes (p0 : TAct) : Option Bool :=
  some (((decide (p0.kind = 2)) || (decide (p0.kind = 5))) || (decide (p0.kind = 6)))
noncomputable def order_reads (p0 : TAct) : Option Bool :=
  some ((decide (p0.kind = 1)) || (decide (p0.kind = 5)))
noncomputable def order_every (p0 : TAct) : Option Bool :=
  some true
noncomputable def order_Run_nodes_k1 (x43 : Int) (xs58 : List Torder_node) : Option (((List Torder_node) × Int) ⊕ (((List Torder_node) × Int) ⊕ (List Torder_node))) :=
  some (Sum.inl (xs58, w64 (x43 + 1)))
noncomputable def order_Run_nodes_l2b (p0 : List (List TEvent)) (x9 : Int) (x26 : List TEvent) (xs42 : List Torder_node) (x43 : Int) : Option (((List Torder_node) × Int) ⊕ (((List Torder_node) × Int) ⊕ (List Torder_node))) :=
  if decide (x43 < (x26.length : Int)) then
  (ix p0 x9).bind fun x63 =>
  (ix x63 x43).bind fun x70 =>
  (order_writes x70.act).bind fun x92 =>
  (if x92 then
  some true
  else
  (order_reads x70.act).bind fun x156 =>
  some x156).bind fun y101 =>
  (if y101 then
  (order_every x70.act).bind fun x141 =>
  some x141
  else
  some false).bind fun y110 =>
  if y110 then
  (ap xs42 [(⟨x70, x43⟩ : Torder_node)]).bind fun xs127 =>
  order_Run_nodes_k1 x43 xs127
  else
  order_Run_nodes_k1 x43 xs42
  else
  (some (Sum.inl (xs42, w64 (x9 + 1)))).map Sum.inr
noncomputable def order_Run_nodes_l2 (p0 : List (List TEvent)) (x9 : Int) (x26 : List TEvent) (xs42 : List Torder_node) (x43 : Int) : Option (((List Torder_node) × Int) ⊕ (List Torder_node)) := loopO (fun s => order_Run_nodes_l2b p0 x9 x26 s.1 s.2) (xs42, x43)
noncomputable def order_Run_nodes_l1b (p0 : List (List TEvent)) (xs8 : List Torder_node) (x9 : Int) : Option (((List Torder_node) × Int) ⊕ (List Torder_node)) :=
  if decide (x9 < (p0.length : Int)) then
  (ix p0 x9).bind fun x26 =>
  order_Run_nodes_l2 p0 x9 x26 xs8 0
  else
  (some xs8).map Sum.inr
noncomputable def order_Run_nodes_l1 (p0 : List (List TEvent)) (xs8 : List Torder_node) (x9 : Int) : Option (List Torder_node) := loopO (fun s => order_Run_nodes_l1b p0 s.1 s.2) (xs8, x9)
noncomputable def order_Run_nodes (p0 : List (List TEvent)) : Option (List Torder_node) :=
  order_Run_nodes_l1 p0 [] 0
noncomputable def order_po (p0 : Torder_node) (p1 : Torder_node) : Option Bool :=
  some ((decide (p0.e.t = p1.e.t)) && (decide (p0.at_ < p1.at_)))
noncomputable def order_Run_Coherent_c1 (p0 : Torder_node) (p1 : Torder_node) : Option Bool :=
  (order_po p0 p1).bind fun x11 =>
  some (x11 && (decide (p0.e.act.at_ = p1.e.act.at_)))
noncomputable def order_rf (p0 : Torder_node) (p1 : Torder_node) : Option Bool :=
  (if decide (0 < p0.e.id) then
  (order_reads p1.e.act).bind fun x37 =>
  some x37
  else
  some false).bind fun y11 =>
  some (y11 && (decide (p1.e.rf = p0.e.id)))
noncomputable def order_co (p0 : Torder_node) (p1 : Torder_node) : Option Bool :=
  (order_writes p0.e.act).bind fun x11 =>
  (if x11 then
  (order_writes p1.e.act).bind fun x58 =>
  some x58
  else
  some false).bind fun y19 =>
  some ((y19 && (decide (p0.e.act.at_ = p1.e.act.at_))) && (decide (p0.e.id < p1.e.id)))
noncomputable def order_fr (p0 : Torder_node) (p1 : Torder_node) : Option Bool :=
  (order_reads p0.e.act).bind fun x11 =>
  (if x11 then
  (order_writes p1.e.act).bind fun x65 =>
  some x65
  else
  some false).bind fun y19 =>
  some (((y19 && (decide (p0.e.act.at_ = p1.e.act.at_))) && (decide (p0.e.rf < p1.e.id))) && (!(((decide (p0.e.t = p1.e.t)) && (((decide (p0.e.act.kind = p1.e.act.kind)) && ((decide (p0.e.act.at_ = p1.e.act.at_)) && ((decide (p0.e.act.val = p1.e.act.val)) && ((decide (p0.e.act.what = p1.e.act.what)) && ((p0.e.act.volatile == p1.e.act.volatile) && ((p0.e.act.final == p1.e.act.final) && true)))))) && ((decide (p0.e.rf = p1.e.rf)) && ((decide (p0.e.id = p1.e.id)) && true)))) && ((decide (p0.at_ = p1.at_)) && true))))
noncomputable def order_released (p0 : Torder_node) (p1 : Torder_node) : Option Bool :=
  some ((((((decide (p0.e.act.kind = 6)) || (p0.e.act.volatile && (decide (p0.e.act.kind = 2)))) && ((decide (p1.e.act.kind = 5)) || (p1.e.act.volatile && (decide (p1.e.act.kind = 1))))) && (decide (p0.e.act.at_ = p1.e.act.at_))) && (decide (0 < p0.e.id))) && (decide (p0.e.id ≤ p1.e.rf)))
noncomputable def order_join_c1 (p0 : Nat) (p1 : Torder_node) (p2 : Torder_node) : Option Bool :=
  if decide (p0 = 0) then
  (order_Run_Coherent_c1 p1 p2).bind fun x12 =>
  some x12
  else
  if decide (p0 = 1) then
  (order_po p1 p2).bind fun x25 =>
  some x25
  else
  if decide (p0 = 2) then
  (order_rf p1 p2).bind fun x38 =>
  some x38
  else
  if decide (p0 = 3) then
  (order_co p1 p2).bind fun x51 =>
  some x51
  else
  if decide (p0 = 4) then
  (order_fr p1 p2).bind fun x64 =>
  some x64
  else
  if decide (p0 = 5) then
  (order_released p1 p2).bind fun x77 =>
  some x77
  else
  none
noncomputable def slices_IndexFunc_l1b (p0 : List Nat) (p1_10 : Torder_node) (p1_11 : Torder_node) (x9 : Int) : Option (Int ⊕ Int) :=
  if decide (x9 < (p0.length : Int)) then
  (ix p0 x9).bind fun x22 =>
  (order_join_c1 x22 p1_10 p1_11).bind fun x40 =>
  if x40 then
  (some x9).map Sum.inr
  else
  some (Sum.inl (w64 (x9 + 1)))
  else
  (some (-1)).map Sum.inr
noncomputable def slices_IndexFunc_l1 (p0 : List Nat) (p1_10 : Torder_node) (p1_11 : Torder_node) (x9 : Int) : Option Int := loopO (fun s => slices_IndexFunc_l1b p0 p1_10 p1_11 s) x9
noncomputable def slices_IndexFunc (p0 : List Nat) (p1_10 : Torder_node) (p1_11 : Torder_node) : Option Int :=
  slices_IndexFunc_l1 p0 p1_10 p1_11 0
noncomputable def slices_ContainsFunc (p0 : List Nat) (p1_10 : Torder_node) (p1_11 : Torder_node) : Option Bool :=
  (slices_IndexFunc p0 p1_10 p1_11).bind fun x12 =>
  some (decide (0 ≤ x12))
noncomputable def order_join_k1 (x84 : Int) (xs101 : List (List Bool)) : Option (((List (List Bool)) × Int) ⊕ (((List (List Bool)) × Int) ⊕ (List (List Bool)))) :=
  some (Sum.inl (xs101, w64 (x84 + 1)))
noncomputable def order_join_l2b (p0 : List Torder_node) (p1 : List Nat) (x19 : Int) (x35 : Torder_node) (xs83 : List (List Bool)) (x84 : Int) : Option (((List (List Bool)) × Int) ⊕ (((List (List Bool)) × Int) ⊕ (List (List Bool)))) :=
  if decide (x84 < (p0.length : Int)) then
  (ix p0 x84).bind fun x106 =>
  (ix xs83 x19).bind fun x123 =>
  if decide (x19 ≠ x84) then
  (slices_ContainsFunc p1 x35 x106).bind fun x136 =>
  (ix xs83 x19).bind fun x147 =>
  (ix x147 x84).bind fun x154 =>
  order_join_k1 x84 (xs83.set (Int.toNat x19) (x147.set (Int.toNat x84) x136))
  else
  (ix xs83 x19).bind fun x178 =>
  (ix x178 x84).bind fun x185 =>
  order_join_k1 x84 (xs83.set (Int.toNat x19) (x178.set (Int.toNat x84) false))
  else
  (some (Sum.inl (xs83, w64 (x19 + 1)))).map Sum.inr
noncomputable def order_join_l2 (p0 : List Torder_node) (p1 : List Nat) (x19 : Int) (x35 : Torder_node) (xs83 : List (List Bool)) (x84 : Int) : Option (((List (List Bool)) × Int) ⊕ (List (List Bool))) := loopO (fun s => order_join_l2b p0 p1 x19 x35 s.1 s.2) (xs83, x84)
noncomputable def order_join_l1b (p0 : List Torder_node) (p1 : List Nat) (xs18 : List (List Bool)) (x19 : Int) : Option (((List (List Bool)) × Int) ⊕ (List (List Bool))) :=
  if decide (x19 < (p0.length : Int)) then
  (ix p0 x19).bind fun x35 =>
  (mk (p0.length : Int) false).bind fun xs57 =>
  (ix xs18 x19).bind fun x65 =>
  order_join_l2 p0 p1 x19 x35 (xs18.set (Int.toNat x19) xs57) 0
  else
  (some xs18).map Sum.inr
noncomputable def order_join_l1 (p0 : List Torder_node) (p1 : List Nat) (xs18 : List (List Bool)) (x19 : Int) : Option (List (List Bool)) := loopO (fun s => order_join_l1b p0 p1 s.1 s.2) (xs18, x19)
noncomputable def order_join (p0 : List Torder_node) (p1 : List Nat) : Option (List (List Bool)) :=
  (mk (p0.length : Int) ([] : List Bool)).bind fun xs8 =>
  order_join_l1 p0 p1 xs8 0
noncomputable def order_graph_visit_l1b (rec_ : (List (List Bool)) → Int → (List Int) → Option (Bool × (List Int))) (p0 : List (List Bool)) (p1 : Int) (x23 : List Bool) (xs37 : List Int) (x38 : Int) : Option (((List Int) × Int) ⊕ (Bool × (List Int))) :=
  if decide (x38 < (x23.length : Int)) then
  (ix p0 p1).bind fun x51 =>
  (ix x51 x38).bind fun x58 =>
  (if x58 then
  (ix xs37 x38).bind fun x104 =>
  (if decide (x104 = 1) then
  some (true, xs37)
  else
  (ix xs37 x38).bind fun x135 =>
  (if decide (x135 = 0) then
  (rec_ p0 x38 xs37).bind fun x159 =>
  some (x159.1, x159.2)
  else
  some (false, xs37)).bind fun y144 =>
  some (y144.1, y144.2)).bind fun y113 =>
  some (y113.1, y113.2)
  else
  some (false, xs37)).bind fun y73 =>
  if y73.1 then
  (some (true, y73.2)).map Sum.inr
  else
  some (Sum.inl (y73.2, w64 (x38 + 1)))
  else
  ((ix xs37 p1).bind fun x174 =>
  some (false, xs37.set (Int.toNat p1) 2)).map Sum.inr
noncomputable def order_graph_visit_l1 (rec_ : (List (List Bool)) → Int → (List Int) → Option (Bool × (List Int))) (p0 : List (List Bool)) (p1 : Int) (x23 : List Bool) (xs37 : List Int) (x38 : Int) : Option (Bool × (List Int)) := loopO (fun s => order_graph_visit_l1b rec_ p0 p1 x23 s.1 s.2) (xs37, x38)
noncomputable def order_graph_visit_F (rec_ : (List (List Bool)) → Int → (List Int) → Option (Bool × (List Int))) (p0 : List (List Bool)) (p1 : Int) (p2 : List Int) : Option (Bool × (List Int)) :=
  (ix p2 p1).bind fun x6 =>
  (ix p0 p1).bind fun x23 =>
  order_graph_visit_l1 rec_ p0 p1 x23 (p2.set (Int.toNat p1) 1) 0
noncomputable def order_graph_visit (p0 : List (List Bool)) (p1 : Int) (p2 : List Int) : Option (Bool × (List Int)) := recO (fun rec_ a => order_graph_visit_F (fun p0 p1 p2 => rec_ (p0, p1, p2)) a.1 a.2.1 a.2.2) (p0, p1, p2)
noncomputable def order_graph_cyclic_l1b (p0 : List (List Bool)) (xs12 : List Int) (x13 : Int) : Option (((List Int) × Int) ⊕ Bool) :=
  if decide (x13 < (p0.length : Int)) then
  (ix xs12 x13).bind fun x28 =>
  (if decide (x28 = 0) then
  (order_graph_visit p0 x13 xs12).bind fun x62 =>
  some (x62.1, x62.2)
  else
  some (false, xs12)).bind fun y42 =>
  if y42.1 then
  (some true).map Sum.inr
  else
  some (Sum.inl (y42.2, w64 (x13 + 1)))
  else
  (some false).map Sum.inr
noncomputable def order_graph_cyclic_l1 (p0 : List (List Bool)) (xs12 : List Int) (x13 : Int) : Option Bool := loopO (fun s => order_graph_cyclic_l1b p0 s.1 s.2) (xs12, x13)
noncomputable def order_graph_cyclic (p0 : List (List Bool)) : Option Bool :=
  (mk (p0.length : Int) 0).bind fun xs4 =>
  order_graph_cyclic_l1 p0 xs4 0
noncomputable def order_Run_Serial (p0 : List (List TEvent)) : Option Bool :=
  (order_Run_nodes p0).bind fun x4 =>
  (order_join x4 [1, 2, 3, 4]).bind fun x20 =>
  (order_graph_cyclic x20).bind fun x31 =>
  some (!x31)
noncomputable def order_Run_Coherent (p0 : List (List TEvent)) : Option Bool :=
  (order_Run_nodes p0).bind fun x4 =>
  (order_join x4 [0, 2, 3, 4]).bind fun x20 =>
  (order_graph_cyclic x20).bind fun x31 =>
  some (!x31)
noncomputable def order_graph_closed_k1 (x115 : Int) (xs128 : List (List Bool)) (xs131 : List Int) : Option (((List (List Bool)) × (List Int) × Int) ⊕ (((List (List Bool)) × (List Int)) ⊕ (((List (List Bool)) × Int) ⊕ (List (List Bool))))) :=
  some (Sum.inl (xs128, xs131, w64 (x115 + 1)))
noncomputable def order_graph_closed_l3b (p0 : List (List Bool)) (x18 : Int) (x83 : Int) (x97 : List Bool) (xs111 : List (List Bool)) (xs114 : List Int) (x115 : Int) : Option (((List (List Bool)) × (List Int) × Int) ⊕ (((List (List Bool)) × (List Int)) ⊕ (((List (List Bool)) × Int) ⊕ (List (List Bool))))) :=
  if decide (x115 < (x97.length : Int)) then
  (ix p0 x83).bind fun x136 =>
  (ix x136 x115).bind fun x143 =>
  (if x143 then
  (ix xs111 x18).bind fun x217 =>
  (ix x217 x115).bind fun x225 =>
  some (!x225)
  else
  some false).bind fun y158 =>
  if y158 then
  (ix xs111 x18).bind fun x174 =>
  (ix x174 x115).bind fun x182 =>
  (ap xs114 [x115]).bind fun xs204 =>
  order_graph_closed_k1 x115 (xs111.set (Int.toNat x18) (x174.set (Int.toNat x115) true)) xs204
  else
  order_graph_closed_k1 x115 xs111 xs114
  else
  ((cutL xs114 1 (xs114.length : Int)).bind fun xs245 =>
  some (Sum.inl (xs111, xs245))).map Sum.inr
noncomputable def order_graph_closed_l3 (p0 : List (List Bool)) (x18 : Int) (x83 : Int) (x97 : List Bool) (xs111 : List (List Bool)) (xs114 : List Int) (x115 : Int) : Option (((List (List Bool)) × (List Int)) ⊕ (((List (List Bool)) × Int) ⊕ (List (List Bool)))) := loopO (fun s => order_graph_closed_l3b p0 x18 x83 x97 s.1 s.2.1 s.2.2) (xs111, xs114, x115)
noncomputable def order_graph_closed_l2b (p0 : List (List Bool)) (x18 : Int) (xs64 : List (List Bool)) (xs67 : List Int) : Option (((List (List Bool)) × (List Int)) ⊕ (((List (List Bool)) × Int) ⊕ (List (List Bool)))) :=
  if decide (0 < (xs67.length : Int)) then
  (ix xs67 0).bind fun x83 =>
  (ix p0 x83).bind fun x97 =>
  order_graph_closed_l3 p0 x18 x83 x97 xs64 xs67 0
  else
  (some (Sum.inl (xs64, w64 (x18 + 1)))).map Sum.inr
noncomputable def order_graph_closed_l2 (p0 : List (List Bool)) (x18 : Int) (xs64 : List (List Bool)) (xs67 : List Int) : Option (((List (List Bool)) × Int) ⊕ (List (List Bool))) := loopO (fun s => order_graph_closed_l2b p0 x18 s.1 s.2) (xs64, xs67)
noncomputable def order_graph_closed_l1b (p0 : List (List Bool)) (xs17 : List (List Bool)) (x18 : Int) : Option (((List (List Bool)) × Int) ⊕ (List (List Bool))) :=
  if decide (x18 < (p0.length : Int)) then
  (mk (p0.length : Int) false).bind fun xs33 =>
  (ix xs17 x18).bind fun x41 =>
  order_graph_closed_l2 p0 x18 (xs17.set (Int.toNat x18) xs33) [x18]
  else
  (some xs17).map Sum.inr
noncomputable def order_graph_closed_l1 (p0 : List (List Bool)) (xs17 : List (List Bool)) (x18 : Int) : Option (List (List Bool)) := loopO (fun s => order_graph_closed_l1b p0 s.1 s.2) (xs17, x18)
noncomputable def order_graph_closed (p0 : List (List Bool)) : Option (List (List Bool)) :=
  (mk (p0.length : Int) ([] : List Bool)).bind fun xs7 =>
  order_graph_closed_l1 p0 xs7 0
noncomputable def order_Run_happens (p0 : List (List TEvent)) (p1 : List Torder_node) : Option (List (List Bool)) :=
  (order_join p1 [1, 5]).bind fun x15 =>
  (order_graph_closed x15).bind fun x26 =>
  some x26
noncomputable def order_syncs (p0 : TAct) : Option Bool :=
  some (((p0.volatile && ((decide (p0.kind = 1)) || (decide (p0.kind = 2)))) || (decide (p0.kind = 5))) || (decide (p0.kind = 6)))
noncomputable def order_Run_Racy_l2b (x15 : List (List Bool)) (xs26 : List Torder_node) (xs29 : List Torder_node) (x32 : Int) (x53 : Torder_node) (xs73 : List Torder_node) (x79 : Int) : Option (Int ⊕ (((List Torder_node) × (List Torder_node) × Int) ⊕ Bool)) :=
  if decide (x79 < (xs73.length : Int)) then
  (ix xs73 x79).bind fun x95 =>
  (order_syncs x53.e.act).bind fun x114 =>
  (if !x114 then
  some true
  else
  (order_syncs x95.e.act).bind fun x319 =>
  some (!x319)).bind fun y122 =>
  (if (y122 && (decide (x53.e.t ≠ x95.e.t))) && (decide (x53.e.act.at_ = x95.e.act.at_)) then
  (order_writes x53.e.act).bind fun x277 =>
  (if x277 then
  some true
  else
  (order_writes x95.e.act).bind fun x300 =>
  some x300).bind fun y285 =>
  some y285
  else
  some false).bind fun y155 =>
  (if y155 then
  (ix x15 x32).bind fun x244 =>
  (ix x244 x79).bind fun x257 =>
  some (!x257)
  else
  some false).bind fun y171 =>
  (if y171 then
  (ix x15 x79).bind fun x211 =>
  (ix x211 x32).bind fun x224 =>
  some (!x224)
  else
  some false).bind fun y185 =>
  if y185 then
  ((some true).map Sum.inr).map Sum.inr
  else
  some (Sum.inl (w64 (x79 + 1)))
  else
  (some (Sum.inl (xs26, xs29, w64 (x32 + 1)))).map Sum.inr
noncomputable def order_Run_Racy_l2 (x15 : List (List Bool)) (xs26 : List Torder_node) (xs29 : List Torder_node) (x32 : Int) (x53 : Torder_node) (xs73 : List Torder_node) (x79 : Int) : Option (((List Torder_node) × (List Torder_node) × Int) ⊕ Bool) := loopO (fun s => order_Run_Racy_l2b x15 xs26 xs29 x32 x53 xs73 s) x79
noncomputable def order_Run_Racy_l1b (x4 : List Torder_node) (x15 : List (List Bool)) (xs26 : List Torder_node) (xs29 : List Torder_node) (x32 : Int) : Option (((List Torder_node) × (List Torder_node) × Int) ⊕ Bool) :=
  if decide (x32 < (x4.length : Int)) then
  (ix xs29 x32).bind fun x53 =>
  (cutL xs26 0 x32).bind fun xs73 =>
  order_Run_Racy_l2 x15 xs26 xs29 x32 x53 xs73 0
  else
  (some false).map Sum.inr
noncomputable def order_Run_Racy_l1 (x4 : List Torder_node) (x15 : List (List Bool)) (xs26 : List Torder_node) (xs29 : List Torder_node) (x32 : Int) : Option Bool := loopO (fun s => order_Run_Racy_l1b x4 x15 s.1 s.2.1 s.2.2) (xs26, xs29, x32)
noncomputable def order_Run_Racy (p0 : List (List TEvent)) : Option Bool :=
  (order_Run_nodes p0).bind fun x4 =>
  (order_Run_happens p0 x4).bind fun x15 =>
  order_Run_Racy_l1 x4 x15 x4 x4 0
noncomputable def law21_alive : Option Bool :=
  (law21_w 0 8 1).bind fun x1 =>
  (law21_r 0 16 0).bind fun x9 =>
  (law21_w 1 16 2).bind fun x22 =>
  (law21_r 1 8 0).bind fun x30 =>
  (order_Run_Serial ([[x1, x9], [x22, x30]])).bind fun x49 =>
  (if !x49 then
  (order_Run_Coherent ([[x1, x9], [x22, x30]])).bind fun x91 =>
  some x91
  else
  some false).bind fun y57 =>
  (if y57 then
  (order_Run_Racy ([[x1, x9], [x22, x30]])).bind fun x77 =>
  some x77
  else
  some false).bind fun y65 =>
  some y65
noncomputable def order_join_2_k1 (x80 : Int) (xs96 : List (List Bool)) : Option (((List (List Bool)) × Int) ⊕ (((List (List Bool)) × Int) ⊕ (List (List Bool)))) :=
  some (Sum.inl (xs96, w64 (x80 + 1)))
noncomputable def order_join_2_l2b (p0 : List Torder_node) (p1 : List Nat) (x19 : Int) (x34 : Torder_node) (xs79 : List (List Bool)) (x80 : Int) : Option (((List (List Bool)) × Int) ⊕ (((List (List Bool)) × Int) ⊕ (List (List Bool)))) :=
  if decide (x80 < (p0.length : Int)) then
  (ix p0 x80).bind fun x101 =>
  (ix xs79 x19).bind fun x120 =>
  if decide (x19 ≠ x80) then
  (slices_ContainsFunc p1 x34 x101).bind fun x133 =>
  (ix xs79 x19).bind fun x144 =>
  (ix x144 x80).bind fun x151 =>
  order_join_2_k1 x80 (xs79.set (Int.toNat x19) (x144.set (Int.toNat x80) x133))
  else
  (ix xs79 x19).bind fun x174 =>
  (ix x174 x80).bind fun x181 =>
  order_join_2_k1 x80 (xs79.set (Int.toNat x19) (x174.set (Int.toNat x80) false))
  else
  (some (Sum.inl (xs79, w64 (x19 + 1)))).map Sum.inr
noncomputable def order_join_2_l2 (p0 : List Torder_node) (p1 : List Nat) (x19 : Int) (x34 : Torder_node) (xs79 : List (List Bool)) (x80 : Int) : Option (((List (List Bool)) × Int) ⊕ (List (List Bool))) := loopO (fun s => order_join_2_l2b p0 p1 x19 x34 s.1 s.2) (xs79, x80)
noncomputable def order_join_2_l1b (p0 : List Torder_node) (p1 : List Nat) (xs18 : List (List Bool)) (x19 : Int) : Option (((List (List Bool)) × Int) ⊕ (List (List Bool))) :=
  if decide (x19 < (p0.length : Int)) then
  (ix p0 x19).bind fun x34 =>
  (mk (p0.length : Int) false).bind fun xs53 =>
  (ix xs18 x19).bind fun x61 =>
  order_join_2_l2 p0 p1 x19 x34 (xs18.set (Int.toNat x19) xs53) 0
  else
  (some xs18).map Sum.inr
noncomputable def order_join_2_l1 (p0 : List Torder_node) (p1 : List Nat) (xs18 : List (List Bool)) (x19 : Int) : Option (List (List Bool)) := loopO (fun s => order_join_2_l1b p0 p1 s.1 s.2) (xs18, x19)
noncomputable def order_join_2 (p0 : List Torder_node) (p1 : List Nat) : Option (List (List Bool)) :=
  (mk (p0.length : Int) ([] : List Bool)).bind fun xs8 =>
  order_join_2_l1 p0 p1 xs8 0
noncomputable def order_Run_happens_2 (p0 : List (List TEvent)) (p1 : List Torder_node) : Option (List (List Bool)) :=
  (order_join_2 p1 [1, 5]).bind fun x15 =>
  (order_graph_closed x15).bind fun x26 =>
  some x26
noncomputable def slices_Index_l1b (p0 : List Torder_node) (p1 : Torder_node) (x8 : Int) : Option (Int ⊕ Int) :=
  if decide (x8 < (p0.length : Int)) then
  (ix p0 x8).bind fun x21 =>
  if ((decide (p1.e.t = x21.e.t)) && (((decide (p1.e.act.kind = x21.e.act.kind)) && ((decide (p1.e.act.at_ = x21.e.act.at_)) && ((decide (p1.e.act.val = x21.e.act.val)) && ((decide (p1.e.act.what = x21.e.act.what)) && ((p1.e.act.volatile == x21.e.act.volatile) && ((p1.e.act.final == x21.e.act.final) && true)))))) && ((decide (p1.e.rf = x21.e.rf)) && ((decide (p1.e.id = x21.e.id)) && true)))) && ((decide (p1.at_ = x21.at_)) && true) then
  (some x8).map Sum.inr
  else
  some (Sum.inl (w64 (x8 + 1)))
  else
  (some (-1)).map Sum.inr
noncomputable def slices_Index_l1 (p0 : List Torder_node) (p1 : Torder_node) (x8 : Int) : Option Int := loopO (fun s => slices_Index_l1b p0 p1 s) x8
noncomputable def slices_Index (p0 : List Torder_node) (p1 : Torder_node) : Option Int :=
  slices_Index_l1 p0 p1 0
noncomputable def order_Run_Consistent_c1_k1 (x23 : Bool) : Option Bool :=
  some x23
noncomputable def order_Run_Consistent_c1 (p0 : Torder_node) (p1 : Torder_node) (p2 : List (List Bool)) (p3 : List Torder_node) (p4 : Int) : Option Bool :=
  (order_rf p0 p1).bind fun x29 =>
  if x29 then
  (slices_Index p3 p0).bind fun x40 =>
  (ix p2 x40).bind fun x48 =>
  (ix x48 p4).bind fun x61 =>
  order_Run_Consistent_c1_k1 x61
  else
  order_Run_Consistent_c1_k1 false
noncomputable def slices_IndexFunc_2_l1b (p0 : List Torder_node) (p1_10 : Torder_node) (p1_11 : List (List Bool)) (p1_12 : List Torder_node) (p1_13 : Int) (x20 : Int) : Option (Int ⊕ Int) :=
  if decide (x20 < (p0.length : Int)) then
  (ix p0 x20).bind fun x33 =>
  (order_Run_Consistent_c1 x33 p1_10 p1_11 p1_12 p1_13).bind fun x50 =>
  if x50 then
  (some x20).map Sum.inr
  else
  some (Sum.inl (w64 (x20 + 1)))
  else
  (some (-1)).map Sum.inr
noncomputable def slices_IndexFunc_2_l1 (p0 : List Torder_node) (p1_10 : Torder_node) (p1_11 : List (List Bool)) (p1_12 : List Torder_node) (p1_13 : Int) (x20 : Int) : Option Int := loopO (fun s => slices_IndexFunc_2_l1b p0 p1_10 p1_11 p1_12 p1_13 s) x20
noncomputable def slices_IndexFunc_2 (p0 : List Torder_node) (p1_10 : Torder_node) (p1_11 : List (List Bool)) (p1_12 : List Torder_node) (p1_13 : Int) : Option Int :=
  slices_IndexFunc_2_l1 p0 p1_10 p1_11 p1_12 p1_13 0
noncomputable def slices_ContainsFunc_2 (p0 : List Torder_node) (p1_10 : Torder_node) (p1_11 : List (List Bool)) (p1_12 : List Torder_node) (p1_13 : Int) : Option Bool :=
  (slices_IndexFunc_2 p0 p1_10 p1_11 p1_12 p1_13).bind fun x25 =>
  some (decide (0 ≤ x25))
noncomputable def order_Run_Consistent_k1 (x48 : Int) : Option (Int ⊕ Bool) :=
  some (Sum.inl (w64 (x48 + 1)))
noncomputable def order_Run_Consistent_k2 (x102 : Int) : Option (Int ⊕ (Int ⊕ Bool)) :=
  some (Sum.inl (w64 (x102 + 1)))
noncomputable def order_Run_Consistent_k3 (x4 : List Torder_node) (x29 : List (List Bool)) (x48 : Int) (x69 : Torder_node) (x102 : Int) (x124 : Torder_node) (x179 : Bool) : Option (Int ⊕ (Int ⊕ Bool)) :=
  if x179 then
  ((some false).map Sum.inr).map Sum.inr
  else
  (ix x29 x102).bind fun x196 =>
  (ix x196 x48).bind fun x209 =>
  if (x209 && (decide (x69.e.rf < x124.e.id))) && (decide (x69.e.rf = 0)) then
  ((some false).map Sum.inr).map Sum.inr
  else
  (ix x29 x102).bind fun x253 =>
  (ix x253 x48).bind fun x261 =>
  (if x261 then
  (slices_ContainsFunc_2 x4 x69 x29 x4 x102).bind fun x307 =>
  some x307
  else
  some false).bind fun y276 =>
  if y276 then
  ((some false).map Sum.inr).map Sum.inr
  else
  order_Run_Consistent_k2 x102 
noncomputable def order_Run_Consistent_l2b (x4 : List Torder_node) (x29 : List (List Bool)) (x48 : Int) (x69 : Torder_node) (x102 : Int) : Option (Int ⊕ (Int ⊕ Bool)) :=
  if decide (x102 < (x4.length : Int)) then
  (ix x4 x102).bind fun x124 =>
  (if decide (x48 = x102) then
  some true
  else
  (order_writes x124.e.act).bind fun x385 =>
  some (!x385)).bind fun y151 =>
  if y151 || (decide (x124.e.act.at_ ≠ x69.e.act.at_)) then
  order_Run_Consistent_k2 x102 
  else
  (order_rf x124 x69).bind fun x327 =>
  if x327 then
  (ix x29 x48).bind fun x337 =>
  (ix x337 x102).bind fun x350 =>
  order_Run_Consistent_k3 x4 x29 x48 x69 x102 x124 x350
  else
  order_Run_Consistent_k3 x4 x29 x48 x69 x102 x124 false
  else
  (order_Run_Consistent_k1 x48 ).map Sum.inr
noncomputable def order_Run_Consistent_l2 (x4 : List Torder_node) (x29 : List (List Bool)) (x48 : Int) (x69 : Torder_node) (x102 : Int) : Option (Int ⊕ Bool) := loopO (fun s => order_Run_Consistent_l2b x4 x29 x48 x69 s) x102
noncomputable def order_Run_Consistent_l1b (x4 : List Torder_node) (x29 : List (List Bool)) (x48 : Int) : Option (Int ⊕ Bool) :=
  if decide (x48 < (x4.length : Int)) then
  (ix x4 x48).bind fun x69 =>
  (order_reads x69.e.act).bind fun x88 =>
  if !x88 then
  order_Run_Consistent_k1 x48 
  else
  order_Run_Consistent_l2 x4 x29 x48 x69 0
  else
  (some true).map Sum.inr
noncomputable def order_Run_Consistent_l1 (x4 : List Torder_node) (x29 : List (List Bool)) (x48 : Int) : Option Bool := loopO (fun s => order_Run_Consistent_l1b x4 x29 s) x48
noncomputable def order_Run_Consistent (p0 : List (List TEvent)) : Option Bool :=
  (order_Run_nodes p0).bind fun x4 =>
  (order_Run_happens_2 p0 x4).bind fun x29 =>
  order_Run_Consistent_l1 x4 x29 0
noncomputable def order_Run_nodes_2_k1 (x43 : Int) (xs58 : List Torder_node) : Option (((List Torder_node) × Int) ⊕ (((List Torder_node) × Int) ⊕ (List Torder_node))) :=
  some (Sum.inl (xs58, w64 (x43 + 1)))
noncomputable def order_Run_nodes_2_l2b (p0 : List (List TEvent)) (x9 : Int) (x26 : List TEvent) (xs42 : List Torder_node) (x43 : Int) : Option (((List Torder_node) × Int) ⊕ (((List Torder_node) × Int) ⊕ (List Torder_node))) :=
  if decide (x43 < (x26.length : Int)) then
  (ix p0 x9).bind fun x63 =>
  (ix x63 x43).bind fun x70 =>
  (order_writes x70.act).bind fun x92 =>
  (if x92 then
  some true
  else
  (order_reads x70.act).bind fun x156 =>
  some x156).bind fun y101 =>
  (if y101 then
  (order_syncs x70.act).bind fun x141 =>
  some x141
  else
  some false).bind fun y110 =>
  if y110 then
  (ap xs42 [(⟨x70, x43⟩ : Torder_node)]).bind fun xs127 =>
  order_Run_nodes_2_k1 x43 xs127
  else
  order_Run_nodes_2_k1 x43 xs42
  else
  (some (Sum.inl (xs42, w64 (x9 + 1)))).map Sum.inr
noncomputable def order_Run_nodes_2_l2 (p0 : List (List TEvent)) (x9 : Int) (x26 : List TEvent) (xs42 : List Torder_node) (x43 : Int) : Option (((List Torder_node) × Int) ⊕ (List Torder_node)) := loopO (fun s => order_Run_nodes_2_l2b p0 x9 x26 s.1 s.2) (xs42, x43)
noncomputable def order_Run_nodes_2_l1b (p0 : List (List TEvent)) (xs8 : List Torder_node) (x9 : Int) : Option (((List Torder_node) × Int) ⊕ (List Torder_node)) :=
  if decide (x9 < (p0.length : Int)) then
  (ix p0 x9).bind fun x26 =>
  order_Run_nodes_2_l2 p0 x9 x26 xs8 0
  else
  (some xs8).map Sum.inr
noncomputable def order_Run_nodes_2_l1 (p0 : List (List TEvent)) (xs8 : List Torder_node) (x9 : Int) : Option (List Torder_node) := loopO (fun s => order_Run_nodes_2_l1b p0 s.1 s.2) (xs8, x9)
noncomputable def order_Run_nodes_2 (p0 : List (List TEvent)) : Option (List Torder_node) :=
  order_Run_nodes_2_l1 p0 [] 0
noncomputable def order_Run_Synced (p0 : List (List TEvent)) : Option Bool :=
  (order_Run_nodes_2 p0).bind fun x4 =>
  (order_join x4 [1, 2, 3, 4]).bind fun x20 =>
  (order_graph_cyclic x20).bind fun x31 =>
  some (!x31)
noncomputable def order_Run_Apart_c1 (p0 : TAct) : Option Bool :=
  some ((decide (p0.kind = 5)) || (decide (p0.kind = 6)))
noncomputable def order_Run_nodes_3_k1 (x43 : Int) (xs58 : List Torder_node) : Option (((List Torder_node) × Int) ⊕ (((List Torder_node) × Int) ⊕ (List Torder_node))) :=
  some (Sum.inl (xs58, w64 (x43 + 1)))
noncomputable def order_Run_nodes_3_l2b (p0 : List (List TEvent)) (x9 : Int) (x26 : List TEvent) (xs42 : List Torder_node) (x43 : Int) : Option (((List Torder_node) × Int) ⊕ (((List Torder_node) × Int) ⊕ (List Torder_node))) :=
  if decide (x43 < (x26.length : Int)) then
  (ix p0 x9).bind fun x63 =>
  (ix x63 x43).bind fun x70 =>
  (order_writes x70.act).bind fun x92 =>
  (if x92 then
  some true
  else
  (order_reads x70.act).bind fun x156 =>
  some x156).bind fun y101 =>
  (if y101 then
  (order_Run_Apart_c1 x70.act).bind fun x141 =>
  some x141
  else
  some false).bind fun y110 =>
  if y110 then
  (ap xs42 [(⟨x70, x43⟩ : Torder_node)]).bind fun xs127 =>
  order_Run_nodes_3_k1 x43 xs127
  else
  order_Run_nodes_3_k1 x43 xs42
  else
  (some (Sum.inl (xs42, w64 (x9 + 1)))).map Sum.inr
noncomputable def order_Run_nodes_3_l2 (p0 : List (List TEvent)) (x9 : Int) (x26 : List TEvent) (xs42 : List Torder_node) (x43 : Int) : Option (((List Torder_node) × Int) ⊕ (List Torder_node)) := loopO (fun s => order_Run_nodes_3_l2b p0 x9 x26 s.1 s.2) (xs42, x43)
noncomputable def order_Run_nodes_3_l1b (p0 : List (List TEvent)) (xs8 : List Torder_node) (x9 : Int) : Option (((List Torder_node) × Int) ⊕ (List Torder_node)) :=
  if decide (x9 < (p0.length : Int)) then
  (ix p0 x9).bind fun x26 =>
  order_Run_nodes_3_l2 p0 x9 x26 xs8 0
  else
  (some xs8).map Sum.inr
noncomputable def order_Run_nodes_3_l1 (p0 : List (List TEvent)) (xs8 : List Torder_node) (x9 : Int) : Option (List Torder_node) := loopO (fun s => order_Run_nodes_3_l1b p0 s.1 s.2) (xs8, x9)
noncomputable def order_Run_nodes_3 (p0 : List (List TEvent)) : Option (List Torder_node) :=
  order_Run_nodes_3_l1 p0 [] 0
noncomputable def math_bits_Len64_k3 (x13 : Int) (x14 : Int) : Option Int :=
  (ixS str1 (IntKind.wrap .u8 x13)).bind fun x19 =>
  some (w64 (x14 + (w64 x19)))
noncomputable def math_bits_Len64_k2 (x7 : Int) (x8 : Int) : Option Int :=
  if decide (256 ≤ x7) then
  (shrO .u64 x7 8).bind fun x25 =>
  math_bits_Len64_k3 x25 (w64 (x8 + 8))
  else
  math_bits_Len64_k3 x7 x8
noncomputable def math_bits_Len64_k1 (x1 : Int) (x2 : Int) : Option Int :=
  if decide (65536 ≤ x1) then
  (shrO .u64 x1 16).bind fun x31 =>
  math_bits_Len64_k2 x31 (w64 (x2 + 16))
  else
  math_bits_Len64_k2 x1 x2
noncomputable def math_bits_Len64 (p0 : Int) : Option Int :=
  if decide (4294967296 ≤ p0) then
  (shrO .u64 p0 32).bind fun x37 =>
  math_bits_Len64_k1 x37 32
  else
  math_bits_Len64_k1 p0 0
noncomputable def math_bits_Len (p0 : Int) : Option Int :=
  (math_bits_Len64 p0).bind fun x1 =>
  some x1
noncomputable def order_Run_Apart_c2 (p0 : Torder_node) (p1 : Torder_node) : Option Int :=
  some (w64 (p0.e.id - p1.e.id))
noncomputable def slices_insertionSortCmpFunc_k1 (x4 : Int) (xs17 : List Torder_node) (x18 : Int) (x29 : Bool) : Option (((List Torder_node) × Int) ⊕ (((List Torder_node) × Int) ⊕ (List Torder_node))) :=
  if x29 then
  (ix xs17 (w64 (x18 - 1))).bind fun x36 =>
  (ix xs17 x18).bind fun x50 =>
  (ix xs17 x18).bind fun x59 =>
  (ix (xs17.set (Int.toNat x18) x36) (w64 (x18 - 1))).bind fun x71 =>
  some (Sum.inl ((xs17.set (Int.toNat x18) x36).set (Int.toNat (w64 (x18 - 1))) x50, w64 (x18 - 1)))
  else
  (some (Sum.inl (xs17, w64 (x4 + 1)))).map Sum.inr
noncomputable def slices_insertionSortCmpFunc_l2b (p1 : Int) (x4 : Int) (xs17 : List Torder_node) (x18 : Int) : Option (((List Torder_node) × Int) ⊕ (((List Torder_node) × Int) ⊕ (List Torder_node))) :=
  if decide (p1 < x18) then
  (ix xs17 x18).bind fun x87 =>
  (ix xs17 (w64 (x18 - 1))).bind fun x101 =>
  (order_Run_Apart_c2 x87 x101).bind fun x110 =>
  slices_insertionSortCmpFunc_k1 x4 xs17 x18 (decide (x110 < 0))
  else
  slices_insertionSortCmpFunc_k1 x4 xs17 x18 false
noncomputable def slices_insertionSortCmpFunc_l2 (p1 : Int) (x4 : Int) (xs17 : List Torder_node) (x18 : Int) : Option (((List Torder_node) × Int) ⊕ (List Torder_node)) := loopO (fun s => slices_insertionSortCmpFunc_l2b p1 x4 s.1 s.2) (xs17, x18)
noncomputable def slices_insertionSortCmpFunc_l1b (p1 : Int) (p2 : Int) (xs3 : List Torder_node) (x4 : Int) : Option (((List Torder_node) × Int) ⊕ (List Torder_node)) :=
  if decide (x4 < p2) then
  slices_insertionSortCmpFunc_l2 p1 x4 xs3 x4
  else
  (some xs3).map Sum.inr
noncomputable def slices_insertionSortCmpFunc_l1 (p1 : Int) (p2 : Int) (xs3 : List Torder_node) (x4 : Int) : Option (List Torder_node) := loopO (fun s => slices_insertionSortCmpFunc_l1b p1 p2 s.1 s.2) (xs3, x4)
noncomputable def slices_insertionSortCmpFunc (p0 : List Torder_node) (p1 : Int) (p2 : Int) : Option (List Torder_node) :=
  slices_insertionSortCmpFunc_l1 p1 p2 p0 (w64 (p1 + 1))
noncomputable def slices_siftDownCmpFunc_k1 (p3 : Int) (xs3 : List Torder_node) (x4 : Int) (x20 : Int) : Option (((List Torder_node) × Int) ⊕ (List Torder_node)) :=
  (ix xs3 (w64 (p3 + x4))).bind fun x25 =>
  (ix xs3 (w64 (p3 + x20))).bind fun x39 =>
  (order_Run_Apart_c2 x25 x39).bind fun x48 =>
  if !(decide (x48 < 0)) then
  (some xs3).map Sum.inr
  else
  (ix xs3 (w64 (p3 + x20))).bind fun x63 =>
  (ix xs3 (w64 (p3 + x4))).bind fun x72 =>
  (ix xs3 (w64 (p3 + x4))).bind fun x81 =>
  (ix (xs3.set (Int.toNat (w64 (p3 + x4))) x63) (w64 (p3 + x20))).bind fun x93 =>
  some (Sum.inl ((xs3.set (Int.toNat (w64 (p3 + x4))) x63).set (Int.toNat (w64 (p3 + x20))) x72, x20))
noncomputable def slices_siftDownCmpFunc_k2 (p3 : Int) (xs3 : List Torder_node) (x4 : Int) (x105 : Bool) : Option (((List Torder_node) × Int) ⊕ (List Torder_node)) :=
  if x105 then
  slices_siftDownCmpFunc_k1 p3 xs3 x4 (w64 ((w64 ((w64 (2 * x4)) + 1)) + 1))
  else
  slices_siftDownCmpFunc_k1 p3 xs3 x4 (w64 ((w64 (2 * x4)) + 1))
noncomputable def slices_siftDownCmpFunc_l1b (p2 : Int) (p3 : Int) (xs3 : List Torder_node) (x4 : Int) : Option (((List Torder_node) × Int) ⊕ (List Torder_node)) :=
  if decide (p2 ≤ (w64 ((w64 (2 * x4)) + 1))) then
  (some xs3).map Sum.inr
  else
  if decide ((w64 ((w64 ((w64 (2 * x4)) + 1)) + 1)) < p2) then
  (ix xs3 (w64 (p3 + (w64 ((w64 (2 * x4)) + 1))))).bind fun x115 =>
  (ix xs3 (w64 ((w64 (p3 + (w64 ((w64 (2 * x4)) + 1)))) + 1))).bind fun x129 =>
  (order_Run_Apart_c2 x115 x129).bind fun x138 =>
  slices_siftDownCmpFunc_k2 p3 xs3 x4 (decide (x138 < 0))
  else
  slices_siftDownCmpFunc_k2 p3 xs3 x4 false
noncomputable def slices_siftDownCmpFunc_l1 (p2 : Int) (p3 : Int) (xs3 : List Torder_node) (x4 : Int) : Option (List Torder_node) := loopO (fun s => slices_siftDownCmpFunc_l1b p2 p3 s.1 s.2) (xs3, x4)
noncomputable def slices_siftDownCmpFunc (p0 : List Torder_node) (p1 : Int) (p2 : Int) (p3 : Int) : Option (List Torder_node) :=
  slices_siftDownCmpFunc_l1 p2 p3 p0 p1
noncomputable def slices_heapSortCmpFunc_l2b (p1 : Int) (xs30 : List Torder_node) (x31 : Int) : Option (((List Torder_node) × Int) ⊕ (List Torder_node)) :=
  if decide (0 ≤ x31) then
  (ix xs30 (w64 (p1 + x31))).bind fun x44 =>
  (ix xs30 p1).bind fun x58 =>
  (ix xs30 p1).bind fun x67 =>
  (ix (xs30.set (Int.toNat p1) x44) (w64 (p1 + x31))).bind fun x79 =>
  (slices_siftDownCmpFunc ((xs30.set (Int.toNat p1) x44).set (Int.toNat (w64 (p1 + x31))) x58) 0 x31 p1).bind fun x91 =>
  some (Sum.inl (x91, w64 (x31 - 1)))
  else
  (some xs30).map Sum.inr
noncomputable def slices_heapSortCmpFunc_l2 (p1 : Int) (xs30 : List Torder_node) (x31 : Int) : Option (List Torder_node) := loopO (fun s => slices_heapSortCmpFunc_l2b p1 s.1 s.2) (xs30, x31)
noncomputable def slices_heapSortCmpFunc_l1b (p1 : Int) (p2 : Int) (xs6 : List Torder_node) (x7 : Int) : Option (((List Torder_node) × Int) ⊕ (List Torder_node)) :=
  if decide (0 ≤ x7) then
  (slices_siftDownCmpFunc xs6 x7 (w64 (p2 - p1)) p1).bind fun x20 =>
  some (Sum.inl (x20, w64 (x7 - 1)))
  else
  (slices_heapSortCmpFunc_l2 p1 xs6 (w64 ((w64 (p2 - p1)) - 1))).map Sum.inr
noncomputable def slices_heapSortCmpFunc_l1 (p1 : Int) (p2 : Int) (xs6 : List Torder_node) (x7 : Int) : Option (List Torder_node) := loopO (fun s => slices_heapSortCmpFunc_l1b p1 p2 s.1 s.2) (xs6, x7)
noncomputable def slices_heapSortCmpFunc (p0 : List Torder_node) (p1 : Int) (p2 : Int) : Option (List Torder_node) :=
  (quoO .i64 (w64 ((w64 (p2 - p1)) - 1)) 2).bind fun x3 =>
  slices_heapSortCmpFunc_l1 p1 p2 p0 x3
noncomputable def slices_order2CmpFunc (p0 : List Torder_node) (p1 : Int) (p2 : Int) (p3 : Int) : Option (Int × Int × Int) :=
  (ix p0 p2).bind fun x6 =>
  (ix p0 p1).bind fun x20 =>
  (order_Run_Apart_c2 x6 x20).bind fun x29 =>
  if decide (x29 < 0) then
  some (p2, p1, w64 (p3 + 1))
  else
  some (p1, p2, p3)
noncomputable def slices_medianCmpFunc (p0 : List Torder_node) (p1 : Int) (p2 : Int) (p3 : Int) (p4 : Int) : Option (Int × Int) :=
  (slices_order2CmpFunc p0 p1 p2 p4).bind fun x8 =>
  (slices_order2CmpFunc p0 x8.2.1 p3 x8.2.2).bind fun x18 =>
  (slices_order2CmpFunc p0 x8.1 x18.1 x18.2.2).bind fun x28 =>
  some (x28.2.1, x28.2.2)
noncomputable def slices_medianAdjacentCmpFunc (p0 : List Torder_node) (p1 : Int) (p2 : Int) : Option (Int × Int) :=
  (slices_medianCmpFunc p0 (w64 (p1 - 1)) p1 (w64 (p1 + 1)) p2).bind fun x8 =>
  some (x8.1, x8.2)
noncomputable def slices_choosePivotCmpFunc_k1 (x17 : Int) (x18 : Int) : Option (Int × Int) :=
  if decide (x17 = 0) then
  some (x18, 1)
  else
  if decide (x17 = 12) then
  some (x18, 2)
  else
  some (x18, 0)
noncomputable def slices_choosePivotCmpFunc_k2 (p0 : List Torder_node) (x37 : Int) (x38 : Int) (x39 : Int) (x40 : Int) : Option (Int × Int) :=
  (slices_medianCmpFunc p0 x38 x39 x40 x37).bind fun x47 =>
  slices_choosePivotCmpFunc_k1 x47.2 x47.1
noncomputable def slices_choosePivotCmpFunc (p0 : List Torder_node) (p1 : Int) (p2 : Int) : Option (Int × Int) :=
  (quoO .i64 (w64 (p2 - p1)) 4).bind fun x8 =>
  (quoO .i64 (w64 (p2 - p1)) 4).bind fun x11 =>
  (quoO .i64 (w64 (p2 - p1)) 4).bind fun x14 =>
  if decide (8 ≤ (w64 (p2 - p1))) then
  if decide (50 ≤ (w64 (p2 - p1))) then
  (slices_medianAdjacentCmpFunc p0 (w64 (p1 + (w64 (x8 * 1)))) 0).bind fun x58 =>
  (slices_medianAdjacentCmpFunc p0 (w64 (p1 + (w64 (x11 * 2)))) x58.2).bind fun x68 =>
  (slices_medianAdjacentCmpFunc p0 (w64 (p1 + (w64 (x14 * 3)))) x68.2).bind fun x78 =>
  slices_choosePivotCmpFunc_k2 p0 x78.2 x58.1 x68.1 x78.1
  else
  slices_choosePivotCmpFunc_k2 p0 0 (w64 (p1 + (w64 (x8 * 1)))) (w64 (p1 + (w64 (x11 * 2)))) (w64 (p1 + (w64 (x14 * 3))))
  else
  slices_choosePivotCmpFunc_k1 0 (w64 (p1 + (w64 (x11 * 2))))
noncomputable def slices_reverseRangeCmpFunc_l1b (xs3 : List Torder_node) (x4 : Int) (x5 : Int) : Option (((List Torder_node) × Int × Int) ⊕ (List Torder_node)) :=
  if decide (x4 < x5) then
  (ix xs3 x5).bind fun x18 =>
  (ix xs3 x4).bind fun x32 =>
  (ix xs3 x4).bind fun x41 =>
  (ix (xs3.set (Int.toNat x4) x18) x5).bind fun x53 =>
  some (Sum.inl ((xs3.set (Int.toNat x4) x18).set (Int.toNat x5) x32, w64 (x4 + 1), w64 (x5 - 1)))
  else
  (some xs3).map Sum.inr
noncomputable def slices_reverseRangeCmpFunc_l1 (xs3 : List Torder_node) (x4 : Int) (x5 : Int) : Option (List Torder_node) := loopO (fun s => slices_reverseRangeCmpFunc_l1b s.1 s.2.1 s.2.2) (xs3, x4, x5)
noncomputable def slices_reverseRangeCmpFunc (p0 : List Torder_node) (p1 : Int) (p2 : Int) : Option (List Torder_node) :=
  slices_reverseRangeCmpFunc_l1 p0 p1 (w64 (p2 - 1))
noncomputable def slices_partialInsertionSortCmpFunc_k1 (x5 : Int) (xs18 : List Torder_node) (x19 : Int) : Option (((List Torder_node) × Int × Int) ⊕ (Bool × (List Torder_node))) :=
  some (Sum.inl (xs18, x19, w64 (x5 + 1)))
noncomputable def slices_partialInsertionSortCmpFunc_l3b (p2 : Int) (x5 : Int) (x24 : Int) (xs108 : List Torder_node) (x109 : Int) : Option (((List Torder_node) × Int) ⊕ (((List Torder_node) × Int × Int) ⊕ (Bool × (List Torder_node)))) :=
  if decide (x109 < p2) then
  (ix xs108 x109).bind fun x122 =>
  (ix xs108 (w64 (x109 - 1))).bind fun x131 =>
  (order_Run_Apart_c2 x122 x131).bind fun x140 =>
  if !(decide (x140 < 0)) then
  (slices_partialInsertionSortCmpFunc_k1 x5 xs108 x24).map Sum.inr
  else
  (ix xs108 (w64 (x109 - 1))).bind fun x154 =>
  (ix xs108 x109).bind fun x163 =>
  (ix xs108 x109).bind fun x172 =>
  (ix (xs108.set (Int.toNat x109) x154) (w64 (x109 - 1))).bind fun x184 =>
  some (Sum.inl ((xs108.set (Int.toNat x109) x154).set (Int.toNat (w64 (x109 - 1))) x163, w64 (x109 + 1)))
  else
  (slices_partialInsertionSortCmpFunc_k1 x5 xs108 x24).map Sum.inr
noncomputable def slices_partialInsertionSortCmpFunc_l3 (p2 : Int) (x5 : Int) (x24 : Int) (xs108 : List Torder_node) (x109 : Int) : Option (((List Torder_node) × Int × Int) ⊕ (Bool × (List Torder_node))) := loopO (fun s => slices_partialInsertionSortCmpFunc_l3b p2 x5 x24 s.1 s.2) (xs108, x109)
noncomputable def slices_partialInsertionSortCmpFunc_k3 (p2 : Int) (x5 : Int) (x24 : Int) (xs101 : List Torder_node) : Option (((List Torder_node) × Int × Int) ⊕ (Bool × (List Torder_node))) :=
  if decide (2 ≤ (w64 (p2 - x24))) then
  slices_partialInsertionSortCmpFunc_l3 p2 x5 x24 xs101 (w64 (x24 + 1))
  else
  slices_partialInsertionSortCmpFunc_k1 x5 xs101 x24
noncomputable def slices_partialInsertionSortCmpFunc_l4b (p2 : Int) (x5 : Int) (x24 : Int) (xs201 : List Torder_node) (x202 : Int) : Option (((List Torder_node) × Int) ⊕ (((List Torder_node) × Int × Int) ⊕ (Bool × (List Torder_node)))) :=
  if decide (1 ≤ x202) then
  (ix xs201 x202).bind fun x215 =>
  (ix xs201 (w64 (x202 - 1))).bind fun x224 =>
  (order_Run_Apart_c2 x215 x224).bind fun x233 =>
  if !(decide (x233 < 0)) then
  (slices_partialInsertionSortCmpFunc_k3 p2 x5 x24 xs201).map Sum.inr
  else
  (ix xs201 (w64 (x202 - 1))).bind fun x247 =>
  (ix xs201 x202).bind fun x256 =>
  (ix xs201 x202).bind fun x265 =>
  (ix (xs201.set (Int.toNat x202) x247) (w64 (x202 - 1))).bind fun x277 =>
  some (Sum.inl ((xs201.set (Int.toNat x202) x247).set (Int.toNat (w64 (x202 - 1))) x256, w64 (x202 - 1)))
  else
  (slices_partialInsertionSortCmpFunc_k3 p2 x5 x24 xs201).map Sum.inr
noncomputable def slices_partialInsertionSortCmpFunc_l4 (p2 : Int) (x5 : Int) (x24 : Int) (xs201 : List Torder_node) (x202 : Int) : Option (((List Torder_node) × Int × Int) ⊕ (Bool × (List Torder_node))) := loopO (fun s => slices_partialInsertionSortCmpFunc_l4b p2 x5 x24 s.1 s.2) (xs201, x202)
noncomputable def slices_partialInsertionSortCmpFunc_k2 (p1 : Int) (p2 : Int) (xs3 : List Torder_node) (x5 : Int) (x24 : Int) (x35 : Bool) : Option (Int ⊕ (((List Torder_node) × Int × Int) ⊕ (Bool × (List Torder_node)))) :=
  if x35 then
  some (Sum.inl (w64 (x24 + 1)))
  else
  (if decide (x24 = p2) then
  (some (true, xs3)).map Sum.inr
  else
  if decide ((w64 (p2 - p1)) < 50) then
  (some (false, xs3)).map Sum.inr
  else
  (ix xs3 (w64 (x24 - 1))).bind fun x54 =>
  (ix xs3 x24).bind fun x68 =>
  (ix xs3 x24).bind fun x77 =>
  (ix (xs3.set (Int.toNat x24) x54) (w64 (x24 - 1))).bind fun x89 =>
  if decide (2 ≤ (w64 (x24 - p1))) then
  slices_partialInsertionSortCmpFunc_l4 p2 x5 x24 ((xs3.set (Int.toNat x24) x54).set (Int.toNat (w64 (x24 - 1))) x68) (w64 (x24 - 1))
  else
  slices_partialInsertionSortCmpFunc_k3 p2 x5 x24 ((xs3.set (Int.toNat x24) x54).set (Int.toNat (w64 (x24 - 1))) x68)).map Sum.inr
noncomputable def slices_partialInsertionSortCmpFunc_l2b (p1 : Int) (p2 : Int) (xs3 : List Torder_node) (x5 : Int) (x24 : Int) : Option (Int ⊕ (((List Torder_node) × Int × Int) ⊕ (Bool × (List Torder_node)))) :=
  if decide (x24 < p2) then
  (ix xs3 x24).bind fun x294 =>
  (ix xs3 (w64 (x24 - 1))).bind fun x308 =>
  (order_Run_Apart_c2 x294 x308).bind fun x317 =>
  slices_partialInsertionSortCmpFunc_k2 p1 p2 xs3 x5 x24 (!(decide (x317 < 0)))
  else
  slices_partialInsertionSortCmpFunc_k2 p1 p2 xs3 x5 x24 false
noncomputable def slices_partialInsertionSortCmpFunc_l2 (p1 : Int) (p2 : Int) (xs3 : List Torder_node) (x5 : Int) (x24 : Int) : Option (((List Torder_node) × Int × Int) ⊕ (Bool × (List Torder_node))) := loopO (fun s => slices_partialInsertionSortCmpFunc_l2b p1 p2 xs3 x5 s) x24
noncomputable def slices_partialInsertionSortCmpFunc_l1b (p1 : Int) (p2 : Int) (xs3 : List Torder_node) (x4 : Int) (x5 : Int) : Option (((List Torder_node) × Int × Int) ⊕ (Bool × (List Torder_node))) :=
  if decide (x5 < 5) then
  slices_partialInsertionSortCmpFunc_l2 p1 p2 xs3 x5 x4
  else
  (some (false, xs3)).map Sum.inr
noncomputable def slices_partialInsertionSortCmpFunc_l1 (p1 : Int) (p2 : Int) (xs3 : List Torder_node) (x4 : Int) (x5 : Int) : Option (Bool × (List Torder_node)) := loopO (fun s => slices_partialInsertionSortCmpFunc_l1b p1 p2 s.1 s.2.1 s.2.2) (xs3, x4, x5)
noncomputable def slices_partialInsertionSortCmpFunc (p0 : List Torder_node) (p1 : Int) (p2 : Int) : Option (Bool × (List Torder_node)) :=
  slices_partialInsertionSortCmpFunc_l1 p1 p2 p0 (w64 (p1 + 1)) 0
noncomputable def slices_partitionEqualCmpFunc_k2 (xs50 : List Torder_node) (x63 : Int) (x83 : Int) (x94 : Bool) : Option (Int ⊕ (((List Torder_node) × Int × Int) ⊕ (Int × (List Torder_node)))) :=
  if x94 then
  some (Sum.inl (w64 (x83 - 1)))
  else
  (if decide (x83 < x63) then
  (some (x63, xs50)).map Sum.inr
  else
  (ix xs50 x83).bind fun x108 =>
  (ix xs50 x63).bind fun x117 =>
  (ix xs50 x63).bind fun x126 =>
  (ix (xs50.set (Int.toNat x63) x108) x83).bind fun x138 =>
  some (Sum.inl ((xs50.set (Int.toNat x63) x108).set (Int.toNat x83) x117, w64 (x63 + 1), w64 (x83 - 1)))).map Sum.inr
noncomputable def slices_partitionEqualCmpFunc_l3b (p1 : Int) (xs50 : List Torder_node) (x63 : Int) (x83 : Int) : Option (Int ⊕ (((List Torder_node) × Int × Int) ⊕ (Int × (List Torder_node)))) :=
  if decide (x63 ≤ x83) then
  (ix xs50 p1).bind fun x152 =>
  (ix xs50 x83).bind fun x161 =>
  (order_Run_Apart_c2 x152 x161).bind fun x170 =>
  slices_partitionEqualCmpFunc_k2 xs50 x63 x83 (decide (x170 < 0))
  else
  slices_partitionEqualCmpFunc_k2 xs50 x63 x83 false
noncomputable def slices_partitionEqualCmpFunc_l3 (p1 : Int) (xs50 : List Torder_node) (x63 : Int) (x83 : Int) : Option (((List Torder_node) × Int × Int) ⊕ (Int × (List Torder_node))) := loopO (fun s => slices_partitionEqualCmpFunc_l3b p1 xs50 x63 s) x83
noncomputable def slices_partitionEqualCmpFunc_k1 (p1 : Int) (xs50 : List Torder_node) (x52 : Int) (x63 : Int) (x74 : Bool) : Option (Int ⊕ (((List Torder_node) × Int × Int) ⊕ (Int × (List Torder_node)))) :=
  if x74 then
  some (Sum.inl (w64 (x63 + 1)))
  else
  (slices_partitionEqualCmpFunc_l3 p1 xs50 x63 x52).map Sum.inr
noncomputable def slices_partitionEqualCmpFunc_l2b (p1 : Int) (xs50 : List Torder_node) (x52 : Int) (x63 : Int) : Option (Int ⊕ (((List Torder_node) × Int × Int) ⊕ (Int × (List Torder_node)))) :=
  if decide (x63 ≤ x52) then
  (ix xs50 p1).bind fun x181 =>
  (ix xs50 x63).bind fun x190 =>
  (order_Run_Apart_c2 x181 x190).bind fun x199 =>
  slices_partitionEqualCmpFunc_k1 p1 xs50 x52 x63 (!(decide (x199 < 0)))
  else
  slices_partitionEqualCmpFunc_k1 p1 xs50 x52 x63 false
noncomputable def slices_partitionEqualCmpFunc_l2 (p1 : Int) (xs50 : List Torder_node) (x52 : Int) (x63 : Int) : Option (((List Torder_node) × Int × Int) ⊕ (Int × (List Torder_node))) := loopO (fun s => slices_partitionEqualCmpFunc_l2b p1 xs50 x52 s) x63
noncomputable def slices_partitionEqualCmpFunc_l1b (p1 : Int) (xs50 : List Torder_node) (x51 : Int) (x52 : Int) : Option (((List Torder_node) × Int × Int) ⊕ (Int × (List Torder_node))) :=
  slices_partitionEqualCmpFunc_l2 p1 xs50 x52 x51
noncomputable def slices_partitionEqualCmpFunc_l1 (p1 : Int) (xs50 : List Torder_node) (x51 : Int) (x52 : Int) : Option (Int × (List Torder_node)) := loopO (fun s => slices_partitionEqualCmpFunc_l1b p1 s.1 s.2.1 s.2.2) (xs50, x51, x52)
noncomputable def slices_partitionEqualCmpFunc (p0 : List Torder_node) (p1 : Int) (p2 : Int) (p3 : Int) : Option (Int × (List Torder_node)) :=
  (ix p0 p3).bind fun x3 =>
  (ix p0 p1).bind fun x17 =>
  (ix p0 p1).bind fun x26 =>
  (ix (p0.set (Int.toNat p1) x3) p3).bind fun x38 =>
  slices_partitionEqualCmpFunc_l1 p1 ((p0.set (Int.toNat p1) x3).set (Int.toNat p3) x17) (w64 (p1 + 1)) (w64 (p2 - 1))
noncomputable def slices_partitionCmpFunc_k4 (p1 : Int) (xs178 : List Torder_node) (x191 : Int) (x211 : Int) (x222 : Bool) : Option (Int ⊕ (((List Torder_node) × Int × Int) ⊕ (Int × Bool × (List Torder_node)))) :=
  if x222 then
  some (Sum.inl (w64 (x211 - 1)))
  else
  (if decide (x211 < x191) then
  ((ix xs178 p1).bind fun x234 =>
  (ix xs178 x211).bind fun x243 =>
  (ix xs178 x211).bind fun x252 =>
  (ix (xs178.set (Int.toNat x211) x234) p1).bind fun x264 =>
  some (x211, false, (xs178.set (Int.toNat x211) x234).set (Int.toNat p1) x243)).map Sum.inr
  else
  (ix xs178 x211).bind fun x278 =>
  (ix xs178 x191).bind fun x287 =>
  (ix xs178 x191).bind fun x296 =>
  (ix (xs178.set (Int.toNat x191) x278) x211).bind fun x308 =>
  some (Sum.inl ((xs178.set (Int.toNat x191) x278).set (Int.toNat x211) x287, w64 (x191 + 1), w64 (x211 - 1)))).map Sum.inr
noncomputable def slices_partitionCmpFunc_l5b (p1 : Int) (xs178 : List Torder_node) (x191 : Int) (x211 : Int) : Option (Int ⊕ (((List Torder_node) × Int × Int) ⊕ (Int × Bool × (List Torder_node)))) :=
  if decide (x191 ≤ x211) then
  (ix xs178 x211).bind fun x322 =>
  (ix xs178 p1).bind fun x331 =>
  (order_Run_Apart_c2 x322 x331).bind fun x340 =>
  slices_partitionCmpFunc_k4 p1 xs178 x191 x211 (!(decide (x340 < 0)))
  else
  slices_partitionCmpFunc_k4 p1 xs178 x191 x211 false
noncomputable def slices_partitionCmpFunc_l5 (p1 : Int) (xs178 : List Torder_node) (x191 : Int) (x211 : Int) : Option (((List Torder_node) × Int × Int) ⊕ (Int × Bool × (List Torder_node))) := loopO (fun s => slices_partitionCmpFunc_l5b p1 xs178 x191 s) x211
noncomputable def slices_partitionCmpFunc_k3 (p1 : Int) (xs178 : List Torder_node) (x180 : Int) (x191 : Int) (x202 : Bool) : Option (Int ⊕ (((List Torder_node) × Int × Int) ⊕ (Int × Bool × (List Torder_node)))) :=
  if x202 then
  some (Sum.inl (w64 (x191 + 1)))
  else
  (slices_partitionCmpFunc_l5 p1 xs178 x191 x180).map Sum.inr
noncomputable def slices_partitionCmpFunc_l4b (p1 : Int) (xs178 : List Torder_node) (x180 : Int) (x191 : Int) : Option (Int ⊕ (((List Torder_node) × Int × Int) ⊕ (Int × Bool × (List Torder_node)))) :=
  if decide (x191 ≤ x180) then
  (ix xs178 x191).bind fun x351 =>
  (ix xs178 p1).bind fun x360 =>
  (order_Run_Apart_c2 x351 x360).bind fun x369 =>
  slices_partitionCmpFunc_k3 p1 xs178 x180 x191 (decide (x369 < 0))
  else
  slices_partitionCmpFunc_k3 p1 xs178 x180 x191 false
noncomputable def slices_partitionCmpFunc_l4 (p1 : Int) (xs178 : List Torder_node) (x180 : Int) (x191 : Int) : Option (((List Torder_node) × Int × Int) ⊕ (Int × Bool × (List Torder_node))) := loopO (fun s => slices_partitionCmpFunc_l4b p1 xs178 x180 s) x191
noncomputable def slices_partitionCmpFunc_l3b (p1 : Int) (xs178 : List Torder_node) (x179 : Int) (x180 : Int) : Option (((List Torder_node) × Int × Int) ⊕ (Int × Bool × (List Torder_node))) :=
  slices_partitionCmpFunc_l4 p1 xs178 x180 x179
noncomputable def slices_partitionCmpFunc_l3 (p1 : Int) (xs178 : List Torder_node) (x179 : Int) (x180 : Int) : Option (Int × Bool × (List Torder_node)) := loopO (fun s => slices_partitionCmpFunc_l3b p1 s.1 s.2.1 s.2.2) (xs178, x179, x180)
noncomputable def slices_partitionCmpFunc_k2 (p0 : List Torder_node) (p1 : Int) (p3 : Int) (x3 : Torder_node) (x17 : Torder_node) (x50 : Int) (x70 : Int) (x81 : Bool) : Option (Int ⊕ (Int × Bool × (List Torder_node))) :=
  if x81 then
  some (Sum.inl (w64 (x70 - 1)))
  else
  (if decide (x70 < x50) then
  (ix ((p0.set (Int.toNat p1) x3).set (Int.toNat p3) x17) p1).bind fun x92 =>
  (ix ((p0.set (Int.toNat p1) x3).set (Int.toNat p3) x17) x70).bind fun x101 =>
  (ix ((p0.set (Int.toNat p1) x3).set (Int.toNat p3) x17) x70).bind fun x110 =>
  (ix (((p0.set (Int.toNat p1) x3).set (Int.toNat p3) x17).set (Int.toNat x70) x92) p1).bind fun x122 =>
  some (x70, true, (((p0.set (Int.toNat p1) x3).set (Int.toNat p3) x17).set (Int.toNat x70) x92).set (Int.toNat p1) x101)
  else
  (ix ((p0.set (Int.toNat p1) x3).set (Int.toNat p3) x17) x70).bind fun x136 =>
  (ix ((p0.set (Int.toNat p1) x3).set (Int.toNat p3) x17) x50).bind fun x145 =>
  (ix ((p0.set (Int.toNat p1) x3).set (Int.toNat p3) x17) x50).bind fun x154 =>
  (ix (((p0.set (Int.toNat p1) x3).set (Int.toNat p3) x17).set (Int.toNat x50) x136) x70).bind fun x166 =>
  slices_partitionCmpFunc_l3 p1 ((((p0.set (Int.toNat p1) x3).set (Int.toNat p3) x17).set (Int.toNat x50) x136).set (Int.toNat x70) x145) (w64 (x50 + 1)) (w64 (x70 - 1))).map Sum.inr
noncomputable def slices_partitionCmpFunc_l2b (p0 : List Torder_node) (p1 : Int) (p3 : Int) (x3 : Torder_node) (x17 : Torder_node) (x50 : Int) (x70 : Int) : Option (Int ⊕ (Int × Bool × (List Torder_node))) :=
  if decide (x50 ≤ x70) then
  (ix ((p0.set (Int.toNat p1) x3).set (Int.toNat p3) x17) x70).bind fun x380 =>
  (ix ((p0.set (Int.toNat p1) x3).set (Int.toNat p3) x17) p1).bind fun x389 =>
  (order_Run_Apart_c2 x380 x389).bind fun x398 =>
  slices_partitionCmpFunc_k2 p0 p1 p3 x3 x17 x50 x70 (!(decide (x398 < 0)))
  else
  slices_partitionCmpFunc_k2 p0 p1 p3 x3 x17 x50 x70 false
noncomputable def slices_partitionCmpFunc_l2 (p0 : List Torder_node) (p1 : Int) (p3 : Int) (x3 : Torder_node) (x17 : Torder_node) (x50 : Int) (x70 : Int) : Option (Int × Bool × (List Torder_node)) := loopO (fun s => slices_partitionCmpFunc_l2b p0 p1 p3 x3 x17 x50 s) x70
noncomputable def slices_partitionCmpFunc_k1 (p0 : List Torder_node) (p1 : Int) (p2 : Int) (p3 : Int) (x3 : Torder_node) (x17 : Torder_node) (x50 : Int) (x61 : Bool) : Option (Int ⊕ (Int × Bool × (List Torder_node))) :=
  if x61 then
  some (Sum.inl (w64 (x50 + 1)))
  else
  (slices_partitionCmpFunc_l2 p0 p1 p3 x3 x17 x50 (w64 (p2 - 1))).map Sum.inr
noncomputable def slices_partitionCmpFunc_l1b (p0 : List Torder_node) (p1 : Int) (p2 : Int) (p3 : Int) (x3 : Torder_node) (x17 : Torder_node) (x50 : Int) : Option (Int ⊕ (Int × Bool × (List Torder_node))) :=
  if decide (x50 ≤ (w64 (p2 - 1))) then
  (ix ((p0.set (Int.toNat p1) x3).set (Int.toNat p3) x17) x50).bind fun x409 =>
  (ix ((p0.set (Int.toNat p1) x3).set (Int.toNat p3) x17) p1).bind fun x418 =>
  (order_Run_Apart_c2 x409 x418).bind fun x427 =>
  slices_partitionCmpFunc_k1 p0 p1 p2 p3 x3 x17 x50 (decide (x427 < 0))
  else
  slices_partitionCmpFunc_k1 p0 p1 p2 p3 x3 x17 x50 false
noncomputable def slices_partitionCmpFunc_l1 (p0 : List Torder_node) (p1 : Int) (p2 : Int) (p3 : Int) (x3 : Torder_node) (x17 : Torder_node) (x50 : Int) : Option (Int × Bool × (List Torder_node)) := loopO (fun s => slices_partitionCmpFunc_l1b p0 p1 p2 p3 x3 x17 s) x50
noncomputable def slices_partitionCmpFunc (p0 : List Torder_node) (p1 : Int) (p2 : Int) (p3 : Int) : Option (Int × Bool × (List Torder_node)) :=
  (ix p0 p3).bind fun x3 =>
  (ix p0 p1).bind fun x17 =>
  (ix p0 p1).bind fun x26 =>
  (ix (p0.set (Int.toNat p1) x3) p3).bind fun x38 =>
  slices_partitionCmpFunc_l1 p0 p1 p2 p3 x3 x17 (w64 (p1 + 1))
noncomputable def slices_nextPowerOfTwo (p0 : Int) : Option Int :=
  (math_bits_Len (IntKind.wrap .u64 p0)).bind fun x1 =>
  (shlO .u64 1 x1).bind fun x9 =>
  some x9
noncomputable def slices_xorshift_Next (p0 : Int) : Option (Int × Int) :=
  (shlO .u64 p0 13).bind fun x4 =>
  (shrO .u64 (xorB .u64 p0 x4) 7).bind fun x10 =>
  (shlO .u64 (xorB .u64 (xorB .u64 p0 x4) x10) 17).bind fun x16 =>
  some (xorB .u64 (xorB .u64 (xorB .u64 p0 x4) x10) x16, xorB .u64 (xorB .u64 (xorB .u64 p0 x4) x10) x16)
noncomputable def slices_breakPatternsCmpFunc_k1 (p1 : Int) (xs24 : List Torder_node) (x26 : Int) (x45 : Int × Int) (x53 : Int) : Option (((List Torder_node) × Int × Int) ⊕ (List Torder_node)) :=
  (ix xs24 (w64 (p1 + x53))).bind fun x58 =>
  (ix xs24 x26).bind fun x72 =>
  (ix xs24 x26).bind fun x81 =>
  (ix (xs24.set (Int.toNat x26) x58) (w64 (p1 + x53))).bind fun x93 =>
  some (Sum.inl ((xs24.set (Int.toNat x26) x58).set (Int.toNat (w64 (p1 + x53))) x72, x45.2, w64 (x26 + 1)))
noncomputable def slices_breakPatternsCmpFunc_l1b (p1 : Int) (p2 : Int) (x13 : Int) (xs24 : List Torder_node) (x25 : Int) (x26 : Int) : Option (((List Torder_node) × Int × Int) ⊕ (List Torder_node)) :=
  (quoO .i64 (w64 (p2 - p1)) 4).bind fun x39 =>
  if decide (x26 ≤ (w64 ((w64 (p1 + (w64 (x39 * 2)))) + 1))) then
  (slices_xorshift_Next x25).bind fun x45 =>
  if decide ((w64 (p2 - p1)) ≤ (w64 (andB .u64 x45.1 (IntKind.wrap .u64 (x13 - 1))))) then
  slices_breakPatternsCmpFunc_k1 p1 xs24 x26 x45 (w64 ((w64 (andB .u64 x45.1 (IntKind.wrap .u64 (x13 - 1)))) - (w64 (p2 - p1))))
  else
  slices_breakPatternsCmpFunc_k1 p1 xs24 x26 x45 (w64 (andB .u64 x45.1 (IntKind.wrap .u64 (x13 - 1))))
  else
  (some xs24).map Sum.inr
noncomputable def slices_breakPatternsCmpFunc_l1 (p1 : Int) (p2 : Int) (x13 : Int) (xs24 : List Torder_node) (x25 : Int) (x26 : Int) : Option (List Torder_node) := loopO (fun s => slices_breakPatternsCmpFunc_l1b p1 p2 x13 s.1 s.2.1 s.2.2) (xs24, x25, x26)
noncomputable def slices_breakPatternsCmpFunc (p0 : List Torder_node) (p1 : Int) (p2 : Int) : Option (List Torder_node) :=
  if decide (8 ≤ (w64 (p2 - p1))) then
  (slices_nextPowerOfTwo (w64 (p2 - p1))).bind fun x13 =>
  (quoO .i64 (w64 (p2 - p1)) 4).bind fun x21 =>
  slices_breakPatternsCmpFunc_l1 p1 p2 x13 p0 (IntKind.wrap .u64 (w64 (p2 - p1))) (w64 ((w64 (p1 + (w64 (x21 * 2)))) - 1))
  else
  some p0
noncomputable def slices_pdqsortCmpFunc_k4 (rec_ : (List Torder_node) → Int → Int → Int → Option (List Torder_node)) (x4 : Int) (x5 : Int) (x7 : Bool) (x8 : Bool) (x46 : Int) (x60 : Int) (xs66 : List Torder_node) (x71 : Bool) : Option (((List Torder_node) × Int × Int × Int × Bool × Bool) ⊕ (List Torder_node)) :=
  if x71 then
  (slices_partitionEqualCmpFunc xs66 x4 x5 x60).bind fun x78 =>
  some (Sum.inl (x78.2, x78.1, x5, x46, x7, x8))
  else
  (slices_partitionCmpFunc xs66 x4 x5 x60).bind fun x87 =>
  (quoO .i64 (w64 (x5 - x4)) 8).bind fun x95 =>
  if decide ((w64 (x87.1 - x4)) < (w64 (x5 - x87.1))) then
  (rec_ x87.2.2 x4 x87.1 x46).bind fun x100 =>
  some (Sum.inl (x100, w64 (x87.1 + 1), x5, x46, decide (x95 ≤ (w64 (x87.1 - x4))), x87.2.1))
  else
  (rec_ x87.2.2 (w64 (x87.1 + 1)) x5 x46).bind fun x109 =>
  some (Sum.inl (x109, x4, x87.1, x46, decide (x95 ≤ (w64 (x5 - x87.1))), x87.2.1))
noncomputable def slices_pdqsortCmpFunc_k3 (rec_ : (List Torder_node) → Int → Int → Int → Option (List Torder_node)) (x4 : Int) (x5 : Int) (x7 : Bool) (x8 : Bool) (x46 : Int) (x60 : Int) (xs66 : List Torder_node) : Option (((List Torder_node) × Int × Int × Int × Bool × Bool) ⊕ (List Torder_node)) :=
  if decide (0 < x4) then
  (ix xs66 (w64 (x4 - 1))).bind fun x119 =>
  (ix xs66 x60).bind fun x133 =>
  (order_Run_Apart_c2 x119 x133).bind fun x142 =>
  slices_pdqsortCmpFunc_k4 rec_ x4 x5 x7 x8 x46 x60 xs66 (!(decide (x142 < 0)))
  else
  slices_pdqsortCmpFunc_k4 rec_ x4 x5 x7 x8 x46 x60 xs66 false
noncomputable def slices_pdqsortCmpFunc_k2 (rec_ : (List Torder_node) → Int → Int → Int → Option (List Torder_node)) (x4 : Int) (x5 : Int) (x7 : Bool) (x8 : Bool) (x46 : Int) (xs59 : List Torder_node) (x60 : Int) (x61 : Int) : Option (((List Torder_node) × Int × Int × Int × Bool × Bool) ⊕ (List Torder_node)) :=
  if (x7 && x8) && (decide (x61 = 1)) then
  (slices_partialInsertionSortCmpFunc xs59 x4 x5).bind fun x162 =>
  if x162.1 then
  (some x162.2).map Sum.inr
  else
  slices_pdqsortCmpFunc_k3 rec_ x4 x5 x7 x8 x46 x60 x162.2
  else
  slices_pdqsortCmpFunc_k3 rec_ x4 x5 x7 x8 x46 x60 xs59
noncomputable def slices_pdqsortCmpFunc_k1 (rec_ : (List Torder_node) → Int → Int → Int → Option (List Torder_node)) (x4 : Int) (x5 : Int) (x7 : Bool) (x8 : Bool) (xs45 : List Torder_node) (x46 : Int) : Option (((List Torder_node) × Int × Int × Int × Bool × Bool) ⊕ (List Torder_node)) :=
  (slices_choosePivotCmpFunc xs45 x4 x5).bind fun x51 =>
  if decide (x51.2 = 2) then
  (slices_reverseRangeCmpFunc xs45 x4 x5).bind fun x180 =>
  slices_pdqsortCmpFunc_k2 rec_ x4 x5 x7 x8 x46 x180 (w64 ((w64 (x5 - 1)) - (w64 (x51.1 - x4)))) 1
  else
  slices_pdqsortCmpFunc_k2 rec_ x4 x5 x7 x8 x46 xs45 x51.1 x51.2
noncomputable def slices_pdqsortCmpFunc_l1b (rec_ : (List Torder_node) → Int → Int → Int → Option (List Torder_node)) (xs3 : List Torder_node) (x4 : Int) (x5 : Int) (x6 : Int) (x7 : Bool) (x8 : Bool) : Option (((List Torder_node) × Int × Int × Int × Bool × Bool) ⊕ (List Torder_node)) :=
  if decide ((w64 (x5 - x4)) ≤ 12) then
  (slices_insertionSortCmpFunc xs3 x4 x5).bind fun x21 =>
  (some x21).map Sum.inr
  else
  if decide (x6 = 0) then
  (slices_heapSortCmpFunc xs3 x4 x5).bind fun x34 =>
  (some x34).map Sum.inr
  else
  if !x7 then
  (slices_breakPatternsCmpFunc xs3 x4 x5).bind fun x192 =>
  slices_pdqsortCmpFunc_k1 rec_ x4 x5 x7 x8 x192 (w64 (x6 - 1))
  else
  slices_pdqsortCmpFunc_k1 rec_ x4 x5 x7 x8 xs3 x6
noncomputable def slices_pdqsortCmpFunc_l1 (rec_ : (List Torder_node) → Int → Int → Int → Option (List Torder_node)) (xs3 : List Torder_node) (x4 : Int) (x5 : Int) (x6 : Int) (x7 : Bool) (x8 : Bool) : Option (List Torder_node) := loopO (fun s => slices_pdqsortCmpFunc_l1b rec_ s.1 s.2.1 s.2.2.1 s.2.2.2.1 s.2.2.2.2.1 s.2.2.2.2.2) (xs3, x4, x5, x6, x7, x8)
noncomputable def slices_pdqsortCmpFunc_F (rec_ : (List Torder_node) → Int → Int → Int → Option (List Torder_node)) (p0 : List Torder_node) (p1 : Int) (p2 : Int) (p3 : Int) : Option (List Torder_node) :=
  slices_pdqsortCmpFunc_l1 rec_ p0 p1 p2 p3 true true
noncomputable def slices_pdqsortCmpFunc (p0 : List Torder_node) (p1 : Int) (p2 : Int) (p3 : Int) : Option (List Torder_node) := recO (fun rec_ a => slices_pdqsortCmpFunc_F (fun p0 p1 p2 p3 => rec_ (p0, p1, p2, p3)) a.1 a.2.1 a.2.2.1 a.2.2.2) (p0, p1, p2, p3)
noncomputable def slices_SortFunc (p0 : List Torder_node) : Option (List Torder_node) :=
  (math_bits_Len (IntKind.wrap .u64 (p0.length : Int))).bind fun x3 =>
  (slices_pdqsortCmpFunc p0 0 (p0.length : Int) x3).bind fun x11 =>
  some x11
noncomputable def order_Run_Apart_l1b (x20 : List Torder_node) (xs28 : List (Int × TEvent)) (x29 : Int) : Option (((List (Int × TEvent)) × Int) ⊕ Bool) :=
  if decide (x29 < (x20.length : Int)) then
  (ix x20 x29).bind fun x45 =>
  (some ((mG xs28 x45.e.act.at_).getD (⟨0, (⟨0, 0, 0, 0, false, false⟩ : TAct), 0, 0⟩ : TEvent))).bind fun x72 =>
  if ((((mG xs28 x45.e.act.at_).isSome) && (decide (x72.act.val ≠ 0))) && (decide (x72.t ≠ x45.e.t))) || ((decide (x45.e.act.kind = 6)) && ((!((mG xs28 x45.e.act.at_).isSome)) || (decide (x72.t ≠ x45.e.t)))) then
  (some false).map Sum.inr
  else
  some (Sum.inl (mS xs28 x45.e.act.at_ x45.e, w64 (x29 + 1)))
  else
  (some true).map Sum.inr
noncomputable def order_Run_Apart_l1 (x20 : List Torder_node) (xs28 : List (Int × TEvent)) (x29 : Int) : Option Bool := loopO (fun s => order_Run_Apart_l1b x20 s.1 s.2) (xs28, x29)
noncomputable def order_Run_Apart (p0 : List (List TEvent)) : Option Bool :=
  (order_Run_nodes_3 p0).bind fun x10 =>
  (slices_SortFunc x10).bind fun x20 =>
  order_Run_Apart_l1 x20 [] 0
noncomputable def law21_OrderAlone_k1 (x40 : Int) (xs57 : List TEvent) (xs58 : List (Int × Int)) : Option (((List TEvent) × (List (Int × Int)) × Int) ⊕ Bool) :=
  some (Sum.inl (xs57, xs58, w64 (x40 + 1)))
noncomputable def law21_OrderAlone_l1b (p0 : List Int) (p1 : List Int) (xs38 : List TEvent) (xs39 : List (Int × Int)) (x40 : Int) : Option (((List TEvent) × (List (Int × Int)) × Int) ⊕ Bool) :=
  if decide (x40 < (p0.length : Int)) then
  (ix p0 x40).bind fun x63 =>
  (ix p1 x40).bind fun x74 =>
  (remO .u64 (IntKind.wrap .u64 x74) 3).bind fun x85 =>
  (remO .i64 x63 2).bind fun x88 =>
  if decide (x88 = 0) then
  (ap xs38 [(⟨0, (⟨2, w64 (8 * (w64 (1 + (w64 x85)))), 0, 0, false, false⟩ : TAct), 0, w64 (x40 + 1)⟩ : TEvent)]).bind fun xs98 =>
  law21_OrderAlone_k1 x40 xs98 (mS xs39 (w64 (8 * (w64 (1 + (w64 x85))))) (w64 (x40 + 1)))
  else
  (ap xs38 [(⟨0, (⟨1, w64 (8 * (w64 (1 + (w64 x85)))), 0, 0, false, false⟩ : TAct), (mG xs39 (w64 (8 * (w64 (1 + (w64 x85)))))).getD 0, 0⟩ : TEvent)]).bind fun xs121 =>
  law21_OrderAlone_k1 x40 xs121 xs39
  else
  ((order_Run_Serial [xs38]).bind fun x137 =>
  (if x137 then
  (order_Run_Coherent [xs38]).bind fun x243 =>
  some x243
  else
  some false).bind fun y145 =>
  (if y145 then
  (order_Run_Consistent [xs38]).bind fun x230 =>
  some x230
  else
  some false).bind fun y153 =>
  (if y153 then
  (order_Run_Synced [xs38]).bind fun x217 =>
  some x217
  else
  some false).bind fun y161 =>
  (if y161 then
  (order_Run_Racy [xs38]).bind fun x204 =>
  some (!x204)
  else
  some false).bind fun y169 =>
  (if y169 then
  (order_Run_Apart [xs38]).bind fun x191 =>
  some x191
  else
  some false).bind fun y178 =>
  some y178).map Sum.inr
noncomputable def law21_OrderAlone_l1 (p0 : List Int) (p1 : List Int) (xs38 : List TEvent) (xs39 : List (Int × Int)) (x40 : Int) : Option Bool := loopO (fun s => law21_OrderAlone_l1b p0 p1 s.1 s.2.1 s.2.2) (xs38, xs39, x40)
noncomputable def law21_OrderAlone (p0 : List Int) (p1 : List Int) : Option Bool :=
  (law21_alive).bind fun x5 =>
  if !x5 then
  some false
  else
  if (decide (24 < (p0.length : Int))) || (decide ((p1.length : Int) < (p0.length : Int))) then
  some true
  else
  law21_OrderAlone_l1 p0 p1 [] [] 0
end Go.Vm.GO21
