/-
  What functions compute, as plain functions.
-/
import Derived.Test.YtbmkccjfldmgiaaESp12
set_option linter.unusedSimpArgs false
set_option linter.unusedVariables false
namespace Go.Vm.GH21
open Go

def fnt46 : List Value := [.func (.func 26) #[] #[], .func (.func 27) #[] #[], .func (.func 28) #[] #[], .func (.func 29) #[] #[], .func (.func 30) #[] #[], .func (.func 54) #[] #[]]
structure TAct where
  kind : Int
  at_ : Int
  val : Int
  what : Int
  volatile : Bool
  final : Bool
def RT_TAct : RT TAct := ⟨6, fun V cs x => cs = [.int .i64 x.kind, .int .i64 x.at_, .int .i64 x.val, .int .i64 x.what, .bool x.volatile, .bool x.final], ⟨fun _ _ _ h => by rw [h]; rfl, fun _ _ _ h => by rw [h]; rfl, fun _ _ _ _ he h => h⟩⟩
structure TEvent where
  t : Int
  act : TAct
  rf : Int
  id : Int
def RT_TEvent : RT TEvent := ⟨9, fun V cs x => cs = [.int .i64 x.t, .int .i64 x.act.kind, .int .i64 x.act.at_, .int .i64 x.act.val, .int .i64 x.act.what, .bool x.act.volatile, .bool x.act.final, .int .i64 x.rf, .int .i64 x.id], ⟨fun _ _ _ h => by rw [h]; rfl, fun _ _ _ h => by rw [h]; rfl, fun _ _ _ _ he h => h⟩⟩
structure Torder_node where
  e : TEvent
  at_ : Int
def RT_Torder_node : RT Torder_node := ⟨10, fun V cs x => cs = [.int .i64 x.e.t, .int .i64 x.e.act.kind, .int .i64 x.e.act.at_, .int .i64 x.e.act.val, .int .i64 x.e.act.what, .bool x.e.act.volatile, .bool x.e.act.final, .int .i64 x.e.rf, .int .i64 x.e.id, .int .i64 x.at_], ⟨fun _ _ _ h => by rw [h]; rfl, fun _ _ _ h => by rw [h]; rfl, fun _ _ _ _ he h => h⟩⟩
structure Tref21_Node where
  e : TEvent
  at_ : Int
def RT_Tref21_Node : RT Tref21_Node := ⟨10, fun V cs x => cs = [.int .i64 x.e.t, .int .i64 x.e.act.kind, .int .i64 x.e.act.at_, .int .i64 x.e.act.val, .int .i64 x.e.act.what, .bool x.e.act.volatile, .bool x.e.act.final, .int .i64 x.e.rf, .int .i64 x.e.id, .int .i64 x.at_], ⟨fun _ _ _ h => by rw [h]; rfl, fun _ _ _ h => by rw [h]; rfl, fun _ _ _ _ he h => h⟩⟩

noncomputable def law21_w (p0 : Int) (p1 : Int) (p2 : Int) : Option TEvent :=
  some (⟨p0, (⟨2, p1, 1, 0, false, false⟩ : TAct), 0, p2⟩ : TEvent)
noncomputable def law21_r (p0 : Int) (p1 : Int) (p2 : Int) : Option TEvent :=
  some (⟨p0, (⟨1, p1, 0, 0, false, false⟩ : TAct), p2, 0⟩ : TEvent)
noncomputable def order_writes (p0 : TAct) : Option Bool :=
  some (((decide (p0.kind = 2)) || (decide (p0.kind = 5))) || (decide (p0.kind = 6)))
noncomputable def order_reads (p0 : TAct) : Option Bool :=
  some ((decide (p0.kind = 1)) || (decide (p0.kind = 5)))
noncomputable def order_every (p0 : TAct) : Option Bool :=
  some true
noncomputable def order_Run_nodes_k1 (x43 : Int) (xs58 : List Torder_node) : Option (((List Torder_node) × Int) ⊕ (((List Torder_node) × Int) ⊕ (List Torder_node))) :=
  some (Sum.inl (xs58, w64 (x43 + 1)))
noncomputable def order_Run_nodes_l2b (p0 : List (List TEvent)) (x9 : Int) (x26 : List TEvent) (xs42 : List Torder_node) (x43 : Int) : Option (((List Torder_node) × Int) ⊕ (((List Torder_node) × Int) ⊕ (List Torder_node))) :=
  if decide (x43 < (x26.length : Int)) then
  (ix p0 x9).bind fun x63 =>
  (ix x63 x43).bind fun x70 =>
  (order_writes x70.act).bind fun x92 =>
  (if x92 then
  some true
  else
  (order_reads x70.act).bind fun x156 =>
  some x156).bind fun y101 =>
  (if y101 then
  (order_every x70.act).bind fun x141 =>
  some x141
  else
  some false).bind fun y110 =>
  if y110 then
  (ap xs42 [(⟨x70, x43⟩ : Torder_node)]).bind fun xs127 =>
  order_Run_nodes_k1 x43 xs127
  else
  order_Run_nodes_k1 x43 xs42
  else
  (some (Sum.inl (xs42, w64 (x9 + 1)))).map Sum.inr
noncomputable def order_Run_nodes_l2 (p0 : List (List TEvent)) (x9 : Int) (x26 : List TEvent) (xs42 : List Torder_node) (x43 : Int) : Option (((List Torder_node) × Int) ⊕ (List Torder_node)) := loopO (fun s => order_Run_nodes_l2b p0 x9 x26 s.1 s.2) (xs42, x43)
noncomputable def order_Run_nodes_l1b (p0 : List (List TEvent)) (xs8 : List Torder_node) (x9 : Int) : Option (((List Torder_node) × Int) ⊕ (List Torder_node)) :=
  if decide (x9 < (p0.length : Int)) then
  (ix p0 x9).bind fun x26 =>
  order_Run_nodes_l2 p0 x9 x26 xs8 0
  else
  (some xs8).map Sum.inr
noncomputable def order_Run_nodes_l1 (p0 : List (List TEvent)) (xs8 : List Torder_node) (x9 : Int) : Option (List Torder_node) := loopO (fun s => order_Run_nodes_l1b p0 s.1 s.2) (xs8, x9)
noncomputable def order_Run_nodes (p0 : List (List TEvent)) : Option (List Torder_node) :=
  order_Run_nodes_l1 p0 [] 0
noncomputable def order_po (p0 : Torder_node) (p1 : Torder_node) : Option Bool :=
  some ((decide (p0.e.t = p1.e.t)) && (decide (p0.at_ < p1.at_)))
noncomputable def order_Run_Coherent_c1 (p0 : Torder_node) (p1 : Torder_node) : Option Bool :=
  (order_po p0 p1).bind fun x11 =>
  some (x11 && (decide (p0.e.act.at_ = p1.e.act.at_)))
noncomputable def order_rf (p0 : Torder_node) (p1 : Torder_node) : Option Bool :=
  (if decide (0 < p0.e.id) then
  (order_reads p1.e.act).bind fun x37 =>
  some x37
  else
  some false).bind fun y11 =>
  some (y11 && (decide (p1.e.rf = p0.e.id)))
noncomputable def order_co (p0 : Torder_node) (p1 : Torder_node) : Option Bool :=
  (order_writes p0.e.act).bind fun x11 =>
  (if x11 then
  (order_writes p1.e.act).bind fun x58 =>
  some x58
  else
  some false).bind fun y19 =>
  some ((y19 && (decide (p0.e.act.at_ = p1.e.act.at_))) && (decide (p0.e.id < p1.e.id)))
noncomputable def order_fr (p0 : Torder_node) (p1 : Torder_node) : Option Bool :=
  (order_reads p0.e.act).bind fun x11 =>
  (if x11 then
  (order_writes p1.e.act).bind fun x65 =>
  some x65
  else
  some false).bind fun y19 =>
  some (((y19 && (decide (p0.e.act.at_ = p1.e.act.at_))) && (decide (p0.e.rf < p1.e.id))) && (!(((decide (p0.e.t = p1.e.t)) && (((decide (p0.e.act.kind = p1.e.act.kind)) && ((decide (p0.e.act.at_ = p1.e.act.at_)) && ((decide (p0.e.act.val = p1.e.act.val)) && ((decide (p0.e.act.what = p1.e.act.what)) && ((p0.e.act.volatile == p1.e.act.volatile) && ((p0.e.act.final == p1.e.act.final) && true)))))) && ((decide (p0.e.rf = p1.e.rf)) && ((decide (p0.e.id = p1.e.id)) && true)))) && ((decide (p0.at_ = p1.at_)) && true))))
noncomputable def order_released (p0 : Torder_node) (p1 : Torder_node) : Option Bool :=
  some ((((((decide (p0.e.act.kind = 6)) || (p0.e.act.volatile && (decide (p0.e.act.kind = 2)))) && ((decide (p1.e.act.kind = 5)) || (p1.e.act.volatile && (decide (p1.e.act.kind = 1))))) && (decide (p0.e.act.at_ = p1.e.act.at_))) && (decide (0 < p0.e.id))) && (decide (p0.e.id ≤ p1.e.rf)))
noncomputable def order_join_c1 (p0 : Nat) (p1 : Torder_node) (p2 : Torder_node) : Option Bool :=
  if decide (p0 = 0) then
  (order_Run_Coherent_c1 p1 p2).bind fun x12 =>
  some x12
  else
  if decide (p0 = 1) then
  (order_po p1 p2).bind fun x25 =>
  some x25
  else
  if decide (p0 = 2) then
  (order_rf p1 p2).bind fun x38 =>
  some x38
  else
  if decide (p0 = 3) then
  (order_co p1 p2).bind fun x51 =>
  some x51
  else
  if decide (p0 = 4) then
  (order_fr p1 p2).bind fun x64 =>
  some x64
  else
  if decide (p0 = 5) then
  (order_released p1 p2).bind fun x77 =>
  some x77
  else
  none
noncomputable def slices_IndexFunc_l1b (p0 : List Nat) (p1_10 : Torder_node) (p1_11 : Torder_node) (x9 : Int) : Option (Int ⊕ Int) :=
  if decide (x9 < (p0.length : Int)) then
  (ix p0 x9).bind fun x22 =>
  (order_join_c1 x22 p1_10 p1_11).bind fun x40 =>
  if x40 then
  (some x9).map Sum.inr
  else
  some (Sum.inl (w64 (x9 + 1)))
  else
  (some (-1)).map Sum.inr
noncomputable def slices_IndexFunc_l1 (p0 : List Nat) (p1_10 : Torder_node) (p1_11 : Torder_node) (x9 : Int) : Option Int := loopO (fun s => slices_IndexFunc_l1b p0 p1_10 p1_11 s) x9
noncomputable def slices_IndexFunc (p0 : List Nat) (p1_10 : Torder_node) (p1_11 : Torder_node) : Option Int :=
  slices_IndexFunc_l1 p0 p1_10 p1_11 0
noncomputable def slices_ContainsFunc (p0 : List Nat) (p1_10 : Torder_node) (p1_11 : Torder_node) : Option Bool :=
  (slices_IndexFunc p0 p1_10 p1_11).bind fun x12 =>
  some (decide (0 ≤ x12))
noncomputable def order_join_k1 (x84 : Int) (xs101 : List (List Bool)) : Option (((List (List Bool)) × Int) ⊕ (((List (List Bool)) × Int) ⊕ (List (List Bool)))) :=
  some (Sum.inl (xs101, w64 (x84 + 1)))
noncomputable def order_join_l2b (p0 : List Torder_node) (p1 : List Nat) (x19 : Int) (x35 : Torder_node) (xs83 : List (List Bool)) (x84 : Int) : Option (((List (List Bool)) × Int) ⊕ (((List (List Bool)) × Int) ⊕ (List (List Bool)))) :=
  if decide (x84 < (p0.length : Int)) then
  (ix p0 x84).bind fun x106 =>
  (ix xs83 x19).bind fun x123 =>
  if decide (x19 ≠ x84) then
  (slices_ContainsFunc p1 x35 x106).bind fun x136 =>
  (ix xs83 x19).bind fun x147 =>
  (ix x147 x84).bind fun x154 =>
  order_join_k1 x84 (xs83.set (Int.toNat x19) (x147.set (Int.toNat x84) x136))
  else
  (ix xs83 x19).bind fun x178 =>
  (ix x178 x84).bind fun x185 =>
  order_join_k1 x84 (xs83.set (Int.toNat x19) (x178.set (Int.toNat x84) false))
  else
  (some (Sum.inl (xs83, w64 (x19 + 1)))).map Sum.inr
noncomputable def order_join_l2 (p0 : List Torder_node) (p1 : List Nat) (x19 : Int) (x35 : Torder_node) (xs83 : List (List Bool)) (x84 : Int) : Option (((List (List Bool)) × Int) ⊕ (List (List Bool))) := loopO (fun s => order_join_l2b p0 p1 x19 x35 s.1 s.2) (xs83, x84)
noncomputable def order_join_l1b (p0 : List Torder_node) (p1 : List Nat) (xs18 : List (List Bool)) (x19 : Int) : Option (((List (List Bool)) × Int) ⊕ (List (List Bool))) :=
  if decide (x19 < (p0.length : Int)) then
  (ix p0 x19).bind fun x35 =>
  (mk (p0.length : Int) false).bind fun xs57 =>
  (ix xs18 x19).bind fun x65 =>
  order_join_l2 p0 p1 x19 x35 (xs18.set (Int.toNat x19) xs57) 0
  else
  (some xs18).map Sum.inr
noncomputable def order_join_l1 (p0 : List Torder_node) (p1 : List Nat) (xs18 : List (List Bool)) (x19 : Int) : Option (List (List Bool)) := loopO (fun s => order_join_l1b p0 p1 s.1 s.2) (xs18, x19)
noncomputable def order_join (p0 : List Torder_node) (p1 : List Nat) : Option (List (List Bool)) :=
  (mk (p0.length : Int) ([] : List Bool)).bind fun xs8 =>
  order_join_l1 p0 p1 xs8 0
noncomputable def order_graph_visit_l1b (rec_ : (List (List Bool)) → Int → (List Int) → Option (Bool × (List Int))) (p0 : List (List Bool)) (p1 : Int) (x23 : List Bool) (xs37 : List Int) (x38 : Int) : Option (((List Int) × Int) ⊕ (Bool × (List Int))) :=
  if decide (x38 < (x23.length : Int)) then
  (ix p0 p1).bind fun x51 =>
  (ix x51 x38).bind fun x58 =>
  (if x58 then
  (ix xs37 x38).bind fun x104 =>
  (if decide (x104 = 1) then
  some (true, xs37)
  else
  (ix xs37 x38).bind fun x135 =>
  (if decide (x135 = 0) then
  (rec_ p0 x38 xs37).bind fun x159 =>
  some (x159.1, x159.2)
  else
  some (false, xs37)).bind fun y144 =>
  some (y144.1, y144.2)).bind fun y113 =>
  some (y113.1, y113.2)
  else
  some (false, xs37)).bind fun y73 =>
  if y73.1 then
  (some (true, y73.2)).map Sum.inr
  else
  some (Sum.inl (y73.2, w64 (x38 + 1)))
  else
  ((ix xs37 p1).bind fun x174 =>
  some (false, xs37.set (Int.toNat p1) 2)).map Sum.inr
noncomputable def order_graph_visit_l1 (rec_ : (List (List Bool)) → Int → (List Int) → Option (Bool × (List Int))) (p0 : List (List Bool)) (p1 : Int) (x23 : List Bool) (xs37 : List Int) (x38 : Int) : Option (Bool × (List Int)) := loopO (fun s => order_graph_visit_l1b rec_ p0 p1 x23 s.1 s.2) (xs37, x38)
noncomputable def order_graph_visit_F (rec_ : (List (List Bool)) → Int → (List Int) → Option (Bool × (List Int))) (p0 : List (List Bool)) (p1 : Int) (p2 : List Int) : Option (Bool × (List Int)) :=
  (ix p2 p1).bind fun x6 =>
  (ix p0 p1).bind fun x23 =>
  order_graph_visit_l1 rec_ p0 p1 x23 (p2.set (Int.toNat p1) 1) 0
noncomputable def order_graph_visit (p0 : List (List Bool)) (p1 : Int) (p2 : List Int) : Option (Bool × (List Int)) := recO (fun rec_ a => order_graph_visit_F (fun p0 p1 p2 => rec_ (p0, p1, p2)) a.1 a.2.1 a.2.2) (p0, p1, p2)
noncomputable def order_graph_cyclic_l1b (p0 : List (List Bool)) (xs12 : List Int) (x13 : Int) : Option (((List Int) × Int) ⊕ Bool) :=
  if decide (x13 < (p0.length : Int)) then
  (ix xs12 x13).bind fun x28 =>
  (if decide (x28 = 0) then
  (order_graph_visit p0 x13 xs12).bind fun x62 =>
  some (x62.1, x62.2)
  else
  some (false, xs12)).bind fun y42 =>
  if y42.1 then
  (some true).map Sum.inr
  else
  some (Sum.inl (y42.2, w64 (x13 + 1)))
  else
  (some false).map Sum.inr
noncomputable def order_graph_cyclic_l1 (p0 : List (List Bool)) (xs12 : List Int) (x13 : Int) : Option Bool := loopO (fun s => order_graph_cyclic_l1b p0 s.1 s.2) (xs12, x13)
noncomputable def order_graph_cyclic (p0 : List (List Bool)) : Option Bool :=
  (mk (p0.length : Int) 0).bind fun xs4 =>
  order_graph_cyclic_l1 p0 xs4 0
noncomputable def order_Run_Serial (p0 : List (List TEvent)) : Option Bool :=
  (order_Run_nodes p0).bind fun x4 =>
  (order_join x4 [1, 2, 3, 4]).bind fun x20 =>
  (order_graph_cyclic x20).bind fun x31 =>
  some (!x31)
noncomputable def order_Run_Coherent (p0 : List (List TEvent)) : Option Bool :=
  (order_Run_nodes p0).bind fun x4 =>
  (order_join x4 [0, 2, 3, 4]).bind fun x20 =>
  (order_graph_cyclic x20).bind fun x31 =>
  some (!x31)
noncomputable def order_graph_closed_k1 (x115 : Int) (xs128 : List (List Bool)) (xs131 : List Int) : Option (((List (List Bool)) × (List Int) × Int) ⊕ (((List (List Bool)) × (List Int)) ⊕ (((List (List Bool)) × Int) ⊕ (List (List Bool))))) :=
  some (Sum.inl (xs128, xs131, w64 (x115 + 1)))
noncomputable def order_graph_closed_l3b (p0 : List (List Bool)) (x18 : Int) (x83 : Int) (x97 : List Bool) (xs111 : List (List Bool)) (xs114 : List Int) (x115 : Int) : Option (((List (List Bool)) × (List Int) × Int) ⊕ (((List (List Bool)) × (List Int)) ⊕ (((List (List Bool)) × Int) ⊕ (List (List Bool))))) :=
  if decide (x115 < (x97.length : Int)) then
  (ix p0 x83).bind fun x136 =>
  (ix x136 x115).bind fun x143 =>
  (if x143 then
  (ix xs111 x18).bind fun x217 =>
  (ix x217 x115).bind fun x225 =>
  some (!x225)
  else
  some false).bind fun y158 =>
  if y158 then
  (ix xs111 x18).bind fun x174 =>
  (ix x174 x115).bind fun x182 =>
  (ap xs114 [x115]).bind fun xs204 =>
  order_graph_closed_k1 x115 (xs111.set (Int.toNat x18) (x174.set (Int.toNat x115) true)) xs204
  else
  order_graph_closed_k1 x115 xs111 xs114
  else
  ((cutL xs114 1 (xs114.length : Int)).bind fun xs245 =>
  some (Sum.inl (xs111, xs245))).map Sum.inr
noncomputable def order_graph_closed_l3 (p0 : List (List Bool)) (x18 : Int) (x83 : Int) (x97 : List Bool) (xs111 : List (List Bool)) (xs114 : List Int) (x115 : Int) : Option (((List (List Bool)) × (List Int)) ⊕ (((List (List Bool)) × Int) ⊕ (List (List Bool)))) := loopO (fun s => order_graph_closed_l3b p0 x18 x83 x97 s.1 s.2.1 s.2.2) (xs111, xs114, x115)
noncomputable def order_graph_closed_l2b (p0 : List (List Bool)) (x18 : Int) (xs64 : List (List Bool)) (xs67 : List Int) : Option (((List (List Bool)) × (List Int)) ⊕ (((List (List Bool)) × Int) ⊕ (List (List Bool)))) :=
  if decide (0 < (xs67.length : Int)) then
  (ix xs67 0).bind fun x83 =>
  (ix p0 x83).bind fun x97 =>
  order_graph_closed_l3 p0 x18 x83 x97 xs64 xs67 0
  else
  (some (Sum.inl (xs64, w64 (x18 + 1)))).map Sum.inr
noncomputable def order_graph_closed_l2 (p0 : List (List Bool)) (x18 : Int) (xs64 : List (List Bool)) (xs67 : List Int) : Option (((List (List Bool)) × Int) ⊕ (List (List Bool))) := loopO (fun s => order_graph_closed_l2b p0 x18 s.1 s.2) (xs64, xs67)
noncomputable def order_graph_closed_l1b (p0 : List (List Bool)) (xs17 : List (List Bool)) (x18 : Int) : Option (((List (List Bool)) × Int) ⊕ (List (List Bool))) :=
  if decide (x18 < (p0.length : Int)) then
  (mk (p0.length : Int) false).bind fun xs33 =>
  (ix xs17 x18).bind fun x41 =>
  order_graph_closed_l2 p0 x18 (xs17.set (Int.toNat x18) xs33) [x18]
  else
  (some xs17).map Sum.inr
noncomputable def order_graph_closed_l1 (p0 : List (List Bool)) (xs17 : List (List Bool)) (x18 : Int) : Option (List (List Bool)) := loopO (fun s => order_graph_closed_l1b p0 s.1 s.2) (xs17, x18)
noncomputable def order_graph_closed (p0 : List (List Bool)) : Option (List (List Bool)) :=
  (mk (p0.length : Int) ([] : List Bool)).bind fun xs7 =>
  order_graph_closed_l1 p0 xs7 0
noncomputable def order_Run_happens (p0 : List (List TEvent)) (p1 : List Torder_node) : Option (List (List Bool)) :=
  (order_join p1 [1, 5]).bind fun x15 =>
  (order_graph_closed x15).bind fun x26 =>
  some x26
noncomputable def order_syncs (p0 : TAct) : Option Bool :=
  some (((p0.volatile && ((decide (p0.kind = 1)) || (decide (p0.kind = 2)))) || (decide (p0.kind = 5))) || (decide (p0.kind = 6)))
noncomputable def order_Run_Racy_l2b (x15 : List (List Bool)) (xs26 : List Torder_node) (xs29 : List Torder_node) (x32 : Int) (x53 : Torder_node) (xs73 : List Torder_node) (x79 : Int) : Option (Int ⊕ (((List Torder_node) × (List Torder_node) × Int) ⊕ Bool)) :=
  if decide (x79 < (xs73.length : Int)) then
  (ix xs73 x79).bind fun x95 =>
  (order_syncs x53.e.act).bind fun x114 =>
  (if !x114 then
  some true
  else
  (order_syncs x95.e.act).bind fun x319 =>
  some (!x319)).bind fun y122 =>
  (if (y122 && (decide (x53.e.t ≠ x95.e.t))) && (decide (x53.e.act.at_ = x95.e.act.at_)) then
  (order_writes x53.e.act).bind fun x277 =>
  (if x277 then
  some true
  else
  (order_writes x95.e.act).bind fun x300 =>
  some x300).bind fun y285 =>
  some y285
  else
  some false).bind fun y155 =>
  (if y155 then
  (ix x15 x32).bind fun x244 =>
  (ix x244 x79).bind fun x257 =>
  some (!x257)
  else
  some false).bind fun y171 =>
  (if y171 then
  (ix x15 x79).bind fun x211 =>
  (ix x211 x32).bind fun x224 =>
  some (!x224)
  else
  some false).bind fun y185 =>
  if y185 then
  ((some true).map Sum.inr).map Sum.inr
  else
  some (Sum.inl (w64 (x79 + 1)))
  else
  (some (Sum.inl (xs26, xs29, w64 (x32 + 1)))).map Sum.inr
noncomputable def order_Run_Racy_l2 (x15 : List (List Bool)) (xs26 : List Torder_node) (xs29 : List Torder_node) (x32 : Int) (x53 : Torder_node) (xs73 : List Torder_node) (x79 : Int) : Option (((List Torder_node) × (List Torder_node) × Int) ⊕ Bool) := loopO (fun s => order_Run_Racy_l2b x15 xs26 xs29 x32 x53 xs73 s) x79
noncomputable def order_Run_Racy_l1b (x4 : List Torder_node) (x15 : List (List Bool)) (xs26 : List Torder_node) (xs29 : List Torder_node) (x32 : Int) : Option (((List Torder_node) × (List Torder_node) × Int) ⊕ Bool) :=
  if decide (x32 < (x4.length : Int)) then
  (ix xs29 x32).bind fun x53 =>
  (cutL xs26 0 x32).bind fun xs73 =>
  order_Run_Racy_l2 x15 xs26 xs29 x32 x53 xs73 0
  else
  (some false).map Sum.inr
noncomputable def order_Run_Racy_l1 (x4 : List Torder_node) (x15 : List (List Bool)) (xs26 : List Torder_node) (xs29 : List Torder_node) (x32 : Int) : Option Bool := loopO (fun s => order_Run_Racy_l1b x4 x15 s.1 s.2.1 s.2.2) (xs26, xs29, x32)
noncomputable def order_Run_Racy (p0 : List (List TEvent)) : Option Bool :=
  (order_Run_nodes p0).bind fun x4 =>
  (order_Run_happens p0 x4).bind fun x15 =>
  order_Run_Racy_l1 x4 x15 x4 x4 0
noncomputable def law21_alive : Option Bool :=
  (law21_w 0 8 1).bind fun x1 =>
  (law21_r 0 16 0).bind fun x9 =>
  (law21_w 1 16 2).bind fun x22 =>
  (law21_r 1 8 0).bind fun x30 =>
  (order_Run_Serial ([[x1, x9], [x22, x30]])).bind fun x49 =>
  (if !x49 then
  (order_Run_Coherent ([[x1, x9], [x22, x30]])).bind fun x91 =>
  some x91
  else
  some false).bind fun y57 =>
  (if y57 then
  (order_Run_Racy ([[x1, x9], [x22, x30]])).bind fun x77 =>
  some x77
  else
  some false).bind fun y65 =>
  some y65
noncomputable def law21_great_l1b (p0 : List (List TEvent)) (x3 : Int) (x4 : Int) : Option ((Int × Int) ⊕ Bool) :=
  if decide (x4 < (p0.length : Int)) then
  (ix p0 x4).bind fun x17 =>
  some (Sum.inl (w64 (x3 + (x17.length : Int)), w64 (x4 + 1)))
  else
  (some ((decide (5 < (p0.length : Int))) || (decide (24 < x3)))).map Sum.inr
noncomputable def law21_great_l1 (p0 : List (List TEvent)) (x3 : Int) (x4 : Int) : Option Bool := loopO (fun s => law21_great_l1b p0 s.1 s.2) (x3, x4)
noncomputable def law21_great (p0 : List (List TEvent)) : Option Bool :=
  law21_great_l1 p0 0 0
noncomputable def ref21_Good_l2b (x9 : Int) (x22 : List TEvent) (xs35 : List (Int × Bool)) (x36 : Int) : Option (((List (Int × Bool)) × Int) ⊕ (((List (Int × Bool)) × Int) ⊕ Bool)) :=
  if decide (x36 < (x22.length : Int)) then
  (ix x22 x36).bind fun x49 =>
  if ((decide (x49.t ≠ x9)) || (decide (x49.rf < 0))) || (decide (x49.id < 0)) then
  ((some false).map Sum.inr).map Sum.inr
  else
  if (decide (0 < x49.id)) && ((mG xs35 x49.id).getD false) then
  ((some false).map Sum.inr).map Sum.inr
  else
  some (Sum.inl (mS xs35 x49.id true, w64 (x36 + 1)))
  else
  (some (Sum.inl (xs35, w64 (x9 + 1)))).map Sum.inr
noncomputable def ref21_Good_l2 (x9 : Int) (x22 : List TEvent) (xs35 : List (Int × Bool)) (x36 : Int) : Option (((List (Int × Bool)) × Int) ⊕ Bool) := loopO (fun s => ref21_Good_l2b x9 x22 s.1 s.2) (xs35, x36)
noncomputable def ref21_Good_l1b (p0 : List (List TEvent)) (xs8 : List (Int × Bool)) (x9 : Int) : Option (((List (Int × Bool)) × Int) ⊕ Bool) :=
  if decide (x9 < (p0.length : Int)) then
  (ix p0 x9).bind fun x22 =>
  ref21_Good_l2 x9 x22 xs8 0
  else
  (some true).map Sum.inr
noncomputable def ref21_Good_l1 (p0 : List (List TEvent)) (xs8 : List (Int × Bool)) (x9 : Int) : Option Bool := loopO (fun s => ref21_Good_l1b p0 s.1 s.2) (xs8, x9)
noncomputable def ref21_Good (p0 : List (List TEvent)) : Option Bool :=
  ref21_Good_l1 p0 [] 0
noncomputable def order_Run_nodes_2_k1 (x39 : Int) (xs54 : List Torder_node) : Option (((List Torder_node) × Int) ⊕ (((List Torder_node) × Int) ⊕ (List Torder_node))) :=
  some (Sum.inl (xs54, w64 (x39 + 1)))
noncomputable def order_Run_nodes_2_l2b (x8 : Int) (x23 : List TEvent) (xs38 : List Torder_node) (x39 : Int) : Option (((List Torder_node) × Int) ⊕ (((List Torder_node) × Int) ⊕ (List Torder_node))) :=
  if decide (x39 < (x23.length : Int)) then
  (ix x23 x39).bind fun x59 =>
  (order_writes x59.act).bind fun x78 =>
  (if x78 then
  some true
  else
  (order_reads x59.act).bind fun x141 =>
  some x141).bind fun y86 =>
  (if y86 then
  (order_every x59.act).bind fun x126 =>
  some x126
  else
  some false).bind fun y95 =>
  if y95 then
  (ap xs38 [(⟨x59, x39⟩ : Torder_node)]).bind fun xs112 =>
  order_Run_nodes_2_k1 x39 xs112
  else
  order_Run_nodes_2_k1 x39 xs38
  else
  (some (Sum.inl (xs38, w64 (x8 + 1)))).map Sum.inr
noncomputable def order_Run_nodes_2_l2 (x8 : Int) (x23 : List TEvent) (xs38 : List Torder_node) (x39 : Int) : Option (((List Torder_node) × Int) ⊕ (List Torder_node)) := loopO (fun s => order_Run_nodes_2_l2b x8 x23 s.1 s.2) (xs38, x39)
noncomputable def order_Run_nodes_2_l1b (p0 : List (List TEvent)) (xs7 : List Torder_node) (x8 : Int) : Option (((List Torder_node) × Int) ⊕ (List Torder_node)) :=
  if decide (x8 < (p0.length : Int)) then
  (ix p0 x8).bind fun x23 =>
  order_Run_nodes_2_l2 x8 x23 xs7 0
  else
  (some xs7).map Sum.inr
noncomputable def order_Run_nodes_2_l1 (p0 : List (List TEvent)) (xs7 : List Torder_node) (x8 : Int) : Option (List Torder_node) := loopO (fun s => order_Run_nodes_2_l1b p0 s.1 s.2) (xs7, x8)
noncomputable def order_Run_nodes_2 (p0 : List (List TEvent)) : Option (List Torder_node) :=
  order_Run_nodes_2_l1 p0 [] 0
noncomputable def order_join_2_k1 (x80 : Int) (xs96 : List (List Bool)) : Option (((List (List Bool)) × Int) ⊕ (((List (List Bool)) × Int) ⊕ (List (List Bool)))) :=
  some (Sum.inl (xs96, w64 (x80 + 1)))
noncomputable def order_join_2_l2b (p0 : List Torder_node) (p1 : List Nat) (x19 : Int) (x34 : Torder_node) (xs79 : List (List Bool)) (x80 : Int) : Option (((List (List Bool)) × Int) ⊕ (((List (List Bool)) × Int) ⊕ (List (List Bool)))) :=
  if decide (x80 < (p0.length : Int)) then
  (ix p0 x80).bind fun x101 =>
  (ix xs79 x19).bind fun x120 =>
  if decide (x19 ≠ x80) then
  (slices_ContainsFunc p1 x34 x101).bind fun x133 =>
  (ix xs79 x19).bind fun x144 =>
  (ix x144 x80).bind fun x151 =>
  order_join_2_k1 x80 (xs79.set (Int.toNat x19) (x144.set (Int.toNat x80) x133))
  else
  (ix xs79 x19).bind fun x174 =>
  (ix x174 x80).bind fun x181 =>
  order_join_2_k1 x80 (xs79.set (Int.toNat x19) (x174.set (Int.toNat x80) false))
  else
  (some (Sum.inl (xs79, w64 (x19 + 1)))).map Sum.inr
noncomputable def order_join_2_l2 (p0 : List Torder_node) (p1 : List Nat) (x19 : Int) (x34 : Torder_node) (xs79 : List (List Bool)) (x80 : Int) : Option (((List (List Bool)) × Int) ⊕ (List (List Bool))) := loopO (fun s => order_join_2_l2b p0 p1 x19 x34 s.1 s.2) (xs79, x80)
noncomputable def order_join_2_l1b (p0 : List Torder_node) (p1 : List Nat) (xs18 : List (List Bool)) (x19 : Int) : Option (((List (List Bool)) × Int) ⊕ (List (List Bool))) :=
  if decide (x19 < (p0.length : Int)) then
  (ix p0 x19).bind fun x34 =>
  (mk (p0.length : Int) false).bind fun xs53 =>
  (ix xs18 x19).bind fun x61 =>
  order_join_2_l2 p0 p1 x19 x34 (xs18.set (Int.toNat x19) xs53) 0
  else
  (some xs18).map Sum.inr
noncomputable def order_join_2_l1 (p0 : List Torder_node) (p1 : List Nat) (xs18 : List (List Bool)) (x19 : Int) : Option (List (List Bool)) := loopO (fun s => order_join_2_l1b p0 p1 s.1 s.2) (xs18, x19)
noncomputable def order_join_2 (p0 : List Torder_node) (p1 : List Nat) : Option (List (List Bool)) :=
  (mk (p0.length : Int) ([] : List Bool)).bind fun xs8 =>
  order_join_2_l1 p0 p1 xs8 0
noncomputable def order_Run_happens_2 (p0 : List (List TEvent)) (p1 : List Torder_node) : Option (List (List Bool)) :=
  (order_join_2 p1 [1, 5]).bind fun x14 =>
  (order_graph_closed x14).bind fun x25 =>
  some x25
noncomputable def slices_Index_l1b (p0 : List Torder_node) (p1 : Torder_node) (x8 : Int) : Option (Int ⊕ Int) :=
  if decide (x8 < (p0.length : Int)) then
  (ix p0 x8).bind fun x21 =>
  if ((decide (p1.e.t = x21.e.t)) && (((decide (p1.e.act.kind = x21.e.act.kind)) && ((decide (p1.e.act.at_ = x21.e.act.at_)) && ((decide (p1.e.act.val = x21.e.act.val)) && ((decide (p1.e.act.what = x21.e.act.what)) && ((p1.e.act.volatile == x21.e.act.volatile) && ((p1.e.act.final == x21.e.act.final) && true)))))) && ((decide (p1.e.rf = x21.e.rf)) && ((decide (p1.e.id = x21.e.id)) && true)))) && ((decide (p1.at_ = x21.at_)) && true) then
  (some x8).map Sum.inr
  else
  some (Sum.inl (w64 (x8 + 1)))
  else
  (some (-1)).map Sum.inr
noncomputable def slices_Index_l1 (p0 : List Torder_node) (p1 : Torder_node) (x8 : Int) : Option Int := loopO (fun s => slices_Index_l1b p0 p1 s) x8
noncomputable def slices_Index (p0 : List Torder_node) (p1 : Torder_node) : Option Int :=
  slices_Index_l1 p0 p1 0
noncomputable def order_Run_Consistent_c1_k1 (x23 : Bool) : Option Bool :=
  some x23
noncomputable def order_Run_Consistent_c1 (p0 : Torder_node) (p1 : Torder_node) (p2 : List (List Bool)) (p3 : List Torder_node) (p4 : Int) : Option Bool :=
  (order_rf p0 p1).bind fun x29 =>
  if x29 then
  (slices_Index p3 p0).bind fun x40 =>
  (ix p2 x40).bind fun x48 =>
  (ix x48 p4).bind fun x61 =>
  order_Run_Consistent_c1_k1 x61
  else
  order_Run_Consistent_c1_k1 false
noncomputable def slices_IndexFunc_2_l1b (p0 : List Torder_node) (p1_10 : Torder_node) (p1_11 : List (List Bool)) (p1_12 : List Torder_node) (p1_13 : Int) (x20 : Int) : Option (Int ⊕ Int) :=
  if decide (x20 < (p0.length : Int)) then
  (ix p0 x20).bind fun x33 =>
  (order_Run_Consistent_c1 x33 p1_10 p1_11 p1_12 p1_13).bind fun x50 =>
  if x50 then
  (some x20).map Sum.inr
  else
  some (Sum.inl (w64 (x20 + 1)))
  else
  (some (-1)).map Sum.inr
noncomputable def slices_IndexFunc_2_l1 (p0 : List Torder_node) (p1_10 : Torder_node) (p1_11 : List (List Bool)) (p1_12 : List Torder_node) (p1_13 : Int) (x20 : Int) : Option Int := loopO (fun s => slices_IndexFunc_2_l1b p0 p1_10 p1_11 p1_12 p1_13 s) x20
noncomputable def slices_IndexFunc_2 (p0 : List Torder_node) (p1_10 : Torder_node) (p1_11 : List (List Bool)) (p1_12 : List Torder_node) (p1_13 : Int) : Option Int :=
  slices_IndexFunc_2_l1 p0 p1_10 p1_11 p1_12 p1_13 0
noncomputable def slices_ContainsFunc_2 (p0 : List Torder_node) (p1_10 : Torder_node) (p1_11 : List (List Bool)) (p1_12 : List Torder_node) (p1_13 : Int) : Option Bool :=
  (slices_IndexFunc_2 p0 p1_10 p1_11 p1_12 p1_13).bind fun x25 =>
  some (decide (0 ≤ x25))
noncomputable def order_Run_Consistent_k1 (x47 : Int) : Option (Int ⊕ Bool) :=
  some (Sum.inl (w64 (x47 + 1)))
noncomputable def order_Run_Consistent_k2 (x100 : Int) : Option (Int ⊕ (Int ⊕ Bool)) :=
  some (Sum.inl (w64 (x100 + 1)))
noncomputable def order_Run_Consistent_k3 (x3 : List Torder_node) (x28 : List (List Bool)) (x47 : Int) (x67 : Torder_node) (x100 : Int) (x121 : Torder_node) (x176 : Bool) : Option (Int ⊕ (Int ⊕ Bool)) :=
  if x176 then
  ((some false).map Sum.inr).map Sum.inr
  else
  (ix x28 x100).bind fun x193 =>
  (ix x193 x47).bind fun x206 =>
  if (x206 && (decide (x67.e.rf < x121.e.id))) && (decide (x67.e.rf = 0)) then
  ((some false).map Sum.inr).map Sum.inr
  else
  (ix x28 x100).bind fun x250 =>
  (ix x250 x47).bind fun x258 =>
  (if x258 then
  (slices_ContainsFunc_2 x3 x67 x28 x3 x100).bind fun x304 =>
  some x304
  else
  some false).bind fun y273 =>
  if y273 then
  ((some false).map Sum.inr).map Sum.inr
  else
  order_Run_Consistent_k2 x100 
noncomputable def order_Run_Consistent_l2b (x3 : List Torder_node) (x28 : List (List Bool)) (x47 : Int) (x67 : Torder_node) (x100 : Int) : Option (Int ⊕ (Int ⊕ Bool)) :=
  if decide (x100 < (x3.length : Int)) then
  (ix x3 x100).bind fun x121 =>
  (if decide (x47 = x100) then
  some true
  else
  (order_writes x121.e.act).bind fun x379 =>
  some (!x379)).bind fun y148 =>
  if y148 || (decide (x121.e.act.at_ ≠ x67.e.act.at_)) then
  order_Run_Consistent_k2 x100 
  else
  (order_rf x121 x67).bind fun x323 =>
  if x323 then
  (ix x28 x47).bind fun x333 =>
  (ix x333 x100).bind fun x346 =>
  order_Run_Consistent_k3 x3 x28 x47 x67 x100 x121 x346
  else
  order_Run_Consistent_k3 x3 x28 x47 x67 x100 x121 false
  else
  (order_Run_Consistent_k1 x47 ).map Sum.inr
noncomputable def order_Run_Consistent_l2 (x3 : List Torder_node) (x28 : List (List Bool)) (x47 : Int) (x67 : Torder_node) (x100 : Int) : Option (Int ⊕ Bool) := loopO (fun s => order_Run_Consistent_l2b x3 x28 x47 x67 s) x100
noncomputable def order_Run_Consistent_l1b (x3 : List Torder_node) (x28 : List (List Bool)) (x47 : Int) : Option (Int ⊕ Bool) :=
  if decide (x47 < (x3.length : Int)) then
  (ix x3 x47).bind fun x67 =>
  (order_reads x67.e.act).bind fun x86 =>
  if !x86 then
  order_Run_Consistent_k1 x47 
  else
  order_Run_Consistent_l2 x3 x28 x47 x67 0
  else
  (some true).map Sum.inr
noncomputable def order_Run_Consistent_l1 (x3 : List Torder_node) (x28 : List (List Bool)) (x47 : Int) : Option Bool := loopO (fun s => order_Run_Consistent_l1b x3 x28 s) x47
noncomputable def order_Run_Consistent (p0 : List (List TEvent)) : Option Bool :=
  (order_Run_nodes_2 p0).bind fun x3 =>
  (order_Run_happens_2 p0 x3).bind fun x28 =>
  order_Run_Consistent_l1 x3 x28 0
noncomputable def ref21_Reads (p0 : Tref21_Node) : Option Bool :=
  some ((decide (p0.e.act.kind = 1)) || (decide (p0.e.act.kind = 5)))
noncomputable def ref21_Writes (p0 : Tref21_Node) : Option Bool :=
  some (((decide (p0.e.act.kind = 2)) || (decide (p0.e.act.kind = 5))) || (decide (p0.e.act.kind = 6)))
noncomputable def ref21_Synced (p0 : Tref21_Node) : Option Bool :=
  some (((decide (p0.e.act.kind = 5)) || (decide (p0.e.act.kind = 6))) || (p0.e.act.volatile && ((decide (p0.e.act.kind = 1)) || (decide (p0.e.act.kind = 2)))))
noncomputable def ref21_Nodes_k1 (x39 : Int) (xs54 : List Tref21_Node) : Option (((List Tref21_Node) × Int) ⊕ (((List Tref21_Node) × Int) ⊕ (List Tref21_Node))) :=
  some (Sum.inl (xs54, w64 (x39 + 1)))
noncomputable def ref21_Nodes_l2b (p1 : Bool) (x8 : Int) (x23 : List TEvent) (xs38 : List Tref21_Node) (x39 : Int) : Option (((List Tref21_Node) × Int) ⊕ (((List Tref21_Node) × Int) ⊕ (List Tref21_Node))) :=
  if decide (x39 < (x23.length : Int)) then
  (ix x23 x39).bind fun x59 =>
  (ref21_Reads (⟨x59, x39⟩ : Tref21_Node)).bind fun x86 =>
  (if x86 then
  some true
  else
  (ref21_Writes (⟨x59, x39⟩ : Tref21_Node)).bind fun x167 =>
  some x167).bind fun y94 =>
  (if y94 then
  (if !p1 then
  some true
  else
  (ref21_Synced (⟨x59, x39⟩ : Tref21_Node)).bind fun x152 =>
  some x152).bind fun y137 =>
  some y137
  else
  some false).bind fun y102 =>
  if y102 then
  (ap xs38 [(⟨x59, x39⟩ : Tref21_Node)]).bind fun xs121 =>
  ref21_Nodes_k1 x39 xs121
  else
  ref21_Nodes_k1 x39 xs38
  else
  (some (Sum.inl (xs38, w64 (x8 + 1)))).map Sum.inr
noncomputable def ref21_Nodes_l2 (p1 : Bool) (x8 : Int) (x23 : List TEvent) (xs38 : List Tref21_Node) (x39 : Int) : Option (((List Tref21_Node) × Int) ⊕ (List Tref21_Node)) := loopO (fun s => ref21_Nodes_l2b p1 x8 x23 s.1 s.2) (xs38, x39)
noncomputable def ref21_Nodes_l1b (p0 : List (List TEvent)) (p1 : Bool) (xs7 : List Tref21_Node) (x8 : Int) : Option (((List Tref21_Node) × Int) ⊕ (List Tref21_Node)) :=
  if decide (x8 < (p0.length : Int)) then
  (ix p0 x8).bind fun x23 =>
  ref21_Nodes_l2 p1 x8 x23 xs7 0
  else
  (some xs7).map Sum.inr
noncomputable def ref21_Nodes_l1 (p0 : List (List TEvent)) (p1 : Bool) (xs7 : List Tref21_Node) (x8 : Int) : Option (List Tref21_Node) := loopO (fun s => ref21_Nodes_l1b p0 p1 s.1 s.2) (xs7, x8)
noncomputable def ref21_Nodes (p0 : List (List TEvent)) (p1 : Bool) : Option (List Tref21_Node) :=
  ref21_Nodes_l1 p0 p1 [] 0
noncomputable def ref21_matrix_l1b (p0 : Int) (xs4 : List (List Bool)) (xs14 : List (List Bool)) (x15 : Int) : Option (((List (List Bool)) × Int) ⊕ (List (List Bool))) :=
  if decide (x15 < (xs4.length : Int)) then
  (mk p0 false).bind fun xs28 =>
  (ix xs14 x15).bind fun x36 =>
  some (Sum.inl (xs14.set (Int.toNat x15) xs28, w64 (x15 + 1)))
  else
  (some xs14).map Sum.inr
noncomputable def ref21_matrix_l1 (p0 : Int) (xs4 : List (List Bool)) (xs14 : List (List Bool)) (x15 : Int) : Option (List (List Bool)) := loopO (fun s => ref21_matrix_l1b p0 xs4 s.1 s.2) (xs14, x15)
noncomputable def ref21_matrix (p0 : Int) : Option (List (List Bool)) :=
  (mk p0 ([] : List Bool)).bind fun xs4 =>
  ref21_matrix_l1 p0 xs4 xs4 0
noncomputable def ref21_Release (p0 : Tref21_Node) (p1 : Tref21_Node) : Option Bool :=
  some ((((((decide (p0.e.act.kind = 6)) || ((decide (p0.e.act.kind = 2)) && p0.e.act.volatile)) && ((decide (p1.e.act.kind = 5)) || ((decide (p1.e.act.kind = 1)) && p1.e.act.volatile))) && (decide (p0.e.act.at_ = p1.e.act.at_))) && (decide (1 ≤ p0.e.id))) && (decide (p0.e.id ≤ p1.e.rf)))
noncomputable def ref21_closure_k1 (x36 : Int) (xs49 : List (List Bool)) : Option (((List (List Bool)) × Int) ⊕ (((List (List Bool)) × Int) ⊕ (((List (List Bool)) × Int) ⊕ (List (List Bool))))) :=
  some (Sum.inl (xs49, w64 (x36 + 1)))
noncomputable def ref21_closure_l3b (x8 : Int) (xs21 : List (List Bool)) (x22 : Int) (xs35 : List (List Bool)) (x36 : Int) : Option (((List (List Bool)) × Int) ⊕ (((List (List Bool)) × Int) ⊕ (((List (List Bool)) × Int) ⊕ (List (List Bool))))) :=
  if decide (x36 < (xs21.length : Int)) then
  (ix xs35 x22).bind fun x54 =>
  (ix xs35 x22).bind fun x67 =>
  (ix x54 x36).bind fun x71 =>
  if x71 then
  (ix xs35 x22).bind fun x88 =>
  (ix x88 x36).bind fun x95 =>
  ref21_closure_k1 x36 (xs35.set (Int.toNat x22) (x88.set (Int.toNat x36) true))
  else
  (ix xs35 x22).bind fun x114 =>
  (ix x114 x8).bind fun x122 =>
  if x122 then
  (ix xs35 x8).bind fun x139 =>
  (ix x139 x36).bind fun x147 =>
  (ix xs35 x22).bind fun x162 =>
  (ix x162 x36).bind fun x169 =>
  ref21_closure_k1 x36 (xs35.set (Int.toNat x22) (x162.set (Int.toNat x36) x147))
  else
  (ix xs35 x22).bind fun x188 =>
  (ix x188 x36).bind fun x195 =>
  ref21_closure_k1 x36 (xs35.set (Int.toNat x22) (x188.set (Int.toNat x36) false))
  else
  (some (Sum.inl (xs35, w64 (x22 + 1)))).map Sum.inr
noncomputable def ref21_closure_l3 (x8 : Int) (xs21 : List (List Bool)) (x22 : Int) (xs35 : List (List Bool)) (x36 : Int) : Option (((List (List Bool)) × Int) ⊕ (((List (List Bool)) × Int) ⊕ (List (List Bool)))) := loopO (fun s => ref21_closure_l3b x8 xs21 x22 s.1 s.2) (xs35, x36)
noncomputable def ref21_closure_l2b (xs7 : List (List Bool)) (x8 : Int) (xs21 : List (List Bool)) (x22 : Int) : Option (((List (List Bool)) × Int) ⊕ (((List (List Bool)) × Int) ⊕ (List (List Bool)))) :=
  if decide (x22 < (xs7.length : Int)) then
  ref21_closure_l3 x8 xs21 x22 xs21 0
  else
  (some (Sum.inl (xs21, w64 (x8 + 1)))).map Sum.inr
noncomputable def ref21_closure_l2 (xs7 : List (List Bool)) (x8 : Int) (xs21 : List (List Bool)) (x22 : Int) : Option (((List (List Bool)) × Int) ⊕ (List (List Bool))) := loopO (fun s => ref21_closure_l2b xs7 x8 s.1 s.2) (xs21, x22)
noncomputable def ref21_closure_l1b (p0 : List (List Bool)) (xs7 : List (List Bool)) (x8 : Int) : Option (((List (List Bool)) × Int) ⊕ (List (List Bool))) :=
  if decide (x8 < (p0.length : Int)) then
  ref21_closure_l2 xs7 x8 xs7 0
  else
  (some xs7).map Sum.inr
noncomputable def ref21_closure_l1 (p0 : List (List Bool)) (xs7 : List (List Bool)) (x8 : Int) : Option (List (List Bool)) := loopO (fun s => ref21_closure_l1b p0 s.1 s.2) (xs7, x8)
noncomputable def ref21_closure (p0 : List (List Bool)) : Option (List (List Bool)) :=
  ref21_closure_l1 p0 p0 0
noncomputable def ref21_Ahead_k1 (x56 : Int) (xs72 : List (List Bool)) : Option (((List (List Bool)) × Int) ⊕ (((List (List Bool)) × Int) ⊕ (List (List Bool)))) :=
  some (Sum.inl (xs72, w64 (x56 + 1)))
noncomputable def ref21_Ahead_l2b (p0 : List Tref21_Node) (x18 : Int) (x33 : Tref21_Node) (xs55 : List (List Bool)) (x56 : Int) : Option (((List (List Bool)) × Int) ⊕ (((List (List Bool)) × Int) ⊕ (List (List Bool)))) :=
  if decide (x56 < (p0.length : Int)) then
  (ix p0 x56).bind fun x77 =>
  (ix xs55 x18).bind fun x94 =>
  if decide (x18 ≠ x56) then
  if decide (x33.e.t = x77.e.t) then
  if decide (x33.at_ < x77.at_) then
  (ix xs55 x18).bind fun x114 =>
  (ix x114 x56).bind fun x121 =>
  ref21_Ahead_k1 x56 (xs55.set (Int.toNat x18) (x114.set (Int.toNat x56) true))
  else
  (ref21_Release x33 x77).bind fun x141 =>
  (ix xs55 x18).bind fun x152 =>
  (ix x152 x56).bind fun x159 =>
  ref21_Ahead_k1 x56 (xs55.set (Int.toNat x18) (x152.set (Int.toNat x56) x141))
  else
  (ref21_Release x33 x77).bind fun x179 =>
  (ix xs55 x18).bind fun x190 =>
  (ix x190 x56).bind fun x197 =>
  ref21_Ahead_k1 x56 (xs55.set (Int.toNat x18) (x190.set (Int.toNat x56) x179))
  else
  (ix xs55 x18).bind fun x217 =>
  (ix x217 x56).bind fun x224 =>
  ref21_Ahead_k1 x56 (xs55.set (Int.toNat x18) (x217.set (Int.toNat x56) false))
  else
  (some (Sum.inl (xs55, w64 (x18 + 1)))).map Sum.inr
noncomputable def ref21_Ahead_l2 (p0 : List Tref21_Node) (x18 : Int) (x33 : Tref21_Node) (xs55 : List (List Bool)) (x56 : Int) : Option (((List (List Bool)) × Int) ⊕ (List (List Bool))) := loopO (fun s => ref21_Ahead_l2b p0 x18 x33 s.1 s.2) (xs55, x56)
noncomputable def ref21_Ahead_l1b (p0 : List Tref21_Node) (xs17 : List (List Bool)) (x18 : Int) : Option (((List (List Bool)) × Int) ⊕ (List (List Bool))) :=
  if decide (x18 < (p0.length : Int)) then
  (ix p0 x18).bind fun x33 =>
  ref21_Ahead_l2 p0 x18 x33 xs17 0
  else
  ((ref21_closure xs17).bind fun x249 =>
  some x249).map Sum.inr
noncomputable def ref21_Ahead_l1 (p0 : List Tref21_Node) (xs17 : List (List Bool)) (x18 : Int) : Option (List (List Bool)) := loopO (fun s => ref21_Ahead_l1b p0 s.1 s.2) (xs17, x18)
noncomputable def ref21_Ahead (p0 : List Tref21_Node) : Option (List (List Bool)) :=
  (ref21_matrix (p0.length : Int)).bind fun x6 =>
  ref21_Ahead_l1 p0 x6 0
noncomputable def ref21_from_k1 (x3 : Bool) : Option Bool :=
  some x3
noncomputable def ref21_from (p0 : List Tref21_Node) (p1 : Int) (p2 : Int) : Option Bool :=
  (ix p0 p2).bind fun x9 =>
  (ref21_Reads x9).bind fun x23 =>
  if x23 then
  (ix p0 p1).bind fun x33 =>
  if decide (0 < x33.e.id) then
  (ix p0 p2).bind fun x44 =>
  (ix p0 p1).bind fun x53 =>
  ref21_from_k1 (decide (x44.e.rf = x53.e.id))
  else
  ref21_from_k1 false
  else
  ref21_from_k1 false
noncomputable def ref21_Consistent_k1 (x39 : Int) : Option (Int ⊕ (Int ⊕ Bool)) :=
  some (Sum.inl (w64 (x39 + 1)))
noncomputable def ref21_Consistent_l3b (x3 : List Tref21_Node) (x13 : List (List Bool)) (x24 : Int) (x39 : Int) (x155 : Int) : Option (Int ⊕ (Int ⊕ (Int ⊕ Bool))) :=
  if decide (x155 < (x3.length : Int)) then
  (ix x13 x39).bind fun x168 =>
  (ix x168 x24).bind fun x176 =>
  (if x176 then
  (ref21_from x3 x155 x24).bind fun x253 =>
  some x253
  else
  some false).bind fun y191 =>
  (if y191 then
  (ix x13 x155).bind fun x225 =>
  (ix x225 x39).bind fun x233 =>
  some x233
  else
  some false).bind fun y201 =>
  if y201 then
  (((some false).map Sum.inr).map Sum.inr).map Sum.inr
  else
  some (Sum.inl (w64 (x155 + 1)))
  else
  (ref21_Consistent_k1 x39 ).map Sum.inr
noncomputable def ref21_Consistent_l3 (x3 : List Tref21_Node) (x13 : List (List Bool)) (x24 : Int) (x39 : Int) (x155 : Int) : Option (Int ⊕ (Int ⊕ Bool)) := loopO (fun s => ref21_Consistent_l3b x3 x13 x24 x39 s) x155
noncomputable def ref21_Consistent_k2 (x3 : List Tref21_Node) (x13 : List (List Bool)) (x24 : Int) (x39 : Int) (x56 : Bool) : Option (Int ⊕ (Int ⊕ Bool)) :=
  if x56 then
  ref21_Consistent_k1 x39 
  else
  (ref21_from x3 x39 x24).bind fun x64 =>
  (if x64 then
  (ix x13 x24).bind fun x306 =>
  (ix x306 x39).bind fun x319 =>
  some x319
  else
  some false).bind fun y72 =>
  if y72 then
  ((some false).map Sum.inr).map Sum.inr
  else
  (ix x13 x39).bind fun x93 =>
  (ix x93 x24).bind fun x106 =>
  (if x106 then
  (ix x3 x39).bind fun x287 =>
  some (decide (0 < x287.e.id))
  else
  some false).bind fun y121 =>
  (if y121 then
  (ix x3 x24).bind fun x268 =>
  some (decide (x268.e.rf = 0))
  else
  some false).bind fun y134 =>
  if y134 then
  ((some false).map Sum.inr).map Sum.inr
  else
  ref21_Consistent_l3 x3 x13 x24 x39 0
noncomputable def ref21_Consistent_l2b (x3 : List Tref21_Node) (x13 : List (List Bool)) (x24 : Int) (x39 : Int) : Option (Int ⊕ (Int ⊕ Bool)) :=
  if decide (x39 < (x3.length : Int)) then
  if decide (x24 = x39) then
  ref21_Consistent_k2 x3 x13 x24 x39 true
  else
  (ix x3 x24).bind fun x340 =>
  (ref21_Reads x340).bind fun x354 =>
  if !x354 then
  ref21_Consistent_k2 x3 x13 x24 x39 true
  else
  (ix x3 x39).bind fun x367 =>
  (ref21_Writes x367).bind fun x376 =>
  if !x376 then
  ref21_Consistent_k2 x3 x13 x24 x39 true
  else
  (ix x3 x39).bind fun x389 =>
  (ix x3 x24).bind fun x398 =>
  ref21_Consistent_k2 x3 x13 x24 x39 (decide (x389.e.act.at_ ≠ x398.e.act.at_))
  else
  (some (Sum.inl (w64 (x24 + 1)))).map Sum.inr
noncomputable def ref21_Consistent_l2 (x3 : List Tref21_Node) (x13 : List (List Bool)) (x24 : Int) (x39 : Int) : Option (Int ⊕ Bool) := loopO (fun s => ref21_Consistent_l2b x3 x13 x24 s) x39
noncomputable def ref21_Consistent_l1b (x3 : List Tref21_Node) (x13 : List (List Bool)) (x24 : Int) : Option (Int ⊕ Bool) :=
  if decide (x24 < (x3.length : Int)) then
  ref21_Consistent_l2 x3 x13 x24 0
  else
  (some true).map Sum.inr
noncomputable def ref21_Consistent_l1 (x3 : List Tref21_Node) (x13 : List (List Bool)) (x24 : Int) : Option Bool := loopO (fun s => ref21_Consistent_l1b x3 x13 s) x24
noncomputable def ref21_Consistent (p0 : List (List TEvent)) : Option Bool :=
  (ref21_Nodes p0 false).bind fun x3 =>
  (ref21_Ahead x3).bind fun x13 =>
  ref21_Consistent_l1 x3 x13 0
noncomputable def order_Run_happens_3 (p0 : List (List TEvent)) (p1 : List Torder_node) : Option (List (List Bool)) :=
  (order_join p1 [1, 5]).bind fun x14 =>
  (order_graph_closed x14).bind fun x25 =>
  some x25
noncomputable def order_Run_Racy_2_l2b (x14 : List (List Bool)) (xs25 : List Torder_node) (xs28 : List Torder_node) (x31 : Int) (x50 : Torder_node) (xs70 : List Torder_node) (x76 : Int) : Option (Int ⊕ (((List Torder_node) × (List Torder_node) × Int) ⊕ Bool)) :=
  if decide (x76 < (xs70.length : Int)) then
  (ix xs70 x76).bind fun x91 =>
  (order_syncs x50.e.act).bind fun x110 =>
  (if !x110 then
  some true
  else
  (order_syncs x91.e.act).bind fun x315 =>
  some (!x315)).bind fun y118 =>
  (if (y118 && (decide (x50.e.t ≠ x91.e.t))) && (decide (x50.e.act.at_ = x91.e.act.at_)) then
  (order_writes x50.e.act).bind fun x273 =>
  (if x273 then
  some true
  else
  (order_writes x91.e.act).bind fun x296 =>
  some x296).bind fun y281 =>
  some y281
  else
  some false).bind fun y151 =>
  (if y151 then
  (ix x14 x31).bind fun x240 =>
  (ix x240 x76).bind fun x253 =>
  some (!x253)
  else
  some false).bind fun y167 =>
  (if y167 then
  (ix x14 x76).bind fun x207 =>
  (ix x207 x31).bind fun x220 =>
  some (!x220)
  else
  some false).bind fun y181 =>
  if y181 then
  ((some true).map Sum.inr).map Sum.inr
  else
  some (Sum.inl (w64 (x76 + 1)))
  else
  (some (Sum.inl (xs25, xs28, w64 (x31 + 1)))).map Sum.inr
noncomputable def order_Run_Racy_2_l2 (x14 : List (List Bool)) (xs25 : List Torder_node) (xs28 : List Torder_node) (x31 : Int) (x50 : Torder_node) (xs70 : List Torder_node) (x76 : Int) : Option (((List Torder_node) × (List Torder_node) × Int) ⊕ Bool) := loopO (fun s => order_Run_Racy_2_l2b x14 xs25 xs28 x31 x50 xs70 s) x76
noncomputable def order_Run_Racy_2_l1b (x3 : List Torder_node) (x14 : List (List Bool)) (xs25 : List Torder_node) (xs28 : List Torder_node) (x31 : Int) : Option (((List Torder_node) × (List Torder_node) × Int) ⊕ Bool) :=
  if decide (x31 < (x3.length : Int)) then
  (ix xs28 x31).bind fun x50 =>
  (cutL xs25 0 x31).bind fun xs70 =>
  order_Run_Racy_2_l2 x14 xs25 xs28 x31 x50 xs70 0
  else
  (some false).map Sum.inr
noncomputable def order_Run_Racy_2_l1 (x3 : List Torder_node) (x14 : List (List Bool)) (xs25 : List Torder_node) (xs28 : List Torder_node) (x31 : Int) : Option Bool := loopO (fun s => order_Run_Racy_2_l1b x3 x14 s.1 s.2.1 s.2.2) (xs25, xs28, x31)
noncomputable def order_Run_Racy_2 (p0 : List (List TEvent)) : Option Bool :=
  (order_Run_nodes_2 p0).bind fun x3 =>
  (order_Run_happens_3 p0 x3).bind fun x14 =>
  order_Run_Racy_2_l1 x3 x14 x3 x3 0
noncomputable def ref21_Racy_l2b (x3 : List Tref21_Node) (x13 : List (List Bool)) (x24 : Int) (x39 : Tref21_Node) (x61 : Int) : Option (Int ⊕ (Int ⊕ Bool)) :=
  if decide (x61 < (x3.length : Int)) then
  (ix x3 x61).bind fun x77 =>
  (if ((decide (x24 ≠ x61)) && (decide (x39.e.t ≠ x77.e.t))) && (decide (x39.e.act.at_ = x77.e.act.at_)) then
  (ref21_Writes x39).bind fun x282 =>
  (if x282 then
  some true
  else
  (ref21_Writes x77).bind fun x303 =>
  some x303).bind fun y290 =>
  some y290
  else
  some false).bind fun y116 =>
  (if y116 then
  (ref21_Synced x39).bind fun x248 =>
  (if x248 then
  (ref21_Synced x77).bind fun x267 =>
  some x267
  else
  some false).bind fun y256 =>
  some (!y256)
  else
  some false).bind fun y128 =>
  (if y128 then
  (ix x13 x24).bind fun x215 =>
  (ix x215 x61).bind fun x228 =>
  some (!x228)
  else
  some false).bind fun y141 =>
  (if y141 then
  (ix x13 x61).bind fun x182 =>
  (ix x182 x24).bind fun x195 =>
  some (!x195)
  else
  some false).bind fun y155 =>
  if y155 then
  ((some true).map Sum.inr).map Sum.inr
  else
  some (Sum.inl (w64 (x61 + 1)))
  else
  (some (Sum.inl (w64 (x24 + 1)))).map Sum.inr
noncomputable def ref21_Racy_l2 (x3 : List Tref21_Node) (x13 : List (List Bool)) (x24 : Int) (x39 : Tref21_Node) (x61 : Int) : Option (Int ⊕ Bool) := loopO (fun s => ref21_Racy_l2b x3 x13 x24 x39 s) x61
noncomputable def ref21_Racy_l1b (x3 : List Tref21_Node) (x13 : List (List Bool)) (x24 : Int) : Option (Int ⊕ Bool) :=
  if decide (x24 < (x3.length : Int)) then
  (ix x3 x24).bind fun x39 =>
  ref21_Racy_l2 x3 x13 x24 x39 0
  else
  (some false).map Sum.inr
noncomputable def ref21_Racy_l1 (x3 : List Tref21_Node) (x13 : List (List Bool)) (x24 : Int) : Option Bool := loopO (fun s => ref21_Racy_l1b x3 x13 s) x24
noncomputable def ref21_Racy (p0 : List (List TEvent)) : Option Bool :=
  (ref21_Nodes p0 false).bind fun x3 =>
  (ref21_Ahead x3).bind fun x13 =>
  ref21_Racy_l1 x3 x13 0
noncomputable def law21_OrderHappens (p0 : List (List TEvent)) : Option Bool :=
  (law21_alive).bind fun x3 =>
  if !x3 then
  some false
  else
  (law21_great p0).bind fun x18 =>
  (if x18 then
  some true
  else
  (ref21_Good p0).bind fun x97 =>
  some (!x97)).bind fun y26 =>
  if y26 then
  some true
  else
  (order_Run_Consistent p0).bind fun x40 =>
  (ref21_Consistent p0).bind fun x49 =>
  (if x40 == x49 then
  (order_Run_Racy_2 p0).bind fun x72 =>
  (ref21_Racy p0).bind fun x81 =>
  some (x72 == x81)
  else
  some false).bind fun y57 =>
  some y57
end Go.Vm.GH21
