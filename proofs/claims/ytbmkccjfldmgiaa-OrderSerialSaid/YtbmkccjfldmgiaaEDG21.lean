/-
  What functions compute, as plain functions.
-/
import Derived.Test.YtbmkccjfldmgiaaESp12
set_option linter.unusedSimpArgs false
set_option linter.unusedVariables false
namespace Go.Vm.G21
open Go

def fnt46 : List Value := [.func (.func 26) #[] #[], .func (.func 27) #[] #[], .func (.func 28) #[] #[], .func (.func 29) #[] #[], .func (.func 30) #[] #[], .func (.func 54) #[] #[]]
structure TAct where
  kind : Int
  at_ : Int
  val : Int
  what : Int
  volatile : Bool
  final : Bool
def RT_TAct : RT TAct := ⟨6, fun V cs x => cs = [.int .i64 x.kind, .int .i64 x.at_, .int .i64 x.val, .int .i64 x.what, .bool x.volatile, .bool x.final], ⟨fun _ _ _ h => by rw [h]; rfl, fun _ _ _ h => by rw [h]; rfl, fun _ _ _ _ he h => h⟩⟩
structure TEvent where
  t : Int
  act : TAct
  rf : Int
  id : Int
def RT_TEvent : RT TEvent := ⟨9, fun V cs x => cs = [.int .i64 x.t, .int .i64 x.act.kind, .int .i64 x.act.at_, .int .i64 x.act.val, .int .i64 x.act.what, .bool x.act.volatile, .bool x.act.final, .int .i64 x.rf, .int .i64 x.id], ⟨fun _ _ _ h => by rw [h]; rfl, fun _ _ _ h => by rw [h]; rfl, fun _ _ _ _ he h => h⟩⟩
structure Torder_node where
  e : TEvent
  at_ : Int
def RT_Torder_node : RT Torder_node := ⟨10, fun V cs x => cs = [.int .i64 x.e.t, .int .i64 x.e.act.kind, .int .i64 x.e.act.at_, .int .i64 x.e.act.val, .int .i64 x.e.act.what, .bool x.e.act.volatile, .bool x.e.act.final, .int .i64 x.e.rf, .int .i64 x.e.id, .int .i64 x.at_], ⟨fun _ _ _ h => by rw [h]; rfl, fun _ _ _ h => by rw [h]; rfl, fun _ _ _ _ he h => h⟩⟩
structure Tref21_Node where
  e : TEvent
  at_ : Int
def RT_Tref21_Node : RT Tref21_Node := ⟨10, fun V cs x => cs = [.int .i64 x.e.t, .int .i64 x.e.act.kind, .int .i64 x.e.act.at_, .int .i64 x.e.act.val, .int .i64 x.e.act.what, .bool x.e.act.volatile, .bool x.e.act.final, .int .i64 x.e.rf, .int .i64 x.e.id, .int .i64 x.at_], ⟨fun _ _ _ h => by rw [h]; rfl, fun _ _ _ h => by rw [h]; rfl, fun _ _ _ _ he h => h⟩⟩

noncomputable def law21_w (p0 : Int) (p1 : Int) (p2 : Int) : Option TEvent :=
  some (⟨p0, (⟨2, p1, 1, 0, false, false⟩ : TAct), 0, p2⟩ : TEvent)
noncomputable def law21_r (p0 : Int) (p1 : Int) (p2 : Int) : Option TEvent :=
  some (⟨p0, (⟨1, p1, 0, 0, false, false⟩ : TAct), p2, 0⟩ : TEvent)
noncomputable def order_writes (p0 : TAct) : Option Bool :=
  some (((decide (p0.kind = 2)) || (decide (p0.kind = 5))) || (decide (p0.kind = 6)))
noncomputable def order_reads (p0 : TAct) : Option Bool :=
  some ((decide (p0.kind = 1)) || (decide (p0.kind = 5)))
noncomputable def order_every (p0 : TAct) : Option Bool :=
  some true
noncomputable def order_Run_nodes_k1 (x43 : Int) (xs58 : List Torder_node) : Option (((List Torder_node) × Int) ⊕ (((List Torder_node) × Int) ⊕ (List Torder_node))) :=
  some (Sum.inl (xs58, w64 (x43 + 1)))
noncomputable def order_Run_nodes_l2b (p0 : List (List TEvent)) (x9 : Int) (x26 : List TEvent) (xs42 : List Torder_node) (x43 : Int) : Option (((List Torder_node) × Int) ⊕ (((List Torder_node) × Int) ⊕ (List Torder_node))) :=
  if decide (x43 < (x26.length : Int)) then
  (ix p0 x9).bind fun x63 =>
  (ix x63 x43).bind fun x70 =>
  (order_writes x70.act).bind fun x92 =>
  (if x92 then
  some true
  else
  (order_reads x70.act).bind fun x156 =>
  some x156).bind fun y101 =>
  (if y101 then
  (order_every x70.act).bind fun x141 =>
  some x141
  else
  some false).bind fun y110 =>
  if y110 then
  (ap xs42 [(⟨x70, x43⟩ : Torder_node)]).bind fun xs127 =>
  order_Run_nodes_k1 x43 xs127
  else
  order_Run_nodes_k1 x43 xs42
  else
  (some (Sum.inl (xs42, w64 (x9 + 1)))).map Sum.inr
noncomputable def order_Run_nodes_l2 (p0 : List (List TEvent)) (x9 : Int) (x26 : List TEvent) (xs42 : List Torder_node) (x43 : Int) : Option (((List Torder_node) × Int) ⊕ (List Torder_node)) := loopO (fun s => order_Run_nodes_l2b p0 x9 x26 s.1 s.2) (xs42, x43)
noncomputable def order_Run_nodes_l1b (p0 : List (List TEvent)) (xs8 : List Torder_node) (x9 : Int) : Option (((List Torder_node) × Int) ⊕ (List Torder_node)) :=
  if decide (x9 < (p0.length : Int)) then
  (ix p0 x9).bind fun x26 =>
  order_Run_nodes_l2 p0 x9 x26 xs8 0
  else
  (some xs8).map Sum.inr
noncomputable def order_Run_nodes_l1 (p0 : List (List TEvent)) (xs8 : List Torder_node) (x9 : Int) : Option (List Torder_node) := loopO (fun s => order_Run_nodes_l1b p0 s.1 s.2) (xs8, x9)
noncomputable def order_Run_nodes (p0 : List (List TEvent)) : Option (List Torder_node) :=
  order_Run_nodes_l1 p0 [] 0
noncomputable def order_po (p0 : Torder_node) (p1 : Torder_node) : Option Bool :=
  some ((decide (p0.e.t = p1.e.t)) && (decide (p0.at_ < p1.at_)))
noncomputable def order_Run_Coherent_c1 (p0 : Torder_node) (p1 : Torder_node) : Option Bool :=
  (order_po p0 p1).bind fun x11 =>
  some (x11 && (decide (p0.e.act.at_ = p1.e.act.at_)))
noncomputable def order_rf (p0 : Torder_node) (p1 : Torder_node) : Option Bool :=
  (if decide (0 < p0.e.id) then
  (order_reads p1.e.act).bind fun x37 =>
  some x37
  else
  some false).bind fun y11 =>
  some (y11 && (decide (p1.e.rf = p0.e.id)))
noncomputable def order_co (p0 : Torder_node) (p1 : Torder_node) : Option Bool :=
  (order_writes p0.e.act).bind fun x11 =>
  (if x11 then
  (order_writes p1.e.act).bind fun x58 =>
  some x58
  else
  some false).bind fun y19 =>
  some ((y19 && (decide (p0.e.act.at_ = p1.e.act.at_))) && (decide (p0.e.id < p1.e.id)))
noncomputable def order_fr (p0 : Torder_node) (p1 : Torder_node) : Option Bool :=
  (order_reads p0.e.act).bind fun x11 =>
  (if x11 then
  (order_writes p1.e.act).bind fun x65 =>
  some x65
  else
  some false).bind fun y19 =>
  some (((y19 && (decide (p0.e.act.at_ = p1.e.act.at_))) && (decide (p0.e.rf < p1.e.id))) && (!(((decide (p0.e.t = p1.e.t)) && (((decide (p0.e.act.kind = p1.e.act.kind)) && ((decide (p0.e.act.at_ = p1.e.act.at_)) && ((decide (p0.e.act.val = p1.e.act.val)) && ((decide (p0.e.act.what = p1.e.act.what)) && ((p0.e.act.volatile == p1.e.act.volatile) && ((p0.e.act.final == p1.e.act.final) && true)))))) && ((decide (p0.e.rf = p1.e.rf)) && ((decide (p0.e.id = p1.e.id)) && true)))) && ((decide (p0.at_ = p1.at_)) && true))))
noncomputable def order_released (p0 : Torder_node) (p1 : Torder_node) : Option Bool :=
  some ((((((decide (p0.e.act.kind = 6)) || (p0.e.act.volatile && (decide (p0.e.act.kind = 2)))) && ((decide (p1.e.act.kind = 5)) || (p1.e.act.volatile && (decide (p1.e.act.kind = 1))))) && (decide (p0.e.act.at_ = p1.e.act.at_))) && (decide (0 < p0.e.id))) && (decide (p0.e.id ≤ p1.e.rf)))
noncomputable def order_join_c1 (p0 : Nat) (p1 : Torder_node) (p2 : Torder_node) : Option Bool :=
  if decide (p0 = 0) then
  (order_Run_Coherent_c1 p1 p2).bind fun x12 =>
  some x12
  else
  if decide (p0 = 1) then
  (order_po p1 p2).bind fun x25 =>
  some x25
  else
  if decide (p0 = 2) then
  (order_rf p1 p2).bind fun x38 =>
  some x38
  else
  if decide (p0 = 3) then
  (order_co p1 p2).bind fun x51 =>
  some x51
  else
  if decide (p0 = 4) then
  (order_fr p1 p2).bind fun x64 =>
  some x64
  else
  if decide (p0 = 5) then
  (order_released p1 p2).bind fun x77 =>
  some x77
  else
  none
noncomputable def slices_IndexFunc_l1b (p0 : List Nat) (p1_10 : Torder_node) (p1_11 : Torder_node) (x9 : Int) : Option (Int ⊕ Int) :=
  if decide (x9 < (p0.length : Int)) then
  (ix p0 x9).bind fun x22 =>
  (order_join_c1 x22 p1_10 p1_11).bind fun x40 =>
  if x40 then
  (some x9).map Sum.inr
  else
  some (Sum.inl (w64 (x9 + 1)))
  else
  (some (-1)).map Sum.inr
noncomputable def slices_IndexFunc_l1 (p0 : List Nat) (p1_10 : Torder_node) (p1_11 : Torder_node) (x9 : Int) : Option Int := loopO (fun s => slices_IndexFunc_l1b p0 p1_10 p1_11 s) x9
noncomputable def slices_IndexFunc (p0 : List Nat) (p1_10 : Torder_node) (p1_11 : Torder_node) : Option Int :=
  slices_IndexFunc_l1 p0 p1_10 p1_11 0
noncomputable def slices_ContainsFunc (p0 : List Nat) (p1_10 : Torder_node) (p1_11 : Torder_node) : Option Bool :=
  (slices_IndexFunc p0 p1_10 p1_11).bind fun x12 =>
  some (decide (0 ≤ x12))
noncomputable def order_join_k1 (x84 : Int) (xs101 : List (List Bool)) : Option (((List (List Bool)) × Int) ⊕ (((List (List Bool)) × Int) ⊕ (List (List Bool)))) :=
  some (Sum.inl (xs101, w64 (x84 + 1)))
noncomputable def order_join_l2b (p0 : List Torder_node) (p1 : List Nat) (x19 : Int) (x35 : Torder_node) (xs83 : List (List Bool)) (x84 : Int) : Option (((List (List Bool)) × Int) ⊕ (((List (List Bool)) × Int) ⊕ (List (List Bool)))) :=
  if decide (x84 < (p0.length : Int)) then
  (ix p0 x84).bind fun x106 =>
  (ix xs83 x19).bind fun x123 =>
  if decide (x19 ≠ x84) then
  (slices_ContainsFunc p1 x35 x106).bind fun x136 =>
  (ix xs83 x19).bind fun x147 =>
  (ix x147 x84).bind fun x154 =>
  order_join_k1 x84 (xs83.set (Int.toNat x19) (x147.set (Int.toNat x84) x136))
  else
  (ix xs83 x19).bind fun x178 =>
  (ix x178 x84).bind fun x185 =>
  order_join_k1 x84 (xs83.set (Int.toNat x19) (x178.set (Int.toNat x84) false))
  else
  (some (Sum.inl (xs83, w64 (x19 + 1)))).map Sum.inr
noncomputable def order_join_l2 (p0 : List Torder_node) (p1 : List Nat) (x19 : Int) (x35 : Torder_node) (xs83 : List (List Bool)) (x84 : Int) : Option (((List (List Bool)) × Int) ⊕ (List (List Bool))) := loopO (fun s => order_join_l2b p0 p1 x19 x35 s.1 s.2) (xs83, x84)
noncomputable def order_join_l1b (p0 : List Torder_node) (p1 : List Nat) (xs18 : List (List Bool)) (x19 : Int) : Option (((List (List Bool)) × Int) ⊕ (List (List Bool))) :=
  if decide (x19 < (p0.length : Int)) then
  (ix p0 x19).bind fun x35 =>
  (mk (p0.length : Int) false).bind fun xs57 =>
  (ix xs18 x19).bind fun x65 =>
  order_join_l2 p0 p1 x19 x35 (xs18.set (Int.toNat x19) xs57) 0
  else
  (some xs18).map Sum.inr
noncomputable def order_join_l1 (p0 : List Torder_node) (p1 : List Nat) (xs18 : List (List Bool)) (x19 : Int) : Option (List (List Bool)) := loopO (fun s => order_join_l1b p0 p1 s.1 s.2) (xs18, x19)
noncomputable def order_join (p0 : List Torder_node) (p1 : List Nat) : Option (List (List Bool)) :=
  (mk (p0.length : Int) ([] : List Bool)).bind fun xs8 =>
  order_join_l1 p0 p1 xs8 0
noncomputable def order_graph_visit_l1b (rec_ : (List (List Bool)) → Int → (List Int) → Option (Bool × (List Int))) (p0 : List (List Bool)) (p1 : Int) (x23 : List Bool) (xs37 : List Int) (x38 : Int) : Option (((List Int) × Int) ⊕ (Bool × (List Int))) :=
  if decide (x38 < (x23.length : Int)) then
  (ix p0 p1).bind fun x51 =>
  (ix x51 x38).bind fun x58 =>
  (if x58 then
  (ix xs37 x38).bind fun x104 =>
  (if decide (x104 = 1) then
  some (true, xs37)
  else
  (ix xs37 x38).bind fun x135 =>
  (if decide (x135 = 0) then
  (rec_ p0 x38 xs37).bind fun x159 =>
  some (x159.1, x159.2)
  else
  some (false, xs37)).bind fun y144 =>
  some (y144.1, y144.2)).bind fun y113 =>
  some (y113.1, y113.2)
  else
  some (false, xs37)).bind fun y73 =>
  if y73.1 then
  (some (true, y73.2)).map Sum.inr
  else
  some (Sum.inl (y73.2, w64 (x38 + 1)))
  else
  ((ix xs37 p1).bind fun x174 =>
  some (false, xs37.set (Int.toNat p1) 2)).map Sum.inr
noncomputable def order_graph_visit_l1 (rec_ : (List (List Bool)) → Int → (List Int) → Option (Bool × (List Int))) (p0 : List (List Bool)) (p1 : Int) (x23 : List Bool) (xs37 : List Int) (x38 : Int) : Option (Bool × (List Int)) := loopO (fun s => order_graph_visit_l1b rec_ p0 p1 x23 s.1 s.2) (xs37, x38)
noncomputable def order_graph_visit_F (rec_ : (List (List Bool)) → Int → (List Int) → Option (Bool × (List Int))) (p0 : List (List Bool)) (p1 : Int) (p2 : List Int) : Option (Bool × (List Int)) :=
  (ix p2 p1).bind fun x6 =>
  (ix p0 p1).bind fun x23 =>
  order_graph_visit_l1 rec_ p0 p1 x23 (p2.set (Int.toNat p1) 1) 0
noncomputable def order_graph_visit (p0 : List (List Bool)) (p1 : Int) (p2 : List Int) : Option (Bool × (List Int)) := recO (fun rec_ a => order_graph_visit_F (fun p0 p1 p2 => rec_ (p0, p1, p2)) a.1 a.2.1 a.2.2) (p0, p1, p2)
noncomputable def order_graph_cyclic_l1b (p0 : List (List Bool)) (xs12 : List Int) (x13 : Int) : Option (((List Int) × Int) ⊕ Bool) :=
  if decide (x13 < (p0.length : Int)) then
  (ix xs12 x13).bind fun x28 =>
  (if decide (x28 = 0) then
  (order_graph_visit p0 x13 xs12).bind fun x62 =>
  some (x62.1, x62.2)
  else
  some (false, xs12)).bind fun y42 =>
  if y42.1 then
  (some true).map Sum.inr
  else
  some (Sum.inl (y42.2, w64 (x13 + 1)))
  else
  (some false).map Sum.inr
noncomputable def order_graph_cyclic_l1 (p0 : List (List Bool)) (xs12 : List Int) (x13 : Int) : Option Bool := loopO (fun s => order_graph_cyclic_l1b p0 s.1 s.2) (xs12, x13)
noncomputable def order_graph_cyclic (p0 : List (List Bool)) : Option Bool :=
  (mk (p0.length : Int) 0).bind fun xs4 =>
  order_graph_cyclic_l1 p0 xs4 0
noncomputable def order_Run_Serial (p0 : List (List TEvent)) : Option Bool :=
  (order_Run_nodes p0).bind fun x4 =>
  (order_join x4 [1, 2, 3, 4]).bind fun x20 =>
  (order_graph_cyclic x20).bind fun x31 =>
  some (!x31)
noncomputable def order_Run_Coherent (p0 : List (List TEvent)) : Option Bool :=
  (order_Run_nodes p0).bind fun x4 =>
  (order_join x4 [0, 2, 3, 4]).bind fun x20 =>
  (order_graph_cyclic x20).bind fun x31 =>
  some (!x31)
noncomputable def order_graph_closed_k1 (x115 : Int) (xs128 : List (List Bool)) (xs131 : List Int) : Option (((List (List Bool)) × (List Int) × Int) ⊕ (((List (List Bool)) × (List Int)) ⊕ (((List (List Bool)) × Int) ⊕ (List (List Bool))))) :=
  some (Sum.inl (xs128, xs131, w64 (x115 + 1)))
noncomputable def order_graph_closed_l3b (p0 : List (List Bool)) (x18 : Int) (x83 : Int) (x97 : List Bool) (xs111 : List (List Bool)) (xs114 : List Int) (x115 : Int) : Option (((List (List Bool)) × (List Int) × Int) ⊕ (((List (List Bool)) × (List Int)) ⊕ (((List (List Bool)) × Int) ⊕ (List (List Bool))))) :=
  if decide (x115 < (x97.length : Int)) then
  (ix p0 x83).bind fun x136 =>
  (ix x136 x115).bind fun x143 =>
  (if x143 then
  (ix xs111 x18).bind fun x217 =>
  (ix x217 x115).bind fun x225 =>
  some (!x225)
  else
  some false).bind fun y158 =>
  if y158 then
  (ix xs111 x18).bind fun x174 =>
  (ix x174 x115).bind fun x182 =>
  (ap xs114 [x115]).bind fun xs204 =>
  order_graph_closed_k1 x115 (xs111.set (Int.toNat x18) (x174.set (Int.toNat x115) true)) xs204
  else
  order_graph_closed_k1 x115 xs111 xs114
  else
  ((cutL xs114 1 (xs114.length : Int)).bind fun xs245 =>
  some (Sum.inl (xs111, xs245))).map Sum.inr
noncomputable def order_graph_closed_l3 (p0 : List (List Bool)) (x18 : Int) (x83 : Int) (x97 : List Bool) (xs111 : List (List Bool)) (xs114 : List Int) (x115 : Int) : Option (((List (List Bool)) × (List Int)) ⊕ (((List (List Bool)) × Int) ⊕ (List (List Bool)))) := loopO (fun s => order_graph_closed_l3b p0 x18 x83 x97 s.1 s.2.1 s.2.2) (xs111, xs114, x115)
noncomputable def order_graph_closed_l2b (p0 : List (List Bool)) (x18 : Int) (xs64 : List (List Bool)) (xs67 : List Int) : Option (((List (List Bool)) × (List Int)) ⊕ (((List (List Bool)) × Int) ⊕ (List (List Bool)))) :=
  if decide (0 < (xs67.length : Int)) then
  (ix xs67 0).bind fun x83 =>
  (ix p0 x83).bind fun x97 =>
  order_graph_closed_l3 p0 x18 x83 x97 xs64 xs67 0
  else
  (some (Sum.inl (xs64, w64 (x18 + 1)))).map Sum.inr
noncomputable def order_graph_closed_l2 (p0 : List (List Bool)) (x18 : Int) (xs64 : List (List Bool)) (xs67 : List Int) : Option (((List (List Bool)) × Int) ⊕ (List (List Bool))) := loopO (fun s => order_graph_closed_l2b p0 x18 s.1 s.2) (xs64, xs67)
noncomputable def order_graph_closed_l1b (p0 : List (List Bool)) (xs17 : List (List Bool)) (x18 : Int) : Option (((List (List Bool)) × Int) ⊕ (List (List Bool))) :=
  if decide (x18 < (p0.length : Int)) then
  (mk (p0.length : Int) false).bind fun xs33 =>
  (ix xs17 x18).bind fun x41 =>
  order_graph_closed_l2 p0 x18 (xs17.set (Int.toNat x18) xs33) [x18]
  else
  (some xs17).map Sum.inr
noncomputable def order_graph_closed_l1 (p0 : List (List Bool)) (xs17 : List (List Bool)) (x18 : Int) : Option (List (List Bool)) := loopO (fun s => order_graph_closed_l1b p0 s.1 s.2) (xs17, x18)
noncomputable def order_graph_closed (p0 : List (List Bool)) : Option (List (List Bool)) :=
  (mk (p0.length : Int) ([] : List Bool)).bind fun xs7 =>
  order_graph_closed_l1 p0 xs7 0
noncomputable def order_Run_happens (p0 : List (List TEvent)) (p1 : List Torder_node) : Option (List (List Bool)) :=
  (order_join p1 [1, 5]).bind fun x15 =>
  (order_graph_closed x15).bind fun x26 =>
  some x26
noncomputable def order_syncs (p0 : TAct) : Option Bool :=
  some (((p0.volatile && ((decide (p0.kind = 1)) || (decide (p0.kind = 2)))) || (decide (p0.kind = 5))) || (decide (p0.kind = 6)))
noncomputable def order_Run_Racy_l2b (x15 : List (List Bool)) (xs26 : List Torder_node) (xs29 : List Torder_node) (x32 : Int) (x53 : Torder_node) (xs73 : List Torder_node) (x79 : Int) : Option (Int ⊕ (((List Torder_node) × (List Torder_node) × Int) ⊕ Bool)) :=
  if decide (x79 < (xs73.length : Int)) then
  (ix xs73 x79).bind fun x95 =>
  (order_syncs x53.e.act).bind fun x114 =>
  (if !x114 then
  some true
  else
  (order_syncs x95.e.act).bind fun x319 =>
  some (!x319)).bind fun y122 =>
  (if (y122 && (decide (x53.e.t ≠ x95.e.t))) && (decide (x53.e.act.at_ = x95.e.act.at_)) then
  (order_writes x53.e.act).bind fun x277 =>
  (if x277 then
  some true
  else
  (order_writes x95.e.act).bind fun x300 =>
  some x300).bind fun y285 =>
  some y285
  else
  some false).bind fun y155 =>
  (if y155 then
  (ix x15 x32).bind fun x244 =>
  (ix x244 x79).bind fun x257 =>
  some (!x257)
  else
  some false).bind fun y171 =>
  (if y171 then
  (ix x15 x79).bind fun x211 =>
  (ix x211 x32).bind fun x224 =>
  some (!x224)
  else
  some false).bind fun y185 =>
  if y185 then
  ((some true).map Sum.inr).map Sum.inr
  else
  some (Sum.inl (w64 (x79 + 1)))
  else
  (some (Sum.inl (xs26, xs29, w64 (x32 + 1)))).map Sum.inr
noncomputable def order_Run_Racy_l2 (x15 : List (List Bool)) (xs26 : List Torder_node) (xs29 : List Torder_node) (x32 : Int) (x53 : Torder_node) (xs73 : List Torder_node) (x79 : Int) : Option (((List Torder_node) × (List Torder_node) × Int) ⊕ Bool) := loopO (fun s => order_Run_Racy_l2b x15 xs26 xs29 x32 x53 xs73 s) x79
noncomputable def order_Run_Racy_l1b (x4 : List Torder_node) (x15 : List (List Bool)) (xs26 : List Torder_node) (xs29 : List Torder_node) (x32 : Int) : Option (((List Torder_node) × (List Torder_node) × Int) ⊕ Bool) :=
  if decide (x32 < (x4.length : Int)) then
  (ix xs29 x32).bind fun x53 =>
  (cutL xs26 0 x32).bind fun xs73 =>
  order_Run_Racy_l2 x15 xs26 xs29 x32 x53 xs73 0
  else
  (some false).map Sum.inr
noncomputable def order_Run_Racy_l1 (x4 : List Torder_node) (x15 : List (List Bool)) (xs26 : List Torder_node) (xs29 : List Torder_node) (x32 : Int) : Option Bool := loopO (fun s => order_Run_Racy_l1b x4 x15 s.1 s.2.1 s.2.2) (xs26, xs29, x32)
noncomputable def order_Run_Racy (p0 : List (List TEvent)) : Option Bool :=
  (order_Run_nodes p0).bind fun x4 =>
  (order_Run_happens p0 x4).bind fun x15 =>
  order_Run_Racy_l1 x4 x15 x4 x4 0
noncomputable def law21_alive : Option Bool :=
  (law21_w 0 8 1).bind fun x1 =>
  (law21_r 0 16 0).bind fun x9 =>
  (law21_w 1 16 2).bind fun x22 =>
  (law21_r 1 8 0).bind fun x30 =>
  (order_Run_Serial ([[x1, x9], [x22, x30]])).bind fun x49 =>
  (if !x49 then
  (order_Run_Coherent ([[x1, x9], [x22, x30]])).bind fun x91 =>
  some x91
  else
  some false).bind fun y57 =>
  (if y57 then
  (order_Run_Racy ([[x1, x9], [x22, x30]])).bind fun x77 =>
  some x77
  else
  some false).bind fun y65 =>
  some y65
noncomputable def law21_great_l1b (p0 : List (List TEvent)) (x3 : Int) (x4 : Int) : Option ((Int × Int) ⊕ Bool) :=
  if decide (x4 < (p0.length : Int)) then
  (ix p0 x4).bind fun x17 =>
  some (Sum.inl (w64 (x3 + (x17.length : Int)), w64 (x4 + 1)))
  else
  (some ((decide (5 < (p0.length : Int))) || (decide (24 < x3)))).map Sum.inr
noncomputable def law21_great_l1 (p0 : List (List TEvent)) (x3 : Int) (x4 : Int) : Option Bool := loopO (fun s => law21_great_l1b p0 s.1 s.2) (x3, x4)
noncomputable def law21_great (p0 : List (List TEvent)) : Option Bool :=
  law21_great_l1 p0 0 0
noncomputable def ref21_Good_l2b (x9 : Int) (x22 : List TEvent) (xs35 : List (Int × Bool)) (x36 : Int) : Option (((List (Int × Bool)) × Int) ⊕ (((List (Int × Bool)) × Int) ⊕ Bool)) :=
  if decide (x36 < (x22.length : Int)) then
  (ix x22 x36).bind fun x49 =>
  if ((decide (x49.t ≠ x9)) || (decide (x49.rf < 0))) || (decide (x49.id < 0)) then
  ((some false).map Sum.inr).map Sum.inr
  else
  if (decide (0 < x49.id)) && ((mG xs35 x49.id).getD false) then
  ((some false).map Sum.inr).map Sum.inr
  else
  some (Sum.inl (mS xs35 x49.id true, w64 (x36 + 1)))
  else
  (some (Sum.inl (xs35, w64 (x9 + 1)))).map Sum.inr
noncomputable def ref21_Good_l2 (x9 : Int) (x22 : List TEvent) (xs35 : List (Int × Bool)) (x36 : Int) : Option (((List (Int × Bool)) × Int) ⊕ Bool) := loopO (fun s => ref21_Good_l2b x9 x22 s.1 s.2) (xs35, x36)
noncomputable def ref21_Good_l1b (p0 : List (List TEvent)) (xs8 : List (Int × Bool)) (x9 : Int) : Option (((List (Int × Bool)) × Int) ⊕ Bool) :=
  if decide (x9 < (p0.length : Int)) then
  (ix p0 x9).bind fun x22 =>
  ref21_Good_l2 x9 x22 xs8 0
  else
  (some true).map Sum.inr
noncomputable def ref21_Good_l1 (p0 : List (List TEvent)) (xs8 : List (Int × Bool)) (x9 : Int) : Option Bool := loopO (fun s => ref21_Good_l1b p0 s.1 s.2) (xs8, x9)
noncomputable def ref21_Good (p0 : List (List TEvent)) : Option Bool :=
  ref21_Good_l1 p0 [] 0
noncomputable def order_Run_nodes_2_k1 (x39 : Int) (xs54 : List Torder_node) : Option (((List Torder_node) × Int) ⊕ (((List Torder_node) × Int) ⊕ (List Torder_node))) :=
  some (Sum.inl (xs54, w64 (x39 + 1)))
noncomputable def order_Run_nodes_2_l2b (x8 : Int) (x23 : List TEvent) (xs38 : List Torder_node) (x39 : Int) : Option (((List Torder_node) × Int) ⊕ (((List Torder_node) × Int) ⊕ (List Torder_node))) :=
  if decide (x39 < (x23.length : Int)) then
  (ix x23 x39).bind fun x59 =>
  (order_writes x59.act).bind fun x78 =>
  (if x78 then
  some true
  else
  (order_reads x59.act).bind fun x141 =>
  some x141).bind fun y86 =>
  (if y86 then
  (order_every x59.act).bind fun x126 =>
  some x126
  else
  some false).bind fun y95 =>
  if y95 then
  (ap xs38 [(⟨x59, x39⟩ : Torder_node)]).bind fun xs112 =>
  order_Run_nodes_2_k1 x39 xs112
  else
  order_Run_nodes_2_k1 x39 xs38
  else
  (some (Sum.inl (xs38, w64 (x8 + 1)))).map Sum.inr
noncomputable def order_Run_nodes_2_l2 (x8 : Int) (x23 : List TEvent) (xs38 : List Torder_node) (x39 : Int) : Option (((List Torder_node) × Int) ⊕ (List Torder_node)) := loopO (fun s => order_Run_nodes_2_l2b x8 x23 s.1 s.2) (xs38, x39)
noncomputable def order_Run_nodes_2_l1b (p0 : List (List TEvent)) (xs7 : List Torder_node) (x8 : Int) : Option (((List Torder_node) × Int) ⊕ (List Torder_node)) :=
  if decide (x8 < (p0.length : Int)) then
  (ix p0 x8).bind fun x23 =>
  order_Run_nodes_2_l2 x8 x23 xs7 0
  else
  (some xs7).map Sum.inr
noncomputable def order_Run_nodes_2_l1 (p0 : List (List TEvent)) (xs7 : List Torder_node) (x8 : Int) : Option (List Torder_node) := loopO (fun s => order_Run_nodes_2_l1b p0 s.1 s.2) (xs7, x8)
noncomputable def order_Run_nodes_2 (p0 : List (List TEvent)) : Option (List Torder_node) :=
  order_Run_nodes_2_l1 p0 [] 0
noncomputable def order_Run_Coherent_2 (p0 : List (List TEvent)) : Option Bool :=
  (order_Run_nodes_2 p0).bind fun x3 =>
  (order_join x3 [0, 2, 3, 4]).bind fun x19 =>
  (order_graph_cyclic x19).bind fun x30 =>
  some (!x30)
noncomputable def ref21_Reads (p0 : Tref21_Node) : Option Bool :=
  some ((decide (p0.e.act.kind = 1)) || (decide (p0.e.act.kind = 5)))
noncomputable def ref21_Writes (p0 : Tref21_Node) : Option Bool :=
  some (((decide (p0.e.act.kind = 2)) || (decide (p0.e.act.kind = 5))) || (decide (p0.e.act.kind = 6)))
noncomputable def ref21_Synced (p0 : Tref21_Node) : Option Bool :=
  some (((decide (p0.e.act.kind = 5)) || (decide (p0.e.act.kind = 6))) || (p0.e.act.volatile && ((decide (p0.e.act.kind = 1)) || (decide (p0.e.act.kind = 2)))))
noncomputable def ref21_Nodes_k1 (x39 : Int) (xs54 : List Tref21_Node) : Option (((List Tref21_Node) × Int) ⊕ (((List Tref21_Node) × Int) ⊕ (List Tref21_Node))) :=
  some (Sum.inl (xs54, w64 (x39 + 1)))
noncomputable def ref21_Nodes_l2b (p1 : Bool) (x8 : Int) (x23 : List TEvent) (xs38 : List Tref21_Node) (x39 : Int) : Option (((List Tref21_Node) × Int) ⊕ (((List Tref21_Node) × Int) ⊕ (List Tref21_Node))) :=
  if decide (x39 < (x23.length : Int)) then
  (ix x23 x39).bind fun x59 =>
  (ref21_Reads (⟨x59, x39⟩ : Tref21_Node)).bind fun x86 =>
  (if x86 then
  some true
  else
  (ref21_Writes (⟨x59, x39⟩ : Tref21_Node)).bind fun x167 =>
  some x167).bind fun y94 =>
  (if y94 then
  (if !p1 then
  some true
  else
  (ref21_Synced (⟨x59, x39⟩ : Tref21_Node)).bind fun x152 =>
  some x152).bind fun y137 =>
  some y137
  else
  some false).bind fun y102 =>
  if y102 then
  (ap xs38 [(⟨x59, x39⟩ : Tref21_Node)]).bind fun xs121 =>
  ref21_Nodes_k1 x39 xs121
  else
  ref21_Nodes_k1 x39 xs38
  else
  (some (Sum.inl (xs38, w64 (x8 + 1)))).map Sum.inr
noncomputable def ref21_Nodes_l2 (p1 : Bool) (x8 : Int) (x23 : List TEvent) (xs38 : List Tref21_Node) (x39 : Int) : Option (((List Tref21_Node) × Int) ⊕ (List Tref21_Node)) := loopO (fun s => ref21_Nodes_l2b p1 x8 x23 s.1 s.2) (xs38, x39)
noncomputable def ref21_Nodes_l1b (p0 : List (List TEvent)) (p1 : Bool) (xs7 : List Tref21_Node) (x8 : Int) : Option (((List Tref21_Node) × Int) ⊕ (List Tref21_Node)) :=
  if decide (x8 < (p0.length : Int)) then
  (ix p0 x8).bind fun x23 =>
  ref21_Nodes_l2 p1 x8 x23 xs7 0
  else
  (some xs7).map Sum.inr
noncomputable def ref21_Nodes_l1 (p0 : List (List TEvent)) (p1 : Bool) (xs7 : List Tref21_Node) (x8 : Int) : Option (List Tref21_Node) := loopO (fun s => ref21_Nodes_l1b p0 p1 s.1 s.2) (xs7, x8)
noncomputable def ref21_Nodes (p0 : List (List TEvent)) (p1 : Bool) : Option (List Tref21_Node) :=
  ref21_Nodes_l1 p0 p1 [] 0
noncomputable def ref21_matrix_l1b (p0 : Int) (xs4 : List (List Bool)) (xs14 : List (List Bool)) (x15 : Int) : Option (((List (List Bool)) × Int) ⊕ (List (List Bool))) :=
  if decide (x15 < (xs4.length : Int)) then
  (mk p0 false).bind fun xs28 =>
  (ix xs14 x15).bind fun x36 =>
  some (Sum.inl (xs14.set (Int.toNat x15) xs28, w64 (x15 + 1)))
  else
  (some xs14).map Sum.inr
noncomputable def ref21_matrix_l1 (p0 : Int) (xs4 : List (List Bool)) (xs14 : List (List Bool)) (x15 : Int) : Option (List (List Bool)) := loopO (fun s => ref21_matrix_l1b p0 xs4 s.1 s.2) (xs14, x15)
noncomputable def ref21_matrix (p0 : Int) : Option (List (List Bool)) :=
  (mk p0 ([] : List Bool)).bind fun xs4 =>
  ref21_matrix_l1 p0 xs4 xs4 0
noncomputable def ref21_Way (p0 : Tref21_Node) (p1 : Tref21_Node) (p2 : Bool) : Option Bool :=
  if ((decide (p0.e.t = p1.e.t)) && (decide (p0.at_ < p1.at_))) && ((decide (p0.e.act.at_ = p1.e.act.at_)) || (!p2)) then
  some true
  else
  (ref21_Reads p1).bind fun x33 =>
  if (x33 && (decide (0 < p0.e.id))) && (decide (p1.e.rf = p0.e.id)) then
  some true
  else
  (ref21_Writes p0).bind fun x64 =>
  (if x64 then
  (ref21_Writes p1).bind fun x159 =>
  some x159
  else
  some false).bind fun y72 =>
  if (y72 && (decide (p0.e.act.at_ = p1.e.act.at_))) && (decide (p0.e.id < p1.e.id)) then
  some true
  else
  (ref21_Reads p0).bind fun x100 =>
  (if x100 then
  (ref21_Writes p1).bind fun x144 =>
  some x144
  else
  some false).bind fun y108 =>
  some (((y108 && (decide (p0.e.act.at_ = p1.e.act.at_))) && (decide (p0.e.rf < p1.e.id))) && (!(((decide (p0.e.t = p1.e.t)) && (((decide (p0.e.act.kind = p1.e.act.kind)) && ((decide (p0.e.act.at_ = p1.e.act.at_)) && ((decide (p0.e.act.val = p1.e.act.val)) && ((decide (p0.e.act.what = p1.e.act.what)) && ((p0.e.act.volatile == p1.e.act.volatile) && ((p0.e.act.final == p1.e.act.final) && true)))))) && ((decide (p0.e.rf = p1.e.rf)) && ((decide (p0.e.id = p1.e.id)) && true)))) && ((decide (p0.at_ = p1.at_)) && true))))
noncomputable def ref21_closure_k1 (x36 : Int) (xs49 : List (List Bool)) : Option (((List (List Bool)) × Int) ⊕ (((List (List Bool)) × Int) ⊕ (((List (List Bool)) × Int) ⊕ (List (List Bool))))) :=
  some (Sum.inl (xs49, w64 (x36 + 1)))
noncomputable def ref21_closure_l3b (x8 : Int) (xs21 : List (List Bool)) (x22 : Int) (xs35 : List (List Bool)) (x36 : Int) : Option (((List (List Bool)) × Int) ⊕ (((List (List Bool)) × Int) ⊕ (((List (List Bool)) × Int) ⊕ (List (List Bool))))) :=
  if decide (x36 < (xs21.length : Int)) then
  (ix xs35 x22).bind fun x54 =>
  (ix xs35 x22).bind fun x67 =>
  (ix x54 x36).bind fun x71 =>
  if x71 then
  (ix xs35 x22).bind fun x88 =>
  (ix x88 x36).bind fun x95 =>
  ref21_closure_k1 x36 (xs35.set (Int.toNat x22) (x88.set (Int.toNat x36) true))
  else
  (ix xs35 x22).bind fun x114 =>
  (ix x114 x8).bind fun x122 =>
  if x122 then
  (ix xs35 x8).bind fun x139 =>
  (ix x139 x36).bind fun x147 =>
  (ix xs35 x22).bind fun x162 =>
  (ix x162 x36).bind fun x169 =>
  ref21_closure_k1 x36 (xs35.set (Int.toNat x22) (x162.set (Int.toNat x36) x147))
  else
  (ix xs35 x22).bind fun x188 =>
  (ix x188 x36).bind fun x195 =>
  ref21_closure_k1 x36 (xs35.set (Int.toNat x22) (x188.set (Int.toNat x36) false))
  else
  (some (Sum.inl (xs35, w64 (x22 + 1)))).map Sum.inr
noncomputable def ref21_closure_l3 (x8 : Int) (xs21 : List (List Bool)) (x22 : Int) (xs35 : List (List Bool)) (x36 : Int) : Option (((List (List Bool)) × Int) ⊕ (((List (List Bool)) × Int) ⊕ (List (List Bool)))) := loopO (fun s => ref21_closure_l3b x8 xs21 x22 s.1 s.2) (xs35, x36)
noncomputable def ref21_closure_l2b (xs7 : List (List Bool)) (x8 : Int) (xs21 : List (List Bool)) (x22 : Int) : Option (((List (List Bool)) × Int) ⊕ (((List (List Bool)) × Int) ⊕ (List (List Bool)))) :=
  if decide (x22 < (xs7.length : Int)) then
  ref21_closure_l3 x8 xs21 x22 xs21 0
  else
  (some (Sum.inl (xs21, w64 (x8 + 1)))).map Sum.inr
noncomputable def ref21_closure_l2 (xs7 : List (List Bool)) (x8 : Int) (xs21 : List (List Bool)) (x22 : Int) : Option (((List (List Bool)) × Int) ⊕ (List (List Bool))) := loopO (fun s => ref21_closure_l2b xs7 x8 s.1 s.2) (xs21, x22)
noncomputable def ref21_closure_l1b (p0 : List (List Bool)) (xs7 : List (List Bool)) (x8 : Int) : Option (((List (List Bool)) × Int) ⊕ (List (List Bool))) :=
  if decide (x8 < (p0.length : Int)) then
  ref21_closure_l2 xs7 x8 xs7 0
  else
  (some xs7).map Sum.inr
noncomputable def ref21_closure_l1 (p0 : List (List Bool)) (xs7 : List (List Bool)) (x8 : Int) : Option (List (List Bool)) := loopO (fun s => ref21_closure_l1b p0 s.1 s.2) (xs7, x8)
noncomputable def ref21_closure (p0 : List (List Bool)) : Option (List (List Bool)) :=
  ref21_closure_l1 p0 p0 0
noncomputable def ref21_Acyclic_k1 (x41 : Int) (xs54 : List (List Bool)) : Option (((List (List Bool)) × Int) ⊕ (((List (List Bool)) × Int) ⊕ Bool)) :=
  some (Sum.inl (xs54, w64 (x41 + 1)))
noncomputable def ref21_Acyclic_l2b (p2 : Bool) (x3 : List Tref21_Node) (x25 : Int) (xs40 : List (List Bool)) (x41 : Int) : Option (((List (List Bool)) × Int) ⊕ (((List (List Bool)) × Int) ⊕ Bool)) :=
  if decide (x41 < (x3.length : Int)) then
  (ix xs40 x25).bind fun x59 =>
  if decide (x25 ≠ x41) then
  (ix x3 x25).bind fun x75 =>
  (ix x3 x41).bind fun x89 =>
  (ref21_Way x75 x89 p2).bind fun x98 =>
  (ix xs40 x25).bind fun x109 =>
  (ix x109 x41).bind fun x116 =>
  ref21_Acyclic_k1 x41 (xs40.set (Int.toNat x25) (x109.set (Int.toNat x41) x98))
  else
  (ix xs40 x25).bind fun x135 =>
  (ix x135 x41).bind fun x142 =>
  ref21_Acyclic_k1 x41 (xs40.set (Int.toNat x25) (x135.set (Int.toNat x41) false))
  else
  (some (Sum.inl (xs40, w64 (x25 + 1)))).map Sum.inr
noncomputable def ref21_Acyclic_l2 (p2 : Bool) (x3 : List Tref21_Node) (x25 : Int) (xs40 : List (List Bool)) (x41 : Int) : Option (((List (List Bool)) × Int) ⊕ Bool) := loopO (fun s => ref21_Acyclic_l2b p2 x3 x25 s.1 s.2) (xs40, x41)
noncomputable def ref21_Acyclic_l3b (x165 : List (List Bool)) (x176 : Int) : Option (Int ⊕ Bool) :=
  if decide (x176 < (x165.length : Int)) then
  (ix x165 x176).bind fun x190 =>
  (ix x190 x176).bind fun x203 =>
  if x203 then
  (some false).map Sum.inr
  else
  some (Sum.inl (w64 (x176 + 1)))
  else
  (some true).map Sum.inr
noncomputable def ref21_Acyclic_l3 (x165 : List (List Bool)) (x176 : Int) : Option Bool := loopO (fun s => ref21_Acyclic_l3b x165 s) x176
noncomputable def ref21_Acyclic_l1b (p2 : Bool) (x3 : List Tref21_Node) (xs24 : List (List Bool)) (x25 : Int) : Option (((List (List Bool)) × Int) ⊕ Bool) :=
  if decide (x25 < (x3.length : Int)) then
  ref21_Acyclic_l2 p2 x3 x25 xs24 0
  else
  ((ref21_closure xs24).bind fun x165 =>
  ref21_Acyclic_l3 x165 0).map Sum.inr
noncomputable def ref21_Acyclic_l1 (p2 : Bool) (x3 : List Tref21_Node) (xs24 : List (List Bool)) (x25 : Int) : Option Bool := loopO (fun s => ref21_Acyclic_l1b p2 x3 s.1 s.2) (xs24, x25)
noncomputable def ref21_Acyclic (p0 : List (List TEvent)) (p1 : Bool) (p2 : Bool) : Option Bool :=
  (ref21_Nodes p0 p1).bind fun x3 =>
  (ref21_matrix (x3.length : Int)).bind fun x13 =>
  ref21_Acyclic_l1 p2 x3 x13 0
noncomputable def order_Run_nodes_3_k1 (x39 : Int) (xs54 : List Torder_node) : Option (((List Torder_node) × Int) ⊕ (((List Torder_node) × Int) ⊕ (List Torder_node))) :=
  some (Sum.inl (xs54, w64 (x39 + 1)))
noncomputable def order_Run_nodes_3_l2b (x8 : Int) (x23 : List TEvent) (xs38 : List Torder_node) (x39 : Int) : Option (((List Torder_node) × Int) ⊕ (((List Torder_node) × Int) ⊕ (List Torder_node))) :=
  if decide (x39 < (x23.length : Int)) then
  (ix x23 x39).bind fun x59 =>
  (order_writes x59.act).bind fun x78 =>
  (if x78 then
  some true
  else
  (order_reads x59.act).bind fun x141 =>
  some x141).bind fun y86 =>
  (if y86 then
  (order_syncs x59.act).bind fun x126 =>
  some x126
  else
  some false).bind fun y95 =>
  if y95 then
  (ap xs38 [(⟨x59, x39⟩ : Torder_node)]).bind fun xs112 =>
  order_Run_nodes_3_k1 x39 xs112
  else
  order_Run_nodes_3_k1 x39 xs38
  else
  (some (Sum.inl (xs38, w64 (x8 + 1)))).map Sum.inr
noncomputable def order_Run_nodes_3_l2 (x8 : Int) (x23 : List TEvent) (xs38 : List Torder_node) (x39 : Int) : Option (((List Torder_node) × Int) ⊕ (List Torder_node)) := loopO (fun s => order_Run_nodes_3_l2b x8 x23 s.1 s.2) (xs38, x39)
noncomputable def order_Run_nodes_3_l1b (p0 : List (List TEvent)) (xs7 : List Torder_node) (x8 : Int) : Option (((List Torder_node) × Int) ⊕ (List Torder_node)) :=
  if decide (x8 < (p0.length : Int)) then
  (ix p0 x8).bind fun x23 =>
  order_Run_nodes_3_l2 x8 x23 xs7 0
  else
  (some xs7).map Sum.inr
noncomputable def order_Run_nodes_3_l1 (p0 : List (List TEvent)) (xs7 : List Torder_node) (x8 : Int) : Option (List Torder_node) := loopO (fun s => order_Run_nodes_3_l1b p0 s.1 s.2) (xs7, x8)
noncomputable def order_Run_nodes_3 (p0 : List (List TEvent)) : Option (List Torder_node) :=
  order_Run_nodes_3_l1 p0 [] 0
noncomputable def order_Run_Synced (p0 : List (List TEvent)) : Option Bool :=
  (order_Run_nodes_3 p0).bind fun x3 =>
  (order_join x3 [1, 2, 3, 4]).bind fun x19 =>
  (order_graph_cyclic x19).bind fun x30 =>
  some (!x30)
noncomputable def order_Run_Serial_2 (p0 : List (List TEvent)) : Option Bool :=
  (order_Run_nodes_2 p0).bind fun x3 =>
  (order_join x3 [1, 2, 3, 4]).bind fun x19 =>
  (order_graph_cyclic x19).bind fun x30 =>
  some (!x30)
noncomputable def law21_OrderWays (p0 : List (List TEvent)) : Option Bool :=
  (law21_alive).bind fun x3 =>
  if !x3 then
  some false
  else
  (law21_great p0).bind fun x18 =>
  (if x18 then
  some true
  else
  (ref21_Good p0).bind fun x131 =>
  some (!x131)).bind fun y26 =>
  if y26 then
  some true
  else
  (order_Run_Coherent_2 p0).bind fun x40 =>
  (ref21_Acyclic p0 false true).bind fun x49 =>
  (if x40 == x49 then
  (order_Run_Synced p0).bind fun x106 =>
  (ref21_Acyclic p0 true false).bind fun x115 =>
  some (x106 == x115)
  else
  some false).bind fun y57 =>
  (if y57 then
  (order_Run_Serial_2 p0).bind fun x83 =>
  (ref21_Acyclic p0 false false).bind fun x92 =>
  some (x83 == x92)
  else
  some false).bind fun y68 =>
  some y68
noncomputable def law21_OrderSerial (p0 : List (List TEvent)) : Option Bool :=
  (law21_alive).bind fun x3 =>
  if !x3 then
  some false
  else
  (law21_great p0).bind fun x18 =>
  (if x18 then
  some true
  else
  (ref21_Good p0).bind fun x104 =>
  some (!x104)).bind fun y26 =>
  if y26 then
  some true
  else
  (order_Run_Serial_2 p0).bind fun x40 =>
  (if !x40 then
  some true
  else
  (order_Run_Coherent_2 p0).bind fun x68 =>
  (if x68 then
  (order_Run_Synced p0).bind fun x88 =>
  some x88
  else
  some false).bind fun y76 =>
  some y76).bind fun y48 =>
  some y48
end Go.Vm.G21
