/-
  What the functions compute is what the plain ones say, for all inputs at which those answer.
-/
import Derived.Test.YtbmkccjfldmgiaaEWGO21
set_option linter.unusedSimpArgs false
set_option linter.unusedVariables false
namespace Go.Vm.GO21
open Go Go.Proofs

set_option maxHeartbeats 4000000 in
set_option maxRecDepth 10000 in
theorem wk_order_Run_Racy (V : Vw) (Rs : List At) (p0 : List (List TEvent)) (v1 : Value) (hs2 : List Value) (ow : Ow V (.oss (RO.os RT_TEvent) v1 hs2 p0 :: Rs)) (r : Bool) (h : order_Run_Racy p0 = some r) : ∃ v V', Cl Try.prog 0 17 #[v1] V.H v V'.H ∧ V.le V' ∧ (v = .bool r ∧ Ow V' (.oss (RO.os RT_TEvent) v1 hs2 p0 :: Rs)) := by
 refine Ct.of (Nat.zero_le _) Try.func17 rfl (Nat.le_of_ble_eq_true rfl) ?_
 unfold order_Run_Racy at h
 refine WP.usreg rfl ?_
 refine U.p rfl rfl (.inl rfl) (S.assign rfl K) ?_
 refine U.done (Nat.le_of_ble_eq_true rfl) ?_
 refine WP.usreg rfl ?_
 refine U.p rfl rfl (.inl rfl) (S.move rfl (L 1 rfl rfl)) ?_
 obtain ⟨x4, hx5, h6⟩ := bindS h
 refine O.call (V := V) rfl rfl (.inl rfl) rfl en23 (aC (L 0 rfl rfl) (aC Fu aN)) (wk_order_Run_nodes V _ p0 v1 hs2 ow _ hx5) (fun _ _ _ _ => nd) (fun v7 V8 le9 hp10 => ?_)
 obtain ⟨_, rfl, ow11⟩ := hp10
 refine U.p rfl rfl (.inl rfl) (S.assign rfl (L 0 rfl rfl)) ?_
 refine U.done (Nat.le_of_ble_eq_true rfl) ?_
 refine WP.usreg rfl ?_
 refine U.p rfl rfl (.inl rfl) (S.move rfl (L 4 rfl rfl)) ?_
 refine U.p rfl rfl (.inl rfl) (S.move rfl (L 1 rfl rfl)) ?_
 have ow14 := ow11.pick 1 rfl
 obtain ⟨x15, hx16, h17⟩ := bindS h6
 refine O.call (V := V8) rfl rfl (.inl rfl) rfl en37 (aC (L 1 rfl rfl) (aC (L 0 rfl rfl) aN)) (wk_order_Run_happens V8 _ p0 x4 v1 hs2 v7 ow14 _ hx16) (fun _ _ _ _ => nd) (fun v18 V19 le20 hp21 => ?_)
 obtain ⟨_, hs24, rfl, ow22⟩ := hp21
 refine U.p rfl rfl (.inl rfl) (S.assign rfl (L 0 rfl rfl)) ?_
 refine U.done (Nat.le_of_ble_eq_true rfl) ?_
 refine WP.seq ?_
 refine WP.usreg rfl ?_
 refine U.p rfl rfl (.inl rfl) (S.move rfl (L 4 rfl rfl)) ?_
 refine U.p rfl rfl (.inl rfl) (ow22.oslen (k := 2) rfl rfl (L 0 rfl rfl) Try.underlying38) ?_
 refine U.p rfl rfl (.inl rfl) (S.move rfl K) ?_
 refine U.done (Nat.le_of_ble_eq_true rfl) ?_
 refine WP.blk ?_
 obtain ⟨V33, eV37, le34, f35, ow36⟩ := ow22.osfz (k := 2) rfl
 rw [← eV37]
 have ow39 := ow36.pick 0 rfl
 have ow40 := ow39.pick 1 rfl
 unfold order_Run_Racy_l1 at h17
 obtain ⟨n42, hn41⟩ := loopO_some.1 h17
 refine WP.loopI2 (fun n l V' => ∃ (xs26 : List Torder_node) (v27 : Value) (xs29 : List Torder_node) (v30 : Value) (x32 : Int), l = [(3, v27), (4, v18), (15, v30), (16, .int .i64 (x4.length : Int)), (17, .int .i64 x32)] ∧ V33.le V' ∧ Fz RT_Torder_node V' v27 xs26 ∧ Fz RT_Torder_node V' v30 xs29 ∧ Ow V' (.oss (RO.os RT_TEvent) v1 hs2 p0 :: .oss (RO.os RT.bool) v18 hs24 x15 :: Rs) ∧ itO (fun s => order_Run_Racy_l1b x4 x15 s.1 s.2.1 s.2.2) n (xs26, xs29, x32) = some r) n42 _ ⟨x4, v7, x4, v7, 0, rfl, .refl _, f35, f35, ow40, hn41⟩ (allCons (L 7 rfl rfl) (allCons (L 3 rfl rfl) (allCons (L 2 rfl rfl) (allCons (L 1 rfl rfl) (allCons (L 0 rfl rfl) allNil))))) ?_
 rintro _ _ V43 ⟨xs26, v27, xs29, v30, x32, rfl, le44, f28, f31, ow45, h49⟩
 obtain ⟨m46, q47, rfl, h50, e48⟩ := itS h49
 replace h50 : order_Run_Racy_l1b x4 x15 xs26 xs29 x32 = some q47 := h50
 unfold order_Run_Racy_l1b at h50
 refine WP.usreg rfl ?_
 refine U.p rfl rfl (.inl rfl) (S.lss rfl (L 4 rfl rfl) (L 3 rfl rfl)) ?_
 refine U.done (Nat.le_of_ble_eq_true rfl) ?_
 refine WP.seq ?_
 refine WP.cond _ (L 0 rfl rfl) rfl (fun c51 => ?_) (fun c51 => ?_)
 ·have h52 := ifT c51 h50
  refine WP.skip ?_
  refine sqN ?_
  refine WP.seq ?_
  refine WP.blk ?_
  refine WP.usreg rfl ?_
  refine U.p rfl rfl (.inl rfl) (S.move rfl (L 5 rfl rfl)) ?_
  obtain ⟨x53, hx54, h55⟩ := bindS h52
  obtain ⟨b56, o57, c58, cs59, hv60, hf61, hr62, hc63⟩ := f31.at hx54
  obtain rfl : cs59 = [.int .i64 x53.e.t, .int .i64 x53.e.act.kind, .int .i64 x53.e.act.at_, .int .i64 x53.e.act.val, .int .i64 x53.e.act.what, .bool x53.e.act.volatile, .bool x53.e.act.final, .int .i64 x53.e.rf, .int .i64 x53.e.id, .int .i64 x53.at_] := hr62
  refine U.p rfl rfl (.inl rfl) (S.index rfl ((L 4 rfl rfl).trans hv60) (L 6 rfl rfl) Try.underlying38 ti45 (ix_ge hx54) (ix_lt hx54)) ?_
  refine U.k rfl rfl (.inl rfl) (S.loadN (cs := [.int .i64 x53.e.t, .int .i64 x53.e.act.kind, .int .i64 x53.e.act.at_, .int .i64 x53.e.act.val, .int .i64 x53.e.act.what, .bool x53.e.act.volatile, .bool x53.e.act.final, .int .i64 x53.e.rf, .int .i64 x53.e.id, .int .i64 x53.at_]) rfl (L 0 rfl rfl) Try.underlying45 rfl ti45 rfl (fun j v hj => hc63 j v hj)) nd ?_
  refine O.alloc ow45 rfl rfl (.inl rfl) rfl ti45 rfl rfl nd (fun b64 V65 le66 ow67 => ?_)
  refine U.p rfl rfl (.inl rfl) (S.assign rfl (L 3 rfl rfl)) ?_
  refine O.store (k := 0) (cs := [.int .i64 x53.e.t, .int .i64 x53.e.act.kind, .int .i64 x53.e.act.at_, .int .i64 x53.e.act.val, .int .i64 x53.e.act.what, .bool x53.e.act.volatile, .bool x53.e.act.final, .int .i64 x53.e.rf, .int .i64 x53.e.id, .int .i64 x53.at_]) (c' := [.int .i64 x53.e.t, .int .i64 x53.e.act.kind, .int .i64 x53.e.act.at_, .int .i64 x53.e.act.val, .int .i64 x53.e.act.what, .bool x53.e.act.volatile, .bool x53.e.act.final, .int .i64 x53.e.rf, .int .i64 x53.e.id, .int .i64 x53.at_]) ow67 rfl rfl rfl (.inl rfl) rfl (L 1 rfl rfl) (L 2 rfl rfl) ti45 (by simp [topV]) rfl rfl (Nat.le_of_ble_eq_true rfl) rfl rfl nd (fun V69 le70 ow71 => ?_)
  refine U.done (Nat.le_of_ble_eq_true rfl) ?_
  refine WP.usreg rfl ?_
  refine U.p rfl rfl (.inl rfl) (S.move rfl (L 6 rfl rfl)) ?_
  refine U.p rfl rfl (.inl rfl) (S.move rfl (L 1 rfl rfl)) ?_
  have f72 := f28.up (le66.trans le70)
  obtain ⟨xs73, hx74, h75⟩ := bindS h55
  refine O.subF f72 hx74 rfl rfl (.inl rfl) rfl (L 1 rfl rfl) Try.underlying38 ti45 ⟨.inl ⟨rfl, rfl⟩, .inr ⟨_, _, rfl, (L 0 rfl rfl)⟩, .inl rfl⟩ (fun v76 f78 => ?_)
  refine U.p rfl rfl (.inl rfl) (f78.1.len rfl (L 0 rfl rfl) Try.underlying38) ?_
  refine U.p rfl rfl (.inl rfl) (S.move rfl K) ?_
  refine U.done (Nat.le_of_ble_eq_true rfl) ?_
  refine WP.blk ?_
  have ow80 := ow71.pick 0 rfl
  have ow81 := ow80.pick 2 rfl
  have ow82 := ow81.pick 2 rfl
  unfold order_Run_Racy_l2 at h75
  obtain ⟨n84, hn83⟩ := loopO_some.1 h75
  refine WP.loopI2 (fun n l V' => ∃ (x79 : Int), l = [(3, v27), (4, v18), (5, .int .i64 x32), (6, .pointer (some ⟨b64, 0, none⟩)), (15, v30), (16, .int .i64 (x4.length : Int)), (17, .int .i64 x32), (24, v76), (25, .int .i64 (xs73.length : Int)), (26, .int .i64 x79)] ∧ V69.le V' ∧ Ow V' (.oss (RO.os RT_TEvent) v1 hs2 p0 :: .oss (RO.os RT.bool) v18 hs24 x15 :: .pt b64 (.cells 10 [.int .i64 x53.e.t, .int .i64 x53.e.act.kind, .int .i64 x53.e.act.at_, .int .i64 x53.e.act.val, .int .i64 x53.e.act.what, .bool x53.e.act.volatile, .bool x53.e.act.final, .int .i64 x53.e.rf, .int .i64 x53.e.id, .int .i64 x53.at_]) :: Rs) ∧ itO (fun s => order_Run_Racy_l2b x15 xs26 xs29 x32 x53 xs73 s) n x79 = some q47) n84 _ ⟨0, rfl, .refl _, ow82, hn83⟩ (allCons (L 11 rfl rfl) (allCons (L 12 rfl rfl) (allCons (L 5 rfl rfl) (allCons (L 6 rfl rfl) (allCons (L 13 rfl rfl) (allCons (L 14 rfl rfl) (allCons (L 15 rfl rfl) (allCons (L 2 rfl rfl) (allCons (L 1 rfl rfl) (allCons (L 0 rfl rfl) allNil)))))))))) ?_
  rintro _ _ V85 ⟨x79, rfl, le86, ow87, h91⟩
  obtain ⟨m88, q89, rfl, h92, e90⟩ := itS h91
  replace h92 : order_Run_Racy_l2b x15 xs26 xs29 x32 x53 xs73 x79 = some q89 := h92
  unfold order_Run_Racy_l2b at h92
  refine WP.usreg rfl ?_
  refine U.p rfl rfl (.inl rfl) (S.lss rfl (L 9 rfl rfl) (L 8 rfl rfl)) ?_
  refine U.done (Nat.le_of_ble_eq_true rfl) ?_
  refine WP.seq ?_
  refine WP.cond _ (L 0 rfl rfl) rfl (fun c93 => ?_) (fun c93 => ?_)
  ·have h94 := ifT c93 h92
   refine WP.skip ?_
   refine sqN ?_
   refine WP.seq ?_
   refine WP.blk ?_
   refine WP.usreg rfl ?_
   refine U.p rfl rfl (.inl rfl) (S.move rfl (L 10 rfl rfl)) ?_
   obtain ⟨x95, hx96, h97⟩ := bindS h94
   obtain ⟨b98, o99, c100, cs101, hv102, hf103, hr104, hc105⟩ := f78.at hx96
   obtain rfl : cs101 = [.int .i64 x95.e.t, .int .i64 x95.e.act.kind, .int .i64 x95.e.act.at_, .int .i64 x95.e.act.val, .int .i64 x95.e.act.what, .bool x95.e.act.volatile, .bool x95.e.act.final, .int .i64 x95.e.rf, .int .i64 x95.e.id, .int .i64 x95.at_] := hr104
   refine U.p rfl rfl (.inl rfl) (S.index rfl ((L 9 rfl rfl).trans hv102) (L 11 rfl rfl) Try.underlying38 ti45 (ix_ge hx96) (ix_lt hx96)) ?_
   refine U.k rfl rfl (.inl rfl) (S.loadN (cs := [.int .i64 x95.e.t, .int .i64 x95.e.act.kind, .int .i64 x95.e.act.at_, .int .i64 x95.e.act.val, .int .i64 x95.e.act.what, .bool x95.e.act.volatile, .bool x95.e.act.final, .int .i64 x95.e.rf, .int .i64 x95.e.id, .int .i64 x95.at_]) rfl (L 0 rfl rfl) Try.underlying45 rfl ti45 rfl (fun j v hj => le86.cell hf103 (hc105 j v hj))) nd ?_
   refine O.alloc ow87 rfl rfl (.inl rfl) rfl ti45 rfl rfl nd (fun b106 V107 le108 ow109 => ?_)
   refine U.p rfl rfl (.inl rfl) (S.assign rfl (L 3 rfl rfl)) ?_
   refine O.store (k := 0) (cs := [.int .i64 x95.e.t, .int .i64 x95.e.act.kind, .int .i64 x95.e.act.at_, .int .i64 x95.e.act.val, .int .i64 x95.e.act.what, .bool x95.e.act.volatile, .bool x95.e.act.final, .int .i64 x95.e.rf, .int .i64 x95.e.id, .int .i64 x95.at_]) (c' := [.int .i64 x95.e.t, .int .i64 x95.e.act.kind, .int .i64 x95.e.act.at_, .int .i64 x95.e.act.val, .int .i64 x95.e.act.what, .bool x95.e.act.volatile, .bool x95.e.act.final, .int .i64 x95.e.rf, .int .i64 x95.e.id, .int .i64 x95.at_]) ow109 rfl rfl rfl (.inl rfl) rfl (L 1 rfl rfl) (L 2 rfl rfl) ti45 (by simp [topV]) rfl rfl (Nat.le_of_ble_eq_true rfl) rfl rfl nd (fun V111 le112 ow113 => ?_)
   refine U.done (Nat.le_of_ble_eq_true rfl) ?_
   refine WP.usreg rfl ?_
   refine U.p (v := .pointer (some ⟨b64, 0, none⟩)) rfl rfl (.inl rfl) (S.fieldAddr rfl (L 9 rfl rfl) Try.underlying45 rfl ti31 rfl rfl) ?_
   refine U.p (v := .pointer (some ⟨b64, 1, none⟩)) rfl rfl (.inl rfl) (S.fieldAddr rfl (L 0 rfl rfl) Try.underlying31 rfl ti29 rfl rfl) ?_
   refine U.k rfl rfl (.inl rfl) (S.loadN (cs := [.int .i64 x53.e.act.kind, .int .i64 x53.e.act.at_, .int .i64 x53.e.act.val, .int .i64 x53.e.act.what, .bool x53.e.act.volatile, .bool x53.e.act.final]) rfl (L 0 rfl rfl) Try.underlying29 rfl ti29 rfl (cellsOfOwn (ow113.own (k := 3) rfl) 1 rfl)) nd ?_
   obtain ⟨x114, hx115, h116⟩ := bindS h97
   refine O.call (V := V111) rfl rfl (.inl rfl) rfl en36 (aC (L 0 rfl rfl) aN) (wk_order_syncs V111 _ x53.e.act ow113 _ hx115) (fun _ _ _ _ => nd) (fun v117 V118 le119 hp120 => ?_)
   obtain ⟨rfl, ow121⟩ := hp120
   refine U.p rfl rfl (.inl rfl) (S.not rfl (L 0 rfl rfl)) ?_
   refine U.p rfl rfl (.inl rfl) (S.move rfl (L 0 rfl rfl)) ?_
   obtain ⟨y122, hy123, h124⟩ := bindS h116
   refine U.joinX 12 (fun e H => ∃ (u125 u126 u127 u128 u129 : Value), ∃ V' : Vw, H = V'.H ∧ V118.le V' ∧ e = [(42, .bool y122), (41, u125), (40, u126), (39, u127), (38, u128), (37, u129)] ∧ Ow V' (.pt b106 (.cells 10 [.int .i64 x95.e.t, .int .i64 x95.e.act.kind, .int .i64 x95.e.act.at_, .int .i64 x95.e.act.val, .int .i64 x95.e.act.what, .bool x95.e.act.volatile, .bool x95.e.act.final, .int .i64 x95.e.rf, .int .i64 x95.e.id, .int .i64 x95.at_]) :: .oss (RO.os RT_TEvent) v1 hs2 p0 :: .oss (RO.os RT.bool) v18 hs24 x15 :: .pt b64 (.cells 10 [.int .i64 x53.e.t, .int .i64 x53.e.act.kind, .int .i64 x53.e.act.at_, .int .i64 x53.e.act.val, .int .i64 x53.e.act.what, .bool x53.e.act.volatile, .bool x53.e.act.final, .int .i64 x53.e.rf, .int .i64 x53.e.id, .int .i64 x53.at_]) :: Rs)) ?_ ?_
   ·rintro _ _ ⟨u125, u126, u127, u128, u129, V130, rfl, le131, rfl, ow132⟩
    refine U.p rfl rfl (.inl rfl) (S.assign rfl (L 0 rfl rfl)) ?_
    refine U.done (Nat.le_of_ble_eq_true rfl) ?_
    refine WP.usreg rfl ?_
    refine U.p rfl rfl (.inl rfl) (S.move rfl (L 0 rfl rfl)) ?_
    refine U.p rfl rfl (.inl rfl) (S.move rfl (L 0 rfl rfl)) ?_
    refine U.joinX 10 (fun e H => ∃ (u133 u134 u135 u136 u137 u138 u139 : Value), H = V130.H ∧ e = [(52, .bool (y122 && (decide (x53.e.t ≠ x95.e.t)))), (51, u133), (50, u134), (49, u135), (48, u136), (47, u137), (46, u138), (45, u139)]) ?_ ?_
    ·rintro _ _ ⟨u133, u134, u135, u136, u137, u138, u139, rfl, rfl⟩
     refine U.p rfl rfl (.inl rfl) (S.move rfl (L 0 rfl rfl)) ?_
     refine U.joinX 21 (fun e H => ∃ (u143 u144 u145 u146 u147 u148 u149 u150 u151 : Value), H = V130.H ∧ e = [(63, .bool ((y122 && (decide (x53.e.t ≠ x95.e.t))) && (decide (x53.e.act.at_ = x95.e.act.at_)))), (62, u143), (61, u144), (60, u145), (59, u146), (58, u147), (57, u148), (56, u149), (55, u150), (54, u151)]) ?_ ?_
     ·rintro _ _ ⟨u143, u144, u145, u146, u147, u148, u149, u150, u151, rfl, rfl⟩
      refine U.p rfl rfl (.inl rfl) (S.move rfl (L 0 rfl rfl)) ?_
      obtain ⟨y155, hy156, h157⟩ := bindS h124
      refine U.joinX 33 (fun e H => ∃ (u158 u159 u160 u161 u162 u163 u164 u165 u166 u167 : Value), ∃ V' : Vw, H = V'.H ∧ V130.le V' ∧ e = [(75, .bool y155), (74, u158), (73, u159), (72, u160), (71, u161), (70, u162), (69, u163), (68, u164), (67, u165), (66, u166), (65, u167)] ∧ Ow V' (.pt b106 (.cells 10 [.int .i64 x95.e.t, .int .i64 x95.e.act.kind, .int .i64 x95.e.act.at_, .int .i64 x95.e.act.val, .int .i64 x95.e.act.what, .bool x95.e.act.volatile, .bool x95.e.act.final, .int .i64 x95.e.rf, .int .i64 x95.e.id, .int .i64 x95.at_]) :: .oss (RO.os RT_TEvent) v1 hs2 p0 :: .oss (RO.os RT.bool) v18 hs24 x15 :: .pt b64 (.cells 10 [.int .i64 x53.e.t, .int .i64 x53.e.act.kind, .int .i64 x53.e.act.at_, .int .i64 x53.e.act.val, .int .i64 x53.e.act.what, .bool x53.e.act.volatile, .bool x53.e.act.final, .int .i64 x53.e.rf, .int .i64 x53.e.id, .int .i64 x53.at_]) :: Rs)) ?_ ?_
      ·rintro _ _ ⟨u158, u159, u160, u161, u162, u163, u164, u165, u166, u167, V168, rfl, le169, rfl, ow170⟩
       refine U.p rfl rfl (.inl rfl) (S.move rfl (L 0 rfl rfl)) ?_
       obtain ⟨y171, hy172, h173⟩ := bindS h157
       refine U.joinX 43 (fun e H => ∃ (u174 u175 u176 u177 u178 u179 u180 u181 : Value), H = V168.H ∧ e = [(85, .bool y171), (84, u174), (83, u175), (82, u176), (81, u177), (80, u178), (79, u179), (78, u180), (77, u181)]) ?_ ?_
       ·rintro _ _ ⟨u174, u175, u176, u177, u178, u179, u180, u181, rfl, rfl⟩
        refine U.p rfl rfl (.inl rfl) (S.move rfl (L 0 rfl rfl)) ?_
        obtain ⟨y185, hy186, h187⟩ := bindS h173
        refine U.joinX 53 (fun e H => ∃ (u188 u189 u190 u191 u192 u193 u194 u195 : Value), H = V168.H ∧ e = [(95, .bool y185), (94, u188), (93, u189), (92, u190), (91, u191), (90, u192), (89, u193), (88, u194), (87, u195)]) ?_ ?_
        ·rintro _ _ ⟨u188, u189, u190, u191, u192, u193, u194, u195, rfl, rfl⟩
         refine U.done (Nat.le_of_ble_eq_true rfl) ?_
         refine WP.cond _ (L 0 rfl rfl) rfl (fun c199 => ?_) (fun c199 => ?_)
         ·have h200 := ifT c199 h187
          refine WP.usreg rfl ?_
          refine U.p rfl rfl (.inl rfl) (S.assign rfl K) ?_
          refine U.done (Nat.le_of_ble_eq_true rfl) ?_
          refine WP.ret ?_
          refine blkR (sqR (sqR (blkR (blkR (sqR (sqR (blkR (sqR ?_))))))))
          have h201 := exitS h200 e90
          have h202 := exitS h201 e48
          refine fin.slot (.inr rfl) rfl (L 0 rfl rfl) ⟨V168, rfl, (((((((((((le9.trans le20).trans le34).trans le44).trans le66).trans le70).trans le86).trans le108).trans le112).trans le119).trans le131).trans le169), ?_⟩
          have ow203 := ow170.drop 0 rfl
          have ow204 := ow203.drop 1 rfl
          have ow205 := ow204.drop 1 rfl
          have e206 := Option.some.inj h202
          subst e206
          exact ⟨rfl, ow205⟩
         ·have h207 := ifF c199 h187
          refine WP.skip ?_
          refine blkN (sqN ?_)
          refine WP.ureg rfl ?_
          refine U.p rfl rfl (.inl rfl) (S.add rfl (L 81 rfl rfl) K) ?_
          refine U.p rfl rfl (.inl rfl) (S.move rfl (L 0 rfl rfl)) ?_
          refine U.done (Nat.le_of_ble_eq_true rfl) ?_
          refine sqN ?_
          have ow208 := ow170.drop 0 rfl
          exact ⟨_, V168, rfl, ⟨m88, Nat.lt_succ_self _, w64 (x79 + 1), rfl, (((((le86.trans le108).trans le112).trans le119).trans le131).trans le169), ow208, backS h207 e90⟩, (allCons (L 74 rfl rfl) (allCons (L 75 rfl rfl) (allCons (L 76 rfl rfl) (allCons (L 77 rfl rfl) (allCons (L 78 rfl rfl) (allCons (L 79 rfl rfl) (allCons (L 80 rfl rfl) (allCons (L 81 rfl rfl) (allCons (L 82 rfl rfl) (allCons (L 0 rfl rfl) allNil))))))))))⟩
        ·intro kk
         refine bcase (b := y171) (fun g209 => ?_) (fun g209 => ?_)
         ·have h210 := ifT g209 hy186
          refine U.p rfl rfl (.inr ⟨_, _, _, rfl, rfl, ((L 0 rfl rfl).trans (congrArg Value.bool g209))⟩) (S.move rfl (L 64 rfl rfl)) ?_
          refine U.p rfl rfl (.inr ⟨_, _, _, rfl, rfl, ((L 1 rfl rfl).trans (congrArg Value.bool g209))⟩) (S.move rfl (L 58 rfl rfl)) ?_
          obtain ⟨x211, hx212, h213⟩ := bindS h210
          obtain ⟨b214, o215, n216, c217, hv218⟩ := ow170.sspt (k := 2) rfl hx212
          refine U.p rfl rfl (.inr ⟨_, _, _, rfl, rfl, ((L 2 rfl rfl).trans (congrArg Value.bool g209))⟩) (S.index rfl ((L 1 rfl rfl).trans (ow170.sslen' (k := 2) rfl hv218)) (L 0 rfl rfl) Try.underlying42 ti53 (ix_ge hx212) (ix_lt hx212)) ?_
          obtain ⟨h219, hh220, ow221⟩ := ow170.ssopen (k := 2) rfl hx212
          have hcl223 := ow221.shcell (k := 3) rfl hv218 hh220
          refine U.k rfl rfl (.inr ⟨_, _, _, rfl, rfl, ((L 3 rfl rfl).trans (congrArg Value.bool g209))⟩) (S.load rfl (L 0 rfl rfl) Try.underlying53 rfl hcl223.2) nd ?_
          refine U.p rfl rfl (.inr ⟨_, _, _, rfl, rfl, ((L 4 rfl rfl).trans (congrArg Value.bool g209))⟩) (S.move rfl (L 69 rfl rfl)) ?_
          obtain ⟨x224, hx225, h226⟩ := bindS h213
          obtain ⟨b227, o228, n229, c230, hv231⟩ := ow221.ospt (k := 0) rfl hx225
          obtain ⟨_, hv232, _⟩ := ow221.osel (k := 0) rfl hv231 hx225
          refine U.p rfl rfl (.inr ⟨_, _, _, rfl, rfl, ((L 5 rfl rfl).trans (congrArg Value.bool g209))⟩) (S.index rfl ((L 1 rfl rfl).trans hv232) (L 0 rfl rfl) Try.underlying53 ti4 (ix_ge hx225) (ix_lt hx225)) ?_
          obtain ⟨cs233, hv234, hlt235, hr236, hc237⟩ := ow221.osel (k := 0) rfl hv231 hx225
          obtain rfl : cs233 = [.bool x224] := hr236
          refine U.k rfl rfl (.inr ⟨_, _, _, rfl, rfl, ((L 6 rfl rfl).trans (congrArg Value.bool g209))⟩) (S.load rfl (L 0 rfl rfl) Try.underlying4 rfl (hc237 0 _ rfl)) nd ?_
          refine U.p rfl rfl (.inr ⟨_, _, _, rfl, rfl, ((L 7 rfl rfl).trans (congrArg Value.bool g209))⟩) (S.not rfl (L 0 rfl rfl)) ?_
          refine U.p rfl rfl (.inl rfl) (S.pickT rfl ((L 8 rfl rfl).trans (congrArg Value.bool g209)) (L 0 rfl rfl)) ?_
          have ow238 := ow221.ssclose' (k := 3) (j := 0) rfl rfl (by decide) hh220 hx212
          have e239 := Option.some.inj h226
          subst e239
          exact kk [(95, .bool (!x224)), (94, .bool (!x224)), (93, .bool x224), (92, .pointer (some ⟨b227, o228 + Int.toNat x32 * 1, none⟩)), (91, .int .i64 x32), (90, h219), (89, .pointer (some ⟨b214, o215 + Int.toNat x79 * 1, none⟩)), (88, .int .i64 x79), (87, v18)] _ ⟨.bool (!x224), .bool x224, .pointer (some ⟨b227, o228 + Int.toNat x32 * 1, none⟩), .int .i64 x32, h219, .pointer (some ⟨b214, o215 + Int.toNat x79 * 1, none⟩), .int .i64 x79, v18, rfl, rfl⟩
         ·have h240 := ifF g209 hy186
          refine U.x rfl rfl rfl rfl ((L 0 rfl rfl).trans (congrArg Value.bool g209)) (by decide) ?_
          refine U.x rfl rfl rfl rfl ((L 1 rfl rfl).trans (congrArg Value.bool g209)) (by decide) ?_
          refine U.x rfl rfl rfl rfl ((L 2 rfl rfl).trans (congrArg Value.bool g209)) (by decide) ?_
          refine U.x rfl rfl rfl rfl ((L 3 rfl rfl).trans (congrArg Value.bool g209)) (by decide) ?_
          refine U.x rfl rfl rfl rfl ((L 4 rfl rfl).trans (congrArg Value.bool g209)) (by decide) ?_
          refine U.x rfl rfl rfl rfl ((L 5 rfl rfl).trans (congrArg Value.bool g209)) (by decide) ?_
          refine U.x rfl rfl rfl rfl ((L 6 rfl rfl).trans (congrArg Value.bool g209)) (by decide) ?_
          refine U.x rfl rfl rfl rfl ((L 7 rfl rfl).trans (congrArg Value.bool g209)) (by decide) ?_
          refine U.p rfl rfl (.inl rfl) (S.pickF rfl ((L 8 rfl rfl).trans (congrArg Value.bool g209)) K) ?_
          have e241 := Option.some.inj h240
          subst e241
          exact kk [(95, .bool false), (94, .tuple #[]), (93, .tuple #[]), (92, .tuple #[]), (91, .tuple #[]), (90, .tuple #[]), (89, .tuple #[]), (88, .tuple #[]), (87, .tuple #[])] _ ⟨.tuple #[], .tuple #[], .tuple #[], .tuple #[], .tuple #[], .tuple #[], .tuple #[], .tuple #[], rfl, rfl⟩
       ·intro kk
        refine bcase (b := y155) (fun g242 => ?_) (fun g242 => ?_)
        ·have h243 := ifT g242 hy172
         refine U.p rfl rfl (.inr ⟨_, _, _, rfl, rfl, ((L 0 rfl rfl).trans (congrArg Value.bool g242))⟩) (S.move rfl (L 54 rfl rfl)) ?_
         refine U.p rfl rfl (.inr ⟨_, _, _, rfl, rfl, ((L 1 rfl rfl).trans (congrArg Value.bool g242))⟩) (S.move rfl (L 56 rfl rfl)) ?_
         obtain ⟨x244, hx245, h246⟩ := bindS h243
         obtain ⟨b247, o248, n249, c250, hv251⟩ := ow170.sspt (k := 2) rfl hx245
         refine U.p rfl rfl (.inr ⟨_, _, _, rfl, rfl, ((L 2 rfl rfl).trans (congrArg Value.bool g242))⟩) (S.index rfl ((L 1 rfl rfl).trans (ow170.sslen' (k := 2) rfl hv251)) (L 0 rfl rfl) Try.underlying42 ti53 (ix_ge hx245) (ix_lt hx245)) ?_
         obtain ⟨h252, hh253, ow254⟩ := ow170.ssopen (k := 2) rfl hx245
         have hcl256 := ow254.shcell (k := 3) rfl hv251 hh253
         refine U.k rfl rfl (.inr ⟨_, _, _, rfl, rfl, ((L 3 rfl rfl).trans (congrArg Value.bool g242))⟩) (S.load rfl (L 0 rfl rfl) Try.underlying53 rfl hcl256.2) nd ?_
         refine U.p rfl rfl (.inr ⟨_, _, _, rfl, rfl, ((L 4 rfl rfl).trans (congrArg Value.bool g242))⟩) (S.move rfl (L 51 rfl rfl)) ?_
         obtain ⟨x257, hx258, h259⟩ := bindS h246
         obtain ⟨b260, o261, n262, c263, hv264⟩ := ow254.ospt (k := 0) rfl hx258
         obtain ⟨_, hv265, _⟩ := ow254.osel (k := 0) rfl hv264 hx258
         refine U.p rfl rfl (.inr ⟨_, _, _, rfl, rfl, ((L 5 rfl rfl).trans (congrArg Value.bool g242))⟩) (S.index rfl ((L 1 rfl rfl).trans hv265) (L 0 rfl rfl) Try.underlying53 ti4 (ix_ge hx258) (ix_lt hx258)) ?_
         obtain ⟨cs266, hv267, hlt268, hr269, hc270⟩ := ow254.osel (k := 0) rfl hv264 hx258
         obtain rfl : cs266 = [.bool x257] := hr269
         refine U.k rfl rfl (.inr ⟨_, _, _, rfl, rfl, ((L 6 rfl rfl).trans (congrArg Value.bool g242))⟩) (S.load rfl (L 0 rfl rfl) Try.underlying4 rfl (hc270 0 _ rfl)) nd ?_
         refine U.p rfl rfl (.inr ⟨_, _, _, rfl, rfl, ((L 7 rfl rfl).trans (congrArg Value.bool g242))⟩) (S.not rfl (L 0 rfl rfl)) ?_
         refine U.p rfl rfl (.inl rfl) (S.pickT rfl ((L 8 rfl rfl).trans (congrArg Value.bool g242)) (L 0 rfl rfl)) ?_
         have ow271 := ow254.ssclose' (k := 3) (j := 0) rfl rfl (by decide) hh253 hx245
         have e272 := Option.some.inj h259
         subst e272
         exact kk [(85, .bool (!x257)), (84, .bool (!x257)), (83, .bool x257), (82, .pointer (some ⟨b260, o261 + Int.toNat x79 * 1, none⟩)), (81, .int .i64 x79), (80, h252), (79, .pointer (some ⟨b247, o248 + Int.toNat x32 * 1, none⟩)), (78, .int .i64 x32), (77, v18)] _ ⟨.bool (!x257), .bool x257, .pointer (some ⟨b260, o261 + Int.toNat x79 * 1, none⟩), .int .i64 x79, h252, .pointer (some ⟨b247, o248 + Int.toNat x32 * 1, none⟩), .int .i64 x32, v18, rfl, rfl⟩
        ·have h273 := ifF g242 hy172
         refine U.x rfl rfl rfl rfl ((L 0 rfl rfl).trans (congrArg Value.bool g242)) (by decide) ?_
         refine U.x rfl rfl rfl rfl ((L 1 rfl rfl).trans (congrArg Value.bool g242)) (by decide) ?_
         refine U.x rfl rfl rfl rfl ((L 2 rfl rfl).trans (congrArg Value.bool g242)) (by decide) ?_
         refine U.x rfl rfl rfl rfl ((L 3 rfl rfl).trans (congrArg Value.bool g242)) (by decide) ?_
         refine U.x rfl rfl rfl rfl ((L 4 rfl rfl).trans (congrArg Value.bool g242)) (by decide) ?_
         refine U.x rfl rfl rfl rfl ((L 5 rfl rfl).trans (congrArg Value.bool g242)) (by decide) ?_
         refine U.x rfl rfl rfl rfl ((L 6 rfl rfl).trans (congrArg Value.bool g242)) (by decide) ?_
         refine U.x rfl rfl rfl rfl ((L 7 rfl rfl).trans (congrArg Value.bool g242)) (by decide) ?_
         refine U.p rfl rfl (.inl rfl) (S.pickF rfl ((L 8 rfl rfl).trans (congrArg Value.bool g242)) K) ?_
         have e274 := Option.some.inj h273
         subst e274
         exact kk [(85, .bool false), (84, .tuple #[]), (83, .tuple #[]), (82, .tuple #[]), (81, .tuple #[]), (80, .tuple #[]), (79, .tuple #[]), (78, .tuple #[]), (77, .tuple #[])] _ ⟨.tuple #[], .tuple #[], .tuple #[], .tuple #[], .tuple #[], .tuple #[], .tuple #[], .tuple #[], rfl, rfl⟩
      ·intro kk
       refine bcase (b := (y122 && (decide (x53.e.t ≠ x95.e.t))) && (decide (x53.e.act.at_ = x95.e.act.at_))) (fun g275 => ?_) (fun g275 => ?_)
       ·have h276 := ifT g275 hy156
        refine U.p (v := .pointer (some ⟨b64, 0, none⟩)) rfl rfl (.inr ⟨_, _, _, rfl, rfl, ((L 0 rfl rfl).trans (congrArg Value.bool g275))⟩) (S.fieldAddr rfl (L 44 rfl rfl) Try.underlying45 rfl ti31 rfl rfl) ?_
        refine U.p (v := .pointer (some ⟨b64, 1, none⟩)) rfl rfl (.inr ⟨_, _, _, rfl, rfl, ((L 1 rfl rfl).trans (congrArg Value.bool g275))⟩) (S.fieldAddr rfl (L 0 rfl rfl) Try.underlying31 rfl ti29 rfl rfl) ?_
        refine U.k rfl rfl (.inr ⟨_, _, _, rfl, rfl, ((L 2 rfl rfl).trans (congrArg Value.bool g275))⟩) (S.loadN (cs := [.int .i64 x53.e.act.kind, .int .i64 x53.e.act.at_, .int .i64 x53.e.act.val, .int .i64 x53.e.act.what, .bool x53.e.act.volatile, .bool x53.e.act.final]) rfl (L 0 rfl rfl) Try.underlying29 rfl ti29 rfl (cellsOfOwn (ow132.own (k := 3) rfl) 1 rfl)) nd ?_
        obtain ⟨x277, hx278, h279⟩ := bindS h276
        refine O.call (V := V130) rfl rfl (.inr ⟨_, _, _, rfl, rfl, ((L 3 rfl rfl).trans (congrArg Value.bool g275))⟩) rfl en39 (aC (L 0 rfl rfl) aN) (wk_order_writes V130 _ x53.e.act ow132 _ hx278) (fun _ _ _ _ => nd) (fun v280 V281 le282 hp283 => ?_)
        obtain ⟨rfl, ow284⟩ := hp283
        refine U.p rfl rfl (.inr ⟨_, _, _, rfl, rfl, ((L 4 rfl rfl).trans (congrArg Value.bool g275))⟩) (S.move rfl (L 0 rfl rfl)) ?_
        obtain ⟨y285, hy286, h287⟩ := bindS h279
        refine U.joinX 32 (fun e H => ∃ (u288 u289 u290 u291 : Value), ∃ V' : Vw, H = V'.H ∧ V281.le V' ∧ e = [(74, .bool y285), (73, u288), (72, u289), (71, u290), (70, u291)] ∧ Ow V' (.pt b106 (.cells 10 [.int .i64 x95.e.t, .int .i64 x95.e.act.kind, .int .i64 x95.e.act.at_, .int .i64 x95.e.act.val, .int .i64 x95.e.act.what, .bool x95.e.act.volatile, .bool x95.e.act.final, .int .i64 x95.e.rf, .int .i64 x95.e.id, .int .i64 x95.at_]) :: .oss (RO.os RT_TEvent) v1 hs2 p0 :: .oss (RO.os RT.bool) v18 hs24 x15 :: .pt b64 (.cells 10 [.int .i64 x53.e.t, .int .i64 x53.e.act.kind, .int .i64 x53.e.act.at_, .int .i64 x53.e.act.val, .int .i64 x53.e.act.what, .bool x53.e.act.volatile, .bool x53.e.act.final, .int .i64 x53.e.rf, .int .i64 x53.e.id, .int .i64 x53.at_]) :: Rs)) ?_ ?_
        ·rintro _ _ ⟨u288, u289, u290, u291, V292, rfl, le293, rfl, ow294⟩
         refine U.p rfl rfl (.inl rfl) (S.pickT rfl ((L 10 rfl rfl).trans (congrArg Value.bool g275)) (L 0 rfl rfl)) ?_
         have e295 := Option.some.inj h287
         subst e295
         exact kk [(75, .bool y285), (74, .bool y285), (73, u288), (72, u289), (71, u290), (70, u291), (69, .bool x277), (68, .bool x277), (67, .agg #[.int .i64 x53.e.act.kind, .int .i64 x53.e.act.at_, .int .i64 x53.e.act.val, .int .i64 x53.e.act.what, .bool x53.e.act.volatile, .bool x53.e.act.final]), (66, .pointer (some ⟨b64, 1, none⟩)), (65, .pointer (some ⟨b64, 0, none⟩))] _ ⟨.bool y285, u288, u289, u290, u291, .bool x277, .bool x277, .agg #[.int .i64 x53.e.act.kind, .int .i64 x53.e.act.at_, .int .i64 x53.e.act.val, .int .i64 x53.e.act.what, .bool x53.e.act.volatile, .bool x53.e.act.final], .pointer (some ⟨b64, 1, none⟩), .pointer (some ⟨b64, 0, none⟩), V292, rfl, (le282.trans le293), rfl, ow294⟩
        ·intro kk
         refine bcase (b := x277) (fun g296 => ?_) (fun g296 => ?_)
         ·have h297 := ifT g296 hy286
          refine U.x rfl rfl rfl rfl ((L 0 rfl rfl).trans (congrArg Value.bool g296)) (by decide) ?_
          refine U.x rfl rfl rfl rfl ((L 1 rfl rfl).trans (congrArg Value.bool g296)) (by decide) ?_
          refine U.x rfl rfl rfl rfl ((L 2 rfl rfl).trans (congrArg Value.bool g296)) (by decide) ?_
          refine U.x rfl rfl rfl rfl ((L 3 rfl rfl).trans (congrArg Value.bool g296)) (by decide) ?_
          refine U.p rfl rfl (.inr ⟨_, _, _, rfl, rfl, ((L 9 rfl rfl).trans (congrArg Value.bool g275))⟩) (S.pickT rfl ((L 4 rfl rfl).trans (congrArg Value.bool g296)) K) ?_
          have e298 := Option.some.inj h297
          subst e298
          exact kk [(74, .bool true), (73, .tuple #[]), (72, .tuple #[]), (71, .tuple #[]), (70, .tuple #[])] _ ⟨.tuple #[], .tuple #[], .tuple #[], .tuple #[], V281, rfl, (.refl _), rfl, ow284⟩
         ·have h299 := ifF g296 hy286
          refine U.p (v := .pointer (some ⟨b106, 0, none⟩)) rfl rfl (.inr ⟨_, _, _, rfl, rfl, ((L 0 rfl rfl).trans (congrArg Value.bool g296))⟩) (S.fieldAddr rfl (L 41 rfl rfl) Try.underlying45 rfl ti31 rfl rfl) ?_
          refine U.p (v := .pointer (some ⟨b106, 1, none⟩)) rfl rfl (.inr ⟨_, _, _, rfl, rfl, ((L 1 rfl rfl).trans (congrArg Value.bool g296))⟩) (S.fieldAddr rfl (L 0 rfl rfl) Try.underlying31 rfl ti29 rfl rfl) ?_
          refine U.k rfl rfl (.inr ⟨_, _, _, rfl, rfl, ((L 2 rfl rfl).trans (congrArg Value.bool g296))⟩) (S.loadN (cs := [.int .i64 x95.e.act.kind, .int .i64 x95.e.act.at_, .int .i64 x95.e.act.val, .int .i64 x95.e.act.what, .bool x95.e.act.volatile, .bool x95.e.act.final]) rfl (L 0 rfl rfl) Try.underlying29 rfl ti29 rfl (cellsOfOwn (ow284.own (k := 0) rfl) 1 rfl)) nd ?_
          obtain ⟨x300, hx301, h302⟩ := bindS h299
          refine O.call (V := V281) rfl rfl (.inr ⟨_, _, _, rfl, rfl, ((L 3 rfl rfl).trans (congrArg Value.bool g296))⟩) rfl en39 (aC (L 0 rfl rfl) aN) (wk_order_writes V281 _ x95.e.act ow284 _ hx301) (fun _ _ _ _ => nd) (fun v303 V304 le305 hp306 => ?_)
          obtain ⟨rfl, ow307⟩ := hp306
          refine U.p rfl rfl (.inr ⟨_, _, _, rfl, rfl, ((L 9 rfl rfl).trans (congrArg Value.bool g275))⟩) (S.pickF rfl ((L 4 rfl rfl).trans (congrArg Value.bool g296)) (L 0 rfl rfl)) ?_
          have e308 := Option.some.inj h302
          subst e308
          exact kk [(74, .bool x300), (73, .bool x300), (72, .agg #[.int .i64 x95.e.act.kind, .int .i64 x95.e.act.at_, .int .i64 x95.e.act.val, .int .i64 x95.e.act.what, .bool x95.e.act.volatile, .bool x95.e.act.final]), (71, .pointer (some ⟨b106, 1, none⟩)), (70, .pointer (some ⟨b106, 0, none⟩))] _ ⟨.bool x300, .agg #[.int .i64 x95.e.act.kind, .int .i64 x95.e.act.at_, .int .i64 x95.e.act.val, .int .i64 x95.e.act.what, .bool x95.e.act.volatile, .bool x95.e.act.final], .pointer (some ⟨b106, 1, none⟩), .pointer (some ⟨b106, 0, none⟩), V304, rfl, le305, rfl, ow307⟩
       ·have h309 := ifF g275 hy156
        refine U.x rfl rfl rfl rfl ((L 0 rfl rfl).trans (congrArg Value.bool g275)) (by decide) ?_
        refine U.x rfl rfl rfl rfl ((L 1 rfl rfl).trans (congrArg Value.bool g275)) (by decide) ?_
        refine U.x rfl rfl rfl rfl ((L 2 rfl rfl).trans (congrArg Value.bool g275)) (by decide) ?_
        refine U.x rfl rfl rfl rfl ((L 3 rfl rfl).trans (congrArg Value.bool g275)) (by decide) ?_
        refine U.x rfl rfl rfl rfl ((L 4 rfl rfl).trans (congrArg Value.bool g275)) (by decide) ?_
        refine U.z rfl rfl rfl rfl (L 0 rfl rfl) ?_
        refine U.z rfl rfl rfl rfl (L 1 rfl rfl) ?_
        refine U.z rfl rfl rfl rfl (L 2 rfl rfl) ?_
        refine U.z rfl rfl rfl rfl (L 3 rfl rfl) ?_
        refine U.x rfl rfl rfl rfl ((L 9 rfl rfl).trans (congrArg Value.bool g275)) (by decide) ?_
        refine U.p rfl rfl (.inl rfl) (S.pickF rfl ((L 10 rfl rfl).trans (congrArg Value.bool g275)) K) ?_
        have e310 := Option.some.inj h309
        subst e310
        exact kk [(75, .bool false), (74, .tuple #[]), (73, .tuple #[]), (72, .tuple #[]), (71, .tuple #[]), (70, .tuple #[]), (69, .tuple #[]), (68, .tuple #[]), (67, .tuple #[]), (66, .tuple #[]), (65, .tuple #[])] _ ⟨.tuple #[], .tuple #[], .tuple #[], .tuple #[], .tuple #[], .tuple #[], .tuple #[], .tuple #[], .tuple #[], .tuple #[], V130, rfl, (.refl _), rfl, ow132⟩
     ·intro kk
      refine bcase (b := y122 && (decide (x53.e.t ≠ x95.e.t))) (fun g311 => ?_) (fun g311 => ?_)
      ·skip
       refine U.p (v := .pointer (some ⟨b64, 0, none⟩)) rfl rfl (.inr ⟨_, _, _, rfl, rfl, ((L 0 rfl rfl).trans (congrArg Value.bool g311))⟩) (S.fieldAddr rfl (L 33 rfl rfl) Try.underlying45 rfl ti31 rfl rfl) ?_
       refine U.p (v := .pointer (some ⟨b64, 1, none⟩)) rfl rfl (.inr ⟨_, _, _, rfl, rfl, ((L 1 rfl rfl).trans (congrArg Value.bool g311))⟩) (S.fieldAddr rfl (L 0 rfl rfl) Try.underlying31 rfl ti29 rfl rfl) ?_
       refine U.p (v := .pointer (some ⟨b64, 2, none⟩)) rfl rfl (.inr ⟨_, _, _, rfl, rfl, ((L 2 rfl rfl).trans (congrArg Value.bool g311))⟩) (S.fieldAddr rfl (L 0 rfl rfl) Try.underlying29 rfl ti3 rfl rfl) ?_
       refine U.k rfl rfl (.inr ⟨_, _, _, rfl, rfl, ((L 3 rfl rfl).trans (congrArg Value.bool g311))⟩) (S.load rfl (L 0 rfl rfl) Try.underlying3 rfl ((ow132.own (k := 3) rfl).cell rfl)) nd ?_
       refine U.p (v := .pointer (some ⟨b106, 0, none⟩)) rfl rfl (.inr ⟨_, _, _, rfl, rfl, ((L 4 rfl rfl).trans (congrArg Value.bool g311))⟩) (S.fieldAddr rfl (L 29 rfl rfl) Try.underlying45 rfl ti31 rfl rfl) ?_
       refine U.p (v := .pointer (some ⟨b106, 1, none⟩)) rfl rfl (.inr ⟨_, _, _, rfl, rfl, ((L 5 rfl rfl).trans (congrArg Value.bool g311))⟩) (S.fieldAddr rfl (L 0 rfl rfl) Try.underlying31 rfl ti29 rfl rfl) ?_
       refine U.p (v := .pointer (some ⟨b106, 2, none⟩)) rfl rfl (.inr ⟨_, _, _, rfl, rfl, ((L 6 rfl rfl).trans (congrArg Value.bool g311))⟩) (S.fieldAddr rfl (L 0 rfl rfl) Try.underlying29 rfl ti3 rfl rfl) ?_
       refine U.k rfl rfl (.inr ⟨_, _, _, rfl, rfl, ((L 7 rfl rfl).trans (congrArg Value.bool g311))⟩) (S.load rfl (L 0 rfl rfl) Try.underlying3 rfl ((ow132.own (k := 0) rfl).cell rfl)) nd ?_
       refine U.p rfl rfl (.inr ⟨_, _, _, rfl, rfl, ((L 8 rfl rfl).trans (congrArg Value.bool g311))⟩) (S.eqlI rfl (L 4 rfl rfl) (L 0 rfl rfl)) ?_
       refine U.p rfl rfl (.inl rfl) (S.pickT rfl ((L 9 rfl rfl).trans (congrArg Value.bool g311)) (L 0 rfl rfl)) ?_
       exact kk [(63, .bool (decide (x53.e.act.at_ = x95.e.act.at_))), (62, .bool (decide (x53.e.act.at_ = x95.e.act.at_))), (61, .int .i64 x95.e.act.at_), (60, .pointer (some ⟨b106, 2, none⟩)), (59, .pointer (some ⟨b106, 1, none⟩)), (58, .pointer (some ⟨b106, 0, none⟩)), (57, .int .i64 x53.e.act.at_), (56, .pointer (some ⟨b64, 2, none⟩)), (55, .pointer (some ⟨b64, 1, none⟩)), (54, .pointer (some ⟨b64, 0, none⟩))] _ ⟨.bool (decide (x53.e.act.at_ = x95.e.act.at_)), .int .i64 x95.e.act.at_, .pointer (some ⟨b106, 2, none⟩), .pointer (some ⟨b106, 1, none⟩), .pointer (some ⟨b106, 0, none⟩), .int .i64 x53.e.act.at_, .pointer (some ⟨b64, 2, none⟩), .pointer (some ⟨b64, 1, none⟩), .pointer (some ⟨b64, 0, none⟩), rfl, (by rw [g311, Bool.true_and])⟩
      ·skip
       refine U.x rfl rfl rfl rfl ((L 0 rfl rfl).trans (congrArg Value.bool g311)) (by decide) ?_
       refine U.x rfl rfl rfl rfl ((L 1 rfl rfl).trans (congrArg Value.bool g311)) (by decide) ?_
       refine U.x rfl rfl rfl rfl ((L 2 rfl rfl).trans (congrArg Value.bool g311)) (by decide) ?_
       refine U.x rfl rfl rfl rfl ((L 3 rfl rfl).trans (congrArg Value.bool g311)) (by decide) ?_
       refine U.x rfl rfl rfl rfl ((L 4 rfl rfl).trans (congrArg Value.bool g311)) (by decide) ?_
       refine U.x rfl rfl rfl rfl ((L 5 rfl rfl).trans (congrArg Value.bool g311)) (by decide) ?_
       refine U.x rfl rfl rfl rfl ((L 6 rfl rfl).trans (congrArg Value.bool g311)) (by decide) ?_
       refine U.x rfl rfl rfl rfl ((L 7 rfl rfl).trans (congrArg Value.bool g311)) (by decide) ?_
       refine U.x rfl rfl rfl rfl ((L 8 rfl rfl).trans (congrArg Value.bool g311)) (by decide) ?_
       refine U.p rfl rfl (.inl rfl) (S.pickF rfl ((L 9 rfl rfl).trans (congrArg Value.bool g311)) K) ?_
       exact kk [(63, .bool false), (62, .tuple #[]), (61, .tuple #[]), (60, .tuple #[]), (59, .tuple #[]), (58, .tuple #[]), (57, .tuple #[]), (56, .tuple #[]), (55, .tuple #[]), (54, .tuple #[])] _ ⟨.tuple #[], .tuple #[], .tuple #[], .tuple #[], .tuple #[], .tuple #[], .tuple #[], .tuple #[], .tuple #[], rfl, (by rw [g311, Bool.false_and])⟩
    ·intro kk
     refine bcase (b := y122) (fun g312 => ?_) (fun g312 => ?_)
     ·skip
      refine U.p (v := .pointer (some ⟨b64, 0, none⟩)) rfl rfl (.inr ⟨_, _, _, rfl, rfl, ((L 0 rfl rfl).trans (congrArg Value.bool g312))⟩) (S.fieldAddr rfl (L 24 rfl rfl) Try.underlying45 rfl ti31 rfl rfl) ?_
      refine U.p (v := .pointer (some ⟨b64, 0, none⟩)) rfl rfl (.inr ⟨_, _, _, rfl, rfl, ((L 1 rfl rfl).trans (congrArg Value.bool g312))⟩) (S.fieldAddr rfl (L 0 rfl rfl) Try.underlying31 rfl ti3 rfl rfl) ?_
      refine U.k rfl rfl (.inr ⟨_, _, _, rfl, rfl, ((L 2 rfl rfl).trans (congrArg Value.bool g312))⟩) (S.load rfl (L 0 rfl rfl) Try.underlying3 rfl ((ow132.own (k := 3) rfl).cell rfl)) nd ?_
      refine U.p (v := .pointer (some ⟨b106, 0, none⟩)) rfl rfl (.inr ⟨_, _, _, rfl, rfl, ((L 3 rfl rfl).trans (congrArg Value.bool g312))⟩) (S.fieldAddr rfl (L 19 rfl rfl) Try.underlying45 rfl ti31 rfl rfl) ?_
      refine U.p (v := .pointer (some ⟨b106, 0, none⟩)) rfl rfl (.inr ⟨_, _, _, rfl, rfl, ((L 4 rfl rfl).trans (congrArg Value.bool g312))⟩) (S.fieldAddr rfl (L 0 rfl rfl) Try.underlying31 rfl ti3 rfl rfl) ?_
      refine U.k rfl rfl (.inr ⟨_, _, _, rfl, rfl, ((L 5 rfl rfl).trans (congrArg Value.bool g312))⟩) (S.load rfl (L 0 rfl rfl) Try.underlying3 rfl ((ow132.own (k := 0) rfl).cell rfl)) nd ?_
      refine U.p rfl rfl (.inr ⟨_, _, _, rfl, rfl, ((L 6 rfl rfl).trans (congrArg Value.bool g312))⟩) (S.neqI rfl (L 3 rfl rfl) (L 0 rfl rfl)) ?_
      refine U.p rfl rfl (.inl rfl) (S.pickT rfl ((L 7 rfl rfl).trans (congrArg Value.bool g312)) (L 0 rfl rfl)) ?_
      exact kk [(52, .bool (decide (x53.e.t ≠ x95.e.t))), (51, .bool (decide (x53.e.t ≠ x95.e.t))), (50, .int .i64 x95.e.t), (49, .pointer (some ⟨b106, 0, none⟩)), (48, .pointer (some ⟨b106, 0, none⟩)), (47, .int .i64 x53.e.t), (46, .pointer (some ⟨b64, 0, none⟩)), (45, .pointer (some ⟨b64, 0, none⟩))] _ ⟨.bool (decide (x53.e.t ≠ x95.e.t)), .int .i64 x95.e.t, .pointer (some ⟨b106, 0, none⟩), .pointer (some ⟨b106, 0, none⟩), .int .i64 x53.e.t, .pointer (some ⟨b64, 0, none⟩), .pointer (some ⟨b64, 0, none⟩), rfl, (by rw [g312, Bool.true_and])⟩
     ·skip
      refine U.x rfl rfl rfl rfl ((L 0 rfl rfl).trans (congrArg Value.bool g312)) (by decide) ?_
      refine U.x rfl rfl rfl rfl ((L 1 rfl rfl).trans (congrArg Value.bool g312)) (by decide) ?_
      refine U.x rfl rfl rfl rfl ((L 2 rfl rfl).trans (congrArg Value.bool g312)) (by decide) ?_
      refine U.x rfl rfl rfl rfl ((L 3 rfl rfl).trans (congrArg Value.bool g312)) (by decide) ?_
      refine U.x rfl rfl rfl rfl ((L 4 rfl rfl).trans (congrArg Value.bool g312)) (by decide) ?_
      refine U.x rfl rfl rfl rfl ((L 5 rfl rfl).trans (congrArg Value.bool g312)) (by decide) ?_
      refine U.x rfl rfl rfl rfl ((L 6 rfl rfl).trans (congrArg Value.bool g312)) (by decide) ?_
      refine U.p rfl rfl (.inl rfl) (S.pickF rfl ((L 7 rfl rfl).trans (congrArg Value.bool g312)) K) ?_
      exact kk [(52, .bool false), (51, .tuple #[]), (50, .tuple #[]), (49, .tuple #[]), (48, .tuple #[]), (47, .tuple #[]), (46, .tuple #[]), (45, .tuple #[])] _ ⟨.tuple #[], .tuple #[], .tuple #[], .tuple #[], .tuple #[], .tuple #[], .tuple #[], rfl, (by rw [g312, Bool.false_and])⟩
   ·intro kk
    refine bcase (b := !x114) (fun g313 => ?_) (fun g313 => ?_)
    ·have h314 := ifT g313 hy123
     have k315 : x114 = false := by simpa using g313
     refine U.x rfl rfl rfl rfl ((L 0 rfl rfl).trans (congrArg Value.bool g313)) (by decide) ?_
     refine U.x rfl rfl rfl rfl ((L 1 rfl rfl).trans (congrArg Value.bool g313)) (by decide) ?_
     refine U.x rfl rfl rfl rfl ((L 2 rfl rfl).trans (congrArg Value.bool g313)) (by decide) ?_
     refine U.x rfl rfl rfl rfl ((L 3 rfl rfl).trans (congrArg Value.bool g313)) (by decide) ?_
     refine U.x rfl rfl rfl rfl ((L 4 rfl rfl).trans (congrArg Value.bool g313)) (by decide) ?_
     refine U.p rfl rfl (.inl rfl) (S.pickT rfl ((L 5 rfl rfl).trans (congrArg Value.bool g313)) K) ?_
     have e316 := Option.some.inj h314
     subst e316
     exact kk [(42, .bool true), (41, .tuple #[]), (40, .tuple #[]), (39, .tuple #[]), (38, .tuple #[]), (37, .tuple #[])] _ ⟨.tuple #[], .tuple #[], .tuple #[], .tuple #[], .tuple #[], V118, rfl, (.refl _), rfl, ow121⟩
    ·have h317 := ifF g313 hy123
     have k318 : x114 = true := by simpa using g313
     refine U.p (v := .pointer (some ⟨b106, 0, none⟩)) rfl rfl (.inr ⟨_, _, _, rfl, rfl, ((L 0 rfl rfl).trans (congrArg Value.bool g313))⟩) (S.fieldAddr rfl (L 7 rfl rfl) Try.underlying45 rfl ti31 rfl rfl) ?_
     refine U.p (v := .pointer (some ⟨b106, 1, none⟩)) rfl rfl (.inr ⟨_, _, _, rfl, rfl, ((L 1 rfl rfl).trans (congrArg Value.bool g313))⟩) (S.fieldAddr rfl (L 0 rfl rfl) Try.underlying31 rfl ti29 rfl rfl) ?_
     refine U.k rfl rfl (.inr ⟨_, _, _, rfl, rfl, ((L 2 rfl rfl).trans (congrArg Value.bool g313))⟩) (S.loadN (cs := [.int .i64 x95.e.act.kind, .int .i64 x95.e.act.at_, .int .i64 x95.e.act.val, .int .i64 x95.e.act.what, .bool x95.e.act.volatile, .bool x95.e.act.final]) rfl (L 0 rfl rfl) Try.underlying29 rfl ti29 rfl (cellsOfOwn (ow121.own (k := 0) rfl) 1 rfl)) nd ?_
     obtain ⟨x319, hx320, h321⟩ := bindS h317
     refine O.call (V := V118) rfl rfl (.inr ⟨_, _, _, rfl, rfl, ((L 3 rfl rfl).trans (congrArg Value.bool g313))⟩) rfl en36 (aC (L 0 rfl rfl) aN) (wk_order_syncs V118 _ x95.e.act ow121 _ hx320) (fun _ _ _ _ => nd) (fun v322 V323 le324 hp325 => ?_)
     obtain ⟨rfl, ow326⟩ := hp325
     refine U.p rfl rfl (.inr ⟨_, _, _, rfl, rfl, ((L 4 rfl rfl).trans (congrArg Value.bool g313))⟩) (S.not rfl (L 0 rfl rfl)) ?_
     refine U.p rfl rfl (.inl rfl) (S.pickF rfl ((L 5 rfl rfl).trans (congrArg Value.bool g313)) (L 0 rfl rfl)) ?_
     have e327 := Option.some.inj h321
     subst e327
     exact kk [(42, .bool (!x319)), (41, .bool (!x319)), (40, .bool x319), (39, .agg #[.int .i64 x95.e.act.kind, .int .i64 x95.e.act.at_, .int .i64 x95.e.act.val, .int .i64 x95.e.act.what, .bool x95.e.act.volatile, .bool x95.e.act.final]), (38, .pointer (some ⟨b106, 1, none⟩)), (37, .pointer (some ⟨b106, 0, none⟩))] _ ⟨.bool (!x319), .bool x319, .agg #[.int .i64 x95.e.act.kind, .int .i64 x95.e.act.at_, .int .i64 x95.e.act.val, .int .i64 x95.e.act.what, .bool x95.e.act.volatile, .bool x95.e.act.final], .pointer (some ⟨b106, 1, none⟩), .pointer (some ⟨b106, 0, none⟩), V323, rfl, le324, rfl, ow326⟩
  ·have h328 := ifF c93 h92
   refine WP.exit ?_
   refine sqE (sqE (blkE (blkN (sqN ?_))))
   have h329 := exitS h328 e90
   refine WP.ureg rfl ?_
   refine U.p rfl rfl (.inl rfl) (S.add rfl (L 7 rfl rfl) K) ?_
   refine U.p rfl rfl (.inl rfl) (S.move rfl (L 0 rfl rfl)) ?_
   refine U.done (Nat.le_of_ble_eq_true rfl) ?_
   refine sqN ?_
   have ow330 := ow87.drop 2 rfl
   have f331 := f72.up le86
   have f332 := f31.up ((le66.trans le70).trans le86)
   exact ⟨_, V85, rfl, ⟨m46, Nat.lt_succ_self _, xs26, v27, xs29, v30, w64 (x32 + 1), rfl, (((le44.trans le66).trans le70).trans le86), f331, f332, ow330, backS h329 e48⟩, (allCons (L 3 rfl rfl) (allCons (L 4 rfl rfl) (allCons (L 7 rfl rfl) (allCons (L 8 rfl rfl) (allCons (L 0 rfl rfl) allNil)))))⟩
 ·have h333 := ifF c51 h50
  refine WP.exit ?_
  refine sqE (sqE (blkE (sqN ?_)))
  have h334 := exitS h333 e48
  refine WP.usreg rfl ?_
  refine U.p rfl rfl (.inl rfl) (S.assign rfl K) ?_
  refine U.done (Nat.le_of_ble_eq_true rfl) ?_
  refine WP.ret ?_
  refine fin.slot (.inr rfl) rfl (L 0 rfl rfl) ⟨V43, rfl, (((le9.trans le20).trans le34).trans le44), ?_⟩
  have ow335 := ow45.drop 1 rfl
  have e336 := Option.some.inj h334
  subst e336
  exact ⟨rfl, ow335⟩

set_option maxHeartbeats 4000000 in
set_option maxRecDepth 10000 in
theorem wk_law21_alive (V : Vw) (Rs : List At) (ow : Ow V (Rs)) (r : Bool) (h : law21_alive = some r) : ∃ v V', Cl Try.prog 0 8 #[] V.H v V'.H ∧ V.le V' ∧ (v = .bool r ∧ Ow V' (Rs)) := by
 refine Ct.of (Nat.zero_le _) Try.func8 rfl (Nat.le_of_ble_eq_true rfl) ?_
 unfold law21_alive at h
 refine WP.usreg rfl ?_
 refine U.p rfl rfl (.inl rfl) (S.assign rfl K) ?_
 refine U.done (Nat.le_of_ble_eq_true rfl) ?_
 refine WP.usreg rfl ?_
 obtain ⟨x1, hx2, h3⟩ := bindS h
 refine O.call (V := V) rfl rfl (.inl rfl) rfl en21 (aC K (aC K (aC K aN))) (wk_law21_w V _ 0 8 1 ow _ hx2) (fun _ _ _ _ => nd) (fun v4 V5 le6 hp7 => ?_)
 obtain ⟨rfl, ow8⟩ := hp7
 obtain ⟨x9, hx10, h11⟩ := bindS h3
 refine O.call (V := V5) rfl rfl (.inl rfl) rfl en22 (aC K (aC K (aC K aN))) (wk_law21_r V5 _ 0 16 0 ow8 _ hx10) (fun _ _ _ _ => nd) (fun v12 V13 le14 hp15 => ?_)
 obtain ⟨rfl, ow16⟩ := hp15
 refine O.lit (R := RT_TEvent) ow16 rfl rfl (.inl rfl) rfl Try.underlying27 ti31 rfl rfl rfl (Nat.le_of_ble_eq_true rfl) rfl (aC (L 1 rfl rfl) (aC (L 0 rfl rfl) aN)) (.cons _ _ x1 _ (by simp [topV]) rfl (.cons _ _ x9 _ (by simp [topV]) rfl .nil)) (fun _ => nd) (fun v17 V18 le19 ow20 => ?_)
 obtain ⟨x22, hx23, h24⟩ := bindS h11
 refine O.call (V := V18) rfl rfl (.inl rfl) rfl en21 (aC K (aC K (aC K aN))) (wk_law21_w V18 _ 1 16 2 ow20 _ hx23) (fun _ _ _ _ => nd) (fun v25 V26 le27 hp28 => ?_)
 obtain ⟨rfl, ow29⟩ := hp28
 obtain ⟨x30, hx31, h32⟩ := bindS h24
 refine O.call (V := V26) rfl rfl (.inl rfl) rfl en22 (aC K (aC K (aC K aN))) (wk_law21_r V26 _ 1 8 0 ow29 _ hx31) (fun _ _ _ _ => nd) (fun v33 V34 le35 hp36 => ?_)
 obtain ⟨rfl, ow37⟩ := hp36
 refine O.lit (R := RT_TEvent) ow37 rfl rfl (.inl rfl) rfl Try.underlying27 ti31 rfl rfl rfl (Nat.le_of_ble_eq_true rfl) rfl (aC (L 1 rfl rfl) (aC (L 0 rfl rfl) aN)) (.cons _ _ x22 _ (by simp [topV]) rfl (.cons _ _ x30 _ (by simp [topV]) rfl .nil)) (fun _ => nd) (fun v38 V39 le40 ow41 => ?_)
 have ow43 := ow41.pick 1 rfl
 refine O.litS (RI := (RO.os RT_TEvent)) (Bs := [.os RT_TEvent v17 [x1, x9], .os RT_TEvent v38 [x22, x30]]) (As := Rs) (us := ([v17, v38] : List Value)) (ys := [[x1, x9], [x22, x30]]) ow43 rfl rfl (.inl rfl) rfl Try.underlying25 ti27 rfl rfl (Nat.le_of_ble_eq_true rfl) rfl (aC (L 3 rfl rfl) (aC (L 0 rfl rfl) aN)) (fun p hp => all2 hp) (fun _ => nd) (fun v44 V45 le46 ow47 => ?_)
 refine U.p rfl rfl (.inl rfl) (S.assign rfl (L 0 rfl rfl)) ?_
 refine U.done (Nat.le_of_ble_eq_true rfl) ?_
 refine WP.usreg rfl ?_
 refine U.p rfl rfl (.inl rfl) (S.move rfl (L 0 rfl rfl)) ?_
 obtain ⟨x49, hx50, h51⟩ := bindS h32
 refine O.call (V := V45) rfl rfl (.inl rfl) rfl en14 (aC (L 0 rfl rfl) aN) (wk_order_Run_Serial V45 _ ([[x1, x9], [x22, x30]]) v44 ([v17, v38] : List Value) ow47 _ hx50) (fun _ _ _ _ => nd) (fun v52 V53 le54 hp55 => ?_)
 obtain ⟨rfl, ow56⟩ := hp55
 refine U.p rfl rfl (.inl rfl) (S.not rfl (L 0 rfl rfl)) ?_
 refine U.p rfl rfl (.inl rfl) (S.move rfl (L 0 rfl rfl)) ?_
 obtain ⟨y57, hy58, h59⟩ := bindS h51
 refine U.joinX 7 (fun e H => ∃ (u60 u61 : Value), ∃ V' : Vw, H = V'.H ∧ V53.le V' ∧ e = [(15, .bool y57), (14, u60), (13, u61)] ∧ Ow V' (.oss (RO.os RT_TEvent) v44 ([v17, v38] : List Value) ([[x1, x9], [x22, x30]]) :: Rs)) ?_ ?_
 ·rintro _ _ ⟨u60, u61, V62, rfl, le63, rfl, ow64⟩
  refine U.p rfl rfl (.inl rfl) (S.move rfl (L 0 rfl rfl)) ?_
  obtain ⟨y65, hy66, h67⟩ := bindS h59
  refine U.joinX 11 (fun e H => ∃ (u68 u69 : Value), ∃ V' : Vw, H = V'.H ∧ V62.le V' ∧ e = [(19, .bool y65), (18, u68), (17, u69)] ∧ Ow V' (.oss (RO.os RT_TEvent) v44 ([v17, v38] : List Value) ([[x1, x9], [x22, x30]]) :: Rs)) ?_ ?_
  ·rintro _ _ ⟨u68, u69, V70, rfl, le71, rfl, ow72⟩
   refine U.p rfl rfl (.inl rfl) (S.assign rfl (L 0 rfl rfl)) ?_
   refine U.done (Nat.le_of_ble_eq_true rfl) ?_
   refine WP.ret ?_
   refine fin.slot (.inr rfl) rfl (L 0 rfl rfl) ⟨V70, rfl, (((((((((le6.trans le14).trans le19).trans le27).trans le35).trans le40).trans le46).trans le54).trans le63).trans le71), ?_⟩
   have ow73 := ow72.drop 0 rfl
   have e74 := Option.some.inj h67
   subst e74
   exact ⟨rfl, ow73⟩
  ·intro kk
   refine bcase (b := y57) (fun g75 => ?_) (fun g75 => ?_)
   ·have h76 := ifT g75 hy66
    refine U.p rfl rfl (.inr ⟨_, _, _, rfl, rfl, ((L 0 rfl rfl).trans (congrArg Value.bool g75))⟩) (S.move rfl (L 8 rfl rfl)) ?_
    obtain ⟨x77, hx78, h79⟩ := bindS h76
    refine O.call (V := V62) rfl rfl (.inr ⟨_, _, _, rfl, rfl, ((L 1 rfl rfl).trans (congrArg Value.bool g75))⟩) rfl en17 (aC (L 0 rfl rfl) aN) (wk_order_Run_Racy V62 _ ([[x1, x9], [x22, x30]]) v44 ([v17, v38] : List Value) ow64 _ hx78) (fun _ _ _ _ => nd) (fun v80 V81 le82 hp83 => ?_)
    obtain ⟨rfl, ow84⟩ := hp83
    refine U.p rfl rfl (.inl rfl) (S.pickT rfl ((L 2 rfl rfl).trans (congrArg Value.bool g75)) (L 0 rfl rfl)) ?_
    have e85 := Option.some.inj h79
    subst e85
    exact kk [(19, .bool x77), (18, .bool x77), (17, v44)] _ ⟨.bool x77, v44, V81, rfl, le82, rfl, ow84⟩
   ·have h86 := ifF g75 hy66
    refine U.x rfl rfl rfl rfl ((L 0 rfl rfl).trans (congrArg Value.bool g75)) (by decide) ?_
    refine U.x rfl rfl rfl rfl ((L 1 rfl rfl).trans (congrArg Value.bool g75)) (by decide) ?_
    refine U.p rfl rfl (.inl rfl) (S.pickF rfl ((L 2 rfl rfl).trans (congrArg Value.bool g75)) K) ?_
    have e87 := Option.some.inj h86
    subst e87
    exact kk [(19, .bool false), (18, .tuple #[]), (17, .tuple #[])] _ ⟨.tuple #[], .tuple #[], V62, rfl, (.refl _), rfl, ow64⟩
 ·intro kk
  refine bcase (b := !x49) (fun g88 => ?_) (fun g88 => ?_)
  ·have h89 := ifT g88 hy58
   have k90 : x49 = false := by simpa using g88
   refine U.p rfl rfl (.inr ⟨_, _, _, rfl, rfl, ((L 0 rfl rfl).trans (congrArg Value.bool g88))⟩) (S.move rfl (L 4 rfl rfl)) ?_
   obtain ⟨x91, hx92, h93⟩ := bindS h89
   refine O.call (V := V53) rfl rfl (.inr ⟨_, _, _, rfl, rfl, ((L 1 rfl rfl).trans (congrArg Value.bool g88))⟩) rfl en11 (aC (L 0 rfl rfl) aN) (wk_order_Run_Coherent V53 _ ([[x1, x9], [x22, x30]]) v44 ([v17, v38] : List Value) ow56 _ hx92) (fun _ _ _ _ => nd) (fun v94 V95 le96 hp97 => ?_)
   obtain ⟨rfl, ow98⟩ := hp97
   refine U.p rfl rfl (.inl rfl) (S.pickT rfl ((L 2 rfl rfl).trans (congrArg Value.bool g88)) (L 0 rfl rfl)) ?_
   have e99 := Option.some.inj h93
   subst e99
   exact kk [(15, .bool x91), (14, .bool x91), (13, v44)] _ ⟨.bool x91, v44, V95, rfl, le96, rfl, ow98⟩
  ·have h100 := ifF g88 hy58
   have k101 : x49 = true := by simpa using g88
   refine U.x rfl rfl rfl rfl ((L 0 rfl rfl).trans (congrArg Value.bool g88)) (by decide) ?_
   refine U.x rfl rfl rfl rfl ((L 1 rfl rfl).trans (congrArg Value.bool g88)) (by decide) ?_
   refine U.p rfl rfl (.inl rfl) (S.pickF rfl ((L 2 rfl rfl).trans (congrArg Value.bool g88)) K) ?_
   have e102 := Option.some.inj h100
   subst e102
   exact kk [(15, .bool false), (14, .tuple #[]), (13, .tuple #[])] _ ⟨.tuple #[], .tuple #[], V53, rfl, (.refl _), rfl, ow56⟩

set_option maxHeartbeats 4000000 in
set_option maxRecDepth 10000 in
theorem wk_order_join_2 (V : Vw) (Rs : List At) (p0 : List Torder_node) (p1 : List Nat) (v1 : Value) (v3 : Value) (f2 : Fz RT_Torder_node V v1 p0) (ow : Ow V (.os (RT.fn fnt46) v3 p1 :: Rs)) (r : List (List Bool)) (h : order_join_2 p0 p1 = some r) : ∃ v V', Cl Try.prog 0 25 #[v1, v3] V.H v V'.H ∧ V.le V' ∧ (∃ (v5 : Value) (hs6 : List Value), v = v5 ∧ Ow V' (.oss (RO.os RT.bool) v5 hs6 r :: .os (RT.fn fnt46) v3 p1 :: Rs)) := by
 refine Ct.of (Nat.zero_le _) Try.func25 rfl (Nat.le_of_ble_eq_true rfl) ?_
 unfold order_join_2 at h
 refine WP.usreg rfl ?_
 refine U.p rfl rfl (.inl rfl) (S.assign rfl K) ?_
 refine U.done (Nat.le_of_ble_eq_true rfl) ?_
 refine WP.usreg rfl ?_
 refine U.p rfl rfl (.inl rfl) (S.move rfl (L 1 rfl rfl)) ?_
 refine U.p rfl rfl (.inl rfl) (f2.1.len rfl (L 0 rfl rfl) Try.underlying38) ?_
 obtain ⟨xs8, hx9, h10⟩ := bindS h
 refine O.makeS (RO.os RT.bool) ow rfl rfl (.inl rfl) rfl (L 0 rfl rfl) (L 0 rfl rfl) Try.underlying42 ti53 rfl rfl (Nat.le_of_ble_eq_true rfl) ⟨Nat.zero_le _, .inl ⟨rfl, rfl, rfl⟩⟩ hx9 (fun _ => nd) (fun v11 hs12 V13 le14 ow15 => ?_)
 refine U.p rfl rfl (.inl rfl) (S.assign rfl (L 0 rfl rfl)) ?_
 refine U.done (Nat.le_of_ble_eq_true rfl) ?_
 refine WP.seq ?_
 refine WP.usreg rfl ?_
 refine U.p rfl rfl (.inl rfl) (S.move rfl (L 5 rfl rfl)) ?_
 refine U.p rfl rfl (.inl rfl) (f2.1.len rfl (L 0 rfl rfl) Try.underlying38) ?_
 refine U.p rfl rfl (.inl rfl) (S.move rfl K) ?_
 refine U.done (Nat.le_of_ble_eq_true rfl) ?_
 refine WP.blk ?_
 have ow20 := ow15.pick 0 rfl
 have ow21 := ow20.pick 1 rfl
 unfold order_join_2_l1 at h10
 obtain ⟨n23, hn22⟩ := loopO_some.1 h10
 refine WP.loopI2 (fun n l V' => ∃ (hs17 : List Value) (xs18 : List (List Bool)) (x19 : Int), l = [(0, v1), (1, v3), (5, v11), (13, v1), (14, .int .i64 (p0.length : Int)), (15, .int .i64 x19)] ∧ V13.le V' ∧ Ow V' (.os (RT.fn fnt46) v3 p1 :: .oss (RO.os RT.bool) v11 hs17 xs18 :: Rs) ∧ itO (fun s => order_join_2_l1b p0 p1 s.1 s.2) n (xs18, x19) = some r) n23 _ ⟨hs12, xs8, 0, rfl, .refl _, ow21, hn22⟩ (allCons (L 8 rfl rfl) (allCons (L 9 rfl rfl) (allCons (L 3 rfl rfl) (allCons (L 2 rfl rfl) (allCons (L 1 rfl rfl) (allCons (L 0 rfl rfl) allNil)))))) ?_
 rintro _ _ V24 ⟨hs17, xs18, x19, rfl, le25, ow26, h30⟩
 obtain ⟨m27, q28, rfl, h31, e29⟩ := itS h30
 replace h31 : order_join_2_l1b p0 p1 xs18 x19 = some q28 := h31
 unfold order_join_2_l1b at h31
 refine WP.usreg rfl ?_
 refine U.p rfl rfl (.inl rfl) (S.lss rfl (L 5 rfl rfl) (L 4 rfl rfl)) ?_
 refine U.done (Nat.le_of_ble_eq_true rfl) ?_
 refine WP.seq ?_
 refine WP.cond _ (L 0 rfl rfl) rfl (fun c32 => ?_) (fun c32 => ?_)
 ·have h33 := ifT c32 h31
  refine WP.skip ?_
  refine sqN ?_
  refine WP.seq ?_
  refine WP.blk ?_
  refine WP.usreg rfl ?_
  refine U.p rfl rfl (.inl rfl) (S.move rfl (L 6 rfl rfl)) ?_
  obtain ⟨x34, hx35, h36⟩ := bindS h33
  obtain ⟨b37, o38, c39, cs40, hv41, hf42, hr43, hc44⟩ := f2.at hx35
  obtain rfl : cs40 = [.int .i64 x34.e.t, .int .i64 x34.e.act.kind, .int .i64 x34.e.act.at_, .int .i64 x34.e.act.val, .int .i64 x34.e.act.what, .bool x34.e.act.volatile, .bool x34.e.act.final, .int .i64 x34.e.rf, .int .i64 x34.e.id, .int .i64 x34.at_] := hr43
  refine U.p rfl rfl (.inl rfl) (S.index rfl ((L 5 rfl rfl).trans hv41) (L 7 rfl rfl) Try.underlying38 ti45 (ix_ge hx35) (ix_lt hx35)) ?_
  refine U.k rfl rfl (.inl rfl) (S.loadN (cs := [.int .i64 x34.e.t, .int .i64 x34.e.act.kind, .int .i64 x34.e.act.at_, .int .i64 x34.e.act.val, .int .i64 x34.e.act.what, .bool x34.e.act.volatile, .bool x34.e.act.final, .int .i64 x34.e.rf, .int .i64 x34.e.id, .int .i64 x34.at_]) rfl (L 0 rfl rfl) Try.underlying45 rfl ti45 rfl (fun j v hj => (le14.trans le25).cell hf42 (hc44 j v hj))) nd ?_
  refine O.alloc ow26 rfl rfl (.inl rfl) rfl ti45 rfl rfl nd (fun b45 V46 le47 ow48 => ?_)
  refine U.p rfl rfl (.inl rfl) (S.assign rfl (L 3 rfl rfl)) ?_
  refine O.store (k := 0) (cs := [.int .i64 x34.e.t, .int .i64 x34.e.act.kind, .int .i64 x34.e.act.at_, .int .i64 x34.e.act.val, .int .i64 x34.e.act.what, .bool x34.e.act.volatile, .bool x34.e.act.final, .int .i64 x34.e.rf, .int .i64 x34.e.id, .int .i64 x34.at_]) (c' := [.int .i64 x34.e.t, .int .i64 x34.e.act.kind, .int .i64 x34.e.act.at_, .int .i64 x34.e.act.val, .int .i64 x34.e.act.what, .bool x34.e.act.volatile, .bool x34.e.act.final, .int .i64 x34.e.rf, .int .i64 x34.e.id, .int .i64 x34.at_]) ow48 rfl rfl rfl (.inl rfl) rfl (L 1 rfl rfl) (L 2 rfl rfl) ti45 (by simp [topV]) rfl rfl (Nat.le_of_ble_eq_true rfl) rfl rfl nd (fun V50 le51 ow52 => ?_)
  refine U.done (Nat.le_of_ble_eq_true rfl) ?_
  refine WP.usreg rfl ?_
  refine U.p rfl rfl (.inl rfl) (S.move rfl (L 8 rfl rfl)) ?_
  refine U.p rfl rfl (.inl rfl) (S.move rfl (L 1 rfl rfl)) ?_
  refine U.p rfl rfl (.inl rfl) (S.move rfl (L 8 rfl rfl)) ?_
  refine U.p rfl rfl (.inl rfl) (f2.1.len rfl (L 0 rfl rfl) Try.underlying38) ?_
  obtain ⟨xs53, hx54, h55⟩ := bindS h36
  refine O.make (R := RT.bool) ow52 rfl rfl (.inl rfl) rfl (L 0 rfl rfl) (L 0 rfl rfl) Try.underlying53 ti4 rfl rfl rfl (Nat.le_of_ble_eq_true rfl) rfl hx54 (fun _ => nd) (fun v56 V57 le58 ow59 => ?_)
  obtain ⟨x61, hx62, h63⟩ := bindS h55
  obtain ⟨b64, o65, n66, c67, hv68⟩ := ow59.sspt (k := 3) rfl hx62
  refine U.p rfl rfl (.inl rfl) (S.index rfl ((L 4 rfl rfl).trans (ow59.sslen' (k := 3) rfl hv68)) (L 3 rfl rfl) Try.underlying42 ti53 (ix_ge hx62) (ix_lt hx62)) ?_
  obtain ⟨h69, hh70, ow71⟩ := ow59.ssopen (k := 3) rfl hx62
  have ow73 := ow71.drop 0 rfl
  refine O.storeH (k := 3) ow73 rfl hv68 rfl rfl (.inl rfl) rfl (L 0 rfl rfl) (L 1 rfl rfl) ti53 (ow73.osne (k := 0) rfl) (by rw [ow73.oscells (k := 0) rfl]) (ow73.osone (k := 0) rfl) (fun _ _ => nd) (fun V74 le75 ow76 => ?_)
  have hh77 := ow76.shset (k := 3) rfl
  refine U.done (Nat.le_of_ble_eq_true rfl) ?_
  refine WP.usreg rfl ?_
  refine U.p rfl rfl (.inl rfl) (S.move rfl (L 12 rfl rfl)) ?_
  refine U.p rfl rfl (.inl rfl) (f2.1.len rfl (L 0 rfl rfl) Try.underlying38) ?_
  refine U.p rfl rfl (.inl rfl) (S.move rfl K) ?_
  refine U.done (Nat.le_of_ble_eq_true rfl) ?_
  refine WP.blk ?_
  have ow78 := ow76.ssclose (k := 3) (j := 0) rfl rfl (by decide) hh77
  have ow81 := ow78.pick 0 rfl
  have ow82 := ow81.pick 2 rfl
  have ow83 := ow82.pick 2 rfl
  unfold order_join_2_l2 at h63
  obtain ⟨n85, hn84⟩ := loopO_some.1 h63
  refine WP.loopI2 (fun n l V' => ∃ (xs79 : List (List Bool)) (x80 : Int), l = [(0, v1), (1, v3), (5, v11), (6, .int .i64 x19), (7, .pointer (some ⟨b45, 0, none⟩)), (13, v1), (14, .int .i64 (p0.length : Int)), (15, .int .i64 x19), (26, v1), (27, .int .i64 (p0.length : Int)), (28, .int .i64 x80)] ∧ V74.le V' ∧ Ow V' (.os (RT.fn fnt46) v3 p1 :: .oss (RO.os RT.bool) v11 (hs17.set (Int.toNat x19) v56) xs79 :: .pt b45 (.cells 10 [.int .i64 x34.e.t, .int .i64 x34.e.act.kind, .int .i64 x34.e.act.at_, .int .i64 x34.e.act.val, .int .i64 x34.e.act.what, .bool x34.e.act.volatile, .bool x34.e.act.final, .int .i64 x34.e.rf, .int .i64 x34.e.id, .int .i64 x34.at_]) :: Rs) ∧ itO (fun s => order_join_2_l2b p0 p1 x19 x34 s.1 s.2) n (xs79, x80) = some q28) n85 _ ⟨xs18.set (Int.toNat x19) xs53, 0, rfl, .refl _, ow83, hn84⟩ (allCons (L 15 rfl rfl) (allCons (L 16 rfl rfl) (allCons (L 17 rfl rfl) (allCons (L 9 rfl rfl) (allCons (L 10 rfl rfl) (allCons (L 18 rfl rfl) (allCons (L 19 rfl rfl) (allCons (L 20 rfl rfl) (allCons (L 2 rfl rfl) (allCons (L 1 rfl rfl) (allCons (L 0 rfl rfl) allNil))))))))))) ?_
  rintro _ _ V86 ⟨xs79, x80, rfl, le87, ow88, h92⟩
  obtain ⟨m89, q90, rfl, h93, e91⟩ := itS h92
  replace h93 : order_join_2_l2b p0 p1 x19 x34 xs79 x80 = some q90 := h93
  unfold order_join_2_l2b at h93
  refine WP.usreg rfl ?_
  refine U.p rfl rfl (.inl rfl) (S.lss rfl (L 10 rfl rfl) (L 9 rfl rfl)) ?_
  refine U.done (Nat.le_of_ble_eq_true rfl) ?_
  refine WP.seq ?_
  refine WP.cond _ (L 0 rfl rfl) rfl (fun c94 => ?_) (fun c94 => ?_)
  ·have h95 := ifT c94 h93
   refine WP.skip ?_
   refine sqN ?_
   refine WP.seqI (fun l V' => ∃ (xs96 : List (List Bool)), l = [(0, v1), (1, v3), (5, v11), (6, .int .i64 x19), (7, .pointer (some ⟨b45, 0, none⟩)), (13, v1), (14, .int .i64 (p0.length : Int)), (15, .int .i64 x19), (26, v1), (27, .int .i64 (p0.length : Int)), (28, .int .i64 x80)] ∧ V86.le V' ∧ Ow V' (.os (RT.fn fnt46) v3 p1 :: .oss (RO.os RT.bool) v11 (hs17.set (Int.toNat x19) v56) xs96 :: .pt b45 (.cells 10 [.int .i64 x34.e.t, .int .i64 x34.e.act.kind, .int .i64 x34.e.act.at_, .int .i64 x34.e.act.val, .int .i64 x34.e.act.what, .bool x34.e.act.volatile, .bool x34.e.act.final, .int .i64 x34.e.rf, .int .i64 x34.e.id, .int .i64 x34.at_]) :: Rs) ∧ order_join_2_k1 x80 xs96 = some q90) ?_ ?_
   ·rintro _ V97 ⟨xs96, rfl, le98, ow99, h100⟩
    unfold order_join_2_k1 at h100
    refine WP.ureg rfl ?_
    refine U.p rfl rfl (.inl rfl) (S.add rfl (L 10 rfl rfl) K) ?_
    refine U.p rfl rfl (.inl rfl) (S.move rfl (L 0 rfl rfl)) ?_
    refine U.done (Nat.le_of_ble_eq_true rfl) ?_
    refine sqN ?_
    exact ⟨_, V97, rfl, ⟨m89, Nat.lt_succ_self _, xs96, w64 (x80 + 1), rfl, (le87.trans le98), ow99, backS h100 e91⟩, (allCons (L 2 rfl rfl) (allCons (L 3 rfl rfl) (allCons (L 4 rfl rfl) (allCons (L 5 rfl rfl) (allCons (L 6 rfl rfl) (allCons (L 7 rfl rfl) (allCons (L 8 rfl rfl) (allCons (L 9 rfl rfl) (allCons (L 10 rfl rfl) (allCons (L 11 rfl rfl) (allCons (L 0 rfl rfl) allNil)))))))))))⟩
   ·skip
    refine WP.blk ?_
    refine WP.usreg rfl ?_
    refine U.p rfl rfl (.inl rfl) (S.move rfl (L 11 rfl rfl)) ?_
    obtain ⟨x101, hx102, h103⟩ := bindS h95
    obtain ⟨b104, o105, c106, cs107, hv108, hf109, hr110, hc111⟩ := f2.at hx102
    obtain rfl : cs107 = [.int .i64 x101.e.t, .int .i64 x101.e.act.kind, .int .i64 x101.e.act.at_, .int .i64 x101.e.act.val, .int .i64 x101.e.act.what, .bool x101.e.act.volatile, .bool x101.e.act.final, .int .i64 x101.e.rf, .int .i64 x101.e.id, .int .i64 x101.at_] := hr110
    refine U.p rfl rfl (.inl rfl) (S.index rfl ((L 10 rfl rfl).trans hv108) (L 12 rfl rfl) Try.underlying38 ti45 (ix_ge hx102) (ix_lt hx102)) ?_
    refine U.k rfl rfl (.inl rfl) (S.loadN (cs := [.int .i64 x101.e.t, .int .i64 x101.e.act.kind, .int .i64 x101.e.act.at_, .int .i64 x101.e.act.val, .int .i64 x101.e.act.what, .bool x101.e.act.volatile, .bool x101.e.act.final, .int .i64 x101.e.rf, .int .i64 x101.e.id, .int .i64 x101.at_]) rfl (L 0 rfl rfl) Try.underlying45 rfl ti45 rfl (fun j v hj => ((((((le14.trans le25).trans le47).trans le51).trans le58).trans le75).trans le87).cell hf109 (hc111 j v hj))) nd ?_
    refine O.alloc ow88 rfl rfl (.inl rfl) rfl ti45 rfl rfl nd (fun b112 V113 le114 ow115 => ?_)
    refine U.p rfl rfl (.inl rfl) (S.assign rfl (L 3 rfl rfl)) ?_
    refine O.store (k := 0) (cs := [.int .i64 x101.e.t, .int .i64 x101.e.act.kind, .int .i64 x101.e.act.at_, .int .i64 x101.e.act.val, .int .i64 x101.e.act.what, .bool x101.e.act.volatile, .bool x101.e.act.final, .int .i64 x101.e.rf, .int .i64 x101.e.id, .int .i64 x101.at_]) (c' := [.int .i64 x101.e.t, .int .i64 x101.e.act.kind, .int .i64 x101.e.act.at_, .int .i64 x101.e.act.val, .int .i64 x101.e.act.what, .bool x101.e.act.volatile, .bool x101.e.act.final, .int .i64 x101.e.rf, .int .i64 x101.e.id, .int .i64 x101.at_]) ow115 rfl rfl rfl (.inl rfl) rfl (L 1 rfl rfl) (L 2 rfl rfl) ti45 (by simp [topV]) rfl rfl (Nat.le_of_ble_eq_true rfl) rfl rfl nd (fun V117 le118 ow119 => ?_)
    refine U.done (Nat.le_of_ble_eq_true rfl) ?_
    refine WP.udreg rfl rfl rfl ?_
    refine U.p rfl rfl (.inl rfl) (S.move rfl (L 8 rfl rfl)) ?_
    refine U.p rfl rfl (.inl rfl) (S.move rfl (L 10 rfl rfl)) ?_
    obtain ⟨x120, hx121, h122⟩ := bindS h103
    refine U.p rfl rfl (.inl rfl) (S.index rfl ((L 1 rfl rfl).trans (ow119.sslen' (k := 2) rfl hv68)) (L 0 rfl rfl) Try.underlying42 ti53 (ix_ge hx121) (ix_lt hx121)) ?_
    obtain ⟨h123, hh124, ow125⟩ := ow119.ssopen (k := 2) rfl hx121
    have hcl127 := ow125.shcell (k := 3) rfl hv68 hh124
    refine U.k rfl rfl (.inl rfl) (S.load rfl (L 0 rfl rfl) Try.underlying53 rfl hcl127.2) (fun _ => (okH.nil (fun r h => by cases h; exact hcl127.1))) ?_
    refine U.p rfl rfl (.inl rfl) (S.move rfl (L 4 rfl rfl)) ?_
    refine U.p rfl rfl (.inl rfl) (S.move rfl (L 14 rfl rfl)) ?_
    refine U.p rfl rfl (.inl rfl) (S.move rfl (L 6 rfl rfl)) ?_
    refine U.p rfl rfl (.inl rfl) (S.neqI rfl (L 1 rfl rfl) (L 0 rfl rfl)) ?_
    refine U.p rfl rfl (.inl rfl) (S.move rfl (L 0 rfl rfl)) ?_
    have ow128 := ow125.ssclose' (k := 3) (j := 0) rfl rfl (by decide) hh124 hx121
    refine bcase (b := decide (x19 ≠ x80)) (fun g129 => ?_) (fun g129 => ?_)
    ·have h130 := ifT g129 h122
     refine U.p rfl rfl (.inr ⟨_, _, _, rfl, rfl, ((L 0 rfl rfl).trans (congrArg Value.bool g129))⟩) (S.move rfl (L 16 rfl rfl)) ?_
     refine U.p (v := .func (.func 52) #[] #[.pointer (some ⟨b45, 0, none⟩), .pointer (some ⟨b112, 0, none⟩)]) rfl rfl (.inr ⟨_, _, _, rfl, rfl, ((L 1 rfl rfl).trans (congrArg Value.bool g129))⟩) (S.makeFunc' rfl (amN) (am2 (L 20 rfl rfl) (L 11 rfl rfl))) ?_
     have ow131 := ow128.pick 3 rfl
     have ow132 := ow131.pick 2 rfl
     obtain ⟨x133, hx134, h135⟩ := bindS h130
     obtain ⟨q141, ow142⟩ := ow132.toEx 3 rfl
     refine O.call (V := V117) rfl rfl (.inr ⟨_, _, _, rfl, rfl, ((L 2 rfl rfl).trans (congrArg Value.bool g129))⟩) rfl en51 (aC (L 1 rfl rfl) (aC (L 0 rfl rfl) aN)) (wk_slices_ContainsFunc V117 _ p1 x34 x101 v3 b45 10 b112 10 ow142 _ hx134) (fun v136 V137 le138 hp139 => by obtain ⟨rfl, ow140⟩ := hp139; exact (fun _ => (okH.cons (Or.inr (ow142.exsame (k := 3) (j := 3) rfl ow140 rfl (fun h => exb_ss hv68 h))) (okH.nil (fun r h => nomatch h))))) (fun v136 V137 le138 hp139 => ?_)
     obtain ⟨rfl, ow140⟩ := hp139
     have ow143 := ow140.unEx 3 rfl
     refine U.p rfl rfl (.inl rfl) (S.pickT rfl ((L 3 rfl rfl).trans (congrArg Value.bool g129)) (L 0 rfl rfl)) ?_
     obtain ⟨x144, hx145, h146⟩ := bindS h135
     obtain ⟨h147, hh148, ow149⟩ := ow143.ssopen (k := 3) rfl hx145
     obtain rfl : h147 = h123 := Option.some.inj (hh148.symm.trans hh124)
     obtain ⟨x151, hx152, h153⟩ := bindS h146
     obtain ⟨b154, o155, n156, c157, hv158⟩ := ow149.ospt (k := 0) rfl hx152
     obtain ⟨_, hv159, _⟩ := ow149.osel (k := 0) rfl hv158 hx152
     refine U.p rfl rfl (.inl rfl) (S.index rfl ((L 9 rfl rfl).trans hv159) (L 8 rfl rfl) Try.underlying53 ti4 (ix_ge hx152) (ix_lt hx152)) ?_
     obtain ⟨cs160, hv161, hlt162, hr163, hc164⟩ := ow149.osel (k := 0) rfl hv158 hx152
     obtain rfl : cs160 = [.bool x151] := hr163
     refine O.storeE (k := 0) (R := RT.bool) (j := 0) (y := x133) (cs := [.bool x133]) ow149 rfl hv161 rfl rfl (.inl rfl) rfl (L 0 rfl rfl) (L 1 rfl rfl) ti4 hx152 (by simp [topV]) rfl rfl rfl (full rfl) (fun H1 hs => (fun _ => (okH.cons rfl (okH.cons (Or.inl rfl) (okH.nil (fun r h => nomatch h)))))) (fun V165 le166 ow167 => ?_)
     refine U.done (Nat.le_of_ble_eq_true rfl) ?_
     refine blkN (sqN ?_)
     have ow168 := ow167.ssclose (k := 4) (j := 0) rfl rfl (by decide) hh124
     have ow169 := ow168.drop 2 rfl
     have ow170 := ow169.pick 1 rfl
     have ow171 := ow170.pick 2 rfl
     have ow172 := ow171.pick 2 rfl
     exact ⟨_, V165, rfl, ⟨xs79.set (Int.toNat x19) (x144.set (Int.toNat x80) x133), rfl, (((le114.trans le118).trans le138).trans le166), ow172, h153⟩, (allCons (L 20 rfl rfl) (allCons (L 21 rfl rfl) (allCons (L 22 rfl rfl) (allCons (L 23 rfl rfl) (allCons (L 24 rfl rfl) (allCons (L 25 rfl rfl) (allCons (L 26 rfl rfl) (allCons (L 27 rfl rfl) (allCons (L 28 rfl rfl) (allCons (L 29 rfl rfl) (allCons (L 30 rfl rfl) allNil)))))))))))⟩
    ·have h173 := ifF g129 h122
     refine U.x rfl rfl rfl rfl ((L 0 rfl rfl).trans (congrArg Value.bool g129)) (by decide) ?_
     refine U.x rfl rfl rfl rfl ((L 1 rfl rfl).trans (congrArg Value.bool g129)) (by decide) ?_
     refine U.x rfl rfl rfl rfl ((L 2 rfl rfl).trans (congrArg Value.bool g129)) (by decide) ?_
     refine U.p rfl rfl (.inl rfl) (S.pickF rfl ((L 3 rfl rfl).trans (congrArg Value.bool g129)) K) ?_
     obtain ⟨x174, hx175, h176⟩ := bindS h173
     obtain ⟨h177, hh178, ow179⟩ := ow128.ssopen (k := 2) rfl hx175
     obtain rfl : h177 = h123 := Option.some.inj (hh178.symm.trans hh124)
     obtain ⟨x181, hx182, h183⟩ := bindS h176
     obtain ⟨b184, o185, n186, c187, hv188⟩ := ow179.ospt (k := 0) rfl hx182
     obtain ⟨_, hv189, _⟩ := ow179.osel (k := 0) rfl hv188 hx182
     refine U.p rfl rfl (.inl rfl) (S.index rfl ((L 9 rfl rfl).trans hv189) (L 8 rfl rfl) Try.underlying53 ti4 (ix_ge hx182) (ix_lt hx182)) ?_
     obtain ⟨cs190, hv191, hlt192, hr193, hc194⟩ := ow179.osel (k := 0) rfl hv188 hx182
     obtain rfl : cs190 = [.bool x181] := hr193
     refine O.storeE (k := 0) (R := RT.bool) (j := 0) (y := false) (cs := [.bool false]) ow179 rfl hv191 rfl rfl (.inl rfl) rfl (L 0 rfl rfl) (L 1 rfl rfl) ti4 hx182 (by simp [topV]) rfl rfl rfl (full rfl) (fun H1 hs => (fun _ => (okH.cons (Or.inl rfl) (okH.nil (fun r h => nomatch h))))) (fun V195 le196 ow197 => ?_)
     refine U.done (Nat.le_of_ble_eq_true rfl) ?_
     refine blkN (sqN ?_)
     have ow198 := ow197.ssclose (k := 3) (j := 0) rfl rfl (by decide) hh124
     have ow199 := ow198.drop 0 rfl
     exact ⟨_, V195, rfl, ⟨xs79.set (Int.toNat x19) (x174.set (Int.toNat x80) false), rfl, ((le114.trans le118).trans le196), ow199, h183⟩, (allCons (L 20 rfl rfl) (allCons (L 21 rfl rfl) (allCons (L 22 rfl rfl) (allCons (L 23 rfl rfl) (allCons (L 24 rfl rfl) (allCons (L 25 rfl rfl) (allCons (L 26 rfl rfl) (allCons (L 27 rfl rfl) (allCons (L 28 rfl rfl) (allCons (L 29 rfl rfl) (allCons (L 30 rfl rfl) allNil)))))))))))⟩
  ·have h200 := ifF c94 h93
   refine WP.exit ?_
   refine sqE (sqE (blkE (blkN (sqN ?_))))
   have h201 := exitS h200 e91
   refine WP.ureg rfl ?_
   refine U.p rfl rfl (.inl rfl) (S.add rfl (L 8 rfl rfl) K) ?_
   refine U.p rfl rfl (.inl rfl) (S.move rfl (L 0 rfl rfl)) ?_
   refine U.done (Nat.le_of_ble_eq_true rfl) ?_
   refine sqN ?_
   have ow202 := ow88.drop 2 rfl
   exact ⟨_, V86, rfl, ⟨m27, Nat.lt_succ_self _, hs17.set (Int.toNat x19) v56, xs79, w64 (x19 + 1), rfl, (((((le25.trans le47).trans le51).trans le58).trans le75).trans le87), ow202, backS h201 e29⟩, (allCons (L 3 rfl rfl) (allCons (L 4 rfl rfl) (allCons (L 5 rfl rfl) (allCons (L 8 rfl rfl) (allCons (L 9 rfl rfl) (allCons (L 0 rfl rfl) allNil))))))⟩
 ·have h203 := ifF c32 h31
  refine WP.exit ?_
  refine sqE (sqE (blkE (sqN ?_)))
  have h204 := exitS h203 e29
  refine WP.usreg rfl ?_
  refine U.p rfl rfl (.inl rfl) (S.move rfl (L 3 rfl rfl)) ?_
  refine U.p rfl rfl (.inl rfl) (S.assign rfl (L 0 rfl rfl)) ?_
  refine U.done (Nat.le_of_ble_eq_true rfl) ?_
  refine WP.ret ?_
  refine fin.slot (.inr rfl) rfl (L 0 rfl rfl) ⟨V24, rfl, (le14.trans le25), ?_⟩
  have ow205 := ow26.pick 0 rfl
  have ow206 := ow205.pick 1 rfl
  have e207 := Option.some.inj h204
  subst e207
  exact ⟨v11, hs17, rfl, ow206⟩

set_option maxHeartbeats 4000000 in
set_option maxRecDepth 10000 in
theorem wk_order_Run_happens_2 (V : Vw) (Rs : List At) (p0 : List (List TEvent)) (p1 : List Torder_node) (v1 : Value) (hs2 : List Value) (v4 : Value) (f5 : Fz RT_Torder_node V v4 p1) (ow : Ow V (.oss (RO.os RT_TEvent) v1 hs2 p0 :: Rs)) (r : List (List Bool)) (h : order_Run_happens_2 p0 p1 = some r) : ∃ v V', Cl Try.prog 0 37 #[v1, v4] V.H v V'.H ∧ V.le V' ∧ (∃ (v6 : Value) (hs7 : List Value), v = v6 ∧ Ow V' (.oss (RO.os RT.bool) v6 hs7 r :: .oss (RO.os RT_TEvent) v1 hs2 p0 :: Rs)) := by
 refine Ct.of (Nat.zero_le _) Try.func37 rfl (Nat.le_of_ble_eq_true rfl) ?_
 unfold order_Run_happens_2 at h
 refine WP.usreg rfl ?_
 refine U.p rfl rfl (.inl rfl) (S.assign rfl K) ?_
 refine U.done (Nat.le_of_ble_eq_true rfl) ?_
 refine WP.usreg rfl ?_
 refine U.p rfl rfl (.inl rfl) (S.move rfl (L 2 rfl rfl)) ?_
 refine O.lit (R := (RT.fn fnt46)) ow rfl rfl (.inl rfl) rfl Try.underlying66 ti46 rfl rfl rfl (Nat.le_of_ble_eq_true rfl) rfl (aC Fu (aC Fu aN)) (.cons _ _ 1 _ (by simp [topV]) ⟨_, rfl, rfl, _, rfl⟩ (.cons _ _ 5 _ (by simp [topV]) ⟨_, rfl, rfl, _, rfl⟩ .nil)) (fun _ => nd) (fun v9 V10 le11 ow12 => ?_)
 have f14 := f5.up le11
 obtain ⟨x15, hx16, h17⟩ := bindS h
 refine O.call (V := V10) rfl rfl (.inl rfl) rfl en25 (aC (L 1 rfl rfl) (aC (L 0 rfl rfl) aN)) (wk_order_join_2 V10 _ p1 [1, 5] v4 v9 f14 ow12 _ hx16) (fun _ _ _ _ => nd) (fun v18 V19 le20 hp21 => ?_)
 obtain ⟨_, hs24, rfl, ow22⟩ := hp21
 obtain ⟨x26, hx27, h28⟩ := bindS h17
 refine O.call (V := V19) rfl rfl (.inl rfl) rfl en55 (aC (L 0 rfl rfl) aN) (wk_order_graph_closed V19 _ x15 v18 hs24 ow22 _ hx27) (fun _ _ _ _ => nd) (fun v29 V30 le31 hp32 => ?_)
 obtain ⟨_, hs35, rfl, ow33⟩ := hp32
 refine U.p rfl rfl (.inl rfl) (S.assign rfl (L 0 rfl rfl)) ?_
 refine U.done (Nat.le_of_ble_eq_true rfl) ?_
 refine WP.ret ?_
 refine fin.slot (.inr rfl) rfl (L 0 rfl rfl) ⟨V30, rfl, ((le11.trans le20).trans le31), ?_⟩
 have ow37 := ow33.drop 1 rfl
 have ow38 := ow37.drop 1 rfl
 have e39 := Option.some.inj h28
 subst e39
 exact ⟨v29, hs35, rfl, ow38⟩

set_option maxHeartbeats 4000000 in
set_option maxRecDepth 10000 in
theorem wk_slices_Index (V : Vw) (Rs : List At) (p0 : List Torder_node) (p1 : Torder_node) (v1 : Value) (f2 : Fz RT_Torder_node V v1 p0) (ow : Ow V (Rs)) (r : Int) (h : slices_Index p0 p1 = some r) : ∃ v V', Cl Try.prog 0 42 #[v1, .agg #[.int .i64 p1.e.t, .int .i64 p1.e.act.kind, .int .i64 p1.e.act.at_, .int .i64 p1.e.act.val, .int .i64 p1.e.act.what, .bool p1.e.act.volatile, .bool p1.e.act.final, .int .i64 p1.e.rf, .int .i64 p1.e.id, .int .i64 p1.at_]] V.H v V'.H ∧ V.le V' ∧ (v = .int .i64 r ∧ Ow V' (Rs)) := by
 refine Ct.of (Nat.zero_le _) Try.func42 rfl (Nat.le_of_ble_eq_true rfl) ?_
 unfold slices_Index at h
 refine WP.usreg rfl ?_
 refine O.box ow rfl rfl (.inl rfl) rfl (L 1 rfl rfl) (by simp [topV]) rfl nd (fun b3 V4 le5 ow6 => ?_)
 refine U.p rfl rfl (.inl rfl) (S.assign rfl K) ?_
 refine U.done (Nat.le_of_ble_eq_true rfl) ?_
 refine WP.seq ?_
 refine WP.usreg rfl ?_
 refine U.p rfl rfl (.inl rfl) (S.move rfl (L 2 rfl rfl)) ?_
 refine U.p rfl rfl (.inl rfl) (f2.1.len rfl (L 0 rfl rfl) Try.underlying38) ?_
 refine U.p rfl rfl (.inl rfl) (S.move rfl K) ?_
 refine U.done (Nat.le_of_ble_eq_true rfl) ?_
 refine WP.blk ?_
 unfold slices_Index_l1 at h
 obtain ⟨n10, hn9⟩ := loopO_some.1 h
 refine WP.loopI2 (fun n l V' => ∃ (x8 : Int), l = [(0, v1), (3, .pointer (some ⟨b3, 0, none⟩)), (7, .int .i64 (p0.length : Int)), (8, .int .i64 x8)] ∧ V4.le V' ∧ Ow V' (.pt b3 (.cells 0 [.int .i64 p1.e.t, .int .i64 p1.e.act.kind, .int .i64 p1.e.act.at_, .int .i64 p1.e.act.val, .int .i64 p1.e.act.what, .bool p1.e.act.volatile, .bool p1.e.act.final, .int .i64 p1.e.rf, .int .i64 p1.e.id, .int .i64 p1.at_]) :: Rs) ∧ itO (fun s => slices_Index_l1b p0 p1 s) n x8 = some r) n10 _ ⟨0, rfl, .refl _, ow6, hn9⟩ (allCons (L 5 rfl rfl) (allCons (L 4 rfl rfl) (allCons (L 1 rfl rfl) (allCons (L 0 rfl rfl) allNil)))) ?_
 rintro _ _ V11 ⟨x8, rfl, le12, ow13, h17⟩
 obtain ⟨m14, q15, rfl, h18, e16⟩ := itS h17
 replace h18 : slices_Index_l1b p0 p1 x8 = some q15 := h18
 unfold slices_Index_l1b at h18
 refine WP.usreg rfl ?_
 refine U.p rfl rfl (.inl rfl) (S.lss rfl (L 3 rfl rfl) (L 2 rfl rfl)) ?_
 refine U.done (Nat.le_of_ble_eq_true rfl) ?_
 refine WP.seq ?_
 refine WP.cond _ (L 0 rfl rfl) rfl (fun c19 => ?_) (fun c19 => ?_)
 ·have h20 := ifT c19 h18
  refine WP.skip ?_
  refine sqN ?_
  refine WP.seq ?_
  refine WP.blk ?_
  refine WP.usreg rfl ?_
  refine U.p rfl rfl (.inl rfl) (S.move rfl (L 4 rfl rfl)) ?_
  refine U.p rfl rfl (.inl rfl) (S.assign rfl (L 0 rfl rfl)) ?_
  refine U.done (Nat.le_of_ble_eq_true rfl) ?_
  refine WP.usdreg rfl rfl rfl ?_
  refine U.k rfl rfl (.inl rfl) (S.loadB rfl (L 4 rfl rfl) Try.underlying45 rfl ti45 (ow13.own (k := 0) rfl).get rfl) (fun _ => (okH.nil (fun r h => by cases h; exact (ow13.own (k := 0) rfl).lt))) ?_
  refine U.p rfl rfl (.inl rfl) (S.move rfl (L 4 rfl rfl)) ?_
  refine U.p rfl rfl (.inl rfl) (S.move rfl (L 2 rfl rfl)) ?_
  obtain ⟨x21, hx22, h23⟩ := bindS h20
  obtain ⟨b24, o25, c26, cs27, hv28, hf29, hr30, hc31⟩ := f2.at hx22
  obtain rfl : cs27 = [.int .i64 x21.e.t, .int .i64 x21.e.act.kind, .int .i64 x21.e.act.at_, .int .i64 x21.e.act.val, .int .i64 x21.e.act.what, .bool x21.e.act.volatile, .bool x21.e.act.final, .int .i64 x21.e.rf, .int .i64 x21.e.id, .int .i64 x21.at_] := hr30
  refine U.p rfl rfl (.inl rfl) (S.index rfl ((L 1 rfl rfl).trans hv28) (L 0 rfl rfl) Try.underlying38 ti45 (ix_ge hx22) (ix_lt hx22)) ?_
  refine U.k rfl rfl (.inl rfl) (S.loadN (cs := [.int .i64 x21.e.t, .int .i64 x21.e.act.kind, .int .i64 x21.e.act.at_, .int .i64 x21.e.act.val, .int .i64 x21.e.act.what, .bool x21.e.act.volatile, .bool x21.e.act.final, .int .i64 x21.e.rf, .int .i64 x21.e.id, .int .i64 x21.at_]) rfl (L 0 rfl rfl) Try.underlying45 rfl ti45 rfl (fun j v hj => (le5.trans le12).cell hf29 (hc31 j v hj))) (fun _ => (okH.cons trivial (okH.nil (fun r h => by cases h; exact (V11.wf _ ((le5.trans le12).sub _ hf29)))))) ?_
  refine U.p rfl rfl (.inl rfl) (S.eqlT (flA (flC (.int _ _) (flC (.int _ _) (flC (.int _ _) (flC (.int _ _) (flC (.int _ _) (flC (.bool _) (flC (.bool _) (flC (.int _ _) (flC (.int _ _) (flC (.int _ _) flN))))))))))) (flA (flC (.int _ _) (flC (.int _ _) (flC (.int _ _) (flC (.int _ _) (flC (.int _ _) (flC (.bool _) (flC (.bool _) (flC (.int _ _) (flC (.int _ _) (flC (.int _ _) flN))))))))))) rfl (L 4 rfl rfl) (L 0 rfl rfl) Try.underlying45 (by kernel_rfl) (by kernel_rfl) (.cons _ _ _ _ _ _ (by decide) (part_agg Try.underlying31 rfl ti31) (part_agg Try.underlying31 rfl ti31) (eqIn_struct Try.underlying31 (by kernel_rfl) (.cons _ _ _ _ _ _ (by decide) (part_cell Try.underlying3 rfl rfl) (part_cell Try.underlying3 rfl rfl) (eqIn_int Try.underlying3 9997) (.cons _ _ _ _ _ _ (by decide) (part_agg Try.underlying29 rfl ti29) (part_agg Try.underlying29 rfl ti29) (eqIn_struct Try.underlying29 (by kernel_rfl) (.cons _ _ _ _ _ _ (by decide) (part_cell Try.underlying3 rfl rfl) (part_cell Try.underlying3 rfl rfl) (eqIn_int Try.underlying3 9996) (.cons _ _ _ _ _ _ (by decide) (part_cell Try.underlying3 rfl rfl) (part_cell Try.underlying3 rfl rfl) (eqIn_int Try.underlying3 9996) (.cons _ _ _ _ _ _ (by decide) (part_cell Try.underlying3 rfl rfl) (part_cell Try.underlying3 rfl rfl) (eqIn_int Try.underlying3 9996) (.cons _ _ _ _ _ _ (by decide) (part_cell Try.underlying3 rfl rfl) (part_cell Try.underlying3 rfl rfl) (eqIn_int Try.underlying3 9996) (.cons _ _ _ _ _ _ (by decide) (part_cell Try.underlying4 rfl rfl) (part_cell Try.underlying4 rfl rfl) (eqIn_b Try.underlying4 9996) (.cons _ _ _ _ _ _ (by decide) (part_cell Try.underlying4 rfl rfl) (part_cell Try.underlying4 rfl rfl) (eqIn_b Try.underlying4 9996) .nil))))))) (.cons _ _ _ _ _ _ (by decide) (part_cell Try.underlying3 rfl rfl) (part_cell Try.underlying3 rfl rfl) (eqIn_int Try.underlying3 9997) (.cons _ _ _ _ _ _ (by decide) (part_cell Try.underlying3 rfl rfl) (part_cell Try.underlying3 rfl rfl) (eqIn_int Try.underlying3 9997) .nil))))) (.cons _ _ _ _ _ _ (by decide) (part_cell Try.underlying3 rfl rfl) (part_cell Try.underlying3 rfl rfl) (eqIn_int Try.underlying3 9998) .nil))) ?_
  refine U.done (Nat.le_of_ble_eq_true rfl) ?_
  refine WP.cond _ (L 0 rfl rfl) rfl (fun c32 => ?_) (fun c32 => ?_)
  ·have h33 := ifT c32 h23
   refine WP.usreg rfl ?_
   refine U.p rfl rfl (.inl rfl) (S.move rfl (L 6 rfl rfl)) ?_
   refine U.p rfl rfl (.inl rfl) (S.assign rfl (L 0 rfl rfl)) ?_
   refine U.done (Nat.le_of_ble_eq_true rfl) ?_
   refine WP.ret ?_
   refine blkR (sqR (sqR (blkR (sqR ?_))))
   have h34 := exitS h33 e16
   refine fin.slot (.inr rfl) rfl (L 0 rfl rfl) ⟨V11, rfl, (le5.trans le12), ?_⟩
   have ow35 := ow13.drop 0 rfl
   have e36 := Option.some.inj h34
   subst e36
   exact ⟨rfl, ow35⟩
  ·have h37 := ifF c32 h23
   refine WP.skip ?_
   refine blkN (sqN ?_)
   refine WP.ureg rfl ?_
   refine U.p rfl rfl (.inl rfl) (S.add rfl (L 12 rfl rfl) K) ?_
   refine U.p rfl rfl (.inl rfl) (S.move rfl (L 0 rfl rfl)) ?_
   refine U.done (Nat.le_of_ble_eq_true rfl) ?_
   refine sqN ?_
   exact ⟨_, V11, rfl, ⟨m14, Nat.lt_succ_self _, w64 (x8 + 1), rfl, le12, ow13, backS h37 e16⟩, (allCons (L 11 rfl rfl) (allCons (L 12 rfl rfl) (allCons (L 13 rfl rfl) (allCons (L 0 rfl rfl) allNil))))⟩
 ·have h38 := ifF c19 h18
  refine WP.exit ?_
  refine sqE (sqE (blkE (sqN ?_)))
  have h39 := exitS h38 e16
  refine WP.usreg rfl ?_
  refine U.p rfl rfl (.inl rfl) (S.assign rfl K) ?_
  refine U.done (Nat.le_of_ble_eq_true rfl) ?_
  refine WP.ret ?_
  refine fin.slot (.inr rfl) rfl (L 0 rfl rfl) ⟨V11, rfl, (le5.trans le12), ?_⟩
  have ow40 := ow13.drop 0 rfl
  have e41 := Option.some.inj h39
  subst e41
  exact ⟨rfl, ow40⟩

set_option maxHeartbeats 4000000 in
set_option maxRecDepth 10000 in
theorem wk_order_Run_Consistent_c1 (V : Vw) (Rs : List At) (p0 : Torder_node) (p1 : Torder_node) (p2 : List (List Bool)) (p3 : List Torder_node) (p4 : Int) (b1 : Nat) (z2 : Nat) (b4 : Nat) (z5 : Nat) (v7 : Value) (hs8 : List Value) (b10 : Nat) (z11 : Nat) (v13 : Value) (b15 : Nat) (z16 : Nat) (f14 : Fz RT_Torder_node V v13 p3) (ow : Ow V (.pt b1 (.cells z2 [.int .i64 p1.e.t, .int .i64 p1.e.act.kind, .int .i64 p1.e.act.at_, .int .i64 p1.e.act.val, .int .i64 p1.e.act.what, .bool p1.e.act.volatile, .bool p1.e.act.final, .int .i64 p1.e.rf, .int .i64 p1.e.id, .int .i64 p1.at_]) :: .pt b4 (.cells z5 [v7]) :: .oss (RO.os RT.bool) v7 hs8 p2 :: .pt b10 (.cells z11 [v13]) :: .pt b15 (.cells z16 [.int .i64 p4]) :: Rs)) (r : Bool) (h : order_Run_Consistent_c1 p0 p1 p2 p3 p4 = some r) : ∃ v V', Cl Try.prog 0 41 #[.agg #[.int .i64 p0.e.t, .int .i64 p0.e.act.kind, .int .i64 p0.e.act.at_, .int .i64 p0.e.act.val, .int .i64 p0.e.act.what, .bool p0.e.act.volatile, .bool p0.e.act.final, .int .i64 p0.e.rf, .int .i64 p0.e.id, .int .i64 p0.at_], .pointer (some ⟨b1, 0, none⟩), .pointer (some ⟨b4, 0, none⟩), .pointer (some ⟨b10, 0, none⟩), .pointer (some ⟨b15, 0, none⟩)] V.H v V'.H ∧ V.le V' ∧ (v = .bool r ∧ Ow V' (.pt b1 (.cells z2 [.int .i64 p1.e.t, .int .i64 p1.e.act.kind, .int .i64 p1.e.act.at_, .int .i64 p1.e.act.val, .int .i64 p1.e.act.what, .bool p1.e.act.volatile, .bool p1.e.act.final, .int .i64 p1.e.rf, .int .i64 p1.e.id, .int .i64 p1.at_]) :: .pt b4 (.cells z5 [v7]) :: .oss (RO.os RT.bool) v7 hs8 p2 :: .pt b10 (.cells z11 [v13]) :: .pt b15 (.cells z16 [.int .i64 p4]) :: Rs)) := by
 refine Ct.of (Nat.zero_le _) Try.func41 rfl (Nat.le_of_ble_eq_true rfl) ?_
 unfold order_Run_Consistent_c1 at h
 refine WP.usreg rfl ?_
 refine O.box ow rfl rfl (.inl rfl) rfl (L 0 rfl rfl) (by simp [topV]) rfl nd (fun b18 V19 le20 ow21 => ?_)
 refine U.p rfl rfl (.inl rfl) (S.assign rfl K) ?_
 refine U.done (Nat.le_of_ble_eq_true rfl) ?_
 refine WP.seqI (fun l V' => ∃ (x23 : Bool), l = [(6, .bool x23)] ∧ V19.le V' ∧ Ow V' (.pt b1 (.cells z2 [.int .i64 p1.e.t, .int .i64 p1.e.act.kind, .int .i64 p1.e.act.at_, .int .i64 p1.e.act.val, .int .i64 p1.e.act.what, .bool p1.e.act.volatile, .bool p1.e.act.final, .int .i64 p1.e.rf, .int .i64 p1.e.id, .int .i64 p1.at_]) :: .pt b4 (.cells z5 [v7]) :: .oss (RO.os RT.bool) v7 hs8 p2 :: .pt b10 (.cells z11 [v13]) :: .pt b15 (.cells z16 [.int .i64 p4]) :: Rs) ∧ order_Run_Consistent_c1_k1 x23 = some r) ?_ ?_
 ·rintro _ V24 ⟨x23, rfl, le25, ow26, h27⟩
  unfold order_Run_Consistent_c1_k1 at h27
  refine WP.ret ?_
  refine fin.slot (.inr rfl) rfl (L 0 rfl rfl) ⟨V24, rfl, (le20.trans le25), ?_⟩
  have e28 := Option.some.inj h27
  subst e28
  exact ⟨rfl, ow26⟩
 ·skip
  refine WP.udreg rfl rfl rfl ?_
  refine U.k rfl rfl (.inl rfl) (S.loadB rfl (L 1 rfl rfl) Try.underlying45 rfl ti45 (ow21.own (k := 0) rfl).get rfl) (fun _ => (okH.nil (fun r h => by cases h; exact (ow21.own (k := 0) rfl).lt))) ?_
  refine U.k rfl rfl (.inl rfl) (S.loadB rfl (L 4 rfl rfl) Try.underlying45 rfl ti45 (ow21.own (k := 1) rfl).get rfl) (fun _ => (okH.cons trivial (okH.nil (fun r h => by cases h; exact (ow21.own (k := 1) rfl).lt)))) ?_
  obtain ⟨x29, hx30, h31⟩ := bindS h
  refine O.call (V := V19) rfl rfl (.inl rfl) rfl en28 (aC (L 1 rfl rfl) (aC (L 0 rfl rfl) aN)) (wk_order_rf V19 _ p0 p1 ow21 _ hx30) (fun v32 V33 le34 hp35 => by obtain ⟨rfl, ow36⟩ := hp35; exact (fun _ => (okH.cons (Or.inl rfl) (okH.cons (Or.inl rfl) (okH.nil (fun r h => nomatch h)))))) (fun v32 V33 le34 hp35 => ?_)
  obtain ⟨rfl, ow36⟩ := hp35
  refine U.p rfl rfl (.inl rfl) (S.move rfl (L 0 rfl rfl)) ?_
  refine bcase (b := x29) (fun g37 => ?_) (fun g37 => ?_)
  ·have h38 := ifT g37 h31
   refine U.k rfl rfl (.inr ⟨_, _, _, rfl, rfl, ((L 0 rfl rfl).trans (congrArg Value.bool g37))⟩) (S.load rfl (L 8 rfl rfl) Try.underlying42 rfl ((ow36.own (k := 2) rfl).cell rfl)) (fun _ => (okH.cons (Or.inl rfl) (okH.cons trivial (okH.cons trivial (okH.nil (fun r h => by cases h; exact (ow36.own (k := 2) rfl).lt)))))) ?_
   refine U.k rfl rfl (.inr ⟨_, _, _, rfl, rfl, ((L 1 rfl rfl).trans (congrArg Value.bool g37))⟩) (S.load rfl (L 10 rfl rfl) Try.underlying38 rfl ((ow36.own (k := 4) rfl).cell rfl)) (fun _ => (okH.cons trivial (okH.cons (Or.inl rfl) (okH.cons trivial (okH.cons trivial (okH.nil (fun r h => by cases h; exact (ow36.own (k := 4) rfl).lt))))))) ?_
   refine U.k rfl rfl (.inr ⟨_, _, _, rfl, rfl, ((L 2 rfl rfl).trans (congrArg Value.bool g37))⟩) (S.loadB rfl (L 7 rfl rfl) Try.underlying45 rfl ti45 (ow36.own (k := 0) rfl).get rfl) (fun _ => (okH.cons trivial (okH.cons trivial (okH.cons (Or.inl rfl) (okH.cons trivial (okH.cons trivial (okH.nil (fun r h => by cases h; exact (ow36.own (k := 0) rfl).lt)))))))) ?_
   have f39 := f14.up (le20.trans le34)
   obtain ⟨x40, hx41, h42⟩ := bindS h38
   refine O.call (V := V33) rfl rfl (.inr ⟨_, _, _, rfl, rfl, ((L 3 rfl rfl).trans (congrArg Value.bool g37))⟩) rfl en42 (aC (L 1 rfl rfl) (aC (L 0 rfl rfl) aN)) (wk_slices_Index V33 _ p3 p0 v13 f39 ow36 _ hx41) (fun v43 V44 le45 hp46 => by obtain ⟨rfl, ow47⟩ := hp46; exact (fun _ => (okH.cons (Or.inl rfl) (okH.cons (Or.inl rfl) (okH.cons (Or.inr (((ow47.own (k := 2) rfl).get.trans (ow36.own (k := 2) rfl).get.symm))) (okH.cons rfl (okH.cons (Or.inl rfl) (okH.cons (Or.inl rfl) (okH.nil (fun r h => nomatch h)))))))))) (fun v43 V44 le45 hp46 => ?_)
   obtain ⟨rfl, ow47⟩ := hp46
   obtain ⟨x48, hx49, h50⟩ := bindS h42
   obtain ⟨b51, o52, n53, c54, hv55⟩ := ow47.sspt (k := 3) rfl hx49
   refine U.p rfl rfl (.inr ⟨_, _, _, rfl, rfl, ((L 4 rfl rfl).trans (congrArg Value.bool g37))⟩) (S.index rfl ((L 3 rfl rfl).trans (ow47.sslen' (k := 3) rfl hv55)) (L 0 rfl rfl) Try.underlying42 ti53 (ix_ge hx49) (ix_lt hx49)) ?_
   obtain ⟨h56, hh57, ow58⟩ := ow47.ssopen (k := 3) rfl hx49
   have hcl60 := ow58.shcell (k := 4) rfl hv55 hh57
   refine U.k rfl rfl (.inr ⟨_, _, _, rfl, rfl, ((L 5 rfl rfl).trans (congrArg Value.bool g37))⟩) (S.load rfl (L 0 rfl rfl) Try.underlying53 rfl hcl60.2) (fun _ => (okH.cons (Or.inl rfl) (okH.cons trivial (okH.cons trivial (okH.cons trivial (okH.cons (Or.inl rfl) (okH.cons trivial (okH.cons trivial (okH.nil (fun r h => by cases h; exact hcl60.1)))))))))) ?_
   refine U.k rfl rfl (.inr ⟨_, _, _, rfl, rfl, ((L 6 rfl rfl).trans (congrArg Value.bool g37))⟩) (S.load rfl (L 16 rfl rfl) Try.underlying3 rfl ((ow58.own (k := 6) rfl).cell rfl)) (fun _ => (okH.cons trivial (okH.cons (Or.inr ((ow47.own (k := 5) rfl).get.trans (ow36.own (k := 5) rfl).get.symm)) (okH.cons trivial (okH.cons trivial (okH.cons trivial (okH.cons (Or.inl rfl) (okH.cons trivial (okH.cons trivial (okH.nil (fun r h => by cases h; exact (ow58.own (k := 6) rfl).lt))))))))))) ?_
   obtain ⟨x61, hx62, h63⟩ := bindS h50
   obtain ⟨b64, o65, n66, c67, hv68⟩ := ow58.ospt (k := 0) rfl hx62
   obtain ⟨_, hv69, _⟩ := ow58.osel (k := 0) rfl hv68 hx62
   refine U.p rfl rfl (.inr ⟨_, _, _, rfl, rfl, ((L 7 rfl rfl).trans (congrArg Value.bool g37))⟩) (S.index rfl ((L 1 rfl rfl).trans hv69) (L 0 rfl rfl) Try.underlying53 ti4 (ix_ge hx62) (ix_lt hx62)) ?_
   obtain ⟨cs70, hv71, hlt72, hr73, hc74⟩ := ow58.osel (k := 0) rfl hv68 hx62
   obtain rfl : cs70 = [.bool x61] := hr73
   refine U.k rfl rfl (.inr ⟨_, _, _, rfl, rfl, ((L 8 rfl rfl).trans (congrArg Value.bool g37))⟩) (S.load rfl (L 0 rfl rfl) Try.underlying4 rfl (hc74 0 _ rfl)) (fun _ => (okH.cons trivial (okH.cons trivial (okH.cons (Or.inl rfl) (okH.cons trivial (okH.cons trivial (okH.cons trivial (okH.cons (Or.inl rfl) (okH.cons trivial (okH.cons trivial (okH.nil (fun r h => by cases h; exact hlt72)))))))))))) ?_
   refine U.p rfl rfl (.inl rfl) (S.pickT rfl ((L 9 rfl rfl).trans (congrArg Value.bool g37)) (L 0 rfl rfl)) ?_
   refine U.p rfl rfl (.inl rfl) (S.assign rfl (L 0 rfl rfl)) ?_
   refine U.done (Nat.le_of_ble_eq_true rfl) ?_
   refine sqN ?_
   have ow75 := ow58.ssclose' (k := 4) (j := 0) rfl rfl (by decide) hh57 hx49
   have ow76 := ow75.drop 0 rfl
   exact ⟨_, V44, rfl, ⟨x61, rfl, (le34.trans le45), ow76, h63⟩, (allCons (L 0 rfl rfl) allNil)⟩
  ·have h77 := ifF g37 h31
   refine U.x rfl rfl rfl rfl ((L 0 rfl rfl).trans (congrArg Value.bool g37)) (by decide) ?_
   refine U.x rfl rfl rfl rfl ((L 1 rfl rfl).trans (congrArg Value.bool g37)) (by decide) ?_
   refine U.x rfl rfl rfl rfl ((L 2 rfl rfl).trans (congrArg Value.bool g37)) (by decide) ?_
   refine U.x rfl rfl rfl rfl ((L 3 rfl rfl).trans (congrArg Value.bool g37)) (by decide) ?_
   refine U.x rfl rfl rfl rfl ((L 4 rfl rfl).trans (congrArg Value.bool g37)) (by decide) ?_
   refine U.x rfl rfl rfl rfl ((L 5 rfl rfl).trans (congrArg Value.bool g37)) (by decide) ?_
   refine U.x rfl rfl rfl rfl ((L 6 rfl rfl).trans (congrArg Value.bool g37)) (by decide) ?_
   refine U.x rfl rfl rfl rfl ((L 7 rfl rfl).trans (congrArg Value.bool g37)) (by decide) ?_
   refine U.x rfl rfl rfl rfl ((L 8 rfl rfl).trans (congrArg Value.bool g37)) (by decide) ?_
   refine U.p rfl rfl (.inl rfl) (S.pickF rfl ((L 9 rfl rfl).trans (congrArg Value.bool g37)) K) ?_
   refine U.p rfl rfl (.inl rfl) (S.assign rfl (L 0 rfl rfl)) ?_
   refine U.done (Nat.le_of_ble_eq_true rfl) ?_
   refine sqN ?_
   have ow78 := ow36.drop 0 rfl
   exact ⟨_, V33, rfl, ⟨false, rfl, le34, ow78, h77⟩, (allCons (L 0 rfl rfl) allNil)⟩

set_option maxHeartbeats 4000000 in
set_option maxRecDepth 10000 in
theorem wk_slices_IndexFunc_2 (V : Vw) (Rs : List At) (p0 : List Torder_node) (p1_10 : Torder_node) (p1_11 : List (List Bool)) (p1_12 : List Torder_node) (p1_13 : Int) (v1 : Value) (b3 : Nat) (z4 : Nat) (b6 : Nat) (z7 : Nat) (v9 : Value) (hs10 : List Value) (b12 : Nat) (z13 : Nat) (v15 : Value) (b17 : Nat) (z18 : Nat) (f2 : Fz RT_Torder_node V v1 p0) (f16 : Fz RT_Torder_node V v15 p1_12) (ow : Ow V (.pt b3 (.cells z4 [.int .i64 p1_10.e.t, .int .i64 p1_10.e.act.kind, .int .i64 p1_10.e.act.at_, .int .i64 p1_10.e.act.val, .int .i64 p1_10.e.act.what, .bool p1_10.e.act.volatile, .bool p1_10.e.act.final, .int .i64 p1_10.e.rf, .int .i64 p1_10.e.id, .int .i64 p1_10.at_]) :: .pt b6 (.cells z7 [v9]) :: .oss (RO.os RT.bool) v9 hs10 p1_11 :: .pt b12 (.cells z13 [v15]) :: .pt b17 (.cells z18 [.int .i64 p1_13]) :: Rs)) (r : Int) (h : slices_IndexFunc_2 p0 p1_10 p1_11 p1_12 p1_13 = some r) : ∃ v V', Cl Try.prog 0 56 #[v1, .func (.func 41) #[] #[.pointer (some ⟨b3, 0, none⟩), .pointer (some ⟨b6, 0, none⟩), .pointer (some ⟨b12, 0, none⟩), .pointer (some ⟨b17, 0, none⟩)]] V.H v V'.H ∧ V.le V' ∧ (v = .int .i64 r ∧ Ow V' (.pt b3 (.cells z4 [.int .i64 p1_10.e.t, .int .i64 p1_10.e.act.kind, .int .i64 p1_10.e.act.at_, .int .i64 p1_10.e.act.val, .int .i64 p1_10.e.act.what, .bool p1_10.e.act.volatile, .bool p1_10.e.act.final, .int .i64 p1_10.e.rf, .int .i64 p1_10.e.id, .int .i64 p1_10.at_]) :: .pt b6 (.cells z7 [v9]) :: .oss (RO.os RT.bool) v9 hs10 p1_11 :: .pt b12 (.cells z13 [v15]) :: .pt b17 (.cells z18 [.int .i64 p1_13]) :: Rs)) := by
 refine Ct.of (Nat.zero_le _) Try.func56 rfl (Nat.le_of_ble_eq_true rfl) ?_
 unfold slices_IndexFunc_2 at h
 refine WP.usreg rfl ?_
 refine U.p rfl rfl (.inl rfl) (S.assign rfl K) ?_
 refine U.done (Nat.le_of_ble_eq_true rfl) ?_
 refine WP.seq ?_
 refine WP.usreg rfl ?_
 refine U.p rfl rfl (.inl rfl) (S.move rfl (L 1 rfl rfl)) ?_
 refine U.p rfl rfl (.inl rfl) (f2.1.len rfl (L 0 rfl rfl) Try.underlying38) ?_
 refine U.p rfl rfl (.inl rfl) (S.move rfl K) ?_
 refine U.done (Nat.le_of_ble_eq_true rfl) ?_
 refine WP.blk ?_
 unfold slices_IndexFunc_2_l1 at h
 obtain ⟨n22, hn21⟩ := loopO_some.1 h
 refine WP.loopI2 (fun n l V' => ∃ (x20 : Int), l = [(0, v1), (1, .func (.func 41) #[] #[.pointer (some ⟨b3, 0, none⟩), .pointer (some ⟨b6, 0, none⟩), .pointer (some ⟨b12, 0, none⟩), .pointer (some ⟨b17, 0, none⟩)]), (7, .int .i64 (p0.length : Int)), (8, .int .i64 x20)] ∧ V.le V' ∧ Ow V' (.pt b3 (.cells z4 [.int .i64 p1_10.e.t, .int .i64 p1_10.e.act.kind, .int .i64 p1_10.e.act.at_, .int .i64 p1_10.e.act.val, .int .i64 p1_10.e.act.what, .bool p1_10.e.act.volatile, .bool p1_10.e.act.final, .int .i64 p1_10.e.rf, .int .i64 p1_10.e.id, .int .i64 p1_10.at_]) :: .pt b6 (.cells z7 [v9]) :: .oss (RO.os RT.bool) v9 hs10 p1_11 :: .pt b12 (.cells z13 [v15]) :: .pt b17 (.cells z18 [.int .i64 p1_13]) :: Rs) ∧ itO (fun s => slices_IndexFunc_2_l1b p0 p1_10 p1_11 p1_12 p1_13 s) n x20 = some r) n22 _ ⟨0, rfl, .refl _, ow, hn21⟩ (allCons (L 4 rfl rfl) (allCons (L 5 rfl rfl) (allCons (L 1 rfl rfl) (allCons (L 0 rfl rfl) allNil)))) ?_
 rintro _ _ V23 ⟨x20, rfl, le24, ow25, h29⟩
 obtain ⟨m26, q27, rfl, h30, e28⟩ := itS h29
 replace h30 : slices_IndexFunc_2_l1b p0 p1_10 p1_11 p1_12 p1_13 x20 = some q27 := h30
 unfold slices_IndexFunc_2_l1b at h30
 refine WP.usreg rfl ?_
 refine U.p rfl rfl (.inl rfl) (S.lss rfl (L 3 rfl rfl) (L 2 rfl rfl)) ?_
 refine U.done (Nat.le_of_ble_eq_true rfl) ?_
 refine WP.seq ?_
 refine WP.cond _ (L 0 rfl rfl) rfl (fun c31 => ?_) (fun c31 => ?_)
 ·have h32 := ifT c31 h30
  refine WP.skip ?_
  refine sqN ?_
  refine WP.seq ?_
  refine WP.blk ?_
  refine WP.usreg rfl ?_
  refine U.p rfl rfl (.inl rfl) (S.move rfl (L 4 rfl rfl)) ?_
  refine U.p rfl rfl (.inl rfl) (S.assign rfl (L 0 rfl rfl)) ?_
  refine U.done (Nat.le_of_ble_eq_true rfl) ?_
  refine WP.usreg rfl ?_
  refine U.p rfl rfl (.inl rfl) (S.move rfl (L 4 rfl rfl)) ?_
  refine U.p rfl rfl (.inl rfl) (S.move rfl (L 4 rfl rfl)) ?_
  refine U.p rfl rfl (.inl rfl) (S.move rfl (L 2 rfl rfl)) ?_
  obtain ⟨x33, hx34, h35⟩ := bindS h32
  obtain ⟨b36, o37, c38, cs39, hv40, hf41, hr42, hc43⟩ := f2.at hx34
  obtain rfl : cs39 = [.int .i64 x33.e.t, .int .i64 x33.e.act.kind, .int .i64 x33.e.act.at_, .int .i64 x33.e.act.val, .int .i64 x33.e.act.what, .bool x33.e.act.volatile, .bool x33.e.act.final, .int .i64 x33.e.rf, .int .i64 x33.e.id, .int .i64 x33.at_] := hr42
  refine U.p rfl rfl (.inl rfl) (S.index rfl ((L 1 rfl rfl).trans hv40) (L 0 rfl rfl) Try.underlying38 ti45 (ix_ge hx34) (ix_lt hx34)) ?_
  refine U.k rfl rfl (.inl rfl) (S.loadN (cs := [.int .i64 x33.e.t, .int .i64 x33.e.act.kind, .int .i64 x33.e.act.at_, .int .i64 x33.e.act.val, .int .i64 x33.e.act.what, .bool x33.e.act.volatile, .bool x33.e.act.final, .int .i64 x33.e.rf, .int .i64 x33.e.id, .int .i64 x33.at_]) rfl (L 0 rfl rfl) Try.underlying45 rfl ti45 rfl (fun j v hj => le24.cell hf41 (hc43 j v hj))) nd ?_
  have f44 := f16.up le24
  have ow45 := ow25.pick 4 rfl
  have ow46 := ow45.pick 4 rfl
  have ow47 := ow46.pick 4 rfl
  have ow48 := ow47.pick 4 rfl
  have ow49 := ow48.pick 4 rfl
  obtain ⟨x50, hx51, h52⟩ := bindS h35
  refine O.callv (V := V23) rfl rfl (.inl rfl) rfl (L 4 rfl rfl) en41 (aC (L 0 rfl rfl) aN) (wk_order_Run_Consistent_c1 V23 _ x33 p1_10 p1_11 p1_12 p1_13 b3 z4 b6 z7 v9 hs10 b12 z13 v15 b17 z18 f44 ow49 _ hx51) (fun _ _ _ _ => nd) (fun v53 V54 le55 hp56 => ?_)
  obtain ⟨rfl, ow57⟩ := hp56
  refine U.done (Nat.le_of_ble_eq_true rfl) ?_
  refine WP.cond _ (L 0 rfl rfl) rfl (fun c58 => ?_) (fun c58 => ?_)
  ·have h59 := ifT c58 h52
   refine WP.usreg rfl ?_
   refine U.p rfl rfl (.inl rfl) (S.move rfl (L 6 rfl rfl)) ?_
   refine U.p rfl rfl (.inl rfl) (S.assign rfl (L 0 rfl rfl)) ?_
   refine U.done (Nat.le_of_ble_eq_true rfl) ?_
   refine WP.ret ?_
   refine blkR (sqR (sqR (blkR (sqR ?_))))
   have h60 := exitS h59 e28
   refine fin.slot (.inr rfl) rfl (L 0 rfl rfl) ⟨V54, rfl, (le24.trans le55), ?_⟩
   have e61 := Option.some.inj h60
   subst e61
   exact ⟨rfl, ow57⟩
  ·have h62 := ifF c58 h52
   refine WP.skip ?_
   refine blkN (sqN ?_)
   refine WP.ureg rfl ?_
   refine U.p rfl rfl (.inl rfl) (S.add rfl (L 12 rfl rfl) K) ?_
   refine U.p rfl rfl (.inl rfl) (S.move rfl (L 0 rfl rfl)) ?_
   refine U.done (Nat.le_of_ble_eq_true rfl) ?_
   refine sqN ?_
   exact ⟨_, V54, rfl, ⟨m26, Nat.lt_succ_self _, w64 (x20 + 1), rfl, (le24.trans le55), ow57, backS h62 e28⟩, (allCons (L 11 rfl rfl) (allCons (L 12 rfl rfl) (allCons (L 13 rfl rfl) (allCons (L 0 rfl rfl) allNil))))⟩
 ·have h63 := ifF c31 h30
  refine WP.exit ?_
  refine sqE (sqE (blkE (sqN ?_)))
  have h64 := exitS h63 e28
  refine WP.usreg rfl ?_
  refine U.p rfl rfl (.inl rfl) (S.assign rfl K) ?_
  refine U.done (Nat.le_of_ble_eq_true rfl) ?_
  refine WP.ret ?_
  refine fin.slot (.inr rfl) rfl (L 0 rfl rfl) ⟨V23, rfl, le24, ?_⟩
  have e65 := Option.some.inj h64
  subst e65
  exact ⟨rfl, ow25⟩

set_option maxHeartbeats 4000000 in
set_option maxRecDepth 10000 in
theorem wk_slices_ContainsFunc_2 (V : Vw) (Rs : List At) (p0 : List Torder_node) (p1_10 : Torder_node) (p1_11 : List (List Bool)) (p1_12 : List Torder_node) (p1_13 : Int) (v1 : Value) (b3 : Nat) (z4 : Nat) (b6 : Nat) (z7 : Nat) (v9 : Value) (hs10 : List Value) (b12 : Nat) (z13 : Nat) (v15 : Value) (b17 : Nat) (z18 : Nat) (f2 : Fz RT_Torder_node V v1 p0) (f16 : Fz RT_Torder_node V v15 p1_12) (ow : Ow V (.pt b3 (.cells z4 [.int .i64 p1_10.e.t, .int .i64 p1_10.e.act.kind, .int .i64 p1_10.e.act.at_, .int .i64 p1_10.e.act.val, .int .i64 p1_10.e.act.what, .bool p1_10.e.act.volatile, .bool p1_10.e.act.final, .int .i64 p1_10.e.rf, .int .i64 p1_10.e.id, .int .i64 p1_10.at_]) :: .pt b6 (.cells z7 [v9]) :: .oss (RO.os RT.bool) v9 hs10 p1_11 :: .pt b12 (.cells z13 [v15]) :: .pt b17 (.cells z18 [.int .i64 p1_13]) :: Rs)) (r : Bool) (h : slices_ContainsFunc_2 p0 p1_10 p1_11 p1_12 p1_13 = some r) : ∃ v V', Cl Try.prog 0 40 #[v1, .func (.func 41) #[] #[.pointer (some ⟨b3, 0, none⟩), .pointer (some ⟨b6, 0, none⟩), .pointer (some ⟨b12, 0, none⟩), .pointer (some ⟨b17, 0, none⟩)]] V.H v V'.H ∧ V.le V' ∧ (v = .bool r ∧ Ow V' (.pt b3 (.cells z4 [.int .i64 p1_10.e.t, .int .i64 p1_10.e.act.kind, .int .i64 p1_10.e.act.at_, .int .i64 p1_10.e.act.val, .int .i64 p1_10.e.act.what, .bool p1_10.e.act.volatile, .bool p1_10.e.act.final, .int .i64 p1_10.e.rf, .int .i64 p1_10.e.id, .int .i64 p1_10.at_]) :: .pt b6 (.cells z7 [v9]) :: .oss (RO.os RT.bool) v9 hs10 p1_11 :: .pt b12 (.cells z13 [v15]) :: .pt b17 (.cells z18 [.int .i64 p1_13]) :: Rs)) := by
 refine Ct.of (Nat.zero_le _) Try.func40 rfl (Nat.le_of_ble_eq_true rfl) ?_
 unfold slices_ContainsFunc_2 at h
 refine WP.usreg rfl ?_
 refine U.p rfl rfl (.inl rfl) (S.assign rfl K) ?_
 refine U.done (Nat.le_of_ble_eq_true rfl) ?_
 refine WP.usreg rfl ?_
 refine U.p rfl rfl (.inl rfl) (S.move rfl (L 1 rfl rfl)) ?_
 refine U.p rfl rfl (.inl rfl) (S.move rfl (L 3 rfl rfl)) ?_
 have ow20 := ow.pick 4 rfl
 have ow21 := ow20.pick 4 rfl
 have ow22 := ow21.pick 4 rfl
 have ow23 := ow22.pick 4 rfl
 have ow24 := ow23.pick 4 rfl
 obtain ⟨x25, hx26, h27⟩ := bindS h
 refine O.call (V := V) rfl rfl (.inl rfl) rfl en56 (aC (L 1 rfl rfl) (aC (L 0 rfl rfl) aN)) (wk_slices_IndexFunc_2 V _ p0 p1_10 p1_11 p1_12 p1_13 v1 b3 z4 b6 z7 v9 hs10 b12 z13 v15 b17 z18 f2 f16 ow24 _ hx26) (fun _ _ _ _ => nd) (fun v28 V29 le30 hp31 => ?_)
 obtain ⟨rfl, ow32⟩ := hp31
 refine U.p rfl rfl (.inl rfl) (S.geq rfl (L 0 rfl rfl) K) ?_
 refine U.p rfl rfl (.inl rfl) (S.assign rfl (L 0 rfl rfl)) ?_
 refine U.done (Nat.le_of_ble_eq_true rfl) ?_
 refine WP.ret ?_
 refine fin.slot (.inr rfl) rfl (L 0 rfl rfl) ⟨V29, rfl, le30, ?_⟩
 have e33 := Option.some.inj h27
 subst e33
 exact ⟨rfl, ow32⟩

set_option maxHeartbeats 4000000 in
set_option maxRecDepth 10000 in
theorem wk_order_Run_Consistent (V : Vw) (Rs : List At) (p0 : List (List TEvent)) (v1 : Value) (hs2 : List Value) (ow : Ow V (.oss (RO.os RT_TEvent) v1 hs2 p0 :: Rs)) (r : Bool) (h : order_Run_Consistent p0 = some r) : ∃ v V', Cl Try.prog 0 15 #[v1] V.H v V'.H ∧ V.le V' ∧ (v = .bool r ∧ Ow V' (.oss (RO.os RT_TEvent) v1 hs2 p0 :: Rs)) := by
 refine Ct.of (Nat.zero_le _) Try.func15 rfl (Nat.le_of_ble_eq_true rfl) ?_
 unfold order_Run_Consistent at h
 refine WP.usreg rfl ?_
 refine U.p rfl rfl (.inl rfl) (S.assign rfl K) ?_
 refine U.done (Nat.le_of_ble_eq_true rfl) ?_
 refine WP.usreg rfl ?_
 refine U.p rfl rfl (.inl rfl) (S.move rfl (L 1 rfl rfl)) ?_
 obtain ⟨x4, hx5, h6⟩ := bindS h
 refine O.call (V := V) rfl rfl (.inl rfl) rfl en23 (aC (L 0 rfl rfl) (aC Fu aN)) (wk_order_Run_nodes V _ p0 v1 hs2 ow _ hx5) (fun _ _ _ _ => nd) (fun v7 V8 le9 hp10 => ?_)
 obtain ⟨_, rfl, ow11⟩ := hp10
 refine O.alloc ow11 rfl rfl (.inl rfl) rfl ti38 rfl rfl nd (fun b14 V15 le16 ow17 => ?_)
 refine O.store (k := 0) (cs := [v7]) (c' := [v7]) ow17 rfl rfl rfl (.inl rfl) rfl (L 0 rfl rfl) (L 1 rfl rfl) ti38 (ow17.osne (k := 1) rfl) (by rw [ow17.oscells (k := 1) rfl]) rfl (Nat.le_of_ble_eq_true rfl) (by have q0 := (ow17.osone (k := 1) rfl); simp only [List.all_cons, List.all_nil, q0]; rfl) rfl nd (fun V19 le20 ow21 => ?_)
 refine U.done (Nat.le_of_ble_eq_true rfl) ?_
 refine WP.usreg rfl ?_
 refine U.p rfl rfl (.inl rfl) (S.move rfl (L 4 rfl rfl)) ?_
 refine U.k rfl rfl (.inl rfl) (S.load rfl (L 1 rfl rfl) Try.underlying38 rfl ((ow21.own (k := 0) rfl).cell rfl)) nd ?_
 obtain ⟨V22, eV26, le23, f24, ow25⟩ := ow21.osfz (k := 1) rfl
 rw [← eV26]
 have ow28 := ow25.pick 1 rfl
 obtain ⟨x29, hx30, h31⟩ := bindS h6
 refine O.call (V := V22) rfl rfl (.inl rfl) rfl en37 (aC (L 1 rfl rfl) (aC (L 0 rfl rfl) aN)) (wk_order_Run_happens_2 V22 _ p0 x4 v1 hs2 v7 f24 ow28 _ hx30) (fun _ _ _ _ => nd) (fun v32 V33 le34 hp35 => ?_)
 obtain ⟨_, hs38, rfl, ow36⟩ := hp35
 refine O.alloc ow36 rfl rfl (.inl rfl) rfl ti42 rfl rfl nd (fun b40 V41 le42 ow43 => ?_)
 refine O.store (k := 0) (cs := [v32]) (c' := [v32]) ow43 rfl rfl rfl (.inl rfl) rfl (L 0 rfl rfl) (L 1 rfl rfl) ti42 (ow43.ssne (k := 1) rfl) (by rw [ow43.sscells (k := 1) rfl]) rfl (Nat.le_of_ble_eq_true rfl) (by have q0 := (ow43.ssone (k := 1) rfl); simp only [List.all_cons, List.all_nil, q0]; rfl) rfl nd (fun V45 le46 ow47 => ?_)
 refine U.done (Nat.le_of_ble_eq_true rfl) ?_
 refine WP.seq ?_
 refine WP.usreg rfl ?_
 refine U.k rfl rfl (.inl rfl) (S.load rfl (L 4 rfl rfl) Try.underlying38 rfl ((ow47.own (k := 3) rfl).cell rfl)) nd ?_
 refine U.p rfl rfl (.inl rfl) (f24.1.len rfl (L 0 rfl rfl) Try.underlying38) ?_
 refine U.p rfl rfl (.inl rfl) (S.move rfl K) ?_
 refine U.done (Nat.le_of_ble_eq_true rfl) ?_
 refine WP.blk ?_
 have ow49 := ow47.pick 1 rfl
 have ow50 := ow49.pick 1 rfl
 have ow51 := ow50.pick 3 rfl
 have ow52 := ow51.pick 3 rfl
 unfold order_Run_Consistent_l1 at h31
 obtain ⟨n54, hn53⟩ := loopO_some.1 h31
 refine WP.loopI2 (fun n l V' => ∃ (x48 : Int), l = [(3, .pointer (some ⟨b14, 0, none⟩)), (4, .pointer (some ⟨b40, 0, none⟩)), (14, v7), (15, .int .i64 (x4.length : Int)), (16, .int .i64 x48)] ∧ V45.le V' ∧ Ow V' (.oss (RO.os RT_TEvent) v1 hs2 p0 :: .pt b14 (.cells 1 [v7]) :: .pt b40 (.cells 1 [v32]) :: .oss (RO.os RT.bool) v32 hs38 x29 :: Rs) ∧ itO (fun s => order_Run_Consistent_l1b x4 x29 s) n x48 = some r) n54 _ ⟨0, rfl, .refl _, ow52, hn53⟩ (allCons (L 7 rfl rfl) (allCons (L 3 rfl rfl) (allCons (L 2 rfl rfl) (allCons (L 1 rfl rfl) (allCons (L 0 rfl rfl) allNil))))) ?_
 rintro _ _ V55 ⟨x48, rfl, le56, ow57, h61⟩
 obtain ⟨m58, q59, rfl, h62, e60⟩ := itS h61
 replace h62 : order_Run_Consistent_l1b x4 x29 x48 = some q59 := h62
 unfold order_Run_Consistent_l1b at h62
 refine WP.usreg rfl ?_
 refine U.p rfl rfl (.inl rfl) (S.lss rfl (L 4 rfl rfl) (L 3 rfl rfl)) ?_
 refine U.done (Nat.le_of_ble_eq_true rfl) ?_
 refine WP.seq ?_
 refine WP.cond _ (L 0 rfl rfl) rfl (fun c63 => ?_) (fun c63 => ?_)
 ·have h64 := ifT c63 h62
  refine WP.skip ?_
  refine sqN ?_
  refine WP.seqI (fun l V' => l = [(3, .pointer (some ⟨b14, 0, none⟩)), (4, .pointer (some ⟨b40, 0, none⟩)), (14, v7), (15, .int .i64 (x4.length : Int)), (16, .int .i64 x48)] ∧ V55.le V' ∧ Ow V' (.oss (RO.os RT_TEvent) v1 hs2 p0 :: .pt b14 (.cells 1 [v7]) :: .pt b40 (.cells 1 [v32]) :: .oss (RO.os RT.bool) v32 hs38 x29 :: Rs) ∧ order_Run_Consistent_k1 x48  = some q59) ?_ ?_
  ·rintro _ V65 ⟨rfl, le66, ow67, h68⟩
   unfold order_Run_Consistent_k1 at h68
   refine WP.ureg rfl ?_
   refine U.p rfl rfl (.inl rfl) (S.add rfl (L 4 rfl rfl) K) ?_
   refine U.p rfl rfl (.inl rfl) (S.move rfl (L 0 rfl rfl)) ?_
   refine U.done (Nat.le_of_ble_eq_true rfl) ?_
   refine sqN ?_
   exact ⟨_, V65, rfl, ⟨m58, Nat.lt_succ_self _, w64 (x48 + 1), rfl, (le56.trans le66), ow67, backS h68 e60⟩, (allCons (L 2 rfl rfl) (allCons (L 3 rfl rfl) (allCons (L 4 rfl rfl) (allCons (L 5 rfl rfl) (allCons (L 0 rfl rfl) allNil)))))⟩
  ·skip
   refine WP.blk ?_
   refine WP.usreg rfl ?_
   refine U.p rfl rfl (.inl rfl) (S.move rfl (L 5 rfl rfl)) ?_
   obtain ⟨x69, hx70, h71⟩ := bindS h64
   obtain ⟨b72, o73, c74, cs75, hv76, hf77, hr78, hc79⟩ := f24.at hx70
   obtain rfl : cs75 = [.int .i64 x69.e.t, .int .i64 x69.e.act.kind, .int .i64 x69.e.act.at_, .int .i64 x69.e.act.val, .int .i64 x69.e.act.what, .bool x69.e.act.volatile, .bool x69.e.act.final, .int .i64 x69.e.rf, .int .i64 x69.e.id, .int .i64 x69.at_] := hr78
   refine U.p rfl rfl (.inl rfl) (S.index rfl ((L 4 rfl rfl).trans hv76) (L 6 rfl rfl) Try.underlying38 ti45 (ix_ge hx70) (ix_lt hx70)) ?_
   refine U.k rfl rfl (.inl rfl) (S.loadN (cs := [.int .i64 x69.e.t, .int .i64 x69.e.act.kind, .int .i64 x69.e.act.at_, .int .i64 x69.e.act.val, .int .i64 x69.e.act.what, .bool x69.e.act.volatile, .bool x69.e.act.final, .int .i64 x69.e.rf, .int .i64 x69.e.id, .int .i64 x69.at_]) rfl (L 0 rfl rfl) Try.underlying45 rfl ti45 rfl (fun j v hj => (((le34.trans le42).trans le46).trans le56).cell hf77 (hc79 j v hj))) nd ?_
   refine O.alloc ow57 rfl rfl (.inl rfl) rfl ti45 rfl rfl nd (fun b80 V81 le82 ow83 => ?_)
   refine U.p rfl rfl (.inl rfl) (S.assign rfl (L 3 rfl rfl)) ?_
   refine O.store (k := 0) (cs := [.int .i64 x69.e.t, .int .i64 x69.e.act.kind, .int .i64 x69.e.act.at_, .int .i64 x69.e.act.val, .int .i64 x69.e.act.what, .bool x69.e.act.volatile, .bool x69.e.act.final, .int .i64 x69.e.rf, .int .i64 x69.e.id, .int .i64 x69.at_]) (c' := [.int .i64 x69.e.t, .int .i64 x69.e.act.kind, .int .i64 x69.e.act.at_, .int .i64 x69.e.act.val, .int .i64 x69.e.act.what, .bool x69.e.act.volatile, .bool x69.e.act.final, .int .i64 x69.e.rf, .int .i64 x69.e.id, .int .i64 x69.at_]) ow83 rfl rfl rfl (.inl rfl) rfl (L 1 rfl rfl) (L 2 rfl rfl) ti45 (by simp [topV]) rfl rfl (Nat.le_of_ble_eq_true rfl) rfl rfl nd (fun V85 le86 ow87 => ?_)
   refine U.done (Nat.le_of_ble_eq_true rfl) ?_
   refine WP.seq ?_
   refine WP.usreg rfl ?_
   refine U.p (v := .pointer (some ⟨b80, 0, none⟩)) rfl rfl (.inl rfl) (S.fieldAddr rfl (L 1 rfl rfl) Try.underlying45 rfl ti31 rfl rfl) ?_
   refine U.p (v := .pointer (some ⟨b80, 1, none⟩)) rfl rfl (.inl rfl) (S.fieldAddr rfl (L 0 rfl rfl) Try.underlying31 rfl ti29 rfl rfl) ?_
   refine U.k rfl rfl (.inl rfl) (S.loadN (cs := [.int .i64 x69.e.act.kind, .int .i64 x69.e.act.at_, .int .i64 x69.e.act.val, .int .i64 x69.e.act.what, .bool x69.e.act.volatile, .bool x69.e.act.final]) rfl (L 0 rfl rfl) Try.underlying29 rfl ti29 rfl (cellsOfOwn (ow87.own (k := 0) rfl) 1 rfl)) nd ?_
   obtain ⟨x88, hx89, h90⟩ := bindS h71
   refine O.call (V := V85) rfl rfl (.inl rfl) rfl en38 (aC (L 0 rfl rfl) aN) (wk_order_reads V85 _ x69.e.act ow87 _ hx89) (fun _ _ _ _ => nd) (fun v91 V92 le93 hp94 => ?_)
   obtain ⟨rfl, ow95⟩ := hp94
   refine U.p rfl rfl (.inl rfl) (S.not rfl (L 0 rfl rfl)) ?_
   refine U.done (Nat.le_of_ble_eq_true rfl) ?_
   refine WP.cond _ (L 0 rfl rfl) rfl (fun c96 => ?_) (fun c96 => ?_)
   ·have h97 := ifT c96 h90
    have k98 : x88 = false := by simpa using c96
    refine WP.exit ?_
    refine sqE (blkE (sqN ?_))
    have ow99 := ow95.drop 0 rfl
    exact ⟨_, V92, rfl, ⟨rfl, ((le82.trans le86).trans le93), ow99, h97⟩, (allCons (L 11 rfl rfl) (allCons (L 12 rfl rfl) (allCons (L 13 rfl rfl) (allCons (L 14 rfl rfl) (allCons (L 15 rfl rfl) allNil)))))⟩
   ·have h100 := ifF c96 h90
    have k101 : x88 = true := by simpa using c96
    refine WP.skip ?_
    refine sqN ?_
    refine WP.usreg rfl ?_
    refine U.k rfl rfl (.inl rfl) (S.load rfl (L 11 rfl rfl) Try.underlying38 rfl ((ow95.own (k := 2) rfl).cell rfl)) nd ?_
    refine U.p rfl rfl (.inl rfl) (f24.1.len rfl (L 0 rfl rfl) Try.underlying38) ?_
    refine U.p rfl rfl (.inl rfl) (S.move rfl K) ?_
    refine U.done (Nat.le_of_ble_eq_true rfl) ?_
    refine WP.blk ?_
    have ow103 := ow95.pick 0 rfl
    have ow104 := ow103.pick 4 rfl
    have ow105 := ow104.pick 4 rfl
    have ow106 := ow105.pick 4 rfl
    have ow107 := ow106.pick 4 rfl
    unfold order_Run_Consistent_l2 at h100
    obtain ⟨n109, hn108⟩ := loopO_some.1 h100
    refine WP.loopI2 (fun n l V' => ∃ (x102 : Int), l = [(3, .pointer (some ⟨b14, 0, none⟩)), (4, .pointer (some ⟨b40, 0, none⟩)), (5, .int .i64 x48), (6, .pointer (some ⟨b80, 0, none⟩)), (14, v7), (15, .int .i64 (x4.length : Int)), (16, .int .i64 x48), (26, v7), (27, .int .i64 (x4.length : Int)), (28, .int .i64 x102)] ∧ V92.le V' ∧ Ow V' (.oss (RO.os RT_TEvent) v1 hs2 p0 :: .pt b14 (.cells 1 [v7]) :: .pt b40 (.cells 1 [v32]) :: .oss (RO.os RT.bool) v32 hs38 x29 :: .pt b80 (.cells 10 [.int .i64 x69.e.t, .int .i64 x69.e.act.kind, .int .i64 x69.e.act.at_, .int .i64 x69.e.act.val, .int .i64 x69.e.act.what, .bool x69.e.act.volatile, .bool x69.e.act.final, .int .i64 x69.e.rf, .int .i64 x69.e.id, .int .i64 x69.at_]) :: Rs) ∧ itO (fun s => order_Run_Consistent_l2b x4 x29 x48 x69 s) n x102 = some q59) n109 _ ⟨0, rfl, .refl _, ow107, hn108⟩ (allCons (L 14 rfl rfl) (allCons (L 15 rfl rfl) (allCons (L 8 rfl rfl) (allCons (L 9 rfl rfl) (allCons (L 16 rfl rfl) (allCons (L 17 rfl rfl) (allCons (L 18 rfl rfl) (allCons (L 2 rfl rfl) (allCons (L 1 rfl rfl) (allCons (L 0 rfl rfl) allNil)))))))))) ?_
    rintro _ _ V110 ⟨x102, rfl, le111, ow112, h116⟩
    obtain ⟨m113, q114, rfl, h117, e115⟩ := itS h116
    replace h117 : order_Run_Consistent_l2b x4 x29 x48 x69 x102 = some q114 := h117
    unfold order_Run_Consistent_l2b at h117
    refine WP.usreg rfl ?_
    refine U.p rfl rfl (.inl rfl) (S.lss rfl (L 9 rfl rfl) (L 8 rfl rfl)) ?_
    refine U.done (Nat.le_of_ble_eq_true rfl) ?_
    refine WP.seq ?_
    refine WP.cond _ (L 0 rfl rfl) rfl (fun c118 => ?_) (fun c118 => ?_)
    ·have h119 := ifT c118 h117
     refine WP.skip ?_
     refine sqN ?_
     refine WP.seqI (fun l V' => l = [(3, .pointer (some ⟨b14, 0, none⟩)), (4, .pointer (some ⟨b40, 0, none⟩)), (5, .int .i64 x48), (6, .pointer (some ⟨b80, 0, none⟩)), (14, v7), (15, .int .i64 (x4.length : Int)), (16, .int .i64 x48), (26, v7), (27, .int .i64 (x4.length : Int)), (28, .int .i64 x102)] ∧ V110.le V' ∧ Ow V' (.oss (RO.os RT_TEvent) v1 hs2 p0 :: .pt b14 (.cells 1 [v7]) :: .pt b40 (.cells 1 [v32]) :: .oss (RO.os RT.bool) v32 hs38 x29 :: .pt b80 (.cells 10 [.int .i64 x69.e.t, .int .i64 x69.e.act.kind, .int .i64 x69.e.act.at_, .int .i64 x69.e.act.val, .int .i64 x69.e.act.what, .bool x69.e.act.volatile, .bool x69.e.act.final, .int .i64 x69.e.rf, .int .i64 x69.e.id, .int .i64 x69.at_]) :: Rs) ∧ order_Run_Consistent_k2 x102  = some q114) ?_ ?_
     ·rintro _ V120 ⟨rfl, le121, ow122, h123⟩
      unfold order_Run_Consistent_k2 at h123
      refine WP.ureg rfl ?_
      refine U.p rfl rfl (.inl rfl) (S.add rfl (L 9 rfl rfl) K) ?_
      refine U.p rfl rfl (.inl rfl) (S.move rfl (L 0 rfl rfl)) ?_
      refine U.done (Nat.le_of_ble_eq_true rfl) ?_
      refine sqN ?_
      exact ⟨_, V120, rfl, ⟨m113, Nat.lt_succ_self _, w64 (x102 + 1), rfl, (le111.trans le121), ow122, backS h123 e115⟩, (allCons (L 2 rfl rfl) (allCons (L 3 rfl rfl) (allCons (L 4 rfl rfl) (allCons (L 5 rfl rfl) (allCons (L 6 rfl rfl) (allCons (L 7 rfl rfl) (allCons (L 8 rfl rfl) (allCons (L 9 rfl rfl) (allCons (L 10 rfl rfl) (allCons (L 0 rfl rfl) allNil))))))))))⟩
     ·skip
      refine WP.blk ?_
      refine WP.usreg rfl ?_
      refine U.p rfl rfl (.inl rfl) (S.move rfl (L 10 rfl rfl)) ?_
      obtain ⟨x124, hx125, h126⟩ := bindS h119
      obtain ⟨b127, o128, c129, cs130, hv131, hf132, hr133, hc134⟩ := f24.at hx125
      obtain rfl : cs130 = [.int .i64 x124.e.t, .int .i64 x124.e.act.kind, .int .i64 x124.e.act.at_, .int .i64 x124.e.act.val, .int .i64 x124.e.act.what, .bool x124.e.act.volatile, .bool x124.e.act.final, .int .i64 x124.e.rf, .int .i64 x124.e.id, .int .i64 x124.at_] := hr133
      refine U.p rfl rfl (.inl rfl) (S.index rfl ((L 9 rfl rfl).trans hv131) (L 11 rfl rfl) Try.underlying38 ti45 (ix_ge hx125) (ix_lt hx125)) ?_
      refine U.k rfl rfl (.inl rfl) (S.loadN (cs := [.int .i64 x124.e.t, .int .i64 x124.e.act.kind, .int .i64 x124.e.act.at_, .int .i64 x124.e.act.val, .int .i64 x124.e.act.what, .bool x124.e.act.volatile, .bool x124.e.act.final, .int .i64 x124.e.rf, .int .i64 x124.e.id, .int .i64 x124.at_]) rfl (L 0 rfl rfl) Try.underlying45 rfl ti45 rfl (fun j v hj => (((((((le34.trans le42).trans le46).trans le56).trans le82).trans le86).trans le93).trans le111).cell hf132 (hc134 j v hj))) nd ?_
      refine O.alloc ow112 rfl rfl (.inl rfl) rfl ti3 rfl rfl nd (fun b135 V136 le137 ow138 => ?_)
      refine O.alloc ow138 rfl rfl (.inl rfl) rfl ti45 rfl rfl nd (fun b140 V141 le142 ow143 => ?_)
      refine O.store (k := 1) (cs := [.int .i64 x102]) (c' := [.int .i64 x102]) ow143 rfl rfl rfl (.inl rfl) rfl (L 1 rfl rfl) (L 4 rfl rfl) ti3 (by simp [topV]) rfl rfl (Nat.le_of_ble_eq_true rfl) rfl rfl nd (fun V145 le146 ow147 => ?_)
      refine O.store (k := 0) (cs := [.int .i64 x124.e.t, .int .i64 x124.e.act.kind, .int .i64 x124.e.act.at_, .int .i64 x124.e.act.val, .int .i64 x124.e.act.what, .bool x124.e.act.volatile, .bool x124.e.act.final, .int .i64 x124.e.rf, .int .i64 x124.e.id, .int .i64 x124.at_]) (c' := [.int .i64 x124.e.t, .int .i64 x124.e.act.kind, .int .i64 x124.e.act.at_, .int .i64 x124.e.act.val, .int .i64 x124.e.act.what, .bool x124.e.act.volatile, .bool x124.e.act.final, .int .i64 x124.e.rf, .int .i64 x124.e.id, .int .i64 x124.at_]) ow147 rfl rfl rfl (.inl rfl) rfl (L 0 rfl rfl) (L 2 rfl rfl) ti45 (by simp [topV]) rfl rfl (Nat.le_of_ble_eq_true rfl) rfl rfl nd (fun V148 le149 ow150 => ?_)
      refine U.done (Nat.le_of_ble_eq_true rfl) ?_
      refine WP.blk ?_
      refine WP.usreg rfl ?_
      refine U.p rfl rfl (.inl rfl) (S.move rfl (L 8 rfl rfl)) ?_
      refine U.k rfl rfl (.inl rfl) (S.load rfl (L 2 rfl rfl) Try.underlying3 rfl ((ow150.own (k := 1) rfl).cell rfl)) nd ?_
      refine U.p rfl rfl (.inl rfl) (S.eqlI rfl (L 1 rfl rfl) (L 0 rfl rfl)) ?_
      refine U.p rfl rfl (.inl rfl) (S.move rfl (L 0 rfl rfl)) ?_
      obtain ⟨y151, hy152, h153⟩ := bindS h126
      refine U.joinX 10 (fun e H => ∃ (u154 u155 u156 u157 u158 : Value), ∃ V' : Vw, H = V'.H ∧ V148.le V' ∧ e = [(43, .bool y151), (42, u154), (41, u155), (40, u156), (39, u157), (38, u158)] ∧ Ow V' (.pt b140 (.cells 10 [.int .i64 x124.e.t, .int .i64 x124.e.act.kind, .int .i64 x124.e.act.at_, .int .i64 x124.e.act.val, .int .i64 x124.e.act.what, .bool x124.e.act.volatile, .bool x124.e.act.final, .int .i64 x124.e.rf, .int .i64 x124.e.id, .int .i64 x124.at_]) :: .pt b135 (.cells 1 [.int .i64 x102]) :: .oss (RO.os RT_TEvent) v1 hs2 p0 :: .pt b14 (.cells 1 [v7]) :: .pt b40 (.cells 1 [v32]) :: .oss (RO.os RT.bool) v32 hs38 x29 :: .pt b80 (.cells 10 [.int .i64 x69.e.t, .int .i64 x69.e.act.kind, .int .i64 x69.e.act.at_, .int .i64 x69.e.act.val, .int .i64 x69.e.act.what, .bool x69.e.act.volatile, .bool x69.e.act.final, .int .i64 x69.e.rf, .int .i64 x69.e.id, .int .i64 x69.at_]) :: Rs)) ?_ ?_
      ·rintro _ _ ⟨u154, u155, u156, u157, u158, V159, rfl, le160, rfl, ow161⟩
       refine U.p rfl rfl (.inl rfl) (S.move rfl (L 0 rfl rfl)) ?_
       refine U.joinX 21 (fun e H => ∃ (u162 u163 u164 u165 u166 u167 u168 u169 u170 : Value), H = V159.H ∧ e = [(54, .bool (y151 || (decide (x124.e.act.at_ ≠ x69.e.act.at_)))), (53, u162), (52, u163), (51, u164), (50, u165), (49, u166), (48, u167), (47, u168), (46, u169), (45, u170)]) ?_ ?_
       ·rintro _ _ ⟨u162, u163, u164, u165, u166, u167, u168, u169, u170, rfl, rfl⟩
        refine U.p rfl rfl (.inl rfl) (S.assign rfl (L 0 rfl rfl)) ?_
        refine U.done (Nat.le_of_ble_eq_true rfl) ?_
        refine WP.cond _ (L 0 rfl rfl) rfl (fun c174 => ?_) (fun c174 => ?_)
        ·have h175 := ifT c174 h153
         refine WP.skip ?_
         refine blkN (blkN (sqN ?_))
         have ow176 := ow161.drop 0 rfl
         have ow177 := ow176.drop 0 rfl
         exact ⟨_, V159, rfl, ⟨rfl, ((((le137.trans le142).trans le146).trans le149).trans le160), ow177, h175⟩, (allCons (L 28 rfl rfl) (allCons (L 29 rfl rfl) (allCons (L 30 rfl rfl) (allCons (L 31 rfl rfl) (allCons (L 32 rfl rfl) (allCons (L 33 rfl rfl) (allCons (L 34 rfl rfl) (allCons (L 35 rfl rfl) (allCons (L 36 rfl rfl) (allCons (L 37 rfl rfl) allNil))))))))))⟩
        ·have h178 := ifF c174 h153
         refine WP.seqI (fun l V' => ∃ (x179 : Bool), l = [(3, .pointer (some ⟨b14, 0, none⟩)), (4, .pointer (some ⟨b40, 0, none⟩)), (5, .int .i64 x48), (6, .pointer (some ⟨b80, 0, none⟩)), (7, .pointer (some ⟨b135, 0, none⟩)), (8, .pointer (some ⟨b140, 0, none⟩)), (14, v7), (15, .int .i64 (x4.length : Int)), (16, .int .i64 x48), (26, v7), (27, .int .i64 (x4.length : Int)), (28, .int .i64 x102), (55, .bool x179)] ∧ V159.le V' ∧ Ow V' (.oss (RO.os RT_TEvent) v1 hs2 p0 :: .pt b14 (.cells 1 [v7]) :: .pt b40 (.cells 1 [v32]) :: .oss (RO.os RT.bool) v32 hs38 x29 :: .pt b80 (.cells 10 [.int .i64 x69.e.t, .int .i64 x69.e.act.kind, .int .i64 x69.e.act.at_, .int .i64 x69.e.act.val, .int .i64 x69.e.act.what, .bool x69.e.act.volatile, .bool x69.e.act.final, .int .i64 x69.e.rf, .int .i64 x69.e.id, .int .i64 x69.at_]) :: .pt b135 (.cells 1 [.int .i64 x102]) :: .pt b140 (.cells 10 [.int .i64 x124.e.t, .int .i64 x124.e.act.kind, .int .i64 x124.e.act.at_, .int .i64 x124.e.act.val, .int .i64 x124.e.act.what, .bool x124.e.act.volatile, .bool x124.e.act.final, .int .i64 x124.e.rf, .int .i64 x124.e.id, .int .i64 x124.at_]) :: Rs) ∧ order_Run_Consistent_k3 x4 x29 x48 x69 x102 x124 x179 = some q114) ?_ ?_
         ·rintro _ V180 ⟨x179, rfl, le181, ow182, h183⟩
          unfold order_Run_Consistent_k3 at h183
          refine WP.cond _ (L 12 rfl rfl) rfl (fun c184 => ?_) (fun c184 => ?_)
          ·have h185 := ifT c184 h183
           refine WP.usreg rfl ?_
           refine U.p rfl rfl (.inl rfl) (S.assign rfl K) ?_
           refine U.done (Nat.le_of_ble_eq_true rfl) ?_
           refine WP.ret ?_
           refine blkR (blkR (sqR (sqR (blkR (blkR (sqR (sqR (blkR (sqR ?_)))))))))
           have h186 := exitS h185 e115
           have h187 := exitS h186 e60
           refine fin.slot (.inr rfl) rfl (L 0 rfl rfl) ⟨V180, rfl, (((((((((((((((((le9.trans le16).trans le20).trans le23).trans le34).trans le42).trans le46).trans le56).trans le82).trans le86).trans le93).trans le111).trans le137).trans le142).trans le146).trans le149).trans le160).trans le181), ?_⟩
           have ow188 := ow182.drop 1 rfl
           have ow189 := ow188.drop 1 rfl
           have ow190 := ow189.drop 1 rfl
           have ow191 := ow190.drop 1 rfl
           have ow192 := ow191.drop 1 rfl
           have ow193 := ow192.drop 1 rfl
           have e194 := Option.some.inj h187
           subst e194
           exact ⟨rfl, ow193⟩
          ·have h195 := ifF c184 h183
           refine WP.usreg rfl ?_
           refine U.k rfl rfl (.inl rfl) (S.load rfl (L 1 rfl rfl) Try.underlying42 rfl ((ow182.own (k := 2) rfl).cell rfl)) nd ?_
           refine U.k rfl rfl (.inl rfl) (S.load rfl (L 5 rfl rfl) Try.underlying3 rfl ((ow182.own (k := 5) rfl).cell rfl)) nd ?_
           obtain ⟨x196, hx197, h198⟩ := bindS h195
           obtain ⟨b199, o200, n201, c202, hv203⟩ := ow182.sspt (k := 3) rfl hx197
           refine U.p rfl rfl (.inl rfl) (S.index rfl ((L 1 rfl rfl).trans (ow182.sslen' (k := 3) rfl hv203)) (L 0 rfl rfl) Try.underlying42 ti53 (ix_ge hx197) (ix_lt hx197)) ?_
           obtain ⟨h204, hh205, ow206⟩ := ow182.ssopen (k := 3) rfl hx197
           have hcl208 := ow206.shcell (k := 4) rfl hv203 hh205
           refine U.k rfl rfl (.inl rfl) (S.load rfl (L 0 rfl rfl) Try.underlying53 rfl hcl208.2) nd ?_
           refine U.p rfl rfl (.inl rfl) (S.move rfl (L 6 rfl rfl)) ?_
           obtain ⟨x209, hx210, h211⟩ := bindS h198
           obtain ⟨b212, o213, n214, c215, hv216⟩ := ow206.ospt (k := 0) rfl hx210
           obtain ⟨_, hv217, _⟩ := ow206.osel (k := 0) rfl hv216 hx210
           refine U.p rfl rfl (.inl rfl) (S.index rfl ((L 1 rfl rfl).trans hv217) (L 0 rfl rfl) Try.underlying53 ti4 (ix_ge hx210) (ix_lt hx210)) ?_
           obtain ⟨cs218, hv219, hlt220, hr221, hc222⟩ := ow206.osel (k := 0) rfl hv216 hx210
           obtain rfl : cs218 = [.bool x209] := hr221
           refine U.k rfl rfl (.inl rfl) (S.load rfl (L 0 rfl rfl) Try.underlying4 rfl (hc222 0 _ rfl)) nd ?_
           refine U.p rfl rfl (.inl rfl) (S.move rfl (L 0 rfl rfl)) ?_
           have ow223 := ow206.ssclose' (k := 4) (j := 0) rfl rfl (by decide) hh205 hx197
           refine U.joinX 16 (fun e H => ∃ (u224 u225 u226 u227 u228 u229 u230 : Value), H = V180.H ∧ e = [(84, .bool (x209 && (decide (x69.e.rf < x124.e.id)))), (83, u224), (82, u225), (81, u226), (80, u227), (79, u228), (78, u229), (77, u230)]) ?_ ?_
           ·rintro _ _ ⟨u224, u225, u226, u227, u228, u229, u230, rfl, rfl⟩
            refine U.p rfl rfl (.inl rfl) (S.move rfl (L 0 rfl rfl)) ?_
            refine U.joinX 22 (fun e H => ∃ (u234 u235 u236 u237 : Value), H = V180.H ∧ e = [(90, .bool ((x209 && (decide (x69.e.rf < x124.e.id))) && (decide (x69.e.rf = 0)))), (89, u234), (88, u235), (87, u236), (86, u237)]) ?_ ?_
            ·rintro _ _ ⟨u234, u235, u236, u237, rfl, rfl⟩
             refine U.p rfl rfl (.inl rfl) (S.assign rfl (L 0 rfl rfl)) ?_
             refine U.done (Nat.le_of_ble_eq_true rfl) ?_
             refine WP.cond _ (L 0 rfl rfl) rfl (fun c241 => ?_) (fun c241 => ?_)
             ·have h242 := ifT c241 h211
              refine WP.usreg rfl ?_
              refine U.p rfl rfl (.inl rfl) (S.assign rfl K) ?_
              refine U.done (Nat.le_of_ble_eq_true rfl) ?_
              refine WP.ret ?_
              refine blkR (blkR (sqR (sqR (blkR (blkR (sqR (sqR (blkR (sqR ?_)))))))))
              have h243 := exitS h242 e115
              have h244 := exitS h243 e60
              refine fin.slot (.inr rfl) rfl (L 0 rfl rfl) ⟨V180, rfl, (((((((((((((((((le9.trans le16).trans le20).trans le23).trans le34).trans le42).trans le46).trans le56).trans le82).trans le86).trans le93).trans le111).trans le137).trans le142).trans le146).trans le149).trans le160).trans le181), ?_⟩
              have ow245 := ow223.drop 1 rfl
              have ow246 := ow245.drop 1 rfl
              have ow247 := ow246.drop 1 rfl
              have ow248 := ow247.drop 1 rfl
              have ow249 := ow248.drop 1 rfl
              have ow250 := ow249.drop 1 rfl
              have e251 := Option.some.inj h244
              subst e251
              exact ⟨rfl, ow250⟩
             ·have h252 := ifF c241 h211
              refine WP.usreg rfl ?_
              refine U.k rfl rfl (.inl rfl) (S.load rfl (L 24 rfl rfl) Try.underlying42 rfl ((ow223.own (k := 2) rfl).cell rfl)) nd ?_
              refine U.k rfl rfl (.inl rfl) (S.load rfl (L 28 rfl rfl) Try.underlying3 rfl ((ow223.own (k := 5) rfl).cell rfl)) nd ?_
              obtain ⟨x253, hx254, h255⟩ := bindS h252
              refine U.p rfl rfl (.inl rfl) (S.index rfl ((L 1 rfl rfl).trans (ow223.sslen' (k := 3) rfl hv203)) (L 0 rfl rfl) Try.underlying42 ti53 (ix_ge hx254) (ix_lt hx254)) ?_
              obtain ⟨h256, hh257, ow258⟩ := ow223.ssopen (k := 3) rfl hx254
              have hcl260 := ow258.shcell (k := 4) rfl hv203 hh257
              refine U.k rfl rfl (.inl rfl) (S.load rfl (L 0 rfl rfl) Try.underlying53 rfl hcl260.2) nd ?_
              refine U.p rfl rfl (.inl rfl) (S.move rfl (L 29 rfl rfl)) ?_
              obtain ⟨x261, hx262, h263⟩ := bindS h255
              obtain ⟨b264, o265, n266, c267, hv268⟩ := ow258.ospt (k := 0) rfl hx262
              obtain ⟨_, hv269, _⟩ := ow258.osel (k := 0) rfl hv268 hx262
              refine U.p rfl rfl (.inl rfl) (S.index rfl ((L 1 rfl rfl).trans hv269) (L 0 rfl rfl) Try.underlying53 ti4 (ix_ge hx262) (ix_lt hx262)) ?_
              obtain ⟨cs270, hv271, hlt272, hr273, hc274⟩ := ow258.osel (k := 0) rfl hv268 hx262
              obtain rfl : cs270 = [.bool x261] := hr273
              refine U.k rfl rfl (.inl rfl) (S.load rfl (L 0 rfl rfl) Try.underlying4 rfl (hc274 0 _ rfl)) nd ?_
              refine U.p rfl rfl (.inl rfl) (S.move rfl (L 0 rfl rfl)) ?_
              have ow275 := ow258.ssclose' (k := 4) (j := 0) rfl rfl (by decide) hh257 hx254
              obtain ⟨y276, hy277, h278⟩ := bindS h263
              refine U.joinX 12 (fun e H => ∃ (u279 u280 u281 : Value), ∃ V' : Vw, H = V'.H ∧ V180.le V' ∧ e = [(103, .bool y276), (102, u279), (101, u280), (100, u281)] ∧ Ow V' (.oss (RO.os RT_TEvent) v1 hs2 p0 :: .pt b14 (.cells 1 [v7]) :: .pt b40 (.cells 1 [v32]) :: .oss (RO.os RT.bool) v32 hs38 x29 :: .pt b80 (.cells 10 [.int .i64 x69.e.t, .int .i64 x69.e.act.kind, .int .i64 x69.e.act.at_, .int .i64 x69.e.act.val, .int .i64 x69.e.act.what, .bool x69.e.act.volatile, .bool x69.e.act.final, .int .i64 x69.e.rf, .int .i64 x69.e.id, .int .i64 x69.at_]) :: .pt b135 (.cells 1 [.int .i64 x102]) :: .pt b140 (.cells 10 [.int .i64 x124.e.t, .int .i64 x124.e.act.kind, .int .i64 x124.e.act.at_, .int .i64 x124.e.act.val, .int .i64 x124.e.act.what, .bool x124.e.act.volatile, .bool x124.e.act.final, .int .i64 x124.e.rf, .int .i64 x124.e.id, .int .i64 x124.at_]) :: Rs)) ?_ ?_
              ·rintro _ _ ⟨u279, u280, u281, V282, rfl, le283, rfl, ow284⟩
               refine U.p rfl rfl (.inl rfl) (S.assign rfl (L 0 rfl rfl)) ?_
               refine U.done (Nat.le_of_ble_eq_true rfl) ?_
               refine WP.cond _ (L 0 rfl rfl) rfl (fun c285 => ?_) (fun c285 => ?_)
               ·have h286 := ifT c285 h278
                refine WP.usreg rfl ?_
                refine U.p rfl rfl (.inl rfl) (S.assign rfl K) ?_
                refine U.done (Nat.le_of_ble_eq_true rfl) ?_
                refine WP.ret ?_
                refine blkR (blkR (sqR (sqR (blkR (blkR (sqR (sqR (blkR (sqR ?_)))))))))
                have h287 := exitS h286 e115
                have h288 := exitS h287 e60
                refine fin.slot (.inr rfl) rfl (L 0 rfl rfl) ⟨V282, rfl, ((((((((((((((((((le9.trans le16).trans le20).trans le23).trans le34).trans le42).trans le46).trans le56).trans le82).trans le86).trans le93).trans le111).trans le137).trans le142).trans le146).trans le149).trans le160).trans le181).trans le283), ?_⟩
                have ow289 := ow284.drop 1 rfl
                have ow290 := ow289.drop 1 rfl
                have ow291 := ow290.drop 1 rfl
                have ow292 := ow291.drop 1 rfl
                have ow293 := ow292.drop 1 rfl
                have ow294 := ow293.drop 1 rfl
                have e295 := Option.some.inj h288
                subst e295
                exact ⟨rfl, ow294⟩
               ·have h296 := ifF c285 h278
                refine WP.skip ?_
                refine blkN (blkN (sqN ?_))
                have ow297 := ow284.drop 5 rfl
                have ow298 := ow297.drop 5 rfl
                exact ⟨_, V282, rfl, ⟨rfl, ((((((le137.trans le142).trans le146).trans le149).trans le160).trans le181).trans le283), ow298, h296⟩, (allCons (L 36 rfl rfl) (allCons (L 37 rfl rfl) (allCons (L 38 rfl rfl) (allCons (L 39 rfl rfl) (allCons (L 42 rfl rfl) (allCons (L 43 rfl rfl) (allCons (L 44 rfl rfl) (allCons (L 45 rfl rfl) (allCons (L 46 rfl rfl) (allCons (L 47 rfl rfl) allNil))))))))))⟩
              ·intro kk
               refine bcase (b := x261) (fun g299 => ?_) (fun g299 => ?_)
               ·have h300 := ifT g299 hy277
                refine U.k rfl rfl (.inr ⟨_, _, _, rfl, rfl, ((L 0 rfl rfl).trans (congrArg Value.bool g299))⟩) (S.load rfl (L 31 rfl rfl) Try.underlying38 rfl ((ow275.own (k := 1) rfl).cell rfl)) nd ?_
                refine U.p (v := .func (.func 41) #[] #[.pointer (some ⟨b80, 0, none⟩), .pointer (some ⟨b40, 0, none⟩), .pointer (some ⟨b14, 0, none⟩), .pointer (some ⟨b135, 0, none⟩)]) rfl rfl (.inr ⟨_, _, _, rfl, rfl, ((L 1 rfl rfl).trans (congrArg Value.bool g299))⟩) (S.makeFunc' rfl (amN) (am4 (L 35 rfl rfl) (L 33 rfl rfl) (L 32 rfl rfl) (L 36 rfl rfl))) ?_
                have f301 := f24.up (((((((((((((le34.trans le42).trans le46).trans le56).trans le82).trans le86).trans le93).trans le111).trans le137).trans le142).trans le146).trans le149).trans le160).trans le181)
                have ow302 := ow275.pick 5 rfl
                have ow303 := ow302.pick 2 rfl
                have ow304 := ow303.pick 4 rfl
                have ow305 := ow304.pick 4 rfl
                have ow306 := ow305.pick 5 rfl
                obtain ⟨x307, hx308, h309⟩ := bindS h300
                refine O.call (V := V180) rfl rfl (.inr ⟨_, _, _, rfl, rfl, ((L 2 rfl rfl).trans (congrArg Value.bool g299))⟩) rfl en40 (aC (L 1 rfl rfl) (aC (L 0 rfl rfl) aN)) (wk_slices_ContainsFunc_2 V180 _ x4 x69 x29 x4 x102 v7 b80 10 b40 1 v32 hs38 b14 1 v7 b135 1 f301 f301 ow306 _ hx308) (fun _ _ _ _ => nd) (fun v310 V311 le312 hp313 => ?_)
                obtain ⟨rfl, ow314⟩ := hp313
                refine U.p rfl rfl (.inl rfl) (S.pickT rfl ((L 3 rfl rfl).trans (congrArg Value.bool g299)) (L 0 rfl rfl)) ?_
                have e315 := Option.some.inj h309
                subst e315
                have ow316 := ow314.pick 6 rfl
                have ow317 := ow316.pick 5 rfl
                have ow318 := ow317.pick 2 rfl
                have ow319 := ow318.pick 4 rfl
                have ow320 := ow319.pick 4 rfl
                have ow321 := ow320.pick 5 rfl
                have ow322 := ow321.pick 6 rfl
                exact kk [(103, .bool x307), (102, .bool x307), (101, .func (.func 41) #[] #[.pointer (some ⟨b80, 0, none⟩), .pointer (some ⟨b40, 0, none⟩), .pointer (some ⟨b14, 0, none⟩), .pointer (some ⟨b135, 0, none⟩)]), (100, v7)] _ ⟨.bool x307, .func (.func 41) #[] #[.pointer (some ⟨b80, 0, none⟩), .pointer (some ⟨b40, 0, none⟩), .pointer (some ⟨b14, 0, none⟩), .pointer (some ⟨b135, 0, none⟩)], v7, V311, rfl, le312, rfl, ow322⟩
               ·have h323 := ifF g299 hy277
                refine U.x rfl rfl rfl rfl ((L 0 rfl rfl).trans (congrArg Value.bool g299)) (by decide) ?_
                refine U.x rfl rfl rfl rfl ((L 1 rfl rfl).trans (congrArg Value.bool g299)) (by decide) ?_
                refine U.x rfl rfl rfl rfl ((L 2 rfl rfl).trans (congrArg Value.bool g299)) (by decide) ?_
                refine U.p rfl rfl (.inl rfl) (S.pickF rfl ((L 3 rfl rfl).trans (congrArg Value.bool g299)) K) ?_
                have e324 := Option.some.inj h323
                subst e324
                exact kk [(103, .bool false), (102, .tuple #[]), (101, .tuple #[]), (100, .tuple #[])] _ ⟨.tuple #[], .tuple #[], .tuple #[], V180, rfl, (.refl _), rfl, ow275⟩
            ·intro kk
             refine bcase (b := x209 && (decide (x69.e.rf < x124.e.id))) (fun g325 => ?_) (fun g325 => ?_)
             ·skip
              refine U.p (v := .pointer (some ⟨b80, 0, none⟩)) rfl rfl (.inr ⟨_, _, _, rfl, rfl, ((L 0 rfl rfl).trans (congrArg Value.bool g325))⟩) (S.fieldAddr rfl (L 20 rfl rfl) Try.underlying45 rfl ti31 rfl rfl) ?_
              refine U.p (v := .pointer (some ⟨b80, 7, none⟩)) rfl rfl (.inr ⟨_, _, _, rfl, rfl, ((L 1 rfl rfl).trans (congrArg Value.bool g325))⟩) (S.fieldAddr rfl (L 0 rfl rfl) Try.underlying31 rfl ti3 rfl rfl) ?_
              refine U.k rfl rfl (.inr ⟨_, _, _, rfl, rfl, ((L 2 rfl rfl).trans (congrArg Value.bool g325))⟩) (S.load rfl (L 0 rfl rfl) Try.underlying3 rfl ((ow223.own (k := 4) rfl).cell rfl)) nd ?_
              refine U.p rfl rfl (.inr ⟨_, _, _, rfl, rfl, ((L 3 rfl rfl).trans (congrArg Value.bool g325))⟩) (S.eqlI rfl (L 0 rfl rfl) K) ?_
              refine U.p rfl rfl (.inl rfl) (S.pickT rfl ((L 4 rfl rfl).trans (congrArg Value.bool g325)) (L 0 rfl rfl)) ?_
              exact kk [(90, .bool (decide (x69.e.rf = 0))), (89, .bool (decide (x69.e.rf = 0))), (88, .int .i64 x69.e.rf), (87, .pointer (some ⟨b80, 7, none⟩)), (86, .pointer (some ⟨b80, 0, none⟩))] _ ⟨.bool (decide (x69.e.rf = 0)), .int .i64 x69.e.rf, .pointer (some ⟨b80, 7, none⟩), .pointer (some ⟨b80, 0, none⟩), rfl, (by rw [g325, Bool.true_and])⟩
             ·skip
              refine U.x rfl rfl rfl rfl ((L 0 rfl rfl).trans (congrArg Value.bool g325)) (by decide) ?_
              refine U.x rfl rfl rfl rfl ((L 1 rfl rfl).trans (congrArg Value.bool g325)) (by decide) ?_
              refine U.x rfl rfl rfl rfl ((L 2 rfl rfl).trans (congrArg Value.bool g325)) (by decide) ?_
              refine U.x rfl rfl rfl rfl ((L 3 rfl rfl).trans (congrArg Value.bool g325)) (by decide) ?_
              refine U.p rfl rfl (.inl rfl) (S.pickF rfl ((L 4 rfl rfl).trans (congrArg Value.bool g325)) K) ?_
              exact kk [(90, .bool false), (89, .tuple #[]), (88, .tuple #[]), (87, .tuple #[]), (86, .tuple #[])] _ ⟨.tuple #[], .tuple #[], .tuple #[], .tuple #[], rfl, (by rw [g325, Bool.false_and])⟩
           ·intro kk
            refine bcase (b := x209) (fun g326 => ?_) (fun g326 => ?_)
            ·skip
             refine U.p (v := .pointer (some ⟨b140, 0, none⟩)) rfl rfl (.inr ⟨_, _, _, rfl, rfl, ((L 0 rfl rfl).trans (congrArg Value.bool g326))⟩) (S.fieldAddr rfl (L 13 rfl rfl) Try.underlying45 rfl ti31 rfl rfl) ?_
             refine U.p (v := .pointer (some ⟨b140, 8, none⟩)) rfl rfl (.inr ⟨_, _, _, rfl, rfl, ((L 1 rfl rfl).trans (congrArg Value.bool g326))⟩) (S.fieldAddr rfl (L 0 rfl rfl) Try.underlying31 rfl ti3 rfl rfl) ?_
             refine U.k rfl rfl (.inr ⟨_, _, _, rfl, rfl, ((L 2 rfl rfl).trans (congrArg Value.bool g326))⟩) (S.load rfl (L 0 rfl rfl) Try.underlying3 rfl ((ow223.own (k := 6) rfl).cell rfl)) nd ?_
             refine U.p (v := .pointer (some ⟨b80, 0, none⟩)) rfl rfl (.inr ⟨_, _, _, rfl, rfl, ((L 3 rfl rfl).trans (congrArg Value.bool g326))⟩) (S.fieldAddr rfl (L 14 rfl rfl) Try.underlying45 rfl ti31 rfl rfl) ?_
             refine U.p (v := .pointer (some ⟨b80, 7, none⟩)) rfl rfl (.inr ⟨_, _, _, rfl, rfl, ((L 4 rfl rfl).trans (congrArg Value.bool g326))⟩) (S.fieldAddr rfl (L 0 rfl rfl) Try.underlying31 rfl ti3 rfl rfl) ?_
             refine U.k rfl rfl (.inr ⟨_, _, _, rfl, rfl, ((L 5 rfl rfl).trans (congrArg Value.bool g326))⟩) (S.load rfl (L 0 rfl rfl) Try.underlying3 rfl ((ow223.own (k := 4) rfl).cell rfl)) nd ?_
             refine U.p rfl rfl (.inr ⟨_, _, _, rfl, rfl, ((L 6 rfl rfl).trans (congrArg Value.bool g326))⟩) (S.gtr rfl (L 3 rfl rfl) (L 0 rfl rfl)) ?_
             refine U.p rfl rfl (.inl rfl) (S.pickT rfl ((L 7 rfl rfl).trans (congrArg Value.bool g326)) (L 0 rfl rfl)) ?_
             exact kk [(84, .bool (decide (x69.e.rf < x124.e.id))), (83, .bool (decide (x69.e.rf < x124.e.id))), (82, .int .i64 x69.e.rf), (81, .pointer (some ⟨b80, 7, none⟩)), (80, .pointer (some ⟨b80, 0, none⟩)), (79, .int .i64 x124.e.id), (78, .pointer (some ⟨b140, 8, none⟩)), (77, .pointer (some ⟨b140, 0, none⟩))] _ ⟨.bool (decide (x69.e.rf < x124.e.id)), .int .i64 x69.e.rf, .pointer (some ⟨b80, 7, none⟩), .pointer (some ⟨b80, 0, none⟩), .int .i64 x124.e.id, .pointer (some ⟨b140, 8, none⟩), .pointer (some ⟨b140, 0, none⟩), rfl, (by rw [g326, Bool.true_and])⟩
            ·skip
             refine U.x rfl rfl rfl rfl ((L 0 rfl rfl).trans (congrArg Value.bool g326)) (by decide) ?_
             refine U.x rfl rfl rfl rfl ((L 1 rfl rfl).trans (congrArg Value.bool g326)) (by decide) ?_
             refine U.x rfl rfl rfl rfl ((L 2 rfl rfl).trans (congrArg Value.bool g326)) (by decide) ?_
             refine U.x rfl rfl rfl rfl ((L 3 rfl rfl).trans (congrArg Value.bool g326)) (by decide) ?_
             refine U.x rfl rfl rfl rfl ((L 4 rfl rfl).trans (congrArg Value.bool g326)) (by decide) ?_
             refine U.x rfl rfl rfl rfl ((L 5 rfl rfl).trans (congrArg Value.bool g326)) (by decide) ?_
             refine U.x rfl rfl rfl rfl ((L 6 rfl rfl).trans (congrArg Value.bool g326)) (by decide) ?_
             refine U.p rfl rfl (.inl rfl) (S.pickF rfl ((L 7 rfl rfl).trans (congrArg Value.bool g326)) K) ?_
             exact kk [(84, .bool false), (83, .tuple #[]), (82, .tuple #[]), (81, .tuple #[]), (80, .tuple #[]), (79, .tuple #[]), (78, .tuple #[]), (77, .tuple #[])] _ ⟨.tuple #[], .tuple #[], .tuple #[], .tuple #[], .tuple #[], .tuple #[], .tuple #[], rfl, (by rw [g326, Bool.false_and])⟩
         ·skip
          refine WP.udreg rfl rfl rfl ?_
          refine U.k rfl rfl (.inl rfl) (S.loadB rfl (L 22 rfl rfl) Try.underlying45 rfl ti45 (ow161.own (k := 0) rfl).get rfl) (fun _ => (okH.nil (fun r h => by cases h; exact (ow161.own (k := 0) rfl).lt))) ?_
          refine U.k rfl rfl (.inl rfl) (S.loadB rfl (L 32 rfl rfl) Try.underlying45 rfl ti45 (ow161.own (k := 6) rfl).get rfl) (fun _ => (okH.cons trivial (okH.nil (fun r h => by cases h; exact (ow161.own (k := 6) rfl).lt)))) ?_
          obtain ⟨x327, hx328, h329⟩ := bindS h178
          refine O.call (V := V159) rfl rfl (.inl rfl) rfl en28 (aC (L 1 rfl rfl) (aC (L 0 rfl rfl) aN)) (wk_order_rf V159 _ x124 x69 ow161 _ hx328) (fun v330 V331 le332 hp333 => by obtain ⟨rfl, ow334⟩ := hp333; exact (fun _ => (okH.cons (Or.inl rfl) (okH.cons (Or.inl rfl) (okH.nil (fun r h => nomatch h)))))) (fun v330 V331 le332 hp333 => ?_)
          obtain ⟨rfl, ow334⟩ := hp333
          refine U.p rfl rfl (.inl rfl) (S.move rfl (L 0 rfl rfl)) ?_
          refine bcase (b := x327) (fun g335 => ?_) (fun g335 => ?_)
          ·have h336 := ifT g335 h329
           refine U.k rfl rfl (.inr ⟨_, _, _, rfl, rfl, ((L 0 rfl rfl).trans (congrArg Value.bool g335))⟩) (S.load rfl (L 33 rfl rfl) Try.underlying42 rfl ((ow334.own (k := 4) rfl).cell rfl)) (fun _ => (okH.cons (Or.inl rfl) (okH.cons trivial (okH.cons trivial (okH.nil (fun r h => by cases h; exact (ow334.own (k := 4) rfl).lt)))))) ?_
           refine U.p rfl rfl (.inr ⟨_, _, _, rfl, rfl, ((L 1 rfl rfl).trans (congrArg Value.bool g335))⟩) (S.move rfl (L 35 rfl rfl)) ?_
           obtain ⟨x337, hx338, h339⟩ := bindS h336
           obtain ⟨b340, o341, n342, c343, hv344⟩ := ow334.sspt (k := 5) rfl hx338
           refine U.p rfl rfl (.inr ⟨_, _, _, rfl, rfl, ((L 2 rfl rfl).trans (congrArg Value.bool g335))⟩) (S.index rfl ((L 1 rfl rfl).trans (ow334.sslen' (k := 5) rfl hv344)) (L 0 rfl rfl) Try.underlying42 ti53 (ix_ge hx338) (ix_lt hx338)) ?_
           obtain ⟨h345, hh346, ow347⟩ := ow334.ssopen (k := 5) rfl hx338
           have hcl349 := ow347.shcell (k := 6) rfl hv344 hh346
           refine U.k rfl rfl (.inr ⟨_, _, _, rfl, rfl, ((L 3 rfl rfl).trans (congrArg Value.bool g335))⟩) (S.load rfl (L 0 rfl rfl) Try.underlying53 rfl hcl349.2) (fun _ => (okH.cons trivial (okH.cons (Or.inl rfl) (okH.cons trivial (okH.cons trivial (okH.nil (fun r h => by cases h; exact hcl349.1))))))) ?_
           refine U.k rfl rfl (.inr ⟨_, _, _, rfl, rfl, ((L 4 rfl rfl).trans (congrArg Value.bool g335))⟩) (S.load rfl (L 31 rfl rfl) Try.underlying3 rfl ((ow347.own (k := 2) rfl).cell rfl)) (fun _ => (okH.cons trivial (okH.cons trivial (okH.cons (Or.inl rfl) (okH.cons trivial (okH.cons trivial (okH.nil (fun r h => by cases h; exact (ow347.own (k := 2) rfl).lt)))))))) ?_
           obtain ⟨x350, hx351, h352⟩ := bindS h339
           obtain ⟨b353, o354, n355, c356, hv357⟩ := ow347.ospt (k := 0) rfl hx351
           obtain ⟨_, hv358, _⟩ := ow347.osel (k := 0) rfl hv357 hx351
           refine U.p rfl rfl (.inr ⟨_, _, _, rfl, rfl, ((L 5 rfl rfl).trans (congrArg Value.bool g335))⟩) (S.index rfl ((L 1 rfl rfl).trans hv358) (L 0 rfl rfl) Try.underlying53 ti4 (ix_ge hx351) (ix_lt hx351)) ?_
           obtain ⟨cs359, hv360, hlt361, hr362, hc363⟩ := ow347.osel (k := 0) rfl hv357 hx351
           obtain rfl : cs359 = [.bool x350] := hr362
           refine U.k rfl rfl (.inr ⟨_, _, _, rfl, rfl, ((L 6 rfl rfl).trans (congrArg Value.bool g335))⟩) (S.load rfl (L 0 rfl rfl) Try.underlying4 rfl (hc363 0 _ rfl)) (fun _ => (okH.cons trivial (okH.cons trivial (okH.cons trivial (okH.cons (Or.inl rfl) (okH.cons trivial (okH.cons trivial (okH.nil (fun r h => by cases h; exact hlt361))))))))) ?_
           refine U.p rfl rfl (.inl rfl) (S.pickT rfl ((L 7 rfl rfl).trans (congrArg Value.bool g335)) (L 0 rfl rfl)) ?_
           refine U.p rfl rfl (.inl rfl) (S.assign rfl (L 0 rfl rfl)) ?_
           refine U.done (Nat.le_of_ble_eq_true rfl) ?_
           refine sqN ?_
           have ow364 := ow347.ssclose' (k := 6) (j := 0) rfl rfl (by decide) hh346 hx338
           have ow365 := ow364.pick 0 rfl
           have ow366 := ow365.pick 1 rfl
           have ow367 := ow366.pick 6 rfl
           have ow368 := ow367.pick 6 rfl
           have ow369 := ow368.pick 6 rfl
           have ow370 := ow369.pick 6 rfl
           have ow371 := ow370.pick 6 rfl
           exact ⟨_, V331, rfl, ⟨x350, rfl, le332, ow371, h352⟩, (allCons (L 41 rfl rfl) (allCons (L 42 rfl rfl) (allCons (L 43 rfl rfl) (allCons (L 44 rfl rfl) (allCons (L 36 rfl rfl) (allCons (L 35 rfl rfl) (allCons (L 45 rfl rfl) (allCons (L 46 rfl rfl) (allCons (L 47 rfl rfl) (allCons (L 48 rfl rfl) (allCons (L 49 rfl rfl) (allCons (L 50 rfl rfl) (allCons (L 0 rfl rfl) allNil)))))))))))))⟩
          ·have h372 := ifF g335 h329
           refine U.x rfl rfl rfl rfl ((L 0 rfl rfl).trans (congrArg Value.bool g335)) (by decide) ?_
           refine U.x rfl rfl rfl rfl ((L 1 rfl rfl).trans (congrArg Value.bool g335)) (by decide) ?_
           refine U.x rfl rfl rfl rfl ((L 2 rfl rfl).trans (congrArg Value.bool g335)) (by decide) ?_
           refine U.x rfl rfl rfl rfl ((L 3 rfl rfl).trans (congrArg Value.bool g335)) (by decide) ?_
           refine U.x rfl rfl rfl rfl ((L 4 rfl rfl).trans (congrArg Value.bool g335)) (by decide) ?_
           refine U.x rfl rfl rfl rfl ((L 5 rfl rfl).trans (congrArg Value.bool g335)) (by decide) ?_
           refine U.x rfl rfl rfl rfl ((L 6 rfl rfl).trans (congrArg Value.bool g335)) (by decide) ?_
           refine U.p rfl rfl (.inl rfl) (S.pickF rfl ((L 7 rfl rfl).trans (congrArg Value.bool g335)) K) ?_
           refine U.p rfl rfl (.inl rfl) (S.assign rfl (L 0 rfl rfl)) ?_
           refine U.done (Nat.le_of_ble_eq_true rfl) ?_
           refine sqN ?_
           have ow373 := ow334.pick 0 rfl
           have ow374 := ow373.pick 1 rfl
           have ow375 := ow374.pick 6 rfl
           have ow376 := ow375.pick 6 rfl
           have ow377 := ow376.pick 6 rfl
           have ow378 := ow377.pick 6 rfl
           have ow379 := ow378.pick 6 rfl
           exact ⟨_, V331, rfl, ⟨false, rfl, le332, ow379, h372⟩, (allCons (L 41 rfl rfl) (allCons (L 42 rfl rfl) (allCons (L 43 rfl rfl) (allCons (L 44 rfl rfl) (allCons (L 36 rfl rfl) (allCons (L 35 rfl rfl) (allCons (L 45 rfl rfl) (allCons (L 46 rfl rfl) (allCons (L 47 rfl rfl) (allCons (L 48 rfl rfl) (allCons (L 49 rfl rfl) (allCons (L 50 rfl rfl) (allCons (L 0 rfl rfl) allNil)))))))))))))⟩
       ·intro kk
        refine bcase (b := y151) (fun g380 => ?_) (fun g380 => ?_)
        ·skip
         refine U.x rfl rfl rfl rfl ((L 0 rfl rfl).trans (congrArg Value.bool g380)) (by decide) ?_
         refine U.x rfl rfl rfl rfl ((L 1 rfl rfl).trans (congrArg Value.bool g380)) (by decide) ?_
         refine U.x rfl rfl rfl rfl ((L 2 rfl rfl).trans (congrArg Value.bool g380)) (by decide) ?_
         refine U.x rfl rfl rfl rfl ((L 3 rfl rfl).trans (congrArg Value.bool g380)) (by decide) ?_
         refine U.x rfl rfl rfl rfl ((L 4 rfl rfl).trans (congrArg Value.bool g380)) (by decide) ?_
         refine U.x rfl rfl rfl rfl ((L 5 rfl rfl).trans (congrArg Value.bool g380)) (by decide) ?_
         refine U.x rfl rfl rfl rfl ((L 6 rfl rfl).trans (congrArg Value.bool g380)) (by decide) ?_
         refine U.x rfl rfl rfl rfl ((L 7 rfl rfl).trans (congrArg Value.bool g380)) (by decide) ?_
         refine U.x rfl rfl rfl rfl ((L 8 rfl rfl).trans (congrArg Value.bool g380)) (by decide) ?_
         refine U.p rfl rfl (.inl rfl) (S.pickT rfl ((L 9 rfl rfl).trans (congrArg Value.bool g380)) K) ?_
         exact kk [(54, .bool true), (53, .tuple #[]), (52, .tuple #[]), (51, .tuple #[]), (50, .tuple #[]), (49, .tuple #[]), (48, .tuple #[]), (47, .tuple #[]), (46, .tuple #[]), (45, .tuple #[])] _ ⟨.tuple #[], .tuple #[], .tuple #[], .tuple #[], .tuple #[], .tuple #[], .tuple #[], .tuple #[], .tuple #[], rfl, (by rw [g380, Bool.true_or])⟩
        ·skip
         refine U.p (v := .pointer (some ⟨b140, 0, none⟩)) rfl rfl (.inr ⟨_, _, _, rfl, rfl, ((L 0 rfl rfl).trans (congrArg Value.bool g380))⟩) (S.fieldAddr rfl (L 11 rfl rfl) Try.underlying45 rfl ti31 rfl rfl) ?_
         refine U.p (v := .pointer (some ⟨b140, 1, none⟩)) rfl rfl (.inr ⟨_, _, _, rfl, rfl, ((L 1 rfl rfl).trans (congrArg Value.bool g380))⟩) (S.fieldAddr rfl (L 0 rfl rfl) Try.underlying31 rfl ti29 rfl rfl) ?_
         refine U.p (v := .pointer (some ⟨b140, 2, none⟩)) rfl rfl (.inr ⟨_, _, _, rfl, rfl, ((L 2 rfl rfl).trans (congrArg Value.bool g380))⟩) (S.fieldAddr rfl (L 0 rfl rfl) Try.underlying29 rfl ti3 rfl rfl) ?_
         refine U.k rfl rfl (.inr ⟨_, _, _, rfl, rfl, ((L 3 rfl rfl).trans (congrArg Value.bool g380))⟩) (S.load rfl (L 0 rfl rfl) Try.underlying3 rfl ((ow161.own (k := 0) rfl).cell rfl)) nd ?_
         refine U.p (v := .pointer (some ⟨b80, 0, none⟩)) rfl rfl (.inr ⟨_, _, _, rfl, rfl, ((L 4 rfl rfl).trans (congrArg Value.bool g380))⟩) (S.fieldAddr rfl (L 24 rfl rfl) Try.underlying45 rfl ti31 rfl rfl) ?_
         refine U.p (v := .pointer (some ⟨b80, 1, none⟩)) rfl rfl (.inr ⟨_, _, _, rfl, rfl, ((L 5 rfl rfl).trans (congrArg Value.bool g380))⟩) (S.fieldAddr rfl (L 0 rfl rfl) Try.underlying31 rfl ti29 rfl rfl) ?_
         refine U.p (v := .pointer (some ⟨b80, 2, none⟩)) rfl rfl (.inr ⟨_, _, _, rfl, rfl, ((L 6 rfl rfl).trans (congrArg Value.bool g380))⟩) (S.fieldAddr rfl (L 0 rfl rfl) Try.underlying29 rfl ti3 rfl rfl) ?_
         refine U.k rfl rfl (.inr ⟨_, _, _, rfl, rfl, ((L 7 rfl rfl).trans (congrArg Value.bool g380))⟩) (S.load rfl (L 0 rfl rfl) Try.underlying3 rfl ((ow161.own (k := 6) rfl).cell rfl)) nd ?_
         refine U.p rfl rfl (.inr ⟨_, _, _, rfl, rfl, ((L 8 rfl rfl).trans (congrArg Value.bool g380))⟩) (S.neqI rfl (L 4 rfl rfl) (L 0 rfl rfl)) ?_
         refine U.p rfl rfl (.inl rfl) (S.pickF rfl ((L 9 rfl rfl).trans (congrArg Value.bool g380)) (L 0 rfl rfl)) ?_
         exact kk [(54, .bool (decide (x124.e.act.at_ ≠ x69.e.act.at_))), (53, .bool (decide (x124.e.act.at_ ≠ x69.e.act.at_))), (52, .int .i64 x69.e.act.at_), (51, .pointer (some ⟨b80, 2, none⟩)), (50, .pointer (some ⟨b80, 1, none⟩)), (49, .pointer (some ⟨b80, 0, none⟩)), (48, .int .i64 x124.e.act.at_), (47, .pointer (some ⟨b140, 2, none⟩)), (46, .pointer (some ⟨b140, 1, none⟩)), (45, .pointer (some ⟨b140, 0, none⟩))] _ ⟨.bool (decide (x124.e.act.at_ ≠ x69.e.act.at_)), .int .i64 x69.e.act.at_, .pointer (some ⟨b80, 2, none⟩), .pointer (some ⟨b80, 1, none⟩), .pointer (some ⟨b80, 0, none⟩), .int .i64 x124.e.act.at_, .pointer (some ⟨b140, 2, none⟩), .pointer (some ⟨b140, 1, none⟩), .pointer (some ⟨b140, 0, none⟩), rfl, (by rw [g380, Bool.false_or])⟩
      ·intro kk
       refine bcase (b := decide (x48 = x102)) (fun g381 => ?_) (fun g381 => ?_)
       ·have h382 := ifT g381 hy152
        refine U.x rfl rfl rfl rfl ((L 0 rfl rfl).trans (congrArg Value.bool g381)) (by decide) ?_
        refine U.x rfl rfl rfl rfl ((L 1 rfl rfl).trans (congrArg Value.bool g381)) (by decide) ?_
        refine U.x rfl rfl rfl rfl ((L 2 rfl rfl).trans (congrArg Value.bool g381)) (by decide) ?_
        refine U.x rfl rfl rfl rfl ((L 3 rfl rfl).trans (congrArg Value.bool g381)) (by decide) ?_
        refine U.x rfl rfl rfl rfl ((L 4 rfl rfl).trans (congrArg Value.bool g381)) (by decide) ?_
        refine U.p rfl rfl (.inl rfl) (S.pickT rfl ((L 5 rfl rfl).trans (congrArg Value.bool g381)) K) ?_
        have e383 := Option.some.inj h382
        subst e383
        exact kk [(43, .bool true), (42, .tuple #[]), (41, .tuple #[]), (40, .tuple #[]), (39, .tuple #[]), (38, .tuple #[])] _ ⟨.tuple #[], .tuple #[], .tuple #[], .tuple #[], .tuple #[], V148, rfl, (.refl _), rfl, ow150⟩
       ·have h384 := ifF g381 hy152
        refine U.p (v := .pointer (some ⟨b140, 0, none⟩)) rfl rfl (.inr ⟨_, _, _, rfl, rfl, ((L 0 rfl rfl).trans (congrArg Value.bool g381))⟩) (S.fieldAddr rfl (L 4 rfl rfl) Try.underlying45 rfl ti31 rfl rfl) ?_
        refine U.p (v := .pointer (some ⟨b140, 1, none⟩)) rfl rfl (.inr ⟨_, _, _, rfl, rfl, ((L 1 rfl rfl).trans (congrArg Value.bool g381))⟩) (S.fieldAddr rfl (L 0 rfl rfl) Try.underlying31 rfl ti29 rfl rfl) ?_
        refine U.k rfl rfl (.inr ⟨_, _, _, rfl, rfl, ((L 2 rfl rfl).trans (congrArg Value.bool g381))⟩) (S.loadN (cs := [.int .i64 x124.e.act.kind, .int .i64 x124.e.act.at_, .int .i64 x124.e.act.val, .int .i64 x124.e.act.what, .bool x124.e.act.volatile, .bool x124.e.act.final]) rfl (L 0 rfl rfl) Try.underlying29 rfl ti29 rfl (cellsOfOwn (ow150.own (k := 0) rfl) 1 rfl)) nd ?_
        obtain ⟨x385, hx386, h387⟩ := bindS h384
        refine O.call (V := V148) rfl rfl (.inr ⟨_, _, _, rfl, rfl, ((L 3 rfl rfl).trans (congrArg Value.bool g381))⟩) rfl en39 (aC (L 0 rfl rfl) aN) (wk_order_writes V148 _ x124.e.act ow150 _ hx386) (fun _ _ _ _ => nd) (fun v388 V389 le390 hp391 => ?_)
        obtain ⟨rfl, ow392⟩ := hp391
        refine U.p rfl rfl (.inr ⟨_, _, _, rfl, rfl, ((L 4 rfl rfl).trans (congrArg Value.bool g381))⟩) (S.not rfl (L 0 rfl rfl)) ?_
        refine U.p rfl rfl (.inl rfl) (S.pickF rfl ((L 5 rfl rfl).trans (congrArg Value.bool g381)) (L 0 rfl rfl)) ?_
        have e393 := Option.some.inj h387
        subst e393
        exact kk [(43, .bool (!x385)), (42, .bool (!x385)), (41, .bool x385), (40, .agg #[.int .i64 x124.e.act.kind, .int .i64 x124.e.act.at_, .int .i64 x124.e.act.val, .int .i64 x124.e.act.what, .bool x124.e.act.volatile, .bool x124.e.act.final]), (39, .pointer (some ⟨b140, 1, none⟩)), (38, .pointer (some ⟨b140, 0, none⟩))] _ ⟨.bool (!x385), .bool x385, .agg #[.int .i64 x124.e.act.kind, .int .i64 x124.e.act.at_, .int .i64 x124.e.act.val, .int .i64 x124.e.act.what, .bool x124.e.act.volatile, .bool x124.e.act.final], .pointer (some ⟨b140, 1, none⟩), .pointer (some ⟨b140, 0, none⟩), V389, rfl, le390, rfl, ow392⟩
    ·have h394 := ifF c118 h117
     refine WP.exit ?_
     refine sqE (sqE (blkE (blkN (sqN ?_))))
     have h395 := exitS h394 e115
     have ow396 := ow112.drop 4 rfl
     exact ⟨_, V110, rfl, ⟨rfl, (((le82.trans le86).trans le93).trans le111), ow396, h395⟩, (allCons (L 1 rfl rfl) (allCons (L 2 rfl rfl) (allCons (L 5 rfl rfl) (allCons (L 6 rfl rfl) (allCons (L 7 rfl rfl) allNil)))))⟩
 ·have h397 := ifF c63 h62
  refine WP.exit ?_
  refine sqE (sqE (blkE (sqN ?_)))
  have h398 := exitS h397 e60
  refine WP.usreg rfl ?_
  refine U.p rfl rfl (.inl rfl) (S.assign rfl K) ?_
  refine U.done (Nat.le_of_ble_eq_true rfl) ?_
  refine WP.ret ?_
  refine fin.slot (.inr rfl) rfl (L 0 rfl rfl) ⟨V55, rfl, (((((((le9.trans le16).trans le20).trans le23).trans le34).trans le42).trans le46).trans le56), ?_⟩
  have ow399 := ow57.drop 1 rfl
  have ow400 := ow399.drop 1 rfl
  have ow401 := ow400.drop 1 rfl
  have e402 := Option.some.inj h398
  subst e402
  exact ⟨rfl, ow401⟩

set_option maxHeartbeats 4000000 in
set_option maxRecDepth 10000 in
theorem wk_order_Run_nodes_2 (V : Vw) (Rs : List At) (p0 : List (List TEvent)) (v1 : Value) (hs2 : List Value) (ow : Ow V (.oss (RO.os RT_TEvent) v1 hs2 p0 :: Rs)) (r : List Torder_node) (h : order_Run_nodes_2 p0 = some r) : ∃ v V', Cl Try.prog 0 23 #[v1, .func (.func 36) #[] #[]] V.H v V'.H ∧ V.le V' ∧ (∃ (v4 : Value), v = v4 ∧ Ow V' (.os RT_Torder_node v4 r :: .oss (RO.os RT_TEvent) v1 hs2 p0 :: Rs)) := by
 refine Ct.of (Nat.zero_le _) Try.func23 rfl (Nat.le_of_ble_eq_true rfl) ?_
 unfold order_Run_nodes_2 at h
 refine WP.usreg rfl ?_
 refine U.p rfl rfl (.inl rfl) (S.assign rfl K) ?_
 refine U.done (Nat.le_of_ble_eq_true rfl) ?_
 refine WP.usreg rfl ?_
 refine U.p rfl rfl (.inl rfl) (S.assign rfl K) ?_
 refine U.done (Nat.le_of_ble_eq_true rfl) ?_
 refine WP.seq ?_
 refine WP.usreg rfl ?_
 refine U.p rfl rfl (.inl rfl) (S.move rfl (L 2 rfl rfl)) ?_
 refine U.p rfl rfl (.inl rfl) (ow.sslen (k := 0) rfl rfl (L 0 rfl rfl) Try.underlying25) ?_
 refine U.p rfl rfl (.inl rfl) (S.move rfl K) ?_
 refine U.done (Nat.le_of_ble_eq_true rfl) ?_
 refine WP.blk ?_
 have ow10 := ow.nil RT_Torder_node
 have ow12 := ow10.pick 0 rfl
 have ow13 := ow12.pick 1 rfl
 unfold order_Run_nodes_2_l1 at h
 obtain ⟨n15, hn14⟩ := loopO_some.1 h
 refine WP.loopI2 (fun n l V' => ∃ (v7 : Value) (xs8 : List Torder_node) (x9 : Int), l = [(1, .func (.func 36) #[] #[]), (5, v7), (10, v1), (11, .int .i64 (p0.length : Int)), (12, .int .i64 x9)] ∧ V.le V' ∧ Ow V' (.oss (RO.os RT_TEvent) v1 hs2 p0 :: .os RT_Torder_node v7 xs8 :: Rs) ∧ itO (fun s => order_Run_nodes_2_l1b p0 s.1 s.2) n (xs8, x9) = some r) n15 _ ⟨(.slice none 0 0), [], 0, rfl, .refl _, ow13, hn14⟩ (allCons (L 6 rfl rfl) (allCons (L 3 rfl rfl) (allCons (L 2 rfl rfl) (allCons (L 1 rfl rfl) (allCons (L 0 rfl rfl) allNil))))) ?_
 rintro _ _ V16 ⟨v7, xs8, x9, rfl, le17, ow18, h22⟩
 obtain ⟨m19, q20, rfl, h23, e21⟩ := itS h22
 replace h23 : order_Run_nodes_2_l1b p0 xs8 x9 = some q20 := h23
 unfold order_Run_nodes_2_l1b at h23
 refine WP.usreg rfl ?_
 refine U.p rfl rfl (.inl rfl) (S.lss rfl (L 4 rfl rfl) (L 3 rfl rfl)) ?_
 refine U.done (Nat.le_of_ble_eq_true rfl) ?_
 refine WP.seq ?_
 refine WP.cond _ (L 0 rfl rfl) rfl (fun c24 => ?_) (fun c24 => ?_)
 ·have h25 := ifT c24 h23
  refine WP.skip ?_
  refine sqN ?_
  refine WP.seq ?_
  refine WP.blk ?_
  refine WP.usreg rfl ?_
  obtain ⟨x26, hx27, h28⟩ := bindS h25
  obtain ⟨b29, o30, n31, c32, hv33⟩ := ow18.sspt (k := 0) rfl hx27
  refine U.p rfl rfl (.inl rfl) (S.index rfl ((L 3 rfl rfl).trans (ow18.sslen' (k := 0) rfl hv33)) (L 5 rfl rfl) Try.underlying25 ti27 (ix_ge hx27) (ix_lt hx27)) ?_
  obtain ⟨h34, hh35, ow36⟩ := ow18.ssopen (k := 0) rfl hx27
  have hcl38 := ow36.shcell (k := 1) rfl hv33 hh35
  refine U.k rfl rfl (.inl rfl) (S.load rfl (L 0 rfl rfl) Try.underlying27 rfl hcl38.2) nd ?_
  refine U.p rfl rfl (.inl rfl) (S.assign rfl (L 0 rfl rfl)) ?_
  refine U.done (Nat.le_of_ble_eq_true rfl) ?_
  refine WP.usreg rfl ?_
  refine U.p rfl rfl (.inl rfl) (S.move rfl (L 0 rfl rfl)) ?_
  refine U.p rfl rfl (.inl rfl) (ow36.oslen (k := 0) rfl rfl (L 0 rfl rfl) Try.underlying27) ?_
  refine U.p rfl rfl (.inl rfl) (S.move rfl K) ?_
  refine U.done (Nat.le_of_ble_eq_true rfl) ?_
  refine WP.blk ?_
  have ow39 := ow36.ssclose' (k := 1) (j := 0) rfl rfl (by decide) hh35 hx27
  unfold order_Run_nodes_2_l2 at h28
  obtain ⟨n45, hn44⟩ := loopO_some.1 h28
  refine WP.loopI2 (fun n l V' => ∃ (v41 : Value) (xs42 : List Torder_node) (x43 : Int), l = [(1, .func (.func 36) #[] #[]), (5, v41), (10, v1), (11, .int .i64 (p0.length : Int)), (12, .int .i64 x9), (16, h34), (17, .int .i64 (x26.length : Int)), (18, .int .i64 x43)] ∧ V16.le V' ∧ Ow V' (.oss (RO.os RT_TEvent) v1 hs2 p0 :: .os RT_Torder_node v41 xs42 :: Rs) ∧ itO (fun s => order_Run_nodes_2_l2b p0 x9 x26 s.1 s.2) n (xs42, x43) = some q20) n45 _ ⟨v7, xs8, 0, rfl, .refl _, ow39, hn44⟩ (allCons (L 7 rfl rfl) (allCons (L 8 rfl rfl) (allCons (L 9 rfl rfl) (allCons (L 10 rfl rfl) (allCons (L 11 rfl rfl) (allCons (L 2 rfl rfl) (allCons (L 1 rfl rfl) (allCons (L 0 rfl rfl) allNil)))))))) ?_
  rintro _ _ V46 ⟨v41, xs42, x43, rfl, le47, ow48, h52⟩
  obtain ⟨m49, q50, rfl, h53, e51⟩ := itS h52
  replace h53 : order_Run_nodes_2_l2b p0 x9 x26 xs42 x43 = some q50 := h53
  unfold order_Run_nodes_2_l2b at h53
  refine WP.usreg rfl ?_
  refine U.p rfl rfl (.inl rfl) (S.lss rfl (L 7 rfl rfl) (L 6 rfl rfl)) ?_
  refine U.done (Nat.le_of_ble_eq_true rfl) ?_
  refine WP.seq ?_
  refine WP.cond _ (L 0 rfl rfl) rfl (fun c54 => ?_) (fun c54 => ?_)
  ·have h55 := ifT c54 h53
   refine WP.skip ?_
   refine sqN ?_
   refine WP.seqI (fun l V' => ∃ (v57 : Value) (xs58 : List Torder_node), l = [(1, .func (.func 36) #[] #[]), (5, v57), (10, v1), (11, .int .i64 (p0.length : Int)), (12, .int .i64 x9), (16, h34), (17, .int .i64 (x26.length : Int)), (18, .int .i64 x43)] ∧ V46.le V' ∧ Ow V' (.oss (RO.os RT_TEvent) v1 hs2 p0 :: .os RT_Torder_node v57 xs58 :: Rs) ∧ order_Run_nodes_2_k1 x43 xs58 = some q50) ?_ ?_
   ·rintro _ V59 ⟨v57, xs58, rfl, le60, ow61, h62⟩
    unfold order_Run_nodes_2_k1 at h62
    refine WP.ureg rfl ?_
    refine U.p rfl rfl (.inl rfl) (S.add rfl (L 7 rfl rfl) K) ?_
    refine U.p rfl rfl (.inl rfl) (S.move rfl (L 0 rfl rfl)) ?_
    refine U.done (Nat.le_of_ble_eq_true rfl) ?_
    refine sqN ?_
    exact ⟨_, V59, rfl, ⟨m49, Nat.lt_succ_self _, v57, xs58, w64 (x43 + 1), rfl, (le47.trans le60), ow61, backS h62 e51⟩, (allCons (L 2 rfl rfl) (allCons (L 3 rfl rfl) (allCons (L 4 rfl rfl) (allCons (L 5 rfl rfl) (allCons (L 6 rfl rfl) (allCons (L 7 rfl rfl) (allCons (L 8 rfl rfl) (allCons (L 0 rfl rfl) allNil))))))))⟩
   ·skip
    refine WP.blk ?_
    refine WP.usreg rfl ?_
    refine U.p rfl rfl (.inl rfl) (S.move rfl (L 8 rfl rfl)) ?_
    obtain ⟨x63, hx64, h65⟩ := bindS h55
    obtain ⟨h66, hh67, ow68⟩ := ow48.ssopen (k := 0) rfl hx64
    obtain rfl : h66 = h34 := Option.some.inj (hh67.symm.trans hh35)
    obtain ⟨x70, hx71, h72⟩ := bindS h65
    obtain ⟨b73, o74, n75, c76, hv77⟩ := ow68.ospt (k := 0) rfl hx71
    obtain ⟨_, hv78, _⟩ := ow68.osel (k := 0) rfl hv77 hx71
    refine U.p rfl rfl (.inl rfl) (S.index rfl ((L 7 rfl rfl).trans hv78) (L 9 rfl rfl) Try.underlying27 ti31 (ix_ge hx71) (ix_lt hx71)) ?_
    obtain ⟨cs79, hv80, hlt81, hr82, hc83⟩ := ow68.osel (k := 0) rfl hv77 hx71
    obtain rfl : cs79 = [.int .i64 x70.t, .int .i64 x70.act.kind, .int .i64 x70.act.at_, .int .i64 x70.act.val, .int .i64 x70.act.what, .bool x70.act.volatile, .bool x70.act.final, .int .i64 x70.rf, .int .i64 x70.id] := hr82
    refine U.k rfl rfl (.inl rfl) (S.loadN (cs := [.int .i64 x70.t, .int .i64 x70.act.kind, .int .i64 x70.act.at_, .int .i64 x70.act.val, .int .i64 x70.act.what, .bool x70.act.volatile, .bool x70.act.final, .int .i64 x70.rf, .int .i64 x70.id]) rfl (L 0 rfl rfl) Try.underlying31 rfl ti31 rfl hc83) nd ?_
    refine O.alloc ow68 rfl rfl (.inl rfl) rfl ti31 rfl rfl nd (fun b84 V85 le86 ow87 => ?_)
    refine U.p rfl rfl (.inl rfl) (S.assign rfl (L 3 rfl rfl)) ?_
    refine O.store (k := 0) (cs := [.int .i64 x70.t, .int .i64 x70.act.kind, .int .i64 x70.act.at_, .int .i64 x70.act.val, .int .i64 x70.act.what, .bool x70.act.volatile, .bool x70.act.final, .int .i64 x70.rf, .int .i64 x70.id]) (c' := [.int .i64 x70.t, .int .i64 x70.act.kind, .int .i64 x70.act.at_, .int .i64 x70.act.val, .int .i64 x70.act.what, .bool x70.act.volatile, .bool x70.act.final, .int .i64 x70.rf, .int .i64 x70.id]) ow87 rfl rfl rfl (.inl rfl) rfl (L 1 rfl rfl) (L 2 rfl rfl) ti31 (by simp [topV]) rfl rfl (Nat.le_of_ble_eq_true rfl) rfl rfl nd (fun V89 le90 ow91 => ?_)
    refine U.done (Nat.le_of_ble_eq_true rfl) ?_
    refine WP.usreg rfl ?_
    refine U.p (v := .pointer (some ⟨b84, 1, none⟩)) rfl rfl (.inl rfl) (S.fieldAddr rfl (L 1 rfl rfl) Try.underlying31 rfl ti29 rfl rfl) ?_
    refine U.k rfl rfl (.inl rfl) (S.loadN (cs := [.int .i64 x70.act.kind, .int .i64 x70.act.at_, .int .i64 x70.act.val, .int .i64 x70.act.what, .bool x70.act.volatile, .bool x70.act.final]) rfl (L 0 rfl rfl) Try.underlying29 rfl ti29 rfl (cellsOfOwn (ow91.own (k := 0) rfl) 1 rfl)) nd ?_
    obtain ⟨x92, hx93, h94⟩ := bindS h72
    refine O.call (V := V89) rfl rfl (.inl rfl) rfl en39 (aC (L 0 rfl rfl) aN) (wk_order_writes V89 _ x70.act ow91 _ hx93) (fun _ _ _ _ => nd) (fun v95 V96 le97 hp98 => ?_)
    obtain ⟨rfl, ow99⟩ := hp98
    refine U.p rfl rfl (.inl rfl) (S.move rfl (L 0 rfl rfl)) ?_
    have ow100 := ow99.ssclose' (k := 2) (j := 1) rfl rfl (by decide) hh35 hx64
    obtain ⟨y101, hy102, h103⟩ := bindS h94
    refine U.joinX 8 (fun e H => ∃ (u104 u105 u106 : Value), ∃ V' : Vw, H = V'.H ∧ V96.le V' ∧ e = [(30, .bool y101), (29, u104), (28, u105), (27, u106)] ∧ Ow V' (.pt b84 (.cells 9 [.int .i64 x70.t, .int .i64 x70.act.kind, .int .i64 x70.act.at_, .int .i64 x70.act.val, .int .i64 x70.act.what, .bool x70.act.volatile, .bool x70.act.final, .int .i64 x70.rf, .int .i64 x70.id]) :: .oss (RO.os RT_TEvent) v1 hs2 p0 :: .os RT_Torder_node v41 xs42 :: Rs)) ?_ ?_
    ·rintro _ _ ⟨u104, u105, u106, V107, rfl, le108, rfl, ow109⟩
     refine U.p rfl rfl (.inl rfl) (S.move rfl (L 0 rfl rfl)) ?_
     obtain ⟨y110, hy111, h112⟩ := bindS h103
     refine U.joinX 14 (fun e H => ∃ (u113 u114 u115 u116 : Value), ∃ V' : Vw, H = V'.H ∧ V107.le V' ∧ e = [(36, .bool y110), (35, u113), (34, u114), (33, u115), (32, u116)] ∧ Ow V' (.pt b84 (.cells 9 [.int .i64 x70.t, .int .i64 x70.act.kind, .int .i64 x70.act.at_, .int .i64 x70.act.val, .int .i64 x70.act.what, .bool x70.act.volatile, .bool x70.act.final, .int .i64 x70.rf, .int .i64 x70.id]) :: .oss (RO.os RT_TEvent) v1 hs2 p0 :: .os RT_Torder_node v41 xs42 :: Rs)) ?_ ?_
     ·rintro _ _ ⟨u113, u114, u115, u116, V117, rfl, le118, rfl, ow119⟩
      refine U.done (Nat.le_of_ble_eq_true rfl) ?_
      refine WP.cond _ (L 0 rfl rfl) rfl (fun c120 => ?_) (fun c120 => ?_)
      ·have h121 := ifT c120 h112
       refine WP.ureg rfl ?_
       refine U.p rfl rfl (.inl rfl) (S.move rfl (L 21 rfl rfl)) ?_
       refine U.k rfl rfl (.inl rfl) (S.loadB rfl (L 16 rfl rfl) Try.underlying31 rfl ti31 (ow119.own (k := 0) rfl).get rfl) nd ?_
       refine U.p rfl rfl (.inl rfl) (S.move rfl (L 16 rfl rfl)) ?_
       refine U.p (v := .agg #[.int .i64 x70.t, .int .i64 x70.act.kind, .int .i64 x70.act.at_, .int .i64 x70.act.val, .int .i64 x70.act.what, .bool x70.act.volatile, .bool x70.act.final, .int .i64 x70.rf, .int .i64 x70.id, .int .i64 x43]) rfl rfl (.inl rfl) (S.build (vs := [.agg #[.int .i64 x70.t, .int .i64 x70.act.kind, .int .i64 x70.act.at_, .int .i64 x70.act.val, .int .i64 x70.act.what, .bool x70.act.volatile, .bool x70.act.final, .int .i64 x70.rf, .int .i64 x70.id], .int .i64 x43]) rfl ti45 rfl pl45 (aC (L 1 rfl rfl) (aC (L 0 rfl rfl) aN)) (allC (by simp [topV]) (allC (by simp [topV]) allN)) (fillA (ws := [.int .i64 x70.t, .int .i64 x70.act.kind, .int .i64 x70.act.at_, .int .i64 x70.act.val, .int .i64 x70.act.what, .bool x70.act.volatile, .bool x70.act.final, .int .i64 x70.rf, .int .i64 x70.id]) rfl rfl rfl (Nat.le_of_ble_eq_true rfl) (fill1 rfl rfl (Nat.le_of_ble_eq_true rfl) rfl))) ?_
       refine O.lit (R := RT_Torder_node) ow119 rfl rfl (.inl rfl) rfl Try.underlying38 ti45 rfl rfl rfl (Nat.le_of_ble_eq_true rfl) rfl (aC (L 0 rfl rfl) aN) (.cons _ _ (⟨x70, x43⟩ : Torder_node) _ (by simp [topV]) rfl .nil) (fun _ => nd) (fun v122 V123 le124 ow125 => ?_)
       obtain ⟨xs127, hx128, h129⟩ := bindS h121
       refine O.append (k := 3) ow125 rfl rfl rfl (.inl rfl) rfl (L 4 rfl rfl) (L 0 rfl rfl) Try.underlying38 ti45 rfl rfl (Nat.le_of_ble_eq_true rfl) (ow125.src (k := 0) rfl Try.underlying38) hx128 (fun _ _ => nd) (fun v130 V131 le132 ow133 => ?_)
       refine U.p rfl rfl (.inl rfl) (S.assign rfl (L 0 rfl rfl)) ?_
       refine U.done (Nat.le_of_ble_eq_true rfl) ?_
       refine blkN (sqN ?_)
       have ow135 := ow133.drop 0 rfl
       have ow136 := ow135.drop 0 rfl
       exact ⟨_, V131, rfl, ⟨v130, xs127, rfl, ((((((le86.trans le90).trans le97).trans le108).trans le118).trans le124).trans le132), ow136, h129⟩, (allCons (L 27 rfl rfl) (allCons (L 0 rfl rfl) (allCons (L 29 rfl rfl) (allCons (L 30 rfl rfl) (allCons (L 31 rfl rfl) (allCons (L 32 rfl rfl) (allCons (L 33 rfl rfl) (allCons (L 34 rfl rfl) allNil))))))))⟩
      ·have h137 := ifF c120 h112
       refine WP.skip ?_
       refine blkN (sqN ?_)
       have ow138 := ow119.drop 0 rfl
       exact ⟨_, V117, rfl, ⟨v41, xs42, rfl, ((((le86.trans le90).trans le97).trans le108).trans le118), ow138, h137⟩, (allCons (L 20 rfl rfl) (allCons (L 21 rfl rfl) (allCons (L 22 rfl rfl) (allCons (L 23 rfl rfl) (allCons (L 24 rfl rfl) (allCons (L 25 rfl rfl) (allCons (L 26 rfl rfl) (allCons (L 27 rfl rfl) allNil))))))))⟩
     ·intro kk
      refine bcase (b := y101) (fun g139 => ?_) (fun g139 => ?_)
      ·have h140 := ifT g139 hy111
       refine U.p rfl rfl (.inr ⟨_, _, _, rfl, rfl, ((L 0 rfl rfl).trans (congrArg Value.bool g139))⟩) (S.move rfl (L 15 rfl rfl)) ?_
       refine U.p (v := .pointer (some ⟨b84, 1, none⟩)) rfl rfl (.inr ⟨_, _, _, rfl, rfl, ((L 1 rfl rfl).trans (congrArg Value.bool g139))⟩) (S.fieldAddr rfl (L 11 rfl rfl) Try.underlying31 rfl ti29 rfl rfl) ?_
       refine U.k rfl rfl (.inr ⟨_, _, _, rfl, rfl, ((L 2 rfl rfl).trans (congrArg Value.bool g139))⟩) (S.loadN (cs := [.int .i64 x70.act.kind, .int .i64 x70.act.at_, .int .i64 x70.act.val, .int .i64 x70.act.what, .bool x70.act.volatile, .bool x70.act.final]) rfl (L 0 rfl rfl) Try.underlying29 rfl ti29 rfl (cellsOfOwn (ow109.own (k := 0) rfl) 1 rfl)) nd ?_
       obtain ⟨x141, hx142, h143⟩ := bindS h140
       refine O.callv (V := V107) rfl rfl (.inr ⟨_, _, _, rfl, rfl, ((L 3 rfl rfl).trans (congrArg Value.bool g139))⟩) rfl (L 2 rfl rfl) en36 (aC (L 0 rfl rfl) aN) (wk_order_syncs V107 _ x70.act ow109 _ hx142) (fun _ _ _ _ => nd) (fun v144 V145 le146 hp147 => ?_)
       obtain ⟨rfl, ow148⟩ := hp147
       refine U.p rfl rfl (.inl rfl) (S.pickT rfl ((L 4 rfl rfl).trans (congrArg Value.bool g139)) (L 0 rfl rfl)) ?_
       have e149 := Option.some.inj h143
       subst e149
       exact kk [(36, .bool x141), (35, .bool x141), (34, .agg #[.int .i64 x70.act.kind, .int .i64 x70.act.at_, .int .i64 x70.act.val, .int .i64 x70.act.what, .bool x70.act.volatile, .bool x70.act.final]), (33, .pointer (some ⟨b84, 1, none⟩)), (32, .func (.func 36) #[] #[])] _ ⟨.bool x141, .agg #[.int .i64 x70.act.kind, .int .i64 x70.act.at_, .int .i64 x70.act.val, .int .i64 x70.act.what, .bool x70.act.volatile, .bool x70.act.final], .pointer (some ⟨b84, 1, none⟩), .func (.func 36) #[] #[], V145, rfl, le146, rfl, ow148⟩
      ·have h150 := ifF g139 hy111
       refine U.x rfl rfl rfl rfl ((L 0 rfl rfl).trans (congrArg Value.bool g139)) (by decide) ?_
       refine U.x rfl rfl rfl rfl ((L 1 rfl rfl).trans (congrArg Value.bool g139)) (by decide) ?_
       refine U.x rfl rfl rfl rfl ((L 2 rfl rfl).trans (congrArg Value.bool g139)) (by decide) ?_
       refine U.x rfl rfl rfl rfl ((L 3 rfl rfl).trans (congrArg Value.bool g139)) (by decide) ?_
       refine U.p rfl rfl (.inl rfl) (S.pickF rfl ((L 4 rfl rfl).trans (congrArg Value.bool g139)) K) ?_
       have e151 := Option.some.inj h150
       subst e151
       exact kk [(36, .bool false), (35, .tuple #[]), (34, .tuple #[]), (33, .tuple #[]), (32, .tuple #[])] _ ⟨.tuple #[], .tuple #[], .tuple #[], .tuple #[], V107, rfl, (.refl _), rfl, ow109⟩
    ·intro kk
     refine bcase (b := x92) (fun g152 => ?_) (fun g152 => ?_)
     ·have h153 := ifT g152 hy102
      refine U.x rfl rfl rfl rfl ((L 0 rfl rfl).trans (congrArg Value.bool g152)) (by decide) ?_
      refine U.x rfl rfl rfl rfl ((L 1 rfl rfl).trans (congrArg Value.bool g152)) (by decide) ?_
      refine U.x rfl rfl rfl rfl ((L 2 rfl rfl).trans (congrArg Value.bool g152)) (by decide) ?_
      refine U.p rfl rfl (.inl rfl) (S.pickT rfl ((L 3 rfl rfl).trans (congrArg Value.bool g152)) K) ?_
      have e154 := Option.some.inj h153
      subst e154
      exact kk [(30, .bool true), (29, .tuple #[]), (28, .tuple #[]), (27, .tuple #[])] _ ⟨.tuple #[], .tuple #[], .tuple #[], V96, rfl, (.refl _), rfl, ow100⟩
     ·have h155 := ifF g152 hy102
      refine U.p (v := .pointer (some ⟨b84, 1, none⟩)) rfl rfl (.inr ⟨_, _, _, rfl, rfl, ((L 0 rfl rfl).trans (congrArg Value.bool g152))⟩) (S.fieldAddr rfl (L 5 rfl rfl) Try.underlying31 rfl ti29 rfl rfl) ?_
      refine U.k rfl rfl (.inr ⟨_, _, _, rfl, rfl, ((L 1 rfl rfl).trans (congrArg Value.bool g152))⟩) (S.loadN (cs := [.int .i64 x70.act.kind, .int .i64 x70.act.at_, .int .i64 x70.act.val, .int .i64 x70.act.what, .bool x70.act.volatile, .bool x70.act.final]) rfl (L 0 rfl rfl) Try.underlying29 rfl ti29 rfl (cellsOfOwn (ow100.own (k := 0) rfl) 1 rfl)) nd ?_
      obtain ⟨x156, hx157, h158⟩ := bindS h155
      refine O.call (V := V96) rfl rfl (.inr ⟨_, _, _, rfl, rfl, ((L 2 rfl rfl).trans (congrArg Value.bool g152))⟩) rfl en38 (aC (L 0 rfl rfl) aN) (wk_order_reads V96 _ x70.act ow100 _ hx157) (fun _ _ _ _ => nd) (fun v159 V160 le161 hp162 => ?_)
      obtain ⟨rfl, ow163⟩ := hp162
      refine U.p rfl rfl (.inl rfl) (S.pickF rfl ((L 3 rfl rfl).trans (congrArg Value.bool g152)) (L 0 rfl rfl)) ?_
      have e164 := Option.some.inj h158
      subst e164
      exact kk [(30, .bool x156), (29, .bool x156), (28, .agg #[.int .i64 x70.act.kind, .int .i64 x70.act.at_, .int .i64 x70.act.val, .int .i64 x70.act.what, .bool x70.act.volatile, .bool x70.act.final]), (27, .pointer (some ⟨b84, 1, none⟩))] _ ⟨.bool x156, .agg #[.int .i64 x70.act.kind, .int .i64 x70.act.at_, .int .i64 x70.act.val, .int .i64 x70.act.what, .bool x70.act.volatile, .bool x70.act.final], .pointer (some ⟨b84, 1, none⟩), V160, rfl, le161, rfl, ow163⟩
  ·have h165 := ifF c54 h53
   refine WP.exit ?_
   refine sqE (sqE (blkE (blkN (sqN ?_))))
   have h166 := exitS h165 e51
   refine WP.ureg rfl ?_
   refine U.p rfl rfl (.inl rfl) (S.add rfl (L 5 rfl rfl) K) ?_
   refine U.p rfl rfl (.inl rfl) (S.move rfl (L 0 rfl rfl)) ?_
   refine U.done (Nat.le_of_ble_eq_true rfl) ?_
   refine sqN ?_
   exact ⟨_, V46, rfl, ⟨m19, Nat.lt_succ_self _, v41, xs42, w64 (x9 + 1), rfl, (le17.trans le47), ow48, backS h166 e21⟩, (allCons (L 3 rfl rfl) (allCons (L 4 rfl rfl) (allCons (L 5 rfl rfl) (allCons (L 6 rfl rfl) (allCons (L 0 rfl rfl) allNil)))))⟩
 ·have h167 := ifF c24 h23
  refine WP.exit ?_
  refine sqE (sqE (blkE (sqN ?_)))
  have h168 := exitS h167 e21
  refine WP.usreg rfl ?_
  refine U.p rfl rfl (.inl rfl) (S.move rfl (L 2 rfl rfl)) ?_
  refine U.p rfl rfl (.inl rfl) (S.assign rfl (L 0 rfl rfl)) ?_
  refine U.done (Nat.le_of_ble_eq_true rfl) ?_
  refine WP.ret ?_
  refine fin.slot (.inr rfl) rfl (L 0 rfl rfl) ⟨V16, rfl, le17, ?_⟩
  have ow169 := ow18.pick 0 rfl
  have ow170 := ow169.pick 1 rfl
  have e171 := Option.some.inj h168
  subst e171
  exact ⟨v7, rfl, ow170⟩

set_option maxHeartbeats 4000000 in
set_option maxRecDepth 10000 in
theorem wk_order_Run_Synced (V : Vw) (Rs : List At) (p0 : List (List TEvent)) (v1 : Value) (hs2 : List Value) (ow : Ow V (.oss (RO.os RT_TEvent) v1 hs2 p0 :: Rs)) (r : Bool) (h : order_Run_Synced p0 = some r) : ∃ v V', Cl Try.prog 0 13 #[v1] V.H v V'.H ∧ V.le V' ∧ (v = .bool r ∧ Ow V' (.oss (RO.os RT_TEvent) v1 hs2 p0 :: Rs)) := by
 refine Ct.of (Nat.zero_le _) Try.func13 rfl (Nat.le_of_ble_eq_true rfl) ?_
 unfold order_Run_Synced at h
 refine WP.usreg rfl ?_
 refine U.p rfl rfl (.inl rfl) (S.assign rfl K) ?_
 refine U.done (Nat.le_of_ble_eq_true rfl) ?_
 refine WP.usreg rfl ?_
 refine U.p rfl rfl (.inl rfl) (S.move rfl (L 1 rfl rfl)) ?_
 obtain ⟨x4, hx5, h6⟩ := bindS h
 refine O.call (V := V) rfl rfl (.inl rfl) rfl en23 (aC (L 0 rfl rfl) (aC Fu aN)) (wk_order_Run_nodes_2 V _ p0 v1 hs2 ow _ hx5) (fun _ _ _ _ => nd) (fun v7 V8 le9 hp10 => ?_)
 obtain ⟨_, rfl, ow11⟩ := hp10
 refine O.lit (R := (RT.fn fnt46)) ow11 rfl rfl (.inl rfl) rfl Try.underlying66 ti46 rfl rfl rfl (Nat.le_of_ble_eq_true rfl) rfl (aC Fu (aC Fu (aC Fu (aC Fu aN)))) (.cons _ _ 1 _ (by simp [topV]) ⟨_, rfl, rfl, _, rfl⟩ (.cons _ _ 2 _ (by simp [topV]) ⟨_, rfl, rfl, _, rfl⟩ (.cons _ _ 3 _ (by simp [topV]) ⟨_, rfl, rfl, _, rfl⟩ (.cons _ _ 4 _ (by simp [topV]) ⟨_, rfl, rfl, _, rfl⟩ .nil)))) (fun _ => nd) (fun v14 V15 le16 ow17 => ?_)
 have ow19 := ow17.pick 1 rfl
 obtain ⟨x20, hx21, h22⟩ := bindS h6
 refine O.call (V := V15) rfl rfl (.inl rfl) rfl en25 (aC (L 1 rfl rfl) (aC (L 0 rfl rfl) aN)) (wk_order_join V15 _ x4 [1, 2, 3, 4] v7 v14 ow19 _ hx21) (fun _ _ _ _ => nd) (fun v23 V24 le25 hp26 => ?_)
 obtain ⟨_, hs29, rfl, ow27⟩ := hp26
 obtain ⟨x31, hx32, h33⟩ := bindS h22
 refine O.call (V := V24) rfl rfl (.inl rfl) rfl en31 (aC (L 0 rfl rfl) aN) (wk_order_graph_cyclic V24 _ x20 v23 hs29 ow27 _ hx32) (fun _ _ _ _ => nd) (fun v34 V35 le36 hp37 => ?_)
 obtain ⟨rfl, ow38⟩ := hp37
 refine U.p rfl rfl (.inl rfl) (S.not rfl (L 0 rfl rfl)) ?_
 refine U.p rfl rfl (.inl rfl) (S.assign rfl (L 0 rfl rfl)) ?_
 refine U.done (Nat.le_of_ble_eq_true rfl) ?_
 refine WP.ret ?_
 refine fin.slot (.inr rfl) rfl (L 0 rfl rfl) ⟨V35, rfl, (((le9.trans le16).trans le25).trans le36), ?_⟩
 have ow39 := ow38.drop 0 rfl
 have ow40 := ow39.drop 0 rfl
 have ow41 := ow40.drop 0 rfl
 have e42 := Option.some.inj h33
 subst e42
 exact ⟨rfl, ow41⟩

set_option maxHeartbeats 4000000 in
set_option maxRecDepth 10000 in
theorem wk_order_Run_Apart_c1 (V : Vw) (Rs : List At) (p0 : TAct) (ow : Ow V (Rs)) (r : Bool) (h : order_Run_Apart_c1 p0 = some r) : ∃ v V', Cl Try.prog 0 48 #[.agg #[.int .i64 p0.kind, .int .i64 p0.at_, .int .i64 p0.val, .int .i64 p0.what, .bool p0.volatile, .bool p0.final]] V.H v V'.H ∧ V.le V' ∧ (v = .bool r ∧ Ow V' (Rs)) := by
 refine Ct.of (Nat.zero_le _) Try.func48 rfl (Nat.le_of_ble_eq_true rfl) ?_
 unfold order_Run_Apart_c1 at h
 refine WP.usreg rfl ?_
 refine O.box ow rfl rfl (.inl rfl) rfl (L 0 rfl rfl) (by simp [topV]) rfl nd (fun b1 V2 le3 ow4 => ?_)
 refine U.p rfl rfl (.inl rfl) (S.assign rfl K) ?_
 refine U.done (Nat.le_of_ble_eq_true rfl) ?_
 refine WP.usreg rfl ?_
 refine U.p (v := .pointer (some ⟨b1, 0, none⟩)) rfl rfl (.inl rfl) (S.fieldAddr rfl (L 1 rfl rfl) Try.underlying29 rfl ti3 rfl rfl) ?_
 refine U.k rfl rfl (.inl rfl) (S.load rfl (L 0 rfl rfl) Try.underlying3 rfl ((ow4.own (k := 0) rfl).cell rfl)) nd ?_
 refine U.p rfl rfl (.inl rfl) (S.eqlI rfl (L 0 rfl rfl) K) ?_
 refine U.p rfl rfl (.inl rfl) (S.move rfl (L 0 rfl rfl)) ?_
 refine U.joinX 8 (fun e H => ∃ (u6 u7 u8 : Value), H = V2.H ∧ e = [(10, .bool ((decide (p0.kind = 5)) || (decide (p0.kind = 6)))), (9, u6), (8, u7), (7, u8)]) ?_ ?_
 ·rintro _ _ ⟨u6, u7, u8, rfl, rfl⟩
  refine U.p rfl rfl (.inl rfl) (S.assign rfl (L 0 rfl rfl)) ?_
  refine U.done (Nat.le_of_ble_eq_true rfl) ?_
  refine WP.ret ?_
  refine fin.slot (.inr rfl) rfl (L 0 rfl rfl) ⟨V2, rfl, le3, ?_⟩
  have ow12 := ow4.drop 0 rfl
  have e13 := Option.some.inj h
  subst e13
  exact ⟨rfl, ow12⟩
 ·intro kk
  refine bcase (b := decide (p0.kind = 5)) (fun g14 => ?_) (fun g14 => ?_)
  ·skip
   refine U.x rfl rfl rfl rfl ((L 0 rfl rfl).trans (congrArg Value.bool g14)) (by decide) ?_
   refine U.x rfl rfl rfl rfl ((L 1 rfl rfl).trans (congrArg Value.bool g14)) (by decide) ?_
   refine U.x rfl rfl rfl rfl ((L 2 rfl rfl).trans (congrArg Value.bool g14)) (by decide) ?_
   refine U.p rfl rfl (.inl rfl) (S.pickT rfl ((L 3 rfl rfl).trans (congrArg Value.bool g14)) K) ?_
   exact kk [(10, .bool true), (9, .tuple #[]), (8, .tuple #[]), (7, .tuple #[])] _ ⟨.tuple #[], .tuple #[], .tuple #[], rfl, (by rw [g14, Bool.true_or])⟩
  ·skip
   refine U.p (v := .pointer (some ⟨b1, 0, none⟩)) rfl rfl (.inr ⟨_, _, _, rfl, rfl, ((L 0 rfl rfl).trans (congrArg Value.bool g14))⟩) (S.fieldAddr rfl (L 5 rfl rfl) Try.underlying29 rfl ti3 rfl rfl) ?_
   refine U.k rfl rfl (.inr ⟨_, _, _, rfl, rfl, ((L 1 rfl rfl).trans (congrArg Value.bool g14))⟩) (S.load rfl (L 0 rfl rfl) Try.underlying3 rfl ((ow4.own (k := 0) rfl).cell rfl)) nd ?_
   refine U.p rfl rfl (.inr ⟨_, _, _, rfl, rfl, ((L 2 rfl rfl).trans (congrArg Value.bool g14))⟩) (S.eqlI rfl (L 0 rfl rfl) K) ?_
   refine U.p rfl rfl (.inl rfl) (S.pickF rfl ((L 3 rfl rfl).trans (congrArg Value.bool g14)) (L 0 rfl rfl)) ?_
   exact kk [(10, .bool (decide (p0.kind = 6))), (9, .bool (decide (p0.kind = 6))), (8, .int .i64 p0.kind), (7, .pointer (some ⟨b1, 0, none⟩))] _ ⟨.bool (decide (p0.kind = 6)), .int .i64 p0.kind, .pointer (some ⟨b1, 0, none⟩), rfl, (by rw [g14, Bool.false_or])⟩

set_option maxHeartbeats 4000000 in
set_option maxRecDepth 10000 in
theorem wk_order_Run_nodes_3 (V : Vw) (Rs : List At) (p0 : List (List TEvent)) (v1 : Value) (hs2 : List Value) (ow : Ow V (.oss (RO.os RT_TEvent) v1 hs2 p0 :: Rs)) (r : List Torder_node) (h : order_Run_nodes_3 p0 = some r) : ∃ v V', Cl Try.prog 0 23 #[v1, .func (.func 48) #[] #[]] V.H v V'.H ∧ V.le V' ∧ (∃ (v4 : Value), v = v4 ∧ Ow V' (.os RT_Torder_node v4 r :: .oss (RO.os RT_TEvent) v1 hs2 p0 :: Rs)) := by
 refine Ct.of (Nat.zero_le _) Try.func23 rfl (Nat.le_of_ble_eq_true rfl) ?_
 unfold order_Run_nodes_3 at h
 refine WP.usreg rfl ?_
 refine U.p rfl rfl (.inl rfl) (S.assign rfl K) ?_
 refine U.done (Nat.le_of_ble_eq_true rfl) ?_
 refine WP.usreg rfl ?_
 refine U.p rfl rfl (.inl rfl) (S.assign rfl K) ?_
 refine U.done (Nat.le_of_ble_eq_true rfl) ?_
 refine WP.seq ?_
 refine WP.usreg rfl ?_
 refine U.p rfl rfl (.inl rfl) (S.move rfl (L 2 rfl rfl)) ?_
 refine U.p rfl rfl (.inl rfl) (ow.sslen (k := 0) rfl rfl (L 0 rfl rfl) Try.underlying25) ?_
 refine U.p rfl rfl (.inl rfl) (S.move rfl K) ?_
 refine U.done (Nat.le_of_ble_eq_true rfl) ?_
 refine WP.blk ?_
 have ow10 := ow.nil RT_Torder_node
 have ow12 := ow10.pick 0 rfl
 have ow13 := ow12.pick 1 rfl
 unfold order_Run_nodes_3_l1 at h
 obtain ⟨n15, hn14⟩ := loopO_some.1 h
 refine WP.loopI2 (fun n l V' => ∃ (v7 : Value) (xs8 : List Torder_node) (x9 : Int), l = [(1, .func (.func 48) #[] #[]), (5, v7), (10, v1), (11, .int .i64 (p0.length : Int)), (12, .int .i64 x9)] ∧ V.le V' ∧ Ow V' (.oss (RO.os RT_TEvent) v1 hs2 p0 :: .os RT_Torder_node v7 xs8 :: Rs) ∧ itO (fun s => order_Run_nodes_3_l1b p0 s.1 s.2) n (xs8, x9) = some r) n15 _ ⟨(.slice none 0 0), [], 0, rfl, .refl _, ow13, hn14⟩ (allCons (L 6 rfl rfl) (allCons (L 3 rfl rfl) (allCons (L 2 rfl rfl) (allCons (L 1 rfl rfl) (allCons (L 0 rfl rfl) allNil))))) ?_
 rintro _ _ V16 ⟨v7, xs8, x9, rfl, le17, ow18, h22⟩
 obtain ⟨m19, q20, rfl, h23, e21⟩ := itS h22
 replace h23 : order_Run_nodes_3_l1b p0 xs8 x9 = some q20 := h23
 unfold order_Run_nodes_3_l1b at h23
 refine WP.usreg rfl ?_
 refine U.p rfl rfl (.inl rfl) (S.lss rfl (L 4 rfl rfl) (L 3 rfl rfl)) ?_
 refine U.done (Nat.le_of_ble_eq_true rfl) ?_
 refine WP.seq ?_
 refine WP.cond _ (L 0 rfl rfl) rfl (fun c24 => ?_) (fun c24 => ?_)
 ·have h25 := ifT c24 h23
  refine WP.skip ?_
  refine sqN ?_
  refine WP.seq ?_
  refine WP.blk ?_
  refine WP.usreg rfl ?_
  obtain ⟨x26, hx27, h28⟩ := bindS h25
  obtain ⟨b29, o30, n31, c32, hv33⟩ := ow18.sspt (k := 0) rfl hx27
  refine U.p rfl rfl (.inl rfl) (S.index rfl ((L 3 rfl rfl).trans (ow18.sslen' (k := 0) rfl hv33)) (L 5 rfl rfl) Try.underlying25 ti27 (ix_ge hx27) (ix_lt hx27)) ?_
  obtain ⟨h34, hh35, ow36⟩ := ow18.ssopen (k := 0) rfl hx27
  have hcl38 := ow36.shcell (k := 1) rfl hv33 hh35
  refine U.k rfl rfl (.inl rfl) (S.load rfl (L 0 rfl rfl) Try.underlying27 rfl hcl38.2) nd ?_
  refine U.p rfl rfl (.inl rfl) (S.assign rfl (L 0 rfl rfl)) ?_
  refine U.done (Nat.le_of_ble_eq_true rfl) ?_
  refine WP.usreg rfl ?_
  refine U.p rfl rfl (.inl rfl) (S.move rfl (L 0 rfl rfl)) ?_
  refine U.p rfl rfl (.inl rfl) (ow36.oslen (k := 0) rfl rfl (L 0 rfl rfl) Try.underlying27) ?_
  refine U.p rfl rfl (.inl rfl) (S.move rfl K) ?_
  refine U.done (Nat.le_of_ble_eq_true rfl) ?_
  refine WP.blk ?_
  have ow39 := ow36.ssclose' (k := 1) (j := 0) rfl rfl (by decide) hh35 hx27
  unfold order_Run_nodes_3_l2 at h28
  obtain ⟨n45, hn44⟩ := loopO_some.1 h28
  refine WP.loopI2 (fun n l V' => ∃ (v41 : Value) (xs42 : List Torder_node) (x43 : Int), l = [(1, .func (.func 48) #[] #[]), (5, v41), (10, v1), (11, .int .i64 (p0.length : Int)), (12, .int .i64 x9), (16, h34), (17, .int .i64 (x26.length : Int)), (18, .int .i64 x43)] ∧ V16.le V' ∧ Ow V' (.oss (RO.os RT_TEvent) v1 hs2 p0 :: .os RT_Torder_node v41 xs42 :: Rs) ∧ itO (fun s => order_Run_nodes_3_l2b p0 x9 x26 s.1 s.2) n (xs42, x43) = some q20) n45 _ ⟨v7, xs8, 0, rfl, .refl _, ow39, hn44⟩ (allCons (L 7 rfl rfl) (allCons (L 8 rfl rfl) (allCons (L 9 rfl rfl) (allCons (L 10 rfl rfl) (allCons (L 11 rfl rfl) (allCons (L 2 rfl rfl) (allCons (L 1 rfl rfl) (allCons (L 0 rfl rfl) allNil)))))))) ?_
  rintro _ _ V46 ⟨v41, xs42, x43, rfl, le47, ow48, h52⟩
  obtain ⟨m49, q50, rfl, h53, e51⟩ := itS h52
  replace h53 : order_Run_nodes_3_l2b p0 x9 x26 xs42 x43 = some q50 := h53
  unfold order_Run_nodes_3_l2b at h53
  refine WP.usreg rfl ?_
  refine U.p rfl rfl (.inl rfl) (S.lss rfl (L 7 rfl rfl) (L 6 rfl rfl)) ?_
  refine U.done (Nat.le_of_ble_eq_true rfl) ?_
  refine WP.seq ?_
  refine WP.cond _ (L 0 rfl rfl) rfl (fun c54 => ?_) (fun c54 => ?_)
  ·have h55 := ifT c54 h53
   refine WP.skip ?_
   refine sqN ?_
   refine WP.seqI (fun l V' => ∃ (v57 : Value) (xs58 : List Torder_node), l = [(1, .func (.func 48) #[] #[]), (5, v57), (10, v1), (11, .int .i64 (p0.length : Int)), (12, .int .i64 x9), (16, h34), (17, .int .i64 (x26.length : Int)), (18, .int .i64 x43)] ∧ V46.le V' ∧ Ow V' (.oss (RO.os RT_TEvent) v1 hs2 p0 :: .os RT_Torder_node v57 xs58 :: Rs) ∧ order_Run_nodes_3_k1 x43 xs58 = some q50) ?_ ?_
   ·rintro _ V59 ⟨v57, xs58, rfl, le60, ow61, h62⟩
    unfold order_Run_nodes_3_k1 at h62
    refine WP.ureg rfl ?_
    refine U.p rfl rfl (.inl rfl) (S.add rfl (L 7 rfl rfl) K) ?_
    refine U.p rfl rfl (.inl rfl) (S.move rfl (L 0 rfl rfl)) ?_
    refine U.done (Nat.le_of_ble_eq_true rfl) ?_
    refine sqN ?_
    exact ⟨_, V59, rfl, ⟨m49, Nat.lt_succ_self _, v57, xs58, w64 (x43 + 1), rfl, (le47.trans le60), ow61, backS h62 e51⟩, (allCons (L 2 rfl rfl) (allCons (L 3 rfl rfl) (allCons (L 4 rfl rfl) (allCons (L 5 rfl rfl) (allCons (L 6 rfl rfl) (allCons (L 7 rfl rfl) (allCons (L 8 rfl rfl) (allCons (L 0 rfl rfl) allNil))))))))⟩
   ·skip
    refine WP.blk ?_
    refine WP.usreg rfl ?_
    refine U.p rfl rfl (.inl rfl) (S.move rfl (L 8 rfl rfl)) ?_
    obtain ⟨x63, hx64, h65⟩ := bindS h55
    obtain ⟨h66, hh67, ow68⟩ := ow48.ssopen (k := 0) rfl hx64
    obtain rfl : h66 = h34 := Option.some.inj (hh67.symm.trans hh35)
    obtain ⟨x70, hx71, h72⟩ := bindS h65
    obtain ⟨b73, o74, n75, c76, hv77⟩ := ow68.ospt (k := 0) rfl hx71
    obtain ⟨_, hv78, _⟩ := ow68.osel (k := 0) rfl hv77 hx71
    refine U.p rfl rfl (.inl rfl) (S.index rfl ((L 7 rfl rfl).trans hv78) (L 9 rfl rfl) Try.underlying27 ti31 (ix_ge hx71) (ix_lt hx71)) ?_
    obtain ⟨cs79, hv80, hlt81, hr82, hc83⟩ := ow68.osel (k := 0) rfl hv77 hx71
    obtain rfl : cs79 = [.int .i64 x70.t, .int .i64 x70.act.kind, .int .i64 x70.act.at_, .int .i64 x70.act.val, .int .i64 x70.act.what, .bool x70.act.volatile, .bool x70.act.final, .int .i64 x70.rf, .int .i64 x70.id] := hr82
    refine U.k rfl rfl (.inl rfl) (S.loadN (cs := [.int .i64 x70.t, .int .i64 x70.act.kind, .int .i64 x70.act.at_, .int .i64 x70.act.val, .int .i64 x70.act.what, .bool x70.act.volatile, .bool x70.act.final, .int .i64 x70.rf, .int .i64 x70.id]) rfl (L 0 rfl rfl) Try.underlying31 rfl ti31 rfl hc83) nd ?_
    refine O.alloc ow68 rfl rfl (.inl rfl) rfl ti31 rfl rfl nd (fun b84 V85 le86 ow87 => ?_)
    refine U.p rfl rfl (.inl rfl) (S.assign rfl (L 3 rfl rfl)) ?_
    refine O.store (k := 0) (cs := [.int .i64 x70.t, .int .i64 x70.act.kind, .int .i64 x70.act.at_, .int .i64 x70.act.val, .int .i64 x70.act.what, .bool x70.act.volatile, .bool x70.act.final, .int .i64 x70.rf, .int .i64 x70.id]) (c' := [.int .i64 x70.t, .int .i64 x70.act.kind, .int .i64 x70.act.at_, .int .i64 x70.act.val, .int .i64 x70.act.what, .bool x70.act.volatile, .bool x70.act.final, .int .i64 x70.rf, .int .i64 x70.id]) ow87 rfl rfl rfl (.inl rfl) rfl (L 1 rfl rfl) (L 2 rfl rfl) ti31 (by simp [topV]) rfl rfl (Nat.le_of_ble_eq_true rfl) rfl rfl nd (fun V89 le90 ow91 => ?_)
    refine U.done (Nat.le_of_ble_eq_true rfl) ?_
    refine WP.usreg rfl ?_
    refine U.p (v := .pointer (some ⟨b84, 1, none⟩)) rfl rfl (.inl rfl) (S.fieldAddr rfl (L 1 rfl rfl) Try.underlying31 rfl ti29 rfl rfl) ?_
    refine U.k rfl rfl (.inl rfl) (S.loadN (cs := [.int .i64 x70.act.kind, .int .i64 x70.act.at_, .int .i64 x70.act.val, .int .i64 x70.act.what, .bool x70.act.volatile, .bool x70.act.final]) rfl (L 0 rfl rfl) Try.underlying29 rfl ti29 rfl (cellsOfOwn (ow91.own (k := 0) rfl) 1 rfl)) nd ?_
    obtain ⟨x92, hx93, h94⟩ := bindS h72
    refine O.call (V := V89) rfl rfl (.inl rfl) rfl en39 (aC (L 0 rfl rfl) aN) (wk_order_writes V89 _ x70.act ow91 _ hx93) (fun _ _ _ _ => nd) (fun v95 V96 le97 hp98 => ?_)
    obtain ⟨rfl, ow99⟩ := hp98
    refine U.p rfl rfl (.inl rfl) (S.move rfl (L 0 rfl rfl)) ?_
    have ow100 := ow99.ssclose' (k := 2) (j := 1) rfl rfl (by decide) hh35 hx64
    obtain ⟨y101, hy102, h103⟩ := bindS h94
    refine U.joinX 8 (fun e H => ∃ (u104 u105 u106 : Value), ∃ V' : Vw, H = V'.H ∧ V96.le V' ∧ e = [(30, .bool y101), (29, u104), (28, u105), (27, u106)] ∧ Ow V' (.pt b84 (.cells 9 [.int .i64 x70.t, .int .i64 x70.act.kind, .int .i64 x70.act.at_, .int .i64 x70.act.val, .int .i64 x70.act.what, .bool x70.act.volatile, .bool x70.act.final, .int .i64 x70.rf, .int .i64 x70.id]) :: .oss (RO.os RT_TEvent) v1 hs2 p0 :: .os RT_Torder_node v41 xs42 :: Rs)) ?_ ?_
    ·rintro _ _ ⟨u104, u105, u106, V107, rfl, le108, rfl, ow109⟩
     refine U.p rfl rfl (.inl rfl) (S.move rfl (L 0 rfl rfl)) ?_
     obtain ⟨y110, hy111, h112⟩ := bindS h103
     refine U.joinX 14 (fun e H => ∃ (u113 u114 u115 u116 : Value), ∃ V' : Vw, H = V'.H ∧ V107.le V' ∧ e = [(36, .bool y110), (35, u113), (34, u114), (33, u115), (32, u116)] ∧ Ow V' (.pt b84 (.cells 9 [.int .i64 x70.t, .int .i64 x70.act.kind, .int .i64 x70.act.at_, .int .i64 x70.act.val, .int .i64 x70.act.what, .bool x70.act.volatile, .bool x70.act.final, .int .i64 x70.rf, .int .i64 x70.id]) :: .oss (RO.os RT_TEvent) v1 hs2 p0 :: .os RT_Torder_node v41 xs42 :: Rs)) ?_ ?_
     ·rintro _ _ ⟨u113, u114, u115, u116, V117, rfl, le118, rfl, ow119⟩
      refine U.done (Nat.le_of_ble_eq_true rfl) ?_
      refine WP.cond _ (L 0 rfl rfl) rfl (fun c120 => ?_) (fun c120 => ?_)
      ·have h121 := ifT c120 h112
       refine WP.ureg rfl ?_
       refine U.p rfl rfl (.inl rfl) (S.move rfl (L 21 rfl rfl)) ?_
       refine U.k rfl rfl (.inl rfl) (S.loadB rfl (L 16 rfl rfl) Try.underlying31 rfl ti31 (ow119.own (k := 0) rfl).get rfl) nd ?_
       refine U.p rfl rfl (.inl rfl) (S.move rfl (L 16 rfl rfl)) ?_
       refine U.p (v := .agg #[.int .i64 x70.t, .int .i64 x70.act.kind, .int .i64 x70.act.at_, .int .i64 x70.act.val, .int .i64 x70.act.what, .bool x70.act.volatile, .bool x70.act.final, .int .i64 x70.rf, .int .i64 x70.id, .int .i64 x43]) rfl rfl (.inl rfl) (S.build (vs := [.agg #[.int .i64 x70.t, .int .i64 x70.act.kind, .int .i64 x70.act.at_, .int .i64 x70.act.val, .int .i64 x70.act.what, .bool x70.act.volatile, .bool x70.act.final, .int .i64 x70.rf, .int .i64 x70.id], .int .i64 x43]) rfl ti45 rfl pl45 (aC (L 1 rfl rfl) (aC (L 0 rfl rfl) aN)) (allC (by simp [topV]) (allC (by simp [topV]) allN)) (fillA (ws := [.int .i64 x70.t, .int .i64 x70.act.kind, .int .i64 x70.act.at_, .int .i64 x70.act.val, .int .i64 x70.act.what, .bool x70.act.volatile, .bool x70.act.final, .int .i64 x70.rf, .int .i64 x70.id]) rfl rfl rfl (Nat.le_of_ble_eq_true rfl) (fill1 rfl rfl (Nat.le_of_ble_eq_true rfl) rfl))) ?_
       refine O.lit (R := RT_Torder_node) ow119 rfl rfl (.inl rfl) rfl Try.underlying38 ti45 rfl rfl rfl (Nat.le_of_ble_eq_true rfl) rfl (aC (L 0 rfl rfl) aN) (.cons _ _ (⟨x70, x43⟩ : Torder_node) _ (by simp [topV]) rfl .nil) (fun _ => nd) (fun v122 V123 le124 ow125 => ?_)
       obtain ⟨xs127, hx128, h129⟩ := bindS h121
       refine O.append (k := 3) ow125 rfl rfl rfl (.inl rfl) rfl (L 4 rfl rfl) (L 0 rfl rfl) Try.underlying38 ti45 rfl rfl (Nat.le_of_ble_eq_true rfl) (ow125.src (k := 0) rfl Try.underlying38) hx128 (fun _ _ => nd) (fun v130 V131 le132 ow133 => ?_)
       refine U.p rfl rfl (.inl rfl) (S.assign rfl (L 0 rfl rfl)) ?_
       refine U.done (Nat.le_of_ble_eq_true rfl) ?_
       refine blkN (sqN ?_)
       have ow135 := ow133.drop 0 rfl
       have ow136 := ow135.drop 0 rfl
       exact ⟨_, V131, rfl, ⟨v130, xs127, rfl, ((((((le86.trans le90).trans le97).trans le108).trans le118).trans le124).trans le132), ow136, h129⟩, (allCons (L 27 rfl rfl) (allCons (L 0 rfl rfl) (allCons (L 29 rfl rfl) (allCons (L 30 rfl rfl) (allCons (L 31 rfl rfl) (allCons (L 32 rfl rfl) (allCons (L 33 rfl rfl) (allCons (L 34 rfl rfl) allNil))))))))⟩
      ·have h137 := ifF c120 h112
       refine WP.skip ?_
       refine blkN (sqN ?_)
       have ow138 := ow119.drop 0 rfl
       exact ⟨_, V117, rfl, ⟨v41, xs42, rfl, ((((le86.trans le90).trans le97).trans le108).trans le118), ow138, h137⟩, (allCons (L 20 rfl rfl) (allCons (L 21 rfl rfl) (allCons (L 22 rfl rfl) (allCons (L 23 rfl rfl) (allCons (L 24 rfl rfl) (allCons (L 25 rfl rfl) (allCons (L 26 rfl rfl) (allCons (L 27 rfl rfl) allNil))))))))⟩
     ·intro kk
      refine bcase (b := y101) (fun g139 => ?_) (fun g139 => ?_)
      ·have h140 := ifT g139 hy111
       refine U.p rfl rfl (.inr ⟨_, _, _, rfl, rfl, ((L 0 rfl rfl).trans (congrArg Value.bool g139))⟩) (S.move rfl (L 15 rfl rfl)) ?_
       refine U.p (v := .pointer (some ⟨b84, 1, none⟩)) rfl rfl (.inr ⟨_, _, _, rfl, rfl, ((L 1 rfl rfl).trans (congrArg Value.bool g139))⟩) (S.fieldAddr rfl (L 11 rfl rfl) Try.underlying31 rfl ti29 rfl rfl) ?_
       refine U.k rfl rfl (.inr ⟨_, _, _, rfl, rfl, ((L 2 rfl rfl).trans (congrArg Value.bool g139))⟩) (S.loadN (cs := [.int .i64 x70.act.kind, .int .i64 x70.act.at_, .int .i64 x70.act.val, .int .i64 x70.act.what, .bool x70.act.volatile, .bool x70.act.final]) rfl (L 0 rfl rfl) Try.underlying29 rfl ti29 rfl (cellsOfOwn (ow109.own (k := 0) rfl) 1 rfl)) nd ?_
       obtain ⟨x141, hx142, h143⟩ := bindS h140
       refine O.callv (V := V107) rfl rfl (.inr ⟨_, _, _, rfl, rfl, ((L 3 rfl rfl).trans (congrArg Value.bool g139))⟩) rfl (L 2 rfl rfl) en48 (aC (L 0 rfl rfl) aN) (wk_order_Run_Apart_c1 V107 _ x70.act ow109 _ hx142) (fun _ _ _ _ => nd) (fun v144 V145 le146 hp147 => ?_)
       obtain ⟨rfl, ow148⟩ := hp147
       refine U.p rfl rfl (.inl rfl) (S.pickT rfl ((L 4 rfl rfl).trans (congrArg Value.bool g139)) (L 0 rfl rfl)) ?_
       have e149 := Option.some.inj h143
       subst e149
       exact kk [(36, .bool x141), (35, .bool x141), (34, .agg #[.int .i64 x70.act.kind, .int .i64 x70.act.at_, .int .i64 x70.act.val, .int .i64 x70.act.what, .bool x70.act.volatile, .bool x70.act.final]), (33, .pointer (some ⟨b84, 1, none⟩)), (32, .func (.func 48) #[] #[])] _ ⟨.bool x141, .agg #[.int .i64 x70.act.kind, .int .i64 x70.act.at_, .int .i64 x70.act.val, .int .i64 x70.act.what, .bool x70.act.volatile, .bool x70.act.final], .pointer (some ⟨b84, 1, none⟩), .func (.func 48) #[] #[], V145, rfl, le146, rfl, ow148⟩
      ·have h150 := ifF g139 hy111
       refine U.x rfl rfl rfl rfl ((L 0 rfl rfl).trans (congrArg Value.bool g139)) (by decide) ?_
       refine U.x rfl rfl rfl rfl ((L 1 rfl rfl).trans (congrArg Value.bool g139)) (by decide) ?_
       refine U.x rfl rfl rfl rfl ((L 2 rfl rfl).trans (congrArg Value.bool g139)) (by decide) ?_
       refine U.x rfl rfl rfl rfl ((L 3 rfl rfl).trans (congrArg Value.bool g139)) (by decide) ?_
       refine U.p rfl rfl (.inl rfl) (S.pickF rfl ((L 4 rfl rfl).trans (congrArg Value.bool g139)) K) ?_
       have e151 := Option.some.inj h150
       subst e151
       exact kk [(36, .bool false), (35, .tuple #[]), (34, .tuple #[]), (33, .tuple #[]), (32, .tuple #[])] _ ⟨.tuple #[], .tuple #[], .tuple #[], .tuple #[], V107, rfl, (.refl _), rfl, ow109⟩
    ·intro kk
     refine bcase (b := x92) (fun g152 => ?_) (fun g152 => ?_)
     ·have h153 := ifT g152 hy102
      refine U.x rfl rfl rfl rfl ((L 0 rfl rfl).trans (congrArg Value.bool g152)) (by decide) ?_
      refine U.x rfl rfl rfl rfl ((L 1 rfl rfl).trans (congrArg Value.bool g152)) (by decide) ?_
      refine U.x rfl rfl rfl rfl ((L 2 rfl rfl).trans (congrArg Value.bool g152)) (by decide) ?_
      refine U.p rfl rfl (.inl rfl) (S.pickT rfl ((L 3 rfl rfl).trans (congrArg Value.bool g152)) K) ?_
      have e154 := Option.some.inj h153
      subst e154
      exact kk [(30, .bool true), (29, .tuple #[]), (28, .tuple #[]), (27, .tuple #[])] _ ⟨.tuple #[], .tuple #[], .tuple #[], V96, rfl, (.refl _), rfl, ow100⟩
     ·have h155 := ifF g152 hy102
      refine U.p (v := .pointer (some ⟨b84, 1, none⟩)) rfl rfl (.inr ⟨_, _, _, rfl, rfl, ((L 0 rfl rfl).trans (congrArg Value.bool g152))⟩) (S.fieldAddr rfl (L 5 rfl rfl) Try.underlying31 rfl ti29 rfl rfl) ?_
      refine U.k rfl rfl (.inr ⟨_, _, _, rfl, rfl, ((L 1 rfl rfl).trans (congrArg Value.bool g152))⟩) (S.loadN (cs := [.int .i64 x70.act.kind, .int .i64 x70.act.at_, .int .i64 x70.act.val, .int .i64 x70.act.what, .bool x70.act.volatile, .bool x70.act.final]) rfl (L 0 rfl rfl) Try.underlying29 rfl ti29 rfl (cellsOfOwn (ow100.own (k := 0) rfl) 1 rfl)) nd ?_
      obtain ⟨x156, hx157, h158⟩ := bindS h155
      refine O.call (V := V96) rfl rfl (.inr ⟨_, _, _, rfl, rfl, ((L 2 rfl rfl).trans (congrArg Value.bool g152))⟩) rfl en38 (aC (L 0 rfl rfl) aN) (wk_order_reads V96 _ x70.act ow100 _ hx157) (fun _ _ _ _ => nd) (fun v159 V160 le161 hp162 => ?_)
      obtain ⟨rfl, ow163⟩ := hp162
      refine U.p rfl rfl (.inl rfl) (S.pickF rfl ((L 3 rfl rfl).trans (congrArg Value.bool g152)) (L 0 rfl rfl)) ?_
      have e164 := Option.some.inj h158
      subst e164
      exact kk [(30, .bool x156), (29, .bool x156), (28, .agg #[.int .i64 x70.act.kind, .int .i64 x70.act.at_, .int .i64 x70.act.val, .int .i64 x70.act.what, .bool x70.act.volatile, .bool x70.act.final]), (27, .pointer (some ⟨b84, 1, none⟩))] _ ⟨.bool x156, .agg #[.int .i64 x70.act.kind, .int .i64 x70.act.at_, .int .i64 x70.act.val, .int .i64 x70.act.what, .bool x70.act.volatile, .bool x70.act.final], .pointer (some ⟨b84, 1, none⟩), V160, rfl, le161, rfl, ow163⟩
  ·have h165 := ifF c54 h53
   refine WP.exit ?_
   refine sqE (sqE (blkE (blkN (sqN ?_))))
   have h166 := exitS h165 e51
   refine WP.ureg rfl ?_
   refine U.p rfl rfl (.inl rfl) (S.add rfl (L 5 rfl rfl) K) ?_
   refine U.p rfl rfl (.inl rfl) (S.move rfl (L 0 rfl rfl)) ?_
   refine U.done (Nat.le_of_ble_eq_true rfl) ?_
   refine sqN ?_
   exact ⟨_, V46, rfl, ⟨m19, Nat.lt_succ_self _, v41, xs42, w64 (x9 + 1), rfl, (le17.trans le47), ow48, backS h166 e21⟩, (allCons (L 3 rfl rfl) (allCons (L 4 rfl rfl) (allCons (L 5 rfl rfl) (allCons (L 6 rfl rfl) (allCons (L 0 rfl rfl) allNil)))))⟩
 ·have h167 := ifF c24 h23
  refine WP.exit ?_
  refine sqE (sqE (blkE (sqN ?_)))
  have h168 := exitS h167 e21
  refine WP.usreg rfl ?_
  refine U.p rfl rfl (.inl rfl) (S.move rfl (L 2 rfl rfl)) ?_
  refine U.p rfl rfl (.inl rfl) (S.assign rfl (L 0 rfl rfl)) ?_
  refine U.done (Nat.le_of_ble_eq_true rfl) ?_
  refine WP.ret ?_
  refine fin.slot (.inr rfl) rfl (L 0 rfl rfl) ⟨V16, rfl, le17, ?_⟩
  have ow169 := ow18.pick 0 rfl
  have ow170 := ow169.pick 1 rfl
  have e171 := Option.some.inj h168
  subst e171
  exact ⟨v7, rfl, ow170⟩

set_option maxHeartbeats 4000000 in
set_option maxRecDepth 10000 in
theorem wk_math_bits_Len64 (V : Vw) (Rs : List At) (p0 : Int) (ow : Ow V (Rs)) (r : Int) (h : math_bits_Len64 p0 = some r) : ∃ v V', Cl Try.prog 0 70 #[.int .u64 p0] V.H v V'.H ∧ V.le V' ∧ (v = .int .i64 r ∧ Ow V' (Rs)) := by
 refine Ct.of (Nat.zero_le _) Try.func70 rfl (Nat.le_of_ble_eq_true rfl) ?_
 unfold math_bits_Len64 at h
 refine WP.usreg rfl ?_
 refine U.p rfl rfl (.inl rfl) (S.assign rfl K) ?_
 refine U.done (Nat.le_of_ble_eq_true rfl) ?_
 refine WP.seqI (fun l V' => ∃ (x1 : Int) (x2 : Int), l = [(0, .int .u64 x1), (2, .int .i64 x2)] ∧ V.le V' ∧ Ow V' (Rs) ∧ math_bits_Len64_k1 x1 x2 = some r) ?_ ?_
 ·rintro _ V3 ⟨x1, x2, rfl, le4, ow5, h6⟩
  unfold math_bits_Len64_k1 at h6
  refine WP.seqI (fun l V' => ∃ (x7 : Int) (x8 : Int), l = [(0, .int .u64 x7), (2, .int .i64 x8)] ∧ V3.le V' ∧ Ow V' (Rs) ∧ math_bits_Len64_k2 x7 x8 = some r) ?_ ?_
  ·rintro _ V9 ⟨x7, x8, rfl, le10, ow11, h12⟩
   unfold math_bits_Len64_k2 at h12
   refine WP.seqI (fun l V' => ∃ (x13 : Int) (x14 : Int), l = [(0, .int .u64 x13), (2, .int .i64 x14)] ∧ V9.le V' ∧ Ow V' (Rs) ∧ math_bits_Len64_k3 x13 x14 = some r) ?_ ?_
   ·rintro _ V15 ⟨x13, x14, rfl, le16, ow17, h18⟩
    unfold math_bits_Len64_k3 at h18
    refine WP.usreg rfl ?_
    refine U.p rfl rfl (.inl rfl) (S.move rfl (L 1 rfl rfl)) ?_
    refine U.p rfl rfl (.inl rfl) (S.move rfl (L 1 rfl rfl)) ?_
    refine U.p rfl rfl (.inl rfl) (S.conv rfl (L 0 rfl rfl) Try.underlying87 Try.underlying5) ?_
    obtain ⟨x19, hx20, h21⟩ := bindS h18
    refine U.p rfl rfl (.inl rfl) (S.indexS hx20 rfl K (L 0 rfl rfl) Try.underlying9) ?_
    refine U.p rfl rfl (.inl rfl) (S.conv rfl (L 0 rfl rfl) Try.underlying5 Try.underlying3) ?_
    refine U.p rfl rfl (.inl rfl) (S.add rfl (L 4 rfl rfl) (L 0 rfl rfl)) ?_
    refine U.p rfl rfl (.inl rfl) (S.assign rfl (L 0 rfl rfl)) ?_
    refine U.done (Nat.le_of_ble_eq_true rfl) ?_
    refine WP.ret ?_
    refine fin.slot (.inr rfl) rfl (L 0 rfl rfl) ⟨V15, rfl, ((le4.trans le10).trans le16), ?_⟩
    have e22 := Option.some.inj h21
    subst e22
    exact ⟨rfl, ow17⟩
   ·skip
    refine WP.usreg rfl ?_
    refine U.p rfl rfl (.inl rfl) (S.move rfl (L 0 rfl rfl)) ?_
    refine U.p rfl rfl (.inl rfl) (S.geq rfl (L 0 rfl rfl) K) ?_
    refine U.done (Nat.le_of_ble_eq_true rfl) ?_
    refine WP.cond _ (L 0 rfl rfl) rfl (fun c23 => ?_) (fun c23 => ?_)
    ·have h24 := ifT c23 h12
     refine WP.usreg rfl ?_
     refine U.p rfl rfl (.inl rfl) (S.move rfl (L 2 rfl rfl)) ?_
     obtain ⟨x25, hx26, h27⟩ := bindS h24
     refine U.p rfl rfl (.inl rfl) (S.shr hx26 rfl (L 0 rfl rfl) K) ?_
     refine U.p rfl rfl (.inl rfl) (S.assign rfl (L 0 rfl rfl)) ?_
     refine U.done (Nat.le_of_ble_eq_true rfl) ?_
     refine WP.ureg rfl ?_
     refine U.p rfl rfl (.inl rfl) (S.move rfl (L 6 rfl rfl)) ?_
     refine U.p rfl rfl (.inl rfl) (S.add rfl (L 0 rfl rfl) K) ?_
     refine U.p rfl rfl (.inl rfl) (S.assign rfl (L 0 rfl rfl)) ?_
     refine U.done (Nat.le_of_ble_eq_true rfl) ?_
     refine sqN ?_
     exact ⟨_, V9, rfl, ⟨x25, w64 (x8 + 8), rfl, (.refl _), ow11, h27⟩, (allCons (L 3 rfl rfl) (allCons (L 0 rfl rfl) allNil))⟩
    ·have h28 := ifF c23 h12
     refine WP.skip ?_
     refine sqN ?_
     exact ⟨_, V9, rfl, ⟨x7, x8, rfl, (.refl _), ow11, h28⟩, (allCons (L 2 rfl rfl) (allCons (L 3 rfl rfl) allNil))⟩
  ·skip
   refine WP.usreg rfl ?_
   refine U.p rfl rfl (.inl rfl) (S.move rfl (L 0 rfl rfl)) ?_
   refine U.p rfl rfl (.inl rfl) (S.geq rfl (L 0 rfl rfl) K) ?_
   refine U.done (Nat.le_of_ble_eq_true rfl) ?_
   refine WP.cond _ (L 0 rfl rfl) rfl (fun c29 => ?_) (fun c29 => ?_)
   ·have h30 := ifT c29 h6
    refine WP.usreg rfl ?_
    refine U.p rfl rfl (.inl rfl) (S.move rfl (L 2 rfl rfl)) ?_
    obtain ⟨x31, hx32, h33⟩ := bindS h30
    refine U.p rfl rfl (.inl rfl) (S.shr hx32 rfl (L 0 rfl rfl) K) ?_
    refine U.p rfl rfl (.inl rfl) (S.assign rfl (L 0 rfl rfl)) ?_
    refine U.done (Nat.le_of_ble_eq_true rfl) ?_
    refine WP.ureg rfl ?_
    refine U.p rfl rfl (.inl rfl) (S.move rfl (L 6 rfl rfl)) ?_
    refine U.p rfl rfl (.inl rfl) (S.add rfl (L 0 rfl rfl) K) ?_
    refine U.p rfl rfl (.inl rfl) (S.assign rfl (L 0 rfl rfl)) ?_
    refine U.done (Nat.le_of_ble_eq_true rfl) ?_
    refine sqN ?_
    exact ⟨_, V3, rfl, ⟨x31, w64 (x2 + 16), rfl, (.refl _), ow5, h33⟩, (allCons (L 3 rfl rfl) (allCons (L 0 rfl rfl) allNil))⟩
   ·have h34 := ifF c29 h6
    refine WP.skip ?_
    refine sqN ?_
    exact ⟨_, V3, rfl, ⟨x1, x2, rfl, (.refl _), ow5, h34⟩, (allCons (L 2 rfl rfl) (allCons (L 3 rfl rfl) allNil))⟩
 ·skip
  refine WP.usreg rfl ?_
  refine U.p rfl rfl (.inl rfl) (S.move rfl (L 1 rfl rfl)) ?_
  refine U.p rfl rfl (.inl rfl) (S.geq rfl (L 0 rfl rfl) K) ?_
  refine U.done (Nat.le_of_ble_eq_true rfl) ?_
  refine WP.cond _ (L 0 rfl rfl) rfl (fun c35 => ?_) (fun c35 => ?_)
  ·have h36 := ifT c35 h
   refine WP.usreg rfl ?_
   refine U.p rfl rfl (.inl rfl) (S.move rfl (L 3 rfl rfl)) ?_
   obtain ⟨x37, hx38, h39⟩ := bindS h36
   refine U.p rfl rfl (.inl rfl) (S.shr hx38 rfl (L 0 rfl rfl) K) ?_
   refine U.p rfl rfl (.inl rfl) (S.assign rfl (L 0 rfl rfl)) ?_
   refine U.done (Nat.le_of_ble_eq_true rfl) ?_
   refine WP.ureg rfl ?_
   refine U.p rfl rfl (.inl rfl) (S.assign rfl K) ?_
   refine U.done (Nat.le_of_ble_eq_true rfl) ?_
   refine sqN ?_
   exact ⟨_, V, rfl, ⟨x37, 32, rfl, (.refl _), ow, h39⟩, (allCons (L 1 rfl rfl) (allCons (L 0 rfl rfl) allNil))⟩
  ·have h40 := ifF c35 h
   refine WP.skip ?_
   refine sqN ?_
   exact ⟨_, V, rfl, ⟨p0, 0, rfl, (.refl _), ow, h40⟩, (allCons (L 3 rfl rfl) (allCons (L 2 rfl rfl) allNil))⟩

set_option maxHeartbeats 4000000 in
set_option maxRecDepth 10000 in
theorem wk_math_bits_Len (V : Vw) (Rs : List At) (p0 : Int) (ow : Ow V (Rs)) (r : Int) (h : math_bits_Len p0 = some r) : ∃ v V', Cl Try.prog 0 59 #[.int .u64 p0] V.H v V'.H ∧ V.le V' ∧ (v = .int .i64 r ∧ Ow V' (Rs)) := by
 refine Ct.of (Nat.zero_le _) Try.func59 rfl (Nat.le_of_ble_eq_true rfl) ?_
 unfold math_bits_Len at h
 refine WP.usreg rfl ?_
 refine U.p rfl rfl (.inl rfl) (S.assign rfl K) ?_
 refine U.done (Nat.le_of_ble_eq_true rfl) ?_
 refine WP.seq ?_
 refine WP.cond false K rfl (fun h => by cases h) (fun _ => ?_)
 refine WP.skip ?_
 refine sqN ?_
 refine WP.usreg rfl ?_
 refine U.p rfl rfl (.inl rfl) (S.move rfl (L 1 rfl rfl)) ?_
 obtain ⟨x1, hx2, h3⟩ := bindS h
 refine O.call (V := V) rfl rfl (.inl rfl) rfl en70 (aC (L 0 rfl rfl) aN) (wk_math_bits_Len64 V _ p0 ow _ hx2) (fun _ _ _ _ => nd) (fun v4 V5 le6 hp7 => ?_)
 obtain ⟨rfl, ow8⟩ := hp7
 refine U.p rfl rfl (.inl rfl) (S.assign rfl (L 0 rfl rfl)) ?_
 refine U.done (Nat.le_of_ble_eq_true rfl) ?_
 refine WP.ret ?_
 refine fin.slot (.inr rfl) rfl (L 0 rfl rfl) ⟨V5, rfl, le6, ?_⟩
 have e9 := Option.some.inj h3
 subst e9
 exact ⟨rfl, ow8⟩

set_option maxHeartbeats 4000000 in
set_option maxRecDepth 10000 in
theorem wk_order_Run_Apart_c2 (V : Vw) (Rs : List At) (p0 : Torder_node) (p1 : Torder_node) (ow : Ow V (Rs)) (r : Int) (h : order_Run_Apart_c2 p0 p1 = some r) : ∃ v V', Cl Try.prog 0 50 #[.agg #[.int .i64 p0.e.t, .int .i64 p0.e.act.kind, .int .i64 p0.e.act.at_, .int .i64 p0.e.act.val, .int .i64 p0.e.act.what, .bool p0.e.act.volatile, .bool p0.e.act.final, .int .i64 p0.e.rf, .int .i64 p0.e.id, .int .i64 p0.at_], .agg #[.int .i64 p1.e.t, .int .i64 p1.e.act.kind, .int .i64 p1.e.act.at_, .int .i64 p1.e.act.val, .int .i64 p1.e.act.what, .bool p1.e.act.volatile, .bool p1.e.act.final, .int .i64 p1.e.rf, .int .i64 p1.e.id, .int .i64 p1.at_]] V.H v V'.H ∧ V.le V' ∧ (v = .int .i64 r ∧ Ow V' (Rs)) := by
 refine Ct.of (Nat.zero_le _) Try.func50 rfl (Nat.le_of_ble_eq_true rfl) ?_
 unfold order_Run_Apart_c2 at h
 refine WP.usreg rfl ?_
 refine O.box ow rfl rfl (.inl rfl) rfl (L 0 rfl rfl) (by simp [topV]) rfl nd (fun b1 V2 le3 ow4 => ?_)
 refine O.box ow4 rfl rfl (.inl rfl) rfl (L 2 rfl rfl) (by simp [topV]) rfl nd (fun b6 V7 le8 ow9 => ?_)
 refine U.p rfl rfl (.inl rfl) (S.assign rfl K) ?_
 refine U.done (Nat.le_of_ble_eq_true rfl) ?_
 refine WP.usreg rfl ?_
 refine U.p (v := .pointer (some ⟨b1, 0, none⟩)) rfl rfl (.inl rfl) (S.fieldAddr rfl (L 2 rfl rfl) Try.underlying45 rfl ti31 rfl rfl) ?_
 refine U.p (v := .pointer (some ⟨b1, 8, none⟩)) rfl rfl (.inl rfl) (S.fieldAddr rfl (L 0 rfl rfl) Try.underlying31 rfl ti3 rfl rfl) ?_
 refine U.k rfl rfl (.inl rfl) (S.load rfl (L 0 rfl rfl) Try.underlying3 rfl ((ow9.own (k := 1) rfl).cell rfl)) nd ?_
 refine U.p (v := .pointer (some ⟨b6, 0, none⟩)) rfl rfl (.inl rfl) (S.fieldAddr rfl (L 4 rfl rfl) Try.underlying45 rfl ti31 rfl rfl) ?_
 refine U.p (v := .pointer (some ⟨b6, 8, none⟩)) rfl rfl (.inl rfl) (S.fieldAddr rfl (L 0 rfl rfl) Try.underlying31 rfl ti3 rfl rfl) ?_
 refine U.k rfl rfl (.inl rfl) (S.load rfl (L 0 rfl rfl) Try.underlying3 rfl ((ow9.own (k := 0) rfl).cell rfl)) nd ?_
 refine U.p rfl rfl (.inl rfl) (S.sub rfl (L 3 rfl rfl) (L 0 rfl rfl)) ?_
 refine U.p rfl rfl (.inl rfl) (S.assign rfl (L 0 rfl rfl)) ?_
 refine U.done (Nat.le_of_ble_eq_true rfl) ?_
 refine WP.ret ?_
 refine fin.slot (.inr rfl) rfl (L 0 rfl rfl) ⟨V7, rfl, (le3.trans le8), ?_⟩
 have ow11 := ow9.drop 0 rfl
 have ow12 := ow11.drop 0 rfl
 have e13 := Option.some.inj h
 subst e13
 exact ⟨rfl, ow12⟩

set_option maxHeartbeats 4000000 in
set_option maxRecDepth 10000 in
theorem wk_slices_insertionSortCmpFunc (V : Vw) (Rs : List At) (p0 : List Torder_node) (p1 : Int) (p2 : Int) (v1 : Value) (ow : Ow V (.os RT_Torder_node v1 p0 :: Rs)) (r : List Torder_node) (h : slices_insertionSortCmpFunc p0 p1 p2 = some r) : ∃ v V', Cl Try.prog 0 61 #[v1, .int .i64 p1, .int .i64 p2, .func (.func 50) #[] #[]] V.H v V'.H ∧ V.le V' ∧ (Ow V' (.os RT_Torder_node v1 r :: Rs)) := by
 refine Ct.of (Nat.zero_le _) Try.func61 rfl (Nat.le_of_ble_eq_true rfl) ?_
 unfold slices_insertionSortCmpFunc at h
 refine WP.usreg rfl ?_
 refine U.p rfl rfl (.inl rfl) (S.move rfl (L 1 rfl rfl)) ?_
 refine U.p rfl rfl (.inl rfl) (S.add rfl (L 0 rfl rfl) K) ?_
 refine U.p rfl rfl (.inl rfl) (S.assign rfl (L 0 rfl rfl)) ?_
 refine U.done (Nat.le_of_ble_eq_true rfl) ?_
 refine WP.blk ?_
 unfold slices_insertionSortCmpFunc_l1 at h
 obtain ⟨n6, hn5⟩ := loopO_some.1 h
 refine WP.loopI2 (fun n l V' => ∃ (xs3 : List Torder_node) (x4 : Int), l = [(0, v1), (1, .int .i64 p1), (2, .int .i64 p2), (3, .func (.func 50) #[] #[]), (8, .int .i64 x4)] ∧ V.le V' ∧ Ow V' (.os RT_Torder_node v1 xs3 :: Rs) ∧ itO (fun s => slices_insertionSortCmpFunc_l1b p1 p2 s.1 s.2) n (xs3, x4) = some r) n6 _ ⟨p0, w64 (p1 + 1), rfl, .refl _, ow, hn5⟩ (allCons (L 3 rfl rfl) (allCons (L 4 rfl rfl) (allCons (L 5 rfl rfl) (allCons (L 6 rfl rfl) (allCons (L 0 rfl rfl) allNil))))) ?_
 rintro _ _ V7 ⟨xs3, x4, rfl, le8, ow9, h13⟩
 obtain ⟨m10, q11, rfl, h14, e12⟩ := itS h13
 replace h14 : slices_insertionSortCmpFunc_l1b p1 p2 xs3 x4 = some q11 := h14
 unfold slices_insertionSortCmpFunc_l1b at h14
 refine WP.seq ?_
 refine WP.usreg rfl ?_
 refine U.p rfl rfl (.inl rfl) (S.move rfl (L 4 rfl rfl)) ?_
 refine U.p rfl rfl (.inl rfl) (S.move rfl (L 3 rfl rfl)) ?_
 refine U.p rfl rfl (.inl rfl) (S.lss rfl (L 1 rfl rfl) (L 0 rfl rfl)) ?_
 refine U.done (Nat.le_of_ble_eq_true rfl) ?_
 refine WP.cond _ (L 0 rfl rfl) rfl (fun c15 => ?_) (fun c15 => ?_)
 ·have h16 := ifT c15 h14
  refine WP.skip ?_
  refine sqN ?_
  refine WP.seq ?_
  refine WP.blk ?_
  refine WP.usreg rfl ?_
  refine U.p rfl rfl (.inl rfl) (S.move rfl (L 7 rfl rfl)) ?_
  refine U.p rfl rfl (.inl rfl) (S.assign rfl (L 0 rfl rfl)) ?_
  refine U.done (Nat.le_of_ble_eq_true rfl) ?_
  refine WP.blk ?_
  unfold slices_insertionSortCmpFunc_l2 at h16
  obtain ⟨n20, hn19⟩ := loopO_some.1 h16
  refine WP.loopI2 (fun n l V' => ∃ (xs17 : List Torder_node) (x18 : Int), l = [(0, v1), (1, .int .i64 p1), (2, .int .i64 p2), (3, .func (.func 50) #[] #[]), (8, .int .i64 x4), (9, .int .i64 x18)] ∧ V7.le V' ∧ Ow V' (.os RT_Torder_node v1 xs17 :: Rs) ∧ itO (fun s => slices_insertionSortCmpFunc_l2b p1 x4 s.1 s.2) n (xs17, x18) = some q11) n20 _ ⟨xs3, x4, rfl, .refl _, ow9, hn19⟩ (allCons (L 5 rfl rfl) (allCons (L 6 rfl rfl) (allCons (L 7 rfl rfl) (allCons (L 8 rfl rfl) (allCons (L 9 rfl rfl) (allCons (L 0 rfl rfl) allNil)))))) ?_
  rintro _ _ V21 ⟨xs17, x18, rfl, le22, ow23, h27⟩
  obtain ⟨m24, q25, rfl, h28, e26⟩ := itS h27
  replace h28 : slices_insertionSortCmpFunc_l2b p1 x4 xs17 x18 = some q25 := h28
  unfold slices_insertionSortCmpFunc_l2b at h28
  refine WP.seq ?_
  refine WP.seqI (fun l V' => ∃ (x29 : Bool), l = [(0, v1), (1, .int .i64 p1), (2, .int .i64 p2), (3, .func (.func 50) #[] #[]), (8, .int .i64 x4), (9, .int .i64 x18), (34, .bool x29)] ∧ V21.le V' ∧ Ow V' (.os RT_Torder_node v1 xs17 :: Rs) ∧ slices_insertionSortCmpFunc_k1 x4 xs17 x18 x29 = some q25) ?_ ?_
  ·rintro _ V30 ⟨x29, rfl, le31, ow32, h33⟩
   unfold slices_insertionSortCmpFunc_k1 at h33
   refine WP.cond _ (L 6 rfl rfl) rfl (fun c34 => ?_) (fun c34 => ?_)
   ·have h35 := ifT c34 h33
    refine WP.skip ?_
    refine sqN ?_
    refine WP.seq ?_
    refine WP.blk ?_
    refine WP.udreg rfl rfl rfl ?_
    refine U.p rfl rfl (.inl rfl) (S.move rfl (L 0 rfl rfl)) ?_
    refine U.p rfl rfl (.inl rfl) (S.move rfl (L 6 rfl rfl)) ?_
    refine U.p rfl rfl (.inl rfl) (S.move rfl (L 2 rfl rfl)) ?_
    refine U.p rfl rfl (.inl rfl) (S.move rfl (L 8 rfl rfl)) ?_
    refine U.p rfl rfl (.inl rfl) (S.sub rfl (L 0 rfl rfl) K) ?_
    refine U.p rfl rfl (.inl rfl) (S.move rfl (L 5 rfl rfl)) ?_
    refine U.p rfl rfl (.inl rfl) (S.move rfl (L 11 rfl rfl)) ?_
    refine U.p rfl rfl (.inl rfl) (S.sub rfl (L 0 rfl rfl) K) ?_
    obtain ⟨x36, hx37, h38⟩ := bindS h35
    obtain ⟨b39, o40, n41, c42, hv43⟩ := ow32.ospt (k := 0) rfl hx37
    obtain ⟨_, hv44, _⟩ := ow32.osel (k := 0) rfl hv43 hx37
    refine U.p rfl rfl (.inl rfl) (S.index rfl ((L 2 rfl rfl).trans hv44) (L 0 rfl rfl) Try.underlying38 ti45 (ix_ge hx37) (ix_lt hx37)) ?_
    obtain ⟨cs45, hv46, hlt47, hr48, hc49⟩ := ow32.osel (k := 0) rfl hv43 hx37
    obtain rfl : cs45 = [.int .i64 x36.e.t, .int .i64 x36.e.act.kind, .int .i64 x36.e.act.at_, .int .i64 x36.e.act.val, .int .i64 x36.e.act.what, .bool x36.e.act.volatile, .bool x36.e.act.final, .int .i64 x36.e.rf, .int .i64 x36.e.id, .int .i64 x36.at_] := hr48
    refine U.k rfl rfl (.inl rfl) (S.loadN (cs := [.int .i64 x36.e.t, .int .i64 x36.e.act.kind, .int .i64 x36.e.act.at_, .int .i64 x36.e.act.val, .int .i64 x36.e.act.what, .bool x36.e.act.volatile, .bool x36.e.act.final, .int .i64 x36.e.rf, .int .i64 x36.e.id, .int .i64 x36.at_]) rfl (L 0 rfl rfl) Try.underlying45 rfl ti45 rfl hc49) (fun _ => (okH.nil (fun r h => by cases h; exact hlt47))) ?_
    refine U.p rfl rfl (.inl rfl) (S.move rfl (L 10 rfl rfl)) ?_
    refine U.p rfl rfl (.inl rfl) (S.move rfl (L 16 rfl rfl)) ?_
    obtain ⟨x50, hx51, h52⟩ := bindS h38
    obtain ⟨_, hv53, _⟩ := ow32.osel (k := 0) rfl hv43 hx51
    refine U.p rfl rfl (.inl rfl) (S.index rfl ((L 1 rfl rfl).trans hv53) (L 0 rfl rfl) Try.underlying38 ti45 (ix_ge hx51) (ix_lt hx51)) ?_
    obtain ⟨cs54, hv55, hlt56, hr57, hc58⟩ := ow32.osel (k := 0) rfl hv43 hx51
    obtain rfl : cs54 = [.int .i64 x50.e.t, .int .i64 x50.e.act.kind, .int .i64 x50.e.act.at_, .int .i64 x50.e.act.val, .int .i64 x50.e.act.what, .bool x50.e.act.volatile, .bool x50.e.act.final, .int .i64 x50.e.rf, .int .i64 x50.e.id, .int .i64 x50.at_] := hr57
    refine U.k rfl rfl (.inl rfl) (S.loadN (cs := [.int .i64 x50.e.t, .int .i64 x50.e.act.kind, .int .i64 x50.e.act.at_, .int .i64 x50.e.act.val, .int .i64 x50.e.act.what, .bool x50.e.act.volatile, .bool x50.e.act.final, .int .i64 x50.e.rf, .int .i64 x50.e.id, .int .i64 x50.at_]) rfl (L 0 rfl rfl) Try.underlying45 rfl ti45 rfl hc58) (fun _ => (okH.cons trivial (okH.nil (fun r h => by cases h; exact hlt56)))) ?_
    obtain ⟨x59, hx60, h61⟩ := bindS h52
    obtain ⟨_, hv62, _⟩ := ow32.osel (k := 0) rfl hv43 hx60
    refine U.p rfl rfl (.inl rfl) (S.index rfl ((L 13 rfl rfl).trans hv62) (L 12 rfl rfl) Try.underlying38 ti45 (ix_ge hx60) (ix_lt hx60)) ?_
    obtain ⟨cs63, hv64, hlt65, hr66, hc67⟩ := ow32.osel (k := 0) rfl hv43 hx60
    obtain rfl : cs63 = [.int .i64 x59.e.t, .int .i64 x59.e.act.kind, .int .i64 x59.e.act.at_, .int .i64 x59.e.act.val, .int .i64 x59.e.act.what, .bool x59.e.act.volatile, .bool x59.e.act.final, .int .i64 x59.e.rf, .int .i64 x59.e.id, .int .i64 x59.at_] := hr66
    refine O.storeE (k := 0) (R := RT_Torder_node) (j := 0) (y := x36) (cs := [.int .i64 x36.e.t, .int .i64 x36.e.act.kind, .int .i64 x36.e.act.at_, .int .i64 x36.e.act.val, .int .i64 x36.e.act.what, .bool x36.e.act.volatile, .bool x36.e.act.final, .int .i64 x36.e.rf, .int .i64 x36.e.id, .int .i64 x36.at_]) ow32 rfl hv64 rfl rfl (.inl rfl) rfl (L 0 rfl rfl) (L 5 rfl rfl) ti45 hx60 (by simp [topV]) rfl rfl rfl (full rfl) (fun H1 hs => (fun _ => (okH.cons (Or.inl rfl) (okH.cons (Or.inl rfl) (okH.nil (fun r h => nomatch h)))))) (fun V68 le69 ow70 => ?_)
    obtain ⟨x71, hx72, h73⟩ := bindS h61
    obtain ⟨_, hv74, _⟩ := ow70.osel (k := 0) rfl hv43 hx72
    refine U.p rfl rfl (.inl rfl) (S.index rfl ((L 12 rfl rfl).trans hv74) (L 10 rfl rfl) Try.underlying38 ti45 (ix_ge hx72) (ix_lt hx72)) ?_
    obtain ⟨cs75, hv76, hlt77, hr78, hc79⟩ := ow70.osel (k := 0) rfl hv43 hx72
    obtain rfl : cs75 = [.int .i64 x71.e.t, .int .i64 x71.e.act.kind, .int .i64 x71.e.act.at_, .int .i64 x71.e.act.val, .int .i64 x71.e.act.what, .bool x71.e.act.volatile, .bool x71.e.act.final, .int .i64 x71.e.rf, .int .i64 x71.e.id, .int .i64 x71.at_] := hr78
    refine O.storeE (k := 0) (R := RT_Torder_node) (j := 0) (y := x50) (cs := [.int .i64 x50.e.t, .int .i64 x50.e.act.kind, .int .i64 x50.e.act.at_, .int .i64 x50.e.act.val, .int .i64 x50.e.act.what, .bool x50.e.act.volatile, .bool x50.e.act.final, .int .i64 x50.e.rf, .int .i64 x50.e.id, .int .i64 x50.at_]) ow70 rfl hv76 rfl rfl (.inl rfl) rfl (L 0 rfl rfl) (L 2 rfl rfl) ti45 hx72 (by simp [topV]) rfl rfl rfl (full rfl) (fun H1 hs => (fun _ => (okH.cons rfl (okH.cons (Or.inl rfl) (okH.cons (Or.inl rfl) (okH.nil (fun r h => nomatch h))))))) (fun V80 le81 ow82 => ?_)
    refine U.done (Nat.le_of_ble_eq_true rfl) ?_
    refine blkN (sqN ?_)
    refine WP.ureg rfl ?_
    refine U.p rfl rfl (.inl rfl) (S.move rfl (L 21 rfl rfl)) ?_
    refine U.p rfl rfl (.inl rfl) (S.sub rfl (L 0 rfl rfl) K) ?_
    refine U.p rfl rfl (.inl rfl) (S.assign rfl (L 0 rfl rfl)) ?_
    refine U.done (Nat.le_of_ble_eq_true rfl) ?_
    refine sqN ?_
    exact ⟨_, V80, rfl, ⟨m24, Nat.lt_succ_self _, (xs17.set (Int.toNat x18) x36).set (Int.toNat (w64 (x18 - 1))) x50, w64 (x18 - 1), rfl, (((le22.trans le31).trans le69).trans le81), ow82, backS h73 e26⟩, (allCons (L 19 rfl rfl) (allCons (L 20 rfl rfl) (allCons (L 21 rfl rfl) (allCons (L 22 rfl rfl) (allCons (L 23 rfl rfl) (allCons (L 0 rfl rfl) allNil))))))⟩
   ·have h83 := ifF c34 h33
    refine WP.exit ?_
    refine sqE (sqE (blkE (blkN (sqN ?_))))
    have h84 := exitS h83 e26
    refine WP.ureg rfl ?_
    refine U.p rfl rfl (.inl rfl) (S.move rfl (L 4 rfl rfl)) ?_
    refine U.p rfl rfl (.inl rfl) (S.add rfl (L 0 rfl rfl) K) ?_
    refine U.p rfl rfl (.inl rfl) (S.assign rfl (L 0 rfl rfl)) ?_
    refine U.done (Nat.le_of_ble_eq_true rfl) ?_
    refine sqN ?_
    exact ⟨_, V30, rfl, ⟨m10, Nat.lt_succ_self _, xs17, w64 (x4 + 1), rfl, ((le8.trans le22).trans le31), ow32, backS h84 e12⟩, (allCons (L 3 rfl rfl) (allCons (L 4 rfl rfl) (allCons (L 5 rfl rfl) (allCons (L 6 rfl rfl) (allCons (L 0 rfl rfl) allNil)))))⟩
  ·skip
   refine WP.udreg rfl rfl rfl ?_
   refine U.p rfl rfl (.inl rfl) (S.move rfl (L 5 rfl rfl)) ?_
   refine U.p rfl rfl (.inl rfl) (S.move rfl (L 2 rfl rfl)) ?_
   refine U.p rfl rfl (.inl rfl) (S.gtr rfl (L 1 rfl rfl) (L 0 rfl rfl)) ?_
   refine U.p rfl rfl (.inl rfl) (S.move rfl (L 0 rfl rfl)) ?_
   refine bcase (b := decide (p1 < x18)) (fun g85 => ?_) (fun g85 => ?_)
   ·have h86 := ifT g85 h28
    refine U.p rfl rfl (.inr ⟨_, _, _, rfl, rfl, ((L 0 rfl rfl).trans (congrArg Value.bool g85))⟩) (S.move rfl (L 7 rfl rfl)) ?_
    refine U.p rfl rfl (.inr ⟨_, _, _, rfl, rfl, ((L 1 rfl rfl).trans (congrArg Value.bool g85))⟩) (S.move rfl (L 5 rfl rfl)) ?_
    refine U.p rfl rfl (.inr ⟨_, _, _, rfl, rfl, ((L 2 rfl rfl).trans (congrArg Value.bool g85))⟩) (S.move rfl (L 11 rfl rfl)) ?_
    obtain ⟨x87, hx88, h89⟩ := bindS h86
    obtain ⟨b90, o91, n92, c93, hv94⟩ := ow23.ospt (k := 0) rfl hx88
    obtain ⟨_, hv95, _⟩ := ow23.osel (k := 0) rfl hv94 hx88
    refine U.p rfl rfl (.inr ⟨_, _, _, rfl, rfl, ((L 3 rfl rfl).trans (congrArg Value.bool g85))⟩) (S.index rfl ((L 1 rfl rfl).trans hv95) (L 0 rfl rfl) Try.underlying38 ti45 (ix_ge hx88) (ix_lt hx88)) ?_
    obtain ⟨cs96, hv97, hlt98, hr99, hc100⟩ := ow23.osel (k := 0) rfl hv94 hx88
    obtain rfl : cs96 = [.int .i64 x87.e.t, .int .i64 x87.e.act.kind, .int .i64 x87.e.act.at_, .int .i64 x87.e.act.val, .int .i64 x87.e.act.what, .bool x87.e.act.volatile, .bool x87.e.act.final, .int .i64 x87.e.rf, .int .i64 x87.e.id, .int .i64 x87.at_] := hr99
    refine U.k rfl rfl (.inr ⟨_, _, _, rfl, rfl, ((L 4 rfl rfl).trans (congrArg Value.bool g85))⟩) (S.loadN (cs := [.int .i64 x87.e.t, .int .i64 x87.e.act.kind, .int .i64 x87.e.act.at_, .int .i64 x87.e.act.val, .int .i64 x87.e.act.what, .bool x87.e.act.volatile, .bool x87.e.act.final, .int .i64 x87.e.rf, .int .i64 x87.e.id, .int .i64 x87.at_]) rfl (L 0 rfl rfl) Try.underlying45 rfl ti45 rfl hc100) (fun _ => (okH.nil (fun r h => by cases h; exact hlt98))) ?_
    refine U.p rfl rfl (.inr ⟨_, _, _, rfl, rfl, ((L 5 rfl rfl).trans (congrArg Value.bool g85))⟩) (S.move rfl (L 9 rfl rfl)) ?_
    refine U.p rfl rfl (.inr ⟨_, _, _, rfl, rfl, ((L 6 rfl rfl).trans (congrArg Value.bool g85))⟩) (S.move rfl (L 15 rfl rfl)) ?_
    refine U.p rfl rfl (.inr ⟨_, _, _, rfl, rfl, ((L 7 rfl rfl).trans (congrArg Value.bool g85))⟩) (S.sub rfl (L 0 rfl rfl) K) ?_
    obtain ⟨x101, hx102, h103⟩ := bindS h89
    obtain ⟨_, hv104, _⟩ := ow23.osel (k := 0) rfl hv94 hx102
    refine U.p rfl rfl (.inr ⟨_, _, _, rfl, rfl, ((L 8 rfl rfl).trans (congrArg Value.bool g85))⟩) (S.index rfl ((L 2 rfl rfl).trans hv104) (L 0 rfl rfl) Try.underlying38 ti45 (ix_ge hx102) (ix_lt hx102)) ?_
    obtain ⟨cs105, hv106, hlt107, hr108, hc109⟩ := ow23.osel (k := 0) rfl hv94 hx102
    obtain rfl : cs105 = [.int .i64 x101.e.t, .int .i64 x101.e.act.kind, .int .i64 x101.e.act.at_, .int .i64 x101.e.act.val, .int .i64 x101.e.act.what, .bool x101.e.act.volatile, .bool x101.e.act.final, .int .i64 x101.e.rf, .int .i64 x101.e.id, .int .i64 x101.at_] := hr108
    refine U.k rfl rfl (.inr ⟨_, _, _, rfl, rfl, ((L 9 rfl rfl).trans (congrArg Value.bool g85))⟩) (S.loadN (cs := [.int .i64 x101.e.t, .int .i64 x101.e.act.kind, .int .i64 x101.e.act.at_, .int .i64 x101.e.act.val, .int .i64 x101.e.act.what, .bool x101.e.act.volatile, .bool x101.e.act.final, .int .i64 x101.e.rf, .int .i64 x101.e.id, .int .i64 x101.at_]) rfl (L 0 rfl rfl) Try.underlying45 rfl ti45 rfl hc109) (fun _ => (okH.cons trivial (okH.nil (fun r h => by cases h; exact hlt107)))) ?_
    obtain ⟨x110, hx111, h112⟩ := bindS h103
    refine O.callv (V := V21) rfl rfl (.inr ⟨_, _, _, rfl, rfl, ((L 10 rfl rfl).trans (congrArg Value.bool g85))⟩) rfl (L 9 rfl rfl) en50 (aC (L 5 rfl rfl) (aC (L 0 rfl rfl) aN)) (wk_order_Run_Apart_c2 V21 _ x87 x101 ow23 _ hx111) (fun v113 V114 le115 hp116 => by obtain ⟨rfl, ow117⟩ := hp116; exact (fun _ => (okH.cons (Or.inl rfl) (okH.cons (Or.inl rfl) (okH.nil (fun r h => nomatch h)))))) (fun v113 V114 le115 hp116 => ?_)
    obtain ⟨rfl, ow117⟩ := hp116
    refine U.p rfl rfl (.inr ⟨_, _, _, rfl, rfl, ((L 11 rfl rfl).trans (congrArg Value.bool g85))⟩) (S.lss rfl (L 0 rfl rfl) K) ?_
    refine U.p rfl rfl (.inl rfl) (S.pickT rfl ((L 12 rfl rfl).trans (congrArg Value.bool g85)) (L 0 rfl rfl)) ?_
    refine U.done (Nat.le_of_ble_eq_true rfl) ?_
    refine sqN ?_
    exact ⟨_, V114, rfl, ⟨decide (x110 < 0), rfl, le115, ow117, h112⟩, (allCons (L 17 rfl rfl) (allCons (L 18 rfl rfl) (allCons (L 19 rfl rfl) (allCons (L 20 rfl rfl) (allCons (L 21 rfl rfl) (allCons (L 22 rfl rfl) (allCons (L 0 rfl rfl) allNil)))))))⟩
   ·have h118 := ifF g85 h28
    refine U.x rfl rfl rfl rfl ((L 0 rfl rfl).trans (congrArg Value.bool g85)) (by decide) ?_
    refine U.x rfl rfl rfl rfl ((L 1 rfl rfl).trans (congrArg Value.bool g85)) (by decide) ?_
    refine U.x rfl rfl rfl rfl ((L 2 rfl rfl).trans (congrArg Value.bool g85)) (by decide) ?_
    refine U.x rfl rfl rfl rfl ((L 3 rfl rfl).trans (congrArg Value.bool g85)) (by decide) ?_
    refine U.x rfl rfl rfl rfl ((L 4 rfl rfl).trans (congrArg Value.bool g85)) (by decide) ?_
    refine U.x rfl rfl rfl rfl ((L 5 rfl rfl).trans (congrArg Value.bool g85)) (by decide) ?_
    refine U.x rfl rfl rfl rfl ((L 6 rfl rfl).trans (congrArg Value.bool g85)) (by decide) ?_
    refine U.x rfl rfl rfl rfl ((L 7 rfl rfl).trans (congrArg Value.bool g85)) (by decide) ?_
    refine U.x rfl rfl rfl rfl ((L 8 rfl rfl).trans (congrArg Value.bool g85)) (by decide) ?_
    refine U.x rfl rfl rfl rfl ((L 9 rfl rfl).trans (congrArg Value.bool g85)) (by decide) ?_
    refine U.x rfl rfl rfl rfl ((L 10 rfl rfl).trans (congrArg Value.bool g85)) (by decide) ?_
    refine U.x rfl rfl rfl rfl ((L 11 rfl rfl).trans (congrArg Value.bool g85)) (by decide) ?_
    refine U.p rfl rfl (.inl rfl) (S.pickF rfl ((L 12 rfl rfl).trans (congrArg Value.bool g85)) K) ?_
    refine U.done (Nat.le_of_ble_eq_true rfl) ?_
    refine sqN ?_
    exact ⟨_, V21, rfl, ⟨false, rfl, (.refl _), ow23, h118⟩, (allCons (L 17 rfl rfl) (allCons (L 18 rfl rfl) (allCons (L 19 rfl rfl) (allCons (L 20 rfl rfl) (allCons (L 21 rfl rfl) (allCons (L 22 rfl rfl) (allCons (L 0 rfl rfl) allNil)))))))⟩
 ·have h119 := ifF c15 h14
  refine WP.exit ?_
  refine sqE (sqE (blkE ?_))
  have h120 := exitS h119 e12
  refine fin.slots' (.inl rfl) fsN rfl ⟨V7, rfl, le8, ?_⟩
  have e121 := Option.some.inj h120
  subst e121
  exact ow9

set_option maxHeartbeats 4000000 in
set_option maxRecDepth 10000 in
theorem wk_slices_siftDownCmpFunc (V : Vw) (Rs : List At) (p0 : List Torder_node) (p1 : Int) (p2 : Int) (p3 : Int) (v1 : Value) (ow : Ow V (.os RT_Torder_node v1 p0 :: Rs)) (r : List Torder_node) (h : slices_siftDownCmpFunc p0 p1 p2 p3 = some r) : ∃ v V', Cl Try.prog 0 71 #[v1, .int .i64 p1, .int .i64 p2, .int .i64 p3, .func (.func 50) #[] #[]] V.H v V'.H ∧ V.le V' ∧ (Ow V' (.os RT_Torder_node v1 r :: Rs)) := by
 refine Ct.of (Nat.zero_le _) Try.func71 rfl (Nat.le_of_ble_eq_true rfl) ?_
 unfold slices_siftDownCmpFunc at h
 refine WP.usreg rfl ?_
 refine U.p rfl rfl (.inl rfl) (S.move rfl (L 1 rfl rfl)) ?_
 refine U.p rfl rfl (.inl rfl) (S.assign rfl (L 0 rfl rfl)) ?_
 refine U.done (Nat.le_of_ble_eq_true rfl) ?_
 refine WP.blk ?_
 unfold slices_siftDownCmpFunc_l1 at h
 obtain ⟨n6, hn5⟩ := loopO_some.1 h
 refine WP.loopI2 (fun n l V' => ∃ (xs3 : List Torder_node) (x4 : Int), l = [(0, v1), (2, .int .i64 p2), (3, .int .i64 p3), (4, .func (.func 50) #[] #[]), (10, .int .i64 x4)] ∧ V.le V' ∧ Ow V' (.os RT_Torder_node v1 xs3 :: Rs) ∧ itO (fun s => slices_siftDownCmpFunc_l1b p2 p3 s.1 s.2) n (xs3, x4) = some r) n6 _ ⟨p0, p1, rfl, .refl _, ow, hn5⟩ (allCons (L 2 rfl rfl) (allCons (L 4 rfl rfl) (allCons (L 5 rfl rfl) (allCons (L 6 rfl rfl) (allCons (L 0 rfl rfl) allNil))))) ?_
 rintro _ _ V7 ⟨xs3, x4, rfl, le8, ow9, h13⟩
 obtain ⟨m10, q11, rfl, h14, e12⟩ := itS h13
 replace h14 : slices_siftDownCmpFunc_l1b p2 p3 xs3 x4 = some q11 := h14
 unfold slices_siftDownCmpFunc_l1b at h14
 refine WP.blk ?_
 refine WP.usreg rfl ?_
 refine U.p rfl rfl (.inl rfl) (S.move rfl (L 4 rfl rfl)) ?_
 refine U.p rfl rfl (.inl rfl) (S.mul rfl K (L 0 rfl rfl)) ?_
 refine U.p rfl rfl (.inl rfl) (S.add rfl (L 0 rfl rfl) K) ?_
 refine U.p rfl rfl (.inl rfl) (S.assign rfl (L 0 rfl rfl)) ?_
 refine U.done (Nat.le_of_ble_eq_true rfl) ?_
 refine WP.seq ?_
 refine WP.usreg rfl ?_
 refine U.p rfl rfl (.inl rfl) (S.move rfl (L 0 rfl rfl)) ?_
 refine U.p rfl rfl (.inl rfl) (S.move rfl (L 6 rfl rfl)) ?_
 refine U.p rfl rfl (.inl rfl) (S.geq rfl (L 1 rfl rfl) (L 0 rfl rfl)) ?_
 refine U.done (Nat.le_of_ble_eq_true rfl) ?_
 refine WP.cond _ (L 0 rfl rfl) rfl (fun c15 => ?_) (fun c15 => ?_)
 ·have h16 := ifT c15 h14
  refine WP.exit ?_
  refine sqE (blkO rfl (sqE (blkE ?_)))
  have h17 := exitS h16 e12
  refine fin.slots' (.inl rfl) fsN rfl ⟨V7, rfl, le8, ?_⟩
  have e18 := Option.some.inj h17
  subst e18
  exact ow9
 ·have h19 := ifF c15 h14
  refine WP.skip ?_
  refine sqN ?_
  refine WP.seqI (fun l V' => ∃ (x20 : Int), l = [(0, v1), (2, .int .i64 p2), (3, .int .i64 p3), (4, .func (.func 50) #[] #[]), (10, .int .i64 x4), (11, .int .i64 x20)] ∧ V7.le V' ∧ Ow V' (.os RT_Torder_node v1 xs3 :: Rs) ∧ slices_siftDownCmpFunc_k1 p3 xs3 x4 x20 = some q11) ?_ ?_
  ·rintro _ V21 ⟨x20, rfl, le22, ow23, h24⟩
   unfold slices_siftDownCmpFunc_k1 at h24
   refine WP.seq ?_
   refine WP.usdreg rfl rfl rfl ?_
   refine U.p rfl rfl (.inl rfl) (S.move rfl (L 3 rfl rfl)) ?_
   refine U.p rfl rfl (.inl rfl) (S.move rfl (L 1 rfl rfl)) ?_
   refine U.p rfl rfl (.inl rfl) (S.move rfl (L 4 rfl rfl)) ?_
   refine U.p rfl rfl (.inl rfl) (S.move rfl (L 7 rfl rfl)) ?_
   refine U.p rfl rfl (.inl rfl) (S.add rfl (L 1 rfl rfl) (L 0 rfl rfl)) ?_
   obtain ⟨x25, hx26, h27⟩ := bindS h24
   obtain ⟨b28, o29, n30, c31, hv32⟩ := ow23.ospt (k := 0) rfl hx26
   obtain ⟨_, hv33, _⟩ := ow23.osel (k := 0) rfl hv32 hx26
   refine U.p rfl rfl (.inl rfl) (S.index rfl ((L 3 rfl rfl).trans hv33) (L 0 rfl rfl) Try.underlying38 ti45 (ix_ge hx26) (ix_lt hx26)) ?_
   obtain ⟨cs34, hv35, hlt36, hr37, hc38⟩ := ow23.osel (k := 0) rfl hv32 hx26
   obtain rfl : cs34 = [.int .i64 x25.e.t, .int .i64 x25.e.act.kind, .int .i64 x25.e.act.at_, .int .i64 x25.e.act.val, .int .i64 x25.e.act.what, .bool x25.e.act.volatile, .bool x25.e.act.final, .int .i64 x25.e.rf, .int .i64 x25.e.id, .int .i64 x25.at_] := hr37
   refine U.k rfl rfl (.inl rfl) (S.loadN (cs := [.int .i64 x25.e.t, .int .i64 x25.e.act.kind, .int .i64 x25.e.act.at_, .int .i64 x25.e.act.val, .int .i64 x25.e.act.what, .bool x25.e.act.volatile, .bool x25.e.act.final, .int .i64 x25.e.rf, .int .i64 x25.e.id, .int .i64 x25.at_]) rfl (L 0 rfl rfl) Try.underlying45 rfl ti45 rfl hc38) (fun _ => (okH.nil (fun r h => by cases h; exact hlt36))) ?_
   refine U.p rfl rfl (.inl rfl) (S.move rfl (L 7 rfl rfl)) ?_
   refine U.p rfl rfl (.inl rfl) (S.move rfl (L 10 rfl rfl)) ?_
   refine U.p rfl rfl (.inl rfl) (S.move rfl (L 14 rfl rfl)) ?_
   refine U.p rfl rfl (.inl rfl) (S.add rfl (L 1 rfl rfl) (L 0 rfl rfl)) ?_
   obtain ⟨x39, hx40, h41⟩ := bindS h27
   obtain ⟨_, hv42, _⟩ := ow23.osel (k := 0) rfl hv32 hx40
   refine U.p rfl rfl (.inl rfl) (S.index rfl ((L 3 rfl rfl).trans hv42) (L 0 rfl rfl) Try.underlying38 ti45 (ix_ge hx40) (ix_lt hx40)) ?_
   obtain ⟨cs43, hv44, hlt45, hr46, hc47⟩ := ow23.osel (k := 0) rfl hv32 hx40
   obtain rfl : cs43 = [.int .i64 x39.e.t, .int .i64 x39.e.act.kind, .int .i64 x39.e.act.at_, .int .i64 x39.e.act.val, .int .i64 x39.e.act.what, .bool x39.e.act.volatile, .bool x39.e.act.final, .int .i64 x39.e.rf, .int .i64 x39.e.id, .int .i64 x39.at_] := hr46
   refine U.k rfl rfl (.inl rfl) (S.loadN (cs := [.int .i64 x39.e.t, .int .i64 x39.e.act.kind, .int .i64 x39.e.act.at_, .int .i64 x39.e.act.val, .int .i64 x39.e.act.what, .bool x39.e.act.volatile, .bool x39.e.act.final, .int .i64 x39.e.rf, .int .i64 x39.e.id, .int .i64 x39.at_]) rfl (L 0 rfl rfl) Try.underlying45 rfl ti45 rfl hc47) (fun _ => (okH.cons trivial (okH.nil (fun r h => by cases h; exact hlt45)))) ?_
   obtain ⟨x48, hx49, h50⟩ := bindS h41
   refine O.callv (V := V21) rfl rfl (.inl rfl) rfl (L 12 rfl rfl) en50 (aC (L 6 rfl rfl) (aC (L 0 rfl rfl) aN)) (wk_order_Run_Apart_c2 V21 _ x25 x39 ow23 _ hx49) (fun v51 V52 le53 hp54 => by obtain ⟨rfl, ow55⟩ := hp54; exact (fun _ => (okH.cons (Or.inl rfl) (okH.cons (Or.inl rfl) (okH.nil (fun r h => nomatch h)))))) (fun v51 V52 le53 hp54 => ?_)
   obtain ⟨rfl, ow55⟩ := hp54
   refine U.p rfl rfl (.inl rfl) (S.lss rfl (L 0 rfl rfl) K) ?_
   refine U.p rfl rfl (.inl rfl) (S.not rfl (L 0 rfl rfl)) ?_
   refine U.done (Nat.le_of_ble_eq_true rfl) ?_
   refine WP.cond _ (L 0 rfl rfl) rfl (fun c56 => ?_) (fun c56 => ?_)
   ·have h57 := ifT c56 h50
    have k58 : (decide (x48 < 0)) = false := by simpa using c56
    refine WP.ret ?_
    refine sqR (blkR (sqR (blkR ?_)))
    have h59 := exitS h57 e12
    refine fin.slots' (.inr rfl) fsN rfl ⟨V52, rfl, ((le8.trans le22).trans le53), ?_⟩
    have e60 := Option.some.inj h59
    subst e60
    exact ow55
   ·have h61 := ifF c56 h50
    have k62 : (decide (x48 < 0)) = true := by simpa using c56
    refine WP.skip ?_
    refine sqN ?_
    refine WP.usdreg rfl rfl rfl ?_
    refine U.p rfl rfl (.inl rfl) (S.move rfl (L 16 rfl rfl)) ?_
    refine U.p rfl rfl (.inl rfl) (S.move rfl (L 19 rfl rfl)) ?_
    refine U.p rfl rfl (.inl rfl) (S.move rfl (L 22 rfl rfl)) ?_
    refine U.p rfl rfl (.inl rfl) (S.add rfl (L 1 rfl rfl) (L 0 rfl rfl)) ?_
    refine U.p rfl rfl (.inl rfl) (S.move rfl (L 20 rfl rfl)) ?_
    refine U.p rfl rfl (.inl rfl) (S.move rfl (L 23 rfl rfl)) ?_
    refine U.p rfl rfl (.inl rfl) (S.move rfl (L 27 rfl rfl)) ?_
    refine U.p rfl rfl (.inl rfl) (S.add rfl (L 1 rfl rfl) (L 0 rfl rfl)) ?_
    refine U.p rfl rfl (.inl rfl) (S.move rfl (L 24 rfl rfl)) ?_
    refine U.p rfl rfl (.inl rfl) (S.move rfl (L 27 rfl rfl)) ?_
    refine U.p rfl rfl (.inl rfl) (S.move rfl (L 31 rfl rfl)) ?_
    refine U.p rfl rfl (.inl rfl) (S.add rfl (L 1 rfl rfl) (L 0 rfl rfl)) ?_
    obtain ⟨x63, hx64, h65⟩ := bindS h61
    obtain ⟨_, hv66, _⟩ := ow55.osel (k := 0) rfl hv32 hx64
    refine U.p rfl rfl (.inl rfl) (S.index rfl ((L 3 rfl rfl).trans hv66) (L 0 rfl rfl) Try.underlying38 ti45 (ix_ge hx64) (ix_lt hx64)) ?_
    obtain ⟨cs67, hv68, hlt69, hr70, hc71⟩ := ow55.osel (k := 0) rfl hv32 hx64
    obtain rfl : cs67 = [.int .i64 x63.e.t, .int .i64 x63.e.act.kind, .int .i64 x63.e.act.at_, .int .i64 x63.e.act.val, .int .i64 x63.e.act.what, .bool x63.e.act.volatile, .bool x63.e.act.final, .int .i64 x63.e.rf, .int .i64 x63.e.id, .int .i64 x63.at_] := hr70
    refine U.k rfl rfl (.inl rfl) (S.loadN (cs := [.int .i64 x63.e.t, .int .i64 x63.e.act.kind, .int .i64 x63.e.act.at_, .int .i64 x63.e.act.val, .int .i64 x63.e.act.what, .bool x63.e.act.volatile, .bool x63.e.act.final, .int .i64 x63.e.rf, .int .i64 x63.e.id, .int .i64 x63.at_]) rfl (L 0 rfl rfl) Try.underlying45 rfl ti45 rfl hc71) (fun _ => (okH.nil (fun r h => by cases h; exact hlt69))) ?_
    refine U.p rfl rfl (.inl rfl) (S.move rfl (L 30 rfl rfl)) ?_
    refine U.p rfl rfl (.inl rfl) (S.move rfl (L 33 rfl rfl)) ?_
    refine U.p rfl rfl (.inl rfl) (S.move rfl (L 36 rfl rfl)) ?_
    refine U.p rfl rfl (.inl rfl) (S.add rfl (L 1 rfl rfl) (L 0 rfl rfl)) ?_
    obtain ⟨x72, hx73, h74⟩ := bindS h65
    obtain ⟨_, hv75, _⟩ := ow55.osel (k := 0) rfl hv32 hx73
    refine U.p rfl rfl (.inl rfl) (S.index rfl ((L 3 rfl rfl).trans hv75) (L 0 rfl rfl) Try.underlying38 ti45 (ix_ge hx73) (ix_lt hx73)) ?_
    obtain ⟨cs76, hv77, hlt78, hr79, hc80⟩ := ow55.osel (k := 0) rfl hv32 hx73
    obtain rfl : cs76 = [.int .i64 x72.e.t, .int .i64 x72.e.act.kind, .int .i64 x72.e.act.at_, .int .i64 x72.e.act.val, .int .i64 x72.e.act.what, .bool x72.e.act.volatile, .bool x72.e.act.final, .int .i64 x72.e.rf, .int .i64 x72.e.id, .int .i64 x72.at_] := hr79
    refine U.k rfl rfl (.inl rfl) (S.loadN (cs := [.int .i64 x72.e.t, .int .i64 x72.e.act.kind, .int .i64 x72.e.act.at_, .int .i64 x72.e.act.val, .int .i64 x72.e.act.what, .bool x72.e.act.volatile, .bool x72.e.act.final, .int .i64 x72.e.rf, .int .i64 x72.e.id, .int .i64 x72.at_]) rfl (L 0 rfl rfl) Try.underlying45 rfl ti45 rfl hc80) (fun _ => (okH.cons trivial (okH.nil (fun r h => by cases h; exact hlt78)))) ?_
    obtain ⟨x81, hx82, h83⟩ := bindS h74
    obtain ⟨_, hv84, _⟩ := ow55.osel (k := 0) rfl hv32 hx82
    refine U.p rfl rfl (.inl rfl) (S.index rfl ((L 19 rfl rfl).trans hv84) (L 16 rfl rfl) Try.underlying38 ti45 (ix_ge hx82) (ix_lt hx82)) ?_
    obtain ⟨cs85, hv86, hlt87, hr88, hc89⟩ := ow55.osel (k := 0) rfl hv32 hx82
    obtain rfl : cs85 = [.int .i64 x81.e.t, .int .i64 x81.e.act.kind, .int .i64 x81.e.act.at_, .int .i64 x81.e.act.val, .int .i64 x81.e.act.what, .bool x81.e.act.volatile, .bool x81.e.act.final, .int .i64 x81.e.rf, .int .i64 x81.e.id, .int .i64 x81.at_] := hr88
    refine O.storeE (k := 0) (R := RT_Torder_node) (j := 0) (y := x63) (cs := [.int .i64 x63.e.t, .int .i64 x63.e.act.kind, .int .i64 x63.e.act.at_, .int .i64 x63.e.act.val, .int .i64 x63.e.act.what, .bool x63.e.act.volatile, .bool x63.e.act.final, .int .i64 x63.e.rf, .int .i64 x63.e.id, .int .i64 x63.at_]) ow55 rfl hv86 rfl rfl (.inl rfl) rfl (L 0 rfl rfl) (L 7 rfl rfl) ti45 hx82 (by simp [topV]) rfl rfl rfl (full rfl) (fun H1 hs => (fun _ => (okH.cons (Or.inl rfl) (okH.cons (Or.inl rfl) (okH.nil (fun r h => nomatch h)))))) (fun V90 le91 ow92 => ?_)
    obtain ⟨x93, hx94, h95⟩ := bindS h83
    obtain ⟨_, hv96, _⟩ := ow92.osel (k := 0) rfl hv32 hx94
    refine U.p rfl rfl (.inl rfl) (S.index rfl ((L 16 rfl rfl).trans hv96) (L 13 rfl rfl) Try.underlying38 ti45 (ix_ge hx94) (ix_lt hx94)) ?_
    obtain ⟨cs97, hv98, hlt99, hr100, hc101⟩ := ow92.osel (k := 0) rfl hv32 hx94
    obtain rfl : cs97 = [.int .i64 x93.e.t, .int .i64 x93.e.act.kind, .int .i64 x93.e.act.at_, .int .i64 x93.e.act.val, .int .i64 x93.e.act.what, .bool x93.e.act.volatile, .bool x93.e.act.final, .int .i64 x93.e.rf, .int .i64 x93.e.id, .int .i64 x93.at_] := hr100
    refine O.storeE (k := 0) (R := RT_Torder_node) (j := 0) (y := x72) (cs := [.int .i64 x72.e.t, .int .i64 x72.e.act.kind, .int .i64 x72.e.act.at_, .int .i64 x72.e.act.val, .int .i64 x72.e.act.what, .bool x72.e.act.volatile, .bool x72.e.act.final, .int .i64 x72.e.rf, .int .i64 x72.e.id, .int .i64 x72.at_]) ow92 rfl hv98 rfl rfl (.inl rfl) rfl (L 0 rfl rfl) (L 2 rfl rfl) ti45 hx94 (by simp [topV]) rfl rfl rfl (full rfl) (fun H1 hs => (fun _ => (okH.cons rfl (okH.cons (Or.inl rfl) (okH.cons (Or.inl rfl) (okH.nil (fun r h => nomatch h))))))) (fun V102 le103 ow104 => ?_)
    refine U.done (Nat.le_of_ble_eq_true rfl) ?_
    refine WP.ureg rfl ?_
    refine U.p rfl rfl (.inl rfl) (S.move rfl (L 43 rfl rfl)) ?_
    refine U.p rfl rfl (.inl rfl) (S.assign rfl (L 0 rfl rfl)) ?_
    refine U.done (Nat.le_of_ble_eq_true rfl) ?_
    refine blkN (sqN ?_)
    exact ⟨_, V102, rfl, ⟨m10, Nat.lt_succ_self _, (xs3.set (Int.toNat (w64 (p3 + x4))) x63).set (Int.toNat (w64 (p3 + x20))) x72, x20, rfl, ((((le8.trans le22).trans le53).trans le91).trans le103), ow104, backS h95 e12⟩, (allCons (L 40 rfl rfl) (allCons (L 41 rfl rfl) (allCons (L 42 rfl rfl) (allCons (L 43 rfl rfl) (allCons (L 0 rfl rfl) allNil)))))⟩
  ·skip
   refine WP.seqI (fun l V' => ∃ (x105 : Bool), l = [(0, v1), (2, .int .i64 p2), (3, .int .i64 p3), (4, .func (.func 50) #[] #[]), (10, .int .i64 x4), (11, .int .i64 (w64 ((w64 (2 * x4)) + 1))), (40, .bool x105)] ∧ V7.le V' ∧ Ow V' (.os RT_Torder_node v1 xs3 :: Rs) ∧ slices_siftDownCmpFunc_k2 p3 xs3 x4 x105 = some q11) ?_ ?_
   ·rintro _ V106 ⟨x105, rfl, le107, ow108, h109⟩
    unfold slices_siftDownCmpFunc_k2 at h109
    refine WP.cond _ (L 6 rfl rfl) rfl (fun c110 => ?_) (fun c110 => ?_)
    ·have h111 := ifT c110 h109
     refine WP.ureg rfl ?_
     refine U.p rfl rfl (.inl rfl) (S.move rfl (L 5 rfl rfl)) ?_
     refine U.p rfl rfl (.inl rfl) (S.add rfl (L 0 rfl rfl) K) ?_
     refine U.p rfl rfl (.inl rfl) (S.assign rfl (L 0 rfl rfl)) ?_
     refine U.done (Nat.le_of_ble_eq_true rfl) ?_
     refine sqN ?_
     exact ⟨_, V106, rfl, ⟨w64 ((w64 ((w64 (2 * x4)) + 1)) + 1), rfl, le107, ow108, h111⟩, (allCons (L 3 rfl rfl) (allCons (L 4 rfl rfl) (allCons (L 5 rfl rfl) (allCons (L 6 rfl rfl) (allCons (L 7 rfl rfl) (allCons (L 0 rfl rfl) allNil))))))⟩
    ·have h112 := ifF c110 h109
     refine WP.skip ?_
     refine sqN ?_
     exact ⟨_, V106, rfl, ⟨w64 ((w64 (2 * x4)) + 1), rfl, le107, ow108, h112⟩, (allCons (L 0 rfl rfl) (allCons (L 1 rfl rfl) (allCons (L 2 rfl rfl) (allCons (L 3 rfl rfl) (allCons (L 4 rfl rfl) (allCons (L 5 rfl rfl) allNil))))))⟩
   ·skip
    refine WP.udreg rfl rfl rfl ?_
    refine U.p rfl rfl (.inl rfl) (S.move rfl (L 3 rfl rfl)) ?_
    refine U.p rfl rfl (.inl rfl) (S.add rfl (L 0 rfl rfl) K) ?_
    refine U.p rfl rfl (.inl rfl) (S.move rfl (L 10 rfl rfl)) ?_
    refine U.p rfl rfl (.inl rfl) (S.lss rfl (L 1 rfl rfl) (L 0 rfl rfl)) ?_
    refine U.p rfl rfl (.inl rfl) (S.move rfl (L 0 rfl rfl)) ?_
    refine bcase (b := decide ((w64 ((w64 ((w64 (2 * x4)) + 1)) + 1)) < p2)) (fun g113 => ?_) (fun g113 => ?_)
    ·have h114 := ifT g113 h19
     refine U.p rfl rfl (.inr ⟨_, _, _, rfl, rfl, ((L 0 rfl rfl).trans (congrArg Value.bool g113))⟩) (S.move rfl (L 15 rfl rfl)) ?_
     refine U.p rfl rfl (.inr ⟨_, _, _, rfl, rfl, ((L 1 rfl rfl).trans (congrArg Value.bool g113))⟩) (S.move rfl (L 13 rfl rfl)) ?_
     refine U.p rfl rfl (.inr ⟨_, _, _, rfl, rfl, ((L 2 rfl rfl).trans (congrArg Value.bool g113))⟩) (S.move rfl (L 16 rfl rfl)) ?_
     refine U.p rfl rfl (.inr ⟨_, _, _, rfl, rfl, ((L 3 rfl rfl).trans (congrArg Value.bool g113))⟩) (S.move rfl (L 11 rfl rfl)) ?_
     refine U.p rfl rfl (.inr ⟨_, _, _, rfl, rfl, ((L 4 rfl rfl).trans (congrArg Value.bool g113))⟩) (S.add rfl (L 1 rfl rfl) (L 0 rfl rfl)) ?_
     obtain ⟨x115, hx116, h117⟩ := bindS h114
     obtain ⟨b118, o119, n120, c121, hv122⟩ := ow9.ospt (k := 0) rfl hx116
     obtain ⟨_, hv123, _⟩ := ow9.osel (k := 0) rfl hv122 hx116
     refine U.p rfl rfl (.inr ⟨_, _, _, rfl, rfl, ((L 5 rfl rfl).trans (congrArg Value.bool g113))⟩) (S.index rfl ((L 3 rfl rfl).trans hv123) (L 0 rfl rfl) Try.underlying38 ti45 (ix_ge hx116) (ix_lt hx116)) ?_
     obtain ⟨cs124, hv125, hlt126, hr127, hc128⟩ := ow9.osel (k := 0) rfl hv122 hx116
     obtain rfl : cs124 = [.int .i64 x115.e.t, .int .i64 x115.e.act.kind, .int .i64 x115.e.act.at_, .int .i64 x115.e.act.val, .int .i64 x115.e.act.what, .bool x115.e.act.volatile, .bool x115.e.act.final, .int .i64 x115.e.rf, .int .i64 x115.e.id, .int .i64 x115.at_] := hr127
     refine U.k rfl rfl (.inr ⟨_, _, _, rfl, rfl, ((L 6 rfl rfl).trans (congrArg Value.bool g113))⟩) (S.loadN (cs := [.int .i64 x115.e.t, .int .i64 x115.e.act.kind, .int .i64 x115.e.act.at_, .int .i64 x115.e.act.val, .int .i64 x115.e.act.what, .bool x115.e.act.volatile, .bool x115.e.act.final, .int .i64 x115.e.rf, .int .i64 x115.e.id, .int .i64 x115.at_]) rfl (L 0 rfl rfl) Try.underlying45 rfl ti45 rfl hc128) (fun _ => (okH.nil (fun r h => by cases h; exact hlt126))) ?_
     refine U.p rfl rfl (.inr ⟨_, _, _, rfl, rfl, ((L 7 rfl rfl).trans (congrArg Value.bool g113))⟩) (S.move rfl (L 19 rfl rfl)) ?_
     refine U.p rfl rfl (.inr ⟨_, _, _, rfl, rfl, ((L 8 rfl rfl).trans (congrArg Value.bool g113))⟩) (S.move rfl (L 22 rfl rfl)) ?_
     refine U.p rfl rfl (.inr ⟨_, _, _, rfl, rfl, ((L 9 rfl rfl).trans (congrArg Value.bool g113))⟩) (S.move rfl (L 17 rfl rfl)) ?_
     refine U.p rfl rfl (.inr ⟨_, _, _, rfl, rfl, ((L 10 rfl rfl).trans (congrArg Value.bool g113))⟩) (S.add rfl (L 1 rfl rfl) (L 0 rfl rfl)) ?_
     refine U.p rfl rfl (.inr ⟨_, _, _, rfl, rfl, ((L 11 rfl rfl).trans (congrArg Value.bool g113))⟩) (S.add rfl (L 0 rfl rfl) K) ?_
     obtain ⟨x129, hx130, h131⟩ := bindS h117
     obtain ⟨_, hv132, _⟩ := ow9.osel (k := 0) rfl hv122 hx130
     refine U.p rfl rfl (.inr ⟨_, _, _, rfl, rfl, ((L 12 rfl rfl).trans (congrArg Value.bool g113))⟩) (S.index rfl ((L 4 rfl rfl).trans hv132) (L 0 rfl rfl) Try.underlying38 ti45 (ix_ge hx130) (ix_lt hx130)) ?_
     obtain ⟨cs133, hv134, hlt135, hr136, hc137⟩ := ow9.osel (k := 0) rfl hv122 hx130
     obtain rfl : cs133 = [.int .i64 x129.e.t, .int .i64 x129.e.act.kind, .int .i64 x129.e.act.at_, .int .i64 x129.e.act.val, .int .i64 x129.e.act.what, .bool x129.e.act.volatile, .bool x129.e.act.final, .int .i64 x129.e.rf, .int .i64 x129.e.id, .int .i64 x129.at_] := hr136
     refine U.k rfl rfl (.inr ⟨_, _, _, rfl, rfl, ((L 13 rfl rfl).trans (congrArg Value.bool g113))⟩) (S.loadN (cs := [.int .i64 x129.e.t, .int .i64 x129.e.act.kind, .int .i64 x129.e.act.at_, .int .i64 x129.e.act.val, .int .i64 x129.e.act.what, .bool x129.e.act.volatile, .bool x129.e.act.final, .int .i64 x129.e.rf, .int .i64 x129.e.id, .int .i64 x129.at_]) rfl (L 0 rfl rfl) Try.underlying45 rfl ti45 rfl hc137) (fun _ => (okH.cons trivial (okH.nil (fun r h => by cases h; exact hlt135)))) ?_
     obtain ⟨x138, hx139, h140⟩ := bindS h131
     refine O.callv (V := V7) rfl rfl (.inr ⟨_, _, _, rfl, rfl, ((L 14 rfl rfl).trans (congrArg Value.bool g113))⟩) rfl (L 13 rfl rfl) en50 (aC (L 7 rfl rfl) (aC (L 0 rfl rfl) aN)) (wk_order_Run_Apart_c2 V7 _ x115 x129 ow9 _ hx139) (fun v141 V142 le143 hp144 => by obtain ⟨rfl, ow145⟩ := hp144; exact (fun _ => (okH.cons (Or.inl rfl) (okH.cons (Or.inl rfl) (okH.nil (fun r h => nomatch h)))))) (fun v141 V142 le143 hp144 => ?_)
     obtain ⟨rfl, ow145⟩ := hp144
     refine U.p rfl rfl (.inr ⟨_, _, _, rfl, rfl, ((L 15 rfl rfl).trans (congrArg Value.bool g113))⟩) (S.lss rfl (L 0 rfl rfl) K) ?_
     refine U.p rfl rfl (.inl rfl) (S.pickT rfl ((L 16 rfl rfl).trans (congrArg Value.bool g113)) (L 0 rfl rfl)) ?_
     refine U.done (Nat.le_of_ble_eq_true rfl) ?_
     refine sqN ?_
     exact ⟨_, V142, rfl, ⟨decide (x138 < 0), rfl, le143, ow145, h140⟩, (allCons (L 29 rfl rfl) (allCons (L 30 rfl rfl) (allCons (L 31 rfl rfl) (allCons (L 32 rfl rfl) (allCons (L 33 rfl rfl) (allCons (L 25 rfl rfl) (allCons (L 0 rfl rfl) allNil)))))))⟩
    ·have h146 := ifF g113 h19
     refine U.x rfl rfl rfl rfl ((L 0 rfl rfl).trans (congrArg Value.bool g113)) (by decide) ?_
     refine U.x rfl rfl rfl rfl ((L 1 rfl rfl).trans (congrArg Value.bool g113)) (by decide) ?_
     refine U.x rfl rfl rfl rfl ((L 2 rfl rfl).trans (congrArg Value.bool g113)) (by decide) ?_
     refine U.x rfl rfl rfl rfl ((L 3 rfl rfl).trans (congrArg Value.bool g113)) (by decide) ?_
     refine U.x rfl rfl rfl rfl ((L 4 rfl rfl).trans (congrArg Value.bool g113)) (by decide) ?_
     refine U.x rfl rfl rfl rfl ((L 5 rfl rfl).trans (congrArg Value.bool g113)) (by decide) ?_
     refine U.x rfl rfl rfl rfl ((L 6 rfl rfl).trans (congrArg Value.bool g113)) (by decide) ?_
     refine U.x rfl rfl rfl rfl ((L 7 rfl rfl).trans (congrArg Value.bool g113)) (by decide) ?_
     refine U.x rfl rfl rfl rfl ((L 8 rfl rfl).trans (congrArg Value.bool g113)) (by decide) ?_
     refine U.x rfl rfl rfl rfl ((L 9 rfl rfl).trans (congrArg Value.bool g113)) (by decide) ?_
     refine U.x rfl rfl rfl rfl ((L 10 rfl rfl).trans (congrArg Value.bool g113)) (by decide) ?_
     refine U.x rfl rfl rfl rfl ((L 11 rfl rfl).trans (congrArg Value.bool g113)) (by decide) ?_
     refine U.x rfl rfl rfl rfl ((L 12 rfl rfl).trans (congrArg Value.bool g113)) (by decide) ?_
     refine U.x rfl rfl rfl rfl ((L 13 rfl rfl).trans (congrArg Value.bool g113)) (by decide) ?_
     refine U.x rfl rfl rfl rfl ((L 14 rfl rfl).trans (congrArg Value.bool g113)) (by decide) ?_
     refine U.x rfl rfl rfl rfl ((L 15 rfl rfl).trans (congrArg Value.bool g113)) (by decide) ?_
     refine U.p rfl rfl (.inl rfl) (S.pickF rfl ((L 16 rfl rfl).trans (congrArg Value.bool g113)) K) ?_
     refine U.done (Nat.le_of_ble_eq_true rfl) ?_
     refine sqN ?_
     exact ⟨_, V7, rfl, ⟨false, rfl, (.refl _), ow9, h146⟩, (allCons (L 29 rfl rfl) (allCons (L 30 rfl rfl) (allCons (L 31 rfl rfl) (allCons (L 32 rfl rfl) (allCons (L 33 rfl rfl) (allCons (L 25 rfl rfl) (allCons (L 0 rfl rfl) allNil)))))))⟩

set_option maxHeartbeats 4000000 in
set_option maxRecDepth 10000 in
theorem wk_slices_heapSortCmpFunc (V : Vw) (Rs : List At) (p0 : List Torder_node) (p1 : Int) (p2 : Int) (v1 : Value) (ow : Ow V (.os RT_Torder_node v1 p0 :: Rs)) (r : List Torder_node) (h : slices_heapSortCmpFunc p0 p1 p2 = some r) : ∃ v V', Cl Try.prog 0 62 #[v1, .int .i64 p1, .int .i64 p2, .func (.func 50) #[] #[]] V.H v V'.H ∧ V.le V' ∧ (Ow V' (.os RT_Torder_node v1 r :: Rs)) := by
 refine Ct.of (Nat.zero_le _) Try.func62 rfl (Nat.le_of_ble_eq_true rfl) ?_
 unfold slices_heapSortCmpFunc at h
 refine WP.usreg rfl ?_
 refine U.p rfl rfl (.inl rfl) (S.move rfl (L 1 rfl rfl)) ?_
 refine U.p rfl rfl (.inl rfl) (S.assign rfl (L 0 rfl rfl)) ?_
 refine U.done (Nat.le_of_ble_eq_true rfl) ?_
 refine WP.usreg rfl ?_
 refine U.p rfl rfl (.inl rfl) (S.assign rfl K) ?_
 refine U.done (Nat.le_of_ble_eq_true rfl) ?_
 refine WP.usreg rfl ?_
 refine U.p rfl rfl (.inl rfl) (S.move rfl (L 5 rfl rfl)) ?_
 refine U.p rfl rfl (.inl rfl) (S.move rfl (L 5 rfl rfl)) ?_
 refine U.p rfl rfl (.inl rfl) (S.sub rfl (L 1 rfl rfl) (L 0 rfl rfl)) ?_
 refine U.p rfl rfl (.inl rfl) (S.assign rfl (L 0 rfl rfl)) ?_
 refine U.done (Nat.le_of_ble_eq_true rfl) ?_
 refine WP.seq ?_
 refine WP.usreg rfl ?_
 refine U.p rfl rfl (.inl rfl) (S.move rfl (L 0 rfl rfl)) ?_
 refine U.p rfl rfl (.inl rfl) (S.sub rfl (L 0 rfl rfl) K) ?_
 obtain ⟨x3, hx4, h5⟩ := bindS h
 refine U.p rfl rfl (.inl rfl) (S.quo hx4 rfl (L 0 rfl rfl) K) ?_
 refine U.p rfl rfl (.inl rfl) (S.assign rfl (L 0 rfl rfl)) ?_
 refine U.done (Nat.le_of_ble_eq_true rfl) ?_
 refine WP.blk ?_
 unfold slices_heapSortCmpFunc_l1 at h5
 obtain ⟨n9, hn8⟩ := loopO_some.1 h5
 refine WP.loopI2 (fun n l V' => ∃ (xs6 : List Torder_node) (x7 : Int), l = [(0, v1), (3, .func (.func 50) #[] #[]), (8, .int .i64 p1), (9, .int .i64 0), (10, .int .i64 (w64 (p2 - p1))), (11, .int .i64 x7)] ∧ V.le V' ∧ Ow V' (.os RT_Torder_node v1 xs6 :: Rs) ∧ itO (fun s => slices_heapSortCmpFunc_l1b p1 p2 s.1 s.2) n (xs6, x7) = some r) n9 _ ⟨p0, x3, rfl, .refl _, ow, hn8⟩ (allCons (L 11 rfl rfl) (allCons (L 14 rfl rfl) (allCons (L 9 rfl rfl) (allCons (L 8 rfl rfl) (allCons (L 4 rfl rfl) (allCons (L 0 rfl rfl) allNil)))))) ?_
 rintro _ _ V10 ⟨xs6, x7, rfl, le11, ow12, h16⟩
 obtain ⟨m13, q14, rfl, h17, e15⟩ := itS h16
 replace h17 : slices_heapSortCmpFunc_l1b p1 p2 xs6 x7 = some q14 := h17
 unfold slices_heapSortCmpFunc_l1b at h17
 refine WP.seq ?_
 refine WP.usreg rfl ?_
 refine U.p rfl rfl (.inl rfl) (S.move rfl (L 5 rfl rfl)) ?_
 refine U.p rfl rfl (.inl rfl) (S.geq rfl (L 0 rfl rfl) K) ?_
 refine U.done (Nat.le_of_ble_eq_true rfl) ?_
 refine WP.cond _ (L 0 rfl rfl) rfl (fun c18 => ?_) (fun c18 => ?_)
 ·have h19 := ifT c18 h17
  refine WP.skip ?_
  refine sqN ?_
  refine WP.seq ?_
  refine WP.blk ?_
  refine WP.ureg rfl ?_
  refine U.p rfl rfl (.inl rfl) (S.move rfl (L 2 rfl rfl)) ?_
  refine U.p rfl rfl (.inl rfl) (S.move rfl (L 8 rfl rfl)) ?_
  refine U.p rfl rfl (.inl rfl) (S.move rfl (L 8 rfl rfl)) ?_
  refine U.p rfl rfl (.inl rfl) (S.move rfl (L 7 rfl rfl)) ?_
  refine U.p rfl rfl (.inl rfl) (S.move rfl (L 7 rfl rfl)) ?_
  obtain ⟨x20, hx21, h22⟩ := bindS h19
  refine O.call (V := V10) rfl rfl (.inl rfl) rfl en71 (aC (L 4 rfl rfl) (aC (L 3 rfl rfl) (aC (L 2 rfl rfl) (aC (L 1 rfl rfl) (aC (L 0 rfl rfl) aN))))) (wk_slices_siftDownCmpFunc V10 _ xs6 x7 (w64 (p2 - p1)) p1 v1 ow12 _ hx21) (fun _ _ _ _ => nd) (fun v23 V24 le25 hp26 => ?_)
  have ow27 := hp26
  refine U.done (Nat.le_of_ble_eq_true rfl) ?_
  refine blkN (sqN ?_)
  refine WP.ureg rfl ?_
  refine U.p rfl rfl (.inl rfl) (S.move rfl (L 13 rfl rfl)) ?_
  refine U.p rfl rfl (.inl rfl) (S.sub rfl (L 0 rfl rfl) K) ?_
  refine U.p rfl rfl (.inl rfl) (S.assign rfl (L 0 rfl rfl)) ?_
  refine U.done (Nat.le_of_ble_eq_true rfl) ?_
  refine sqN ?_
  exact ⟨_, V24, rfl, ⟨m13, Nat.lt_succ_self _, x20, w64 (x7 - 1), rfl, (le11.trans le25), ow27, backS h22 e15⟩, (allCons (L 11 rfl rfl) (allCons (L 12 rfl rfl) (allCons (L 13 rfl rfl) (allCons (L 14 rfl rfl) (allCons (L 15 rfl rfl) (allCons (L 0 rfl rfl) allNil))))))⟩
 ·have h28 := ifF c18 h17
  refine WP.exit ?_
  refine sqE (sqE (blkE (sqN ?_)))
  have h29 := exitS h28 e15
  refine WP.usreg rfl ?_
  refine U.p rfl rfl (.inl rfl) (S.move rfl (L 6 rfl rfl)) ?_
  refine U.p rfl rfl (.inl rfl) (S.sub rfl (L 0 rfl rfl) K) ?_
  refine U.p rfl rfl (.inl rfl) (S.assign rfl (L 0 rfl rfl)) ?_
  refine U.done (Nat.le_of_ble_eq_true rfl) ?_
  refine WP.blk ?_
  unfold slices_heapSortCmpFunc_l2 at h29
  obtain ⟨n33, hn32⟩ := loopO_some.1 h29
  refine WP.loopI2 (fun n l V' => ∃ (xs30 : List Torder_node) (x31 : Int), l = [(0, v1), (3, .func (.func 50) #[] #[]), (8, .int .i64 p1), (9, .int .i64 0), (12, .int .i64 x31)] ∧ V10.le V' ∧ Ow V' (.os RT_Torder_node v1 xs30 :: Rs) ∧ itO (fun s => slices_heapSortCmpFunc_l2b p1 s.1 s.2) n (xs30, x31) = some r) n33 _ ⟨xs6, w64 ((w64 (p2 - p1)) - 1), rfl, .refl _, ow12, hn32⟩ (allCons (L 5 rfl rfl) (allCons (L 6 rfl rfl) (allCons (L 7 rfl rfl) (allCons (L 8 rfl rfl) (allCons (L 0 rfl rfl) allNil))))) ?_
  rintro _ _ V34 ⟨xs30, x31, rfl, le35, ow36, h40⟩
  obtain ⟨m37, q38, rfl, h41, e39⟩ := itS h40
  replace h41 : slices_heapSortCmpFunc_l2b p1 xs30 x31 = some q38 := h41
  unfold slices_heapSortCmpFunc_l2b at h41
  refine WP.seq ?_
  refine WP.usreg rfl ?_
  refine U.p rfl rfl (.inl rfl) (S.move rfl (L 4 rfl rfl)) ?_
  refine U.p rfl rfl (.inl rfl) (S.geq rfl (L 0 rfl rfl) K) ?_
  refine U.done (Nat.le_of_ble_eq_true rfl) ?_
  refine WP.cond _ (L 0 rfl rfl) rfl (fun c42 => ?_) (fun c42 => ?_)
  ·have h43 := ifT c42 h41
   refine WP.skip ?_
   refine sqN ?_
   refine WP.seq ?_
   refine WP.blk ?_
   refine WP.usdreg rfl rfl rfl ?_
   refine U.p rfl rfl (.inl rfl) (S.move rfl (L 2 rfl rfl)) ?_
   refine U.p rfl rfl (.inl rfl) (S.move rfl (L 5 rfl rfl)) ?_
   refine U.p rfl rfl (.inl rfl) (S.move rfl (L 4 rfl rfl)) ?_
   refine U.p rfl rfl (.inl rfl) (S.move rfl (L 7 rfl rfl)) ?_
   refine U.p rfl rfl (.inl rfl) (S.move rfl (L 10 rfl rfl)) ?_
   refine U.p rfl rfl (.inl rfl) (S.add rfl (L 1 rfl rfl) (L 0 rfl rfl)) ?_
   refine U.p rfl rfl (.inl rfl) (S.move rfl (L 8 rfl rfl)) ?_
   refine U.p rfl rfl (.inl rfl) (S.move rfl (L 11 rfl rfl)) ?_
   refine U.p rfl rfl (.inl rfl) (S.move rfl (L 14 rfl rfl)) ?_
   refine U.p rfl rfl (.inl rfl) (S.add rfl (L 1 rfl rfl) (L 0 rfl rfl)) ?_
   obtain ⟨x44, hx45, h46⟩ := bindS h43
   obtain ⟨b47, o48, n49, c50, hv51⟩ := ow36.ospt (k := 0) rfl hx45
   obtain ⟨_, hv52, _⟩ := ow36.osel (k := 0) rfl hv51 hx45
   refine U.p rfl rfl (.inl rfl) (S.index rfl ((L 3 rfl rfl).trans hv52) (L 0 rfl rfl) Try.underlying38 ti45 (ix_ge hx45) (ix_lt hx45)) ?_
   obtain ⟨cs53, hv54, hlt55, hr56, hc57⟩ := ow36.osel (k := 0) rfl hv51 hx45
   obtain rfl : cs53 = [.int .i64 x44.e.t, .int .i64 x44.e.act.kind, .int .i64 x44.e.act.at_, .int .i64 x44.e.act.val, .int .i64 x44.e.act.what, .bool x44.e.act.volatile, .bool x44.e.act.final, .int .i64 x44.e.rf, .int .i64 x44.e.id, .int .i64 x44.at_] := hr56
   refine U.k rfl rfl (.inl rfl) (S.loadN (cs := [.int .i64 x44.e.t, .int .i64 x44.e.act.kind, .int .i64 x44.e.act.at_, .int .i64 x44.e.act.val, .int .i64 x44.e.act.what, .bool x44.e.act.volatile, .bool x44.e.act.final, .int .i64 x44.e.rf, .int .i64 x44.e.id, .int .i64 x44.at_]) rfl (L 0 rfl rfl) Try.underlying45 rfl ti45 rfl hc57) (fun _ => (okH.nil (fun r h => by cases h; exact hlt55))) ?_
   refine U.p rfl rfl (.inl rfl) (S.move rfl (L 14 rfl rfl)) ?_
   refine U.p rfl rfl (.inl rfl) (S.move rfl (L 17 rfl rfl)) ?_
   obtain ⟨x58, hx59, h60⟩ := bindS h46
   obtain ⟨_, hv61, _⟩ := ow36.osel (k := 0) rfl hv51 hx59
   refine U.p rfl rfl (.inl rfl) (S.index rfl ((L 1 rfl rfl).trans hv61) (L 0 rfl rfl) Try.underlying38 ti45 (ix_ge hx59) (ix_lt hx59)) ?_
   obtain ⟨cs62, hv63, hlt64, hr65, hc66⟩ := ow36.osel (k := 0) rfl hv51 hx59
   obtain rfl : cs62 = [.int .i64 x58.e.t, .int .i64 x58.e.act.kind, .int .i64 x58.e.act.at_, .int .i64 x58.e.act.val, .int .i64 x58.e.act.what, .bool x58.e.act.volatile, .bool x58.e.act.final, .int .i64 x58.e.rf, .int .i64 x58.e.id, .int .i64 x58.at_] := hr65
   refine U.k rfl rfl (.inl rfl) (S.loadN (cs := [.int .i64 x58.e.t, .int .i64 x58.e.act.kind, .int .i64 x58.e.act.at_, .int .i64 x58.e.act.val, .int .i64 x58.e.act.what, .bool x58.e.act.volatile, .bool x58.e.act.final, .int .i64 x58.e.rf, .int .i64 x58.e.id, .int .i64 x58.at_]) rfl (L 0 rfl rfl) Try.underlying45 rfl ti45 rfl hc66) (fun _ => (okH.cons trivial (okH.nil (fun r h => by cases h; exact hlt64)))) ?_
   obtain ⟨x67, hx68, h69⟩ := bindS h60
   obtain ⟨_, hv70, _⟩ := ow36.osel (k := 0) rfl hv51 hx68
   refine U.p rfl rfl (.inl rfl) (S.index rfl ((L 15 rfl rfl).trans hv70) (L 14 rfl rfl) Try.underlying38 ti45 (ix_ge hx68) (ix_lt hx68)) ?_
   obtain ⟨cs71, hv72, hlt73, hr74, hc75⟩ := ow36.osel (k := 0) rfl hv51 hx68
   obtain rfl : cs71 = [.int .i64 x67.e.t, .int .i64 x67.e.act.kind, .int .i64 x67.e.act.at_, .int .i64 x67.e.act.val, .int .i64 x67.e.act.what, .bool x67.e.act.volatile, .bool x67.e.act.final, .int .i64 x67.e.rf, .int .i64 x67.e.id, .int .i64 x67.at_] := hr74
   refine O.storeE (k := 0) (R := RT_Torder_node) (j := 0) (y := x44) (cs := [.int .i64 x44.e.t, .int .i64 x44.e.act.kind, .int .i64 x44.e.act.at_, .int .i64 x44.e.act.val, .int .i64 x44.e.act.what, .bool x44.e.act.volatile, .bool x44.e.act.final, .int .i64 x44.e.rf, .int .i64 x44.e.id, .int .i64 x44.at_]) ow36 rfl hv72 rfl rfl (.inl rfl) rfl (L 0 rfl rfl) (L 5 rfl rfl) ti45 hx68 (by simp [topV]) rfl rfl rfl (full rfl) (fun H1 hs => (fun _ => (okH.cons (Or.inl rfl) (okH.cons (Or.inl rfl) (okH.nil (fun r h => nomatch h)))))) (fun V76 le77 ow78 => ?_)
   obtain ⟨x79, hx80, h81⟩ := bindS h69
   obtain ⟨_, hv82, _⟩ := ow78.osel (k := 0) rfl hv51 hx80
   refine U.p rfl rfl (.inl rfl) (S.index rfl ((L 14 rfl rfl).trans hv82) (L 11 rfl rfl) Try.underlying38 ti45 (ix_ge hx80) (ix_lt hx80)) ?_
   obtain ⟨cs83, hv84, hlt85, hr86, hc87⟩ := ow78.osel (k := 0) rfl hv51 hx80
   obtain rfl : cs83 = [.int .i64 x79.e.t, .int .i64 x79.e.act.kind, .int .i64 x79.e.act.at_, .int .i64 x79.e.act.val, .int .i64 x79.e.act.what, .bool x79.e.act.volatile, .bool x79.e.act.final, .int .i64 x79.e.rf, .int .i64 x79.e.id, .int .i64 x79.at_] := hr86
   refine O.storeE (k := 0) (R := RT_Torder_node) (j := 0) (y := x58) (cs := [.int .i64 x58.e.t, .int .i64 x58.e.act.kind, .int .i64 x58.e.act.at_, .int .i64 x58.e.act.val, .int .i64 x58.e.act.what, .bool x58.e.act.volatile, .bool x58.e.act.final, .int .i64 x58.e.rf, .int .i64 x58.e.id, .int .i64 x58.at_]) ow78 rfl hv84 rfl rfl (.inl rfl) rfl (L 0 rfl rfl) (L 2 rfl rfl) ti45 hx80 (by simp [topV]) rfl rfl rfl (full rfl) (fun H1 hs => (fun _ => (okH.cons rfl (okH.cons (Or.inl rfl) (okH.cons (Or.inl rfl) (okH.nil (fun r h => nomatch h))))))) (fun V88 le89 ow90 => ?_)
   refine U.done (Nat.le_of_ble_eq_true rfl) ?_
   refine WP.ureg rfl ?_
   refine U.p rfl rfl (.inl rfl) (S.move rfl (L 20 rfl rfl)) ?_
   refine U.p rfl rfl (.inl rfl) (S.move rfl (L 24 rfl rfl)) ?_
   refine U.p rfl rfl (.inl rfl) (S.move rfl (L 26 rfl rfl)) ?_
   refine U.p rfl rfl (.inl rfl) (S.move rfl (L 25 rfl rfl)) ?_
   refine U.p rfl rfl (.inl rfl) (S.move rfl (L 25 rfl rfl)) ?_
   obtain ⟨x91, hx92, h93⟩ := bindS h81
   refine O.call (V := V88) rfl rfl (.inl rfl) rfl en71 (aC (L 4 rfl rfl) (aC (L 3 rfl rfl) (aC (L 2 rfl rfl) (aC (L 1 rfl rfl) (aC (L 0 rfl rfl) aN))))) (wk_slices_siftDownCmpFunc V88 _ ((xs30.set (Int.toNat p1) x44).set (Int.toNat (w64 (p1 + x31))) x58) 0 x31 p1 v1 ow90 _ hx92) (fun _ _ _ _ => nd) (fun v94 V95 le96 hp97 => ?_)
   have ow98 := hp97
   refine U.done (Nat.le_of_ble_eq_true rfl) ?_
   refine blkN (sqN ?_)
   refine WP.ureg rfl ?_
   refine U.p rfl rfl (.inl rfl) (S.move rfl (L 30 rfl rfl)) ?_
   refine U.p rfl rfl (.inl rfl) (S.sub rfl (L 0 rfl rfl) K) ?_
   refine U.p rfl rfl (.inl rfl) (S.assign rfl (L 0 rfl rfl)) ?_
   refine U.done (Nat.le_of_ble_eq_true rfl) ?_
   refine sqN ?_
   exact ⟨_, V95, rfl, ⟨m37, Nat.lt_succ_self _, x91, w64 (x31 - 1), rfl, (((le35.trans le77).trans le89).trans le96), ow98, backS h93 e39⟩, (allCons (L 29 rfl rfl) (allCons (L 30 rfl rfl) (allCons (L 31 rfl rfl) (allCons (L 32 rfl rfl) (allCons (L 0 rfl rfl) allNil)))))⟩
  ·have h99 := ifF c42 h41
   refine WP.exit ?_
   refine sqE (sqE (blkE ?_))
   have h100 := exitS h99 e39
   refine fin.slots' (.inl rfl) fsN rfl ⟨V34, rfl, (le11.trans le35), ?_⟩
   have e101 := Option.some.inj h100
   subst e101
   exact ow36

set_option maxHeartbeats 4000000 in
set_option maxRecDepth 10000 in
theorem wk_slices_order2CmpFunc (V : Vw) (Rs : List At) (p0 : List Torder_node) (p1 : Int) (p2 : Int) (p3 : Int) (v1 : Value) (b3 : Nat) (z4 : Nat) (ow : Ow V (.os RT_Torder_node v1 p0 :: .pt b3 (.cells z4 [.int .i64 p3]) :: Rs)) (r : Int × Int × Int) (h : slices_order2CmpFunc p0 p1 p2 p3 = some r) : ∃ v V', Cl Try.prog 0 76 #[v1, .int .i64 p1, .int .i64 p2, .pointer (some ⟨b3, 0, none⟩), .func (.func 50) #[] #[]] V.H v V'.H ∧ V.le V' ∧ (v = .tuple #[.int .i64 r.1, .int .i64 r.2.1] ∧ Ow V' (.os RT_Torder_node v1 p0 :: .pt b3 (.cells z4 [.int .i64 r.2.2]) :: Rs)) := by
 refine Ct.of (Nat.zero_le _) Try.func76 rfl (Nat.le_of_ble_eq_true rfl) ?_
 unfold slices_order2CmpFunc at h
 refine WP.usreg rfl ?_
 refine U.p rfl rfl (.inl rfl) (S.assign rfl K) ?_
 refine U.p rfl rfl (.inl rfl) (S.assign rfl K) ?_
 refine U.done (Nat.le_of_ble_eq_true rfl) ?_
 refine WP.seq ?_
 refine WP.usdreg rfl rfl rfl ?_
 refine U.p rfl rfl (.inl rfl) (S.move rfl (L 6 rfl rfl)) ?_
 refine U.p rfl rfl (.inl rfl) (S.move rfl (L 3 rfl rfl)) ?_
 refine U.p rfl rfl (.inl rfl) (S.move rfl (L 6 rfl rfl)) ?_
 obtain ⟨x6, hx7, h8⟩ := bindS h
 obtain ⟨b9, o10, n11, c12, hv13⟩ := ow.ospt (k := 0) rfl hx7
 obtain ⟨_, hv14, _⟩ := ow.osel (k := 0) rfl hv13 hx7
 refine U.p rfl rfl (.inl rfl) (S.index rfl ((L 1 rfl rfl).trans hv14) (L 0 rfl rfl) Try.underlying38 ti45 (ix_ge hx7) (ix_lt hx7)) ?_
 obtain ⟨cs15, hv16, hlt17, hr18, hc19⟩ := ow.osel (k := 0) rfl hv13 hx7
 obtain rfl : cs15 = [.int .i64 x6.e.t, .int .i64 x6.e.act.kind, .int .i64 x6.e.act.at_, .int .i64 x6.e.act.val, .int .i64 x6.e.act.what, .bool x6.e.act.volatile, .bool x6.e.act.final, .int .i64 x6.e.rf, .int .i64 x6.e.id, .int .i64 x6.at_] := hr18
 refine U.k rfl rfl (.inl rfl) (S.loadN (cs := [.int .i64 x6.e.t, .int .i64 x6.e.act.kind, .int .i64 x6.e.act.at_, .int .i64 x6.e.act.val, .int .i64 x6.e.act.what, .bool x6.e.act.volatile, .bool x6.e.act.final, .int .i64 x6.e.rf, .int .i64 x6.e.id, .int .i64 x6.at_]) rfl (L 0 rfl rfl) Try.underlying45 rfl ti45 rfl hc19) (fun _ => (okH.nil (fun r h => by cases h; exact hlt17))) ?_
 refine U.p rfl rfl (.inl rfl) (S.move rfl (L 7 rfl rfl)) ?_
 refine U.p rfl rfl (.inl rfl) (S.move rfl (L 9 rfl rfl)) ?_
 obtain ⟨x20, hx21, h22⟩ := bindS h8
 obtain ⟨_, hv23, _⟩ := ow.osel (k := 0) rfl hv13 hx21
 refine U.p rfl rfl (.inl rfl) (S.index rfl ((L 1 rfl rfl).trans hv23) (L 0 rfl rfl) Try.underlying38 ti45 (ix_ge hx21) (ix_lt hx21)) ?_
 obtain ⟨cs24, hv25, hlt26, hr27, hc28⟩ := ow.osel (k := 0) rfl hv13 hx21
 obtain rfl : cs24 = [.int .i64 x20.e.t, .int .i64 x20.e.act.kind, .int .i64 x20.e.act.at_, .int .i64 x20.e.act.val, .int .i64 x20.e.act.what, .bool x20.e.act.volatile, .bool x20.e.act.final, .int .i64 x20.e.rf, .int .i64 x20.e.id, .int .i64 x20.at_] := hr27
 refine U.k rfl rfl (.inl rfl) (S.loadN (cs := [.int .i64 x20.e.t, .int .i64 x20.e.act.kind, .int .i64 x20.e.act.at_, .int .i64 x20.e.act.val, .int .i64 x20.e.act.what, .bool x20.e.act.volatile, .bool x20.e.act.final, .int .i64 x20.e.rf, .int .i64 x20.e.id, .int .i64 x20.at_]) rfl (L 0 rfl rfl) Try.underlying45 rfl ti45 rfl hc28) (fun _ => (okH.cons trivial (okH.nil (fun r h => by cases h; exact hlt26)))) ?_
 obtain ⟨x29, hx30, h31⟩ := bindS h22
 refine O.callv (V := V) rfl rfl (.inl rfl) rfl (L 8 rfl rfl) en50 (aC (L 4 rfl rfl) (aC (L 0 rfl rfl) aN)) (wk_order_Run_Apart_c2 V _ x6 x20 ow _ hx30) (fun v32 V33 le34 hp35 => by obtain ⟨rfl, ow36⟩ := hp35; exact (fun _ => (okH.cons (Or.inl rfl) (okH.cons (Or.inl rfl) (okH.nil (fun r h => nomatch h)))))) (fun v32 V33 le34 hp35 => ?_)
 obtain ⟨rfl, ow36⟩ := hp35
 refine U.p rfl rfl (.inl rfl) (S.lss rfl (L 0 rfl rfl) K) ?_
 refine U.done (Nat.le_of_ble_eq_true rfl) ?_
 refine WP.cond _ (L 0 rfl rfl) rfl (fun c37 => ?_) (fun c37 => ?_)
 ·have h38 := ifT c37 h31
  refine WP.usreg rfl ?_
  refine U.p rfl rfl (.inl rfl) (S.move rfl (L 16 rfl rfl)) ?_
  refine U.p rfl rfl (.inl rfl) (S.nilCheck rfl (L 0 rfl rfl)) ?_
  refine U.k rfl rfl (.inl rfl) (S.load rfl (L 0 rfl rfl) Try.underlying3 rfl ((ow36.own (k := 1) rfl).cell rfl)) nd ?_
  refine U.p rfl rfl (.inl rfl) (S.add rfl (L 0 rfl rfl) K) ?_
  refine U.p rfl rfl (.inl rfl) (S.nilCheck rfl (L 3 rfl rfl)) ?_
  refine O.store (k := 1) (cs := [.int .i64 (w64 (p3 + 1))]) (c' := [.int .i64 (w64 (p3 + 1))]) ow36 rfl rfl rfl (.inl rfl) rfl (L 0 rfl rfl) (L 1 rfl rfl) ti3 (by simp [topV]) rfl rfl (Nat.le_of_ble_eq_true rfl) rfl rfl nd (fun V39 le40 ow41 => ?_)
  refine U.done (Nat.le_of_ble_eq_true rfl) ?_
  refine WP.usreg rfl ?_
  refine U.p rfl rfl (.inl rfl) (S.move rfl (L 20 rfl rfl)) ?_
  refine U.p rfl rfl (.inl rfl) (S.move rfl (L 20 rfl rfl)) ?_
  refine U.p rfl rfl (.inl rfl) (S.assign rfl (L 1 rfl rfl)) ?_
  refine U.p rfl rfl (.inl rfl) (S.assign rfl (L 1 rfl rfl)) ?_
  refine U.done (Nat.le_of_ble_eq_true rfl) ?_
  refine WP.ret ?_
  refine sqR ?_
  refine fin.slots' (.inr rfl) (fsC (L 1 rfl rfl) (fsC (L 0 rfl rfl) fsN)) rfl ⟨V39, rfl, (le34.trans le40), ?_⟩
  have e42 := Option.some.inj h38
  subst e42
  exact ⟨rfl, ow41⟩
 ·have h43 := ifF c37 h31
  refine WP.skip ?_
  refine sqN ?_
  refine WP.usreg rfl ?_
  refine U.p rfl rfl (.inl rfl) (S.move rfl (L 14 rfl rfl)) ?_
  refine U.p rfl rfl (.inl rfl) (S.move rfl (L 16 rfl rfl)) ?_
  refine U.p rfl rfl (.inl rfl) (S.assign rfl (L 1 rfl rfl)) ?_
  refine U.p rfl rfl (.inl rfl) (S.assign rfl (L 1 rfl rfl)) ?_
  refine U.done (Nat.le_of_ble_eq_true rfl) ?_
  refine WP.ret ?_
  refine fin.slots' (.inr rfl) (fsC (L 1 rfl rfl) (fsC (L 0 rfl rfl) fsN)) rfl ⟨V33, rfl, le34, ?_⟩
  have e44 := Option.some.inj h43
  subst e44
  exact ⟨rfl, ow36⟩

set_option maxHeartbeats 4000000 in
set_option maxRecDepth 10000 in
theorem wk_slices_medianCmpFunc (V : Vw) (Rs : List At) (p0 : List Torder_node) (p1 : Int) (p2 : Int) (p3 : Int) (p4 : Int) (v1 : Value) (b3 : Nat) (z4 : Nat) (ow : Ow V (.os RT_Torder_node v1 p0 :: .pt b3 (.cells z4 [.int .i64 p4]) :: Rs)) (r : Int × Int) (h : slices_medianCmpFunc p0 p1 p2 p3 p4 = some r) : ∃ v V', Cl Try.prog 0 75 #[v1, .int .i64 p1, .int .i64 p2, .int .i64 p3, .pointer (some ⟨b3, 0, none⟩), .func (.func 50) #[] #[]] V.H v V'.H ∧ V.le V' ∧ (v = .int .i64 r.1 ∧ Ow V' (.os RT_Torder_node v1 p0 :: .pt b3 (.cells z4 [.int .i64 r.2]) :: Rs)) := by
 refine Ct.of (Nat.zero_le _) Try.func75 rfl (Nat.le_of_ble_eq_true rfl) ?_
 unfold slices_medianCmpFunc at h
 refine WP.usreg rfl ?_
 refine U.p rfl rfl (.inl rfl) (S.assign rfl K) ?_
 refine U.done (Nat.le_of_ble_eq_true rfl) ?_
 refine WP.usreg rfl ?_
 refine U.p rfl rfl (.inl rfl) (S.move rfl (L 1 rfl rfl)) ?_
 refine U.p rfl rfl (.inl rfl) (S.move rfl (L 3 rfl rfl)) ?_
 refine U.p rfl rfl (.inl rfl) (S.move rfl (L 5 rfl rfl)) ?_
 refine U.p rfl rfl (.inl rfl) (S.move rfl (L 8 rfl rfl)) ?_
 refine U.p rfl rfl (.inl rfl) (S.move rfl (L 10 rfl rfl)) ?_
 have ow6 := ow.pick 1 rfl
 have ow7 := ow6.pick 1 rfl
 obtain ⟨x8, hx9, h10⟩ := bindS h
 refine O.call (V := V) rfl rfl (.inl rfl) rfl en76 (aC (L 4 rfl rfl) (aC (L 3 rfl rfl) (aC (L 2 rfl rfl) (aC (L 1 rfl rfl) (aC (L 0 rfl rfl) aN))))) (wk_slices_order2CmpFunc V _ p0 p1 p2 p4 v1 b3 z4 ow7 _ hx9) (fun _ _ _ _ => nd) (fun v11 V12 le13 hp14 => ?_)
 obtain ⟨rfl, ow15⟩ := hp14
 refine U.p rfl rfl (.inl rfl) (S.move rfl (L 0 rfl rfl)) ?_
 refine U.p rfl rfl (.inl rfl) (S.extract rfl (L 0 rfl rfl) rfl (Nat.le_of_ble_eq_true rfl)) ?_
 refine U.p rfl rfl (.inl rfl) (S.extract rfl (L 1 rfl rfl) rfl (Nat.le_of_ble_eq_true rfl)) ?_
 refine U.p rfl rfl (.inl rfl) (S.assign rfl (L 1 rfl rfl)) ?_
 refine U.p rfl rfl (.inl rfl) (S.assign rfl (L 1 rfl rfl)) ?_
 refine U.done (Nat.le_of_ble_eq_true rfl) ?_
 refine WP.usreg rfl ?_
 refine U.p rfl rfl (.inl rfl) (S.move rfl (L 12 rfl rfl)) ?_
 refine U.p rfl rfl (.inl rfl) (S.move rfl (L 1 rfl rfl)) ?_
 refine U.p rfl rfl (.inl rfl) (S.move rfl (L 17 rfl rfl)) ?_
 refine U.p rfl rfl (.inl rfl) (S.move rfl (L 19 rfl rfl)) ?_
 refine U.p rfl rfl (.inl rfl) (S.move rfl (L 21 rfl rfl)) ?_
 have ow16 := ow15.pick 1 rfl
 have ow17 := ow16.pick 1 rfl
 obtain ⟨x18, hx19, h20⟩ := bindS h10
 refine O.call (V := V12) rfl rfl (.inl rfl) rfl en76 (aC (L 4 rfl rfl) (aC (L 3 rfl rfl) (aC (L 2 rfl rfl) (aC (L 1 rfl rfl) (aC (L 0 rfl rfl) aN))))) (wk_slices_order2CmpFunc V12 _ p0 x8.2.1 p3 x8.2.2 v1 b3 z4 ow17 _ hx19) (fun _ _ _ _ => nd) (fun v21 V22 le23 hp24 => ?_)
 obtain ⟨rfl, ow25⟩ := hp24
 refine U.p rfl rfl (.inl rfl) (S.move rfl (L 0 rfl rfl)) ?_
 refine U.p rfl rfl (.inl rfl) (S.extract rfl (L 0 rfl rfl) rfl (Nat.le_of_ble_eq_true rfl)) ?_
 refine U.p rfl rfl (.inl rfl) (S.extract rfl (L 1 rfl rfl) rfl (Nat.le_of_ble_eq_true rfl)) ?_
 refine U.p rfl rfl (.inl rfl) (S.assign rfl (L 1 rfl rfl)) ?_
 refine U.p rfl rfl (.inl rfl) (S.assign rfl (L 1 rfl rfl)) ?_
 refine U.done (Nat.le_of_ble_eq_true rfl) ?_
 refine WP.usreg rfl ?_
 refine U.p rfl rfl (.inl rfl) (S.move rfl (L 23 rfl rfl)) ?_
 refine U.p rfl rfl (.inl rfl) (S.move rfl (L 13 rfl rfl)) ?_
 refine U.p rfl rfl (.inl rfl) (S.move rfl (L 3 rfl rfl)) ?_
 refine U.p rfl rfl (.inl rfl) (S.move rfl (L 30 rfl rfl)) ?_
 refine U.p rfl rfl (.inl rfl) (S.move rfl (L 32 rfl rfl)) ?_
 have ow26 := ow25.pick 1 rfl
 have ow27 := ow26.pick 1 rfl
 obtain ⟨x28, hx29, h30⟩ := bindS h20
 refine O.call (V := V22) rfl rfl (.inl rfl) rfl en76 (aC (L 4 rfl rfl) (aC (L 3 rfl rfl) (aC (L 2 rfl rfl) (aC (L 1 rfl rfl) (aC (L 0 rfl rfl) aN))))) (wk_slices_order2CmpFunc V22 _ p0 x8.1 x18.1 x18.2.2 v1 b3 z4 ow27 _ hx29) (fun _ _ _ _ => nd) (fun v31 V32 le33 hp34 => ?_)
 obtain ⟨rfl, ow35⟩ := hp34
 refine U.p rfl rfl (.inl rfl) (S.move rfl (L 0 rfl rfl)) ?_
 refine U.p rfl rfl (.inl rfl) (S.extract rfl (L 0 rfl rfl) rfl (Nat.le_of_ble_eq_true rfl)) ?_
 refine U.p rfl rfl (.inl rfl) (S.extract rfl (L 1 rfl rfl) rfl (Nat.le_of_ble_eq_true rfl)) ?_
 refine U.p rfl rfl (.inl rfl) (S.assign rfl (L 1 rfl rfl)) ?_
 refine U.p rfl rfl (.inl rfl) (S.assign rfl (L 1 rfl rfl)) ?_
 refine U.done (Nat.le_of_ble_eq_true rfl) ?_
 refine WP.usreg rfl ?_
 refine U.p rfl rfl (.inl rfl) (S.move rfl (L 0 rfl rfl)) ?_
 refine U.p rfl rfl (.inl rfl) (S.assign rfl (L 0 rfl rfl)) ?_
 refine U.done (Nat.le_of_ble_eq_true rfl) ?_
 refine WP.ret ?_
 refine fin.slot (.inr rfl) rfl (L 0 rfl rfl) ⟨V32, rfl, ((le13.trans le23).trans le33), ?_⟩
 have e36 := Option.some.inj h30
 subst e36
 exact ⟨rfl, ow35⟩

set_option maxHeartbeats 4000000 in
set_option maxRecDepth 10000 in
theorem wk_slices_medianAdjacentCmpFunc (V : Vw) (Rs : List At) (p0 : List Torder_node) (p1 : Int) (p2 : Int) (v1 : Value) (b3 : Nat) (z4 : Nat) (ow : Ow V (.os RT_Torder_node v1 p0 :: .pt b3 (.cells z4 [.int .i64 p2]) :: Rs)) (r : Int × Int) (h : slices_medianAdjacentCmpFunc p0 p1 p2 = some r) : ∃ v V', Cl Try.prog 0 74 #[v1, .int .i64 p1, .pointer (some ⟨b3, 0, none⟩), .func (.func 50) #[] #[]] V.H v V'.H ∧ V.le V' ∧ (v = .int .i64 r.1 ∧ Ow V' (.os RT_Torder_node v1 p0 :: .pt b3 (.cells z4 [.int .i64 r.2]) :: Rs)) := by
 refine Ct.of (Nat.zero_le _) Try.func74 rfl (Nat.le_of_ble_eq_true rfl) ?_
 unfold slices_medianAdjacentCmpFunc at h
 refine WP.usreg rfl ?_
 refine U.p rfl rfl (.inl rfl) (S.assign rfl K) ?_
 refine U.done (Nat.le_of_ble_eq_true rfl) ?_
 refine WP.usreg rfl ?_
 refine U.p rfl rfl (.inl rfl) (S.move rfl (L 1 rfl rfl)) ?_
 refine U.p rfl rfl (.inl rfl) (S.move rfl (L 3 rfl rfl)) ?_
 refine U.p rfl rfl (.inl rfl) (S.sub rfl (L 0 rfl rfl) K) ?_
 refine U.p rfl rfl (.inl rfl) (S.move rfl (L 5 rfl rfl)) ?_
 refine U.p rfl rfl (.inl rfl) (S.move rfl (L 6 rfl rfl)) ?_
 refine U.p rfl rfl (.inl rfl) (S.add rfl (L 0 rfl rfl) K) ?_
 refine U.p rfl rfl (.inl rfl) (S.move rfl (L 9 rfl rfl)) ?_
 refine U.p rfl rfl (.inl rfl) (S.move rfl (L 11 rfl rfl)) ?_
 have ow6 := ow.pick 1 rfl
 have ow7 := ow6.pick 1 rfl
 obtain ⟨x8, hx9, h10⟩ := bindS h
 refine O.call (V := V) rfl rfl (.inl rfl) rfl en75 (aC (L 7 rfl rfl) (aC (L 5 rfl rfl) (aC (L 4 rfl rfl) (aC (L 2 rfl rfl) (aC (L 1 rfl rfl) (aC (L 0 rfl rfl) aN)))))) (wk_slices_medianCmpFunc V _ p0 (w64 (p1 - 1)) p1 (w64 (p1 + 1)) p2 v1 b3 z4 ow7 _ hx9) (fun _ _ _ _ => nd) (fun v11 V12 le13 hp14 => ?_)
 obtain ⟨rfl, ow15⟩ := hp14
 refine U.p rfl rfl (.inl rfl) (S.assign rfl (L 0 rfl rfl)) ?_
 refine U.done (Nat.le_of_ble_eq_true rfl) ?_
 refine WP.ret ?_
 refine fin.slot (.inr rfl) rfl (L 0 rfl rfl) ⟨V12, rfl, le13, ?_⟩
 have e16 := Option.some.inj h10
 subst e16
 exact ⟨rfl, ow15⟩

end Go.Vm.GO21
