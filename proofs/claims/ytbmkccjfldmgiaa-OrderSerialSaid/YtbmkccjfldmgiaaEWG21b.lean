/-
  What the functions compute is what the plain ones say, for all inputs at which those answer.
-/
import Derived.Test.YtbmkccjfldmgiaaEWG21
set_option linter.unusedSimpArgs false
set_option linter.unusedVariables false
namespace Go.Vm.G21
open Go Go.Proofs

set_option maxHeartbeats 4000000 in
set_option maxRecDepth 10000 in
theorem wk_order_Run_Racy (V : Vw) (Rs : List At) (p0 : List (List TEvent)) (v1 : Value) (hs2 : List Value) (ow : Ow V (.oss (RO.os RT_TEvent) v1 hs2 p0 :: Rs)) (r : Bool) (h : order_Run_Racy p0 = some r) : ∃ v V', Cl Try.prog 0 17 #[v1] V.H v V'.H ∧ V.le V' ∧ (v = .bool r ∧ Ow V' (.oss (RO.os RT_TEvent) v1 hs2 p0 :: Rs)) := by
  refine Ct.of (Nat.zero_le _) Try.func17 rfl (Nat.le_of_ble_eq_true rfl) ?_
  unfold order_Run_Racy at h
  refine WP.usreg rfl ?_
  refine U.p rfl rfl (.inl rfl) (S.assign rfl K) ?_
  refine U.done (Nat.le_of_ble_eq_true rfl) ?_
  refine WP.usreg rfl ?_
  refine U.p rfl rfl (.inl rfl) (S.move rfl (L 1 rfl rfl)) ?_
  obtain ⟨x4, hx5, h6⟩ := bindS h
  refine O.call (V := V) rfl rfl (.inl rfl) rfl en23 (aC (L 0 rfl rfl) (aC Fu aN)) (wk_order_Run_nodes V _ p0 v1 hs2 ow _ hx5) (fun _ _ _ _ => nd) (fun v7 V8 le9 hp10 => ?_)
  obtain ⟨_, rfl, ow11⟩ := hp10
  refine U.p rfl rfl (.inl rfl) (S.assign rfl (L 0 rfl rfl)) ?_
  refine U.done (Nat.le_of_ble_eq_true rfl) ?_
  refine WP.usreg rfl ?_
  refine U.p rfl rfl (.inl rfl) (S.move rfl (L 4 rfl rfl)) ?_
  refine U.p rfl rfl (.inl rfl) (S.move rfl (L 1 rfl rfl)) ?_
  have ow14 := ow11.pick 1 rfl
  obtain ⟨x15, hx16, h17⟩ := bindS h6
  refine O.call (V := V8) rfl rfl (.inl rfl) rfl en37 (aC (L 1 rfl rfl) (aC (L 0 rfl rfl) aN)) (wk_order_Run_happens V8 _ p0 x4 v1 hs2 v7 ow14 _ hx16) (fun _ _ _ _ => nd) (fun v18 V19 le20 hp21 => ?_)
  obtain ⟨_, hs24, rfl, ow22⟩ := hp21
  refine U.p rfl rfl (.inl rfl) (S.assign rfl (L 0 rfl rfl)) ?_
  refine U.done (Nat.le_of_ble_eq_true rfl) ?_
  refine WP.seq ?_
  refine WP.usreg rfl ?_
  refine U.p rfl rfl (.inl rfl) (S.move rfl (L 4 rfl rfl)) ?_
  refine U.p rfl rfl (.inl rfl) (ow22.oslen (k := 2) rfl rfl (L 0 rfl rfl) Try.underlying38) ?_
  refine U.p rfl rfl (.inl rfl) (S.move rfl K) ?_
  refine U.done (Nat.le_of_ble_eq_true rfl) ?_
  refine WP.blk ?_
  obtain ⟨V33, eV37, le34, f35, ow36⟩ := ow22.osfz (k := 2) rfl
  rw [← eV37]
  have ow39 := ow36.pick 0 rfl
  have ow40 := ow39.pick 1 rfl
  unfold order_Run_Racy_l1 at h17
  obtain ⟨n42, hn41⟩ := loopO_some.1 h17
  refine WP.loopI2 (fun n l V' => ∃ (xs26 : List Torder_node) (v27 : Value) (xs29 : List Torder_node) (v30 : Value) (x32 : Int), l = [(3, v27), (4, v18), (15, v30), (16, .int .i64 (x4.length : Int)), (17, .int .i64 x32)] ∧ V33.le V' ∧ Fz RT_Torder_node V' v27 xs26 ∧ Fz RT_Torder_node V' v30 xs29 ∧ Ow V' (.oss (RO.os RT_TEvent) v1 hs2 p0 :: .oss (RO.os RT.bool) v18 hs24 x15 :: Rs) ∧ itO (fun s => order_Run_Racy_l1b x4 x15 s.1 s.2.1 s.2.2) n (xs26, xs29, x32) = some r) n42 _ ⟨x4, v7, x4, v7, 0, rfl, .refl _, f35, f35, ow40, hn41⟩ (allCons (L 7 rfl rfl) (allCons (L 3 rfl rfl) (allCons (L 2 rfl rfl) (allCons (L 1 rfl rfl) (allCons (L 0 rfl rfl) allNil))))) ?_
  rintro _ _ V43 ⟨xs26, v27, xs29, v30, x32, rfl, le44, f28, f31, ow45, h49⟩
  obtain ⟨m46, q47, rfl, h50, e48⟩ := itS h49
  replace h50 : order_Run_Racy_l1b x4 x15 xs26 xs29 x32 = some q47 := h50
  unfold order_Run_Racy_l1b at h50
  refine WP.usreg rfl ?_
  refine U.p rfl rfl (.inl rfl) (S.lss rfl (L 4 rfl rfl) (L 3 rfl rfl)) ?_
  refine U.done (Nat.le_of_ble_eq_true rfl) ?_
  refine WP.seq ?_
  refine WP.cond _ (L 0 rfl rfl) rfl (fun c51 => ?_) (fun c51 => ?_)
  · have h52 := ifT c51 h50
    refine WP.skip ?_
    refine sqN ?_
    refine WP.seq ?_
    refine WP.blk ?_
    refine WP.usreg rfl ?_
    refine U.p rfl rfl (.inl rfl) (S.move rfl (L 5 rfl rfl)) ?_
    obtain ⟨x53, hx54, h55⟩ := bindS h52
    obtain ⟨b56, o57, c58, cs59, hv60, hf61, hr62, hc63⟩ := f31.at hx54
    obtain rfl : cs59 = [.int .i64 x53.e.t, .int .i64 x53.e.act.kind, .int .i64 x53.e.act.at_, .int .i64 x53.e.act.val, .int .i64 x53.e.act.what, .bool x53.e.act.volatile, .bool x53.e.act.final, .int .i64 x53.e.rf, .int .i64 x53.e.id, .int .i64 x53.at_] := hr62
    refine U.p rfl rfl (.inl rfl) (S.index rfl ((L 4 rfl rfl).trans hv60) (L 6 rfl rfl) Try.underlying38 ti45 (ix_ge hx54) (ix_lt hx54)) ?_
    refine U.k rfl rfl (.inl rfl) (S.loadN (cs := [.int .i64 x53.e.t, .int .i64 x53.e.act.kind, .int .i64 x53.e.act.at_, .int .i64 x53.e.act.val, .int .i64 x53.e.act.what, .bool x53.e.act.volatile, .bool x53.e.act.final, .int .i64 x53.e.rf, .int .i64 x53.e.id, .int .i64 x53.at_]) rfl (L 0 rfl rfl) Try.underlying45 rfl ti45 rfl (fun j v hj => hc63 j v hj)) nd ?_
    refine O.alloc ow45 rfl rfl (.inl rfl) rfl ti45 rfl rfl nd (fun b64 V65 le66 ow67 => ?_)
    refine U.p rfl rfl (.inl rfl) (S.assign rfl (L 3 rfl rfl)) ?_
    refine O.store (k := 0) (cs := [.int .i64 x53.e.t, .int .i64 x53.e.act.kind, .int .i64 x53.e.act.at_, .int .i64 x53.e.act.val, .int .i64 x53.e.act.what, .bool x53.e.act.volatile, .bool x53.e.act.final, .int .i64 x53.e.rf, .int .i64 x53.e.id, .int .i64 x53.at_]) (c' := [.int .i64 x53.e.t, .int .i64 x53.e.act.kind, .int .i64 x53.e.act.at_, .int .i64 x53.e.act.val, .int .i64 x53.e.act.what, .bool x53.e.act.volatile, .bool x53.e.act.final, .int .i64 x53.e.rf, .int .i64 x53.e.id, .int .i64 x53.at_]) ow67 rfl rfl rfl (.inl rfl) rfl (L 1 rfl rfl) (L 2 rfl rfl) ti45 (by simp [topV]) rfl rfl (Nat.le_of_ble_eq_true rfl) rfl rfl nd (fun V69 le70 ow71 => ?_)
    refine U.done (Nat.le_of_ble_eq_true rfl) ?_
    refine WP.usreg rfl ?_
    refine U.p rfl rfl (.inl rfl) (S.move rfl (L 6 rfl rfl)) ?_
    refine U.p rfl rfl (.inl rfl) (S.move rfl (L 1 rfl rfl)) ?_
    have f72 := f28.up (le66.trans le70)
    obtain ⟨xs73, hx74, h75⟩ := bindS h55
    refine O.subF f72 hx74 rfl rfl (.inl rfl) rfl (L 1 rfl rfl) Try.underlying38 ti45 ⟨.inl ⟨rfl, rfl⟩, .inr ⟨_, _, rfl, (L 0 rfl rfl)⟩, .inl rfl⟩ (fun v76 f78 => ?_)
    refine U.p rfl rfl (.inl rfl) (f78.1.len rfl (L 0 rfl rfl) Try.underlying38) ?_
    refine U.p rfl rfl (.inl rfl) (S.move rfl K) ?_
    refine U.done (Nat.le_of_ble_eq_true rfl) ?_
    refine WP.blk ?_
    have ow80 := ow71.pick 0 rfl
    have ow81 := ow80.pick 2 rfl
    have ow82 := ow81.pick 2 rfl
    unfold order_Run_Racy_l2 at h75
    obtain ⟨n84, hn83⟩ := loopO_some.1 h75
    refine WP.loopI2 (fun n l V' => ∃ (x79 : Int), l = [(3, v27), (4, v18), (5, .int .i64 x32), (6, .pointer (some ⟨b64, 0, none⟩)), (15, v30), (16, .int .i64 (x4.length : Int)), (17, .int .i64 x32), (24, v76), (25, .int .i64 (xs73.length : Int)), (26, .int .i64 x79)] ∧ V69.le V' ∧ Ow V' (.oss (RO.os RT_TEvent) v1 hs2 p0 :: .oss (RO.os RT.bool) v18 hs24 x15 :: .pt b64 (.cells 10 [.int .i64 x53.e.t, .int .i64 x53.e.act.kind, .int .i64 x53.e.act.at_, .int .i64 x53.e.act.val, .int .i64 x53.e.act.what, .bool x53.e.act.volatile, .bool x53.e.act.final, .int .i64 x53.e.rf, .int .i64 x53.e.id, .int .i64 x53.at_]) :: Rs) ∧ itO (fun s => order_Run_Racy_l2b x15 xs26 xs29 x32 x53 xs73 s) n x79 = some q47) n84 _ ⟨0, rfl, .refl _, ow82, hn83⟩ (allCons (L 11 rfl rfl) (allCons (L 12 rfl rfl) (allCons (L 5 rfl rfl) (allCons (L 6 rfl rfl) (allCons (L 13 rfl rfl) (allCons (L 14 rfl rfl) (allCons (L 15 rfl rfl) (allCons (L 2 rfl rfl) (allCons (L 1 rfl rfl) (allCons (L 0 rfl rfl) allNil)))))))))) ?_
    rintro _ _ V85 ⟨x79, rfl, le86, ow87, h91⟩
    obtain ⟨m88, q89, rfl, h92, e90⟩ := itS h91
    replace h92 : order_Run_Racy_l2b x15 xs26 xs29 x32 x53 xs73 x79 = some q89 := h92
    unfold order_Run_Racy_l2b at h92
    refine WP.usreg rfl ?_
    refine U.p rfl rfl (.inl rfl) (S.lss rfl (L 9 rfl rfl) (L 8 rfl rfl)) ?_
    refine U.done (Nat.le_of_ble_eq_true rfl) ?_
    refine WP.seq ?_
    refine WP.cond _ (L 0 rfl rfl) rfl (fun c93 => ?_) (fun c93 => ?_)
    · have h94 := ifT c93 h92
      refine WP.skip ?_
      refine sqN ?_
      refine WP.seq ?_
      refine WP.blk ?_
      refine WP.usreg rfl ?_
      refine U.p rfl rfl (.inl rfl) (S.move rfl (L 10 rfl rfl)) ?_
      obtain ⟨x95, hx96, h97⟩ := bindS h94
      obtain ⟨b98, o99, c100, cs101, hv102, hf103, hr104, hc105⟩ := f78.at hx96
      obtain rfl : cs101 = [.int .i64 x95.e.t, .int .i64 x95.e.act.kind, .int .i64 x95.e.act.at_, .int .i64 x95.e.act.val, .int .i64 x95.e.act.what, .bool x95.e.act.volatile, .bool x95.e.act.final, .int .i64 x95.e.rf, .int .i64 x95.e.id, .int .i64 x95.at_] := hr104
      refine U.p rfl rfl (.inl rfl) (S.index rfl ((L 9 rfl rfl).trans hv102) (L 11 rfl rfl) Try.underlying38 ti45 (ix_ge hx96) (ix_lt hx96)) ?_
      refine U.k rfl rfl (.inl rfl) (S.loadN (cs := [.int .i64 x95.e.t, .int .i64 x95.e.act.kind, .int .i64 x95.e.act.at_, .int .i64 x95.e.act.val, .int .i64 x95.e.act.what, .bool x95.e.act.volatile, .bool x95.e.act.final, .int .i64 x95.e.rf, .int .i64 x95.e.id, .int .i64 x95.at_]) rfl (L 0 rfl rfl) Try.underlying45 rfl ti45 rfl (fun j v hj => le86.cell hf103 (hc105 j v hj))) nd ?_
      refine O.alloc ow87 rfl rfl (.inl rfl) rfl ti45 rfl rfl nd (fun b106 V107 le108 ow109 => ?_)
      refine U.p rfl rfl (.inl rfl) (S.assign rfl (L 3 rfl rfl)) ?_
      refine O.store (k := 0) (cs := [.int .i64 x95.e.t, .int .i64 x95.e.act.kind, .int .i64 x95.e.act.at_, .int .i64 x95.e.act.val, .int .i64 x95.e.act.what, .bool x95.e.act.volatile, .bool x95.e.act.final, .int .i64 x95.e.rf, .int .i64 x95.e.id, .int .i64 x95.at_]) (c' := [.int .i64 x95.e.t, .int .i64 x95.e.act.kind, .int .i64 x95.e.act.at_, .int .i64 x95.e.act.val, .int .i64 x95.e.act.what, .bool x95.e.act.volatile, .bool x95.e.act.final, .int .i64 x95.e.rf, .int .i64 x95.e.id, .int .i64 x95.at_]) ow109 rfl rfl rfl (.inl rfl) rfl (L 1 rfl rfl) (L 2 rfl rfl) ti45 (by simp [topV]) rfl rfl (Nat.le_of_ble_eq_true rfl) rfl rfl nd (fun V111 le112 ow113 => ?_)
      refine U.done (Nat.le_of_ble_eq_true rfl) ?_
      refine WP.usreg rfl ?_
      refine U.p (v := .pointer (some ⟨b64, 0, none⟩)) rfl rfl (.inl rfl) (S.fieldAddr rfl (L 9 rfl rfl) Try.underlying45 rfl ti31 rfl rfl) ?_
      refine U.p (v := .pointer (some ⟨b64, 1, none⟩)) rfl rfl (.inl rfl) (S.fieldAddr rfl (L 0 rfl rfl) Try.underlying31 rfl ti29 rfl rfl) ?_
      refine U.k rfl rfl (.inl rfl) (S.loadN (cs := [.int .i64 x53.e.act.kind, .int .i64 x53.e.act.at_, .int .i64 x53.e.act.val, .int .i64 x53.e.act.what, .bool x53.e.act.volatile, .bool x53.e.act.final]) rfl (L 0 rfl rfl) Try.underlying29 rfl ti29 rfl (cellsOfOwn (ow113.own (k := 3) rfl) 1 rfl)) nd ?_
      obtain ⟨x114, hx115, h116⟩ := bindS h97
      refine O.call (V := V111) rfl rfl (.inl rfl) rfl en36 (aC (L 0 rfl rfl) aN) (wk_order_syncs V111 _ x53.e.act ow113 _ hx115) (fun _ _ _ _ => nd) (fun v117 V118 le119 hp120 => ?_)
      obtain ⟨rfl, ow121⟩ := hp120
      refine U.p rfl rfl (.inl rfl) (S.not rfl (L 0 rfl rfl)) ?_
      refine U.p rfl rfl (.inl rfl) (S.move rfl (L 0 rfl rfl)) ?_
      obtain ⟨y122, hy123, h124⟩ := bindS h116
      refine U.joinX 12 (fun e H => ∃ (u125 u126 u127 u128 u129 : Value), ∃ V' : Vw, H = V'.H ∧ V118.le V' ∧ e = [(42, .bool y122), (41, u125), (40, u126), (39, u127), (38, u128), (37, u129)] ∧ Ow V' (.pt b106 (.cells 10 [.int .i64 x95.e.t, .int .i64 x95.e.act.kind, .int .i64 x95.e.act.at_, .int .i64 x95.e.act.val, .int .i64 x95.e.act.what, .bool x95.e.act.volatile, .bool x95.e.act.final, .int .i64 x95.e.rf, .int .i64 x95.e.id, .int .i64 x95.at_]) :: .oss (RO.os RT_TEvent) v1 hs2 p0 :: .oss (RO.os RT.bool) v18 hs24 x15 :: .pt b64 (.cells 10 [.int .i64 x53.e.t, .int .i64 x53.e.act.kind, .int .i64 x53.e.act.at_, .int .i64 x53.e.act.val, .int .i64 x53.e.act.what, .bool x53.e.act.volatile, .bool x53.e.act.final, .int .i64 x53.e.rf, .int .i64 x53.e.id, .int .i64 x53.at_]) :: Rs)) ?_ ?_
      · rintro _ _ ⟨u125, u126, u127, u128, u129, V130, rfl, le131, rfl, ow132⟩
        refine U.p rfl rfl (.inl rfl) (S.assign rfl (L 0 rfl rfl)) ?_
        refine U.done (Nat.le_of_ble_eq_true rfl) ?_
        refine WP.usreg rfl ?_
        refine U.p rfl rfl (.inl rfl) (S.move rfl (L 0 rfl rfl)) ?_
        refine U.p rfl rfl (.inl rfl) (S.move rfl (L 0 rfl rfl)) ?_
        refine U.joinX 10 (fun e H => ∃ (u133 u134 u135 u136 u137 u138 u139 : Value), H = V130.H ∧ e = [(52, .bool (y122 && (decide (x53.e.t ≠ x95.e.t)))), (51, u133), (50, u134), (49, u135), (48, u136), (47, u137), (46, u138), (45, u139)]) ?_ ?_
        · rintro _ _ ⟨u133, u134, u135, u136, u137, u138, u139, rfl, rfl⟩
          refine U.p rfl rfl (.inl rfl) (S.move rfl (L 0 rfl rfl)) ?_
          refine U.joinX 21 (fun e H => ∃ (u143 u144 u145 u146 u147 u148 u149 u150 u151 : Value), H = V130.H ∧ e = [(63, .bool ((y122 && (decide (x53.e.t ≠ x95.e.t))) && (decide (x53.e.act.at_ = x95.e.act.at_)))), (62, u143), (61, u144), (60, u145), (59, u146), (58, u147), (57, u148), (56, u149), (55, u150), (54, u151)]) ?_ ?_
          · rintro _ _ ⟨u143, u144, u145, u146, u147, u148, u149, u150, u151, rfl, rfl⟩
            refine U.p rfl rfl (.inl rfl) (S.move rfl (L 0 rfl rfl)) ?_
            obtain ⟨y155, hy156, h157⟩ := bindS h124
            refine U.joinX 33 (fun e H => ∃ (u158 u159 u160 u161 u162 u163 u164 u165 u166 u167 : Value), ∃ V' : Vw, H = V'.H ∧ V130.le V' ∧ e = [(75, .bool y155), (74, u158), (73, u159), (72, u160), (71, u161), (70, u162), (69, u163), (68, u164), (67, u165), (66, u166), (65, u167)] ∧ Ow V' (.pt b106 (.cells 10 [.int .i64 x95.e.t, .int .i64 x95.e.act.kind, .int .i64 x95.e.act.at_, .int .i64 x95.e.act.val, .int .i64 x95.e.act.what, .bool x95.e.act.volatile, .bool x95.e.act.final, .int .i64 x95.e.rf, .int .i64 x95.e.id, .int .i64 x95.at_]) :: .oss (RO.os RT_TEvent) v1 hs2 p0 :: .oss (RO.os RT.bool) v18 hs24 x15 :: .pt b64 (.cells 10 [.int .i64 x53.e.t, .int .i64 x53.e.act.kind, .int .i64 x53.e.act.at_, .int .i64 x53.e.act.val, .int .i64 x53.e.act.what, .bool x53.e.act.volatile, .bool x53.e.act.final, .int .i64 x53.e.rf, .int .i64 x53.e.id, .int .i64 x53.at_]) :: Rs)) ?_ ?_
            · rintro _ _ ⟨u158, u159, u160, u161, u162, u163, u164, u165, u166, u167, V168, rfl, le169, rfl, ow170⟩
              refine U.p rfl rfl (.inl rfl) (S.move rfl (L 0 rfl rfl)) ?_
              obtain ⟨y171, hy172, h173⟩ := bindS h157
              refine U.joinX 43 (fun e H => ∃ (u174 u175 u176 u177 u178 u179 u180 u181 : Value), H = V168.H ∧ e = [(85, .bool y171), (84, u174), (83, u175), (82, u176), (81, u177), (80, u178), (79, u179), (78, u180), (77, u181)]) ?_ ?_
              · rintro _ _ ⟨u174, u175, u176, u177, u178, u179, u180, u181, rfl, rfl⟩
                refine U.p rfl rfl (.inl rfl) (S.move rfl (L 0 rfl rfl)) ?_
                obtain ⟨y185, hy186, h187⟩ := bindS h173
                refine U.joinX 53 (fun e H => ∃ (u188 u189 u190 u191 u192 u193 u194 u195 : Value), H = V168.H ∧ e = [(95, .bool y185), (94, u188), (93, u189), (92, u190), (91, u191), (90, u192), (89, u193), (88, u194), (87, u195)]) ?_ ?_
                · rintro _ _ ⟨u188, u189, u190, u191, u192, u193, u194, u195, rfl, rfl⟩
                  refine U.done (Nat.le_of_ble_eq_true rfl) ?_
                  refine WP.cond _ (L 0 rfl rfl) rfl (fun c199 => ?_) (fun c199 => ?_)
                  · have h200 := ifT c199 h187
                    refine WP.usreg rfl ?_
                    refine U.p rfl rfl (.inl rfl) (S.assign rfl K) ?_
                    refine U.done (Nat.le_of_ble_eq_true rfl) ?_
                    refine WP.ret ?_
                    refine blkR (sqR (sqR (blkR (blkR (sqR (sqR (blkR (sqR ?_))))))))
                    have h201 := exitS h200 e90
                    have h202 := exitS h201 e48
                    refine fin.slot (.inr rfl) rfl (L 0 rfl rfl) ⟨V168, rfl, (((((((((((le9.trans le20).trans le34).trans le44).trans le66).trans le70).trans le86).trans le108).trans le112).trans le119).trans le131).trans le169), ?_⟩
                    have ow203 := ow170.drop 0 rfl
                    have ow204 := ow203.drop 1 rfl
                    have ow205 := ow204.drop 1 rfl
                    have e206 := Option.some.inj h202
                    subst e206
                    exact ⟨rfl, ow205⟩
                  · have h207 := ifF c199 h187
                    refine WP.skip ?_
                    refine blkN (sqN ?_)
                    refine WP.ureg rfl ?_
                    refine U.p rfl rfl (.inl rfl) (S.add rfl (L 81 rfl rfl) K) ?_
                    refine U.p rfl rfl (.inl rfl) (S.move rfl (L 0 rfl rfl)) ?_
                    refine U.done (Nat.le_of_ble_eq_true rfl) ?_
                    refine sqN ?_
                    have ow208 := ow170.drop 0 rfl
                    exact ⟨_, V168, rfl, ⟨m88, Nat.lt_succ_self _, w64 (x79 + 1), rfl, (((((le86.trans le108).trans le112).trans le119).trans le131).trans le169), ow208, backS h207 e90⟩, (allCons (L 74 rfl rfl) (allCons (L 75 rfl rfl) (allCons (L 76 rfl rfl) (allCons (L 77 rfl rfl) (allCons (L 78 rfl rfl) (allCons (L 79 rfl rfl) (allCons (L 80 rfl rfl) (allCons (L 81 rfl rfl) (allCons (L 82 rfl rfl) (allCons (L 0 rfl rfl) allNil))))))))))⟩
                · intro kk
                  refine bcase (b := y171) (fun g209 => ?_) (fun g209 => ?_)
                  · have h210 := ifT g209 hy186
                    refine U.p rfl rfl (.inr ⟨_, _, _, rfl, rfl, ((L 0 rfl rfl).trans (congrArg Value.bool g209))⟩) (S.move rfl (L 64 rfl rfl)) ?_
                    refine U.p rfl rfl (.inr ⟨_, _, _, rfl, rfl, ((L 1 rfl rfl).trans (congrArg Value.bool g209))⟩) (S.move rfl (L 58 rfl rfl)) ?_
                    obtain ⟨x211, hx212, h213⟩ := bindS h210
                    obtain ⟨b214, o215, n216, c217, hv218⟩ := ow170.sspt (k := 2) rfl hx212
                    refine U.p rfl rfl (.inr ⟨_, _, _, rfl, rfl, ((L 2 rfl rfl).trans (congrArg Value.bool g209))⟩) (S.index rfl ((L 1 rfl rfl).trans (ow170.sslen' (k := 2) rfl hv218)) (L 0 rfl rfl) Try.underlying42 ti53 (ix_ge hx212) (ix_lt hx212)) ?_
                    obtain ⟨h219, hh220, ow221⟩ := ow170.ssopen (k := 2) rfl hx212
                    have hcl223 := ow221.shcell (k := 3) rfl hv218 hh220
                    refine U.k rfl rfl (.inr ⟨_, _, _, rfl, rfl, ((L 3 rfl rfl).trans (congrArg Value.bool g209))⟩) (S.load rfl (L 0 rfl rfl) Try.underlying53 rfl hcl223.2) nd ?_
                    refine U.p rfl rfl (.inr ⟨_, _, _, rfl, rfl, ((L 4 rfl rfl).trans (congrArg Value.bool g209))⟩) (S.move rfl (L 69 rfl rfl)) ?_
                    obtain ⟨x224, hx225, h226⟩ := bindS h213
                    obtain ⟨b227, o228, n229, c230, hv231⟩ := ow221.ospt (k := 0) rfl hx225
                    obtain ⟨_, hv232, _⟩ := ow221.osel (k := 0) rfl hv231 hx225
                    refine U.p rfl rfl (.inr ⟨_, _, _, rfl, rfl, ((L 5 rfl rfl).trans (congrArg Value.bool g209))⟩) (S.index rfl ((L 1 rfl rfl).trans hv232) (L 0 rfl rfl) Try.underlying53 ti4 (ix_ge hx225) (ix_lt hx225)) ?_
                    obtain ⟨cs233, hv234, hlt235, hr236, hc237⟩ := ow221.osel (k := 0) rfl hv231 hx225
                    obtain rfl : cs233 = [.bool x224] := hr236
                    refine U.k rfl rfl (.inr ⟨_, _, _, rfl, rfl, ((L 6 rfl rfl).trans (congrArg Value.bool g209))⟩) (S.load rfl (L 0 rfl rfl) Try.underlying4 rfl (hc237 0 _ rfl)) nd ?_
                    refine U.p rfl rfl (.inr ⟨_, _, _, rfl, rfl, ((L 7 rfl rfl).trans (congrArg Value.bool g209))⟩) (S.not rfl (L 0 rfl rfl)) ?_
                    refine U.p rfl rfl (.inl rfl) (S.pickT rfl ((L 8 rfl rfl).trans (congrArg Value.bool g209)) (L 0 rfl rfl)) ?_
                    have ow238 := ow221.ssclose' (k := 3) (j := 0) rfl rfl (by decide) hh220 hx212
                    have e239 := Option.some.inj h226
                    subst e239
                    exact kk [(95, .bool (!x224)), (94, .bool (!x224)), (93, .bool x224), (92, .pointer (some ⟨b227, o228 + Int.toNat x32 * 1, none⟩)), (91, .int .i64 x32), (90, h219), (89, .pointer (some ⟨b214, o215 + Int.toNat x79 * 1, none⟩)), (88, .int .i64 x79), (87, v18)] _ ⟨.bool (!x224), .bool x224, .pointer (some ⟨b227, o228 + Int.toNat x32 * 1, none⟩), .int .i64 x32, h219, .pointer (some ⟨b214, o215 + Int.toNat x79 * 1, none⟩), .int .i64 x79, v18, rfl, rfl⟩
                  · have h240 := ifF g209 hy186
                    refine U.x rfl rfl rfl rfl ((L 0 rfl rfl).trans (congrArg Value.bool g209)) (by decide) ?_
                    refine U.x rfl rfl rfl rfl ((L 1 rfl rfl).trans (congrArg Value.bool g209)) (by decide) ?_
                    refine U.x rfl rfl rfl rfl ((L 2 rfl rfl).trans (congrArg Value.bool g209)) (by decide) ?_
                    refine U.x rfl rfl rfl rfl ((L 3 rfl rfl).trans (congrArg Value.bool g209)) (by decide) ?_
                    refine U.x rfl rfl rfl rfl ((L 4 rfl rfl).trans (congrArg Value.bool g209)) (by decide) ?_
                    refine U.x rfl rfl rfl rfl ((L 5 rfl rfl).trans (congrArg Value.bool g209)) (by decide) ?_
                    refine U.x rfl rfl rfl rfl ((L 6 rfl rfl).trans (congrArg Value.bool g209)) (by decide) ?_
                    refine U.x rfl rfl rfl rfl ((L 7 rfl rfl).trans (congrArg Value.bool g209)) (by decide) ?_
                    refine U.p rfl rfl (.inl rfl) (S.pickF rfl ((L 8 rfl rfl).trans (congrArg Value.bool g209)) K) ?_
                    have e241 := Option.some.inj h240
                    subst e241
                    exact kk [(95, .bool false), (94, .tuple #[]), (93, .tuple #[]), (92, .tuple #[]), (91, .tuple #[]), (90, .tuple #[]), (89, .tuple #[]), (88, .tuple #[]), (87, .tuple #[])] _ ⟨.tuple #[], .tuple #[], .tuple #[], .tuple #[], .tuple #[], .tuple #[], .tuple #[], .tuple #[], rfl, rfl⟩
              · intro kk
                refine bcase (b := y155) (fun g242 => ?_) (fun g242 => ?_)
                · have h243 := ifT g242 hy172
                  refine U.p rfl rfl (.inr ⟨_, _, _, rfl, rfl, ((L 0 rfl rfl).trans (congrArg Value.bool g242))⟩) (S.move rfl (L 54 rfl rfl)) ?_
                  refine U.p rfl rfl (.inr ⟨_, _, _, rfl, rfl, ((L 1 rfl rfl).trans (congrArg Value.bool g242))⟩) (S.move rfl (L 56 rfl rfl)) ?_
                  obtain ⟨x244, hx245, h246⟩ := bindS h243
                  obtain ⟨b247, o248, n249, c250, hv251⟩ := ow170.sspt (k := 2) rfl hx245
                  refine U.p rfl rfl (.inr ⟨_, _, _, rfl, rfl, ((L 2 rfl rfl).trans (congrArg Value.bool g242))⟩) (S.index rfl ((L 1 rfl rfl).trans (ow170.sslen' (k := 2) rfl hv251)) (L 0 rfl rfl) Try.underlying42 ti53 (ix_ge hx245) (ix_lt hx245)) ?_
                  obtain ⟨h252, hh253, ow254⟩ := ow170.ssopen (k := 2) rfl hx245
                  have hcl256 := ow254.shcell (k := 3) rfl hv251 hh253
                  refine U.k rfl rfl (.inr ⟨_, _, _, rfl, rfl, ((L 3 rfl rfl).trans (congrArg Value.bool g242))⟩) (S.load rfl (L 0 rfl rfl) Try.underlying53 rfl hcl256.2) nd ?_
                  refine U.p rfl rfl (.inr ⟨_, _, _, rfl, rfl, ((L 4 rfl rfl).trans (congrArg Value.bool g242))⟩) (S.move rfl (L 51 rfl rfl)) ?_
                  obtain ⟨x257, hx258, h259⟩ := bindS h246
                  obtain ⟨b260, o261, n262, c263, hv264⟩ := ow254.ospt (k := 0) rfl hx258
                  obtain ⟨_, hv265, _⟩ := ow254.osel (k := 0) rfl hv264 hx258
                  refine U.p rfl rfl (.inr ⟨_, _, _, rfl, rfl, ((L 5 rfl rfl).trans (congrArg Value.bool g242))⟩) (S.index rfl ((L 1 rfl rfl).trans hv265) (L 0 rfl rfl) Try.underlying53 ti4 (ix_ge hx258) (ix_lt hx258)) ?_
                  obtain ⟨cs266, hv267, hlt268, hr269, hc270⟩ := ow254.osel (k := 0) rfl hv264 hx258
                  obtain rfl : cs266 = [.bool x257] := hr269
                  refine U.k rfl rfl (.inr ⟨_, _, _, rfl, rfl, ((L 6 rfl rfl).trans (congrArg Value.bool g242))⟩) (S.load rfl (L 0 rfl rfl) Try.underlying4 rfl (hc270 0 _ rfl)) nd ?_
                  refine U.p rfl rfl (.inr ⟨_, _, _, rfl, rfl, ((L 7 rfl rfl).trans (congrArg Value.bool g242))⟩) (S.not rfl (L 0 rfl rfl)) ?_
                  refine U.p rfl rfl (.inl rfl) (S.pickT rfl ((L 8 rfl rfl).trans (congrArg Value.bool g242)) (L 0 rfl rfl)) ?_
                  have ow271 := ow254.ssclose' (k := 3) (j := 0) rfl rfl (by decide) hh253 hx245
                  have e272 := Option.some.inj h259
                  subst e272
                  exact kk [(85, .bool (!x257)), (84, .bool (!x257)), (83, .bool x257), (82, .pointer (some ⟨b260, o261 + Int.toNat x79 * 1, none⟩)), (81, .int .i64 x79), (80, h252), (79, .pointer (some ⟨b247, o248 + Int.toNat x32 * 1, none⟩)), (78, .int .i64 x32), (77, v18)] _ ⟨.bool (!x257), .bool x257, .pointer (some ⟨b260, o261 + Int.toNat x79 * 1, none⟩), .int .i64 x79, h252, .pointer (some ⟨b247, o248 + Int.toNat x32 * 1, none⟩), .int .i64 x32, v18, rfl, rfl⟩
                · have h273 := ifF g242 hy172
                  refine U.x rfl rfl rfl rfl ((L 0 rfl rfl).trans (congrArg Value.bool g242)) (by decide) ?_
                  refine U.x rfl rfl rfl rfl ((L 1 rfl rfl).trans (congrArg Value.bool g242)) (by decide) ?_
                  refine U.x rfl rfl rfl rfl ((L 2 rfl rfl).trans (congrArg Value.bool g242)) (by decide) ?_
                  refine U.x rfl rfl rfl rfl ((L 3 rfl rfl).trans (congrArg Value.bool g242)) (by decide) ?_
                  refine U.x rfl rfl rfl rfl ((L 4 rfl rfl).trans (congrArg Value.bool g242)) (by decide) ?_
                  refine U.x rfl rfl rfl rfl ((L 5 rfl rfl).trans (congrArg Value.bool g242)) (by decide) ?_
                  refine U.x rfl rfl rfl rfl ((L 6 rfl rfl).trans (congrArg Value.bool g242)) (by decide) ?_
                  refine U.x rfl rfl rfl rfl ((L 7 rfl rfl).trans (congrArg Value.bool g242)) (by decide) ?_
                  refine U.p rfl rfl (.inl rfl) (S.pickF rfl ((L 8 rfl rfl).trans (congrArg Value.bool g242)) K) ?_
                  have e274 := Option.some.inj h273
                  subst e274
                  exact kk [(85, .bool false), (84, .tuple #[]), (83, .tuple #[]), (82, .tuple #[]), (81, .tuple #[]), (80, .tuple #[]), (79, .tuple #[]), (78, .tuple #[]), (77, .tuple #[])] _ ⟨.tuple #[], .tuple #[], .tuple #[], .tuple #[], .tuple #[], .tuple #[], .tuple #[], .tuple #[], rfl, rfl⟩
            · intro kk
              refine bcase (b := (y122 && (decide (x53.e.t ≠ x95.e.t))) && (decide (x53.e.act.at_ = x95.e.act.at_))) (fun g275 => ?_) (fun g275 => ?_)
              · have h276 := ifT g275 hy156
                refine U.p (v := .pointer (some ⟨b64, 0, none⟩)) rfl rfl (.inr ⟨_, _, _, rfl, rfl, ((L 0 rfl rfl).trans (congrArg Value.bool g275))⟩) (S.fieldAddr rfl (L 44 rfl rfl) Try.underlying45 rfl ti31 rfl rfl) ?_
                refine U.p (v := .pointer (some ⟨b64, 1, none⟩)) rfl rfl (.inr ⟨_, _, _, rfl, rfl, ((L 1 rfl rfl).trans (congrArg Value.bool g275))⟩) (S.fieldAddr rfl (L 0 rfl rfl) Try.underlying31 rfl ti29 rfl rfl) ?_
                refine U.k rfl rfl (.inr ⟨_, _, _, rfl, rfl, ((L 2 rfl rfl).trans (congrArg Value.bool g275))⟩) (S.loadN (cs := [.int .i64 x53.e.act.kind, .int .i64 x53.e.act.at_, .int .i64 x53.e.act.val, .int .i64 x53.e.act.what, .bool x53.e.act.volatile, .bool x53.e.act.final]) rfl (L 0 rfl rfl) Try.underlying29 rfl ti29 rfl (cellsOfOwn (ow132.own (k := 3) rfl) 1 rfl)) nd ?_
                obtain ⟨x277, hx278, h279⟩ := bindS h276
                refine O.call (V := V130) rfl rfl (.inr ⟨_, _, _, rfl, rfl, ((L 3 rfl rfl).trans (congrArg Value.bool g275))⟩) rfl en39 (aC (L 0 rfl rfl) aN) (wk_order_writes V130 _ x53.e.act ow132 _ hx278) (fun _ _ _ _ => nd) (fun v280 V281 le282 hp283 => ?_)
                obtain ⟨rfl, ow284⟩ := hp283
                refine U.p rfl rfl (.inr ⟨_, _, _, rfl, rfl, ((L 4 rfl rfl).trans (congrArg Value.bool g275))⟩) (S.move rfl (L 0 rfl rfl)) ?_
                obtain ⟨y285, hy286, h287⟩ := bindS h279
                refine U.joinX 32 (fun e H => ∃ (u288 u289 u290 u291 : Value), ∃ V' : Vw, H = V'.H ∧ V281.le V' ∧ e = [(74, .bool y285), (73, u288), (72, u289), (71, u290), (70, u291)] ∧ Ow V' (.pt b106 (.cells 10 [.int .i64 x95.e.t, .int .i64 x95.e.act.kind, .int .i64 x95.e.act.at_, .int .i64 x95.e.act.val, .int .i64 x95.e.act.what, .bool x95.e.act.volatile, .bool x95.e.act.final, .int .i64 x95.e.rf, .int .i64 x95.e.id, .int .i64 x95.at_]) :: .oss (RO.os RT_TEvent) v1 hs2 p0 :: .oss (RO.os RT.bool) v18 hs24 x15 :: .pt b64 (.cells 10 [.int .i64 x53.e.t, .int .i64 x53.e.act.kind, .int .i64 x53.e.act.at_, .int .i64 x53.e.act.val, .int .i64 x53.e.act.what, .bool x53.e.act.volatile, .bool x53.e.act.final, .int .i64 x53.e.rf, .int .i64 x53.e.id, .int .i64 x53.at_]) :: Rs)) ?_ ?_
                · rintro _ _ ⟨u288, u289, u290, u291, V292, rfl, le293, rfl, ow294⟩
                  refine U.p rfl rfl (.inl rfl) (S.pickT rfl ((L 10 rfl rfl).trans (congrArg Value.bool g275)) (L 0 rfl rfl)) ?_
                  have e295 := Option.some.inj h287
                  subst e295
                  exact kk [(75, .bool y285), (74, .bool y285), (73, u288), (72, u289), (71, u290), (70, u291), (69, .bool x277), (68, .bool x277), (67, .agg #[.int .i64 x53.e.act.kind, .int .i64 x53.e.act.at_, .int .i64 x53.e.act.val, .int .i64 x53.e.act.what, .bool x53.e.act.volatile, .bool x53.e.act.final]), (66, .pointer (some ⟨b64, 1, none⟩)), (65, .pointer (some ⟨b64, 0, none⟩))] _ ⟨.bool y285, u288, u289, u290, u291, .bool x277, .bool x277, .agg #[.int .i64 x53.e.act.kind, .int .i64 x53.e.act.at_, .int .i64 x53.e.act.val, .int .i64 x53.e.act.what, .bool x53.e.act.volatile, .bool x53.e.act.final], .pointer (some ⟨b64, 1, none⟩), .pointer (some ⟨b64, 0, none⟩), V292, rfl, (le282.trans le293), rfl, ow294⟩
                · intro kk
                  refine bcase (b := x277) (fun g296 => ?_) (fun g296 => ?_)
                  · have h297 := ifT g296 hy286
                    refine U.x rfl rfl rfl rfl ((L 0 rfl rfl).trans (congrArg Value.bool g296)) (by decide) ?_
                    refine U.x rfl rfl rfl rfl ((L 1 rfl rfl).trans (congrArg Value.bool g296)) (by decide) ?_
                    refine U.x rfl rfl rfl rfl ((L 2 rfl rfl).trans (congrArg Value.bool g296)) (by decide) ?_
                    refine U.x rfl rfl rfl rfl ((L 3 rfl rfl).trans (congrArg Value.bool g296)) (by decide) ?_
                    refine U.p rfl rfl (.inr ⟨_, _, _, rfl, rfl, ((L 9 rfl rfl).trans (congrArg Value.bool g275))⟩) (S.pickT rfl ((L 4 rfl rfl).trans (congrArg Value.bool g296)) K) ?_
                    have e298 := Option.some.inj h297
                    subst e298
                    exact kk [(74, .bool true), (73, .tuple #[]), (72, .tuple #[]), (71, .tuple #[]), (70, .tuple #[])] _ ⟨.tuple #[], .tuple #[], .tuple #[], .tuple #[], V281, rfl, (.refl _), rfl, ow284⟩
                  · have h299 := ifF g296 hy286
                    refine U.p (v := .pointer (some ⟨b106, 0, none⟩)) rfl rfl (.inr ⟨_, _, _, rfl, rfl, ((L 0 rfl rfl).trans (congrArg Value.bool g296))⟩) (S.fieldAddr rfl (L 41 rfl rfl) Try.underlying45 rfl ti31 rfl rfl) ?_
                    refine U.p (v := .pointer (some ⟨b106, 1, none⟩)) rfl rfl (.inr ⟨_, _, _, rfl, rfl, ((L 1 rfl rfl).trans (congrArg Value.bool g296))⟩) (S.fieldAddr rfl (L 0 rfl rfl) Try.underlying31 rfl ti29 rfl rfl) ?_
                    refine U.k rfl rfl (.inr ⟨_, _, _, rfl, rfl, ((L 2 rfl rfl).trans (congrArg Value.bool g296))⟩) (S.loadN (cs := [.int .i64 x95.e.act.kind, .int .i64 x95.e.act.at_, .int .i64 x95.e.act.val, .int .i64 x95.e.act.what, .bool x95.e.act.volatile, .bool x95.e.act.final]) rfl (L 0 rfl rfl) Try.underlying29 rfl ti29 rfl (cellsOfOwn (ow284.own (k := 0) rfl) 1 rfl)) nd ?_
                    obtain ⟨x300, hx301, h302⟩ := bindS h299
                    refine O.call (V := V281) rfl rfl (.inr ⟨_, _, _, rfl, rfl, ((L 3 rfl rfl).trans (congrArg Value.bool g296))⟩) rfl en39 (aC (L 0 rfl rfl) aN) (wk_order_writes V281 _ x95.e.act ow284 _ hx301) (fun _ _ _ _ => nd) (fun v303 V304 le305 hp306 => ?_)
                    obtain ⟨rfl, ow307⟩ := hp306
                    refine U.p rfl rfl (.inr ⟨_, _, _, rfl, rfl, ((L 9 rfl rfl).trans (congrArg Value.bool g275))⟩) (S.pickF rfl ((L 4 rfl rfl).trans (congrArg Value.bool g296)) (L 0 rfl rfl)) ?_
                    have e308 := Option.some.inj h302
                    subst e308
                    exact kk [(74, .bool x300), (73, .bool x300), (72, .agg #[.int .i64 x95.e.act.kind, .int .i64 x95.e.act.at_, .int .i64 x95.e.act.val, .int .i64 x95.e.act.what, .bool x95.e.act.volatile, .bool x95.e.act.final]), (71, .pointer (some ⟨b106, 1, none⟩)), (70, .pointer (some ⟨b106, 0, none⟩))] _ ⟨.bool x300, .agg #[.int .i64 x95.e.act.kind, .int .i64 x95.e.act.at_, .int .i64 x95.e.act.val, .int .i64 x95.e.act.what, .bool x95.e.act.volatile, .bool x95.e.act.final], .pointer (some ⟨b106, 1, none⟩), .pointer (some ⟨b106, 0, none⟩), V304, rfl, le305, rfl, ow307⟩
              · have h309 := ifF g275 hy156
                refine U.x rfl rfl rfl rfl ((L 0 rfl rfl).trans (congrArg Value.bool g275)) (by decide) ?_
                refine U.x rfl rfl rfl rfl ((L 1 rfl rfl).trans (congrArg Value.bool g275)) (by decide) ?_
                refine U.x rfl rfl rfl rfl ((L 2 rfl rfl).trans (congrArg Value.bool g275)) (by decide) ?_
                refine U.x rfl rfl rfl rfl ((L 3 rfl rfl).trans (congrArg Value.bool g275)) (by decide) ?_
                refine U.x rfl rfl rfl rfl ((L 4 rfl rfl).trans (congrArg Value.bool g275)) (by decide) ?_
                refine U.z rfl rfl rfl rfl (L 0 rfl rfl) ?_
                refine U.z rfl rfl rfl rfl (L 1 rfl rfl) ?_
                refine U.z rfl rfl rfl rfl (L 2 rfl rfl) ?_
                refine U.z rfl rfl rfl rfl (L 3 rfl rfl) ?_
                refine U.x rfl rfl rfl rfl ((L 9 rfl rfl).trans (congrArg Value.bool g275)) (by decide) ?_
                refine U.p rfl rfl (.inl rfl) (S.pickF rfl ((L 10 rfl rfl).trans (congrArg Value.bool g275)) K) ?_
                have e310 := Option.some.inj h309
                subst e310
                exact kk [(75, .bool false), (74, .tuple #[]), (73, .tuple #[]), (72, .tuple #[]), (71, .tuple #[]), (70, .tuple #[]), (69, .tuple #[]), (68, .tuple #[]), (67, .tuple #[]), (66, .tuple #[]), (65, .tuple #[])] _ ⟨.tuple #[], .tuple #[], .tuple #[], .tuple #[], .tuple #[], .tuple #[], .tuple #[], .tuple #[], .tuple #[], .tuple #[], V130, rfl, (.refl _), rfl, ow132⟩
          · intro kk
            refine bcase (b := y122 && (decide (x53.e.t ≠ x95.e.t))) (fun g311 => ?_) (fun g311 => ?_)
            · skip
              refine U.p (v := .pointer (some ⟨b64, 0, none⟩)) rfl rfl (.inr ⟨_, _, _, rfl, rfl, ((L 0 rfl rfl).trans (congrArg Value.bool g311))⟩) (S.fieldAddr rfl (L 33 rfl rfl) Try.underlying45 rfl ti31 rfl rfl) ?_
              refine U.p (v := .pointer (some ⟨b64, 1, none⟩)) rfl rfl (.inr ⟨_, _, _, rfl, rfl, ((L 1 rfl rfl).trans (congrArg Value.bool g311))⟩) (S.fieldAddr rfl (L 0 rfl rfl) Try.underlying31 rfl ti29 rfl rfl) ?_
              refine U.p (v := .pointer (some ⟨b64, 2, none⟩)) rfl rfl (.inr ⟨_, _, _, rfl, rfl, ((L 2 rfl rfl).trans (congrArg Value.bool g311))⟩) (S.fieldAddr rfl (L 0 rfl rfl) Try.underlying29 rfl ti3 rfl rfl) ?_
              refine U.k rfl rfl (.inr ⟨_, _, _, rfl, rfl, ((L 3 rfl rfl).trans (congrArg Value.bool g311))⟩) (S.load rfl (L 0 rfl rfl) Try.underlying3 rfl ((ow132.own (k := 3) rfl).cell rfl)) nd ?_
              refine U.p (v := .pointer (some ⟨b106, 0, none⟩)) rfl rfl (.inr ⟨_, _, _, rfl, rfl, ((L 4 rfl rfl).trans (congrArg Value.bool g311))⟩) (S.fieldAddr rfl (L 29 rfl rfl) Try.underlying45 rfl ti31 rfl rfl) ?_
              refine U.p (v := .pointer (some ⟨b106, 1, none⟩)) rfl rfl (.inr ⟨_, _, _, rfl, rfl, ((L 5 rfl rfl).trans (congrArg Value.bool g311))⟩) (S.fieldAddr rfl (L 0 rfl rfl) Try.underlying31 rfl ti29 rfl rfl) ?_
              refine U.p (v := .pointer (some ⟨b106, 2, none⟩)) rfl rfl (.inr ⟨_, _, _, rfl, rfl, ((L 6 rfl rfl).trans (congrArg Value.bool g311))⟩) (S.fieldAddr rfl (L 0 rfl rfl) Try.underlying29 rfl ti3 rfl rfl) ?_
              refine U.k rfl rfl (.inr ⟨_, _, _, rfl, rfl, ((L 7 rfl rfl).trans (congrArg Value.bool g311))⟩) (S.load rfl (L 0 rfl rfl) Try.underlying3 rfl ((ow132.own (k := 0) rfl).cell rfl)) nd ?_
              refine U.p rfl rfl (.inr ⟨_, _, _, rfl, rfl, ((L 8 rfl rfl).trans (congrArg Value.bool g311))⟩) (S.eqlI rfl (L 4 rfl rfl) (L 0 rfl rfl)) ?_
              refine U.p rfl rfl (.inl rfl) (S.pickT rfl ((L 9 rfl rfl).trans (congrArg Value.bool g311)) (L 0 rfl rfl)) ?_
              exact kk [(63, .bool (decide (x53.e.act.at_ = x95.e.act.at_))), (62, .bool (decide (x53.e.act.at_ = x95.e.act.at_))), (61, .int .i64 x95.e.act.at_), (60, .pointer (some ⟨b106, 2, none⟩)), (59, .pointer (some ⟨b106, 1, none⟩)), (58, .pointer (some ⟨b106, 0, none⟩)), (57, .int .i64 x53.e.act.at_), (56, .pointer (some ⟨b64, 2, none⟩)), (55, .pointer (some ⟨b64, 1, none⟩)), (54, .pointer (some ⟨b64, 0, none⟩))] _ ⟨.bool (decide (x53.e.act.at_ = x95.e.act.at_)), .int .i64 x95.e.act.at_, .pointer (some ⟨b106, 2, none⟩), .pointer (some ⟨b106, 1, none⟩), .pointer (some ⟨b106, 0, none⟩), .int .i64 x53.e.act.at_, .pointer (some ⟨b64, 2, none⟩), .pointer (some ⟨b64, 1, none⟩), .pointer (some ⟨b64, 0, none⟩), rfl, (by rw [g311, Bool.true_and])⟩
            · skip
              refine U.x rfl rfl rfl rfl ((L 0 rfl rfl).trans (congrArg Value.bool g311)) (by decide) ?_
              refine U.x rfl rfl rfl rfl ((L 1 rfl rfl).trans (congrArg Value.bool g311)) (by decide) ?_
              refine U.x rfl rfl rfl rfl ((L 2 rfl rfl).trans (congrArg Value.bool g311)) (by decide) ?_
              refine U.x rfl rfl rfl rfl ((L 3 rfl rfl).trans (congrArg Value.bool g311)) (by decide) ?_
              refine U.x rfl rfl rfl rfl ((L 4 rfl rfl).trans (congrArg Value.bool g311)) (by decide) ?_
              refine U.x rfl rfl rfl rfl ((L 5 rfl rfl).trans (congrArg Value.bool g311)) (by decide) ?_
              refine U.x rfl rfl rfl rfl ((L 6 rfl rfl).trans (congrArg Value.bool g311)) (by decide) ?_
              refine U.x rfl rfl rfl rfl ((L 7 rfl rfl).trans (congrArg Value.bool g311)) (by decide) ?_
              refine U.x rfl rfl rfl rfl ((L 8 rfl rfl).trans (congrArg Value.bool g311)) (by decide) ?_
              refine U.p rfl rfl (.inl rfl) (S.pickF rfl ((L 9 rfl rfl).trans (congrArg Value.bool g311)) K) ?_
              exact kk [(63, .bool false), (62, .tuple #[]), (61, .tuple #[]), (60, .tuple #[]), (59, .tuple #[]), (58, .tuple #[]), (57, .tuple #[]), (56, .tuple #[]), (55, .tuple #[]), (54, .tuple #[])] _ ⟨.tuple #[], .tuple #[], .tuple #[], .tuple #[], .tuple #[], .tuple #[], .tuple #[], .tuple #[], .tuple #[], rfl, (by rw [g311, Bool.false_and])⟩
        · intro kk
          refine bcase (b := y122) (fun g312 => ?_) (fun g312 => ?_)
          · skip
            refine U.p (v := .pointer (some ⟨b64, 0, none⟩)) rfl rfl (.inr ⟨_, _, _, rfl, rfl, ((L 0 rfl rfl).trans (congrArg Value.bool g312))⟩) (S.fieldAddr rfl (L 24 rfl rfl) Try.underlying45 rfl ti31 rfl rfl) ?_
            refine U.p (v := .pointer (some ⟨b64, 0, none⟩)) rfl rfl (.inr ⟨_, _, _, rfl, rfl, ((L 1 rfl rfl).trans (congrArg Value.bool g312))⟩) (S.fieldAddr rfl (L 0 rfl rfl) Try.underlying31 rfl ti3 rfl rfl) ?_
            refine U.k rfl rfl (.inr ⟨_, _, _, rfl, rfl, ((L 2 rfl rfl).trans (congrArg Value.bool g312))⟩) (S.load rfl (L 0 rfl rfl) Try.underlying3 rfl ((ow132.own (k := 3) rfl).cell rfl)) nd ?_
            refine U.p (v := .pointer (some ⟨b106, 0, none⟩)) rfl rfl (.inr ⟨_, _, _, rfl, rfl, ((L 3 rfl rfl).trans (congrArg Value.bool g312))⟩) (S.fieldAddr rfl (L 19 rfl rfl) Try.underlying45 rfl ti31 rfl rfl) ?_
            refine U.p (v := .pointer (some ⟨b106, 0, none⟩)) rfl rfl (.inr ⟨_, _, _, rfl, rfl, ((L 4 rfl rfl).trans (congrArg Value.bool g312))⟩) (S.fieldAddr rfl (L 0 rfl rfl) Try.underlying31 rfl ti3 rfl rfl) ?_
            refine U.k rfl rfl (.inr ⟨_, _, _, rfl, rfl, ((L 5 rfl rfl).trans (congrArg Value.bool g312))⟩) (S.load rfl (L 0 rfl rfl) Try.underlying3 rfl ((ow132.own (k := 0) rfl).cell rfl)) nd ?_
            refine U.p rfl rfl (.inr ⟨_, _, _, rfl, rfl, ((L 6 rfl rfl).trans (congrArg Value.bool g312))⟩) (S.neqI rfl (L 3 rfl rfl) (L 0 rfl rfl)) ?_
            refine U.p rfl rfl (.inl rfl) (S.pickT rfl ((L 7 rfl rfl).trans (congrArg Value.bool g312)) (L 0 rfl rfl)) ?_
            exact kk [(52, .bool (decide (x53.e.t ≠ x95.e.t))), (51, .bool (decide (x53.e.t ≠ x95.e.t))), (50, .int .i64 x95.e.t), (49, .pointer (some ⟨b106, 0, none⟩)), (48, .pointer (some ⟨b106, 0, none⟩)), (47, .int .i64 x53.e.t), (46, .pointer (some ⟨b64, 0, none⟩)), (45, .pointer (some ⟨b64, 0, none⟩))] _ ⟨.bool (decide (x53.e.t ≠ x95.e.t)), .int .i64 x95.e.t, .pointer (some ⟨b106, 0, none⟩), .pointer (some ⟨b106, 0, none⟩), .int .i64 x53.e.t, .pointer (some ⟨b64, 0, none⟩), .pointer (some ⟨b64, 0, none⟩), rfl, (by rw [g312, Bool.true_and])⟩
          · skip
            refine U.x rfl rfl rfl rfl ((L 0 rfl rfl).trans (congrArg Value.bool g312)) (by decide) ?_
            refine U.x rfl rfl rfl rfl ((L 1 rfl rfl).trans (congrArg Value.bool g312)) (by decide) ?_
            refine U.x rfl rfl rfl rfl ((L 2 rfl rfl).trans (congrArg Value.bool g312)) (by decide) ?_
            refine U.x rfl rfl rfl rfl ((L 3 rfl rfl).trans (congrArg Value.bool g312)) (by decide) ?_
            refine U.x rfl rfl rfl rfl ((L 4 rfl rfl).trans (congrArg Value.bool g312)) (by decide) ?_
            refine U.x rfl rfl rfl rfl ((L 5 rfl rfl).trans (congrArg Value.bool g312)) (by decide) ?_
            refine U.x rfl rfl rfl rfl ((L 6 rfl rfl).trans (congrArg Value.bool g312)) (by decide) ?_
            refine U.p rfl rfl (.inl rfl) (S.pickF rfl ((L 7 rfl rfl).trans (congrArg Value.bool g312)) K) ?_
            exact kk [(52, .bool false), (51, .tuple #[]), (50, .tuple #[]), (49, .tuple #[]), (48, .tuple #[]), (47, .tuple #[]), (46, .tuple #[]), (45, .tuple #[])] _ ⟨.tuple #[], .tuple #[], .tuple #[], .tuple #[], .tuple #[], .tuple #[], .tuple #[], rfl, (by rw [g312, Bool.false_and])⟩
      · intro kk
        refine bcase (b := !x114) (fun g313 => ?_) (fun g313 => ?_)
        · have h314 := ifT g313 hy123
          have k315 : x114 = false := by simpa using g313
          refine U.x rfl rfl rfl rfl ((L 0 rfl rfl).trans (congrArg Value.bool g313)) (by decide) ?_
          refine U.x rfl rfl rfl rfl ((L 1 rfl rfl).trans (congrArg Value.bool g313)) (by decide) ?_
          refine U.x rfl rfl rfl rfl ((L 2 rfl rfl).trans (congrArg Value.bool g313)) (by decide) ?_
          refine U.x rfl rfl rfl rfl ((L 3 rfl rfl).trans (congrArg Value.bool g313)) (by decide) ?_
          refine U.x rfl rfl rfl rfl ((L 4 rfl rfl).trans (congrArg Value.bool g313)) (by decide) ?_
          refine U.p rfl rfl (.inl rfl) (S.pickT rfl ((L 5 rfl rfl).trans (congrArg Value.bool g313)) K) ?_
          have e316 := Option.some.inj h314
          subst e316
          exact kk [(42, .bool true), (41, .tuple #[]), (40, .tuple #[]), (39, .tuple #[]), (38, .tuple #[]), (37, .tuple #[])] _ ⟨.tuple #[], .tuple #[], .tuple #[], .tuple #[], .tuple #[], V118, rfl, (.refl _), rfl, ow121⟩
        · have h317 := ifF g313 hy123
          have k318 : x114 = true := by simpa using g313
          refine U.p (v := .pointer (some ⟨b106, 0, none⟩)) rfl rfl (.inr ⟨_, _, _, rfl, rfl, ((L 0 rfl rfl).trans (congrArg Value.bool g313))⟩) (S.fieldAddr rfl (L 7 rfl rfl) Try.underlying45 rfl ti31 rfl rfl) ?_
          refine U.p (v := .pointer (some ⟨b106, 1, none⟩)) rfl rfl (.inr ⟨_, _, _, rfl, rfl, ((L 1 rfl rfl).trans (congrArg Value.bool g313))⟩) (S.fieldAddr rfl (L 0 rfl rfl) Try.underlying31 rfl ti29 rfl rfl) ?_
          refine U.k rfl rfl (.inr ⟨_, _, _, rfl, rfl, ((L 2 rfl rfl).trans (congrArg Value.bool g313))⟩) (S.loadN (cs := [.int .i64 x95.e.act.kind, .int .i64 x95.e.act.at_, .int .i64 x95.e.act.val, .int .i64 x95.e.act.what, .bool x95.e.act.volatile, .bool x95.e.act.final]) rfl (L 0 rfl rfl) Try.underlying29 rfl ti29 rfl (cellsOfOwn (ow121.own (k := 0) rfl) 1 rfl)) nd ?_
          obtain ⟨x319, hx320, h321⟩ := bindS h317
          refine O.call (V := V118) rfl rfl (.inr ⟨_, _, _, rfl, rfl, ((L 3 rfl rfl).trans (congrArg Value.bool g313))⟩) rfl en36 (aC (L 0 rfl rfl) aN) (wk_order_syncs V118 _ x95.e.act ow121 _ hx320) (fun _ _ _ _ => nd) (fun v322 V323 le324 hp325 => ?_)
          obtain ⟨rfl, ow326⟩ := hp325
          refine U.p rfl rfl (.inr ⟨_, _, _, rfl, rfl, ((L 4 rfl rfl).trans (congrArg Value.bool g313))⟩) (S.not rfl (L 0 rfl rfl)) ?_
          refine U.p rfl rfl (.inl rfl) (S.pickF rfl ((L 5 rfl rfl).trans (congrArg Value.bool g313)) (L 0 rfl rfl)) ?_
          have e327 := Option.some.inj h321
          subst e327
          exact kk [(42, .bool (!x319)), (41, .bool (!x319)), (40, .bool x319), (39, .agg #[.int .i64 x95.e.act.kind, .int .i64 x95.e.act.at_, .int .i64 x95.e.act.val, .int .i64 x95.e.act.what, .bool x95.e.act.volatile, .bool x95.e.act.final]), (38, .pointer (some ⟨b106, 1, none⟩)), (37, .pointer (some ⟨b106, 0, none⟩))] _ ⟨.bool (!x319), .bool x319, .agg #[.int .i64 x95.e.act.kind, .int .i64 x95.e.act.at_, .int .i64 x95.e.act.val, .int .i64 x95.e.act.what, .bool x95.e.act.volatile, .bool x95.e.act.final], .pointer (some ⟨b106, 1, none⟩), .pointer (some ⟨b106, 0, none⟩), V323, rfl, le324, rfl, ow326⟩
    · have h328 := ifF c93 h92
      refine WP.exit ?_
      refine sqE (sqE (blkE (blkN (sqN ?_))))
      have h329 := exitS h328 e90
      refine WP.ureg rfl ?_
      refine U.p rfl rfl (.inl rfl) (S.add rfl (L 7 rfl rfl) K) ?_
      refine U.p rfl rfl (.inl rfl) (S.move rfl (L 0 rfl rfl)) ?_
      refine U.done (Nat.le_of_ble_eq_true rfl) ?_
      refine sqN ?_
      have ow330 := ow87.drop 2 rfl
      have f331 := f72.up le86
      have f332 := f31.up ((le66.trans le70).trans le86)
      exact ⟨_, V85, rfl, ⟨m46, Nat.lt_succ_self _, xs26, v27, xs29, v30, w64 (x32 + 1), rfl, (((le44.trans le66).trans le70).trans le86), f331, f332, ow330, backS h329 e48⟩, (allCons (L 3 rfl rfl) (allCons (L 4 rfl rfl) (allCons (L 7 rfl rfl) (allCons (L 8 rfl rfl) (allCons (L 0 rfl rfl) allNil)))))⟩
  · have h333 := ifF c51 h50
    refine WP.exit ?_
    refine sqE (sqE (blkE (sqN ?_)))
    have h334 := exitS h333 e48
    refine WP.usreg rfl ?_
    refine U.p rfl rfl (.inl rfl) (S.assign rfl K) ?_
    refine U.done (Nat.le_of_ble_eq_true rfl) ?_
    refine WP.ret ?_
    refine fin.slot (.inr rfl) rfl (L 0 rfl rfl) ⟨V43, rfl, (((le9.trans le20).trans le34).trans le44), ?_⟩
    have ow335 := ow45.drop 1 rfl
    have e336 := Option.some.inj h334
    subst e336
    exact ⟨rfl, ow335⟩

set_option maxHeartbeats 4000000 in
set_option maxRecDepth 10000 in
theorem wk_law21_alive (V : Vw) (Rs : List At) (ow : Ow V (Rs)) (r : Bool) (h : law21_alive = some r) : ∃ v V', Cl Try.prog 0 8 #[] V.H v V'.H ∧ V.le V' ∧ (v = .bool r ∧ Ow V' (Rs)) := by
  refine Ct.of (Nat.zero_le _) Try.func8 rfl (Nat.le_of_ble_eq_true rfl) ?_
  unfold law21_alive at h
  refine WP.usreg rfl ?_
  refine U.p rfl rfl (.inl rfl) (S.assign rfl K) ?_
  refine U.done (Nat.le_of_ble_eq_true rfl) ?_
  refine WP.usreg rfl ?_
  obtain ⟨x1, hx2, h3⟩ := bindS h
  refine O.call (V := V) rfl rfl (.inl rfl) rfl en21 (aC K (aC K (aC K aN))) (wk_law21_w V _ 0 8 1 ow _ hx2) (fun _ _ _ _ => nd) (fun v4 V5 le6 hp7 => ?_)
  obtain ⟨rfl, ow8⟩ := hp7
  obtain ⟨x9, hx10, h11⟩ := bindS h3
  refine O.call (V := V5) rfl rfl (.inl rfl) rfl en22 (aC K (aC K (aC K aN))) (wk_law21_r V5 _ 0 16 0 ow8 _ hx10) (fun _ _ _ _ => nd) (fun v12 V13 le14 hp15 => ?_)
  obtain ⟨rfl, ow16⟩ := hp15
  refine O.lit (R := RT_TEvent) ow16 rfl rfl (.inl rfl) rfl Try.underlying27 ti31 rfl rfl rfl (Nat.le_of_ble_eq_true rfl) rfl (aC (L 1 rfl rfl) (aC (L 0 rfl rfl) aN)) (.cons _ _ x1 _ (by simp [topV]) rfl (.cons _ _ x9 _ (by simp [topV]) rfl .nil)) (fun _ => nd) (fun v17 V18 le19 ow20 => ?_)
  obtain ⟨x22, hx23, h24⟩ := bindS h11
  refine O.call (V := V18) rfl rfl (.inl rfl) rfl en21 (aC K (aC K (aC K aN))) (wk_law21_w V18 _ 1 16 2 ow20 _ hx23) (fun _ _ _ _ => nd) (fun v25 V26 le27 hp28 => ?_)
  obtain ⟨rfl, ow29⟩ := hp28
  obtain ⟨x30, hx31, h32⟩ := bindS h24
  refine O.call (V := V26) rfl rfl (.inl rfl) rfl en22 (aC K (aC K (aC K aN))) (wk_law21_r V26 _ 1 8 0 ow29 _ hx31) (fun _ _ _ _ => nd) (fun v33 V34 le35 hp36 => ?_)
  obtain ⟨rfl, ow37⟩ := hp36
  refine O.lit (R := RT_TEvent) ow37 rfl rfl (.inl rfl) rfl Try.underlying27 ti31 rfl rfl rfl (Nat.le_of_ble_eq_true rfl) rfl (aC (L 1 rfl rfl) (aC (L 0 rfl rfl) aN)) (.cons _ _ x22 _ (by simp [topV]) rfl (.cons _ _ x30 _ (by simp [topV]) rfl .nil)) (fun _ => nd) (fun v38 V39 le40 ow41 => ?_)
  have ow43 := ow41.pick 1 rfl
  refine O.litS (RI := (RO.os RT_TEvent)) (Bs := [.os RT_TEvent v17 [x1, x9], .os RT_TEvent v38 [x22, x30]]) (As := Rs) (us := ([v17, v38] : List Value)) (ys := [[x1, x9], [x22, x30]]) ow43 rfl rfl (.inl rfl) rfl Try.underlying25 ti27 rfl rfl (Nat.le_of_ble_eq_true rfl) rfl (aC (L 3 rfl rfl) (aC (L 0 rfl rfl) aN)) (fun p hp => all2 hp) (fun _ => nd) (fun v44 V45 le46 ow47 => ?_)
  refine U.p rfl rfl (.inl rfl) (S.assign rfl (L 0 rfl rfl)) ?_
  refine U.done (Nat.le_of_ble_eq_true rfl) ?_
  refine WP.usreg rfl ?_
  refine U.p rfl rfl (.inl rfl) (S.move rfl (L 0 rfl rfl)) ?_
  obtain ⟨x49, hx50, h51⟩ := bindS h32
  refine O.call (V := V45) rfl rfl (.inl rfl) rfl en14 (aC (L 0 rfl rfl) aN) (wk_order_Run_Serial V45 _ ([[x1, x9], [x22, x30]]) v44 ([v17, v38] : List Value) ow47 _ hx50) (fun _ _ _ _ => nd) (fun v52 V53 le54 hp55 => ?_)
  obtain ⟨rfl, ow56⟩ := hp55
  refine U.p rfl rfl (.inl rfl) (S.not rfl (L 0 rfl rfl)) ?_
  refine U.p rfl rfl (.inl rfl) (S.move rfl (L 0 rfl rfl)) ?_
  obtain ⟨y57, hy58, h59⟩ := bindS h51
  refine U.joinX 7 (fun e H => ∃ (u60 u61 : Value), ∃ V' : Vw, H = V'.H ∧ V53.le V' ∧ e = [(15, .bool y57), (14, u60), (13, u61)] ∧ Ow V' (.oss (RO.os RT_TEvent) v44 ([v17, v38] : List Value) ([[x1, x9], [x22, x30]]) :: Rs)) ?_ ?_
  · rintro _ _ ⟨u60, u61, V62, rfl, le63, rfl, ow64⟩
    refine U.p rfl rfl (.inl rfl) (S.move rfl (L 0 rfl rfl)) ?_
    obtain ⟨y65, hy66, h67⟩ := bindS h59
    refine U.joinX 11 (fun e H => ∃ (u68 u69 : Value), ∃ V' : Vw, H = V'.H ∧ V62.le V' ∧ e = [(19, .bool y65), (18, u68), (17, u69)] ∧ Ow V' (.oss (RO.os RT_TEvent) v44 ([v17, v38] : List Value) ([[x1, x9], [x22, x30]]) :: Rs)) ?_ ?_
    · rintro _ _ ⟨u68, u69, V70, rfl, le71, rfl, ow72⟩
      refine U.p rfl rfl (.inl rfl) (S.assign rfl (L 0 rfl rfl)) ?_
      refine U.done (Nat.le_of_ble_eq_true rfl) ?_
      refine WP.ret ?_
      refine fin.slot (.inr rfl) rfl (L 0 rfl rfl) ⟨V70, rfl, (((((((((le6.trans le14).trans le19).trans le27).trans le35).trans le40).trans le46).trans le54).trans le63).trans le71), ?_⟩
      have ow73 := ow72.drop 0 rfl
      have e74 := Option.some.inj h67
      subst e74
      exact ⟨rfl, ow73⟩
    · intro kk
      refine bcase (b := y57) (fun g75 => ?_) (fun g75 => ?_)
      · have h76 := ifT g75 hy66
        refine U.p rfl rfl (.inr ⟨_, _, _, rfl, rfl, ((L 0 rfl rfl).trans (congrArg Value.bool g75))⟩) (S.move rfl (L 8 rfl rfl)) ?_
        obtain ⟨x77, hx78, h79⟩ := bindS h76
        refine O.call (V := V62) rfl rfl (.inr ⟨_, _, _, rfl, rfl, ((L 1 rfl rfl).trans (congrArg Value.bool g75))⟩) rfl en17 (aC (L 0 rfl rfl) aN) (wk_order_Run_Racy V62 _ ([[x1, x9], [x22, x30]]) v44 ([v17, v38] : List Value) ow64 _ hx78) (fun _ _ _ _ => nd) (fun v80 V81 le82 hp83 => ?_)
        obtain ⟨rfl, ow84⟩ := hp83
        refine U.p rfl rfl (.inl rfl) (S.pickT rfl ((L 2 rfl rfl).trans (congrArg Value.bool g75)) (L 0 rfl rfl)) ?_
        have e85 := Option.some.inj h79
        subst e85
        exact kk [(19, .bool x77), (18, .bool x77), (17, v44)] _ ⟨.bool x77, v44, V81, rfl, le82, rfl, ow84⟩
      · have h86 := ifF g75 hy66
        refine U.x rfl rfl rfl rfl ((L 0 rfl rfl).trans (congrArg Value.bool g75)) (by decide) ?_
        refine U.x rfl rfl rfl rfl ((L 1 rfl rfl).trans (congrArg Value.bool g75)) (by decide) ?_
        refine U.p rfl rfl (.inl rfl) (S.pickF rfl ((L 2 rfl rfl).trans (congrArg Value.bool g75)) K) ?_
        have e87 := Option.some.inj h86
        subst e87
        exact kk [(19, .bool false), (18, .tuple #[]), (17, .tuple #[])] _ ⟨.tuple #[], .tuple #[], V62, rfl, (.refl _), rfl, ow64⟩
  · intro kk
    refine bcase (b := !x49) (fun g88 => ?_) (fun g88 => ?_)
    · have h89 := ifT g88 hy58
      have k90 : x49 = false := by simpa using g88
      refine U.p rfl rfl (.inr ⟨_, _, _, rfl, rfl, ((L 0 rfl rfl).trans (congrArg Value.bool g88))⟩) (S.move rfl (L 4 rfl rfl)) ?_
      obtain ⟨x91, hx92, h93⟩ := bindS h89
      refine O.call (V := V53) rfl rfl (.inr ⟨_, _, _, rfl, rfl, ((L 1 rfl rfl).trans (congrArg Value.bool g88))⟩) rfl en11 (aC (L 0 rfl rfl) aN) (wk_order_Run_Coherent V53 _ ([[x1, x9], [x22, x30]]) v44 ([v17, v38] : List Value) ow56 _ hx92) (fun _ _ _ _ => nd) (fun v94 V95 le96 hp97 => ?_)
      obtain ⟨rfl, ow98⟩ := hp97
      refine U.p rfl rfl (.inl rfl) (S.pickT rfl ((L 2 rfl rfl).trans (congrArg Value.bool g88)) (L 0 rfl rfl)) ?_
      have e99 := Option.some.inj h93
      subst e99
      exact kk [(15, .bool x91), (14, .bool x91), (13, v44)] _ ⟨.bool x91, v44, V95, rfl, le96, rfl, ow98⟩
    · have h100 := ifF g88 hy58
      have k101 : x49 = true := by simpa using g88
      refine U.x rfl rfl rfl rfl ((L 0 rfl rfl).trans (congrArg Value.bool g88)) (by decide) ?_
      refine U.x rfl rfl rfl rfl ((L 1 rfl rfl).trans (congrArg Value.bool g88)) (by decide) ?_
      refine U.p rfl rfl (.inl rfl) (S.pickF rfl ((L 2 rfl rfl).trans (congrArg Value.bool g88)) K) ?_
      have e102 := Option.some.inj h100
      subst e102
      exact kk [(15, .bool false), (14, .tuple #[]), (13, .tuple #[])] _ ⟨.tuple #[], .tuple #[], V53, rfl, (.refl _), rfl, ow56⟩

set_option maxHeartbeats 4000000 in
set_option maxRecDepth 10000 in
theorem wk_law21_great (V : Vw) (Rs : List At) (p0 : List (List TEvent)) (v1 : Value) (f2 : Fz (RT.sl RT_TEvent) V v1 p0) (ow : Ow V (Rs)) (r : Bool) (h : law21_great p0 = some r) : ∃ v V', Cl Try.prog 0 9 #[v1] V.H v V'.H ∧ V.le V' ∧ (v = .bool r ∧ Ow V' (Rs)) := by
  refine Ct.of (Nat.zero_le _) Try.func9 rfl (Nat.le_of_ble_eq_true rfl) ?_
  unfold law21_great at h
  refine WP.usreg rfl ?_
  refine U.p rfl rfl (.inl rfl) (S.assign rfl K) ?_
  refine U.done (Nat.le_of_ble_eq_true rfl) ?_
  refine WP.usreg rfl ?_
  refine U.p rfl rfl (.inl rfl) (S.assign rfl K) ?_
  refine U.done (Nat.le_of_ble_eq_true rfl) ?_
  refine WP.seq ?_
  refine WP.usreg rfl ?_
  refine U.p rfl rfl (.inl rfl) (S.move rfl (L 2 rfl rfl)) ?_
  refine U.p rfl rfl (.inl rfl) (f2.1.len rfl (L 0 rfl rfl) Try.underlying22) ?_
  refine U.p rfl rfl (.inl rfl) (S.move rfl K) ?_
  refine U.done (Nat.le_of_ble_eq_true rfl) ?_
  refine WP.blk ?_
  unfold law21_great_l1 at h
  obtain ⟨n6, hn5⟩ := loopO_some.1 h
  refine WP.loopI2 (fun n l V' => ∃ (x3 : Int) (x4 : Int), l = [(0, v1), (3, .int .i64 x3), (6, v1), (7, .int .i64 (p0.length : Int)), (8, .int .i64 x4)] ∧ V.le V' ∧ Ow V' (Rs) ∧ itO (fun s => law21_great_l1b p0 s.1 s.2) n (x3, x4) = some r) n6 _ ⟨0, 0, rfl, .refl _, ow, hn5⟩ (allCons (L 5 rfl rfl) (allCons (L 3 rfl rfl) (allCons (L 2 rfl rfl) (allCons (L 1 rfl rfl) (allCons (L 0 rfl rfl) allNil))))) ?_
  rintro _ _ V7 ⟨x3, x4, rfl, le8, ow9, h13⟩
  obtain ⟨m10, q11, rfl, h14, e12⟩ := itS h13
  replace h14 : law21_great_l1b p0 x3 x4 = some q11 := h14
  unfold law21_great_l1b at h14
  refine WP.usreg rfl ?_
  refine U.p rfl rfl (.inl rfl) (S.lss rfl (L 4 rfl rfl) (L 3 rfl rfl)) ?_
  refine U.done (Nat.le_of_ble_eq_true rfl) ?_
  refine WP.seq ?_
  refine WP.cond _ (L 0 rfl rfl) rfl (fun c15 => ?_) (fun c15 => ?_)
  · have h16 := ifT c15 h14
    refine WP.skip ?_
    refine sqN ?_
    refine WP.seq ?_
    refine WP.blk ?_
    refine WP.usreg rfl ?_
    obtain ⟨x17, hx18, h19⟩ := bindS h16
    obtain ⟨b20, o21, c22, cs23, hv24, hf25, hr26, hc27⟩ := f2.at hx18
    obtain ⟨v28, rfl, f29⟩ := hr26
    refine U.p rfl rfl (.inl rfl) (S.index rfl ((L 3 rfl rfl).trans hv24) (L 5 rfl rfl) Try.underlying22 ti27 (ix_ge hx18) (ix_lt hx18)) ?_
    refine U.k rfl rfl (.inl rfl) (S.load rfl (L 0 rfl rfl) Try.underlying27 rfl (le8.cell hf25 (hc27 0 _ rfl))) nd ?_
    refine U.p rfl rfl (.inl rfl) (S.assign rfl (L 0 rfl rfl)) ?_
    refine U.done (Nat.le_of_ble_eq_true rfl) ?_
    refine WP.ureg rfl ?_
    refine U.p rfl rfl (.inl rfl) (S.move rfl (L 5 rfl rfl)) ?_
    refine U.p rfl rfl (.inl rfl) (S.move rfl (L 1 rfl rfl)) ?_
    refine U.p rfl rfl (.inl rfl) (f29.1.len rfl (L 0 rfl rfl) Try.underlying27) ?_
    refine U.p rfl rfl (.inl rfl) (S.add rfl (L 2 rfl rfl) (L 0 rfl rfl)) ?_
    refine U.p rfl rfl (.inl rfl) (S.assign rfl (L 0 rfl rfl)) ?_
    refine U.done (Nat.le_of_ble_eq_true rfl) ?_
    refine blkN (sqN ?_)
    refine WP.ureg rfl ?_
    refine U.p rfl rfl (.inl rfl) (S.add rfl (L 13 rfl rfl) K) ?_
    refine U.p rfl rfl (.inl rfl) (S.move rfl (L 0 rfl rfl)) ?_
    refine U.done (Nat.le_of_ble_eq_true rfl) ?_
    refine sqN ?_
    exact ⟨_, V7, rfl, ⟨m10, Nat.lt_succ_self _, w64 (x3 + (x17.length : Int)), w64 (x4 + 1), rfl, le8, ow9, backS h19 e12⟩, (allCons (L 11 rfl rfl) (allCons (L 2 rfl rfl) (allCons (L 13 rfl rfl) (allCons (L 14 rfl rfl) (allCons (L 0 rfl rfl) allNil)))))⟩
  · have h30 := ifF c15 h14
    refine WP.exit ?_
    refine sqE (sqE (blkE (sqN ?_)))
    have h31 := exitS h30 e12
    refine WP.usreg rfl ?_
    refine U.p rfl rfl (.inl rfl) (S.move rfl (L 1 rfl rfl)) ?_
    refine U.p rfl rfl (.inl rfl) (f2.1.len rfl (L 0 rfl rfl) Try.underlying22) ?_
    refine U.p rfl rfl (.inl rfl) (S.gtr rfl (L 0 rfl rfl) K) ?_
    refine U.p rfl rfl (.inl rfl) (S.move rfl (L 0 rfl rfl)) ?_
    refine U.joinX 7 (fun e H => ∃ (u32 u33 : Value), H = V7.H ∧ e = [(23, .bool ((decide (5 < (p0.length : Int))) || (decide (24 < x3)))), (22, u32), (21, u33)]) ?_ ?_
    · rintro _ _ ⟨u32, u33, rfl, rfl⟩
      refine U.p rfl rfl (.inl rfl) (S.assign rfl (L 0 rfl rfl)) ?_
      refine U.done (Nat.le_of_ble_eq_true rfl) ?_
      refine WP.ret ?_
      refine fin.slot (.inr rfl) rfl (L 0 rfl rfl) ⟨V7, rfl, le8, ?_⟩
      have e37 := Option.some.inj h31
      subst e37
      exact ⟨rfl, ow9⟩
    · intro kk
      refine bcase (b := decide (5 < (p0.length : Int))) (fun g38 => ?_) (fun g38 => ?_)
      · skip
        refine U.x rfl rfl rfl rfl ((L 0 rfl rfl).trans (congrArg Value.bool g38)) (by decide) ?_
        refine U.x rfl rfl rfl rfl ((L 1 rfl rfl).trans (congrArg Value.bool g38)) (by decide) ?_
        refine U.p rfl rfl (.inl rfl) (S.pickT rfl ((L 2 rfl rfl).trans (congrArg Value.bool g38)) K) ?_
        exact kk [(23, .bool true), (22, .tuple #[]), (21, .tuple #[])] _ ⟨.tuple #[], .tuple #[], rfl, (by rw [g38, Bool.true_or])⟩
      · skip
        refine U.p rfl rfl (.inr ⟨_, _, _, rfl, rfl, ((L 0 rfl rfl).trans (congrArg Value.bool g38))⟩) (S.move rfl (L 6 rfl rfl)) ?_
        refine U.p rfl rfl (.inr ⟨_, _, _, rfl, rfl, ((L 1 rfl rfl).trans (congrArg Value.bool g38))⟩) (S.gtr rfl (L 0 rfl rfl) K) ?_
        refine U.p rfl rfl (.inl rfl) (S.pickF rfl ((L 2 rfl rfl).trans (congrArg Value.bool g38)) (L 0 rfl rfl)) ?_
        exact kk [(23, .bool (decide (24 < x3))), (22, .bool (decide (24 < x3))), (21, .int .i64 x3)] _ ⟨.bool (decide (24 < x3)), .int .i64 x3, rfl, (by rw [g38, Bool.false_or])⟩

set_option maxHeartbeats 4000000 in
set_option maxRecDepth 10000 in
theorem wk_ref21_Good (V : Vw) (Rs : List At) (p0 : List (List TEvent)) (v1 : Value) (f2 : Fz (RT.sl RT_TEvent) V v1 p0) (ow : Ow V (Rs)) (r : Bool) (h : ref21_Good p0 = some r) : ∃ v V', Cl Try.prog 0 10 #[v1] V.H v V'.H ∧ V.le V' ∧ (v = .bool r ∧ Ow V' (Rs)) := by
  refine Ct.of (Nat.zero_le _) Try.func10 rfl (Nat.le_of_ble_eq_true rfl) ?_
  unfold ref21_Good at h
  refine WP.usreg rfl ?_
  refine U.p rfl rfl (.inl rfl) (S.assign rfl K) ?_
  refine U.done (Nat.le_of_ble_eq_true rfl) ?_
  refine WP.usreg rfl ?_
  refine O.makeMap RT.bool false ow rfl rfl (.inl rfl) rfl (fun _ => nd) (fun v3 V4 le5 ow6 => ?_)
  refine U.p rfl rfl (.inl rfl) (S.assign rfl (L 0 rfl rfl)) ?_
  refine U.done (Nat.le_of_ble_eq_true rfl) ?_
  refine WP.seq ?_
  refine WP.usreg rfl ?_
  refine U.p rfl rfl (.inl rfl) (S.move rfl (L 3 rfl rfl)) ?_
  refine U.p rfl rfl (.inl rfl) (f2.1.len rfl (L 0 rfl rfl) Try.underlying22) ?_
  refine U.p rfl rfl (.inl rfl) (S.move rfl K) ?_
  refine U.done (Nat.le_of_ble_eq_true rfl) ?_
  refine WP.blk ?_
  unfold ref21_Good_l1 at h
  obtain ⟨n11, hn10⟩ := loopO_some.1 h
  refine WP.loopI2 (fun n l V' => ∃ (xs8 : List (Int × Bool)) (x9 : Int), l = [(3, v3), (9, v1), (10, .int .i64 (p0.length : Int)), (11, .int .i64 x9)] ∧ V4.le V' ∧ Ow V' (.om RT.bool false v3 xs8 :: Rs) ∧ itO (fun s => ref21_Good_l1b p0 s.1 s.2) n (xs8, x9) = some r) n11 _ ⟨[], 0, rfl, .refl _, ow6, hn10⟩ (allCons (L 3 rfl rfl) (allCons (L 2 rfl rfl) (allCons (L 1 rfl rfl) (allCons (L 0 rfl rfl) allNil)))) ?_
  rintro _ _ V12 ⟨xs8, x9, rfl, le13, ow14, h18⟩
  obtain ⟨m15, q16, rfl, h19, e17⟩ := itS h18
  replace h19 : ref21_Good_l1b p0 xs8 x9 = some q16 := h19
  unfold ref21_Good_l1b at h19
  refine WP.usreg rfl ?_
  refine U.p rfl rfl (.inl rfl) (S.lss rfl (L 3 rfl rfl) (L 2 rfl rfl)) ?_
  refine U.done (Nat.le_of_ble_eq_true rfl) ?_
  refine WP.seq ?_
  refine WP.cond _ (L 0 rfl rfl) rfl (fun c20 => ?_) (fun c20 => ?_)
  · have h21 := ifT c20 h19
    refine WP.skip ?_
    refine sqN ?_
    refine WP.seq ?_
    refine WP.blk ?_
    refine WP.usreg rfl ?_
    refine U.p rfl rfl (.inl rfl) (S.move rfl (L 4 rfl rfl)) ?_
    obtain ⟨x22, hx23, h24⟩ := bindS h21
    obtain ⟨b25, o26, c27, cs28, hv29, hf30, hr31, hc32⟩ := f2.at hx23
    obtain ⟨v33, rfl, f34⟩ := hr31
    refine U.p rfl rfl (.inl rfl) (S.index rfl ((L 3 rfl rfl).trans hv29) (L 5 rfl rfl) Try.underlying22 ti27 (ix_ge hx23) (ix_lt hx23)) ?_
    refine U.k rfl rfl (.inl rfl) (S.load rfl (L 0 rfl rfl) Try.underlying27 rfl ((le5.trans le13).cell hf30 (hc32 0 _ rfl))) nd ?_
    refine U.p rfl rfl (.inl rfl) (S.assign rfl (L 2 rfl rfl)) ?_
    refine U.p rfl rfl (.inl rfl) (S.assign rfl (L 1 rfl rfl)) ?_
    refine U.done (Nat.le_of_ble_eq_true rfl) ?_
    refine WP.usreg rfl ?_
    refine U.p rfl rfl (.inl rfl) (S.move rfl (L 0 rfl rfl)) ?_
    refine U.p rfl rfl (.inl rfl) (f34.1.len rfl (L 0 rfl rfl) Try.underlying27) ?_
    refine U.p rfl rfl (.inl rfl) (S.move rfl K) ?_
    refine U.done (Nat.le_of_ble_eq_true rfl) ?_
    refine WP.blk ?_
    unfold ref21_Good_l2 at h24
    obtain ⟨n38, hn37⟩ := loopO_some.1 h24
    refine WP.loopI2 (fun n l V' => ∃ (xs35 : List (Int × Bool)) (x36 : Int), l = [(3, v3), (4, .int .i64 x9), (9, v1), (10, .int .i64 (p0.length : Int)), (11, .int .i64 x9), (16, v33), (17, .int .i64 (x22.length : Int)), (18, .int .i64 x36)] ∧ V12.le V' ∧ Ow V' (.om RT.bool false v3 xs35 :: Rs) ∧ itO (fun s => ref21_Good_l2b x9 x22 s.1 s.2) n (xs35, x36) = some q16) n38 _ ⟨xs8, 0, rfl, .refl _, ow14, hn37⟩ (allCons (L 9 rfl rfl) (allCons (L 4 rfl rfl) (allCons (L 10 rfl rfl) (allCons (L 11 rfl rfl) (allCons (L 12 rfl rfl) (allCons (L 2 rfl rfl) (allCons (L 1 rfl rfl) (allCons (L 0 rfl rfl) allNil)))))))) ?_
    rintro _ _ V39 ⟨xs35, x36, rfl, le40, ow41, h45⟩
    obtain ⟨m42, q43, rfl, h46, e44⟩ := itS h45
    replace h46 : ref21_Good_l2b x9 x22 xs35 x36 = some q43 := h46
    unfold ref21_Good_l2b at h46
    refine WP.usreg rfl ?_
    refine U.p rfl rfl (.inl rfl) (S.lss rfl (L 7 rfl rfl) (L 6 rfl rfl)) ?_
    refine U.done (Nat.le_of_ble_eq_true rfl) ?_
    refine WP.seq ?_
    refine WP.cond _ (L 0 rfl rfl) rfl (fun c47 => ?_) (fun c47 => ?_)
    · have h48 := ifT c47 h46
      refine WP.skip ?_
      refine sqN ?_
      refine WP.seq ?_
      refine WP.blk ?_
      refine WP.usreg rfl ?_
      obtain ⟨x49, hx50, h51⟩ := bindS h48
      obtain ⟨b52, o53, c54, cs55, hv56, hf57, hr58, hc59⟩ := f34.at hx50
      obtain rfl : cs55 = [.int .i64 x49.t, .int .i64 x49.act.kind, .int .i64 x49.act.at_, .int .i64 x49.act.val, .int .i64 x49.act.what, .bool x49.act.volatile, .bool x49.act.final, .int .i64 x49.rf, .int .i64 x49.id] := hr58
      refine U.p rfl rfl (.inl rfl) (S.index rfl ((L 6 rfl rfl).trans hv56) (L 8 rfl rfl) Try.underlying27 ti31 (ix_ge hx50) (ix_lt hx50)) ?_
      refine U.k rfl rfl (.inl rfl) (S.loadN (cs := [.int .i64 x49.t, .int .i64 x49.act.kind, .int .i64 x49.act.at_, .int .i64 x49.act.val, .int .i64 x49.act.what, .bool x49.act.volatile, .bool x49.act.final, .int .i64 x49.rf, .int .i64 x49.id]) rfl (L 0 rfl rfl) Try.underlying31 rfl ti31 rfl (fun j v hj => ((le5.trans le13).trans le40).cell hf57 (hc59 j v hj))) nd ?_
      refine O.alloc ow41 rfl rfl (.inl rfl) rfl ti31 rfl rfl nd (fun b60 V61 le62 ow63 => ?_)
      refine O.store (k := 0) (cs := [.int .i64 x49.t, .int .i64 x49.act.kind, .int .i64 x49.act.at_, .int .i64 x49.act.val, .int .i64 x49.act.what, .bool x49.act.volatile, .bool x49.act.final, .int .i64 x49.rf, .int .i64 x49.id]) (c' := [.int .i64 x49.t, .int .i64 x49.act.kind, .int .i64 x49.act.at_, .int .i64 x49.act.val, .int .i64 x49.act.what, .bool x49.act.volatile, .bool x49.act.final, .int .i64 x49.rf, .int .i64 x49.id]) ow63 rfl rfl rfl (.inl rfl) rfl (L 0 rfl rfl) (L 1 rfl rfl) ti31 (by simp [topV]) rfl rfl (Nat.le_of_ble_eq_true rfl) rfl rfl nd (fun V65 le66 ow67 => ?_)
      refine U.done (Nat.le_of_ble_eq_true rfl) ?_
      refine WP.seq ?_
      refine WP.usreg rfl ?_
      refine U.p (v := .pointer (some ⟨b60, 0, none⟩)) rfl rfl (.inl rfl) (S.fieldAddr rfl (L 0 rfl rfl) Try.underlying31 rfl ti3 rfl rfl) ?_
      refine U.k rfl rfl (.inl rfl) (S.load rfl (L 0 rfl rfl) Try.underlying3 rfl ((ow67.own (k := 0) rfl).cell rfl)) nd ?_
      refine U.p rfl rfl (.inl rfl) (S.move rfl (L 7 rfl rfl)) ?_
      refine U.p rfl rfl (.inl rfl) (S.neqI rfl (L 1 rfl rfl) (L 0 rfl rfl)) ?_
      refine U.p rfl rfl (.inl rfl) (S.move rfl (L 0 rfl rfl)) ?_
      refine U.joinX 9 (fun e H => ∃ (u68 u69 u70 : Value), H = V65.H ∧ e = [(30, .bool ((decide (x49.t ≠ x9)) || (decide (x49.rf < 0)))), (29, u68), (28, u69), (27, u70)]) ?_ ?_
      · rintro _ _ ⟨u68, u69, u70, rfl, rfl⟩
        refine U.p rfl rfl (.inl rfl) (S.move rfl (L 0 rfl rfl)) ?_
        refine U.joinX 14 (fun e H => ∃ (u74 u75 u76 : Value), H = V65.H ∧ e = [(35, .bool (((decide (x49.t ≠ x9)) || (decide (x49.rf < 0))) || (decide (x49.id < 0)))), (34, u74), (33, u75), (32, u76)]) ?_ ?_
        · rintro _ _ ⟨u74, u75, u76, rfl, rfl⟩
          refine U.done (Nat.le_of_ble_eq_true rfl) ?_
          refine WP.cond _ (L 0 rfl rfl) rfl (fun c80 => ?_) (fun c80 => ?_)
          · have h81 := ifT c80 h51
            refine WP.usreg rfl ?_
            refine U.p rfl rfl (.inl rfl) (S.assign rfl K) ?_
            refine U.done (Nat.le_of_ble_eq_true rfl) ?_
            refine WP.ret ?_
            refine sqR (blkR (sqR (sqR (blkR (blkR (sqR (sqR (blkR (sqR ?_)))))))))
            have h82 := exitS h81 e44
            have h83 := exitS h82 e17
            refine fin.slot (.inr rfl) rfl (L 0 rfl rfl) ⟨V65, rfl, ((((le5.trans le13).trans le40).trans le62).trans le66), ?_⟩
            have ow84 := ow67.drop 0 rfl
            have ow85 := ow84.drop 0 rfl
            have e86 := Option.some.inj h83
            subst e86
            exact ⟨rfl, ow85⟩
          · have h87 := ifF c80 h51
            refine WP.skip ?_
            refine sqN ?_
            refine WP.seq ?_
            refine WP.usreg rfl ?_
            refine U.p (v := .pointer (some ⟨b60, 8, none⟩)) rfl rfl (.inl rfl) (S.fieldAddr rfl (L 14 rfl rfl) Try.underlying31 rfl ti3 rfl rfl) ?_
            refine U.k rfl rfl (.inl rfl) (S.load rfl (L 0 rfl rfl) Try.underlying3 rfl ((ow67.own (k := 0) rfl).cell rfl)) nd ?_
            refine U.p rfl rfl (.inl rfl) (S.gtr rfl (L 0 rfl rfl) K) ?_
            refine U.p rfl rfl (.inl rfl) (S.move rfl (L 0 rfl rfl)) ?_
            refine U.joinX 9 (fun e H => ∃ (u88 u89 u90 u91 : Value), H = V65.H ∧ e = [(44, .bool ((decide (0 < x49.id)) && ((mG xs35 x49.id).getD false))), (43, u88), (42, u89), (41, u90), (40, u91)]) ?_ ?_
            · rintro _ _ ⟨u88, u89, u90, u91, rfl, rfl⟩
              refine U.done (Nat.le_of_ble_eq_true rfl) ?_
              refine WP.cond _ (L 0 rfl rfl) rfl (fun c95 => ?_) (fun c95 => ?_)
              · have h96 := ifT c95 h87
                refine WP.usreg rfl ?_
                refine U.p rfl rfl (.inl rfl) (S.assign rfl K) ?_
                refine U.done (Nat.le_of_ble_eq_true rfl) ?_
                refine WP.ret ?_
                refine sqR (blkR (sqR (sqR (blkR (blkR (sqR (sqR (blkR (sqR ?_)))))))))
                have h97 := exitS h96 e44
                have h98 := exitS h97 e17
                refine fin.slot (.inr rfl) rfl (L 0 rfl rfl) ⟨V65, rfl, ((((le5.trans le13).trans le40).trans le62).trans le66), ?_⟩
                have ow99 := ow67.drop 0 rfl
                have ow100 := ow99.drop 0 rfl
                have e101 := Option.some.inj h98
                subst e101
                exact ⟨rfl, ow100⟩
              · have h102 := ifF c95 h87
                refine WP.skip ?_
                refine sqN ?_
                refine WP.ureg rfl ?_
                refine U.p rfl rfl (.inl rfl) (S.move rfl (L 27 rfl rfl)) ?_
                refine U.p (v := .pointer (some ⟨b60, 8, none⟩)) rfl rfl (.inl rfl) (S.fieldAddr rfl (L 24 rfl rfl) Try.underlying31 rfl ti3 rfl rfl) ?_
                refine U.k rfl rfl (.inl rfl) (S.load rfl (L 0 rfl rfl) Try.underlying3 rfl ((ow67.own (k := 0) rfl).cell rfl)) nd ?_
                refine O.mapUpdate (k := 1) (w := true) ow67 rfl rfl rfl (.inl rfl) rfl (L 2 rfl rfl) (L 0 rfl rfl) K Try.underlying37 Try.underlying3 (cell_vrel rfl) (fun _ _ => nd) (fun V103 le104 ow105 => ?_)
                refine U.done (Nat.le_of_ble_eq_true rfl) ?_
                refine blkN (sqN ?_)
                refine WP.ureg rfl ?_
                refine U.p rfl rfl (.inl rfl) (S.add rfl (L 37 rfl rfl) K) ?_
                refine U.p rfl rfl (.inl rfl) (S.move rfl (L 0 rfl rfl)) ?_
                refine U.done (Nat.le_of_ble_eq_true rfl) ?_
                refine sqN ?_
                have ow106 := ow105.drop 0 rfl
                exact ⟨_, V103, rfl, ⟨m42, Nat.lt_succ_self _, mS xs35 x49.id true, w64 (x36 + 1), rfl, (((le40.trans le62).trans le66).trans le104), ow106, backS h102 e44⟩, (allCons (L 32 rfl rfl) (allCons (L 33 rfl rfl) (allCons (L 34 rfl rfl) (allCons (L 35 rfl rfl) (allCons (L 36 rfl rfl) (allCons (L 37 rfl rfl) (allCons (L 38 rfl rfl) (allCons (L 0 rfl rfl) allNil))))))))⟩
            · intro kk
              refine bcase (b := decide (0 < x49.id)) (fun g107 => ?_) (fun g107 => ?_)
              · skip
                refine U.p rfl rfl (.inr ⟨_, _, _, rfl, rfl, ((L 0 rfl rfl).trans (congrArg Value.bool g107))⟩) (S.move rfl (L 22 rfl rfl)) ?_
                refine U.p (v := .pointer (some ⟨b60, 8, none⟩)) rfl rfl (.inr ⟨_, _, _, rfl, rfl, ((L 1 rfl rfl).trans (congrArg Value.bool g107))⟩) (S.fieldAddr rfl (L 19 rfl rfl) Try.underlying31 rfl ti3 rfl rfl) ?_
                refine U.k rfl rfl (.inr ⟨_, _, _, rfl, rfl, ((L 2 rfl rfl).trans (congrArg Value.bool g107))⟩) (S.load rfl (L 0 rfl rfl) Try.underlying3 rfl ((ow67.own (k := 0) rfl).cell rfl)) nd ?_
                refine O.lookup1 (k := 1) false ow67 rfl rfl rfl (.inr ⟨_, _, _, rfl, rfl, ((L 3 rfl rfl).trans (congrArg Value.bool g107))⟩) rfl (L 2 rfl rfl) (L 0 rfl rfl) Try.underlying37 Try.underlying3 ti4 rfl (cell_vrel rfl) (fun b108 hlt110 => nd) (fun b108 u109 hlt110 hr111 => ?_)
                obtain rfl : u109 = .bool ((mG xs35 x49.id).getD false) := (List.cons.inj (vrel_cell hr111)).1
                refine U.p rfl rfl (.inl rfl) (S.pickT rfl ((L 4 rfl rfl).trans (congrArg Value.bool g107)) (L 0 rfl rfl)) ?_
                exact kk [(44, .bool ((mG xs35 x49.id).getD false)), (43, .bool ((mG xs35 x49.id).getD false)), (42, .int .i64 x49.id), (41, .pointer (some ⟨b60, 8, none⟩)), (40, v3)] _ ⟨.bool ((mG xs35 x49.id).getD false), .int .i64 x49.id, .pointer (some ⟨b60, 8, none⟩), v3, rfl, (by rw [g107, Bool.true_and])⟩
              · skip
                refine U.x rfl rfl rfl rfl ((L 0 rfl rfl).trans (congrArg Value.bool g107)) (by decide) ?_
                refine U.x rfl rfl rfl rfl ((L 1 rfl rfl).trans (congrArg Value.bool g107)) (by decide) ?_
                refine U.x rfl rfl rfl rfl ((L 2 rfl rfl).trans (congrArg Value.bool g107)) (by decide) ?_
                refine U.x rfl rfl rfl rfl ((L 3 rfl rfl).trans (congrArg Value.bool g107)) (by decide) ?_
                refine U.p rfl rfl (.inl rfl) (S.pickF rfl ((L 4 rfl rfl).trans (congrArg Value.bool g107)) K) ?_
                exact kk [(44, .bool false), (43, .tuple #[]), (42, .tuple #[]), (41, .tuple #[]), (40, .tuple #[])] _ ⟨.tuple #[], .tuple #[], .tuple #[], .tuple #[], rfl, (by rw [g107, Bool.false_and])⟩
        · intro kk
          refine bcase (b := (decide (x49.t ≠ x9)) || (decide (x49.rf < 0))) (fun g113 => ?_) (fun g113 => ?_)
          · skip
            refine U.x rfl rfl rfl rfl ((L 0 rfl rfl).trans (congrArg Value.bool g113)) (by decide) ?_
            refine U.x rfl rfl rfl rfl ((L 1 rfl rfl).trans (congrArg Value.bool g113)) (by decide) ?_
            refine U.x rfl rfl rfl rfl ((L 2 rfl rfl).trans (congrArg Value.bool g113)) (by decide) ?_
            refine U.p rfl rfl (.inl rfl) (S.pickT rfl ((L 3 rfl rfl).trans (congrArg Value.bool g113)) K) ?_
            exact kk [(35, .bool true), (34, .tuple #[]), (33, .tuple #[]), (32, .tuple #[])] _ ⟨.tuple #[], .tuple #[], .tuple #[], rfl, (by rw [g113, Bool.true_or])⟩
          · skip
            refine U.p (v := .pointer (some ⟨b60, 8, none⟩)) rfl rfl (.inr ⟨_, _, _, rfl, rfl, ((L 0 rfl rfl).trans (congrArg Value.bool g113))⟩) (S.fieldAddr rfl (L 10 rfl rfl) Try.underlying31 rfl ti3 rfl rfl) ?_
            refine U.k rfl rfl (.inr ⟨_, _, _, rfl, rfl, ((L 1 rfl rfl).trans (congrArg Value.bool g113))⟩) (S.load rfl (L 0 rfl rfl) Try.underlying3 rfl ((ow67.own (k := 0) rfl).cell rfl)) nd ?_
            refine U.p rfl rfl (.inr ⟨_, _, _, rfl, rfl, ((L 2 rfl rfl).trans (congrArg Value.bool g113))⟩) (S.lss rfl (L 0 rfl rfl) K) ?_
            refine U.p rfl rfl (.inl rfl) (S.pickF rfl ((L 3 rfl rfl).trans (congrArg Value.bool g113)) (L 0 rfl rfl)) ?_
            exact kk [(35, .bool (decide (x49.id < 0))), (34, .bool (decide (x49.id < 0))), (33, .int .i64 x49.id), (32, .pointer (some ⟨b60, 8, none⟩))] _ ⟨.bool (decide (x49.id < 0)), .int .i64 x49.id, .pointer (some ⟨b60, 8, none⟩), rfl, (by rw [g113, Bool.false_or])⟩
      · intro kk
        refine bcase (b := decide (x49.t ≠ x9)) (fun g114 => ?_) (fun g114 => ?_)
        · skip
          refine U.x rfl rfl rfl rfl ((L 0 rfl rfl).trans (congrArg Value.bool g114)) (by decide) ?_
          refine U.x rfl rfl rfl rfl ((L 1 rfl rfl).trans (congrArg Value.bool g114)) (by decide) ?_
          refine U.x rfl rfl rfl rfl ((L 2 rfl rfl).trans (congrArg Value.bool g114)) (by decide) ?_
          refine U.p rfl rfl (.inl rfl) (S.pickT rfl ((L 3 rfl rfl).trans (congrArg Value.bool g114)) K) ?_
          exact kk [(30, .bool true), (29, .tuple #[]), (28, .tuple #[]), (27, .tuple #[])] _ ⟨.tuple #[], .tuple #[], .tuple #[], rfl, (by rw [g114, Bool.true_or])⟩
        · skip
          refine U.p (v := .pointer (some ⟨b60, 7, none⟩)) rfl rfl (.inr ⟨_, _, _, rfl, rfl, ((L 0 rfl rfl).trans (congrArg Value.bool g114))⟩) (S.fieldAddr rfl (L 5 rfl rfl) Try.underlying31 rfl ti3 rfl rfl) ?_
          refine U.k rfl rfl (.inr ⟨_, _, _, rfl, rfl, ((L 1 rfl rfl).trans (congrArg Value.bool g114))⟩) (S.load rfl (L 0 rfl rfl) Try.underlying3 rfl ((ow67.own (k := 0) rfl).cell rfl)) nd ?_
          refine U.p rfl rfl (.inr ⟨_, _, _, rfl, rfl, ((L 2 rfl rfl).trans (congrArg Value.bool g114))⟩) (S.lss rfl (L 0 rfl rfl) K) ?_
          refine U.p rfl rfl (.inl rfl) (S.pickF rfl ((L 3 rfl rfl).trans (congrArg Value.bool g114)) (L 0 rfl rfl)) ?_
          exact kk [(30, .bool (decide (x49.rf < 0))), (29, .bool (decide (x49.rf < 0))), (28, .int .i64 x49.rf), (27, .pointer (some ⟨b60, 7, none⟩))] _ ⟨.bool (decide (x49.rf < 0)), .int .i64 x49.rf, .pointer (some ⟨b60, 7, none⟩), rfl, (by rw [g114, Bool.false_or])⟩
    · have h115 := ifF c47 h46
      refine WP.exit ?_
      refine sqE (sqE (blkE (blkN (sqN ?_))))
      have h116 := exitS h115 e44
      refine WP.ureg rfl ?_
      refine U.p rfl rfl (.inl rfl) (S.add rfl (L 5 rfl rfl) K) ?_
      refine U.p rfl rfl (.inl rfl) (S.move rfl (L 0 rfl rfl)) ?_
      refine U.done (Nat.le_of_ble_eq_true rfl) ?_
      refine sqN ?_
      exact ⟨_, V39, rfl, ⟨m15, Nat.lt_succ_self _, xs35, w64 (x9 + 1), rfl, (le13.trans le40), ow41, backS h116 e17⟩, (allCons (L 3 rfl rfl) (allCons (L 5 rfl rfl) (allCons (L 6 rfl rfl) (allCons (L 0 rfl rfl) allNil))))⟩
  · have h117 := ifF c20 h19
    refine WP.exit ?_
    refine sqE (sqE (blkE (sqN ?_)))
    have h118 := exitS h117 e17
    refine WP.usreg rfl ?_
    refine U.p rfl rfl (.inl rfl) (S.assign rfl K) ?_
    refine U.done (Nat.le_of_ble_eq_true rfl) ?_
    refine WP.ret ?_
    refine fin.slot (.inr rfl) rfl (L 0 rfl rfl) ⟨V12, rfl, (le5.trans le13), ?_⟩
    have ow119 := ow14.drop 0 rfl
    have e120 := Option.some.inj h118
    subst e120
    exact ⟨rfl, ow119⟩

set_option maxHeartbeats 4000000 in
set_option maxRecDepth 10000 in
theorem wk_order_Run_nodes_2 (V : Vw) (Rs : List At) (p0 : List (List TEvent)) (v1 : Value) (f2 : Fz (RT.sl RT_TEvent) V v1 p0) (ow : Ow V (Rs)) (r : List Torder_node) (h : order_Run_nodes_2 p0 = some r) : ∃ v V', Cl Try.prog 0 23 #[v1, .func (.func 24) #[] #[]] V.H v V'.H ∧ V.le V' ∧ (∃ (v3 : Value), v = v3 ∧ Ow V' (.os RT_Torder_node v3 r :: Rs)) := by
  refine Ct.of (Nat.zero_le _) Try.func23 rfl (Nat.le_of_ble_eq_true rfl) ?_
  unfold order_Run_nodes_2 at h
  refine WP.usreg rfl ?_
  refine U.p rfl rfl (.inl rfl) (S.assign rfl K) ?_
  refine U.done (Nat.le_of_ble_eq_true rfl) ?_
  refine WP.usreg rfl ?_
  refine U.p rfl rfl (.inl rfl) (S.assign rfl K) ?_
  refine U.done (Nat.le_of_ble_eq_true rfl) ?_
  refine WP.seq ?_
  refine WP.usreg rfl ?_
  refine U.p rfl rfl (.inl rfl) (S.move rfl (L 2 rfl rfl)) ?_
  refine U.p rfl rfl (.inl rfl) (f2.1.len rfl (L 0 rfl rfl) Try.underlying25) ?_
  refine U.p rfl rfl (.inl rfl) (S.move rfl K) ?_
  refine U.done (Nat.le_of_ble_eq_true rfl) ?_
  refine WP.blk ?_
  have ow9 := ow.nil RT_Torder_node
  unfold order_Run_nodes_2_l1 at h
  obtain ⟨n12, hn11⟩ := loopO_some.1 h
  refine WP.loopI2 (fun n l V' => ∃ (v6 : Value) (xs7 : List Torder_node) (x8 : Int), l = [(1, .func (.func 24) #[] #[]), (5, v6), (10, v1), (11, .int .i64 (p0.length : Int)), (12, .int .i64 x8)] ∧ V.le V' ∧ Ow V' (.os RT_Torder_node v6 xs7 :: Rs) ∧ itO (fun s => order_Run_nodes_2_l1b p0 s.1 s.2) n (xs7, x8) = some r) n12 _ ⟨(.slice none 0 0), [], 0, rfl, .refl _, ow9, hn11⟩ (allCons (L 6 rfl rfl) (allCons (L 3 rfl rfl) (allCons (L 2 rfl rfl) (allCons (L 1 rfl rfl) (allCons (L 0 rfl rfl) allNil))))) ?_
  rintro _ _ V13 ⟨v6, xs7, x8, rfl, le14, ow15, h19⟩
  obtain ⟨m16, q17, rfl, h20, e18⟩ := itS h19
  replace h20 : order_Run_nodes_2_l1b p0 xs7 x8 = some q17 := h20
  unfold order_Run_nodes_2_l1b at h20
  refine WP.usreg rfl ?_
  refine U.p rfl rfl (.inl rfl) (S.lss rfl (L 4 rfl rfl) (L 3 rfl rfl)) ?_
  refine U.done (Nat.le_of_ble_eq_true rfl) ?_
  refine WP.seq ?_
  refine WP.cond _ (L 0 rfl rfl) rfl (fun c21 => ?_) (fun c21 => ?_)
  · have h22 := ifT c21 h20
    refine WP.skip ?_
    refine sqN ?_
    refine WP.seq ?_
    refine WP.blk ?_
    refine WP.usreg rfl ?_
    obtain ⟨x23, hx24, h25⟩ := bindS h22
    obtain ⟨b26, o27, c28, cs29, hv30, hf31, hr32, hc33⟩ := f2.at hx24
    obtain ⟨v34, rfl, f35⟩ := hr32
    refine U.p rfl rfl (.inl rfl) (S.index rfl ((L 3 rfl rfl).trans hv30) (L 5 rfl rfl) Try.underlying25 ti27 (ix_ge hx24) (ix_lt hx24)) ?_
    refine U.k rfl rfl (.inl rfl) (S.load rfl (L 0 rfl rfl) Try.underlying27 rfl (le14.cell hf31 (hc33 0 _ rfl))) nd ?_
    refine U.p rfl rfl (.inl rfl) (S.assign rfl (L 0 rfl rfl)) ?_
    refine U.done (Nat.le_of_ble_eq_true rfl) ?_
    refine WP.usreg rfl ?_
    refine U.p rfl rfl (.inl rfl) (S.move rfl (L 0 rfl rfl)) ?_
    refine U.p rfl rfl (.inl rfl) (f35.1.len rfl (L 0 rfl rfl) Try.underlying27) ?_
    refine U.p rfl rfl (.inl rfl) (S.move rfl K) ?_
    refine U.done (Nat.le_of_ble_eq_true rfl) ?_
    refine WP.blk ?_
    unfold order_Run_nodes_2_l2 at h25
    obtain ⟨n41, hn40⟩ := loopO_some.1 h25
    refine WP.loopI2 (fun n l V' => ∃ (v37 : Value) (xs38 : List Torder_node) (x39 : Int), l = [(1, .func (.func 24) #[] #[]), (5, v37), (10, v1), (11, .int .i64 (p0.length : Int)), (12, .int .i64 x8), (16, v34), (17, .int .i64 (x23.length : Int)), (18, .int .i64 x39)] ∧ V13.le V' ∧ Ow V' (.os RT_Torder_node v37 xs38 :: Rs) ∧ itO (fun s => order_Run_nodes_2_l2b x8 x23 s.1 s.2) n (xs38, x39) = some q17) n41 _ ⟨v6, xs7, 0, rfl, .refl _, ow15, hn40⟩ (allCons (L 7 rfl rfl) (allCons (L 8 rfl rfl) (allCons (L 9 rfl rfl) (allCons (L 10 rfl rfl) (allCons (L 11 rfl rfl) (allCons (L 2 rfl rfl) (allCons (L 1 rfl rfl) (allCons (L 0 rfl rfl) allNil)))))))) ?_
    rintro _ _ V42 ⟨v37, xs38, x39, rfl, le43, ow44, h48⟩
    obtain ⟨m45, q46, rfl, h49, e47⟩ := itS h48
    replace h49 : order_Run_nodes_2_l2b x8 x23 xs38 x39 = some q46 := h49
    unfold order_Run_nodes_2_l2b at h49
    refine WP.usreg rfl ?_
    refine U.p rfl rfl (.inl rfl) (S.lss rfl (L 7 rfl rfl) (L 6 rfl rfl)) ?_
    refine U.done (Nat.le_of_ble_eq_true rfl) ?_
    refine WP.seq ?_
    refine WP.cond _ (L 0 rfl rfl) rfl (fun c50 => ?_) (fun c50 => ?_)
    · have h51 := ifT c50 h49
      refine WP.skip ?_
      refine sqN ?_
      refine WP.seqI (fun l V' => ∃ (v53 : Value) (xs54 : List Torder_node), l = [(1, .func (.func 24) #[] #[]), (5, v53), (10, v1), (11, .int .i64 (p0.length : Int)), (12, .int .i64 x8), (16, v34), (17, .int .i64 (x23.length : Int)), (18, .int .i64 x39)] ∧ V42.le V' ∧ Ow V' (.os RT_Torder_node v53 xs54 :: Rs) ∧ order_Run_nodes_2_k1 x39 xs54 = some q46) ?_ ?_
      · rintro _ V55 ⟨v53, xs54, rfl, le56, ow57, h58⟩
        unfold order_Run_nodes_2_k1 at h58
        refine WP.ureg rfl ?_
        refine U.p rfl rfl (.inl rfl) (S.add rfl (L 7 rfl rfl) K) ?_
        refine U.p rfl rfl (.inl rfl) (S.move rfl (L 0 rfl rfl)) ?_
        refine U.done (Nat.le_of_ble_eq_true rfl) ?_
        refine sqN ?_
        exact ⟨_, V55, rfl, ⟨m45, Nat.lt_succ_self _, v53, xs54, w64 (x39 + 1), rfl, (le43.trans le56), ow57, backS h58 e47⟩, (allCons (L 2 rfl rfl) (allCons (L 3 rfl rfl) (allCons (L 4 rfl rfl) (allCons (L 5 rfl rfl) (allCons (L 6 rfl rfl) (allCons (L 7 rfl rfl) (allCons (L 8 rfl rfl) (allCons (L 0 rfl rfl) allNil))))))))⟩
      · skip
        refine WP.blk ?_
        refine WP.usreg rfl ?_
        refine U.p rfl rfl (.inl rfl) (S.move rfl (L 8 rfl rfl)) ?_
        obtain ⟨x59, hx60, h61⟩ := bindS h51
        obtain ⟨b62, o63, c64, cs65, hv66, hf67, hr68, hc69⟩ := f35.at hx60
        obtain rfl : cs65 = [.int .i64 x59.t, .int .i64 x59.act.kind, .int .i64 x59.act.at_, .int .i64 x59.act.val, .int .i64 x59.act.what, .bool x59.act.volatile, .bool x59.act.final, .int .i64 x59.rf, .int .i64 x59.id] := hr68
        refine U.p rfl rfl (.inl rfl) (S.index rfl ((L 7 rfl rfl).trans hv66) (L 9 rfl rfl) Try.underlying27 ti31 (ix_ge hx60) (ix_lt hx60)) ?_
        refine U.k rfl rfl (.inl rfl) (S.loadN (cs := [.int .i64 x59.t, .int .i64 x59.act.kind, .int .i64 x59.act.at_, .int .i64 x59.act.val, .int .i64 x59.act.what, .bool x59.act.volatile, .bool x59.act.final, .int .i64 x59.rf, .int .i64 x59.id]) rfl (L 0 rfl rfl) Try.underlying31 rfl ti31 rfl (fun j v hj => (le14.trans le43).cell hf67 (hc69 j v hj))) nd ?_
        refine O.alloc ow44 rfl rfl (.inl rfl) rfl ti31 rfl rfl nd (fun b70 V71 le72 ow73 => ?_)
        refine U.p rfl rfl (.inl rfl) (S.assign rfl (L 3 rfl rfl)) ?_
        refine O.store (k := 0) (cs := [.int .i64 x59.t, .int .i64 x59.act.kind, .int .i64 x59.act.at_, .int .i64 x59.act.val, .int .i64 x59.act.what, .bool x59.act.volatile, .bool x59.act.final, .int .i64 x59.rf, .int .i64 x59.id]) (c' := [.int .i64 x59.t, .int .i64 x59.act.kind, .int .i64 x59.act.at_, .int .i64 x59.act.val, .int .i64 x59.act.what, .bool x59.act.volatile, .bool x59.act.final, .int .i64 x59.rf, .int .i64 x59.id]) ow73 rfl rfl rfl (.inl rfl) rfl (L 1 rfl rfl) (L 2 rfl rfl) ti31 (by simp [topV]) rfl rfl (Nat.le_of_ble_eq_true rfl) rfl rfl nd (fun V75 le76 ow77 => ?_)
        refine U.done (Nat.le_of_ble_eq_true rfl) ?_
        refine WP.usreg rfl ?_
        refine U.p (v := .pointer (some ⟨b70, 1, none⟩)) rfl rfl (.inl rfl) (S.fieldAddr rfl (L 1 rfl rfl) Try.underlying31 rfl ti29 rfl rfl) ?_
        refine U.k rfl rfl (.inl rfl) (S.loadN (cs := [.int .i64 x59.act.kind, .int .i64 x59.act.at_, .int .i64 x59.act.val, .int .i64 x59.act.what, .bool x59.act.volatile, .bool x59.act.final]) rfl (L 0 rfl rfl) Try.underlying29 rfl ti29 rfl (cellsOfOwn (ow77.own (k := 0) rfl) 1 rfl)) nd ?_
        obtain ⟨x78, hx79, h80⟩ := bindS h61
        refine O.call (V := V75) rfl rfl (.inl rfl) rfl en39 (aC (L 0 rfl rfl) aN) (wk_order_writes V75 _ x59.act ow77 _ hx79) (fun _ _ _ _ => nd) (fun v81 V82 le83 hp84 => ?_)
        obtain ⟨rfl, ow85⟩ := hp84
        refine U.p rfl rfl (.inl rfl) (S.move rfl (L 0 rfl rfl)) ?_
        obtain ⟨y86, hy87, h88⟩ := bindS h80
        refine U.joinX 8 (fun e H => ∃ (u89 u90 u91 : Value), ∃ V' : Vw, H = V'.H ∧ V82.le V' ∧ e = [(30, .bool y86), (29, u89), (28, u90), (27, u91)] ∧ Ow V' (.pt b70 (.cells 9 [.int .i64 x59.t, .int .i64 x59.act.kind, .int .i64 x59.act.at_, .int .i64 x59.act.val, .int .i64 x59.act.what, .bool x59.act.volatile, .bool x59.act.final, .int .i64 x59.rf, .int .i64 x59.id]) :: .os RT_Torder_node v37 xs38 :: Rs)) ?_ ?_
        · rintro _ _ ⟨u89, u90, u91, V92, rfl, le93, rfl, ow94⟩
          refine U.p rfl rfl (.inl rfl) (S.move rfl (L 0 rfl rfl)) ?_
          obtain ⟨y95, hy96, h97⟩ := bindS h88
          refine U.joinX 14 (fun e H => ∃ (u98 u99 u100 u101 : Value), ∃ V' : Vw, H = V'.H ∧ V92.le V' ∧ e = [(36, .bool y95), (35, u98), (34, u99), (33, u100), (32, u101)] ∧ Ow V' (.pt b70 (.cells 9 [.int .i64 x59.t, .int .i64 x59.act.kind, .int .i64 x59.act.at_, .int .i64 x59.act.val, .int .i64 x59.act.what, .bool x59.act.volatile, .bool x59.act.final, .int .i64 x59.rf, .int .i64 x59.id]) :: .os RT_Torder_node v37 xs38 :: Rs)) ?_ ?_
          · rintro _ _ ⟨u98, u99, u100, u101, V102, rfl, le103, rfl, ow104⟩
            refine U.done (Nat.le_of_ble_eq_true rfl) ?_
            refine WP.cond _ (L 0 rfl rfl) rfl (fun c105 => ?_) (fun c105 => ?_)
            · have h106 := ifT c105 h97
              refine WP.ureg rfl ?_
              refine U.p rfl rfl (.inl rfl) (S.move rfl (L 21 rfl rfl)) ?_
              refine U.k rfl rfl (.inl rfl) (S.loadB rfl (L 16 rfl rfl) Try.underlying31 rfl ti31 (ow104.own (k := 0) rfl).get rfl) nd ?_
              refine U.p rfl rfl (.inl rfl) (S.move rfl (L 16 rfl rfl)) ?_
              refine U.p (v := .agg #[.int .i64 x59.t, .int .i64 x59.act.kind, .int .i64 x59.act.at_, .int .i64 x59.act.val, .int .i64 x59.act.what, .bool x59.act.volatile, .bool x59.act.final, .int .i64 x59.rf, .int .i64 x59.id, .int .i64 x39]) rfl rfl (.inl rfl) (S.build (vs := [.agg #[.int .i64 x59.t, .int .i64 x59.act.kind, .int .i64 x59.act.at_, .int .i64 x59.act.val, .int .i64 x59.act.what, .bool x59.act.volatile, .bool x59.act.final, .int .i64 x59.rf, .int .i64 x59.id], .int .i64 x39]) rfl ti45 rfl pl45 (aC (L 1 rfl rfl) (aC (L 0 rfl rfl) aN)) (allC (by simp [topV]) (allC (by simp [topV]) allN)) (fillA (ws := [.int .i64 x59.t, .int .i64 x59.act.kind, .int .i64 x59.act.at_, .int .i64 x59.act.val, .int .i64 x59.act.what, .bool x59.act.volatile, .bool x59.act.final, .int .i64 x59.rf, .int .i64 x59.id]) rfl rfl rfl (Nat.le_of_ble_eq_true rfl) (fill1 rfl rfl (Nat.le_of_ble_eq_true rfl) rfl))) ?_
              refine O.lit (R := RT_Torder_node) ow104 rfl rfl (.inl rfl) rfl Try.underlying38 ti45 rfl rfl rfl (Nat.le_of_ble_eq_true rfl) rfl (aC (L 0 rfl rfl) aN) (.cons _ _ (⟨x59, x39⟩ : Torder_node) _ (by simp [topV]) rfl .nil) (fun _ => nd) (fun v107 V108 le109 ow110 => ?_)
              obtain ⟨xs112, hx113, h114⟩ := bindS h106
              refine O.append (k := 2) ow110 rfl rfl rfl (.inl rfl) rfl (L 4 rfl rfl) (L 0 rfl rfl) Try.underlying38 ti45 rfl rfl (Nat.le_of_ble_eq_true rfl) (ow110.src (k := 0) rfl Try.underlying38) hx113 (fun _ _ => nd) (fun v115 V116 le117 ow118 => ?_)
              refine U.p rfl rfl (.inl rfl) (S.assign rfl (L 0 rfl rfl)) ?_
              refine U.done (Nat.le_of_ble_eq_true rfl) ?_
              refine blkN (sqN ?_)
              have ow120 := ow118.drop 0 rfl
              have ow121 := ow120.drop 0 rfl
              exact ⟨_, V116, rfl, ⟨v115, xs112, rfl, ((((((le72.trans le76).trans le83).trans le93).trans le103).trans le109).trans le117), ow121, h114⟩, (allCons (L 27 rfl rfl) (allCons (L 0 rfl rfl) (allCons (L 29 rfl rfl) (allCons (L 30 rfl rfl) (allCons (L 31 rfl rfl) (allCons (L 32 rfl rfl) (allCons (L 33 rfl rfl) (allCons (L 34 rfl rfl) allNil))))))))⟩
            · have h122 := ifF c105 h97
              refine WP.skip ?_
              refine blkN (sqN ?_)
              have ow123 := ow104.drop 0 rfl
              exact ⟨_, V102, rfl, ⟨v37, xs38, rfl, ((((le72.trans le76).trans le83).trans le93).trans le103), ow123, h122⟩, (allCons (L 20 rfl rfl) (allCons (L 21 rfl rfl) (allCons (L 22 rfl rfl) (allCons (L 23 rfl rfl) (allCons (L 24 rfl rfl) (allCons (L 25 rfl rfl) (allCons (L 26 rfl rfl) (allCons (L 27 rfl rfl) allNil))))))))⟩
          · intro kk
            refine bcase (b := y86) (fun g124 => ?_) (fun g124 => ?_)
            · have h125 := ifT g124 hy96
              refine U.p rfl rfl (.inr ⟨_, _, _, rfl, rfl, ((L 0 rfl rfl).trans (congrArg Value.bool g124))⟩) (S.move rfl (L 15 rfl rfl)) ?_
              refine U.p (v := .pointer (some ⟨b70, 1, none⟩)) rfl rfl (.inr ⟨_, _, _, rfl, rfl, ((L 1 rfl rfl).trans (congrArg Value.bool g124))⟩) (S.fieldAddr rfl (L 11 rfl rfl) Try.underlying31 rfl ti29 rfl rfl) ?_
              refine U.k rfl rfl (.inr ⟨_, _, _, rfl, rfl, ((L 2 rfl rfl).trans (congrArg Value.bool g124))⟩) (S.loadN (cs := [.int .i64 x59.act.kind, .int .i64 x59.act.at_, .int .i64 x59.act.val, .int .i64 x59.act.what, .bool x59.act.volatile, .bool x59.act.final]) rfl (L 0 rfl rfl) Try.underlying29 rfl ti29 rfl (cellsOfOwn (ow94.own (k := 0) rfl) 1 rfl)) nd ?_
              obtain ⟨x126, hx127, h128⟩ := bindS h125
              refine O.callv (V := V92) rfl rfl (.inr ⟨_, _, _, rfl, rfl, ((L 3 rfl rfl).trans (congrArg Value.bool g124))⟩) rfl (L 2 rfl rfl) en24 (aC (L 0 rfl rfl) aN) (wk_order_every V92 _ x59.act ow94 _ hx127) (fun _ _ _ _ => nd) (fun v129 V130 le131 hp132 => ?_)
              obtain ⟨rfl, ow133⟩ := hp132
              refine U.p rfl rfl (.inl rfl) (S.pickT rfl ((L 4 rfl rfl).trans (congrArg Value.bool g124)) (L 0 rfl rfl)) ?_
              have e134 := Option.some.inj h128
              subst e134
              exact kk [(36, .bool x126), (35, .bool x126), (34, .agg #[.int .i64 x59.act.kind, .int .i64 x59.act.at_, .int .i64 x59.act.val, .int .i64 x59.act.what, .bool x59.act.volatile, .bool x59.act.final]), (33, .pointer (some ⟨b70, 1, none⟩)), (32, .func (.func 24) #[] #[])] _ ⟨.bool x126, .agg #[.int .i64 x59.act.kind, .int .i64 x59.act.at_, .int .i64 x59.act.val, .int .i64 x59.act.what, .bool x59.act.volatile, .bool x59.act.final], .pointer (some ⟨b70, 1, none⟩), .func (.func 24) #[] #[], V130, rfl, le131, rfl, ow133⟩
            · have h135 := ifF g124 hy96
              refine U.x rfl rfl rfl rfl ((L 0 rfl rfl).trans (congrArg Value.bool g124)) (by decide) ?_
              refine U.x rfl rfl rfl rfl ((L 1 rfl rfl).trans (congrArg Value.bool g124)) (by decide) ?_
              refine U.x rfl rfl rfl rfl ((L 2 rfl rfl).trans (congrArg Value.bool g124)) (by decide) ?_
              refine U.x rfl rfl rfl rfl ((L 3 rfl rfl).trans (congrArg Value.bool g124)) (by decide) ?_
              refine U.p rfl rfl (.inl rfl) (S.pickF rfl ((L 4 rfl rfl).trans (congrArg Value.bool g124)) K) ?_
              have e136 := Option.some.inj h135
              subst e136
              exact kk [(36, .bool false), (35, .tuple #[]), (34, .tuple #[]), (33, .tuple #[]), (32, .tuple #[])] _ ⟨.tuple #[], .tuple #[], .tuple #[], .tuple #[], V92, rfl, (.refl _), rfl, ow94⟩
        · intro kk
          refine bcase (b := x78) (fun g137 => ?_) (fun g137 => ?_)
          · have h138 := ifT g137 hy87
            refine U.x rfl rfl rfl rfl ((L 0 rfl rfl).trans (congrArg Value.bool g137)) (by decide) ?_
            refine U.x rfl rfl rfl rfl ((L 1 rfl rfl).trans (congrArg Value.bool g137)) (by decide) ?_
            refine U.x rfl rfl rfl rfl ((L 2 rfl rfl).trans (congrArg Value.bool g137)) (by decide) ?_
            refine U.p rfl rfl (.inl rfl) (S.pickT rfl ((L 3 rfl rfl).trans (congrArg Value.bool g137)) K) ?_
            have e139 := Option.some.inj h138
            subst e139
            exact kk [(30, .bool true), (29, .tuple #[]), (28, .tuple #[]), (27, .tuple #[])] _ ⟨.tuple #[], .tuple #[], .tuple #[], V82, rfl, (.refl _), rfl, ow85⟩
          · have h140 := ifF g137 hy87
            refine U.p (v := .pointer (some ⟨b70, 1, none⟩)) rfl rfl (.inr ⟨_, _, _, rfl, rfl, ((L 0 rfl rfl).trans (congrArg Value.bool g137))⟩) (S.fieldAddr rfl (L 5 rfl rfl) Try.underlying31 rfl ti29 rfl rfl) ?_
            refine U.k rfl rfl (.inr ⟨_, _, _, rfl, rfl, ((L 1 rfl rfl).trans (congrArg Value.bool g137))⟩) (S.loadN (cs := [.int .i64 x59.act.kind, .int .i64 x59.act.at_, .int .i64 x59.act.val, .int .i64 x59.act.what, .bool x59.act.volatile, .bool x59.act.final]) rfl (L 0 rfl rfl) Try.underlying29 rfl ti29 rfl (cellsOfOwn (ow85.own (k := 0) rfl) 1 rfl)) nd ?_
            obtain ⟨x141, hx142, h143⟩ := bindS h140
            refine O.call (V := V82) rfl rfl (.inr ⟨_, _, _, rfl, rfl, ((L 2 rfl rfl).trans (congrArg Value.bool g137))⟩) rfl en38 (aC (L 0 rfl rfl) aN) (wk_order_reads V82 _ x59.act ow85 _ hx142) (fun _ _ _ _ => nd) (fun v144 V145 le146 hp147 => ?_)
            obtain ⟨rfl, ow148⟩ := hp147
            refine U.p rfl rfl (.inl rfl) (S.pickF rfl ((L 3 rfl rfl).trans (congrArg Value.bool g137)) (L 0 rfl rfl)) ?_
            have e149 := Option.some.inj h143
            subst e149
            exact kk [(30, .bool x141), (29, .bool x141), (28, .agg #[.int .i64 x59.act.kind, .int .i64 x59.act.at_, .int .i64 x59.act.val, .int .i64 x59.act.what, .bool x59.act.volatile, .bool x59.act.final]), (27, .pointer (some ⟨b70, 1, none⟩))] _ ⟨.bool x141, .agg #[.int .i64 x59.act.kind, .int .i64 x59.act.at_, .int .i64 x59.act.val, .int .i64 x59.act.what, .bool x59.act.volatile, .bool x59.act.final], .pointer (some ⟨b70, 1, none⟩), V145, rfl, le146, rfl, ow148⟩
    · have h150 := ifF c50 h49
      refine WP.exit ?_
      refine sqE (sqE (blkE (blkN (sqN ?_))))
      have h151 := exitS h150 e47
      refine WP.ureg rfl ?_
      refine U.p rfl rfl (.inl rfl) (S.add rfl (L 5 rfl rfl) K) ?_
      refine U.p rfl rfl (.inl rfl) (S.move rfl (L 0 rfl rfl)) ?_
      refine U.done (Nat.le_of_ble_eq_true rfl) ?_
      refine sqN ?_
      exact ⟨_, V42, rfl, ⟨m16, Nat.lt_succ_self _, v37, xs38, w64 (x8 + 1), rfl, (le14.trans le43), ow44, backS h151 e18⟩, (allCons (L 3 rfl rfl) (allCons (L 4 rfl rfl) (allCons (L 5 rfl rfl) (allCons (L 6 rfl rfl) (allCons (L 0 rfl rfl) allNil)))))⟩
  · have h152 := ifF c21 h20
    refine WP.exit ?_
    refine sqE (sqE (blkE (sqN ?_)))
    have h153 := exitS h152 e18
    refine WP.usreg rfl ?_
    refine U.p rfl rfl (.inl rfl) (S.move rfl (L 2 rfl rfl)) ?_
    refine U.p rfl rfl (.inl rfl) (S.assign rfl (L 0 rfl rfl)) ?_
    refine U.done (Nat.le_of_ble_eq_true rfl) ?_
    refine WP.ret ?_
    refine fin.slot (.inr rfl) rfl (L 0 rfl rfl) ⟨V13, rfl, le14, ?_⟩
    have e154 := Option.some.inj h153
    subst e154
    exact ⟨v6, rfl, ow15⟩

set_option maxHeartbeats 4000000 in
set_option maxRecDepth 10000 in
theorem wk_order_Run_Coherent_2 (V : Vw) (Rs : List At) (p0 : List (List TEvent)) (v1 : Value) (f2 : Fz (RT.sl RT_TEvent) V v1 p0) (ow : Ow V (Rs)) (r : Bool) (h : order_Run_Coherent_2 p0 = some r) : ∃ v V', Cl Try.prog 0 11 #[v1] V.H v V'.H ∧ V.le V' ∧ (v = .bool r ∧ Ow V' (Rs)) := by
  refine Ct.of (Nat.zero_le _) Try.func11 rfl (Nat.le_of_ble_eq_true rfl) ?_
  unfold order_Run_Coherent_2 at h
  refine WP.usreg rfl ?_
  refine U.p rfl rfl (.inl rfl) (S.assign rfl K) ?_
  refine U.done (Nat.le_of_ble_eq_true rfl) ?_
  refine WP.usreg rfl ?_
  refine U.p rfl rfl (.inl rfl) (S.move rfl (L 1 rfl rfl)) ?_
  obtain ⟨x3, hx4, h5⟩ := bindS h
  refine O.call (V := V) rfl rfl (.inl rfl) rfl en23 (aC (L 0 rfl rfl) (aC Fu aN)) (wk_order_Run_nodes_2 V _ p0 v1 f2 ow _ hx4) (fun _ _ _ _ => nd) (fun v6 V7 le8 hp9 => ?_)
  obtain ⟨_, rfl, ow10⟩ := hp9
  refine U.p rfl rfl (.inl rfl) (S.assign rfl (L 0 rfl rfl)) ?_
  refine U.done (Nat.le_of_ble_eq_true rfl) ?_
  refine WP.usreg rfl ?_
  refine U.p rfl rfl (.inl rfl) (S.move rfl (L 0 rfl rfl)) ?_
  refine O.lit (R := (RT.fn fnt46)) ow10 rfl rfl (.inl rfl) rfl Try.underlying66 ti46 rfl rfl rfl (Nat.le_of_ble_eq_true rfl) rfl (aC Fu (aC Fu (aC Fu (aC Fu aN)))) (.cons _ _ 0 _ (by simp [topV]) ⟨_, rfl, rfl, _, rfl⟩ (.cons _ _ 2 _ (by simp [topV]) ⟨_, rfl, rfl, _, rfl⟩ (.cons _ _ 3 _ (by simp [topV]) ⟨_, rfl, rfl, _, rfl⟩ (.cons _ _ 4 _ (by simp [topV]) ⟨_, rfl, rfl, _, rfl⟩ .nil)))) (fun _ => nd) (fun v13 V14 le15 ow16 => ?_)
  have ow18 := ow16.pick 1 rfl
  obtain ⟨x19, hx20, h21⟩ := bindS h5
  refine O.call (V := V14) rfl rfl (.inl rfl) rfl en25 (aC (L 1 rfl rfl) (aC (L 0 rfl rfl) aN)) (wk_order_join V14 _ x3 [0, 2, 3, 4] v6 v13 ow18 _ hx20) (fun _ _ _ _ => nd) (fun v22 V23 le24 hp25 => ?_)
  obtain ⟨_, hs28, rfl, ow26⟩ := hp25
  obtain ⟨x30, hx31, h32⟩ := bindS h21
  refine O.call (V := V23) rfl rfl (.inl rfl) rfl en31 (aC (L 0 rfl rfl) aN) (wk_order_graph_cyclic V23 _ x19 v22 hs28 ow26 _ hx31) (fun _ _ _ _ => nd) (fun v33 V34 le35 hp36 => ?_)
  obtain ⟨rfl, ow37⟩ := hp36
  refine U.p rfl rfl (.inl rfl) (S.not rfl (L 0 rfl rfl)) ?_
  refine U.p rfl rfl (.inl rfl) (S.assign rfl (L 0 rfl rfl)) ?_
  refine U.done (Nat.le_of_ble_eq_true rfl) ?_
  refine WP.ret ?_
  refine fin.slot (.inr rfl) rfl (L 0 rfl rfl) ⟨V34, rfl, (((le8.trans le15).trans le24).trans le35), ?_⟩
  have ow38 := ow37.drop 0 rfl
  have ow39 := ow38.drop 0 rfl
  have ow40 := ow39.drop 0 rfl
  have e41 := Option.some.inj h32
  subst e41
  exact ⟨rfl, ow40⟩

set_option maxHeartbeats 4000000 in
set_option maxRecDepth 10000 in
theorem wk_ref21_Reads (V : Vw) (Rs : List At) (p0 : Tref21_Node) (ow : Ow V (Rs)) (r : Bool) (h : ref21_Reads p0 = some r) : ∃ v V', Cl Try.prog 0 44 #[.agg #[.int .i64 p0.e.t, .int .i64 p0.e.act.kind, .int .i64 p0.e.act.at_, .int .i64 p0.e.act.val, .int .i64 p0.e.act.what, .bool p0.e.act.volatile, .bool p0.e.act.final, .int .i64 p0.e.rf, .int .i64 p0.e.id, .int .i64 p0.at_]] V.H v V'.H ∧ V.le V' ∧ (v = .bool r ∧ Ow V' (Rs)) := by
  refine Ct.of (Nat.zero_le _) Try.func44 rfl (Nat.le_of_ble_eq_true rfl) ?_
  unfold ref21_Reads at h
  refine WP.usreg rfl ?_
  refine O.box ow rfl rfl (.inl rfl) rfl (L 0 rfl rfl) (by simp [topV]) rfl nd (fun b1 V2 le3 ow4 => ?_)
  refine U.p rfl rfl (.inl rfl) (S.assign rfl K) ?_
  refine U.done (Nat.le_of_ble_eq_true rfl) ?_
  refine WP.usreg rfl ?_
  refine U.p (v := .pointer (some ⟨b1, 0, none⟩)) rfl rfl (.inl rfl) (S.fieldAddr rfl (L 1 rfl rfl) Try.underlying52 rfl ti31 rfl rfl) ?_
  refine U.p (v := .pointer (some ⟨b1, 1, none⟩)) rfl rfl (.inl rfl) (S.fieldAddr rfl (L 0 rfl rfl) Try.underlying31 rfl ti29 rfl rfl) ?_
  refine U.p (v := .pointer (some ⟨b1, 1, none⟩)) rfl rfl (.inl rfl) (S.fieldAddr rfl (L 0 rfl rfl) Try.underlying29 rfl ti3 rfl rfl) ?_
  refine U.k rfl rfl (.inl rfl) (S.load rfl (L 0 rfl rfl) Try.underlying3 rfl ((ow4.own (k := 0) rfl).cell rfl)) nd ?_
  refine U.p rfl rfl (.inl rfl) (S.eqlI rfl (L 0 rfl rfl) K) ?_
  refine U.p rfl rfl (.inl rfl) (S.move rfl (L 0 rfl rfl)) ?_
  refine U.joinX 12 (fun e H => ∃ (u6 u7 u8 u9 u10 : Value), H = V2.H ∧ e = [(14, .bool ((decide (p0.e.act.kind = 1)) || (decide (p0.e.act.kind = 5)))), (13, u6), (12, u7), (11, u8), (10, u9), (9, u10)]) ?_ ?_
  · rintro _ _ ⟨u6, u7, u8, u9, u10, rfl, rfl⟩
    refine U.p rfl rfl (.inl rfl) (S.assign rfl (L 0 rfl rfl)) ?_
    refine U.done (Nat.le_of_ble_eq_true rfl) ?_
    refine WP.ret ?_
    refine fin.slot (.inr rfl) rfl (L 0 rfl rfl) ⟨V2, rfl, le3, ?_⟩
    have ow14 := ow4.drop 0 rfl
    have e15 := Option.some.inj h
    subst e15
    exact ⟨rfl, ow14⟩
  · intro kk
    refine bcase (b := decide (p0.e.act.kind = 1)) (fun g16 => ?_) (fun g16 => ?_)
    · skip
      refine U.x rfl rfl rfl rfl ((L 0 rfl rfl).trans (congrArg Value.bool g16)) (by decide) ?_
      refine U.x rfl rfl rfl rfl ((L 1 rfl rfl).trans (congrArg Value.bool g16)) (by decide) ?_
      refine U.x rfl rfl rfl rfl ((L 2 rfl rfl).trans (congrArg Value.bool g16)) (by decide) ?_
      refine U.x rfl rfl rfl rfl ((L 3 rfl rfl).trans (congrArg Value.bool g16)) (by decide) ?_
      refine U.x rfl rfl rfl rfl ((L 4 rfl rfl).trans (congrArg Value.bool g16)) (by decide) ?_
      refine U.p rfl rfl (.inl rfl) (S.pickT rfl ((L 5 rfl rfl).trans (congrArg Value.bool g16)) K) ?_
      exact kk [(14, .bool true), (13, .tuple #[]), (12, .tuple #[]), (11, .tuple #[]), (10, .tuple #[]), (9, .tuple #[])] _ ⟨.tuple #[], .tuple #[], .tuple #[], .tuple #[], .tuple #[], rfl, (by rw [g16, Bool.true_or])⟩
    · skip
      refine U.p (v := .pointer (some ⟨b1, 0, none⟩)) rfl rfl (.inr ⟨_, _, _, rfl, rfl, ((L 0 rfl rfl).trans (congrArg Value.bool g16))⟩) (S.fieldAddr rfl (L 7 rfl rfl) Try.underlying52 rfl ti31 rfl rfl) ?_
      refine U.p (v := .pointer (some ⟨b1, 1, none⟩)) rfl rfl (.inr ⟨_, _, _, rfl, rfl, ((L 1 rfl rfl).trans (congrArg Value.bool g16))⟩) (S.fieldAddr rfl (L 0 rfl rfl) Try.underlying31 rfl ti29 rfl rfl) ?_
      refine U.p (v := .pointer (some ⟨b1, 1, none⟩)) rfl rfl (.inr ⟨_, _, _, rfl, rfl, ((L 2 rfl rfl).trans (congrArg Value.bool g16))⟩) (S.fieldAddr rfl (L 0 rfl rfl) Try.underlying29 rfl ti3 rfl rfl) ?_
      refine U.k rfl rfl (.inr ⟨_, _, _, rfl, rfl, ((L 3 rfl rfl).trans (congrArg Value.bool g16))⟩) (S.load rfl (L 0 rfl rfl) Try.underlying3 rfl ((ow4.own (k := 0) rfl).cell rfl)) nd ?_
      refine U.p rfl rfl (.inr ⟨_, _, _, rfl, rfl, ((L 4 rfl rfl).trans (congrArg Value.bool g16))⟩) (S.eqlI rfl (L 0 rfl rfl) K) ?_
      refine U.p rfl rfl (.inl rfl) (S.pickF rfl ((L 5 rfl rfl).trans (congrArg Value.bool g16)) (L 0 rfl rfl)) ?_
      exact kk [(14, .bool (decide (p0.e.act.kind = 5))), (13, .bool (decide (p0.e.act.kind = 5))), (12, .int .i64 p0.e.act.kind), (11, .pointer (some ⟨b1, 1, none⟩)), (10, .pointer (some ⟨b1, 1, none⟩)), (9, .pointer (some ⟨b1, 0, none⟩))] _ ⟨.bool (decide (p0.e.act.kind = 5)), .int .i64 p0.e.act.kind, .pointer (some ⟨b1, 1, none⟩), .pointer (some ⟨b1, 1, none⟩), .pointer (some ⟨b1, 0, none⟩), rfl, (by rw [g16, Bool.false_or])⟩

set_option maxHeartbeats 4000000 in
set_option maxRecDepth 10000 in
theorem wk_ref21_Writes (V : Vw) (Rs : List At) (p0 : Tref21_Node) (ow : Ow V (Rs)) (r : Bool) (h : ref21_Writes p0 = some r) : ∃ v V', Cl Try.prog 0 45 #[.agg #[.int .i64 p0.e.t, .int .i64 p0.e.act.kind, .int .i64 p0.e.act.at_, .int .i64 p0.e.act.val, .int .i64 p0.e.act.what, .bool p0.e.act.volatile, .bool p0.e.act.final, .int .i64 p0.e.rf, .int .i64 p0.e.id, .int .i64 p0.at_]] V.H v V'.H ∧ V.le V' ∧ (v = .bool r ∧ Ow V' (Rs)) := by
  refine Ct.of (Nat.zero_le _) Try.func45 rfl (Nat.le_of_ble_eq_true rfl) ?_
  unfold ref21_Writes at h
  refine WP.usreg rfl ?_
  refine O.box ow rfl rfl (.inl rfl) rfl (L 0 rfl rfl) (by simp [topV]) rfl nd (fun b1 V2 le3 ow4 => ?_)
  refine U.p rfl rfl (.inl rfl) (S.assign rfl K) ?_
  refine U.done (Nat.le_of_ble_eq_true rfl) ?_
  refine WP.usreg rfl ?_
  refine U.p (v := .pointer (some ⟨b1, 0, none⟩)) rfl rfl (.inl rfl) (S.fieldAddr rfl (L 1 rfl rfl) Try.underlying52 rfl ti31 rfl rfl) ?_
  refine U.p (v := .pointer (some ⟨b1, 1, none⟩)) rfl rfl (.inl rfl) (S.fieldAddr rfl (L 0 rfl rfl) Try.underlying31 rfl ti29 rfl rfl) ?_
  refine U.p (v := .pointer (some ⟨b1, 1, none⟩)) rfl rfl (.inl rfl) (S.fieldAddr rfl (L 0 rfl rfl) Try.underlying29 rfl ti3 rfl rfl) ?_
  refine U.k rfl rfl (.inl rfl) (S.load rfl (L 0 rfl rfl) Try.underlying3 rfl ((ow4.own (k := 0) rfl).cell rfl)) nd ?_
  refine U.p rfl rfl (.inl rfl) (S.eqlI rfl (L 0 rfl rfl) K) ?_
  refine U.p rfl rfl (.inl rfl) (S.move rfl (L 0 rfl rfl)) ?_
  refine U.joinX 12 (fun e H => ∃ (u6 u7 u8 u9 u10 : Value), H = V2.H ∧ e = [(14, .bool ((decide (p0.e.act.kind = 2)) || (decide (p0.e.act.kind = 5)))), (13, u6), (12, u7), (11, u8), (10, u9), (9, u10)]) ?_ ?_
  · rintro _ _ ⟨u6, u7, u8, u9, u10, rfl, rfl⟩
    refine U.p rfl rfl (.inl rfl) (S.move rfl (L 0 rfl rfl)) ?_
    refine U.joinX 19 (fun e H => ∃ (u14 u15 u16 u17 u18 : Value), H = V2.H ∧ e = [(21, .bool (((decide (p0.e.act.kind = 2)) || (decide (p0.e.act.kind = 5))) || (decide (p0.e.act.kind = 6)))), (20, u14), (19, u15), (18, u16), (17, u17), (16, u18)]) ?_ ?_
    · rintro _ _ ⟨u14, u15, u16, u17, u18, rfl, rfl⟩
      refine U.p rfl rfl (.inl rfl) (S.assign rfl (L 0 rfl rfl)) ?_
      refine U.done (Nat.le_of_ble_eq_true rfl) ?_
      refine WP.ret ?_
      refine fin.slot (.inr rfl) rfl (L 0 rfl rfl) ⟨V2, rfl, le3, ?_⟩
      have ow22 := ow4.drop 0 rfl
      have e23 := Option.some.inj h
      subst e23
      exact ⟨rfl, ow22⟩
    · intro kk
      refine bcase (b := (decide (p0.e.act.kind = 2)) || (decide (p0.e.act.kind = 5))) (fun g24 => ?_) (fun g24 => ?_)
      · skip
        refine U.x rfl rfl rfl rfl ((L 0 rfl rfl).trans (congrArg Value.bool g24)) (by decide) ?_
        refine U.x rfl rfl rfl rfl ((L 1 rfl rfl).trans (congrArg Value.bool g24)) (by decide) ?_
        refine U.x rfl rfl rfl rfl ((L 2 rfl rfl).trans (congrArg Value.bool g24)) (by decide) ?_
        refine U.x rfl rfl rfl rfl ((L 3 rfl rfl).trans (congrArg Value.bool g24)) (by decide) ?_
        refine U.x rfl rfl rfl rfl ((L 4 rfl rfl).trans (congrArg Value.bool g24)) (by decide) ?_
        refine U.p rfl rfl (.inl rfl) (S.pickT rfl ((L 5 rfl rfl).trans (congrArg Value.bool g24)) K) ?_
        exact kk [(21, .bool true), (20, .tuple #[]), (19, .tuple #[]), (18, .tuple #[]), (17, .tuple #[]), (16, .tuple #[])] _ ⟨.tuple #[], .tuple #[], .tuple #[], .tuple #[], .tuple #[], rfl, (by rw [g24, Bool.true_or])⟩
      · skip
        refine U.p (v := .pointer (some ⟨b1, 0, none⟩)) rfl rfl (.inr ⟨_, _, _, rfl, rfl, ((L 0 rfl rfl).trans (congrArg Value.bool g24))⟩) (S.fieldAddr rfl (L 14 rfl rfl) Try.underlying52 rfl ti31 rfl rfl) ?_
        refine U.p (v := .pointer (some ⟨b1, 1, none⟩)) rfl rfl (.inr ⟨_, _, _, rfl, rfl, ((L 1 rfl rfl).trans (congrArg Value.bool g24))⟩) (S.fieldAddr rfl (L 0 rfl rfl) Try.underlying31 rfl ti29 rfl rfl) ?_
        refine U.p (v := .pointer (some ⟨b1, 1, none⟩)) rfl rfl (.inr ⟨_, _, _, rfl, rfl, ((L 2 rfl rfl).trans (congrArg Value.bool g24))⟩) (S.fieldAddr rfl (L 0 rfl rfl) Try.underlying29 rfl ti3 rfl rfl) ?_
        refine U.k rfl rfl (.inr ⟨_, _, _, rfl, rfl, ((L 3 rfl rfl).trans (congrArg Value.bool g24))⟩) (S.load rfl (L 0 rfl rfl) Try.underlying3 rfl ((ow4.own (k := 0) rfl).cell rfl)) nd ?_
        refine U.p rfl rfl (.inr ⟨_, _, _, rfl, rfl, ((L 4 rfl rfl).trans (congrArg Value.bool g24))⟩) (S.eqlI rfl (L 0 rfl rfl) K) ?_
        refine U.p rfl rfl (.inl rfl) (S.pickF rfl ((L 5 rfl rfl).trans (congrArg Value.bool g24)) (L 0 rfl rfl)) ?_
        exact kk [(21, .bool (decide (p0.e.act.kind = 6))), (20, .bool (decide (p0.e.act.kind = 6))), (19, .int .i64 p0.e.act.kind), (18, .pointer (some ⟨b1, 1, none⟩)), (17, .pointer (some ⟨b1, 1, none⟩)), (16, .pointer (some ⟨b1, 0, none⟩))] _ ⟨.bool (decide (p0.e.act.kind = 6)), .int .i64 p0.e.act.kind, .pointer (some ⟨b1, 1, none⟩), .pointer (some ⟨b1, 1, none⟩), .pointer (some ⟨b1, 0, none⟩), rfl, (by rw [g24, Bool.false_or])⟩
  · intro kk
    refine bcase (b := decide (p0.e.act.kind = 2)) (fun g25 => ?_) (fun g25 => ?_)
    · skip
      refine U.x rfl rfl rfl rfl ((L 0 rfl rfl).trans (congrArg Value.bool g25)) (by decide) ?_
      refine U.x rfl rfl rfl rfl ((L 1 rfl rfl).trans (congrArg Value.bool g25)) (by decide) ?_
      refine U.x rfl rfl rfl rfl ((L 2 rfl rfl).trans (congrArg Value.bool g25)) (by decide) ?_
      refine U.x rfl rfl rfl rfl ((L 3 rfl rfl).trans (congrArg Value.bool g25)) (by decide) ?_
      refine U.x rfl rfl rfl rfl ((L 4 rfl rfl).trans (congrArg Value.bool g25)) (by decide) ?_
      refine U.p rfl rfl (.inl rfl) (S.pickT rfl ((L 5 rfl rfl).trans (congrArg Value.bool g25)) K) ?_
      exact kk [(14, .bool true), (13, .tuple #[]), (12, .tuple #[]), (11, .tuple #[]), (10, .tuple #[]), (9, .tuple #[])] _ ⟨.tuple #[], .tuple #[], .tuple #[], .tuple #[], .tuple #[], rfl, (by rw [g25, Bool.true_or])⟩
    · skip
      refine U.p (v := .pointer (some ⟨b1, 0, none⟩)) rfl rfl (.inr ⟨_, _, _, rfl, rfl, ((L 0 rfl rfl).trans (congrArg Value.bool g25))⟩) (S.fieldAddr rfl (L 7 rfl rfl) Try.underlying52 rfl ti31 rfl rfl) ?_
      refine U.p (v := .pointer (some ⟨b1, 1, none⟩)) rfl rfl (.inr ⟨_, _, _, rfl, rfl, ((L 1 rfl rfl).trans (congrArg Value.bool g25))⟩) (S.fieldAddr rfl (L 0 rfl rfl) Try.underlying31 rfl ti29 rfl rfl) ?_
      refine U.p (v := .pointer (some ⟨b1, 1, none⟩)) rfl rfl (.inr ⟨_, _, _, rfl, rfl, ((L 2 rfl rfl).trans (congrArg Value.bool g25))⟩) (S.fieldAddr rfl (L 0 rfl rfl) Try.underlying29 rfl ti3 rfl rfl) ?_
      refine U.k rfl rfl (.inr ⟨_, _, _, rfl, rfl, ((L 3 rfl rfl).trans (congrArg Value.bool g25))⟩) (S.load rfl (L 0 rfl rfl) Try.underlying3 rfl ((ow4.own (k := 0) rfl).cell rfl)) nd ?_
      refine U.p rfl rfl (.inr ⟨_, _, _, rfl, rfl, ((L 4 rfl rfl).trans (congrArg Value.bool g25))⟩) (S.eqlI rfl (L 0 rfl rfl) K) ?_
      refine U.p rfl rfl (.inl rfl) (S.pickF rfl ((L 5 rfl rfl).trans (congrArg Value.bool g25)) (L 0 rfl rfl)) ?_
      exact kk [(14, .bool (decide (p0.e.act.kind = 5))), (13, .bool (decide (p0.e.act.kind = 5))), (12, .int .i64 p0.e.act.kind), (11, .pointer (some ⟨b1, 1, none⟩)), (10, .pointer (some ⟨b1, 1, none⟩)), (9, .pointer (some ⟨b1, 0, none⟩))] _ ⟨.bool (decide (p0.e.act.kind = 5)), .int .i64 p0.e.act.kind, .pointer (some ⟨b1, 1, none⟩), .pointer (some ⟨b1, 1, none⟩), .pointer (some ⟨b1, 0, none⟩), rfl, (by rw [g25, Bool.false_or])⟩

set_option maxHeartbeats 4000000 in
set_option maxRecDepth 10000 in
theorem wk_ref21_Synced (V : Vw) (Rs : List At) (p0 : Tref21_Node) (ow : Ow V (Rs)) (r : Bool) (h : ref21_Synced p0 = some r) : ∃ v V', Cl Try.prog 0 47 #[.agg #[.int .i64 p0.e.t, .int .i64 p0.e.act.kind, .int .i64 p0.e.act.at_, .int .i64 p0.e.act.val, .int .i64 p0.e.act.what, .bool p0.e.act.volatile, .bool p0.e.act.final, .int .i64 p0.e.rf, .int .i64 p0.e.id, .int .i64 p0.at_]] V.H v V'.H ∧ V.le V' ∧ (v = .bool r ∧ Ow V' (Rs)) := by
  refine Ct.of (Nat.zero_le _) Try.func47 rfl (Nat.le_of_ble_eq_true rfl) ?_
  unfold ref21_Synced at h
  refine WP.usreg rfl ?_
  refine O.box ow rfl rfl (.inl rfl) rfl (L 0 rfl rfl) (by simp [topV]) rfl nd (fun b1 V2 le3 ow4 => ?_)
  refine U.p rfl rfl (.inl rfl) (S.assign rfl K) ?_
  refine U.done (Nat.le_of_ble_eq_true rfl) ?_
  refine WP.usreg rfl ?_
  refine U.p (v := .pointer (some ⟨b1, 0, none⟩)) rfl rfl (.inl rfl) (S.fieldAddr rfl (L 1 rfl rfl) Try.underlying52 rfl ti31 rfl rfl) ?_
  refine U.p (v := .pointer (some ⟨b1, 1, none⟩)) rfl rfl (.inl rfl) (S.fieldAddr rfl (L 0 rfl rfl) Try.underlying31 rfl ti29 rfl rfl) ?_
  refine U.p (v := .pointer (some ⟨b1, 1, none⟩)) rfl rfl (.inl rfl) (S.fieldAddr rfl (L 0 rfl rfl) Try.underlying29 rfl ti3 rfl rfl) ?_
  refine U.k rfl rfl (.inl rfl) (S.load rfl (L 0 rfl rfl) Try.underlying3 rfl ((ow4.own (k := 0) rfl).cell rfl)) nd ?_
  refine U.p rfl rfl (.inl rfl) (S.assign rfl (L 0 rfl rfl)) ?_
  refine U.done (Nat.le_of_ble_eq_true rfl) ?_
  refine WP.usreg rfl ?_
  refine U.p rfl rfl (.inl rfl) (S.move rfl (L 0 rfl rfl)) ?_
  refine U.p rfl rfl (.inl rfl) (S.eqlI rfl (L 0 rfl rfl) K) ?_
  refine U.p rfl rfl (.inl rfl) (S.move rfl (L 0 rfl rfl)) ?_
  refine U.joinX 6 (fun e H => ∃ (u6 u7 : Value), H = V2.H ∧ e = [(13, .bool ((decide (p0.e.act.kind = 5)) || (decide (p0.e.act.kind = 6)))), (12, u6), (11, u7)]) ?_ ?_
  · rintro _ _ ⟨u6, u7, rfl, rfl⟩
    refine U.p rfl rfl (.inl rfl) (S.move rfl (L 0 rfl rfl)) ?_
    refine U.joinX 20 (fun e H => ∃ (u11 u12 u13 u14 u15 u16 u17 u18 u19 u20 u21 u22 : Value), H = V2.H ∧ e = [(27, .bool (((decide (p0.e.act.kind = 5)) || (decide (p0.e.act.kind = 6))) || (p0.e.act.volatile && ((decide (p0.e.act.kind = 1)) || (decide (p0.e.act.kind = 2)))))), (26, u11), (25, u12), (24, u13), (23, u14), (22, u15), (21, u16), (20, u17), (19, u18), (18, u19), (17, u20), (16, u21), (15, u22)]) ?_ ?_
    · rintro _ _ ⟨u11, u12, u13, u14, u15, u16, u17, u18, u19, u20, u21, u22, rfl, rfl⟩
      refine U.p rfl rfl (.inl rfl) (S.assign rfl (L 0 rfl rfl)) ?_
      refine U.done (Nat.le_of_ble_eq_true rfl) ?_
      refine WP.ret ?_
      refine fin.slot (.inr rfl) rfl (L 0 rfl rfl) ⟨V2, rfl, le3, ?_⟩
      have ow26 := ow4.drop 0 rfl
      have e27 := Option.some.inj h
      subst e27
      exact ⟨rfl, ow26⟩
    · intro kk
      refine bcase (b := (decide (p0.e.act.kind = 5)) || (decide (p0.e.act.kind = 6))) (fun g28 => ?_) (fun g28 => ?_)
      · skip
        refine U.x rfl rfl rfl rfl ((L 0 rfl rfl).trans (congrArg Value.bool g28)) (by decide) ?_
        refine U.x rfl rfl rfl rfl ((L 1 rfl rfl).trans (congrArg Value.bool g28)) (by decide) ?_
        refine U.x rfl rfl rfl rfl ((L 2 rfl rfl).trans (congrArg Value.bool g28)) (by decide) ?_
        refine U.x rfl rfl rfl rfl ((L 3 rfl rfl).trans (congrArg Value.bool g28)) (by decide) ?_
        refine U.x rfl rfl rfl rfl ((L 4 rfl rfl).trans (congrArg Value.bool g28)) (by decide) ?_
        refine U.z rfl rfl rfl rfl (L 0 rfl rfl) ?_
        refine U.z rfl rfl rfl rfl (L 1 rfl rfl) ?_
        refine U.z rfl rfl rfl rfl (L 2 rfl rfl) ?_
        refine U.z rfl rfl rfl rfl (L 0 rfl rfl) ?_
        refine U.z rfl rfl rfl rfl (L 1 rfl rfl) ?_
        refine U.z rfl rfl rfl rfl (L 5 rfl rfl) ?_
        refine U.x rfl rfl rfl rfl ((L 11 rfl rfl).trans (congrArg Value.bool g28)) (by decide) ?_
        refine U.p rfl rfl (.inl rfl) (S.pickT rfl ((L 12 rfl rfl).trans (congrArg Value.bool g28)) K) ?_
        exact kk [(27, .bool true), (26, .tuple #[]), (25, .tuple #[]), (24, .tuple #[]), (23, .tuple #[]), (22, .tuple #[]), (21, .tuple #[]), (20, .tuple #[]), (19, .tuple #[]), (18, .tuple #[]), (17, .tuple #[]), (16, .tuple #[]), (15, .tuple #[])] _ ⟨.tuple #[], .tuple #[], .tuple #[], .tuple #[], .tuple #[], .tuple #[], .tuple #[], .tuple #[], .tuple #[], .tuple #[], .tuple #[], .tuple #[], rfl, (by rw [g28, Bool.true_or])⟩
      · skip
        refine U.p (v := .pointer (some ⟨b1, 0, none⟩)) rfl rfl (.inr ⟨_, _, _, rfl, rfl, ((L 0 rfl rfl).trans (congrArg Value.bool g28))⟩) (S.fieldAddr rfl (L 13 rfl rfl) Try.underlying52 rfl ti31 rfl rfl) ?_
        refine U.p (v := .pointer (some ⟨b1, 1, none⟩)) rfl rfl (.inr ⟨_, _, _, rfl, rfl, ((L 1 rfl rfl).trans (congrArg Value.bool g28))⟩) (S.fieldAddr rfl (L 0 rfl rfl) Try.underlying31 rfl ti29 rfl rfl) ?_
        refine U.p (v := .pointer (some ⟨b1, 5, none⟩)) rfl rfl (.inr ⟨_, _, _, rfl, rfl, ((L 2 rfl rfl).trans (congrArg Value.bool g28))⟩) (S.fieldAddr rfl (L 0 rfl rfl) Try.underlying29 rfl ti4 rfl rfl) ?_
        refine U.k rfl rfl (.inr ⟨_, _, _, rfl, rfl, ((L 3 rfl rfl).trans (congrArg Value.bool g28))⟩) (S.load rfl (L 0 rfl rfl) Try.underlying4 rfl ((ow4.own (k := 0) rfl).cell rfl)) nd ?_
        refine U.p rfl rfl (.inr ⟨_, _, _, rfl, rfl, ((L 4 rfl rfl).trans (congrArg Value.bool g28))⟩) (S.move rfl (L 0 rfl rfl)) ?_
        refine U.joinX 19 (fun e H => ∃ (u29 u30 u31 u32 u33 u34 : Value), H = V2.H ∧ e = [(26, .bool (p0.e.act.volatile && ((decide (p0.e.act.kind = 1)) || (decide (p0.e.act.kind = 2))))), (25, u29), (24, u30), (23, u31), (22, u32), (21, u33), (20, u34)]) ?_ ?_
        · rintro _ _ ⟨u29, u30, u31, u32, u33, u34, rfl, rfl⟩
          refine U.p rfl rfl (.inl rfl) (S.pickF rfl ((L 12 rfl rfl).trans (congrArg Value.bool g28)) (L 0 rfl rfl)) ?_
          exact kk [(27, .bool (p0.e.act.volatile && ((decide (p0.e.act.kind = 1)) || (decide (p0.e.act.kind = 2))))), (26, .bool (p0.e.act.volatile && ((decide (p0.e.act.kind = 1)) || (decide (p0.e.act.kind = 2))))), (25, u29), (24, u30), (23, u31), (22, u32), (21, u33), (20, u34), (19, .bool p0.e.act.volatile), (18, .bool p0.e.act.volatile), (17, .pointer (some ⟨b1, 5, none⟩)), (16, .pointer (some ⟨b1, 1, none⟩)), (15, .pointer (some ⟨b1, 0, none⟩))] _ ⟨.bool (p0.e.act.volatile && ((decide (p0.e.act.kind = 1)) || (decide (p0.e.act.kind = 2)))), u29, u30, u31, u32, u33, u34, .bool p0.e.act.volatile, .bool p0.e.act.volatile, .pointer (some ⟨b1, 5, none⟩), .pointer (some ⟨b1, 1, none⟩), .pointer (some ⟨b1, 0, none⟩), rfl, (by rw [g28, Bool.false_or])⟩
        · intro kk
          refine bcase (b := p0.e.act.volatile) (fun g38 => ?_) (fun g38 => ?_)
          · skip
            refine U.p rfl rfl (.inr ⟨_, _, _, rfl, rfl, ((L 0 rfl rfl).trans (congrArg Value.bool g38))⟩) (S.move rfl (L 12 rfl rfl)) ?_
            refine U.p rfl rfl (.inr ⟨_, _, _, rfl, rfl, ((L 1 rfl rfl).trans (congrArg Value.bool g38))⟩) (S.eqlI rfl (L 0 rfl rfl) K) ?_
            refine U.p rfl rfl (.inr ⟨_, _, _, rfl, rfl, ((L 2 rfl rfl).trans (congrArg Value.bool g38))⟩) (S.move rfl (L 0 rfl rfl)) ?_
            refine U.joinX 18 (fun e H => ∃ (u39 u40 : Value), H = V2.H ∧ e = [(25, .bool ((decide (p0.e.act.kind = 1)) || (decide (p0.e.act.kind = 2)))), (24, u39), (23, u40)]) ?_ ?_
            · rintro _ _ ⟨u39, u40, rfl, rfl⟩
              refine U.p rfl rfl (.inr ⟨_, _, _, rfl, rfl, ((L 11 rfl rfl).trans (congrArg Value.bool g28))⟩) (S.pickT rfl ((L 6 rfl rfl).trans (congrArg Value.bool g38)) (L 0 rfl rfl)) ?_
              exact kk [(26, .bool ((decide (p0.e.act.kind = 1)) || (decide (p0.e.act.kind = 2)))), (25, .bool ((decide (p0.e.act.kind = 1)) || (decide (p0.e.act.kind = 2)))), (24, u39), (23, u40), (22, .bool (decide (p0.e.act.kind = 1))), (21, .bool (decide (p0.e.act.kind = 1))), (20, .int .i64 p0.e.act.kind)] _ ⟨.bool ((decide (p0.e.act.kind = 1)) || (decide (p0.e.act.kind = 2))), u39, u40, .bool (decide (p0.e.act.kind = 1)), .bool (decide (p0.e.act.kind = 1)), .int .i64 p0.e.act.kind, rfl, (by rw [g38, Bool.true_and])⟩
            · intro kk
              refine bcase (b := decide (p0.e.act.kind = 1)) (fun g44 => ?_) (fun g44 => ?_)
              · skip
                refine U.x rfl rfl rfl rfl ((L 0 rfl rfl).trans (congrArg Value.bool g44)) (by decide) ?_
                refine U.x rfl rfl rfl rfl ((L 1 rfl rfl).trans (congrArg Value.bool g44)) (by decide) ?_
                refine U.p rfl rfl (.inr ⟨_, _, _, rfl, rfl, ((L 5 rfl rfl).trans (congrArg Value.bool g38))⟩) (S.pickT rfl ((L 2 rfl rfl).trans (congrArg Value.bool g44)) K) ?_
                exact kk [(25, .bool true), (24, .tuple #[]), (23, .tuple #[])] _ ⟨.tuple #[], .tuple #[], rfl, (by rw [g44, Bool.true_or])⟩
              · skip
                refine U.p rfl rfl (.inr ⟨_, _, _, rfl, rfl, ((L 0 rfl rfl).trans (congrArg Value.bool g44))⟩) (S.move rfl (L 15 rfl rfl)) ?_
                refine U.p rfl rfl (.inr ⟨_, _, _, rfl, rfl, ((L 1 rfl rfl).trans (congrArg Value.bool g44))⟩) (S.eqlI rfl (L 0 rfl rfl) K) ?_
                refine U.p rfl rfl (.inr ⟨_, _, _, rfl, rfl, ((L 5 rfl rfl).trans (congrArg Value.bool g38))⟩) (S.pickF rfl ((L 2 rfl rfl).trans (congrArg Value.bool g44)) (L 0 rfl rfl)) ?_
                exact kk [(25, .bool (decide (p0.e.act.kind = 2))), (24, .bool (decide (p0.e.act.kind = 2))), (23, .int .i64 p0.e.act.kind)] _ ⟨.bool (decide (p0.e.act.kind = 2)), .int .i64 p0.e.act.kind, rfl, (by rw [g44, Bool.false_or])⟩
          · skip
            refine U.x rfl rfl rfl rfl ((L 0 rfl rfl).trans (congrArg Value.bool g38)) (by decide) ?_
            refine U.x rfl rfl rfl rfl ((L 1 rfl rfl).trans (congrArg Value.bool g38)) (by decide) ?_
            refine U.x rfl rfl rfl rfl ((L 2 rfl rfl).trans (congrArg Value.bool g38)) (by decide) ?_
            refine U.z rfl rfl rfl rfl (L 0 rfl rfl) ?_
            refine U.z rfl rfl rfl rfl (L 1 rfl rfl) ?_
            refine U.x rfl rfl rfl rfl ((L 5 rfl rfl).trans (congrArg Value.bool g38)) (by decide) ?_
            refine U.p rfl rfl (.inr ⟨_, _, _, rfl, rfl, ((L 11 rfl rfl).trans (congrArg Value.bool g28))⟩) (S.pickF rfl ((L 6 rfl rfl).trans (congrArg Value.bool g38)) K) ?_
            exact kk [(26, .bool false), (25, .tuple #[]), (24, .tuple #[]), (23, .tuple #[]), (22, .tuple #[]), (21, .tuple #[]), (20, .tuple #[])] _ ⟨.tuple #[], .tuple #[], .tuple #[], .tuple #[], .tuple #[], .tuple #[], rfl, (by rw [g38, Bool.false_and])⟩
  · intro kk
    refine bcase (b := decide (p0.e.act.kind = 5)) (fun g45 => ?_) (fun g45 => ?_)
    · skip
      refine U.x rfl rfl rfl rfl ((L 0 rfl rfl).trans (congrArg Value.bool g45)) (by decide) ?_
      refine U.x rfl rfl rfl rfl ((L 1 rfl rfl).trans (congrArg Value.bool g45)) (by decide) ?_
      refine U.p rfl rfl (.inl rfl) (S.pickT rfl ((L 2 rfl rfl).trans (congrArg Value.bool g45)) K) ?_
      exact kk [(13, .bool true), (12, .tuple #[]), (11, .tuple #[])] _ ⟨.tuple #[], .tuple #[], rfl, (by rw [g45, Bool.true_or])⟩
    · skip
      refine U.p rfl rfl (.inr ⟨_, _, _, rfl, rfl, ((L 0 rfl rfl).trans (congrArg Value.bool g45))⟩) (S.move rfl (L 3 rfl rfl)) ?_
      refine U.p rfl rfl (.inr ⟨_, _, _, rfl, rfl, ((L 1 rfl rfl).trans (congrArg Value.bool g45))⟩) (S.eqlI rfl (L 0 rfl rfl) K) ?_
      refine U.p rfl rfl (.inl rfl) (S.pickF rfl ((L 2 rfl rfl).trans (congrArg Value.bool g45)) (L 0 rfl rfl)) ?_
      exact kk [(13, .bool (decide (p0.e.act.kind = 6))), (12, .bool (decide (p0.e.act.kind = 6))), (11, .int .i64 p0.e.act.kind)] _ ⟨.bool (decide (p0.e.act.kind = 6)), .int .i64 p0.e.act.kind, rfl, (by rw [g45, Bool.false_or])⟩

set_option maxHeartbeats 4000000 in
set_option maxRecDepth 10000 in
theorem wk_ref21_Nodes (V : Vw) (Rs : List At) (p0 : List (List TEvent)) (p1 : Bool) (v1 : Value) (f2 : Fz (RT.sl RT_TEvent) V v1 p0) (ow : Ow V (Rs)) (r : List Tref21_Node) (h : ref21_Nodes p0 p1 = some r) : ∃ v V', Cl Try.prog 0 32 #[v1, .bool p1] V.H v V'.H ∧ V.le V' ∧ (∃ (v3 : Value), v = v3 ∧ Ow V' (.os RT_Tref21_Node v3 r :: Rs)) := by
  refine Ct.of (Nat.zero_le _) Try.func32 rfl (Nat.le_of_ble_eq_true rfl) ?_
  unfold ref21_Nodes at h
  refine WP.usreg rfl ?_
  refine U.p rfl rfl (.inl rfl) (S.assign rfl K) ?_
  refine U.done (Nat.le_of_ble_eq_true rfl) ?_
  refine WP.usreg rfl ?_
  refine U.p rfl rfl (.inl rfl) (S.assign rfl K) ?_
  refine U.done (Nat.le_of_ble_eq_true rfl) ?_
  refine WP.seq ?_
  refine WP.usreg rfl ?_
  refine U.p rfl rfl (.inl rfl) (S.move rfl (L 2 rfl rfl)) ?_
  refine U.p rfl rfl (.inl rfl) (f2.1.len rfl (L 0 rfl rfl) Try.underlying22) ?_
  refine U.p rfl rfl (.inl rfl) (S.move rfl K) ?_
  refine U.done (Nat.le_of_ble_eq_true rfl) ?_
  refine WP.blk ?_
  have ow9 := ow.nil RT_Tref21_Node
  unfold ref21_Nodes_l1 at h
  obtain ⟨n12, hn11⟩ := loopO_some.1 h
  refine WP.loopI2 (fun n l V' => ∃ (v6 : Value) (xs7 : List Tref21_Node) (x8 : Int), l = [(1, .bool p1), (5, v6), (11, v1), (12, .int .i64 (p0.length : Int)), (13, .int .i64 x8)] ∧ V.le V' ∧ Ow V' (.os RT_Tref21_Node v6 xs7 :: Rs) ∧ itO (fun s => ref21_Nodes_l1b p0 p1 s.1 s.2) n (xs7, x8) = some r) n12 _ ⟨(.slice none 0 0), [], 0, rfl, .refl _, ow9, hn11⟩ (allCons (L 6 rfl rfl) (allCons (L 3 rfl rfl) (allCons (L 2 rfl rfl) (allCons (L 1 rfl rfl) (allCons (L 0 rfl rfl) allNil))))) ?_
  rintro _ _ V13 ⟨v6, xs7, x8, rfl, le14, ow15, h19⟩
  obtain ⟨m16, q17, rfl, h20, e18⟩ := itS h19
  replace h20 : ref21_Nodes_l1b p0 p1 xs7 x8 = some q17 := h20
  unfold ref21_Nodes_l1b at h20
  refine WP.usreg rfl ?_
  refine U.p rfl rfl (.inl rfl) (S.lss rfl (L 4 rfl rfl) (L 3 rfl rfl)) ?_
  refine U.done (Nat.le_of_ble_eq_true rfl) ?_
  refine WP.seq ?_
  refine WP.cond _ (L 0 rfl rfl) rfl (fun c21 => ?_) (fun c21 => ?_)
  · have h22 := ifT c21 h20
    refine WP.skip ?_
    refine sqN ?_
    refine WP.seq ?_
    refine WP.blk ?_
    refine WP.usreg rfl ?_
    obtain ⟨x23, hx24, h25⟩ := bindS h22
    obtain ⟨b26, o27, c28, cs29, hv30, hf31, hr32, hc33⟩ := f2.at hx24
    obtain ⟨v34, rfl, f35⟩ := hr32
    refine U.p rfl rfl (.inl rfl) (S.index rfl ((L 3 rfl rfl).trans hv30) (L 5 rfl rfl) Try.underlying22 ti27 (ix_ge hx24) (ix_lt hx24)) ?_
    refine U.k rfl rfl (.inl rfl) (S.load rfl (L 0 rfl rfl) Try.underlying27 rfl (le14.cell hf31 (hc33 0 _ rfl))) nd ?_
    refine U.p rfl rfl (.inl rfl) (S.assign rfl (L 0 rfl rfl)) ?_
    refine U.done (Nat.le_of_ble_eq_true rfl) ?_
    refine WP.usreg rfl ?_
    refine U.p rfl rfl (.inl rfl) (S.move rfl (L 0 rfl rfl)) ?_
    refine U.p rfl rfl (.inl rfl) (f35.1.len rfl (L 0 rfl rfl) Try.underlying27) ?_
    refine U.p rfl rfl (.inl rfl) (S.move rfl K) ?_
    refine U.done (Nat.le_of_ble_eq_true rfl) ?_
    refine WP.blk ?_
    unfold ref21_Nodes_l2 at h25
    obtain ⟨n41, hn40⟩ := loopO_some.1 h25
    refine WP.loopI2 (fun n l V' => ∃ (v37 : Value) (xs38 : List Tref21_Node) (x39 : Int), l = [(1, .bool p1), (5, v37), (11, v1), (12, .int .i64 (p0.length : Int)), (13, .int .i64 x8), (17, v34), (18, .int .i64 (x23.length : Int)), (19, .int .i64 x39)] ∧ V13.le V' ∧ Ow V' (.os RT_Tref21_Node v37 xs38 :: Rs) ∧ itO (fun s => ref21_Nodes_l2b p1 x8 x23 s.1 s.2) n (xs38, x39) = some q17) n41 _ ⟨v6, xs7, 0, rfl, .refl _, ow15, hn40⟩ (allCons (L 7 rfl rfl) (allCons (L 8 rfl rfl) (allCons (L 9 rfl rfl) (allCons (L 10 rfl rfl) (allCons (L 11 rfl rfl) (allCons (L 2 rfl rfl) (allCons (L 1 rfl rfl) (allCons (L 0 rfl rfl) allNil)))))))) ?_
    rintro _ _ V42 ⟨v37, xs38, x39, rfl, le43, ow44, h48⟩
    obtain ⟨m45, q46, rfl, h49, e47⟩ := itS h48
    replace h49 : ref21_Nodes_l2b p1 x8 x23 xs38 x39 = some q46 := h49
    unfold ref21_Nodes_l2b at h49
    refine WP.usreg rfl ?_
    refine U.p rfl rfl (.inl rfl) (S.lss rfl (L 7 rfl rfl) (L 6 rfl rfl)) ?_
    refine U.done (Nat.le_of_ble_eq_true rfl) ?_
    refine WP.seq ?_
    refine WP.cond _ (L 0 rfl rfl) rfl (fun c50 => ?_) (fun c50 => ?_)
    · have h51 := ifT c50 h49
      refine WP.skip ?_
      refine sqN ?_
      refine WP.seqI (fun l V' => ∃ (v53 : Value) (xs54 : List Tref21_Node), l = [(1, .bool p1), (5, v53), (11, v1), (12, .int .i64 (p0.length : Int)), (13, .int .i64 x8), (17, v34), (18, .int .i64 (x23.length : Int)), (19, .int .i64 x39)] ∧ V42.le V' ∧ Ow V' (.os RT_Tref21_Node v53 xs54 :: Rs) ∧ ref21_Nodes_k1 x39 xs54 = some q46) ?_ ?_
      · rintro _ V55 ⟨v53, xs54, rfl, le56, ow57, h58⟩
        unfold ref21_Nodes_k1 at h58
        refine WP.ureg rfl ?_
        refine U.p rfl rfl (.inl rfl) (S.add rfl (L 7 rfl rfl) K) ?_
        refine U.p rfl rfl (.inl rfl) (S.move rfl (L 0 rfl rfl)) ?_
        refine U.done (Nat.le_of_ble_eq_true rfl) ?_
        refine sqN ?_
        exact ⟨_, V55, rfl, ⟨m45, Nat.lt_succ_self _, v53, xs54, w64 (x39 + 1), rfl, (le43.trans le56), ow57, backS h58 e47⟩, (allCons (L 2 rfl rfl) (allCons (L 3 rfl rfl) (allCons (L 4 rfl rfl) (allCons (L 5 rfl rfl) (allCons (L 6 rfl rfl) (allCons (L 7 rfl rfl) (allCons (L 8 rfl rfl) (allCons (L 0 rfl rfl) allNil))))))))⟩
      · skip
        refine WP.blk ?_
        refine WP.usreg rfl ?_
        refine U.p rfl rfl (.inl rfl) (S.move rfl (L 8 rfl rfl)) ?_
        obtain ⟨x59, hx60, h61⟩ := bindS h51
        obtain ⟨b62, o63, c64, cs65, hv66, hf67, hr68, hc69⟩ := f35.at hx60
        obtain rfl : cs65 = [.int .i64 x59.t, .int .i64 x59.act.kind, .int .i64 x59.act.at_, .int .i64 x59.act.val, .int .i64 x59.act.what, .bool x59.act.volatile, .bool x59.act.final, .int .i64 x59.rf, .int .i64 x59.id] := hr68
        refine U.p rfl rfl (.inl rfl) (S.index rfl ((L 7 rfl rfl).trans hv66) (L 9 rfl rfl) Try.underlying27 ti31 (ix_ge hx60) (ix_lt hx60)) ?_
        refine U.k rfl rfl (.inl rfl) (S.loadN (cs := [.int .i64 x59.t, .int .i64 x59.act.kind, .int .i64 x59.act.at_, .int .i64 x59.act.val, .int .i64 x59.act.what, .bool x59.act.volatile, .bool x59.act.final, .int .i64 x59.rf, .int .i64 x59.id]) rfl (L 0 rfl rfl) Try.underlying31 rfl ti31 rfl (fun j v hj => (le14.trans le43).cell hf67 (hc69 j v hj))) nd ?_
        refine O.alloc ow44 rfl rfl (.inl rfl) rfl ti31 rfl rfl nd (fun b70 V71 le72 ow73 => ?_)
        refine U.p rfl rfl (.inl rfl) (S.assign rfl (L 3 rfl rfl)) ?_
        refine O.store (k := 0) (cs := [.int .i64 x59.t, .int .i64 x59.act.kind, .int .i64 x59.act.at_, .int .i64 x59.act.val, .int .i64 x59.act.what, .bool x59.act.volatile, .bool x59.act.final, .int .i64 x59.rf, .int .i64 x59.id]) (c' := [.int .i64 x59.t, .int .i64 x59.act.kind, .int .i64 x59.act.at_, .int .i64 x59.act.val, .int .i64 x59.act.what, .bool x59.act.volatile, .bool x59.act.final, .int .i64 x59.rf, .int .i64 x59.id]) ow73 rfl rfl rfl (.inl rfl) rfl (L 1 rfl rfl) (L 2 rfl rfl) ti31 (by simp [topV]) rfl rfl (Nat.le_of_ble_eq_true rfl) rfl rfl nd (fun V75 le76 ow77 => ?_)
        refine U.done (Nat.le_of_ble_eq_true rfl) ?_
        refine WP.usreg rfl ?_
        refine U.k rfl rfl (.inl rfl) (S.loadB rfl (L 1 rfl rfl) Try.underlying31 rfl ti31 (ow77.own (k := 0) rfl).get rfl) nd ?_
        refine U.p rfl rfl (.inl rfl) (S.move rfl (L 1 rfl rfl)) ?_
        refine U.p (v := .agg #[.int .i64 x59.t, .int .i64 x59.act.kind, .int .i64 x59.act.at_, .int .i64 x59.act.val, .int .i64 x59.act.what, .bool x59.act.volatile, .bool x59.act.final, .int .i64 x59.rf, .int .i64 x59.id, .int .i64 x39]) rfl rfl (.inl rfl) (S.build (vs := [.agg #[.int .i64 x59.t, .int .i64 x59.act.kind, .int .i64 x59.act.at_, .int .i64 x59.act.val, .int .i64 x59.act.what, .bool x59.act.volatile, .bool x59.act.final, .int .i64 x59.rf, .int .i64 x59.id], .int .i64 x39]) rfl ti52 rfl pl52 (aC (L 1 rfl rfl) (aC (L 0 rfl rfl) aN)) (allC (by simp [topV]) (allC (by simp [topV]) allN)) (fillA (ws := [.int .i64 x59.t, .int .i64 x59.act.kind, .int .i64 x59.act.at_, .int .i64 x59.act.val, .int .i64 x59.act.what, .bool x59.act.volatile, .bool x59.act.final, .int .i64 x59.rf, .int .i64 x59.id]) rfl rfl rfl (Nat.le_of_ble_eq_true rfl) (fill1 rfl rfl (Nat.le_of_ble_eq_true rfl) rfl))) ?_
        refine O.alloc ow77 rfl rfl (.inl rfl) rfl ti52 rfl rfl nd (fun b78 V79 le80 ow81 => ?_)
        refine O.store (k := 0) (cs := [.int .i64 x59.t, .int .i64 x59.act.kind, .int .i64 x59.act.at_, .int .i64 x59.act.val, .int .i64 x59.act.what, .bool x59.act.volatile, .bool x59.act.final, .int .i64 x59.rf, .int .i64 x59.id, .int .i64 x39]) (c' := [.int .i64 x59.t, .int .i64 x59.act.kind, .int .i64 x59.act.at_, .int .i64 x59.act.val, .int .i64 x59.act.what, .bool x59.act.volatile, .bool x59.act.final, .int .i64 x59.rf, .int .i64 x59.id, .int .i64 x39]) ow81 rfl rfl rfl (.inl rfl) rfl (L 0 rfl rfl) (L 1 rfl rfl) ti52 (by simp [topV]) rfl rfl (Nat.le_of_ble_eq_true rfl) rfl rfl nd (fun V83 le84 ow85 => ?_)
        refine U.done (Nat.le_of_ble_eq_true rfl) ?_
        refine WP.usreg rfl ?_
        refine U.k rfl rfl (.inl rfl) (S.loadB rfl (L 0 rfl rfl) Try.underlying52 rfl ti52 (ow85.own (k := 0) rfl).get rfl) nd ?_
        obtain ⟨x86, hx87, h88⟩ := bindS h61
        refine O.call (V := V83) rfl rfl (.inl rfl) rfl en44 (aC (L 0 rfl rfl) aN) (wk_ref21_Reads V83 _ (⟨x59, x39⟩ : Tref21_Node) ow85 _ hx87) (fun _ _ _ _ => nd) (fun v89 V90 le91 hp92 => ?_)
        obtain ⟨rfl, ow93⟩ := hp92
        refine U.p rfl rfl (.inl rfl) (S.move rfl (L 0 rfl rfl)) ?_
        obtain ⟨y94, hy95, h96⟩ := bindS h88
        refine U.joinX 6 (fun e H => ∃ (u97 u98 : Value), ∃ V' : Vw, H = V'.H ∧ V90.le V' ∧ e = [(32, .bool y94), (31, u97), (30, u98)] ∧ Ow V' (.pt b78 (.cells 10 [.int .i64 x59.t, .int .i64 x59.act.kind, .int .i64 x59.act.at_, .int .i64 x59.act.val, .int .i64 x59.act.what, .bool x59.act.volatile, .bool x59.act.final, .int .i64 x59.rf, .int .i64 x59.id, .int .i64 x39]) :: .pt b70 (.cells 9 [.int .i64 x59.t, .int .i64 x59.act.kind, .int .i64 x59.act.at_, .int .i64 x59.act.val, .int .i64 x59.act.what, .bool x59.act.volatile, .bool x59.act.final, .int .i64 x59.rf, .int .i64 x59.id]) :: .os RT_Tref21_Node v37 xs38 :: Rs)) ?_ ?_
        · rintro _ _ ⟨u97, u98, V99, rfl, le100, rfl, ow101⟩
          refine U.p rfl rfl (.inl rfl) (S.move rfl (L 0 rfl rfl)) ?_
          obtain ⟨y102, hy103, h104⟩ := bindS h96
          refine U.joinX 14 (fun e H => ∃ (u105 u106 u107 u108 u109 u110 : Value), ∃ V' : Vw, H = V'.H ∧ V99.le V' ∧ e = [(40, .bool y102), (39, u105), (38, u106), (37, u107), (36, u108), (35, u109), (34, u110)] ∧ Ow V' (.pt b78 (.cells 10 [.int .i64 x59.t, .int .i64 x59.act.kind, .int .i64 x59.act.at_, .int .i64 x59.act.val, .int .i64 x59.act.what, .bool x59.act.volatile, .bool x59.act.final, .int .i64 x59.rf, .int .i64 x59.id, .int .i64 x39]) :: .pt b70 (.cells 9 [.int .i64 x59.t, .int .i64 x59.act.kind, .int .i64 x59.act.at_, .int .i64 x59.act.val, .int .i64 x59.act.what, .bool x59.act.volatile, .bool x59.act.final, .int .i64 x59.rf, .int .i64 x59.id]) :: .os RT_Tref21_Node v37 xs38 :: Rs)) ?_ ?_
          · rintro _ _ ⟨u105, u106, u107, u108, u109, u110, V111, rfl, le112, rfl, ow113⟩
            refine U.done (Nat.le_of_ble_eq_true rfl) ?_
            refine WP.cond _ (L 0 rfl rfl) rfl (fun c114 => ?_) (fun c114 => ?_)
            · have h115 := ifT c114 h104
              refine WP.ureg rfl ?_
              refine U.p rfl rfl (.inl rfl) (S.move rfl (L 25 rfl rfl)) ?_
              refine U.k rfl rfl (.inl rfl) (S.loadB rfl (L 15 rfl rfl) Try.underlying52 rfl ti52 (ow113.own (k := 0) rfl).get rfl) nd ?_
              refine O.lit (R := RT_Tref21_Node) ow113 rfl rfl (.inl rfl) rfl Try.underlying47 ti52 rfl rfl rfl (Nat.le_of_ble_eq_true rfl) rfl (aC (L 0 rfl rfl) aN) (.cons _ _ (⟨x59, x39⟩ : Tref21_Node) _ (by simp [topV]) rfl .nil) (fun _ => nd) (fun v116 V117 le118 ow119 => ?_)
              obtain ⟨xs121, hx122, h123⟩ := bindS h115
              refine O.append (k := 3) ow119 rfl rfl rfl (.inl rfl) rfl (L 2 rfl rfl) (L 0 rfl rfl) Try.underlying47 ti52 rfl rfl (Nat.le_of_ble_eq_true rfl) (ow119.src (k := 0) rfl Try.underlying47) hx122 (fun _ _ => nd) (fun v124 V125 le126 ow127 => ?_)
              refine U.p rfl rfl (.inl rfl) (S.assign rfl (L 0 rfl rfl)) ?_
              refine U.done (Nat.le_of_ble_eq_true rfl) ?_
              refine blkN (sqN ?_)
              have ow129 := ow127.drop 0 rfl
              have ow130 := ow129.drop 0 rfl
              have ow131 := ow130.drop 0 rfl
              exact ⟨_, V125, rfl, ⟨v124, xs121, rfl, ((((((((le72.trans le76).trans le80).trans le84).trans le91).trans le100).trans le112).trans le118).trans le126), ow131, h123⟩, (allCons (L 29 rfl rfl) (allCons (L 0 rfl rfl) (allCons (L 31 rfl rfl) (allCons (L 32 rfl rfl) (allCons (L 33 rfl rfl) (allCons (L 34 rfl rfl) (allCons (L 35 rfl rfl) (allCons (L 36 rfl rfl) allNil))))))))⟩
            · have h132 := ifF c114 h104
              refine WP.skip ?_
              refine blkN (sqN ?_)
              have ow133 := ow113.drop 0 rfl
              have ow134 := ow133.drop 0 rfl
              exact ⟨_, V111, rfl, ⟨v37, xs38, rfl, ((((((le72.trans le76).trans le80).trans le84).trans le91).trans le100).trans le112), ow134, h132⟩, (allCons (L 24 rfl rfl) (allCons (L 25 rfl rfl) (allCons (L 26 rfl rfl) (allCons (L 27 rfl rfl) (allCons (L 28 rfl rfl) (allCons (L 29 rfl rfl) (allCons (L 30 rfl rfl) (allCons (L 31 rfl rfl) allNil))))))))⟩
          · intro kk
            refine bcase (b := y94) (fun g135 => ?_) (fun g135 => ?_)
            · have h136 := ifT g135 hy103
              refine U.p rfl rfl (.inr ⟨_, _, _, rfl, rfl, ((L 0 rfl rfl).trans (congrArg Value.bool g135))⟩) (S.move rfl (L 17 rfl rfl)) ?_
              refine U.p rfl rfl (.inr ⟨_, _, _, rfl, rfl, ((L 1 rfl rfl).trans (congrArg Value.bool g135))⟩) (S.not rfl (L 0 rfl rfl)) ?_
              refine U.p rfl rfl (.inr ⟨_, _, _, rfl, rfl, ((L 2 rfl rfl).trans (congrArg Value.bool g135))⟩) (S.move rfl (L 0 rfl rfl)) ?_
              obtain ⟨y137, hy138, h139⟩ := bindS h136
              refine U.joinX 13 (fun e H => ∃ (u140 u141 : Value), ∃ V' : Vw, H = V'.H ∧ V99.le V' ∧ e = [(39, .bool y137), (38, u140), (37, u141)] ∧ Ow V' (.pt b78 (.cells 10 [.int .i64 x59.t, .int .i64 x59.act.kind, .int .i64 x59.act.at_, .int .i64 x59.act.val, .int .i64 x59.act.what, .bool x59.act.volatile, .bool x59.act.final, .int .i64 x59.rf, .int .i64 x59.id, .int .i64 x39]) :: .pt b70 (.cells 9 [.int .i64 x59.t, .int .i64 x59.act.kind, .int .i64 x59.act.at_, .int .i64 x59.act.val, .int .i64 x59.act.what, .bool x59.act.volatile, .bool x59.act.final, .int .i64 x59.rf, .int .i64 x59.id]) :: .os RT_Tref21_Node v37 xs38 :: Rs)) ?_ ?_
              · rintro _ _ ⟨u140, u141, V142, rfl, le143, rfl, ow144⟩
                refine U.p rfl rfl (.inl rfl) (S.pickT rfl ((L 6 rfl rfl).trans (congrArg Value.bool g135)) (L 0 rfl rfl)) ?_
                have e145 := Option.some.inj h139
                subst e145
                exact kk [(40, .bool y137), (39, .bool y137), (38, u140), (37, u141), (36, .bool (!p1)), (35, .bool (!p1)), (34, .bool p1)] _ ⟨.bool y137, u140, u141, .bool (!p1), .bool (!p1), .bool p1, V142, rfl, le143, rfl, ow144⟩
              · intro kk
                refine bcase (b := !p1) (fun g146 => ?_) (fun g146 => ?_)
                · have h147 := ifT g146 hy138
                  have k148 : p1 = false := by simpa using g146
                  refine U.x rfl rfl rfl rfl ((L 0 rfl rfl).trans (congrArg Value.bool g146)) (by decide) ?_
                  refine U.x rfl rfl rfl rfl ((L 1 rfl rfl).trans (congrArg Value.bool g146)) (by decide) ?_
                  refine U.p rfl rfl (.inr ⟨_, _, _, rfl, rfl, ((L 5 rfl rfl).trans (congrArg Value.bool g135))⟩) (S.pickT rfl ((L 2 rfl rfl).trans (congrArg Value.bool g146)) K) ?_
                  have e149 := Option.some.inj h147
                  subst e149
                  exact kk [(39, .bool true), (38, .tuple #[]), (37, .tuple #[])] _ ⟨.tuple #[], .tuple #[], V99, rfl, (.refl _), rfl, ow101⟩
                · have h150 := ifF g146 hy138
                  have k151 : p1 = true := by simpa using g146
                  refine U.k rfl rfl (.inr ⟨_, _, _, rfl, rfl, ((L 0 rfl rfl).trans (congrArg Value.bool g146))⟩) (S.loadB rfl (L 10 rfl rfl) Try.underlying52 rfl ti52 (ow101.own (k := 0) rfl).get rfl) nd ?_
                  obtain ⟨x152, hx153, h154⟩ := bindS h150
                  refine O.call (V := V99) rfl rfl (.inr ⟨_, _, _, rfl, rfl, ((L 1 rfl rfl).trans (congrArg Value.bool g146))⟩) rfl en47 (aC (L 0 rfl rfl) aN) (wk_ref21_Synced V99 _ (⟨x59, x39⟩ : Tref21_Node) ow101 _ hx153) (fun _ _ _ _ => nd) (fun v155 V156 le157 hp158 => ?_)
                  obtain ⟨rfl, ow159⟩ := hp158
                  refine U.p rfl rfl (.inr ⟨_, _, _, rfl, rfl, ((L 5 rfl rfl).trans (congrArg Value.bool g135))⟩) (S.pickF rfl ((L 2 rfl rfl).trans (congrArg Value.bool g146)) (L 0 rfl rfl)) ?_
                  have e160 := Option.some.inj h154
                  subst e160
                  exact kk [(39, .bool x152), (38, .bool x152), (37, .agg #[.int .i64 x59.t, .int .i64 x59.act.kind, .int .i64 x59.act.at_, .int .i64 x59.act.val, .int .i64 x59.act.what, .bool x59.act.volatile, .bool x59.act.final, .int .i64 x59.rf, .int .i64 x59.id, .int .i64 x39])] _ ⟨.bool x152, .agg #[.int .i64 x59.t, .int .i64 x59.act.kind, .int .i64 x59.act.at_, .int .i64 x59.act.val, .int .i64 x59.act.what, .bool x59.act.volatile, .bool x59.act.final, .int .i64 x59.rf, .int .i64 x59.id, .int .i64 x39], V156, rfl, le157, rfl, ow159⟩
            · have h161 := ifF g135 hy103
              refine U.x rfl rfl rfl rfl ((L 0 rfl rfl).trans (congrArg Value.bool g135)) (by decide) ?_
              refine U.x rfl rfl rfl rfl ((L 1 rfl rfl).trans (congrArg Value.bool g135)) (by decide) ?_
              refine U.x rfl rfl rfl rfl ((L 2 rfl rfl).trans (congrArg Value.bool g135)) (by decide) ?_
              refine U.z rfl rfl rfl rfl (L 0 rfl rfl) ?_
              refine U.z rfl rfl rfl rfl (L 1 rfl rfl) ?_
              refine U.x rfl rfl rfl rfl ((L 5 rfl rfl).trans (congrArg Value.bool g135)) (by decide) ?_
              refine U.p rfl rfl (.inl rfl) (S.pickF rfl ((L 6 rfl rfl).trans (congrArg Value.bool g135)) K) ?_
              have e162 := Option.some.inj h161
              subst e162
              exact kk [(40, .bool false), (39, .tuple #[]), (38, .tuple #[]), (37, .tuple #[]), (36, .tuple #[]), (35, .tuple #[]), (34, .tuple #[])] _ ⟨.tuple #[], .tuple #[], .tuple #[], .tuple #[], .tuple #[], .tuple #[], V99, rfl, (.refl _), rfl, ow101⟩
        · intro kk
          refine bcase (b := x86) (fun g163 => ?_) (fun g163 => ?_)
          · have h164 := ifT g163 hy95
            refine U.x rfl rfl rfl rfl ((L 0 rfl rfl).trans (congrArg Value.bool g163)) (by decide) ?_
            refine U.x rfl rfl rfl rfl ((L 1 rfl rfl).trans (congrArg Value.bool g163)) (by decide) ?_
            refine U.p rfl rfl (.inl rfl) (S.pickT rfl ((L 2 rfl rfl).trans (congrArg Value.bool g163)) K) ?_
            have e165 := Option.some.inj h164
            subst e165
            exact kk [(32, .bool true), (31, .tuple #[]), (30, .tuple #[])] _ ⟨.tuple #[], .tuple #[], V90, rfl, (.refl _), rfl, ow93⟩
          · have h166 := ifF g163 hy95
            refine U.k rfl rfl (.inr ⟨_, _, _, rfl, rfl, ((L 0 rfl rfl).trans (congrArg Value.bool g163))⟩) (S.loadB rfl (L 3 rfl rfl) Try.underlying52 rfl ti52 (ow93.own (k := 0) rfl).get rfl) nd ?_
            obtain ⟨x167, hx168, h169⟩ := bindS h166
            refine O.call (V := V90) rfl rfl (.inr ⟨_, _, _, rfl, rfl, ((L 1 rfl rfl).trans (congrArg Value.bool g163))⟩) rfl en45 (aC (L 0 rfl rfl) aN) (wk_ref21_Writes V90 _ (⟨x59, x39⟩ : Tref21_Node) ow93 _ hx168) (fun _ _ _ _ => nd) (fun v170 V171 le172 hp173 => ?_)
            obtain ⟨rfl, ow174⟩ := hp173
            refine U.p rfl rfl (.inl rfl) (S.pickF rfl ((L 2 rfl rfl).trans (congrArg Value.bool g163)) (L 0 rfl rfl)) ?_
            have e175 := Option.some.inj h169
            subst e175
            exact kk [(32, .bool x167), (31, .bool x167), (30, .agg #[.int .i64 x59.t, .int .i64 x59.act.kind, .int .i64 x59.act.at_, .int .i64 x59.act.val, .int .i64 x59.act.what, .bool x59.act.volatile, .bool x59.act.final, .int .i64 x59.rf, .int .i64 x59.id, .int .i64 x39])] _ ⟨.bool x167, .agg #[.int .i64 x59.t, .int .i64 x59.act.kind, .int .i64 x59.act.at_, .int .i64 x59.act.val, .int .i64 x59.act.what, .bool x59.act.volatile, .bool x59.act.final, .int .i64 x59.rf, .int .i64 x59.id, .int .i64 x39], V171, rfl, le172, rfl, ow174⟩
    · have h176 := ifF c50 h49
      refine WP.exit ?_
      refine sqE (sqE (blkE (blkN (sqN ?_))))
      have h177 := exitS h176 e47
      refine WP.ureg rfl ?_
      refine U.p rfl rfl (.inl rfl) (S.add rfl (L 5 rfl rfl) K) ?_
      refine U.p rfl rfl (.inl rfl) (S.move rfl (L 0 rfl rfl)) ?_
      refine U.done (Nat.le_of_ble_eq_true rfl) ?_
      refine sqN ?_
      exact ⟨_, V42, rfl, ⟨m16, Nat.lt_succ_self _, v37, xs38, w64 (x8 + 1), rfl, (le14.trans le43), ow44, backS h177 e18⟩, (allCons (L 3 rfl rfl) (allCons (L 4 rfl rfl) (allCons (L 5 rfl rfl) (allCons (L 6 rfl rfl) (allCons (L 0 rfl rfl) allNil)))))⟩
  · have h178 := ifF c21 h20
    refine WP.exit ?_
    refine sqE (sqE (blkE (sqN ?_)))
    have h179 := exitS h178 e18
    refine WP.usreg rfl ?_
    refine U.p rfl rfl (.inl rfl) (S.move rfl (L 2 rfl rfl)) ?_
    refine U.p rfl rfl (.inl rfl) (S.assign rfl (L 0 rfl rfl)) ?_
    refine U.done (Nat.le_of_ble_eq_true rfl) ?_
    refine WP.ret ?_
    refine fin.slot (.inr rfl) rfl (L 0 rfl rfl) ⟨V13, rfl, le14, ?_⟩
    have e180 := Option.some.inj h179
    subst e180
    exact ⟨v6, rfl, ow15⟩

set_option maxHeartbeats 4000000 in
set_option maxRecDepth 10000 in
theorem wk_ref21_matrix (V : Vw) (Rs : List At) (p0 : Int) (ow : Ow V (Rs)) (r : List (List Bool)) (h : ref21_matrix p0 = some r) : ∃ v V', Cl Try.prog 0 33 #[.int .i64 p0] V.H v V'.H ∧ V.le V' ∧ (∃ (v1 : Value) (hs2 : List Value), v = v1 ∧ Ow V' (.oss (RO.os RT.bool) v1 hs2 r :: Rs)) := by
  refine Ct.of (Nat.zero_le _) Try.func33 rfl (Nat.le_of_ble_eq_true rfl) ?_
  unfold ref21_matrix at h
  refine WP.usreg rfl ?_
  refine U.p rfl rfl (.inl rfl) (S.assign rfl K) ?_
  refine U.done (Nat.le_of_ble_eq_true rfl) ?_
  refine WP.usreg rfl ?_
  refine U.p rfl rfl (.inl rfl) (S.move rfl (L 1 rfl rfl)) ?_
  obtain ⟨xs4, hx5, h6⟩ := bindS h
  refine O.makeS (RO.os RT.bool) ow rfl rfl (.inl rfl) rfl (L 0 rfl rfl) (L 0 rfl rfl) Try.underlying41 ti53 rfl rfl (Nat.le_of_ble_eq_true rfl) ⟨Nat.zero_le _, .inl ⟨rfl, rfl, rfl⟩⟩ hx5 (fun _ => nd) (fun v7 hs8 V9 le10 ow11 => ?_)
  refine U.p rfl rfl (.inl rfl) (S.assign rfl (L 0 rfl rfl)) ?_
  refine U.done (Nat.le_of_ble_eq_true rfl) ?_
  refine WP.seq ?_
  refine WP.usreg rfl ?_
  refine U.p rfl rfl (.inl rfl) (S.move rfl (L 0 rfl rfl)) ?_
  refine U.p rfl rfl (.inl rfl) (ow11.sslen (k := 0) rfl rfl (L 0 rfl rfl) Try.underlying41) ?_
  refine U.p rfl rfl (.inl rfl) (S.move rfl K) ?_
  refine U.done (Nat.le_of_ble_eq_true rfl) ?_
  refine WP.blk ?_
  unfold ref21_matrix_l1 at h6
  obtain ⟨n17, hn16⟩ := loopO_some.1 h6
  refine WP.loopI2 (fun n l V' => ∃ (hs13 : List Value) (xs14 : List (List Bool)) (x15 : Int), l = [(0, .int .i64 p0), (3, v7), (8, .int .i64 (xs4.length : Int)), (9, .int .i64 x15)] ∧ V9.le V' ∧ Ow V' (.oss (RO.os RT.bool) v7 hs13 xs14 :: Rs) ∧ itO (fun s => ref21_matrix_l1b p0 xs4 s.1 s.2) n (xs14, x15) = some r) n17 _ ⟨hs8, xs4, 0, rfl, .refl _, ow11, hn16⟩ (allCons (L 7 rfl rfl) (allCons (L 3 rfl rfl) (allCons (L 1 rfl rfl) (allCons (L 0 rfl rfl) allNil)))) ?_
  rintro _ _ V18 ⟨hs13, xs14, x15, rfl, le19, ow20, h24⟩
  obtain ⟨m21, q22, rfl, h25, e23⟩ := itS h24
  replace h25 : ref21_matrix_l1b p0 xs4 xs14 x15 = some q22 := h25
  unfold ref21_matrix_l1b at h25
  refine WP.usreg rfl ?_
  refine U.p rfl rfl (.inl rfl) (S.lss rfl (L 3 rfl rfl) (L 2 rfl rfl)) ?_
  refine U.done (Nat.le_of_ble_eq_true rfl) ?_
  refine WP.seq ?_
  refine WP.cond _ (L 0 rfl rfl) rfl (fun c26 => ?_) (fun c26 => ?_)
  · have h27 := ifT c26 h25
    refine WP.skip ?_
    refine sqN ?_
    refine WP.seq ?_
    refine WP.blk ?_
    refine WP.usreg rfl ?_
    refine U.p rfl rfl (.inl rfl) (S.move rfl (L 4 rfl rfl)) ?_
    refine U.p rfl rfl (.inl rfl) (S.assign rfl (L 0 rfl rfl)) ?_
    refine U.done (Nat.le_of_ble_eq_true rfl) ?_
    refine WP.ureg rfl ?_
    refine U.p rfl rfl (.inl rfl) (S.move rfl (L 4 rfl rfl)) ?_
    refine U.p rfl rfl (.inl rfl) (S.move rfl (L 1 rfl rfl)) ?_
    refine U.p rfl rfl (.inl rfl) (S.move rfl (L 5 rfl rfl)) ?_
    obtain ⟨xs28, hx29, h30⟩ := bindS h27
    refine O.make (R := RT.bool) ow20 rfl rfl (.inl rfl) rfl (L 0 rfl rfl) (L 0 rfl rfl) Try.underlying53 ti4 rfl rfl rfl (Nat.le_of_ble_eq_true rfl) rfl hx29 (fun _ => nd) (fun v31 V32 le33 ow34 => ?_)
    obtain ⟨x36, hx37, h38⟩ := bindS h30
    obtain ⟨b39, o40, n41, c42, hv43⟩ := ow34.sspt (k := 1) rfl hx37
    refine U.p rfl rfl (.inl rfl) (S.index rfl ((L 3 rfl rfl).trans (ow34.sslen' (k := 1) rfl hv43)) (L 2 rfl rfl) Try.underlying41 ti53 (ix_ge hx37) (ix_lt hx37)) ?_
    obtain ⟨h44, hh45, ow46⟩ := ow34.ssopen (k := 1) rfl hx37
    have ow48 := ow46.drop 0 rfl
    refine O.storeH (k := 1) ow48 rfl hv43 rfl rfl (.inl rfl) rfl (L 0 rfl rfl) (L 1 rfl rfl) ti53 (ow48.osne (k := 0) rfl) (by rw [ow48.oscells (k := 0) rfl]) (ow48.osone (k := 0) rfl) (fun _ _ => nd) (fun V49 le50 ow51 => ?_)
    have hh52 := ow51.shset (k := 1) rfl
    refine U.done (Nat.le_of_ble_eq_true rfl) ?_
    refine blkN (sqN ?_)
    refine WP.ureg rfl ?_
    refine U.p rfl rfl (.inl rfl) (S.add rfl (L 11 rfl rfl) K) ?_
    refine U.p rfl rfl (.inl rfl) (S.move rfl (L 0 rfl rfl)) ?_
    refine U.done (Nat.le_of_ble_eq_true rfl) ?_
    refine sqN ?_
    have ow53 := ow51.ssclose (k := 1) (j := 0) rfl rfl (by decide) hh52
    exact ⟨_, V49, rfl, ⟨m21, Nat.lt_succ_self _, hs13.set (Int.toNat x15) v31, xs14.set (Int.toNat x15) xs28, w64 (x15 + 1), rfl, ((le19.trans le33).trans le50), ow53, backS h38 e23⟩, (allCons (L 10 rfl rfl) (allCons (L 11 rfl rfl) (allCons (L 12 rfl rfl) (allCons (L 0 rfl rfl) allNil))))⟩
  · have h54 := ifF c26 h25
    refine WP.exit ?_
    refine sqE (sqE (blkE (sqN ?_)))
    have h55 := exitS h54 e23
    refine WP.usreg rfl ?_
    refine U.p rfl rfl (.inl rfl) (S.move rfl (L 2 rfl rfl)) ?_
    refine U.p rfl rfl (.inl rfl) (S.assign rfl (L 0 rfl rfl)) ?_
    refine U.done (Nat.le_of_ble_eq_true rfl) ?_
    refine WP.ret ?_
    refine fin.slot (.inr rfl) rfl (L 0 rfl rfl) ⟨V18, rfl, (le10.trans le19), ?_⟩
    have e56 := Option.some.inj h55
    subst e56
    exact ⟨v7, hs13, rfl, ow20⟩

set_option maxHeartbeats 4000000 in
set_option maxRecDepth 10000 in
theorem wk_ref21_Way (V : Vw) (Rs : List At) (p0 : Tref21_Node) (p1 : Tref21_Node) (p2 : Bool) (ow : Ow V (Rs)) (r : Bool) (h : ref21_Way p0 p1 p2 = some r) : ∃ v V', Cl Try.prog 0 34 #[.agg #[.int .i64 p0.e.t, .int .i64 p0.e.act.kind, .int .i64 p0.e.act.at_, .int .i64 p0.e.act.val, .int .i64 p0.e.act.what, .bool p0.e.act.volatile, .bool p0.e.act.final, .int .i64 p0.e.rf, .int .i64 p0.e.id, .int .i64 p0.at_], .agg #[.int .i64 p1.e.t, .int .i64 p1.e.act.kind, .int .i64 p1.e.act.at_, .int .i64 p1.e.act.val, .int .i64 p1.e.act.what, .bool p1.e.act.volatile, .bool p1.e.act.final, .int .i64 p1.e.rf, .int .i64 p1.e.id, .int .i64 p1.at_], .bool p2] V.H v V'.H ∧ V.le V' ∧ (v = .bool r ∧ Ow V' (Rs)) := by
  refine Ct.of (Nat.zero_le _) Try.func34 rfl (Nat.le_of_ble_eq_true rfl) ?_
  unfold ref21_Way at h
  refine WP.usreg rfl ?_
  refine O.box ow rfl rfl (.inl rfl) rfl (L 0 rfl rfl) (by simp [topV]) rfl nd (fun b1 V2 le3 ow4 => ?_)
  refine O.box ow4 rfl rfl (.inl rfl) rfl (L 2 rfl rfl) (by simp [topV]) rfl nd (fun b6 V7 le8 ow9 => ?_)
  refine U.p rfl rfl (.inl rfl) (S.assign rfl K) ?_
  refine U.done (Nat.le_of_ble_eq_true rfl) ?_
  refine WP.usreg rfl ?_
  refine U.p (v := .pointer (some ⟨b1, 0, none⟩)) rfl rfl (.inl rfl) (S.fieldAddr rfl (L 2 rfl rfl) Try.underlying52 rfl ti31 rfl rfl) ?_
  refine U.p (v := .pointer (some ⟨b1, 1, none⟩)) rfl rfl (.inl rfl) (S.fieldAddr rfl (L 0 rfl rfl) Try.underlying31 rfl ti29 rfl rfl) ?_
  refine U.p (v := .pointer (some ⟨b1, 2, none⟩)) rfl rfl (.inl rfl) (S.fieldAddr rfl (L 0 rfl rfl) Try.underlying29 rfl ti3 rfl rfl) ?_
  refine U.k rfl rfl (.inl rfl) (S.load rfl (L 0 rfl rfl) Try.underlying3 rfl ((ow9.own (k := 1) rfl).cell rfl)) nd ?_
  refine U.p (v := .pointer (some ⟨b6, 0, none⟩)) rfl rfl (.inl rfl) (S.fieldAddr rfl (L 5 rfl rfl) Try.underlying52 rfl ti31 rfl rfl) ?_
  refine U.p (v := .pointer (some ⟨b6, 1, none⟩)) rfl rfl (.inl rfl) (S.fieldAddr rfl (L 0 rfl rfl) Try.underlying31 rfl ti29 rfl rfl) ?_
  refine U.p (v := .pointer (some ⟨b6, 2, none⟩)) rfl rfl (.inl rfl) (S.fieldAddr rfl (L 0 rfl rfl) Try.underlying29 rfl ti3 rfl rfl) ?_
  refine U.k rfl rfl (.inl rfl) (S.load rfl (L 0 rfl rfl) Try.underlying3 rfl ((ow9.own (k := 0) rfl).cell rfl)) nd ?_
  refine U.p rfl rfl (.inl rfl) (S.eqlI rfl (L 4 rfl rfl) (L 0 rfl rfl)) ?_
  refine U.p rfl rfl (.inl rfl) (S.assign rfl (L 0 rfl rfl)) ?_
  refine U.done (Nat.le_of_ble_eq_true rfl) ?_
  refine WP.seq ?_
  refine WP.usreg rfl ?_
  refine U.p (v := .pointer (some ⟨b1, 0, none⟩)) rfl rfl (.inl rfl) (S.fieldAddr rfl (L 12 rfl rfl) Try.underlying52 rfl ti31 rfl rfl) ?_
  refine U.p (v := .pointer (some ⟨b1, 0, none⟩)) rfl rfl (.inl rfl) (S.fieldAddr rfl (L 0 rfl rfl) Try.underlying31 rfl ti3 rfl rfl) ?_
  refine U.k rfl rfl (.inl rfl) (S.load rfl (L 0 rfl rfl) Try.underlying3 rfl ((ow9.own (k := 1) rfl).cell rfl)) nd ?_
  refine U.p (v := .pointer (some ⟨b6, 0, none⟩)) rfl rfl (.inl rfl) (S.fieldAddr rfl (L 14 rfl rfl) Try.underlying52 rfl ti31 rfl rfl) ?_
  refine U.p (v := .pointer (some ⟨b6, 0, none⟩)) rfl rfl (.inl rfl) (S.fieldAddr rfl (L 0 rfl rfl) Try.underlying31 rfl ti3 rfl rfl) ?_
  refine U.k rfl rfl (.inl rfl) (S.load rfl (L 0 rfl rfl) Try.underlying3 rfl ((ow9.own (k := 0) rfl).cell rfl)) nd ?_
  refine U.p rfl rfl (.inl rfl) (S.eqlI rfl (L 3 rfl rfl) (L 0 rfl rfl)) ?_
  refine U.p rfl rfl (.inl rfl) (S.move rfl (L 0 rfl rfl)) ?_
  refine U.joinX 14 (fun e H => ∃ (u11 u12 u13 u14 u15 : Value), H = V7.H ∧ e = [(30, .bool ((decide (p0.e.t = p1.e.t)) && (decide (p0.at_ < p1.at_)))), (29, u11), (28, u12), (27, u13), (26, u14), (25, u15)]) ?_ ?_
  · rintro _ _ ⟨u11, u12, u13, u14, u15, rfl, rfl⟩
    refine U.p rfl rfl (.inl rfl) (S.move rfl (L 0 rfl rfl)) ?_
    refine U.joinX 21 (fun e H => ∃ (u19 u20 u21 u22 u23 : Value), H = V7.H ∧ e = [(37, .bool (((decide (p0.e.t = p1.e.t)) && (decide (p0.at_ < p1.at_))) && ((decide (p0.e.act.at_ = p1.e.act.at_)) || (!p2)))), (36, u19), (35, u20), (34, u21), (33, u22), (32, u23)]) ?_ ?_
    · rintro _ _ ⟨u19, u20, u21, u22, u23, rfl, rfl⟩
      refine U.done (Nat.le_of_ble_eq_true rfl) ?_
      refine WP.cond _ (L 0 rfl rfl) rfl (fun c27 => ?_) (fun c27 => ?_)
      · have h28 := ifT c27 h
        refine WP.usreg rfl ?_
        refine U.p rfl rfl (.inl rfl) (S.assign rfl K) ?_
        refine U.done (Nat.le_of_ble_eq_true rfl) ?_
        refine WP.ret ?_
        refine sqR ?_
        refine fin.slot (.inr rfl) rfl (L 0 rfl rfl) ⟨V7, rfl, (le3.trans le8), ?_⟩
        have ow29 := ow9.drop 0 rfl
        have ow30 := ow29.drop 0 rfl
        have e31 := Option.some.inj h28
        subst e31
        exact ⟨rfl, ow30⟩
      · have h32 := ifF c27 h
        refine WP.skip ?_
        refine sqN ?_
        refine WP.seq ?_
        refine WP.usreg rfl ?_
        refine U.k rfl rfl (.inl rfl) (S.loadB rfl (L 32 rfl rfl) Try.underlying52 rfl ti52 (ow9.own (k := 0) rfl).get rfl) nd ?_
        obtain ⟨x33, hx34, h35⟩ := bindS h32
        refine O.call (V := V7) rfl rfl (.inl rfl) rfl en44 (aC (L 0 rfl rfl) aN) (wk_ref21_Reads V7 _ p1 ow9 _ hx34) (fun _ _ _ _ => nd) (fun v36 V37 le38 hp39 => ?_)
        obtain ⟨rfl, ow40⟩ := hp39
        refine U.p rfl rfl (.inl rfl) (S.move rfl (L 0 rfl rfl)) ?_
        refine U.joinX 8 (fun e H => ∃ (u41 u42 u43 u44 : Value), H = V37.H ∧ e = [(45, .bool (x33 && (decide (0 < p0.e.id)))), (44, u41), (43, u42), (42, u43), (41, u44)]) ?_ ?_
        · rintro _ _ ⟨u41, u42, u43, u44, rfl, rfl⟩
          refine U.p rfl rfl (.inl rfl) (S.move rfl (L 0 rfl rfl)) ?_
          refine U.joinX 17 (fun e H => ∃ (u48 u49 u50 u51 u52 u53 u54 : Value), H = V37.H ∧ e = [(54, .bool ((x33 && (decide (0 < p0.e.id))) && (decide (p1.e.rf = p0.e.id)))), (53, u48), (52, u49), (51, u50), (50, u51), (49, u52), (48, u53), (47, u54)]) ?_ ?_
          · rintro _ _ ⟨u48, u49, u50, u51, u52, u53, u54, rfl, rfl⟩
            refine U.done (Nat.le_of_ble_eq_true rfl) ?_
            refine WP.cond _ (L 0 rfl rfl) rfl (fun c58 => ?_) (fun c58 => ?_)
            · have h59 := ifT c58 h35
              refine WP.usreg rfl ?_
              refine U.p rfl rfl (.inl rfl) (S.assign rfl K) ?_
              refine U.done (Nat.le_of_ble_eq_true rfl) ?_
              refine WP.ret ?_
              refine sqR ?_
              refine fin.slot (.inr rfl) rfl (L 0 rfl rfl) ⟨V37, rfl, ((le3.trans le8).trans le38), ?_⟩
              have ow60 := ow40.drop 0 rfl
              have ow61 := ow60.drop 0 rfl
              have e62 := Option.some.inj h59
              subst e62
              exact ⟨rfl, ow61⟩
            · have h63 := ifF c58 h35
              refine WP.skip ?_
              refine sqN ?_
              refine WP.seq ?_
              refine WP.usreg rfl ?_
              refine U.k rfl rfl (.inl rfl) (S.loadB rfl (L 50 rfl rfl) Try.underlying52 rfl ti52 (ow40.own (k := 1) rfl).get rfl) nd ?_
              obtain ⟨x64, hx65, h66⟩ := bindS h63
              refine O.call (V := V37) rfl rfl (.inl rfl) rfl en45 (aC (L 0 rfl rfl) aN) (wk_ref21_Writes V37 _ p0 ow40 _ hx65) (fun _ _ _ _ => nd) (fun v67 V68 le69 hp70 => ?_)
              obtain ⟨rfl, ow71⟩ := hp70
              refine U.p rfl rfl (.inl rfl) (S.move rfl (L 0 rfl rfl)) ?_
              obtain ⟨y72, hy73, h74⟩ := bindS h66
              refine U.joinX 6 (fun e H => ∃ (u75 u76 : Value), ∃ V' : Vw, H = V'.H ∧ V68.le V' ∧ e = [(60, .bool y72), (59, u75), (58, u76)] ∧ Ow V' (.pt b6 (.cells 0 [.int .i64 p1.e.t, .int .i64 p1.e.act.kind, .int .i64 p1.e.act.at_, .int .i64 p1.e.act.val, .int .i64 p1.e.act.what, .bool p1.e.act.volatile, .bool p1.e.act.final, .int .i64 p1.e.rf, .int .i64 p1.e.id, .int .i64 p1.at_]) :: .pt b1 (.cells 0 [.int .i64 p0.e.t, .int .i64 p0.e.act.kind, .int .i64 p0.e.act.at_, .int .i64 p0.e.act.val, .int .i64 p0.e.act.what, .bool p0.e.act.volatile, .bool p0.e.act.final, .int .i64 p0.e.rf, .int .i64 p0.e.id, .int .i64 p0.at_]) :: Rs)) ?_ ?_
              · rintro _ _ ⟨u75, u76, V77, rfl, le78, rfl, ow79⟩
                refine U.p rfl rfl (.inl rfl) (S.move rfl (L 0 rfl rfl)) ?_
                refine U.joinX 9 (fun e H => ∃ (u80 : Value), H = V77.H ∧ e = [(63, .bool (y72 && (decide (p0.e.act.at_ = p1.e.act.at_)))), (62, u80)]) ?_ ?_
                · rintro _ _ ⟨u80, rfl, rfl⟩
                  refine U.p rfl rfl (.inl rfl) (S.move rfl (L 0 rfl rfl)) ?_
                  refine U.joinX 18 (fun e H => ∃ (u84 u85 u86 u87 u88 u89 u90 : Value), H = V77.H ∧ e = [(72, .bool ((y72 && (decide (p0.e.act.at_ = p1.e.act.at_))) && (decide (p0.e.id < p1.e.id)))), (71, u84), (70, u85), (69, u86), (68, u87), (67, u88), (66, u89), (65, u90)]) ?_ ?_
                  · rintro _ _ ⟨u84, u85, u86, u87, u88, u89, u90, rfl, rfl⟩
                    refine U.done (Nat.le_of_ble_eq_true rfl) ?_
                    refine WP.cond _ (L 0 rfl rfl) rfl (fun c94 => ?_) (fun c94 => ?_)
                    · have h95 := ifT c94 h74
                      refine WP.usreg rfl ?_
                      refine U.p rfl rfl (.inl rfl) (S.assign rfl K) ?_
                      refine U.done (Nat.le_of_ble_eq_true rfl) ?_
                      refine WP.ret ?_
                      refine sqR ?_
                      refine fin.slot (.inr rfl) rfl (L 0 rfl rfl) ⟨V77, rfl, ((((le3.trans le8).trans le38).trans le69).trans le78), ?_⟩
                      have ow96 := ow79.drop 0 rfl
                      have ow97 := ow96.drop 0 rfl
                      have e98 := Option.some.inj h95
                      subst e98
                      exact ⟨rfl, ow97⟩
                    · have h99 := ifF c94 h74
                      refine WP.skip ?_
                      refine sqN ?_
                      refine WP.usreg rfl ?_
                      refine U.k rfl rfl (.inl rfl) (S.loadB rfl (L 68 rfl rfl) Try.underlying52 rfl ti52 (ow79.own (k := 1) rfl).get rfl) nd ?_
                      obtain ⟨x100, hx101, h102⟩ := bindS h99
                      refine O.call (V := V77) rfl rfl (.inl rfl) rfl en44 (aC (L 0 rfl rfl) aN) (wk_ref21_Reads V77 _ p0 ow79 _ hx101) (fun _ _ _ _ => nd) (fun v103 V104 le105 hp106 => ?_)
                      obtain ⟨rfl, ow107⟩ := hp106
                      refine U.p rfl rfl (.inl rfl) (S.move rfl (L 0 rfl rfl)) ?_
                      obtain ⟨y108, hy109, h110⟩ := bindS h102
                      refine U.joinX 6 (fun e H => ∃ (u111 u112 : Value), ∃ V' : Vw, H = V'.H ∧ V104.le V' ∧ e = [(78, .bool y108), (77, u111), (76, u112)] ∧ Ow V' (.pt b6 (.cells 0 [.int .i64 p1.e.t, .int .i64 p1.e.act.kind, .int .i64 p1.e.act.at_, .int .i64 p1.e.act.val, .int .i64 p1.e.act.what, .bool p1.e.act.volatile, .bool p1.e.act.final, .int .i64 p1.e.rf, .int .i64 p1.e.id, .int .i64 p1.at_]) :: .pt b1 (.cells 0 [.int .i64 p0.e.t, .int .i64 p0.e.act.kind, .int .i64 p0.e.act.at_, .int .i64 p0.e.act.val, .int .i64 p0.e.act.what, .bool p0.e.act.volatile, .bool p0.e.act.final, .int .i64 p0.e.rf, .int .i64 p0.e.id, .int .i64 p0.at_]) :: Rs)) ?_ ?_
                      · rintro _ _ ⟨u111, u112, V113, rfl, le114, rfl, ow115⟩
                        refine U.p rfl rfl (.inl rfl) (S.move rfl (L 0 rfl rfl)) ?_
                        refine U.joinX 9 (fun e H => ∃ (u116 : Value), H = V113.H ∧ e = [(81, .bool (y108 && (decide (p0.e.act.at_ = p1.e.act.at_)))), (80, u116)]) ?_ ?_
                        · rintro _ _ ⟨u116, rfl, rfl⟩
                          refine U.p rfl rfl (.inl rfl) (S.move rfl (L 0 rfl rfl)) ?_
                          refine U.joinX 18 (fun e H => ∃ (u120 u121 u122 u123 u124 u125 u126 : Value), H = V113.H ∧ e = [(90, .bool ((y108 && (decide (p0.e.act.at_ = p1.e.act.at_))) && (decide (p0.e.rf < p1.e.id)))), (89, u120), (88, u121), (87, u122), (86, u123), (85, u124), (84, u125), (83, u126)]) ?_ ?_
                          · rintro _ _ ⟨u120, u121, u122, u123, u124, u125, u126, rfl, rfl⟩
                            refine U.p rfl rfl (.inl rfl) (S.move rfl (L 0 rfl rfl)) ?_
                            refine U.joinX 23 (fun e H => ∃ (u130 u131 u132 : Value), H = V113.H ∧ e = [(95, .bool (((y108 && (decide (p0.e.act.at_ = p1.e.act.at_))) && (decide (p0.e.rf < p1.e.id))) && (!(((decide (p0.e.t = p1.e.t)) && (((decide (p0.e.act.kind = p1.e.act.kind)) && ((decide (p0.e.act.at_ = p1.e.act.at_)) && ((decide (p0.e.act.val = p1.e.act.val)) && ((decide (p0.e.act.what = p1.e.act.what)) && ((p0.e.act.volatile == p1.e.act.volatile) && ((p0.e.act.final == p1.e.act.final) && true)))))) && ((decide (p0.e.rf = p1.e.rf)) && ((decide (p0.e.id = p1.e.id)) && true)))) && ((decide (p0.at_ = p1.at_)) && true))))), (94, u130), (93, u131), (92, u132)]) ?_ ?_
                            · rintro _ _ ⟨u130, u131, u132, rfl, rfl⟩
                              refine U.p rfl rfl (.inl rfl) (S.assign rfl (L 0 rfl rfl)) ?_
                              refine U.done (Nat.le_of_ble_eq_true rfl) ?_
                              refine WP.ret ?_
                              refine fin.slot (.inr rfl) rfl (L 0 rfl rfl) ⟨V113, rfl, ((((((le3.trans le8).trans le38).trans le69).trans le78).trans le105).trans le114), ?_⟩
                              have ow136 := ow115.drop 0 rfl
                              have ow137 := ow136.drop 0 rfl
                              have e138 := Option.some.inj h110
                              subst e138
                              exact ⟨rfl, ow137⟩
                            · intro kk
                              refine bcase (b := (y108 && (decide (p0.e.act.at_ = p1.e.act.at_))) && (decide (p0.e.rf < p1.e.id))) (fun g139 => ?_) (fun g139 => ?_)
                              · skip
                                refine U.k rfl rfl (.inr ⟨_, _, _, rfl, rfl, ((L 0 rfl rfl).trans (congrArg Value.bool g139))⟩) (S.loadB rfl (L 87 rfl rfl) Try.underlying52 rfl ti52 (ow115.own (k := 1) rfl).get rfl) nd ?_
                                refine U.k rfl rfl (.inr ⟨_, _, _, rfl, rfl, ((L 1 rfl rfl).trans (congrArg Value.bool g139))⟩) (S.loadB rfl (L 87 rfl rfl) Try.underlying52 rfl ti52 (ow115.own (k := 0) rfl).get rfl) nd ?_
                                refine U.p rfl rfl (.inr ⟨_, _, _, rfl, rfl, ((L 2 rfl rfl).trans (congrArg Value.bool g139))⟩) (S.neqT (flA (flC (.int _ _) (flC (.int _ _) (flC (.int _ _) (flC (.int _ _) (flC (.int _ _) (flC (.bool _) (flC (.bool _) (flC (.int _ _) (flC (.int _ _) (flC (.int _ _) flN))))))))))) (flA (flC (.int _ _) (flC (.int _ _) (flC (.int _ _) (flC (.int _ _) (flC (.int _ _) (flC (.bool _) (flC (.bool _) (flC (.int _ _) (flC (.int _ _) (flC (.int _ _) flN))))))))))) rfl (L 1 rfl rfl) (L 0 rfl rfl) Try.underlying52 (by kernel_rfl) (by kernel_rfl) (.cons _ _ _ _ _ _ (by decide) (part_agg Try.underlying31 rfl ti31) (part_agg Try.underlying31 rfl ti31) (eqIn_struct Try.underlying31 (by kernel_rfl) (.cons _ _ _ _ _ _ (by decide) (part_cell Try.underlying3 rfl rfl) (part_cell Try.underlying3 rfl rfl) (eqIn_int Try.underlying3 9997) (.cons _ _ _ _ _ _ (by decide) (part_agg Try.underlying29 rfl ti29) (part_agg Try.underlying29 rfl ti29) (eqIn_struct Try.underlying29 (by kernel_rfl) (.cons _ _ _ _ _ _ (by decide) (part_cell Try.underlying3 rfl rfl) (part_cell Try.underlying3 rfl rfl) (eqIn_int Try.underlying3 9996) (.cons _ _ _ _ _ _ (by decide) (part_cell Try.underlying3 rfl rfl) (part_cell Try.underlying3 rfl rfl) (eqIn_int Try.underlying3 9996) (.cons _ _ _ _ _ _ (by decide) (part_cell Try.underlying3 rfl rfl) (part_cell Try.underlying3 rfl rfl) (eqIn_int Try.underlying3 9996) (.cons _ _ _ _ _ _ (by decide) (part_cell Try.underlying3 rfl rfl) (part_cell Try.underlying3 rfl rfl) (eqIn_int Try.underlying3 9996) (.cons _ _ _ _ _ _ (by decide) (part_cell Try.underlying4 rfl rfl) (part_cell Try.underlying4 rfl rfl) (eqIn_b Try.underlying4 9996) (.cons _ _ _ _ _ _ (by decide) (part_cell Try.underlying4 rfl rfl) (part_cell Try.underlying4 rfl rfl) (eqIn_b Try.underlying4 9996) .nil))))))) (.cons _ _ _ _ _ _ (by decide) (part_cell Try.underlying3 rfl rfl) (part_cell Try.underlying3 rfl rfl) (eqIn_int Try.underlying3 9997) (.cons _ _ _ _ _ _ (by decide) (part_cell Try.underlying3 rfl rfl) (part_cell Try.underlying3 rfl rfl) (eqIn_int Try.underlying3 9997) .nil))))) (.cons _ _ _ _ _ _ (by decide) (part_cell Try.underlying3 rfl rfl) (part_cell Try.underlying3 rfl rfl) (eqIn_int Try.underlying3 9998) .nil))) ?_
                                refine U.p rfl rfl (.inl rfl) (S.pickT rfl ((L 3 rfl rfl).trans (congrArg Value.bool g139)) (L 0 rfl rfl)) ?_
                                exact kk [(95, .bool (!(((decide (p0.e.t = p1.e.t)) && (((decide (p0.e.act.kind = p1.e.act.kind)) && ((decide (p0.e.act.at_ = p1.e.act.at_)) && ((decide (p0.e.act.val = p1.e.act.val)) && ((decide (p0.e.act.what = p1.e.act.what)) && ((p0.e.act.volatile == p1.e.act.volatile) && ((p0.e.act.final == p1.e.act.final) && true)))))) && ((decide (p0.e.rf = p1.e.rf)) && ((decide (p0.e.id = p1.e.id)) && true)))) && ((decide (p0.at_ = p1.at_)) && true)))), (94, .bool (!(((decide (p0.e.t = p1.e.t)) && (((decide (p0.e.act.kind = p1.e.act.kind)) && ((decide (p0.e.act.at_ = p1.e.act.at_)) && ((decide (p0.e.act.val = p1.e.act.val)) && ((decide (p0.e.act.what = p1.e.act.what)) && ((p0.e.act.volatile == p1.e.act.volatile) && ((p0.e.act.final == p1.e.act.final) && true)))))) && ((decide (p0.e.rf = p1.e.rf)) && ((decide (p0.e.id = p1.e.id)) && true)))) && ((decide (p0.at_ = p1.at_)) && true)))), (93, .agg #[.int .i64 p1.e.t, .int .i64 p1.e.act.kind, .int .i64 p1.e.act.at_, .int .i64 p1.e.act.val, .int .i64 p1.e.act.what, .bool p1.e.act.volatile, .bool p1.e.act.final, .int .i64 p1.e.rf, .int .i64 p1.e.id, .int .i64 p1.at_]), (92, .agg #[.int .i64 p0.e.t, .int .i64 p0.e.act.kind, .int .i64 p0.e.act.at_, .int .i64 p0.e.act.val, .int .i64 p0.e.act.what, .bool p0.e.act.volatile, .bool p0.e.act.final, .int .i64 p0.e.rf, .int .i64 p0.e.id, .int .i64 p0.at_])] _ ⟨.bool (!(((decide (p0.e.t = p1.e.t)) && (((decide (p0.e.act.kind = p1.e.act.kind)) && ((decide (p0.e.act.at_ = p1.e.act.at_)) && ((decide (p0.e.act.val = p1.e.act.val)) && ((decide (p0.e.act.what = p1.e.act.what)) && ((p0.e.act.volatile == p1.e.act.volatile) && ((p0.e.act.final == p1.e.act.final) && true)))))) && ((decide (p0.e.rf = p1.e.rf)) && ((decide (p0.e.id = p1.e.id)) && true)))) && ((decide (p0.at_ = p1.at_)) && true))), .agg #[.int .i64 p1.e.t, .int .i64 p1.e.act.kind, .int .i64 p1.e.act.at_, .int .i64 p1.e.act.val, .int .i64 p1.e.act.what, .bool p1.e.act.volatile, .bool p1.e.act.final, .int .i64 p1.e.rf, .int .i64 p1.e.id, .int .i64 p1.at_], .agg #[.int .i64 p0.e.t, .int .i64 p0.e.act.kind, .int .i64 p0.e.act.at_, .int .i64 p0.e.act.val, .int .i64 p0.e.act.what, .bool p0.e.act.volatile, .bool p0.e.act.final, .int .i64 p0.e.rf, .int .i64 p0.e.id, .int .i64 p0.at_], rfl, (by rw [g139, Bool.true_and])⟩
                              · skip
                                refine U.x rfl rfl rfl rfl ((L 0 rfl rfl).trans (congrArg Value.bool g139)) (by decide) ?_
                                refine U.x rfl rfl rfl rfl ((L 1 rfl rfl).trans (congrArg Value.bool g139)) (by decide) ?_
                                refine U.x rfl rfl rfl rfl ((L 2 rfl rfl).trans (congrArg Value.bool g139)) (by decide) ?_
                                refine U.p rfl rfl (.inl rfl) (S.pickF rfl ((L 3 rfl rfl).trans (congrArg Value.bool g139)) K) ?_
                                exact kk [(95, .bool false), (94, .tuple #[]), (93, .tuple #[]), (92, .tuple #[])] _ ⟨.tuple #[], .tuple #[], .tuple #[], rfl, (by rw [g139, Bool.false_and])⟩
                          · intro kk
                            refine bcase (b := y108 && (decide (p0.e.act.at_ = p1.e.act.at_))) (fun g140 => ?_) (fun g140 => ?_)
                            · skip
                              refine U.p (v := .pointer (some ⟨b1, 0, none⟩)) rfl rfl (.inr ⟨_, _, _, rfl, rfl, ((L 0 rfl rfl).trans (congrArg Value.bool g140))⟩) (S.fieldAddr rfl (L 78 rfl rfl) Try.underlying52 rfl ti31 rfl rfl) ?_
                              refine U.p (v := .pointer (some ⟨b1, 7, none⟩)) rfl rfl (.inr ⟨_, _, _, rfl, rfl, ((L 1 rfl rfl).trans (congrArg Value.bool g140))⟩) (S.fieldAddr rfl (L 0 rfl rfl) Try.underlying31 rfl ti3 rfl rfl) ?_
                              refine U.k rfl rfl (.inr ⟨_, _, _, rfl, rfl, ((L 2 rfl rfl).trans (congrArg Value.bool g140))⟩) (S.load rfl (L 0 rfl rfl) Try.underlying3 rfl ((ow115.own (k := 1) rfl).cell rfl)) nd ?_
                              refine U.p (v := .pointer (some ⟨b6, 0, none⟩)) rfl rfl (.inr ⟨_, _, _, rfl, rfl, ((L 3 rfl rfl).trans (congrArg Value.bool g140))⟩) (S.fieldAddr rfl (L 80 rfl rfl) Try.underlying52 rfl ti31 rfl rfl) ?_
                              refine U.p (v := .pointer (some ⟨b6, 8, none⟩)) rfl rfl (.inr ⟨_, _, _, rfl, rfl, ((L 4 rfl rfl).trans (congrArg Value.bool g140))⟩) (S.fieldAddr rfl (L 0 rfl rfl) Try.underlying31 rfl ti3 rfl rfl) ?_
                              refine U.k rfl rfl (.inr ⟨_, _, _, rfl, rfl, ((L 5 rfl rfl).trans (congrArg Value.bool g140))⟩) (S.load rfl (L 0 rfl rfl) Try.underlying3 rfl ((ow115.own (k := 0) rfl).cell rfl)) nd ?_
                              refine U.p rfl rfl (.inr ⟨_, _, _, rfl, rfl, ((L 6 rfl rfl).trans (congrArg Value.bool g140))⟩) (S.lss rfl (L 3 rfl rfl) (L 0 rfl rfl)) ?_
                              refine U.p rfl rfl (.inl rfl) (S.pickT rfl ((L 7 rfl rfl).trans (congrArg Value.bool g140)) (L 0 rfl rfl)) ?_
                              exact kk [(90, .bool (decide (p0.e.rf < p1.e.id))), (89, .bool (decide (p0.e.rf < p1.e.id))), (88, .int .i64 p1.e.id), (87, .pointer (some ⟨b6, 8, none⟩)), (86, .pointer (some ⟨b6, 0, none⟩)), (85, .int .i64 p0.e.rf), (84, .pointer (some ⟨b1, 7, none⟩)), (83, .pointer (some ⟨b1, 0, none⟩))] _ ⟨.bool (decide (p0.e.rf < p1.e.id)), .int .i64 p1.e.id, .pointer (some ⟨b6, 8, none⟩), .pointer (some ⟨b6, 0, none⟩), .int .i64 p0.e.rf, .pointer (some ⟨b1, 7, none⟩), .pointer (some ⟨b1, 0, none⟩), rfl, (by rw [g140, Bool.true_and])⟩
                            · skip
                              refine U.x rfl rfl rfl rfl ((L 0 rfl rfl).trans (congrArg Value.bool g140)) (by decide) ?_
                              refine U.x rfl rfl rfl rfl ((L 1 rfl rfl).trans (congrArg Value.bool g140)) (by decide) ?_
                              refine U.x rfl rfl rfl rfl ((L 2 rfl rfl).trans (congrArg Value.bool g140)) (by decide) ?_
                              refine U.x rfl rfl rfl rfl ((L 3 rfl rfl).trans (congrArg Value.bool g140)) (by decide) ?_
                              refine U.x rfl rfl rfl rfl ((L 4 rfl rfl).trans (congrArg Value.bool g140)) (by decide) ?_
                              refine U.x rfl rfl rfl rfl ((L 5 rfl rfl).trans (congrArg Value.bool g140)) (by decide) ?_
                              refine U.x rfl rfl rfl rfl ((L 6 rfl rfl).trans (congrArg Value.bool g140)) (by decide) ?_
                              refine U.p rfl rfl (.inl rfl) (S.pickF rfl ((L 7 rfl rfl).trans (congrArg Value.bool g140)) K) ?_
                              exact kk [(90, .bool false), (89, .tuple #[]), (88, .tuple #[]), (87, .tuple #[]), (86, .tuple #[]), (85, .tuple #[]), (84, .tuple #[]), (83, .tuple #[])] _ ⟨.tuple #[], .tuple #[], .tuple #[], .tuple #[], .tuple #[], .tuple #[], .tuple #[], rfl, (by rw [g140, Bool.false_and])⟩
                        · intro kk
                          refine bcase (b := y108) (fun g141 => ?_) (fun g141 => ?_)
                          · skip
                            refine U.p rfl rfl (.inr ⟨_, _, _, rfl, rfl, ((L 0 rfl rfl).trans (congrArg Value.bool g141))⟩) (S.move rfl (L 63 rfl rfl)) ?_
                            refine U.p rfl rfl (.inl rfl) (S.pickT rfl ((L 1 rfl rfl).trans (congrArg Value.bool g141)) (L 0 rfl rfl)) ?_
                            exact kk [(81, .bool (decide (p0.e.act.at_ = p1.e.act.at_))), (80, .bool (decide (p0.e.act.at_ = p1.e.act.at_)))] _ ⟨.bool (decide (p0.e.act.at_ = p1.e.act.at_)), rfl, (by rw [g141, Bool.true_and])⟩
                          · skip
                            refine U.x rfl rfl rfl rfl ((L 0 rfl rfl).trans (congrArg Value.bool g141)) (by decide) ?_
                            refine U.p rfl rfl (.inl rfl) (S.pickF rfl ((L 1 rfl rfl).trans (congrArg Value.bool g141)) K) ?_
                            exact kk [(81, .bool false), (80, .tuple #[])] _ ⟨.tuple #[], rfl, (by rw [g141, Bool.false_and])⟩
                      · intro kk
                        refine bcase (b := x100) (fun g142 => ?_) (fun g142 => ?_)
                        · have h143 := ifT g142 hy109
                          refine U.k rfl rfl (.inr ⟨_, _, _, rfl, rfl, ((L 0 rfl rfl).trans (congrArg Value.bool g142))⟩) (S.loadB rfl (L 70 rfl rfl) Try.underlying52 rfl ti52 (ow107.own (k := 0) rfl).get rfl) nd ?_
                          obtain ⟨x144, hx145, h146⟩ := bindS h143
                          refine O.call (V := V104) rfl rfl (.inr ⟨_, _, _, rfl, rfl, ((L 1 rfl rfl).trans (congrArg Value.bool g142))⟩) rfl en45 (aC (L 0 rfl rfl) aN) (wk_ref21_Writes V104 _ p1 ow107 _ hx145) (fun _ _ _ _ => nd) (fun v147 V148 le149 hp150 => ?_)
                          obtain ⟨rfl, ow151⟩ := hp150
                          refine U.p rfl rfl (.inl rfl) (S.pickT rfl ((L 2 rfl rfl).trans (congrArg Value.bool g142)) (L 0 rfl rfl)) ?_
                          have e152 := Option.some.inj h146
                          subst e152
                          exact kk [(78, .bool x144), (77, .bool x144), (76, .agg #[.int .i64 p1.e.t, .int .i64 p1.e.act.kind, .int .i64 p1.e.act.at_, .int .i64 p1.e.act.val, .int .i64 p1.e.act.what, .bool p1.e.act.volatile, .bool p1.e.act.final, .int .i64 p1.e.rf, .int .i64 p1.e.id, .int .i64 p1.at_])] _ ⟨.bool x144, .agg #[.int .i64 p1.e.t, .int .i64 p1.e.act.kind, .int .i64 p1.e.act.at_, .int .i64 p1.e.act.val, .int .i64 p1.e.act.what, .bool p1.e.act.volatile, .bool p1.e.act.final, .int .i64 p1.e.rf, .int .i64 p1.e.id, .int .i64 p1.at_], V148, rfl, le149, rfl, ow151⟩
                        · have h153 := ifF g142 hy109
                          refine U.x rfl rfl rfl rfl ((L 0 rfl rfl).trans (congrArg Value.bool g142)) (by decide) ?_
                          refine U.x rfl rfl rfl rfl ((L 1 rfl rfl).trans (congrArg Value.bool g142)) (by decide) ?_
                          refine U.p rfl rfl (.inl rfl) (S.pickF rfl ((L 2 rfl rfl).trans (congrArg Value.bool g142)) K) ?_
                          have e154 := Option.some.inj h153
                          subst e154
                          exact kk [(78, .bool false), (77, .tuple #[]), (76, .tuple #[])] _ ⟨.tuple #[], .tuple #[], V104, rfl, (.refl _), rfl, ow107⟩
                  · intro kk
                    refine bcase (b := y72 && (decide (p0.e.act.at_ = p1.e.act.at_))) (fun g155 => ?_) (fun g155 => ?_)
                    · skip
                      refine U.p (v := .pointer (some ⟨b1, 0, none⟩)) rfl rfl (.inr ⟨_, _, _, rfl, rfl, ((L 0 rfl rfl).trans (congrArg Value.bool g155))⟩) (S.fieldAddr rfl (L 60 rfl rfl) Try.underlying52 rfl ti31 rfl rfl) ?_
                      refine U.p (v := .pointer (some ⟨b1, 8, none⟩)) rfl rfl (.inr ⟨_, _, _, rfl, rfl, ((L 1 rfl rfl).trans (congrArg Value.bool g155))⟩) (S.fieldAddr rfl (L 0 rfl rfl) Try.underlying31 rfl ti3 rfl rfl) ?_
                      refine U.k rfl rfl (.inr ⟨_, _, _, rfl, rfl, ((L 2 rfl rfl).trans (congrArg Value.bool g155))⟩) (S.load rfl (L 0 rfl rfl) Try.underlying3 rfl ((ow79.own (k := 1) rfl).cell rfl)) nd ?_
                      refine U.p (v := .pointer (some ⟨b6, 0, none⟩)) rfl rfl (.inr ⟨_, _, _, rfl, rfl, ((L 3 rfl rfl).trans (congrArg Value.bool g155))⟩) (S.fieldAddr rfl (L 62 rfl rfl) Try.underlying52 rfl ti31 rfl rfl) ?_
                      refine U.p (v := .pointer (some ⟨b6, 8, none⟩)) rfl rfl (.inr ⟨_, _, _, rfl, rfl, ((L 4 rfl rfl).trans (congrArg Value.bool g155))⟩) (S.fieldAddr rfl (L 0 rfl rfl) Try.underlying31 rfl ti3 rfl rfl) ?_
                      refine U.k rfl rfl (.inr ⟨_, _, _, rfl, rfl, ((L 5 rfl rfl).trans (congrArg Value.bool g155))⟩) (S.load rfl (L 0 rfl rfl) Try.underlying3 rfl ((ow79.own (k := 0) rfl).cell rfl)) nd ?_
                      refine U.p rfl rfl (.inr ⟨_, _, _, rfl, rfl, ((L 6 rfl rfl).trans (congrArg Value.bool g155))⟩) (S.lss rfl (L 3 rfl rfl) (L 0 rfl rfl)) ?_
                      refine U.p rfl rfl (.inl rfl) (S.pickT rfl ((L 7 rfl rfl).trans (congrArg Value.bool g155)) (L 0 rfl rfl)) ?_
                      exact kk [(72, .bool (decide (p0.e.id < p1.e.id))), (71, .bool (decide (p0.e.id < p1.e.id))), (70, .int .i64 p1.e.id), (69, .pointer (some ⟨b6, 8, none⟩)), (68, .pointer (some ⟨b6, 0, none⟩)), (67, .int .i64 p0.e.id), (66, .pointer (some ⟨b1, 8, none⟩)), (65, .pointer (some ⟨b1, 0, none⟩))] _ ⟨.bool (decide (p0.e.id < p1.e.id)), .int .i64 p1.e.id, .pointer (some ⟨b6, 8, none⟩), .pointer (some ⟨b6, 0, none⟩), .int .i64 p0.e.id, .pointer (some ⟨b1, 8, none⟩), .pointer (some ⟨b1, 0, none⟩), rfl, (by rw [g155, Bool.true_and])⟩
                    · skip
                      refine U.x rfl rfl rfl rfl ((L 0 rfl rfl).trans (congrArg Value.bool g155)) (by decide) ?_
                      refine U.x rfl rfl rfl rfl ((L 1 rfl rfl).trans (congrArg Value.bool g155)) (by decide) ?_
                      refine U.x rfl rfl rfl rfl ((L 2 rfl rfl).trans (congrArg Value.bool g155)) (by decide) ?_
                      refine U.x rfl rfl rfl rfl ((L 3 rfl rfl).trans (congrArg Value.bool g155)) (by decide) ?_
                      refine U.x rfl rfl rfl rfl ((L 4 rfl rfl).trans (congrArg Value.bool g155)) (by decide) ?_
                      refine U.x rfl rfl rfl rfl ((L 5 rfl rfl).trans (congrArg Value.bool g155)) (by decide) ?_
                      refine U.x rfl rfl rfl rfl ((L 6 rfl rfl).trans (congrArg Value.bool g155)) (by decide) ?_
                      refine U.p rfl rfl (.inl rfl) (S.pickF rfl ((L 7 rfl rfl).trans (congrArg Value.bool g155)) K) ?_
                      exact kk [(72, .bool false), (71, .tuple #[]), (70, .tuple #[]), (69, .tuple #[]), (68, .tuple #[]), (67, .tuple #[]), (66, .tuple #[]), (65, .tuple #[])] _ ⟨.tuple #[], .tuple #[], .tuple #[], .tuple #[], .tuple #[], .tuple #[], .tuple #[], rfl, (by rw [g155, Bool.false_and])⟩
                · intro kk
                  refine bcase (b := y72) (fun g156 => ?_) (fun g156 => ?_)
                  · skip
                    refine U.p rfl rfl (.inr ⟨_, _, _, rfl, rfl, ((L 0 rfl rfl).trans (congrArg Value.bool g156))⟩) (S.move rfl (L 45 rfl rfl)) ?_
                    refine U.p rfl rfl (.inl rfl) (S.pickT rfl ((L 1 rfl rfl).trans (congrArg Value.bool g156)) (L 0 rfl rfl)) ?_
                    exact kk [(63, .bool (decide (p0.e.act.at_ = p1.e.act.at_))), (62, .bool (decide (p0.e.act.at_ = p1.e.act.at_)))] _ ⟨.bool (decide (p0.e.act.at_ = p1.e.act.at_)), rfl, (by rw [g156, Bool.true_and])⟩
                  · skip
                    refine U.x rfl rfl rfl rfl ((L 0 rfl rfl).trans (congrArg Value.bool g156)) (by decide) ?_
                    refine U.p rfl rfl (.inl rfl) (S.pickF rfl ((L 1 rfl rfl).trans (congrArg Value.bool g156)) K) ?_
                    exact kk [(63, .bool false), (62, .tuple #[])] _ ⟨.tuple #[], rfl, (by rw [g156, Bool.false_and])⟩
              · intro kk
                refine bcase (b := x64) (fun g157 => ?_) (fun g157 => ?_)
                · have h158 := ifT g157 hy73
                  refine U.k rfl rfl (.inr ⟨_, _, _, rfl, rfl, ((L 0 rfl rfl).trans (congrArg Value.bool g157))⟩) (S.loadB rfl (L 52 rfl rfl) Try.underlying52 rfl ti52 (ow71.own (k := 0) rfl).get rfl) nd ?_
                  obtain ⟨x159, hx160, h161⟩ := bindS h158
                  refine O.call (V := V68) rfl rfl (.inr ⟨_, _, _, rfl, rfl, ((L 1 rfl rfl).trans (congrArg Value.bool g157))⟩) rfl en45 (aC (L 0 rfl rfl) aN) (wk_ref21_Writes V68 _ p1 ow71 _ hx160) (fun _ _ _ _ => nd) (fun v162 V163 le164 hp165 => ?_)
                  obtain ⟨rfl, ow166⟩ := hp165
                  refine U.p rfl rfl (.inl rfl) (S.pickT rfl ((L 2 rfl rfl).trans (congrArg Value.bool g157)) (L 0 rfl rfl)) ?_
                  have e167 := Option.some.inj h161
                  subst e167
                  exact kk [(60, .bool x159), (59, .bool x159), (58, .agg #[.int .i64 p1.e.t, .int .i64 p1.e.act.kind, .int .i64 p1.e.act.at_, .int .i64 p1.e.act.val, .int .i64 p1.e.act.what, .bool p1.e.act.volatile, .bool p1.e.act.final, .int .i64 p1.e.rf, .int .i64 p1.e.id, .int .i64 p1.at_])] _ ⟨.bool x159, .agg #[.int .i64 p1.e.t, .int .i64 p1.e.act.kind, .int .i64 p1.e.act.at_, .int .i64 p1.e.act.val, .int .i64 p1.e.act.what, .bool p1.e.act.volatile, .bool p1.e.act.final, .int .i64 p1.e.rf, .int .i64 p1.e.id, .int .i64 p1.at_], V163, rfl, le164, rfl, ow166⟩
                · have h168 := ifF g157 hy73
                  refine U.x rfl rfl rfl rfl ((L 0 rfl rfl).trans (congrArg Value.bool g157)) (by decide) ?_
                  refine U.x rfl rfl rfl rfl ((L 1 rfl rfl).trans (congrArg Value.bool g157)) (by decide) ?_
                  refine U.p rfl rfl (.inl rfl) (S.pickF rfl ((L 2 rfl rfl).trans (congrArg Value.bool g157)) K) ?_
                  have e169 := Option.some.inj h168
                  subst e169
                  exact kk [(60, .bool false), (59, .tuple #[]), (58, .tuple #[])] _ ⟨.tuple #[], .tuple #[], V68, rfl, (.refl _), rfl, ow71⟩
          · intro kk
            refine bcase (b := x33 && (decide (0 < p0.e.id))) (fun g170 => ?_) (fun g170 => ?_)
            · skip
              refine U.p (v := .pointer (some ⟨b6, 0, none⟩)) rfl rfl (.inr ⟨_, _, _, rfl, rfl, ((L 0 rfl rfl).trans (congrArg Value.bool g170))⟩) (S.fieldAddr rfl (L 41 rfl rfl) Try.underlying52 rfl ti31 rfl rfl) ?_
              refine U.p (v := .pointer (some ⟨b6, 7, none⟩)) rfl rfl (.inr ⟨_, _, _, rfl, rfl, ((L 1 rfl rfl).trans (congrArg Value.bool g170))⟩) (S.fieldAddr rfl (L 0 rfl rfl) Try.underlying31 rfl ti3 rfl rfl) ?_
              refine U.k rfl rfl (.inr ⟨_, _, _, rfl, rfl, ((L 2 rfl rfl).trans (congrArg Value.bool g170))⟩) (S.load rfl (L 0 rfl rfl) Try.underlying3 rfl ((ow40.own (k := 0) rfl).cell rfl)) nd ?_
              refine U.p (v := .pointer (some ⟨b1, 0, none⟩)) rfl rfl (.inr ⟨_, _, _, rfl, rfl, ((L 3 rfl rfl).trans (congrArg Value.bool g170))⟩) (S.fieldAddr rfl (L 45 rfl rfl) Try.underlying52 rfl ti31 rfl rfl) ?_
              refine U.p (v := .pointer (some ⟨b1, 8, none⟩)) rfl rfl (.inr ⟨_, _, _, rfl, rfl, ((L 4 rfl rfl).trans (congrArg Value.bool g170))⟩) (S.fieldAddr rfl (L 0 rfl rfl) Try.underlying31 rfl ti3 rfl rfl) ?_
              refine U.k rfl rfl (.inr ⟨_, _, _, rfl, rfl, ((L 5 rfl rfl).trans (congrArg Value.bool g170))⟩) (S.load rfl (L 0 rfl rfl) Try.underlying3 rfl ((ow40.own (k := 1) rfl).cell rfl)) nd ?_
              refine U.p rfl rfl (.inr ⟨_, _, _, rfl, rfl, ((L 6 rfl rfl).trans (congrArg Value.bool g170))⟩) (S.eqlI rfl (L 3 rfl rfl) (L 0 rfl rfl)) ?_
              refine U.p rfl rfl (.inl rfl) (S.pickT rfl ((L 7 rfl rfl).trans (congrArg Value.bool g170)) (L 0 rfl rfl)) ?_
              exact kk [(54, .bool (decide (p1.e.rf = p0.e.id))), (53, .bool (decide (p1.e.rf = p0.e.id))), (52, .int .i64 p0.e.id), (51, .pointer (some ⟨b1, 8, none⟩)), (50, .pointer (some ⟨b1, 0, none⟩)), (49, .int .i64 p1.e.rf), (48, .pointer (some ⟨b6, 7, none⟩)), (47, .pointer (some ⟨b6, 0, none⟩))] _ ⟨.bool (decide (p1.e.rf = p0.e.id)), .int .i64 p0.e.id, .pointer (some ⟨b1, 8, none⟩), .pointer (some ⟨b1, 0, none⟩), .int .i64 p1.e.rf, .pointer (some ⟨b6, 7, none⟩), .pointer (some ⟨b6, 0, none⟩), rfl, (by rw [g170, Bool.true_and])⟩
            · skip
              refine U.x rfl rfl rfl rfl ((L 0 rfl rfl).trans (congrArg Value.bool g170)) (by decide) ?_
              refine U.x rfl rfl rfl rfl ((L 1 rfl rfl).trans (congrArg Value.bool g170)) (by decide) ?_
              refine U.x rfl rfl rfl rfl ((L 2 rfl rfl).trans (congrArg Value.bool g170)) (by decide) ?_
              refine U.x rfl rfl rfl rfl ((L 3 rfl rfl).trans (congrArg Value.bool g170)) (by decide) ?_
              refine U.x rfl rfl rfl rfl ((L 4 rfl rfl).trans (congrArg Value.bool g170)) (by decide) ?_
              refine U.x rfl rfl rfl rfl ((L 5 rfl rfl).trans (congrArg Value.bool g170)) (by decide) ?_
              refine U.x rfl rfl rfl rfl ((L 6 rfl rfl).trans (congrArg Value.bool g170)) (by decide) ?_
              refine U.p rfl rfl (.inl rfl) (S.pickF rfl ((L 7 rfl rfl).trans (congrArg Value.bool g170)) K) ?_
              exact kk [(54, .bool false), (53, .tuple #[]), (52, .tuple #[]), (51, .tuple #[]), (50, .tuple #[]), (49, .tuple #[]), (48, .tuple #[]), (47, .tuple #[])] _ ⟨.tuple #[], .tuple #[], .tuple #[], .tuple #[], .tuple #[], .tuple #[], .tuple #[], rfl, (by rw [g170, Bool.false_and])⟩
        · intro kk
          refine bcase (b := x33) (fun g171 => ?_) (fun g171 => ?_)
          · skip
            refine U.p (v := .pointer (some ⟨b1, 0, none⟩)) rfl rfl (.inr ⟨_, _, _, rfl, rfl, ((L 0 rfl rfl).trans (congrArg Value.bool g171))⟩) (S.fieldAddr rfl (L 36 rfl rfl) Try.underlying52 rfl ti31 rfl rfl) ?_
            refine U.p (v := .pointer (some ⟨b1, 8, none⟩)) rfl rfl (.inr ⟨_, _, _, rfl, rfl, ((L 1 rfl rfl).trans (congrArg Value.bool g171))⟩) (S.fieldAddr rfl (L 0 rfl rfl) Try.underlying31 rfl ti3 rfl rfl) ?_
            refine U.k rfl rfl (.inr ⟨_, _, _, rfl, rfl, ((L 2 rfl rfl).trans (congrArg Value.bool g171))⟩) (S.load rfl (L 0 rfl rfl) Try.underlying3 rfl ((ow40.own (k := 1) rfl).cell rfl)) nd ?_
            refine U.p rfl rfl (.inr ⟨_, _, _, rfl, rfl, ((L 3 rfl rfl).trans (congrArg Value.bool g171))⟩) (S.gtr rfl (L 0 rfl rfl) K) ?_
            refine U.p rfl rfl (.inl rfl) (S.pickT rfl ((L 4 rfl rfl).trans (congrArg Value.bool g171)) (L 0 rfl rfl)) ?_
            exact kk [(45, .bool (decide (0 < p0.e.id))), (44, .bool (decide (0 < p0.e.id))), (43, .int .i64 p0.e.id), (42, .pointer (some ⟨b1, 8, none⟩)), (41, .pointer (some ⟨b1, 0, none⟩))] _ ⟨.bool (decide (0 < p0.e.id)), .int .i64 p0.e.id, .pointer (some ⟨b1, 8, none⟩), .pointer (some ⟨b1, 0, none⟩), rfl, (by rw [g171, Bool.true_and])⟩
          · skip
            refine U.x rfl rfl rfl rfl ((L 0 rfl rfl).trans (congrArg Value.bool g171)) (by decide) ?_
            refine U.x rfl rfl rfl rfl ((L 1 rfl rfl).trans (congrArg Value.bool g171)) (by decide) ?_
            refine U.x rfl rfl rfl rfl ((L 2 rfl rfl).trans (congrArg Value.bool g171)) (by decide) ?_
            refine U.x rfl rfl rfl rfl ((L 3 rfl rfl).trans (congrArg Value.bool g171)) (by decide) ?_
            refine U.p rfl rfl (.inl rfl) (S.pickF rfl ((L 4 rfl rfl).trans (congrArg Value.bool g171)) K) ?_
            exact kk [(45, .bool false), (44, .tuple #[]), (43, .tuple #[]), (42, .tuple #[]), (41, .tuple #[])] _ ⟨.tuple #[], .tuple #[], .tuple #[], .tuple #[], rfl, (by rw [g171, Bool.false_and])⟩
    · intro kk
      refine bcase (b := (decide (p0.e.t = p1.e.t)) && (decide (p0.at_ < p1.at_))) (fun g172 => ?_) (fun g172 => ?_)
      · skip
        refine U.p rfl rfl (.inr ⟨_, _, _, rfl, rfl, ((L 0 rfl rfl).trans (congrArg Value.bool g172))⟩) (S.move rfl (L 15 rfl rfl)) ?_
        refine U.p rfl rfl (.inr ⟨_, _, _, rfl, rfl, ((L 1 rfl rfl).trans (congrArg Value.bool g172))⟩) (S.move rfl (L 0 rfl rfl)) ?_
        refine U.joinX 20 (fun e H => ∃ (u173 u174 : Value), H = V7.H ∧ e = [(36, .bool ((decide (p0.e.act.at_ = p1.e.act.at_)) || (!p2))), (35, u173), (34, u174)]) ?_ ?_
        · rintro _ _ ⟨u173, u174, rfl, rfl⟩
          refine U.p rfl rfl (.inl rfl) (S.pickT rfl ((L 5 rfl rfl).trans (congrArg Value.bool g172)) (L 0 rfl rfl)) ?_
          exact kk [(37, .bool ((decide (p0.e.act.at_ = p1.e.act.at_)) || (!p2))), (36, .bool ((decide (p0.e.act.at_ = p1.e.act.at_)) || (!p2))), (35, u173), (34, u174), (33, .bool (decide (p0.e.act.at_ = p1.e.act.at_))), (32, .bool (decide (p0.e.act.at_ = p1.e.act.at_)))] _ ⟨.bool ((decide (p0.e.act.at_ = p1.e.act.at_)) || (!p2)), u173, u174, .bool (decide (p0.e.act.at_ = p1.e.act.at_)), .bool (decide (p0.e.act.at_ = p1.e.act.at_)), rfl, (by rw [g172, Bool.true_and])⟩
        · intro kk
          refine bcase (b := decide (p0.e.act.at_ = p1.e.act.at_)) (fun g178 => ?_) (fun g178 => ?_)
          · skip
            refine U.x rfl rfl rfl rfl ((L 0 rfl rfl).trans (congrArg Value.bool g178)) (by decide) ?_
            refine U.x rfl rfl rfl rfl ((L 1 rfl rfl).trans (congrArg Value.bool g178)) (by decide) ?_
            refine U.p rfl rfl (.inr ⟨_, _, _, rfl, rfl, ((L 4 rfl rfl).trans (congrArg Value.bool g172))⟩) (S.pickT rfl ((L 2 rfl rfl).trans (congrArg Value.bool g178)) K) ?_
            exact kk [(36, .bool true), (35, .tuple #[]), (34, .tuple #[])] _ ⟨.tuple #[], .tuple #[], rfl, (by rw [g178, Bool.true_or])⟩
          · skip
            refine U.p rfl rfl (.inr ⟨_, _, _, rfl, rfl, ((L 0 rfl rfl).trans (congrArg Value.bool g178))⟩) (S.move rfl (L 32 rfl rfl)) ?_
            refine U.p rfl rfl (.inr ⟨_, _, _, rfl, rfl, ((L 1 rfl rfl).trans (congrArg Value.bool g178))⟩) (S.not rfl (L 0 rfl rfl)) ?_
            refine U.p rfl rfl (.inr ⟨_, _, _, rfl, rfl, ((L 4 rfl rfl).trans (congrArg Value.bool g172))⟩) (S.pickF rfl ((L 2 rfl rfl).trans (congrArg Value.bool g178)) (L 0 rfl rfl)) ?_
            exact kk [(36, .bool (!p2)), (35, .bool (!p2)), (34, .bool p2)] _ ⟨.bool (!p2), .bool p2, rfl, (by rw [g178, Bool.false_or])⟩
      · skip
        refine U.x rfl rfl rfl rfl ((L 0 rfl rfl).trans (congrArg Value.bool g172)) (by decide) ?_
        refine U.x rfl rfl rfl rfl ((L 1 rfl rfl).trans (congrArg Value.bool g172)) (by decide) ?_
        refine U.z rfl rfl rfl rfl (L 0 rfl rfl) ?_
        refine U.z rfl rfl rfl rfl (L 1 rfl rfl) ?_
        refine U.x rfl rfl rfl rfl ((L 4 rfl rfl).trans (congrArg Value.bool g172)) (by decide) ?_
        refine U.p rfl rfl (.inl rfl) (S.pickF rfl ((L 5 rfl rfl).trans (congrArg Value.bool g172)) K) ?_
        exact kk [(37, .bool false), (36, .tuple #[]), (35, .tuple #[]), (34, .tuple #[]), (33, .tuple #[]), (32, .tuple #[])] _ ⟨.tuple #[], .tuple #[], .tuple #[], .tuple #[], .tuple #[], rfl, (by rw [g172, Bool.false_and])⟩
  · intro kk
    refine bcase (b := decide (p0.e.t = p1.e.t)) (fun g179 => ?_) (fun g179 => ?_)
    · skip
      refine U.p (v := .pointer (some ⟨b1, 9, none⟩)) rfl rfl (.inr ⟨_, _, _, rfl, rfl, ((L 0 rfl rfl).trans (congrArg Value.bool g179))⟩) (S.fieldAddr rfl (L 20 rfl rfl) Try.underlying52 rfl ti3 rfl rfl) ?_
      refine U.k rfl rfl (.inr ⟨_, _, _, rfl, rfl, ((L 1 rfl rfl).trans (congrArg Value.bool g179))⟩) (S.load rfl (L 0 rfl rfl) Try.underlying3 rfl ((ow9.own (k := 1) rfl).cell rfl)) nd ?_
      refine U.p (v := .pointer (some ⟨b6, 9, none⟩)) rfl rfl (.inr ⟨_, _, _, rfl, rfl, ((L 2 rfl rfl).trans (congrArg Value.bool g179))⟩) (S.fieldAddr rfl (L 21 rfl rfl) Try.underlying52 rfl ti3 rfl rfl) ?_
      refine U.k rfl rfl (.inr ⟨_, _, _, rfl, rfl, ((L 3 rfl rfl).trans (congrArg Value.bool g179))⟩) (S.load rfl (L 0 rfl rfl) Try.underlying3 rfl ((ow9.own (k := 0) rfl).cell rfl)) nd ?_
      refine U.p rfl rfl (.inr ⟨_, _, _, rfl, rfl, ((L 4 rfl rfl).trans (congrArg Value.bool g179))⟩) (S.lss rfl (L 2 rfl rfl) (L 0 rfl rfl)) ?_
      refine U.p rfl rfl (.inl rfl) (S.pickT rfl ((L 5 rfl rfl).trans (congrArg Value.bool g179)) (L 0 rfl rfl)) ?_
      exact kk [(30, .bool (decide (p0.at_ < p1.at_))), (29, .bool (decide (p0.at_ < p1.at_))), (28, .int .i64 p1.at_), (27, .pointer (some ⟨b6, 9, none⟩)), (26, .int .i64 p0.at_), (25, .pointer (some ⟨b1, 9, none⟩))] _ ⟨.bool (decide (p0.at_ < p1.at_)), .int .i64 p1.at_, .pointer (some ⟨b6, 9, none⟩), .int .i64 p0.at_, .pointer (some ⟨b1, 9, none⟩), rfl, (by rw [g179, Bool.true_and])⟩
    · skip
      refine U.x rfl rfl rfl rfl ((L 0 rfl rfl).trans (congrArg Value.bool g179)) (by decide) ?_
      refine U.x rfl rfl rfl rfl ((L 1 rfl rfl).trans (congrArg Value.bool g179)) (by decide) ?_
      refine U.x rfl rfl rfl rfl ((L 2 rfl rfl).trans (congrArg Value.bool g179)) (by decide) ?_
      refine U.x rfl rfl rfl rfl ((L 3 rfl rfl).trans (congrArg Value.bool g179)) (by decide) ?_
      refine U.x rfl rfl rfl rfl ((L 4 rfl rfl).trans (congrArg Value.bool g179)) (by decide) ?_
      refine U.p rfl rfl (.inl rfl) (S.pickF rfl ((L 5 rfl rfl).trans (congrArg Value.bool g179)) K) ?_
      exact kk [(30, .bool false), (29, .tuple #[]), (28, .tuple #[]), (27, .tuple #[]), (26, .tuple #[]), (25, .tuple #[])] _ ⟨.tuple #[], .tuple #[], .tuple #[], .tuple #[], .tuple #[], rfl, (by rw [g179, Bool.false_and])⟩

set_option maxHeartbeats 4000000 in
set_option maxRecDepth 10000 in
theorem wk_ref21_closure (V : Vw) (Rs : List At) (p0 : List (List Bool)) (v1 : Value) (hs2 : List Value) (ow : Ow V (.oss (RO.os RT.bool) v1 hs2 p0 :: Rs)) (r : List (List Bool)) (h : ref21_closure p0 = some r) : ∃ v V', Cl Try.prog 0 35 #[v1] V.H v V'.H ∧ V.le V' ∧ (∃ (v4 : Value) (hs5 : List Value), v = v4 ∧ Ow V' (.oss (RO.os RT.bool) v4 hs5 r :: Rs)) := by
  refine Ct.of (Nat.zero_le _) Try.func35 rfl (Nat.le_of_ble_eq_true rfl) ?_
  unfold ref21_closure at h
  refine WP.usreg rfl ?_
  refine U.p rfl rfl (.inl rfl) (S.assign rfl K) ?_
  refine U.done (Nat.le_of_ble_eq_true rfl) ?_
  refine WP.seq ?_
  refine WP.usreg rfl ?_
  refine U.p rfl rfl (.inl rfl) (S.move rfl (L 1 rfl rfl)) ?_
  refine U.p rfl rfl (.inl rfl) (ow.sslen (k := 0) rfl rfl (L 0 rfl rfl) Try.underlying41) ?_
  refine U.p rfl rfl (.inl rfl) (S.move rfl K) ?_
  refine U.done (Nat.le_of_ble_eq_true rfl) ?_
  refine WP.blk ?_
  unfold ref21_closure_l1 at h
  obtain ⟨n10, hn9⟩ := loopO_some.1 h
  refine WP.loopI2 (fun n l V' => ∃ (xs7 : List (List Bool)) (x8 : Int), l = [(0, v1), (7, .int .i64 (p0.length : Int)), (8, .int .i64 x8)] ∧ V.le V' ∧ Ow V' (.oss (RO.os RT.bool) v1 hs2 xs7 :: Rs) ∧ itO (fun s => ref21_closure_l1b p0 s.1 s.2) n (xs7, x8) = some r) n10 _ ⟨p0, 0, rfl, .refl _, ow, hn9⟩ (allCons (L 4 rfl rfl) (allCons (L 1 rfl rfl) (allCons (L 0 rfl rfl) allNil))) ?_
  rintro _ _ V11 ⟨xs7, x8, rfl, le12, ow13, h17⟩
  obtain ⟨m14, q15, rfl, h18, e16⟩ := itS h17
  replace h18 : ref21_closure_l1b p0 xs7 x8 = some q15 := h18
  unfold ref21_closure_l1b at h18
  refine WP.usreg rfl ?_
  refine U.p rfl rfl (.inl rfl) (S.lss rfl (L 2 rfl rfl) (L 1 rfl rfl)) ?_
  refine U.done (Nat.le_of_ble_eq_true rfl) ?_
  refine WP.seq ?_
  refine WP.cond _ (L 0 rfl rfl) rfl (fun c19 => ?_) (fun c19 => ?_)
  · have h20 := ifT c19 h18
    refine WP.skip ?_
    refine sqN ?_
    refine WP.seq ?_
    refine WP.blk ?_
    refine WP.usreg rfl ?_
    refine U.p rfl rfl (.inl rfl) (S.move rfl (L 3 rfl rfl)) ?_
    refine U.p rfl rfl (.inl rfl) (S.assign rfl (L 0 rfl rfl)) ?_
    refine U.done (Nat.le_of_ble_eq_true rfl) ?_
    refine WP.usreg rfl ?_
    refine U.p rfl rfl (.inl rfl) (S.move rfl (L 3 rfl rfl)) ?_
    refine U.p rfl rfl (.inl rfl) (ow13.sslen (k := 0) rfl rfl (L 0 rfl rfl) Try.underlying41) ?_
    refine U.p rfl rfl (.inl rfl) (S.move rfl K) ?_
    refine U.done (Nat.le_of_ble_eq_true rfl) ?_
    refine WP.blk ?_
    unfold ref21_closure_l2 at h20
    obtain ⟨n24, hn23⟩ := loopO_some.1 h20
    refine WP.loopI2 (fun n l V' => ∃ (xs21 : List (List Bool)) (x22 : Int), l = [(0, v1), (3, .int .i64 x8), (7, .int .i64 (p0.length : Int)), (8, .int .i64 x8), (12, .int .i64 (xs7.length : Int)), (13, .int .i64 x22)] ∧ V11.le V' ∧ Ow V' (.oss (RO.os RT.bool) v1 hs2 xs21 :: Rs) ∧ itO (fun s => ref21_closure_l2b xs7 x8 s.1 s.2) n (xs21, x22) = some q15) n24 _ ⟨xs7, 0, rfl, .refl _, ow13, hn23⟩ (allCons (L 6 rfl rfl) (allCons (L 3 rfl rfl) (allCons (L 7 rfl rfl) (allCons (L 8 rfl rfl) (allCons (L 1 rfl rfl) (allCons (L 0 rfl rfl) allNil)))))) ?_
    rintro _ _ V25 ⟨xs21, x22, rfl, le26, ow27, h31⟩
    obtain ⟨m28, q29, rfl, h32, e30⟩ := itS h31
    replace h32 : ref21_closure_l2b xs7 x8 xs21 x22 = some q29 := h32
    unfold ref21_closure_l2b at h32
    refine WP.usreg rfl ?_
    refine U.p rfl rfl (.inl rfl) (S.lss rfl (L 5 rfl rfl) (L 4 rfl rfl)) ?_
    refine U.done (Nat.le_of_ble_eq_true rfl) ?_
    refine WP.seq ?_
    refine WP.cond _ (L 0 rfl rfl) rfl (fun c33 => ?_) (fun c33 => ?_)
    · have h34 := ifT c33 h32
      refine WP.skip ?_
      refine sqN ?_
      refine WP.seq ?_
      refine WP.blk ?_
      refine WP.usreg rfl ?_
      refine U.p rfl rfl (.inl rfl) (S.move rfl (L 6 rfl rfl)) ?_
      refine U.p rfl rfl (.inl rfl) (S.assign rfl (L 0 rfl rfl)) ?_
      refine U.done (Nat.le_of_ble_eq_true rfl) ?_
      refine WP.usreg rfl ?_
      refine U.p rfl rfl (.inl rfl) (S.move rfl (L 3 rfl rfl)) ?_
      refine U.p rfl rfl (.inl rfl) (ow27.sslen (k := 0) rfl rfl (L 0 rfl rfl) Try.underlying41) ?_
      refine U.p rfl rfl (.inl rfl) (S.move rfl K) ?_
      refine U.done (Nat.le_of_ble_eq_true rfl) ?_
      refine WP.blk ?_
      unfold ref21_closure_l3 at h34
      obtain ⟨n38, hn37⟩ := loopO_some.1 h34
      refine WP.loopI2 (fun n l V' => ∃ (xs35 : List (List Bool)) (x36 : Int), l = [(0, v1), (3, .int .i64 x8), (4, .int .i64 x22), (7, .int .i64 (p0.length : Int)), (8, .int .i64 x8), (12, .int .i64 (xs7.length : Int)), (13, .int .i64 x22), (17, .int .i64 (xs21.length : Int)), (18, .int .i64 x36)] ∧ V25.le V' ∧ Ow V' (.oss (RO.os RT.bool) v1 hs2 xs35 :: Rs) ∧ itO (fun s => ref21_closure_l3b x8 xs21 x22 s.1 s.2) n (xs35, x36) = some q29) n38 _ ⟨xs21, 0, rfl, .refl _, ow27, hn37⟩ (allCons (L 6 rfl rfl) (allCons (L 7 rfl rfl) (allCons (L 3 rfl rfl) (allCons (L 8 rfl rfl) (allCons (L 9 rfl rfl) (allCons (L 10 rfl rfl) (allCons (L 11 rfl rfl) (allCons (L 1 rfl rfl) (allCons (L 0 rfl rfl) allNil))))))))) ?_
      rintro _ _ V39 ⟨xs35, x36, rfl, le40, ow41, h45⟩
      obtain ⟨m42, q43, rfl, h46, e44⟩ := itS h45
      replace h46 : ref21_closure_l3b x8 xs21 x22 xs35 x36 = some q43 := h46
      unfold ref21_closure_l3b at h46
      refine WP.usreg rfl ?_
      refine U.p rfl rfl (.inl rfl) (S.lss rfl (L 8 rfl rfl) (L 7 rfl rfl)) ?_
      refine U.done (Nat.le_of_ble_eq_true rfl) ?_
      refine WP.seq ?_
      refine WP.cond _ (L 0 rfl rfl) rfl (fun c47 => ?_) (fun c47 => ?_)
      · have h48 := ifT c47 h46
        refine WP.skip ?_
        refine sqN ?_
        refine WP.seqI (fun l V' => ∃ (xs49 : List (List Bool)), l = [(0, v1), (3, .int .i64 x8), (4, .int .i64 x22), (7, .int .i64 (p0.length : Int)), (8, .int .i64 x8), (12, .int .i64 (xs7.length : Int)), (13, .int .i64 x22), (17, .int .i64 (xs21.length : Int)), (18, .int .i64 x36)] ∧ V39.le V' ∧ Ow V' (.oss (RO.os RT.bool) v1 hs2 xs49 :: Rs) ∧ ref21_closure_k1 x36 xs49 = some q43) ?_ ?_
        · rintro _ V50 ⟨xs49, rfl, le51, ow52, h53⟩
          unfold ref21_closure_k1 at h53
          refine WP.ureg rfl ?_
          refine U.p rfl rfl (.inl rfl) (S.add rfl (L 8 rfl rfl) K) ?_
          refine U.p rfl rfl (.inl rfl) (S.move rfl (L 0 rfl rfl)) ?_
          refine U.done (Nat.le_of_ble_eq_true rfl) ?_
          refine sqN ?_
          exact ⟨_, V50, rfl, ⟨m42, Nat.lt_succ_self _, xs49, w64 (x36 + 1), rfl, (le40.trans le51), ow52, backS h53 e44⟩, (allCons (L 2 rfl rfl) (allCons (L 3 rfl rfl) (allCons (L 4 rfl rfl) (allCons (L 5 rfl rfl) (allCons (L 6 rfl rfl) (allCons (L 7 rfl rfl) (allCons (L 8 rfl rfl) (allCons (L 9 rfl rfl) (allCons (L 0 rfl rfl) allNil)))))))))⟩
        · skip
          refine WP.blk ?_
          refine WP.usreg rfl ?_
          refine U.p rfl rfl (.inl rfl) (S.move rfl (L 9 rfl rfl)) ?_
          refine U.p rfl rfl (.inl rfl) (S.assign rfl (L 0 rfl rfl)) ?_
          refine U.done (Nat.le_of_ble_eq_true rfl) ?_
          refine WP.udreg rfl rfl rfl ?_
          refine U.p rfl rfl (.inl rfl) (S.move rfl (L 3 rfl rfl)) ?_
          refine U.p rfl rfl (.inl rfl) (S.move rfl (L 6 rfl rfl)) ?_
          obtain ⟨x54, hx55, h56⟩ := bindS h48
          obtain ⟨b57, o58, n59, c60, hv61⟩ := ow41.sspt (k := 0) rfl hx55
          refine U.p rfl rfl (.inl rfl) (S.index rfl ((L 1 rfl rfl).trans (ow41.sslen' (k := 0) rfl hv61)) (L 0 rfl rfl) Try.underlying41 ti53 (ix_ge hx55) (ix_lt hx55)) ?_
          obtain ⟨h62, hh63, ow64⟩ := ow41.ssopen (k := 0) rfl hx55
          have hcl66 := ow64.shcell (k := 1) rfl hv61 hh63
          refine U.k rfl rfl (.inl rfl) (S.load rfl (L 0 rfl rfl) Try.underlying53 rfl hcl66.2) (fun _ => (okH.nil (fun r h => by cases h; exact hcl66.1))) ?_
          refine U.p rfl rfl (.inl rfl) (S.move rfl (L 4 rfl rfl)) ?_
          refine U.p rfl rfl (.inl rfl) (S.move rfl (L 8 rfl rfl)) ?_
          refine U.p rfl rfl (.inl rfl) (S.move rfl (L 11 rfl rfl)) ?_
          obtain ⟨x67, hx68, h69⟩ := bindS h56
          refine U.p rfl rfl (.inl rfl) (S.index rfl ((L 1 rfl rfl).trans (ow64.shlen' (k := 1) rfl hv61)) (L 0 rfl rfl) Try.underlying41 ti53 (ix_ge hx68) (ix_lt hx68)) ?_
          have hcl70 := ow64.shcell (k := 1) rfl hv61 hh63
          refine U.k rfl rfl (.inl rfl) (S.load rfl (L 0 rfl rfl) Try.underlying53 rfl hcl70.2) (fun _ => (okH.cons trivial (okH.nil (fun r h => by cases h; exact hcl70.1)))) ?_
          refine U.p rfl rfl (.inl rfl) (S.move rfl (L 9 rfl rfl)) ?_
          obtain ⟨x71, hx72, h73⟩ := bindS h69
          obtain ⟨b74, o75, n76, c77, hv78⟩ := ow64.ospt (k := 0) rfl hx72
          obtain ⟨_, hv79, _⟩ := ow64.osel (k := 0) rfl hv78 hx72
          refine U.p rfl rfl (.inl rfl) (S.index rfl ((L 1 rfl rfl).trans hv79) (L 0 rfl rfl) Try.underlying53 ti4 (ix_ge hx72) (ix_lt hx72)) ?_
          obtain ⟨cs80, hv81, hlt82, hr83, hc84⟩ := ow64.osel (k := 0) rfl hv78 hx72
          obtain rfl : cs80 = [.bool x71] := hr83
          refine U.k rfl rfl (.inl rfl) (S.load rfl (L 0 rfl rfl) Try.underlying4 rfl (hc84 0 _ rfl)) (fun _ => (okH.cons trivial (okH.cons trivial (okH.nil (fun r h => by cases h; exact hlt82))))) ?_
          refine U.p rfl rfl (.inl rfl) (S.move rfl (L 0 rfl rfl)) ?_
          have ow85 := ow64.ssclose' (k := 1) (j := 0) rfl rfl (by decide) hh63 hx55
          refine bcase (b := x71) (fun g86 => ?_) (fun g86 => ?_)
          · have h87 := ifT g86 h73
            refine U.x rfl rfl rfl rfl ((L 0 rfl rfl).trans (congrArg Value.bool g86)) (by decide) ?_
            refine U.x rfl rfl rfl rfl ((L 1 rfl rfl).trans (congrArg Value.bool g86)) (by decide) ?_
            refine U.x rfl rfl rfl rfl ((L 2 rfl rfl).trans (congrArg Value.bool g86)) (by decide) ?_
            refine U.x rfl rfl rfl rfl ((L 3 rfl rfl).trans (congrArg Value.bool g86)) (by decide) ?_
            refine U.x rfl rfl rfl rfl ((L 4 rfl rfl).trans (congrArg Value.bool g86)) (by decide) ?_
            refine U.x rfl rfl rfl rfl ((L 5 rfl rfl).trans (congrArg Value.bool g86)) (by decide) ?_
            refine U.x rfl rfl rfl rfl ((L 6 rfl rfl).trans (congrArg Value.bool g86)) (by decide) ?_
            refine U.x rfl rfl rfl rfl ((L 7 rfl rfl).trans (congrArg Value.bool g86)) (by decide) ?_
            refine U.z rfl rfl rfl rfl (L 0 rfl rfl) ?_
            refine U.z rfl rfl rfl rfl (L 1 rfl rfl) ?_
            refine U.z rfl rfl rfl rfl (L 2 rfl rfl) ?_
            refine U.z rfl rfl rfl rfl (L 3 rfl rfl) ?_
            refine U.z rfl rfl rfl rfl (L 4 rfl rfl) ?_
            refine U.z rfl rfl rfl rfl (L 5 rfl rfl) ?_
            refine U.z rfl rfl rfl rfl (L 6 rfl rfl) ?_
            refine U.x rfl rfl rfl rfl ((L 15 rfl rfl).trans (congrArg Value.bool g86)) (by decide) ?_
            refine U.p rfl rfl (.inl rfl) (S.pickT rfl ((L 16 rfl rfl).trans (congrArg Value.bool g86)) K) ?_
            obtain ⟨x88, hx89, h90⟩ := bindS h87
            obtain ⟨h91, hh92, ow93⟩ := ow85.ssopen (k := 0) rfl hx89
            obtain rfl : h91 = h62 := Option.some.inj (hh92.symm.trans hh63)
            obtain ⟨x95, hx96, h97⟩ := bindS h90
            obtain ⟨b98, o99, n100, c101, hv102⟩ := ow93.ospt (k := 0) rfl hx96
            obtain ⟨_, hv103, _⟩ := ow93.osel (k := 0) rfl hv102 hx96
            refine U.p rfl rfl (.inl rfl) (S.index rfl ((L 26 rfl rfl).trans hv103) (L 25 rfl rfl) Try.underlying53 ti4 (ix_ge hx96) (ix_lt hx96)) ?_
            obtain ⟨cs104, hv105, hlt106, hr107, hc108⟩ := ow93.osel (k := 0) rfl hv102 hx96
            obtain rfl : cs104 = [.bool x95] := hr107
            refine O.storeE (k := 0) (R := RT.bool) (j := 0) (y := true) (cs := [.bool true]) ow93 rfl hv105 rfl rfl (.inl rfl) rfl (L 0 rfl rfl) (L 1 rfl rfl) ti4 hx96 (by simp [topV]) rfl rfl rfl (full rfl) (fun H1 hs => (fun _ => (okH.cons (Or.inl rfl) (okH.cons (Or.inl rfl) (okH.cons (Or.inl rfl) (okH.nil (fun r h => nomatch h))))))) (fun V109 le110 ow111 => ?_)
            refine U.done (Nat.le_of_ble_eq_true rfl) ?_
            refine blkN (sqN ?_)
            have ow112 := ow111.ssclose (k := 1) (j := 0) rfl rfl (by decide) hh63
            exact ⟨_, V109, rfl, ⟨xs35.set (Int.toNat x22) (x88.set (Int.toNat x36) true), rfl, le110, ow112, h97⟩, (allCons (L 34 rfl rfl) (allCons (L 35 rfl rfl) (allCons (L 36 rfl rfl) (allCons (L 37 rfl rfl) (allCons (L 38 rfl rfl) (allCons (L 39 rfl rfl) (allCons (L 40 rfl rfl) (allCons (L 41 rfl rfl) (allCons (L 42 rfl rfl) allNil)))))))))⟩
          · have h113 := ifF g86 h73
            refine U.p rfl rfl (.inr ⟨_, _, _, rfl, rfl, ((L 0 rfl rfl).trans (congrArg Value.bool g86))⟩) (S.move rfl (L 16 rfl rfl)) ?_
            refine U.p rfl rfl (.inr ⟨_, _, _, rfl, rfl, ((L 1 rfl rfl).trans (congrArg Value.bool g86))⟩) (S.move rfl (L 19 rfl rfl)) ?_
            obtain ⟨x114, hx115, h116⟩ := bindS h113
            refine U.p rfl rfl (.inr ⟨_, _, _, rfl, rfl, ((L 2 rfl rfl).trans (congrArg Value.bool g86))⟩) (S.index rfl ((L 1 rfl rfl).trans (ow85.sslen' (k := 0) rfl hv61)) (L 0 rfl rfl) Try.underlying41 ti53 (ix_ge hx115) (ix_lt hx115)) ?_
            obtain ⟨h117, hh118, ow119⟩ := ow85.ssopen (k := 0) rfl hx115
            have hcl121 := ow119.shcell (k := 1) rfl hv61 hh118
            refine U.k rfl rfl (.inr ⟨_, _, _, rfl, rfl, ((L 3 rfl rfl).trans (congrArg Value.bool g86))⟩) (S.load rfl (L 0 rfl rfl) Try.underlying53 rfl hcl121.2) (fun _ => (okH.cons trivial (okH.cons trivial (okH.cons trivial (okH.nil (fun r h => by cases h; exact hcl121.1)))))) ?_
            refine U.p rfl rfl (.inr ⟨_, _, _, rfl, rfl, ((L 4 rfl rfl).trans (congrArg Value.bool g86))⟩) (S.move rfl (L 21 rfl rfl)) ?_
            obtain ⟨x122, hx123, h124⟩ := bindS h116
            obtain ⟨b125, o126, n127, c128, hv129⟩ := ow119.ospt (k := 0) rfl hx123
            obtain ⟨_, hv130, _⟩ := ow119.osel (k := 0) rfl hv129 hx123
            refine U.p rfl rfl (.inr ⟨_, _, _, rfl, rfl, ((L 5 rfl rfl).trans (congrArg Value.bool g86))⟩) (S.index rfl ((L 1 rfl rfl).trans hv130) (L 0 rfl rfl) Try.underlying53 ti4 (ix_ge hx123) (ix_lt hx123)) ?_
            obtain ⟨cs131, hv132, hlt133, hr134, hc135⟩ := ow119.osel (k := 0) rfl hv129 hx123
            obtain rfl : cs131 = [.bool x122] := hr134
            refine U.k rfl rfl (.inr ⟨_, _, _, rfl, rfl, ((L 6 rfl rfl).trans (congrArg Value.bool g86))⟩) (S.load rfl (L 0 rfl rfl) Try.underlying4 rfl (hc135 0 _ rfl)) (fun _ => (okH.cons trivial (okH.cons trivial (okH.cons trivial (okH.cons trivial (okH.nil (fun r h => by cases h; exact hlt133))))))) ?_
            refine U.p rfl rfl (.inr ⟨_, _, _, rfl, rfl, ((L 7 rfl rfl).trans (congrArg Value.bool g86))⟩) (S.move rfl (L 0 rfl rfl)) ?_
            have ow136 := ow119.ssclose' (k := 1) (j := 0) rfl rfl (by decide) hh118 hx115
            refine bcase (b := x122) (fun g137 => ?_) (fun g137 => ?_)
            · have h138 := ifT g137 h124
              refine U.p rfl rfl (.inr ⟨_, _, _, rfl, rfl, ((L 0 rfl rfl).trans (congrArg Value.bool g137))⟩) (S.move rfl (L 24 rfl rfl)) ?_
              refine U.p rfl rfl (.inr ⟨_, _, _, rfl, rfl, ((L 1 rfl rfl).trans (congrArg Value.bool g137))⟩) (S.move rfl (L 26 rfl rfl)) ?_
              obtain ⟨x139, hx140, h141⟩ := bindS h138
              refine U.p rfl rfl (.inr ⟨_, _, _, rfl, rfl, ((L 2 rfl rfl).trans (congrArg Value.bool g137))⟩) (S.index rfl ((L 1 rfl rfl).trans (ow136.sslen' (k := 0) rfl hv61)) (L 0 rfl rfl) Try.underlying41 ti53 (ix_ge hx140) (ix_lt hx140)) ?_
              obtain ⟨h142, hh143, ow144⟩ := ow136.ssopen (k := 0) rfl hx140
              have hcl146 := ow144.shcell (k := 1) rfl hv61 hh143
              refine U.k rfl rfl (.inr ⟨_, _, _, rfl, rfl, ((L 3 rfl rfl).trans (congrArg Value.bool g137))⟩) (S.load rfl (L 0 rfl rfl) Try.underlying53 rfl hcl146.2) (fun _ => (okH.cons trivial (okH.cons trivial (okH.cons trivial (okH.cons trivial (okH.cons trivial (okH.nil (fun r h => by cases h; exact hcl146.1)))))))) ?_
              refine U.p rfl rfl (.inr ⟨_, _, _, rfl, rfl, ((L 4 rfl rfl).trans (congrArg Value.bool g137))⟩) (S.move rfl (L 25 rfl rfl)) ?_
              obtain ⟨x147, hx148, h149⟩ := bindS h141
              obtain ⟨b150, o151, n152, c153, hv154⟩ := ow144.ospt (k := 0) rfl hx148
              obtain ⟨_, hv155, _⟩ := ow144.osel (k := 0) rfl hv154 hx148
              refine U.p rfl rfl (.inr ⟨_, _, _, rfl, rfl, ((L 5 rfl rfl).trans (congrArg Value.bool g137))⟩) (S.index rfl ((L 1 rfl rfl).trans hv155) (L 0 rfl rfl) Try.underlying53 ti4 (ix_ge hx148) (ix_lt hx148)) ?_
              obtain ⟨cs156, hv157, hlt158, hr159, hc160⟩ := ow144.osel (k := 0) rfl hv154 hx148
              obtain rfl : cs156 = [.bool x147] := hr159
              refine U.k rfl rfl (.inr ⟨_, _, _, rfl, rfl, ((L 6 rfl rfl).trans (congrArg Value.bool g137))⟩) (S.load rfl (L 0 rfl rfl) Try.underlying4 rfl (hc160 0 _ rfl)) (fun _ => (okH.cons trivial (okH.cons trivial (okH.cons trivial (okH.cons trivial (okH.cons trivial (okH.cons trivial (okH.nil (fun r h => by cases h; exact hlt158))))))))) ?_
              refine U.p rfl rfl (.inr ⟨_, _, _, rfl, rfl, ((L 15 rfl rfl).trans (congrArg Value.bool g86))⟩) (S.pickT rfl ((L 7 rfl rfl).trans (congrArg Value.bool g137)) (L 0 rfl rfl)) ?_
              refine U.p rfl rfl (.inl rfl) (S.pickF rfl ((L 16 rfl rfl).trans (congrArg Value.bool g86)) (L 0 rfl rfl)) ?_
              have ow161 := ow144.ssclose' (k := 1) (j := 0) rfl rfl (by decide) hh143 hx140
              obtain ⟨x162, hx163, h164⟩ := bindS h149
              obtain ⟨h165, hh166, ow167⟩ := ow161.ssopen (k := 0) rfl hx163
              obtain rfl : h165 = h62 := Option.some.inj (hh166.symm.trans hh63)
              obtain ⟨x169, hx170, h171⟩ := bindS h164
              obtain ⟨b172, o173, n174, c175, hv176⟩ := ow167.ospt (k := 0) rfl hx170
              obtain ⟨_, hv177, _⟩ := ow167.osel (k := 0) rfl hv176 hx170
              refine U.p rfl rfl (.inl rfl) (S.index rfl ((L 26 rfl rfl).trans hv177) (L 25 rfl rfl) Try.underlying53 ti4 (ix_ge hx170) (ix_lt hx170)) ?_
              obtain ⟨cs178, hv179, hlt180, hr181, hc182⟩ := ow167.osel (k := 0) rfl hv176 hx170
              obtain rfl : cs178 = [.bool x169] := hr181
              refine O.storeE (k := 0) (R := RT.bool) (j := 0) (y := x147) (cs := [.bool x147]) ow167 rfl hv179 rfl rfl (.inl rfl) rfl (L 0 rfl rfl) (L 1 rfl rfl) ti4 hx170 (by simp [topV]) rfl rfl rfl (full rfl) (fun H1 hs => (fun _ => (okH.cons (Or.inl rfl) (okH.cons (Or.inl rfl) (okH.cons (Or.inl rfl) (okH.cons (Or.inl rfl) (okH.cons (Or.inl rfl) (okH.cons (Or.inl rfl) (okH.cons (Or.inl rfl) (okH.nil (fun r h => nomatch h))))))))))) (fun V183 le184 ow185 => ?_)
              refine U.done (Nat.le_of_ble_eq_true rfl) ?_
              refine blkN (sqN ?_)
              have ow186 := ow185.ssclose (k := 1) (j := 0) rfl rfl (by decide) hh63
              exact ⟨_, V183, rfl, ⟨xs35.set (Int.toNat x22) (x162.set (Int.toNat x36) x147), rfl, le184, ow186, h171⟩, (allCons (L 34 rfl rfl) (allCons (L 35 rfl rfl) (allCons (L 36 rfl rfl) (allCons (L 37 rfl rfl) (allCons (L 38 rfl rfl) (allCons (L 39 rfl rfl) (allCons (L 40 rfl rfl) (allCons (L 41 rfl rfl) (allCons (L 42 rfl rfl) allNil)))))))))⟩
            · have h187 := ifF g137 h124
              refine U.x rfl rfl rfl rfl ((L 0 rfl rfl).trans (congrArg Value.bool g137)) (by decide) ?_
              refine U.x rfl rfl rfl rfl ((L 1 rfl rfl).trans (congrArg Value.bool g137)) (by decide) ?_
              refine U.x rfl rfl rfl rfl ((L 2 rfl rfl).trans (congrArg Value.bool g137)) (by decide) ?_
              refine U.x rfl rfl rfl rfl ((L 3 rfl rfl).trans (congrArg Value.bool g137)) (by decide) ?_
              refine U.x rfl rfl rfl rfl ((L 4 rfl rfl).trans (congrArg Value.bool g137)) (by decide) ?_
              refine U.x rfl rfl rfl rfl ((L 5 rfl rfl).trans (congrArg Value.bool g137)) (by decide) ?_
              refine U.x rfl rfl rfl rfl ((L 6 rfl rfl).trans (congrArg Value.bool g137)) (by decide) ?_
              refine U.p rfl rfl (.inr ⟨_, _, _, rfl, rfl, ((L 15 rfl rfl).trans (congrArg Value.bool g86))⟩) (S.pickF rfl ((L 7 rfl rfl).trans (congrArg Value.bool g137)) K) ?_
              refine U.p rfl rfl (.inl rfl) (S.pickF rfl ((L 16 rfl rfl).trans (congrArg Value.bool g86)) (L 0 rfl rfl)) ?_
              obtain ⟨x188, hx189, h190⟩ := bindS h187
              obtain ⟨h191, hh192, ow193⟩ := ow136.ssopen (k := 0) rfl hx189
              obtain rfl : h191 = h62 := Option.some.inj (hh192.symm.trans hh63)
              obtain ⟨x195, hx196, h197⟩ := bindS h190
              obtain ⟨b198, o199, n200, c201, hv202⟩ := ow193.ospt (k := 0) rfl hx196
              obtain ⟨_, hv203, _⟩ := ow193.osel (k := 0) rfl hv202 hx196
              refine U.p rfl rfl (.inl rfl) (S.index rfl ((L 26 rfl rfl).trans hv203) (L 25 rfl rfl) Try.underlying53 ti4 (ix_ge hx196) (ix_lt hx196)) ?_
              obtain ⟨cs204, hv205, hlt206, hr207, hc208⟩ := ow193.osel (k := 0) rfl hv202 hx196
              obtain rfl : cs204 = [.bool x195] := hr207
              refine O.storeE (k := 0) (R := RT.bool) (j := 0) (y := false) (cs := [.bool false]) ow193 rfl hv205 rfl rfl (.inl rfl) rfl (L 0 rfl rfl) (L 1 rfl rfl) ti4 hx196 (by simp [topV]) rfl rfl rfl (full rfl) (fun H1 hs => (fun _ => (okH.cons (Or.inl rfl) (okH.cons (Or.inl rfl) (okH.cons (Or.inl rfl) (okH.cons (Or.inl rfl) (okH.cons (Or.inl rfl) (okH.nil (fun r h => nomatch h))))))))) (fun V209 le210 ow211 => ?_)
              refine U.done (Nat.le_of_ble_eq_true rfl) ?_
              refine blkN (sqN ?_)
              have ow212 := ow211.ssclose (k := 1) (j := 0) rfl rfl (by decide) hh63
              exact ⟨_, V209, rfl, ⟨xs35.set (Int.toNat x22) (x188.set (Int.toNat x36) false), rfl, le210, ow212, h197⟩, (allCons (L 34 rfl rfl) (allCons (L 35 rfl rfl) (allCons (L 36 rfl rfl) (allCons (L 37 rfl rfl) (allCons (L 38 rfl rfl) (allCons (L 39 rfl rfl) (allCons (L 40 rfl rfl) (allCons (L 41 rfl rfl) (allCons (L 42 rfl rfl) allNil)))))))))⟩
      · have h213 := ifF c47 h46
        refine WP.exit ?_
        refine sqE (sqE (blkE (blkN (sqN ?_))))
        have h214 := exitS h213 e44
        refine WP.ureg rfl ?_
        refine U.p rfl rfl (.inl rfl) (S.add rfl (L 7 rfl rfl) K) ?_
        refine U.p rfl rfl (.inl rfl) (S.move rfl (L 0 rfl rfl)) ?_
        refine U.done (Nat.le_of_ble_eq_true rfl) ?_
        refine sqN ?_
        exact ⟨_, V39, rfl, ⟨m28, Nat.lt_succ_self _, xs35, w64 (x22 + 1), rfl, (le26.trans le40), ow41, backS h214 e30⟩, (allCons (L 3 rfl rfl) (allCons (L 4 rfl rfl) (allCons (L 6 rfl rfl) (allCons (L 7 rfl rfl) (allCons (L 8 rfl rfl) (allCons (L 0 rfl rfl) allNil))))))⟩
    · have h215 := ifF c33 h32
      refine WP.exit ?_
      refine sqE (sqE (blkE (blkN (sqN ?_))))
      have h216 := exitS h215 e30
      refine WP.ureg rfl ?_
      refine U.p rfl rfl (.inl rfl) (S.add rfl (L 4 rfl rfl) K) ?_
      refine U.p rfl rfl (.inl rfl) (S.move rfl (L 0 rfl rfl)) ?_
      refine U.done (Nat.le_of_ble_eq_true rfl) ?_
      refine sqN ?_
      exact ⟨_, V25, rfl, ⟨m14, Nat.lt_succ_self _, xs21, w64 (x8 + 1), rfl, (le12.trans le26), ow27, backS h216 e16⟩, (allCons (L 3 rfl rfl) (allCons (L 5 rfl rfl) (allCons (L 0 rfl rfl) allNil)))⟩
  · have h217 := ifF c19 h18
    refine WP.exit ?_
    refine sqE (sqE (blkE (sqN ?_)))
    have h218 := exitS h217 e16
    refine WP.usreg rfl ?_
    refine U.p rfl rfl (.inl rfl) (S.move rfl (L 1 rfl rfl)) ?_
    refine U.p rfl rfl (.inl rfl) (S.assign rfl (L 0 rfl rfl)) ?_
    refine U.done (Nat.le_of_ble_eq_true rfl) ?_
    refine WP.ret ?_
    refine fin.slot (.inr rfl) rfl (L 0 rfl rfl) ⟨V11, rfl, le12, ?_⟩
    have e219 := Option.some.inj h218
    subst e219
    exact ⟨v1, hs2, rfl, ow13⟩

set_option maxHeartbeats 4000000 in
set_option maxRecDepth 10000 in
theorem wk_ref21_Acyclic (V : Vw) (Rs : List At) (p0 : List (List TEvent)) (p1 : Bool) (p2 : Bool) (v1 : Value) (f2 : Fz (RT.sl RT_TEvent) V v1 p0) (ow : Ow V (Rs)) (r : Bool) (h : ref21_Acyclic p0 p1 p2 = some r) : ∃ v V', Cl Try.prog 0 12 #[v1, .bool p1, .bool p2] V.H v V'.H ∧ V.le V' ∧ (v = .bool r ∧ Ow V' (Rs)) := by
  refine Ct.of (Nat.zero_le _) Try.func12 rfl (Nat.le_of_ble_eq_true rfl) ?_
  unfold ref21_Acyclic at h
  refine WP.usreg rfl ?_
  refine U.p rfl rfl (.inl rfl) (S.assign rfl K) ?_
  refine U.done (Nat.le_of_ble_eq_true rfl) ?_
  refine WP.usreg rfl ?_
  refine U.p rfl rfl (.inl rfl) (S.move rfl (L 1 rfl rfl)) ?_
  refine U.p rfl rfl (.inl rfl) (S.move rfl (L 3 rfl rfl)) ?_
  obtain ⟨x3, hx4, h5⟩ := bindS h
  refine O.call (V := V) rfl rfl (.inl rfl) rfl en32 (aC (L 1 rfl rfl) (aC (L 0 rfl rfl) aN)) (wk_ref21_Nodes V _ p0 p1 v1 f2 ow _ hx4) (fun _ _ _ _ => nd) (fun v6 V7 le8 hp9 => ?_)
  obtain ⟨_, rfl, ow10⟩ := hp9
  refine U.p rfl rfl (.inl rfl) (S.assign rfl (L 0 rfl rfl)) ?_
  refine U.done (Nat.le_of_ble_eq_true rfl) ?_
  refine WP.usreg rfl ?_
  refine U.p rfl rfl (.inl rfl) (S.move rfl (L 0 rfl rfl)) ?_
  refine U.p rfl rfl (.inl rfl) (ow10.oslen (k := 0) rfl rfl (L 0 rfl rfl) Try.underlying47) ?_
  obtain ⟨x13, hx14, h15⟩ := bindS h5
  refine O.call (V := V7) rfl rfl (.inl rfl) rfl en33 (aC (L 0 rfl rfl) aN) (wk_ref21_matrix V7 _ (x3.length : Int) ow10 _ hx14) (fun _ _ _ _ => nd) (fun v16 V17 le18 hp19 => ?_)
  obtain ⟨_, hs22, rfl, ow20⟩ := hp19
  refine U.p rfl rfl (.inl rfl) (S.assign rfl (L 0 rfl rfl)) ?_
  refine U.done (Nat.le_of_ble_eq_true rfl) ?_
  refine WP.seq ?_
  refine WP.usreg rfl ?_
  refine U.p rfl rfl (.inl rfl) (S.move rfl (L 4 rfl rfl)) ?_
  refine U.p rfl rfl (.inl rfl) (ow20.oslen (k := 1) rfl rfl (L 0 rfl rfl) Try.underlying47) ?_
  refine U.p rfl rfl (.inl rfl) (S.move rfl K) ?_
  refine U.done (Nat.le_of_ble_eq_true rfl) ?_
  refine WP.blk ?_
  have ow26 := ow20.pick 0 rfl
  have ow27 := ow26.pick 1 rfl
  unfold ref21_Acyclic_l1 at h15
  obtain ⟨n29, hn28⟩ := loopO_some.1 h15
  refine WP.loopI2 (fun n l V' => ∃ (xs24 : List (List Bool)) (x25 : Int), l = [(2, .bool p2), (7, v6), (8, v16), (20, .int .i64 (x3.length : Int)), (21, .int .i64 x25)] ∧ V17.le V' ∧ Ow V' (.os RT_Tref21_Node v6 x3 :: .oss (RO.os RT.bool) v16 hs22 xs24 :: Rs) ∧ itO (fun s => ref21_Acyclic_l1b p2 x3 s.1 s.2) n (xs24, x25) = some r) n29 _ ⟨x13, 0, rfl, .refl _, ow27, hn28⟩ (allCons (L 14 rfl rfl) (allCons (L 7 rfl rfl) (allCons (L 3 rfl rfl) (allCons (L 1 rfl rfl) (allCons (L 0 rfl rfl) allNil))))) ?_
  rintro _ _ V30 ⟨xs24, x25, rfl, le31, ow32, h36⟩
  obtain ⟨m33, q34, rfl, h37, e35⟩ := itS h36
  replace h37 : ref21_Acyclic_l1b p2 x3 xs24 x25 = some q34 := h37
  unfold ref21_Acyclic_l1b at h37
  refine WP.usreg rfl ?_
  refine U.p rfl rfl (.inl rfl) (S.lss rfl (L 4 rfl rfl) (L 3 rfl rfl)) ?_
  refine U.done (Nat.le_of_ble_eq_true rfl) ?_
  refine WP.seq ?_
  refine WP.cond _ (L 0 rfl rfl) rfl (fun c38 => ?_) (fun c38 => ?_)
  · have h39 := ifT c38 h37
    refine WP.skip ?_
    refine sqN ?_
    refine WP.seq ?_
    refine WP.blk ?_
    refine WP.usreg rfl ?_
    refine U.p rfl rfl (.inl rfl) (S.move rfl (L 5 rfl rfl)) ?_
    refine U.p rfl rfl (.inl rfl) (S.assign rfl (L 0 rfl rfl)) ?_
    refine U.done (Nat.le_of_ble_eq_true rfl) ?_
    refine WP.usreg rfl ?_
    refine U.p rfl rfl (.inl rfl) (S.move rfl (L 4 rfl rfl)) ?_
    refine U.p rfl rfl (.inl rfl) (ow32.oslen (k := 0) rfl rfl (L 0 rfl rfl) Try.underlying47) ?_
    refine U.p rfl rfl (.inl rfl) (S.move rfl K) ?_
    refine U.done (Nat.le_of_ble_eq_true rfl) ?_
    refine WP.blk ?_
    unfold ref21_Acyclic_l2 at h39
    obtain ⟨n43, hn42⟩ := loopO_some.1 h39
    refine WP.loopI2 (fun n l V' => ∃ (xs40 : List (List Bool)) (x41 : Int), l = [(2, .bool p2), (7, v6), (8, v16), (9, .int .i64 x25), (20, .int .i64 (x3.length : Int)), (21, .int .i64 x25), (25, .int .i64 (x3.length : Int)), (26, .int .i64 x41)] ∧ V30.le V' ∧ Ow V' (.os RT_Tref21_Node v6 x3 :: .oss (RO.os RT.bool) v16 hs22 xs40 :: Rs) ∧ itO (fun s => ref21_Acyclic_l2b p2 x3 x25 s.1 s.2) n (xs40, x41) = some q34) n43 _ ⟨xs24, 0, rfl, .refl _, ow32, hn42⟩ (allCons (L 6 rfl rfl) (allCons (L 7 rfl rfl) (allCons (L 8 rfl rfl) (allCons (L 3 rfl rfl) (allCons (L 9 rfl rfl) (allCons (L 10 rfl rfl) (allCons (L 1 rfl rfl) (allCons (L 0 rfl rfl) allNil)))))))) ?_
    rintro _ _ V44 ⟨xs40, x41, rfl, le45, ow46, h50⟩
    obtain ⟨m47, q48, rfl, h51, e49⟩ := itS h50
    replace h51 : ref21_Acyclic_l2b p2 x3 x25 xs40 x41 = some q48 := h51
    unfold ref21_Acyclic_l2b at h51
    refine WP.usreg rfl ?_
    refine U.p rfl rfl (.inl rfl) (S.lss rfl (L 7 rfl rfl) (L 6 rfl rfl)) ?_
    refine U.done (Nat.le_of_ble_eq_true rfl) ?_
    refine WP.seq ?_
    refine WP.cond _ (L 0 rfl rfl) rfl (fun c52 => ?_) (fun c52 => ?_)
    · have h53 := ifT c52 h51
      refine WP.skip ?_
      refine sqN ?_
      refine WP.seqI (fun l V' => ∃ (xs54 : List (List Bool)), l = [(2, .bool p2), (7, v6), (8, v16), (9, .int .i64 x25), (20, .int .i64 (x3.length : Int)), (21, .int .i64 x25), (25, .int .i64 (x3.length : Int)), (26, .int .i64 x41)] ∧ V44.le V' ∧ Ow V' (.os RT_Tref21_Node v6 x3 :: .oss (RO.os RT.bool) v16 hs22 xs54 :: Rs) ∧ ref21_Acyclic_k1 x41 xs54 = some q48) ?_ ?_
      · rintro _ V55 ⟨xs54, rfl, le56, ow57, h58⟩
        unfold ref21_Acyclic_k1 at h58
        refine WP.ureg rfl ?_
        refine U.p rfl rfl (.inl rfl) (S.add rfl (L 7 rfl rfl) K) ?_
        refine U.p rfl rfl (.inl rfl) (S.move rfl (L 0 rfl rfl)) ?_
        refine U.done (Nat.le_of_ble_eq_true rfl) ?_
        refine sqN ?_
        exact ⟨_, V55, rfl, ⟨m47, Nat.lt_succ_self _, xs54, w64 (x41 + 1), rfl, (le45.trans le56), ow57, backS h58 e49⟩, (allCons (L 2 rfl rfl) (allCons (L 3 rfl rfl) (allCons (L 4 rfl rfl) (allCons (L 5 rfl rfl) (allCons (L 6 rfl rfl) (allCons (L 7 rfl rfl) (allCons (L 8 rfl rfl) (allCons (L 0 rfl rfl) allNil))))))))⟩
      · skip
        refine WP.blk ?_
        refine WP.usreg rfl ?_
        refine U.p rfl rfl (.inl rfl) (S.move rfl (L 8 rfl rfl)) ?_
        refine U.p rfl rfl (.inl rfl) (S.assign rfl (L 0 rfl rfl)) ?_
        refine U.done (Nat.le_of_ble_eq_true rfl) ?_
        refine WP.udreg rfl rfl rfl ?_
        refine U.p rfl rfl (.inl rfl) (S.move rfl (L 5 rfl rfl)) ?_
        refine U.p rfl rfl (.inl rfl) (S.move rfl (L 7 rfl rfl)) ?_
        obtain ⟨x59, hx60, h61⟩ := bindS h53
        obtain ⟨b62, o63, n64, c65, hv66⟩ := ow46.sspt (k := 1) rfl hx60
        refine U.p rfl rfl (.inl rfl) (S.index rfl ((L 1 rfl rfl).trans (ow46.sslen' (k := 1) rfl hv66)) (L 0 rfl rfl) Try.underlying41 ti53 (ix_ge hx60) (ix_lt hx60)) ?_
        obtain ⟨h67, hh68, ow69⟩ := ow46.ssopen (k := 1) rfl hx60
        have hcl71 := ow69.shcell (k := 2) rfl hv66 hh68
        refine U.k rfl rfl (.inl rfl) (S.load rfl (L 0 rfl rfl) Try.underlying53 rfl hcl71.2) (fun _ => (okH.nil (fun r h => by cases h; exact hcl71.1))) ?_
        refine U.p rfl rfl (.inl rfl) (S.move rfl (L 4 rfl rfl)) ?_
        refine U.p rfl rfl (.inl rfl) (S.move rfl (L 11 rfl rfl)) ?_
        refine U.p rfl rfl (.inl rfl) (S.move rfl (L 6 rfl rfl)) ?_
        refine U.p rfl rfl (.inl rfl) (S.neqI rfl (L 1 rfl rfl) (L 0 rfl rfl)) ?_
        refine U.p rfl rfl (.inl rfl) (S.move rfl (L 0 rfl rfl)) ?_
        have ow72 := ow69.ssclose' (k := 2) (j := 0) rfl rfl (by decide) hh68 hx60
        refine bcase (b := decide (x25 ≠ x41)) (fun g73 => ?_) (fun g73 => ?_)
        · have h74 := ifT g73 h61
          refine U.p rfl rfl (.inr ⟨_, _, _, rfl, rfl, ((L 0 rfl rfl).trans (congrArg Value.bool g73))⟩) (S.move rfl (L 13 rfl rfl)) ?_
          refine U.p rfl rfl (.inr ⟨_, _, _, rfl, rfl, ((L 1 rfl rfl).trans (congrArg Value.bool g73))⟩) (S.move rfl (L 16 rfl rfl)) ?_
          obtain ⟨x75, hx76, h77⟩ := bindS h74
          obtain ⟨b78, o79, n80, c81, hv82⟩ := ow72.ospt (k := 0) rfl hx76
          obtain ⟨_, hv83, _⟩ := ow72.osel (k := 0) rfl hv82 hx76
          refine U.p rfl rfl (.inr ⟨_, _, _, rfl, rfl, ((L 2 rfl rfl).trans (congrArg Value.bool g73))⟩) (S.index rfl ((L 1 rfl rfl).trans hv83) (L 0 rfl rfl) Try.underlying47 ti52 (ix_ge hx76) (ix_lt hx76)) ?_
          obtain ⟨cs84, hv85, hlt86, hr87, hc88⟩ := ow72.osel (k := 0) rfl hv82 hx76
          obtain rfl : cs84 = [.int .i64 x75.e.t, .int .i64 x75.e.act.kind, .int .i64 x75.e.act.at_, .int .i64 x75.e.act.val, .int .i64 x75.e.act.what, .bool x75.e.act.volatile, .bool x75.e.act.final, .int .i64 x75.e.rf, .int .i64 x75.e.id, .int .i64 x75.at_] := hr87
          refine U.k rfl rfl (.inr ⟨_, _, _, rfl, rfl, ((L 3 rfl rfl).trans (congrArg Value.bool g73))⟩) (S.loadN (cs := [.int .i64 x75.e.t, .int .i64 x75.e.act.kind, .int .i64 x75.e.act.at_, .int .i64 x75.e.act.val, .int .i64 x75.e.act.what, .bool x75.e.act.volatile, .bool x75.e.act.final, .int .i64 x75.e.rf, .int .i64 x75.e.id, .int .i64 x75.at_]) rfl (L 0 rfl rfl) Try.underlying52 rfl ti52 rfl hc88) (fun _ => (okH.cons trivial (okH.nil (fun r h => by cases h; exact hlt86)))) ?_
          refine U.p rfl rfl (.inr ⟨_, _, _, rfl, rfl, ((L 4 rfl rfl).trans (congrArg Value.bool g73))⟩) (S.move rfl (L 17 rfl rfl)) ?_
          refine U.p rfl rfl (.inr ⟨_, _, _, rfl, rfl, ((L 5 rfl rfl).trans (congrArg Value.bool g73))⟩) (S.move rfl (L 14 rfl rfl)) ?_
          obtain ⟨x89, hx90, h91⟩ := bindS h77
          obtain ⟨_, hv92, _⟩ := ow72.osel (k := 0) rfl hv82 hx90
          refine U.p rfl rfl (.inr ⟨_, _, _, rfl, rfl, ((L 6 rfl rfl).trans (congrArg Value.bool g73))⟩) (S.index rfl ((L 1 rfl rfl).trans hv92) (L 0 rfl rfl) Try.underlying47 ti52 (ix_ge hx90) (ix_lt hx90)) ?_
          obtain ⟨cs93, hv94, hlt95, hr96, hc97⟩ := ow72.osel (k := 0) rfl hv82 hx90
          obtain rfl : cs93 = [.int .i64 x89.e.t, .int .i64 x89.e.act.kind, .int .i64 x89.e.act.at_, .int .i64 x89.e.act.val, .int .i64 x89.e.act.what, .bool x89.e.act.volatile, .bool x89.e.act.final, .int .i64 x89.e.rf, .int .i64 x89.e.id, .int .i64 x89.at_] := hr96
          refine U.k rfl rfl (.inr ⟨_, _, _, rfl, rfl, ((L 7 rfl rfl).trans (congrArg Value.bool g73))⟩) (S.loadN (cs := [.int .i64 x89.e.t, .int .i64 x89.e.act.kind, .int .i64 x89.e.act.at_, .int .i64 x89.e.act.val, .int .i64 x89.e.act.what, .bool x89.e.act.volatile, .bool x89.e.act.final, .int .i64 x89.e.rf, .int .i64 x89.e.id, .int .i64 x89.at_]) rfl (L 0 rfl rfl) Try.underlying52 rfl ti52 rfl hc97) (fun _ => (okH.cons trivial (okH.cons trivial (okH.nil (fun r h => by cases h; exact hlt95))))) ?_
          refine U.p rfl rfl (.inr ⟨_, _, _, rfl, rfl, ((L 8 rfl rfl).trans (congrArg Value.bool g73))⟩) (S.move rfl (L 20 rfl rfl)) ?_
          obtain ⟨x98, hx99, h100⟩ := bindS h91
          obtain ⟨q106, ow107⟩ := ow72.toEx 1 rfl
          refine O.call (V := V44) rfl rfl (.inr ⟨_, _, _, rfl, rfl, ((L 9 rfl rfl).trans (congrArg Value.bool g73))⟩) rfl en34 (aC (L 5 rfl rfl) (aC (L 1 rfl rfl) (aC (L 0 rfl rfl) aN))) (wk_ref21_Way V44 _ x75 x89 p2 ow107 _ hx99) (fun v101 V102 le103 hp104 => by obtain ⟨rfl, ow105⟩ := hp104; exact (fun _ => (okH.cons (Or.inl rfl) (okH.cons (Or.inl rfl) (okH.cons (Or.inr (ow107.exsame (k := 1) (j := 1) rfl ow105 rfl (fun h => exb_ss hv66 h))) (okH.nil (fun r h => nomatch h))))))) (fun v101 V102 le103 hp104 => ?_)
          obtain ⟨rfl, ow105⟩ := hp104
          have ow108 := ow105.unEx 1 rfl
          refine U.p rfl rfl (.inl rfl) (S.pickT rfl ((L 10 rfl rfl).trans (congrArg Value.bool g73)) (L 0 rfl rfl)) ?_
          obtain ⟨x109, hx110, h111⟩ := bindS h100
          obtain ⟨h112, hh113, ow114⟩ := ow108.ssopen (k := 1) rfl hx110
          obtain rfl : h112 = h67 := Option.some.inj (hh113.symm.trans hh68)
          obtain ⟨x116, hx117, h118⟩ := bindS h111
          obtain ⟨b119, o120, n121, c122, hv123⟩ := ow114.ospt (k := 0) rfl hx117
          obtain ⟨_, hv124, _⟩ := ow114.osel (k := 0) rfl hv123 hx117
          refine U.p rfl rfl (.inl rfl) (S.index rfl ((L 16 rfl rfl).trans hv124) (L 15 rfl rfl) Try.underlying53 ti4 (ix_ge hx117) (ix_lt hx117)) ?_
          obtain ⟨cs125, hv126, hlt127, hr128, hc129⟩ := ow114.osel (k := 0) rfl hv123 hx117
          obtain rfl : cs125 = [.bool x116] := hr128
          refine O.storeE (k := 0) (R := RT.bool) (j := 0) (y := x98) (cs := [.bool x98]) ow114 rfl hv126 rfl rfl (.inl rfl) rfl (L 0 rfl rfl) (L 1 rfl rfl) ti4 hx117 (by simp [topV]) rfl rfl rfl (full rfl) (fun H1 hs => (fun _ => (okH.cons rfl (okH.cons (Or.inl rfl) (okH.cons (Or.inl rfl) (okH.cons (Or.inl rfl) (okH.nil (fun r h => nomatch h)))))))) (fun V130 le131 ow132 => ?_)
          refine U.done (Nat.le_of_ble_eq_true rfl) ?_
          refine blkN (sqN ?_)
          have ow133 := ow132.ssclose (k := 2) (j := 0) rfl rfl (by decide) hh68
          exact ⟨_, V130, rfl, ⟨xs40.set (Int.toNat x25) (x109.set (Int.toNat x41) x98), rfl, (le103.trans le131), ow133, h118⟩, (allCons (L 24 rfl rfl) (allCons (L 25 rfl rfl) (allCons (L 26 rfl rfl) (allCons (L 27 rfl rfl) (allCons (L 28 rfl rfl) (allCons (L 29 rfl rfl) (allCons (L 30 rfl rfl) (allCons (L 31 rfl rfl) allNil))))))))⟩
        · have h134 := ifF g73 h61
          refine U.x rfl rfl rfl rfl ((L 0 rfl rfl).trans (congrArg Value.bool g73)) (by decide) ?_
          refine U.x rfl rfl rfl rfl ((L 1 rfl rfl).trans (congrArg Value.bool g73)) (by decide) ?_
          refine U.x rfl rfl rfl rfl ((L 2 rfl rfl).trans (congrArg Value.bool g73)) (by decide) ?_
          refine U.x rfl rfl rfl rfl ((L 3 rfl rfl).trans (congrArg Value.bool g73)) (by decide) ?_
          refine U.x rfl rfl rfl rfl ((L 4 rfl rfl).trans (congrArg Value.bool g73)) (by decide) ?_
          refine U.x rfl rfl rfl rfl ((L 5 rfl rfl).trans (congrArg Value.bool g73)) (by decide) ?_
          refine U.x rfl rfl rfl rfl ((L 6 rfl rfl).trans (congrArg Value.bool g73)) (by decide) ?_
          refine U.x rfl rfl rfl rfl ((L 7 rfl rfl).trans (congrArg Value.bool g73)) (by decide) ?_
          refine U.x rfl rfl rfl rfl ((L 8 rfl rfl).trans (congrArg Value.bool g73)) (by decide) ?_
          refine U.x rfl rfl rfl rfl ((L 9 rfl rfl).trans (congrArg Value.bool g73)) (by decide) ?_
          refine U.p rfl rfl (.inl rfl) (S.pickF rfl ((L 10 rfl rfl).trans (congrArg Value.bool g73)) K) ?_
          obtain ⟨x135, hx136, h137⟩ := bindS h134
          obtain ⟨h138, hh139, ow140⟩ := ow72.ssopen (k := 1) rfl hx136
          obtain rfl : h138 = h67 := Option.some.inj (hh139.symm.trans hh68)
          obtain ⟨x142, hx143, h144⟩ := bindS h137
          obtain ⟨b145, o146, n147, c148, hv149⟩ := ow140.ospt (k := 0) rfl hx143
          obtain ⟨_, hv150, _⟩ := ow140.osel (k := 0) rfl hv149 hx143
          refine U.p rfl rfl (.inl rfl) (S.index rfl ((L 16 rfl rfl).trans hv150) (L 15 rfl rfl) Try.underlying53 ti4 (ix_ge hx143) (ix_lt hx143)) ?_
          obtain ⟨cs151, hv152, hlt153, hr154, hc155⟩ := ow140.osel (k := 0) rfl hv149 hx143
          obtain rfl : cs151 = [.bool x142] := hr154
          refine O.storeE (k := 0) (R := RT.bool) (j := 0) (y := false) (cs := [.bool false]) ow140 rfl hv152 rfl rfl (.inl rfl) rfl (L 0 rfl rfl) (L 1 rfl rfl) ti4 hx143 (by simp [topV]) rfl rfl rfl (full rfl) (fun H1 hs => (fun _ => (okH.cons (Or.inl rfl) (okH.nil (fun r h => nomatch h))))) (fun V156 le157 ow158 => ?_)
          refine U.done (Nat.le_of_ble_eq_true rfl) ?_
          refine blkN (sqN ?_)
          have ow159 := ow158.ssclose (k := 2) (j := 0) rfl rfl (by decide) hh68
          exact ⟨_, V156, rfl, ⟨xs40.set (Int.toNat x25) (x135.set (Int.toNat x41) false), rfl, le157, ow159, h144⟩, (allCons (L 24 rfl rfl) (allCons (L 25 rfl rfl) (allCons (L 26 rfl rfl) (allCons (L 27 rfl rfl) (allCons (L 28 rfl rfl) (allCons (L 29 rfl rfl) (allCons (L 30 rfl rfl) (allCons (L 31 rfl rfl) allNil))))))))⟩
    · have h160 := ifF c52 h51
      refine WP.exit ?_
      refine sqE (sqE (blkE (blkN (sqN ?_))))
      have h161 := exitS h160 e49
      refine WP.ureg rfl ?_
      refine U.p rfl rfl (.inl rfl) (S.add rfl (L 6 rfl rfl) K) ?_
      refine U.p rfl rfl (.inl rfl) (S.move rfl (L 0 rfl rfl)) ?_
      refine U.done (Nat.le_of_ble_eq_true rfl) ?_
      refine sqN ?_
      exact ⟨_, V44, rfl, ⟨m33, Nat.lt_succ_self _, xs40, w64 (x25 + 1), rfl, (le31.trans le45), ow46, backS h161 e35⟩, (allCons (L 3 rfl rfl) (allCons (L 4 rfl rfl) (allCons (L 5 rfl rfl) (allCons (L 7 rfl rfl) (allCons (L 0 rfl rfl) allNil)))))⟩
  · have h162 := ifF c38 h37
    refine WP.exit ?_
    refine sqE (sqE (blkE (sqN ?_)))
    have h163 := exitS h162 e35
    refine WP.seq ?_
    refine WP.usreg rfl ?_
    refine U.p rfl rfl (.inl rfl) (S.move rfl (L 3 rfl rfl)) ?_
    have ow164 := ow32.pick 1 rfl
    obtain ⟨x165, hx166, h167⟩ := bindS h163
    refine O.call (V := V30) rfl rfl (.inl rfl) rfl en35 (aC (L 0 rfl rfl) aN) (wk_ref21_closure V30 _ xs24 v16 hs22 ow164 _ hx166) (fun _ _ _ _ => nd) (fun v168 V169 le170 hp171 => ?_)
    obtain ⟨_, hs174, rfl, ow172⟩ := hp171
    refine U.p rfl rfl (.inl rfl) (ow172.sslen (k := 0) rfl rfl (L 0 rfl rfl) Try.underlying41) ?_
    refine U.p rfl rfl (.inl rfl) (S.move rfl K) ?_
    refine U.done (Nat.le_of_ble_eq_true rfl) ?_
    refine WP.blk ?_
    have ow177 := ow172.drop 1 rfl
    unfold ref21_Acyclic_l3 at h167
    obtain ⟨n179, hn178⟩ := loopO_some.1 h167
    refine WP.loopI2 (fun n l V' => ∃ (x176 : Int), l = [(53, v168), (54, .int .i64 (x165.length : Int)), (55, .int .i64 x176)] ∧ V169.le V' ∧ Ow V' (.oss (RO.os RT.bool) v168 hs174 x165 :: Rs) ∧ itO (fun s => ref21_Acyclic_l3b x165 s) n x176 = some r) n179 _ ⟨0, rfl, .refl _, ow177, hn178⟩ (allCons (L 2 rfl rfl) (allCons (L 1 rfl rfl) (allCons (L 0 rfl rfl) allNil))) ?_
    rintro _ _ V180 ⟨x176, rfl, le181, ow182, h186⟩
    obtain ⟨m183, q184, rfl, h187, e185⟩ := itS h186
    replace h187 : ref21_Acyclic_l3b x165 x176 = some q184 := h187
    unfold ref21_Acyclic_l3b at h187
    refine WP.usreg rfl ?_
    refine U.p rfl rfl (.inl rfl) (S.lss rfl (L 2 rfl rfl) (L 1 rfl rfl)) ?_
    refine U.done (Nat.le_of_ble_eq_true rfl) ?_
    refine WP.seq ?_
    refine WP.cond _ (L 0 rfl rfl) rfl (fun c188 => ?_) (fun c188 => ?_)
    · have h189 := ifT c188 h187
      refine WP.skip ?_
      refine sqN ?_
      refine WP.seq ?_
      refine WP.blk ?_
      refine WP.usreg rfl ?_
      refine U.p rfl rfl (.inl rfl) (S.move rfl (L 3 rfl rfl)) ?_
      obtain ⟨x190, hx191, h192⟩ := bindS h189
      obtain ⟨b193, o194, n195, c196, hv197⟩ := ow182.sspt (k := 0) rfl hx191
      refine U.p rfl rfl (.inl rfl) (S.index rfl ((L 2 rfl rfl).trans (ow182.sslen' (k := 0) rfl hv197)) (L 4 rfl rfl) Try.underlying41 ti53 (ix_ge hx191) (ix_lt hx191)) ?_
      obtain ⟨h198, hh199, ow200⟩ := ow182.ssopen (k := 0) rfl hx191
      have hcl202 := ow200.shcell (k := 1) rfl hv197 hh199
      refine U.k rfl rfl (.inl rfl) (S.load rfl (L 0 rfl rfl) Try.underlying53 rfl hcl202.2) nd ?_
      refine U.p rfl rfl (.inl rfl) (S.assign rfl (L 2 rfl rfl)) ?_
      refine U.p rfl rfl (.inl rfl) (S.assign rfl (L 1 rfl rfl)) ?_
      refine U.done (Nat.le_of_ble_eq_true rfl) ?_
      refine WP.usreg rfl ?_
      refine U.p rfl rfl (.inl rfl) (S.move rfl (L 0 rfl rfl)) ?_
      refine U.p rfl rfl (.inl rfl) (S.move rfl (L 2 rfl rfl)) ?_
      obtain ⟨x203, hx204, h205⟩ := bindS h192
      obtain ⟨b206, o207, n208, c209, hv210⟩ := ow200.ospt (k := 0) rfl hx204
      obtain ⟨_, hv211, _⟩ := ow200.osel (k := 0) rfl hv210 hx204
      refine U.p rfl rfl (.inl rfl) (S.index rfl ((L 1 rfl rfl).trans hv211) (L 0 rfl rfl) Try.underlying53 ti4 (ix_ge hx204) (ix_lt hx204)) ?_
      obtain ⟨cs212, hv213, hlt214, hr215, hc216⟩ := ow200.osel (k := 0) rfl hv210 hx204
      obtain rfl : cs212 = [.bool x203] := hr215
      refine U.k rfl rfl (.inl rfl) (S.load rfl (L 0 rfl rfl) Try.underlying4 rfl (hc216 0 _ rfl)) nd ?_
      refine U.done (Nat.le_of_ble_eq_true rfl) ?_
      refine WP.cond _ (L 0 rfl rfl) rfl (fun c217 => ?_) (fun c217 => ?_)
      · have h218 := ifT c217 h205
        refine WP.usreg rfl ?_
        refine U.p rfl rfl (.inl rfl) (S.assign rfl K) ?_
        refine U.done (Nat.le_of_ble_eq_true rfl) ?_
        refine WP.ret ?_
        refine blkR (sqR (sqR (blkR (sqR ?_))))
        have h219 := exitS h218 e185
        have ow220 := ow200.ssclose' (k := 1) (j := 0) rfl rfl (by decide) hh199 hx191
        refine fin.slot (.inr rfl) rfl (L 0 rfl rfl) ⟨V180, rfl, ((((le8.trans le18).trans le31).trans le170).trans le181), ?_⟩
        have ow221 := ow220.drop 0 rfl
        have e222 := Option.some.inj h219
        subst e222
        exact ⟨rfl, ow221⟩
      · have h223 := ifF c217 h205
        refine WP.skip ?_
        refine blkN (sqN ?_)
        refine WP.ureg rfl ?_
        refine U.p rfl rfl (.inl rfl) (S.add rfl (L 12 rfl rfl) K) ?_
        refine U.p rfl rfl (.inl rfl) (S.move rfl (L 0 rfl rfl)) ?_
        refine U.done (Nat.le_of_ble_eq_true rfl) ?_
        refine sqN ?_
        have ow224 := ow200.ssclose' (k := 1) (j := 0) rfl rfl (by decide) hh199 hx191
        exact ⟨_, V180, rfl, ⟨m183, Nat.lt_succ_self _, w64 (x176 + 1), rfl, le181, ow224, backS h223 e185⟩, (allCons (L 12 rfl rfl) (allCons (L 13 rfl rfl) (allCons (L 0 rfl rfl) allNil)))⟩
    · have h225 := ifF c188 h187
      refine WP.exit ?_
      refine sqE (sqE (blkE (sqN ?_)))
      have h226 := exitS h225 e185
      refine WP.usreg rfl ?_
      refine U.p rfl rfl (.inl rfl) (S.assign rfl K) ?_
      refine U.done (Nat.le_of_ble_eq_true rfl) ?_
      refine WP.ret ?_
      refine fin.slot (.inr rfl) rfl (L 0 rfl rfl) ⟨V180, rfl, ((((le8.trans le18).trans le31).trans le170).trans le181), ?_⟩
      have ow227 := ow182.drop 0 rfl
      have e228 := Option.some.inj h226
      subst e228
      exact ⟨rfl, ow227⟩

set_option maxHeartbeats 4000000 in
set_option maxRecDepth 10000 in
theorem wk_order_Run_nodes_3 (V : Vw) (Rs : List At) (p0 : List (List TEvent)) (v1 : Value) (f2 : Fz (RT.sl RT_TEvent) V v1 p0) (ow : Ow V (Rs)) (r : List Torder_node) (h : order_Run_nodes_3 p0 = some r) : ∃ v V', Cl Try.prog 0 23 #[v1, .func (.func 36) #[] #[]] V.H v V'.H ∧ V.le V' ∧ (∃ (v3 : Value), v = v3 ∧ Ow V' (.os RT_Torder_node v3 r :: Rs)) := by
  refine Ct.of (Nat.zero_le _) Try.func23 rfl (Nat.le_of_ble_eq_true rfl) ?_
  unfold order_Run_nodes_3 at h
  refine WP.usreg rfl ?_
  refine U.p rfl rfl (.inl rfl) (S.assign rfl K) ?_
  refine U.done (Nat.le_of_ble_eq_true rfl) ?_
  refine WP.usreg rfl ?_
  refine U.p rfl rfl (.inl rfl) (S.assign rfl K) ?_
  refine U.done (Nat.le_of_ble_eq_true rfl) ?_
  refine WP.seq ?_
  refine WP.usreg rfl ?_
  refine U.p rfl rfl (.inl rfl) (S.move rfl (L 2 rfl rfl)) ?_
  refine U.p rfl rfl (.inl rfl) (f2.1.len rfl (L 0 rfl rfl) Try.underlying25) ?_
  refine U.p rfl rfl (.inl rfl) (S.move rfl K) ?_
  refine U.done (Nat.le_of_ble_eq_true rfl) ?_
  refine WP.blk ?_
  have ow9 := ow.nil RT_Torder_node
  unfold order_Run_nodes_3_l1 at h
  obtain ⟨n12, hn11⟩ := loopO_some.1 h
  refine WP.loopI2 (fun n l V' => ∃ (v6 : Value) (xs7 : List Torder_node) (x8 : Int), l = [(1, .func (.func 36) #[] #[]), (5, v6), (10, v1), (11, .int .i64 (p0.length : Int)), (12, .int .i64 x8)] ∧ V.le V' ∧ Ow V' (.os RT_Torder_node v6 xs7 :: Rs) ∧ itO (fun s => order_Run_nodes_3_l1b p0 s.1 s.2) n (xs7, x8) = some r) n12 _ ⟨(.slice none 0 0), [], 0, rfl, .refl _, ow9, hn11⟩ (allCons (L 6 rfl rfl) (allCons (L 3 rfl rfl) (allCons (L 2 rfl rfl) (allCons (L 1 rfl rfl) (allCons (L 0 rfl rfl) allNil))))) ?_
  rintro _ _ V13 ⟨v6, xs7, x8, rfl, le14, ow15, h19⟩
  obtain ⟨m16, q17, rfl, h20, e18⟩ := itS h19
  replace h20 : order_Run_nodes_3_l1b p0 xs7 x8 = some q17 := h20
  unfold order_Run_nodes_3_l1b at h20
  refine WP.usreg rfl ?_
  refine U.p rfl rfl (.inl rfl) (S.lss rfl (L 4 rfl rfl) (L 3 rfl rfl)) ?_
  refine U.done (Nat.le_of_ble_eq_true rfl) ?_
  refine WP.seq ?_
  refine WP.cond _ (L 0 rfl rfl) rfl (fun c21 => ?_) (fun c21 => ?_)
  · have h22 := ifT c21 h20
    refine WP.skip ?_
    refine sqN ?_
    refine WP.seq ?_
    refine WP.blk ?_
    refine WP.usreg rfl ?_
    obtain ⟨x23, hx24, h25⟩ := bindS h22
    obtain ⟨b26, o27, c28, cs29, hv30, hf31, hr32, hc33⟩ := f2.at hx24
    obtain ⟨v34, rfl, f35⟩ := hr32
    refine U.p rfl rfl (.inl rfl) (S.index rfl ((L 3 rfl rfl).trans hv30) (L 5 rfl rfl) Try.underlying25 ti27 (ix_ge hx24) (ix_lt hx24)) ?_
    refine U.k rfl rfl (.inl rfl) (S.load rfl (L 0 rfl rfl) Try.underlying27 rfl (le14.cell hf31 (hc33 0 _ rfl))) nd ?_
    refine U.p rfl rfl (.inl rfl) (S.assign rfl (L 0 rfl rfl)) ?_
    refine U.done (Nat.le_of_ble_eq_true rfl) ?_
    refine WP.usreg rfl ?_
    refine U.p rfl rfl (.inl rfl) (S.move rfl (L 0 rfl rfl)) ?_
    refine U.p rfl rfl (.inl rfl) (f35.1.len rfl (L 0 rfl rfl) Try.underlying27) ?_
    refine U.p rfl rfl (.inl rfl) (S.move rfl K) ?_
    refine U.done (Nat.le_of_ble_eq_true rfl) ?_
    refine WP.blk ?_
    unfold order_Run_nodes_3_l2 at h25
    obtain ⟨n41, hn40⟩ := loopO_some.1 h25
    refine WP.loopI2 (fun n l V' => ∃ (v37 : Value) (xs38 : List Torder_node) (x39 : Int), l = [(1, .func (.func 36) #[] #[]), (5, v37), (10, v1), (11, .int .i64 (p0.length : Int)), (12, .int .i64 x8), (16, v34), (17, .int .i64 (x23.length : Int)), (18, .int .i64 x39)] ∧ V13.le V' ∧ Ow V' (.os RT_Torder_node v37 xs38 :: Rs) ∧ itO (fun s => order_Run_nodes_3_l2b x8 x23 s.1 s.2) n (xs38, x39) = some q17) n41 _ ⟨v6, xs7, 0, rfl, .refl _, ow15, hn40⟩ (allCons (L 7 rfl rfl) (allCons (L 8 rfl rfl) (allCons (L 9 rfl rfl) (allCons (L 10 rfl rfl) (allCons (L 11 rfl rfl) (allCons (L 2 rfl rfl) (allCons (L 1 rfl rfl) (allCons (L 0 rfl rfl) allNil)))))))) ?_
    rintro _ _ V42 ⟨v37, xs38, x39, rfl, le43, ow44, h48⟩
    obtain ⟨m45, q46, rfl, h49, e47⟩ := itS h48
    replace h49 : order_Run_nodes_3_l2b x8 x23 xs38 x39 = some q46 := h49
    unfold order_Run_nodes_3_l2b at h49
    refine WP.usreg rfl ?_
    refine U.p rfl rfl (.inl rfl) (S.lss rfl (L 7 rfl rfl) (L 6 rfl rfl)) ?_
    refine U.done (Nat.le_of_ble_eq_true rfl) ?_
    refine WP.seq ?_
    refine WP.cond _ (L 0 rfl rfl) rfl (fun c50 => ?_) (fun c50 => ?_)
    · have h51 := ifT c50 h49
      refine WP.skip ?_
      refine sqN ?_
      refine WP.seqI (fun l V' => ∃ (v53 : Value) (xs54 : List Torder_node), l = [(1, .func (.func 36) #[] #[]), (5, v53), (10, v1), (11, .int .i64 (p0.length : Int)), (12, .int .i64 x8), (16, v34), (17, .int .i64 (x23.length : Int)), (18, .int .i64 x39)] ∧ V42.le V' ∧ Ow V' (.os RT_Torder_node v53 xs54 :: Rs) ∧ order_Run_nodes_3_k1 x39 xs54 = some q46) ?_ ?_
      · rintro _ V55 ⟨v53, xs54, rfl, le56, ow57, h58⟩
        unfold order_Run_nodes_3_k1 at h58
        refine WP.ureg rfl ?_
        refine U.p rfl rfl (.inl rfl) (S.add rfl (L 7 rfl rfl) K) ?_
        refine U.p rfl rfl (.inl rfl) (S.move rfl (L 0 rfl rfl)) ?_
        refine U.done (Nat.le_of_ble_eq_true rfl) ?_
        refine sqN ?_
        exact ⟨_, V55, rfl, ⟨m45, Nat.lt_succ_self _, v53, xs54, w64 (x39 + 1), rfl, (le43.trans le56), ow57, backS h58 e47⟩, (allCons (L 2 rfl rfl) (allCons (L 3 rfl rfl) (allCons (L 4 rfl rfl) (allCons (L 5 rfl rfl) (allCons (L 6 rfl rfl) (allCons (L 7 rfl rfl) (allCons (L 8 rfl rfl) (allCons (L 0 rfl rfl) allNil))))))))⟩
      · skip
        refine WP.blk ?_
        refine WP.usreg rfl ?_
        refine U.p rfl rfl (.inl rfl) (S.move rfl (L 8 rfl rfl)) ?_
        obtain ⟨x59, hx60, h61⟩ := bindS h51
        obtain ⟨b62, o63, c64, cs65, hv66, hf67, hr68, hc69⟩ := f35.at hx60
        obtain rfl : cs65 = [.int .i64 x59.t, .int .i64 x59.act.kind, .int .i64 x59.act.at_, .int .i64 x59.act.val, .int .i64 x59.act.what, .bool x59.act.volatile, .bool x59.act.final, .int .i64 x59.rf, .int .i64 x59.id] := hr68
        refine U.p rfl rfl (.inl rfl) (S.index rfl ((L 7 rfl rfl).trans hv66) (L 9 rfl rfl) Try.underlying27 ti31 (ix_ge hx60) (ix_lt hx60)) ?_
        refine U.k rfl rfl (.inl rfl) (S.loadN (cs := [.int .i64 x59.t, .int .i64 x59.act.kind, .int .i64 x59.act.at_, .int .i64 x59.act.val, .int .i64 x59.act.what, .bool x59.act.volatile, .bool x59.act.final, .int .i64 x59.rf, .int .i64 x59.id]) rfl (L 0 rfl rfl) Try.underlying31 rfl ti31 rfl (fun j v hj => (le14.trans le43).cell hf67 (hc69 j v hj))) nd ?_
        refine O.alloc ow44 rfl rfl (.inl rfl) rfl ti31 rfl rfl nd (fun b70 V71 le72 ow73 => ?_)
        refine U.p rfl rfl (.inl rfl) (S.assign rfl (L 3 rfl rfl)) ?_
        refine O.store (k := 0) (cs := [.int .i64 x59.t, .int .i64 x59.act.kind, .int .i64 x59.act.at_, .int .i64 x59.act.val, .int .i64 x59.act.what, .bool x59.act.volatile, .bool x59.act.final, .int .i64 x59.rf, .int .i64 x59.id]) (c' := [.int .i64 x59.t, .int .i64 x59.act.kind, .int .i64 x59.act.at_, .int .i64 x59.act.val, .int .i64 x59.act.what, .bool x59.act.volatile, .bool x59.act.final, .int .i64 x59.rf, .int .i64 x59.id]) ow73 rfl rfl rfl (.inl rfl) rfl (L 1 rfl rfl) (L 2 rfl rfl) ti31 (by simp [topV]) rfl rfl (Nat.le_of_ble_eq_true rfl) rfl rfl nd (fun V75 le76 ow77 => ?_)
        refine U.done (Nat.le_of_ble_eq_true rfl) ?_
        refine WP.usreg rfl ?_
        refine U.p (v := .pointer (some ⟨b70, 1, none⟩)) rfl rfl (.inl rfl) (S.fieldAddr rfl (L 1 rfl rfl) Try.underlying31 rfl ti29 rfl rfl) ?_
        refine U.k rfl rfl (.inl rfl) (S.loadN (cs := [.int .i64 x59.act.kind, .int .i64 x59.act.at_, .int .i64 x59.act.val, .int .i64 x59.act.what, .bool x59.act.volatile, .bool x59.act.final]) rfl (L 0 rfl rfl) Try.underlying29 rfl ti29 rfl (cellsOfOwn (ow77.own (k := 0) rfl) 1 rfl)) nd ?_
        obtain ⟨x78, hx79, h80⟩ := bindS h61
        refine O.call (V := V75) rfl rfl (.inl rfl) rfl en39 (aC (L 0 rfl rfl) aN) (wk_order_writes V75 _ x59.act ow77 _ hx79) (fun _ _ _ _ => nd) (fun v81 V82 le83 hp84 => ?_)
        obtain ⟨rfl, ow85⟩ := hp84
        refine U.p rfl rfl (.inl rfl) (S.move rfl (L 0 rfl rfl)) ?_
        obtain ⟨y86, hy87, h88⟩ := bindS h80
        refine U.joinX 8 (fun e H => ∃ (u89 u90 u91 : Value), ∃ V' : Vw, H = V'.H ∧ V82.le V' ∧ e = [(30, .bool y86), (29, u89), (28, u90), (27, u91)] ∧ Ow V' (.pt b70 (.cells 9 [.int .i64 x59.t, .int .i64 x59.act.kind, .int .i64 x59.act.at_, .int .i64 x59.act.val, .int .i64 x59.act.what, .bool x59.act.volatile, .bool x59.act.final, .int .i64 x59.rf, .int .i64 x59.id]) :: .os RT_Torder_node v37 xs38 :: Rs)) ?_ ?_
        · rintro _ _ ⟨u89, u90, u91, V92, rfl, le93, rfl, ow94⟩
          refine U.p rfl rfl (.inl rfl) (S.move rfl (L 0 rfl rfl)) ?_
          obtain ⟨y95, hy96, h97⟩ := bindS h88
          refine U.joinX 14 (fun e H => ∃ (u98 u99 u100 u101 : Value), ∃ V' : Vw, H = V'.H ∧ V92.le V' ∧ e = [(36, .bool y95), (35, u98), (34, u99), (33, u100), (32, u101)] ∧ Ow V' (.pt b70 (.cells 9 [.int .i64 x59.t, .int .i64 x59.act.kind, .int .i64 x59.act.at_, .int .i64 x59.act.val, .int .i64 x59.act.what, .bool x59.act.volatile, .bool x59.act.final, .int .i64 x59.rf, .int .i64 x59.id]) :: .os RT_Torder_node v37 xs38 :: Rs)) ?_ ?_
          · rintro _ _ ⟨u98, u99, u100, u101, V102, rfl, le103, rfl, ow104⟩
            refine U.done (Nat.le_of_ble_eq_true rfl) ?_
            refine WP.cond _ (L 0 rfl rfl) rfl (fun c105 => ?_) (fun c105 => ?_)
            · have h106 := ifT c105 h97
              refine WP.ureg rfl ?_
              refine U.p rfl rfl (.inl rfl) (S.move rfl (L 21 rfl rfl)) ?_
              refine U.k rfl rfl (.inl rfl) (S.loadB rfl (L 16 rfl rfl) Try.underlying31 rfl ti31 (ow104.own (k := 0) rfl).get rfl) nd ?_
              refine U.p rfl rfl (.inl rfl) (S.move rfl (L 16 rfl rfl)) ?_
              refine U.p (v := .agg #[.int .i64 x59.t, .int .i64 x59.act.kind, .int .i64 x59.act.at_, .int .i64 x59.act.val, .int .i64 x59.act.what, .bool x59.act.volatile, .bool x59.act.final, .int .i64 x59.rf, .int .i64 x59.id, .int .i64 x39]) rfl rfl (.inl rfl) (S.build (vs := [.agg #[.int .i64 x59.t, .int .i64 x59.act.kind, .int .i64 x59.act.at_, .int .i64 x59.act.val, .int .i64 x59.act.what, .bool x59.act.volatile, .bool x59.act.final, .int .i64 x59.rf, .int .i64 x59.id], .int .i64 x39]) rfl ti45 rfl pl45 (aC (L 1 rfl rfl) (aC (L 0 rfl rfl) aN)) (allC (by simp [topV]) (allC (by simp [topV]) allN)) (fillA (ws := [.int .i64 x59.t, .int .i64 x59.act.kind, .int .i64 x59.act.at_, .int .i64 x59.act.val, .int .i64 x59.act.what, .bool x59.act.volatile, .bool x59.act.final, .int .i64 x59.rf, .int .i64 x59.id]) rfl rfl rfl (Nat.le_of_ble_eq_true rfl) (fill1 rfl rfl (Nat.le_of_ble_eq_true rfl) rfl))) ?_
              refine O.lit (R := RT_Torder_node) ow104 rfl rfl (.inl rfl) rfl Try.underlying38 ti45 rfl rfl rfl (Nat.le_of_ble_eq_true rfl) rfl (aC (L 0 rfl rfl) aN) (.cons _ _ (⟨x59, x39⟩ : Torder_node) _ (by simp [topV]) rfl .nil) (fun _ => nd) (fun v107 V108 le109 ow110 => ?_)
              obtain ⟨xs112, hx113, h114⟩ := bindS h106
              refine O.append (k := 2) ow110 rfl rfl rfl (.inl rfl) rfl (L 4 rfl rfl) (L 0 rfl rfl) Try.underlying38 ti45 rfl rfl (Nat.le_of_ble_eq_true rfl) (ow110.src (k := 0) rfl Try.underlying38) hx113 (fun _ _ => nd) (fun v115 V116 le117 ow118 => ?_)
              refine U.p rfl rfl (.inl rfl) (S.assign rfl (L 0 rfl rfl)) ?_
              refine U.done (Nat.le_of_ble_eq_true rfl) ?_
              refine blkN (sqN ?_)
              have ow120 := ow118.drop 0 rfl
              have ow121 := ow120.drop 0 rfl
              exact ⟨_, V116, rfl, ⟨v115, xs112, rfl, ((((((le72.trans le76).trans le83).trans le93).trans le103).trans le109).trans le117), ow121, h114⟩, (allCons (L 27 rfl rfl) (allCons (L 0 rfl rfl) (allCons (L 29 rfl rfl) (allCons (L 30 rfl rfl) (allCons (L 31 rfl rfl) (allCons (L 32 rfl rfl) (allCons (L 33 rfl rfl) (allCons (L 34 rfl rfl) allNil))))))))⟩
            · have h122 := ifF c105 h97
              refine WP.skip ?_
              refine blkN (sqN ?_)
              have ow123 := ow104.drop 0 rfl
              exact ⟨_, V102, rfl, ⟨v37, xs38, rfl, ((((le72.trans le76).trans le83).trans le93).trans le103), ow123, h122⟩, (allCons (L 20 rfl rfl) (allCons (L 21 rfl rfl) (allCons (L 22 rfl rfl) (allCons (L 23 rfl rfl) (allCons (L 24 rfl rfl) (allCons (L 25 rfl rfl) (allCons (L 26 rfl rfl) (allCons (L 27 rfl rfl) allNil))))))))⟩
          · intro kk
            refine bcase (b := y86) (fun g124 => ?_) (fun g124 => ?_)
            · have h125 := ifT g124 hy96
              refine U.p rfl rfl (.inr ⟨_, _, _, rfl, rfl, ((L 0 rfl rfl).trans (congrArg Value.bool g124))⟩) (S.move rfl (L 15 rfl rfl)) ?_
              refine U.p (v := .pointer (some ⟨b70, 1, none⟩)) rfl rfl (.inr ⟨_, _, _, rfl, rfl, ((L 1 rfl rfl).trans (congrArg Value.bool g124))⟩) (S.fieldAddr rfl (L 11 rfl rfl) Try.underlying31 rfl ti29 rfl rfl) ?_
              refine U.k rfl rfl (.inr ⟨_, _, _, rfl, rfl, ((L 2 rfl rfl).trans (congrArg Value.bool g124))⟩) (S.loadN (cs := [.int .i64 x59.act.kind, .int .i64 x59.act.at_, .int .i64 x59.act.val, .int .i64 x59.act.what, .bool x59.act.volatile, .bool x59.act.final]) rfl (L 0 rfl rfl) Try.underlying29 rfl ti29 rfl (cellsOfOwn (ow94.own (k := 0) rfl) 1 rfl)) nd ?_
              obtain ⟨x126, hx127, h128⟩ := bindS h125
              refine O.callv (V := V92) rfl rfl (.inr ⟨_, _, _, rfl, rfl, ((L 3 rfl rfl).trans (congrArg Value.bool g124))⟩) rfl (L 2 rfl rfl) en36 (aC (L 0 rfl rfl) aN) (wk_order_syncs V92 _ x59.act ow94 _ hx127) (fun _ _ _ _ => nd) (fun v129 V130 le131 hp132 => ?_)
              obtain ⟨rfl, ow133⟩ := hp132
              refine U.p rfl rfl (.inl rfl) (S.pickT rfl ((L 4 rfl rfl).trans (congrArg Value.bool g124)) (L 0 rfl rfl)) ?_
              have e134 := Option.some.inj h128
              subst e134
              exact kk [(36, .bool x126), (35, .bool x126), (34, .agg #[.int .i64 x59.act.kind, .int .i64 x59.act.at_, .int .i64 x59.act.val, .int .i64 x59.act.what, .bool x59.act.volatile, .bool x59.act.final]), (33, .pointer (some ⟨b70, 1, none⟩)), (32, .func (.func 36) #[] #[])] _ ⟨.bool x126, .agg #[.int .i64 x59.act.kind, .int .i64 x59.act.at_, .int .i64 x59.act.val, .int .i64 x59.act.what, .bool x59.act.volatile, .bool x59.act.final], .pointer (some ⟨b70, 1, none⟩), .func (.func 36) #[] #[], V130, rfl, le131, rfl, ow133⟩
            · have h135 := ifF g124 hy96
              refine U.x rfl rfl rfl rfl ((L 0 rfl rfl).trans (congrArg Value.bool g124)) (by decide) ?_
              refine U.x rfl rfl rfl rfl ((L 1 rfl rfl).trans (congrArg Value.bool g124)) (by decide) ?_
              refine U.x rfl rfl rfl rfl ((L 2 rfl rfl).trans (congrArg Value.bool g124)) (by decide) ?_
              refine U.x rfl rfl rfl rfl ((L 3 rfl rfl).trans (congrArg Value.bool g124)) (by decide) ?_
              refine U.p rfl rfl (.inl rfl) (S.pickF rfl ((L 4 rfl rfl).trans (congrArg Value.bool g124)) K) ?_
              have e136 := Option.some.inj h135
              subst e136
              exact kk [(36, .bool false), (35, .tuple #[]), (34, .tuple #[]), (33, .tuple #[]), (32, .tuple #[])] _ ⟨.tuple #[], .tuple #[], .tuple #[], .tuple #[], V92, rfl, (.refl _), rfl, ow94⟩
        · intro kk
          refine bcase (b := x78) (fun g137 => ?_) (fun g137 => ?_)
          · have h138 := ifT g137 hy87
            refine U.x rfl rfl rfl rfl ((L 0 rfl rfl).trans (congrArg Value.bool g137)) (by decide) ?_
            refine U.x rfl rfl rfl rfl ((L 1 rfl rfl).trans (congrArg Value.bool g137)) (by decide) ?_
            refine U.x rfl rfl rfl rfl ((L 2 rfl rfl).trans (congrArg Value.bool g137)) (by decide) ?_
            refine U.p rfl rfl (.inl rfl) (S.pickT rfl ((L 3 rfl rfl).trans (congrArg Value.bool g137)) K) ?_
            have e139 := Option.some.inj h138
            subst e139
            exact kk [(30, .bool true), (29, .tuple #[]), (28, .tuple #[]), (27, .tuple #[])] _ ⟨.tuple #[], .tuple #[], .tuple #[], V82, rfl, (.refl _), rfl, ow85⟩
          · have h140 := ifF g137 hy87
            refine U.p (v := .pointer (some ⟨b70, 1, none⟩)) rfl rfl (.inr ⟨_, _, _, rfl, rfl, ((L 0 rfl rfl).trans (congrArg Value.bool g137))⟩) (S.fieldAddr rfl (L 5 rfl rfl) Try.underlying31 rfl ti29 rfl rfl) ?_
            refine U.k rfl rfl (.inr ⟨_, _, _, rfl, rfl, ((L 1 rfl rfl).trans (congrArg Value.bool g137))⟩) (S.loadN (cs := [.int .i64 x59.act.kind, .int .i64 x59.act.at_, .int .i64 x59.act.val, .int .i64 x59.act.what, .bool x59.act.volatile, .bool x59.act.final]) rfl (L 0 rfl rfl) Try.underlying29 rfl ti29 rfl (cellsOfOwn (ow85.own (k := 0) rfl) 1 rfl)) nd ?_
            obtain ⟨x141, hx142, h143⟩ := bindS h140
            refine O.call (V := V82) rfl rfl (.inr ⟨_, _, _, rfl, rfl, ((L 2 rfl rfl).trans (congrArg Value.bool g137))⟩) rfl en38 (aC (L 0 rfl rfl) aN) (wk_order_reads V82 _ x59.act ow85 _ hx142) (fun _ _ _ _ => nd) (fun v144 V145 le146 hp147 => ?_)
            obtain ⟨rfl, ow148⟩ := hp147
            refine U.p rfl rfl (.inl rfl) (S.pickF rfl ((L 3 rfl rfl).trans (congrArg Value.bool g137)) (L 0 rfl rfl)) ?_
            have e149 := Option.some.inj h143
            subst e149
            exact kk [(30, .bool x141), (29, .bool x141), (28, .agg #[.int .i64 x59.act.kind, .int .i64 x59.act.at_, .int .i64 x59.act.val, .int .i64 x59.act.what, .bool x59.act.volatile, .bool x59.act.final]), (27, .pointer (some ⟨b70, 1, none⟩))] _ ⟨.bool x141, .agg #[.int .i64 x59.act.kind, .int .i64 x59.act.at_, .int .i64 x59.act.val, .int .i64 x59.act.what, .bool x59.act.volatile, .bool x59.act.final], .pointer (some ⟨b70, 1, none⟩), V145, rfl, le146, rfl, ow148⟩
    · have h150 := ifF c50 h49
      refine WP.exit ?_
      refine sqE (sqE (blkE (blkN (sqN ?_))))
      have h151 := exitS h150 e47
      refine WP.ureg rfl ?_
      refine U.p rfl rfl (.inl rfl) (S.add rfl (L 5 rfl rfl) K) ?_
      refine U.p rfl rfl (.inl rfl) (S.move rfl (L 0 rfl rfl)) ?_
      refine U.done (Nat.le_of_ble_eq_true rfl) ?_
      refine sqN ?_
      exact ⟨_, V42, rfl, ⟨m16, Nat.lt_succ_self _, v37, xs38, w64 (x8 + 1), rfl, (le14.trans le43), ow44, backS h151 e18⟩, (allCons (L 3 rfl rfl) (allCons (L 4 rfl rfl) (allCons (L 5 rfl rfl) (allCons (L 6 rfl rfl) (allCons (L 0 rfl rfl) allNil)))))⟩
  · have h152 := ifF c21 h20
    refine WP.exit ?_
    refine sqE (sqE (blkE (sqN ?_)))
    have h153 := exitS h152 e18
    refine WP.usreg rfl ?_
    refine U.p rfl rfl (.inl rfl) (S.move rfl (L 2 rfl rfl)) ?_
    refine U.p rfl rfl (.inl rfl) (S.assign rfl (L 0 rfl rfl)) ?_
    refine U.done (Nat.le_of_ble_eq_true rfl) ?_
    refine WP.ret ?_
    refine fin.slot (.inr rfl) rfl (L 0 rfl rfl) ⟨V13, rfl, le14, ?_⟩
    have e154 := Option.some.inj h153
    subst e154
    exact ⟨v6, rfl, ow15⟩

set_option maxHeartbeats 4000000 in
set_option maxRecDepth 10000 in
theorem wk_order_Run_Synced (V : Vw) (Rs : List At) (p0 : List (List TEvent)) (v1 : Value) (f2 : Fz (RT.sl RT_TEvent) V v1 p0) (ow : Ow V (Rs)) (r : Bool) (h : order_Run_Synced p0 = some r) : ∃ v V', Cl Try.prog 0 13 #[v1] V.H v V'.H ∧ V.le V' ∧ (v = .bool r ∧ Ow V' (Rs)) := by
  refine Ct.of (Nat.zero_le _) Try.func13 rfl (Nat.le_of_ble_eq_true rfl) ?_
  unfold order_Run_Synced at h
  refine WP.usreg rfl ?_
  refine U.p rfl rfl (.inl rfl) (S.assign rfl K) ?_
  refine U.done (Nat.le_of_ble_eq_true rfl) ?_
  refine WP.usreg rfl ?_
  refine U.p rfl rfl (.inl rfl) (S.move rfl (L 1 rfl rfl)) ?_
  obtain ⟨x3, hx4, h5⟩ := bindS h
  refine O.call (V := V) rfl rfl (.inl rfl) rfl en23 (aC (L 0 rfl rfl) (aC Fu aN)) (wk_order_Run_nodes_3 V _ p0 v1 f2 ow _ hx4) (fun _ _ _ _ => nd) (fun v6 V7 le8 hp9 => ?_)
  obtain ⟨_, rfl, ow10⟩ := hp9
  refine O.lit (R := (RT.fn fnt46)) ow10 rfl rfl (.inl rfl) rfl Try.underlying66 ti46 rfl rfl rfl (Nat.le_of_ble_eq_true rfl) rfl (aC Fu (aC Fu (aC Fu (aC Fu aN)))) (.cons _ _ 1 _ (by simp [topV]) ⟨_, rfl, rfl, _, rfl⟩ (.cons _ _ 2 _ (by simp [topV]) ⟨_, rfl, rfl, _, rfl⟩ (.cons _ _ 3 _ (by simp [topV]) ⟨_, rfl, rfl, _, rfl⟩ (.cons _ _ 4 _ (by simp [topV]) ⟨_, rfl, rfl, _, rfl⟩ .nil)))) (fun _ => nd) (fun v13 V14 le15 ow16 => ?_)
  have ow18 := ow16.pick 1 rfl
  obtain ⟨x19, hx20, h21⟩ := bindS h5
  refine O.call (V := V14) rfl rfl (.inl rfl) rfl en25 (aC (L 1 rfl rfl) (aC (L 0 rfl rfl) aN)) (wk_order_join V14 _ x3 [1, 2, 3, 4] v6 v13 ow18 _ hx20) (fun _ _ _ _ => nd) (fun v22 V23 le24 hp25 => ?_)
  obtain ⟨_, hs28, rfl, ow26⟩ := hp25
  obtain ⟨x30, hx31, h32⟩ := bindS h21
  refine O.call (V := V23) rfl rfl (.inl rfl) rfl en31 (aC (L 0 rfl rfl) aN) (wk_order_graph_cyclic V23 _ x19 v22 hs28 ow26 _ hx31) (fun _ _ _ _ => nd) (fun v33 V34 le35 hp36 => ?_)
  obtain ⟨rfl, ow37⟩ := hp36
  refine U.p rfl rfl (.inl rfl) (S.not rfl (L 0 rfl rfl)) ?_
  refine U.p rfl rfl (.inl rfl) (S.assign rfl (L 0 rfl rfl)) ?_
  refine U.done (Nat.le_of_ble_eq_true rfl) ?_
  refine WP.ret ?_
  refine fin.slot (.inr rfl) rfl (L 0 rfl rfl) ⟨V34, rfl, (((le8.trans le15).trans le24).trans le35), ?_⟩
  have ow38 := ow37.drop 0 rfl
  have ow39 := ow38.drop 0 rfl
  have ow40 := ow39.drop 0 rfl
  have e41 := Option.some.inj h32
  subst e41
  exact ⟨rfl, ow40⟩

set_option maxHeartbeats 4000000 in
set_option maxRecDepth 10000 in
theorem wk_order_Run_Serial_2 (V : Vw) (Rs : List At) (p0 : List (List TEvent)) (v1 : Value) (f2 : Fz (RT.sl RT_TEvent) V v1 p0) (ow : Ow V (Rs)) (r : Bool) (h : order_Run_Serial_2 p0 = some r) : ∃ v V', Cl Try.prog 0 14 #[v1] V.H v V'.H ∧ V.le V' ∧ (v = .bool r ∧ Ow V' (Rs)) := by
  refine Ct.of (Nat.zero_le _) Try.func14 rfl (Nat.le_of_ble_eq_true rfl) ?_
  unfold order_Run_Serial_2 at h
  refine WP.usreg rfl ?_
  refine U.p rfl rfl (.inl rfl) (S.assign rfl K) ?_
  refine U.done (Nat.le_of_ble_eq_true rfl) ?_
  refine WP.usreg rfl ?_
  refine U.p rfl rfl (.inl rfl) (S.move rfl (L 1 rfl rfl)) ?_
  obtain ⟨x3, hx4, h5⟩ := bindS h
  refine O.call (V := V) rfl rfl (.inl rfl) rfl en23 (aC (L 0 rfl rfl) (aC Fu aN)) (wk_order_Run_nodes_2 V _ p0 v1 f2 ow _ hx4) (fun _ _ _ _ => nd) (fun v6 V7 le8 hp9 => ?_)
  obtain ⟨_, rfl, ow10⟩ := hp9
  refine O.lit (R := (RT.fn fnt46)) ow10 rfl rfl (.inl rfl) rfl Try.underlying66 ti46 rfl rfl rfl (Nat.le_of_ble_eq_true rfl) rfl (aC Fu (aC Fu (aC Fu (aC Fu aN)))) (.cons _ _ 1 _ (by simp [topV]) ⟨_, rfl, rfl, _, rfl⟩ (.cons _ _ 2 _ (by simp [topV]) ⟨_, rfl, rfl, _, rfl⟩ (.cons _ _ 3 _ (by simp [topV]) ⟨_, rfl, rfl, _, rfl⟩ (.cons _ _ 4 _ (by simp [topV]) ⟨_, rfl, rfl, _, rfl⟩ .nil)))) (fun _ => nd) (fun v13 V14 le15 ow16 => ?_)
  have ow18 := ow16.pick 1 rfl
  obtain ⟨x19, hx20, h21⟩ := bindS h5
  refine O.call (V := V14) rfl rfl (.inl rfl) rfl en25 (aC (L 1 rfl rfl) (aC (L 0 rfl rfl) aN)) (wk_order_join V14 _ x3 [1, 2, 3, 4] v6 v13 ow18 _ hx20) (fun _ _ _ _ => nd) (fun v22 V23 le24 hp25 => ?_)
  obtain ⟨_, hs28, rfl, ow26⟩ := hp25
  obtain ⟨x30, hx31, h32⟩ := bindS h21
  refine O.call (V := V23) rfl rfl (.inl rfl) rfl en31 (aC (L 0 rfl rfl) aN) (wk_order_graph_cyclic V23 _ x19 v22 hs28 ow26 _ hx31) (fun _ _ _ _ => nd) (fun v33 V34 le35 hp36 => ?_)
  obtain ⟨rfl, ow37⟩ := hp36
  refine U.p rfl rfl (.inl rfl) (S.not rfl (L 0 rfl rfl)) ?_
  refine U.p rfl rfl (.inl rfl) (S.assign rfl (L 0 rfl rfl)) ?_
  refine U.done (Nat.le_of_ble_eq_true rfl) ?_
  refine WP.ret ?_
  refine fin.slot (.inr rfl) rfl (L 0 rfl rfl) ⟨V34, rfl, (((le8.trans le15).trans le24).trans le35), ?_⟩
  have ow38 := ow37.drop 0 rfl
  have ow39 := ow38.drop 0 rfl
  have ow40 := ow39.drop 0 rfl
  have e41 := Option.some.inj h32
  subst e41
  exact ⟨rfl, ow40⟩

end Go.Vm.G21
