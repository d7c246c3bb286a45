/-
  What the functions compute is what the plain ones say, for all inputs at which those answer.
-/
import Derived.Test.YtbmkccjfldmgiaaEWGH21
set_option linter.unusedSimpArgs false
set_option linter.unusedVariables false
namespace Go.Vm.GH21
open Go Go.Proofs

set_option maxHeartbeats 4000000 in
set_option maxRecDepth 10000 in
theorem wk_order_Run_Racy (V : Vw) (Rs : List At) (p0 : List (List TEvent)) (v1 : Value) (hs2 : List Value) (ow : Ow V (.oss (RO.os RT_TEvent) v1 hs2 p0 :: Rs)) (r : Bool) (h : order_Run_Racy p0 = some r) : ∃ v V', Cl Try.prog 0 17 #[v1] V.H v V'.H ∧ V.le V' ∧ (v = .bool r ∧ Ow V' (.oss (RO.os RT_TEvent) v1 hs2 p0 :: Rs)) := by
  refine Ct.of (Nat.zero_le _) Try.func17 rfl (Nat.le_of_ble_eq_true rfl) ?_
  unfold order_Run_Racy at h
  refine WP.usreg rfl ?_
  refine U.p rfl rfl (.inl rfl) (S.assign rfl K) ?_
  refine U.done (Nat.le_of_ble_eq_true rfl) ?_
  refine WP.usreg rfl ?_
  refine U.p rfl rfl (.inl rfl) (S.move rfl (L 1 rfl rfl)) ?_
  obtain ⟨x4, hx5, h6⟩ := bindS h
  refine O.call (V := V) rfl rfl (.inl rfl) rfl en23 (aC (L 0 rfl rfl) (aC Fu aN)) (wk_order_Run_nodes V _ p0 v1 hs2 ow _ hx5) (fun _ _ _ _ => nd) (fun v7 V8 le9 hp10 => ?_)
  obtain ⟨_, rfl, ow11⟩ := hp10
  refine U.p rfl rfl (.inl rfl) (S.assign rfl (L 0 rfl rfl)) ?_
  refine U.done (Nat.le_of_ble_eq_true rfl) ?_
  refine WP.usreg rfl ?_
  refine U.p rfl rfl (.inl rfl) (S.move rfl (L 4 rfl rfl)) ?_
  refine U.p rfl rfl (.inl rfl) (S.move rfl (L 1 rfl rfl)) ?_
  have ow14 := ow11.pick 1 rfl
  obtain ⟨x15, hx16, h17⟩ := bindS h6
  refine O.call (V := V8) rfl rfl (.inl rfl) rfl en37 (aC (L 1 rfl rfl) (aC (L 0 rfl rfl) aN)) (wk_order_Run_happens V8 _ p0 x4 v1 hs2 v7 ow14 _ hx16) (fun _ _ _ _ => nd) (fun v18 V19 le20 hp21 => ?_)
  obtain ⟨_, hs24, rfl, ow22⟩ := hp21
  refine U.p rfl rfl (.inl rfl) (S.assign rfl (L 0 rfl rfl)) ?_
  refine U.done (Nat.le_of_ble_eq_true rfl) ?_
  refine WP.seq ?_
  refine WP.usreg rfl ?_
  refine U.p rfl rfl (.inl rfl) (S.move rfl (L 4 rfl rfl)) ?_
  refine U.p rfl rfl (.inl rfl) (ow22.oslen (k := 2) rfl rfl (L 0 rfl rfl) Try.underlying38) ?_
  refine U.p rfl rfl (.inl rfl) (S.move rfl K) ?_
  refine U.done (Nat.le_of_ble_eq_true rfl) ?_
  refine WP.blk ?_
  obtain ⟨V33, eV37, le34, f35, ow36⟩ := ow22.osfz (k := 2) rfl
  rw [← eV37]
  have ow39 := ow36.pick 0 rfl
  have ow40 := ow39.pick 1 rfl
  unfold order_Run_Racy_l1 at h17
  obtain ⟨n42, hn41⟩ := loopO_some.1 h17
  refine WP.loopI2 (fun n l V' => ∃ (xs26 : List Torder_node) (v27 : Value) (xs29 : List Torder_node) (v30 : Value) (x32 : Int), l = [(3, v27), (4, v18), (15, v30), (16, .int .i64 (x4.length : Int)), (17, .int .i64 x32)] ∧ V33.le V' ∧ Fz RT_Torder_node V' v27 xs26 ∧ Fz RT_Torder_node V' v30 xs29 ∧ Ow V' (.oss (RO.os RT_TEvent) v1 hs2 p0 :: .oss (RO.os RT.bool) v18 hs24 x15 :: Rs) ∧ itO (fun s => order_Run_Racy_l1b x4 x15 s.1 s.2.1 s.2.2) n (xs26, xs29, x32) = some r) n42 _ ⟨x4, v7, x4, v7, 0, rfl, .refl _, f35, f35, ow40, hn41⟩ (allCons (L 7 rfl rfl) (allCons (L 3 rfl rfl) (allCons (L 2 rfl rfl) (allCons (L 1 rfl rfl) (allCons (L 0 rfl rfl) allNil))))) ?_
  rintro _ _ V43 ⟨xs26, v27, xs29, v30, x32, rfl, le44, f28, f31, ow45, h49⟩
  obtain ⟨m46, q47, rfl, h50, e48⟩ := itS h49
  replace h50 : order_Run_Racy_l1b x4 x15 xs26 xs29 x32 = some q47 := h50
  unfold order_Run_Racy_l1b at h50
  refine WP.usreg rfl ?_
  refine U.p rfl rfl (.inl rfl) (S.lss rfl (L 4 rfl rfl) (L 3 rfl rfl)) ?_
  refine U.done (Nat.le_of_ble_eq_true rfl) ?_
  refine WP.seq ?_
  refine WP.cond _ (L 0 rfl rfl) rfl (fun c51 => ?_) (fun c51 => ?_)
  · have h52 := ifT c51 h50
    refine WP.skip ?_
    refine sqN ?_
    refine WP.seq ?_
    refine WP.blk ?_
    refine WP.usreg rfl ?_
    refine U.p rfl rfl (.inl rfl) (S.move rfl (L 5 rfl rfl)) ?_
    obtain ⟨x53, hx54, h55⟩ := bindS h52
    obtain ⟨b56, o57, c58, cs59, hv60, hf61, hr62, hc63⟩ := f31.at hx54
    obtain rfl : cs59 = [.int .i64 x53.e.t, .int .i64 x53.e.act.kind, .int .i64 x53.e.act.at_, .int .i64 x53.e.act.val, .int .i64 x53.e.act.what, .bool x53.e.act.volatile, .bool x53.e.act.final, .int .i64 x53.e.rf, .int .i64 x53.e.id, .int .i64 x53.at_] := hr62
    refine U.p rfl rfl (.inl rfl) (S.index rfl ((L 4 rfl rfl).trans hv60) (L 6 rfl rfl) Try.underlying38 ti45 (ix_ge hx54) (ix_lt hx54)) ?_
    refine U.k rfl rfl (.inl rfl) (S.loadN (cs := [.int .i64 x53.e.t, .int .i64 x53.e.act.kind, .int .i64 x53.e.act.at_, .int .i64 x53.e.act.val, .int .i64 x53.e.act.what, .bool x53.e.act.volatile, .bool x53.e.act.final, .int .i64 x53.e.rf, .int .i64 x53.e.id, .int .i64 x53.at_]) rfl (L 0 rfl rfl) Try.underlying45 rfl ti45 rfl (fun j v hj => hc63 j v hj)) nd ?_
    refine O.alloc ow45 rfl rfl (.inl rfl) rfl ti45 rfl rfl nd (fun b64 V65 le66 ow67 => ?_)
    refine U.p rfl rfl (.inl rfl) (S.assign rfl (L 3 rfl rfl)) ?_
    refine O.store (k := 0) (cs := [.int .i64 x53.e.t, .int .i64 x53.e.act.kind, .int .i64 x53.e.act.at_, .int .i64 x53.e.act.val, .int .i64 x53.e.act.what, .bool x53.e.act.volatile, .bool x53.e.act.final, .int .i64 x53.e.rf, .int .i64 x53.e.id, .int .i64 x53.at_]) (c' := [.int .i64 x53.e.t, .int .i64 x53.e.act.kind, .int .i64 x53.e.act.at_, .int .i64 x53.e.act.val, .int .i64 x53.e.act.what, .bool x53.e.act.volatile, .bool x53.e.act.final, .int .i64 x53.e.rf, .int .i64 x53.e.id, .int .i64 x53.at_]) ow67 rfl rfl rfl (.inl rfl) rfl (L 1 rfl rfl) (L 2 rfl rfl) ti45 (by simp [topV]) rfl rfl (Nat.le_of_ble_eq_true rfl) rfl rfl nd (fun V69 le70 ow71 => ?_)
    refine U.done (Nat.le_of_ble_eq_true rfl) ?_
    refine WP.usreg rfl ?_
    refine U.p rfl rfl (.inl rfl) (S.move rfl (L 6 rfl rfl)) ?_
    refine U.p rfl rfl (.inl rfl) (S.move rfl (L 1 rfl rfl)) ?_
    have f72 := f28.up (le66.trans le70)
    obtain ⟨xs73, hx74, h75⟩ := bindS h55
    refine O.subF f72 hx74 rfl rfl (.inl rfl) rfl (L 1 rfl rfl) Try.underlying38 ti45 ⟨.inl ⟨rfl, rfl⟩, .inr ⟨_, _, rfl, (L 0 rfl rfl)⟩, .inl rfl⟩ (fun v76 f78 => ?_)
    refine U.p rfl rfl (.inl rfl) (f78.1.len rfl (L 0 rfl rfl) Try.underlying38) ?_
    refine U.p rfl rfl (.inl rfl) (S.move rfl K) ?_
    refine U.done (Nat.le_of_ble_eq_true rfl) ?_
    refine WP.blk ?_
    have ow80 := ow71.pick 0 rfl
    have ow81 := ow80.pick 2 rfl
    have ow82 := ow81.pick 2 rfl
    unfold order_Run_Racy_l2 at h75
    obtain ⟨n84, hn83⟩ := loopO_some.1 h75
    refine WP.loopI2 (fun n l V' => ∃ (x79 : Int), l = [(3, v27), (4, v18), (5, .int .i64 x32), (6, .pointer (some ⟨b64, 0, none⟩)), (15, v30), (16, .int .i64 (x4.length : Int)), (17, .int .i64 x32), (24, v76), (25, .int .i64 (xs73.length : Int)), (26, .int .i64 x79)] ∧ V69.le V' ∧ Ow V' (.oss (RO.os RT_TEvent) v1 hs2 p0 :: .oss (RO.os RT.bool) v18 hs24 x15 :: .pt b64 (.cells 10 [.int .i64 x53.e.t, .int .i64 x53.e.act.kind, .int .i64 x53.e.act.at_, .int .i64 x53.e.act.val, .int .i64 x53.e.act.what, .bool x53.e.act.volatile, .bool x53.e.act.final, .int .i64 x53.e.rf, .int .i64 x53.e.id, .int .i64 x53.at_]) :: Rs) ∧ itO (fun s => order_Run_Racy_l2b x15 xs26 xs29 x32 x53 xs73 s) n x79 = some q47) n84 _ ⟨0, rfl, .refl _, ow82, hn83⟩ (allCons (L 11 rfl rfl) (allCons (L 12 rfl rfl) (allCons (L 5 rfl rfl) (allCons (L 6 rfl rfl) (allCons (L 13 rfl rfl) (allCons (L 14 rfl rfl) (allCons (L 15 rfl rfl) (allCons (L 2 rfl rfl) (allCons (L 1 rfl rfl) (allCons (L 0 rfl rfl) allNil)))))))))) ?_
    rintro _ _ V85 ⟨x79, rfl, le86, ow87, h91⟩
    obtain ⟨m88, q89, rfl, h92, e90⟩ := itS h91
    replace h92 : order_Run_Racy_l2b x15 xs26 xs29 x32 x53 xs73 x79 = some q89 := h92
    unfold order_Run_Racy_l2b at h92
    refine WP.usreg rfl ?_
    refine U.p rfl rfl (.inl rfl) (S.lss rfl (L 9 rfl rfl) (L 8 rfl rfl)) ?_
    refine U.done (Nat.le_of_ble_eq_true rfl) ?_
    refine WP.seq ?_
    refine WP.cond _ (L 0 rfl rfl) rfl (fun c93 => ?_) (fun c93 => ?_)
    · have h94 := ifT c93 h92
      refine WP.skip ?_
      refine sqN ?_
      refine WP.seq ?_
      refine WP.blk ?_
      refine WP.usreg rfl ?_
      refine U.p rfl rfl (.inl rfl) (S.move rfl (L 10 rfl rfl)) ?_
      obtain ⟨x95, hx96, h97⟩ := bindS h94
      obtain ⟨b98, o99, c100, cs101, hv102, hf103, hr104, hc105⟩ := f78.at hx96
      obtain rfl : cs101 = [.int .i64 x95.e.t, .int .i64 x95.e.act.kind, .int .i64 x95.e.act.at_, .int .i64 x95.e.act.val, .int .i64 x95.e.act.what, .bool x95.e.act.volatile, .bool x95.e.act.final, .int .i64 x95.e.rf, .int .i64 x95.e.id, .int .i64 x95.at_] := hr104
      refine U.p rfl rfl (.inl rfl) (S.index rfl ((L 9 rfl rfl).trans hv102) (L 11 rfl rfl) Try.underlying38 ti45 (ix_ge hx96) (ix_lt hx96)) ?_
      refine U.k rfl rfl (.inl rfl) (S.loadN (cs := [.int .i64 x95.e.t, .int .i64 x95.e.act.kind, .int .i64 x95.e.act.at_, .int .i64 x95.e.act.val, .int .i64 x95.e.act.what, .bool x95.e.act.volatile, .bool x95.e.act.final, .int .i64 x95.e.rf, .int .i64 x95.e.id, .int .i64 x95.at_]) rfl (L 0 rfl rfl) Try.underlying45 rfl ti45 rfl (fun j v hj => le86.cell hf103 (hc105 j v hj))) nd ?_
      refine O.alloc ow87 rfl rfl (.inl rfl) rfl ti45 rfl rfl nd (fun b106 V107 le108 ow109 => ?_)
      refine U.p rfl rfl (.inl rfl) (S.assign rfl (L 3 rfl rfl)) ?_
      refine O.store (k := 0) (cs := [.int .i64 x95.e.t, .int .i64 x95.e.act.kind, .int .i64 x95.e.act.at_, .int .i64 x95.e.act.val, .int .i64 x95.e.act.what, .bool x95.e.act.volatile, .bool x95.e.act.final, .int .i64 x95.e.rf, .int .i64 x95.e.id, .int .i64 x95.at_]) (c' := [.int .i64 x95.e.t, .int .i64 x95.e.act.kind, .int .i64 x95.e.act.at_, .int .i64 x95.e.act.val, .int .i64 x95.e.act.what, .bool x95.e.act.volatile, .bool x95.e.act.final, .int .i64 x95.e.rf, .int .i64 x95.e.id, .int .i64 x95.at_]) ow109 rfl rfl rfl (.inl rfl) rfl (L 1 rfl rfl) (L 2 rfl rfl) ti45 (by simp [topV]) rfl rfl (Nat.le_of_ble_eq_true rfl) rfl rfl nd (fun V111 le112 ow113 => ?_)
      refine U.done (Nat.le_of_ble_eq_true rfl) ?_
      refine WP.usreg rfl ?_
      refine U.p (v := .pointer (some ⟨b64, 0, none⟩)) rfl rfl (.inl rfl) (S.fieldAddr rfl (L 9 rfl rfl) Try.underlying45 rfl ti31 rfl rfl) ?_
      refine U.p (v := .pointer (some ⟨b64, 1, none⟩)) rfl rfl (.inl rfl) (S.fieldAddr rfl (L 0 rfl rfl) Try.underlying31 rfl ti29 rfl rfl) ?_
      refine U.k rfl rfl (.inl rfl) (S.loadN (cs := [.int .i64 x53.e.act.kind, .int .i64 x53.e.act.at_, .int .i64 x53.e.act.val, .int .i64 x53.e.act.what, .bool x53.e.act.volatile, .bool x53.e.act.final]) rfl (L 0 rfl rfl) Try.underlying29 rfl ti29 rfl (cellsOfOwn (ow113.own (k := 3) rfl) 1 rfl)) nd ?_
      obtain ⟨x114, hx115, h116⟩ := bindS h97
      refine O.call (V := V111) rfl rfl (.inl rfl) rfl en36 (aC (L 0 rfl rfl) aN) (wk_order_syncs V111 _ x53.e.act ow113 _ hx115) (fun _ _ _ _ => nd) (fun v117 V118 le119 hp120 => ?_)
      obtain ⟨rfl, ow121⟩ := hp120
      refine U.p rfl rfl (.inl rfl) (S.not rfl (L 0 rfl rfl)) ?_
      refine U.p rfl rfl (.inl rfl) (S.move rfl (L 0 rfl rfl)) ?_
      obtain ⟨y122, hy123, h124⟩ := bindS h116
      refine U.joinX 12 (fun e H => ∃ (u125 u126 u127 u128 u129 : Value), ∃ V' : Vw, H = V'.H ∧ V118.le V' ∧ e = [(42, .bool y122), (41, u125), (40, u126), (39, u127), (38, u128), (37, u129)] ∧ Ow V' (.pt b106 (.cells 10 [.int .i64 x95.e.t, .int .i64 x95.e.act.kind, .int .i64 x95.e.act.at_, .int .i64 x95.e.act.val, .int .i64 x95.e.act.what, .bool x95.e.act.volatile, .bool x95.e.act.final, .int .i64 x95.e.rf, .int .i64 x95.e.id, .int .i64 x95.at_]) :: .oss (RO.os RT_TEvent) v1 hs2 p0 :: .oss (RO.os RT.bool) v18 hs24 x15 :: .pt b64 (.cells 10 [.int .i64 x53.e.t, .int .i64 x53.e.act.kind, .int .i64 x53.e.act.at_, .int .i64 x53.e.act.val, .int .i64 x53.e.act.what, .bool x53.e.act.volatile, .bool x53.e.act.final, .int .i64 x53.e.rf, .int .i64 x53.e.id, .int .i64 x53.at_]) :: Rs)) ?_ ?_
      · rintro _ _ ⟨u125, u126, u127, u128, u129, V130, rfl, le131, rfl, ow132⟩
        refine U.p rfl rfl (.inl rfl) (S.assign rfl (L 0 rfl rfl)) ?_
        refine U.done (Nat.le_of_ble_eq_true rfl) ?_
        refine WP.usreg rfl ?_
        refine U.p rfl rfl (.inl rfl) (S.move rfl (L 0 rfl rfl)) ?_
        refine U.p rfl rfl (.inl rfl) (S.move rfl (L 0 rfl rfl)) ?_
        refine U.joinX 10 (fun e H => ∃ (u133 u134 u135 u136 u137 u138 u139 : Value), H = V130.H ∧ e = [(52, .bool (y122 && (decide (x53.e.t ≠ x95.e.t)))), (51, u133), (50, u134), (49, u135), (48, u136), (47, u137), (46, u138), (45, u139)]) ?_ ?_
        · rintro _ _ ⟨u133, u134, u135, u136, u137, u138, u139, rfl, rfl⟩
          refine U.p rfl rfl (.inl rfl) (S.move rfl (L 0 rfl rfl)) ?_
          refine U.joinX 21 (fun e H => ∃ (u143 u144 u145 u146 u147 u148 u149 u150 u151 : Value), H = V130.H ∧ e = [(63, .bool ((y122 && (decide (x53.e.t ≠ x95.e.t))) && (decide (x53.e.act.at_ = x95.e.act.at_)))), (62, u143), (61, u144), (60, u145), (59, u146), (58, u147), (57, u148), (56, u149), (55, u150), (54, u151)]) ?_ ?_
          · rintro _ _ ⟨u143, u144, u145, u146, u147, u148, u149, u150, u151, rfl, rfl⟩
            refine U.p rfl rfl (.inl rfl) (S.move rfl (L 0 rfl rfl)) ?_
            obtain ⟨y155, hy156, h157⟩ := bindS h124
            refine U.joinX 33 (fun e H => ∃ (u158 u159 u160 u161 u162 u163 u164 u165 u166 u167 : Value), ∃ V' : Vw, H = V'.H ∧ V130.le V' ∧ e = [(75, .bool y155), (74, u158), (73, u159), (72, u160), (71, u161), (70, u162), (69, u163), (68, u164), (67, u165), (66, u166), (65, u167)] ∧ Ow V' (.pt b106 (.cells 10 [.int .i64 x95.e.t, .int .i64 x95.e.act.kind, .int .i64 x95.e.act.at_, .int .i64 x95.e.act.val, .int .i64 x95.e.act.what, .bool x95.e.act.volatile, .bool x95.e.act.final, .int .i64 x95.e.rf, .int .i64 x95.e.id, .int .i64 x95.at_]) :: .oss (RO.os RT_TEvent) v1 hs2 p0 :: .oss (RO.os RT.bool) v18 hs24 x15 :: .pt b64 (.cells 10 [.int .i64 x53.e.t, .int .i64 x53.e.act.kind, .int .i64 x53.e.act.at_, .int .i64 x53.e.act.val, .int .i64 x53.e.act.what, .bool x53.e.act.volatile, .bool x53.e.act.final, .int .i64 x53.e.rf, .int .i64 x53.e.id, .int .i64 x53.at_]) :: Rs)) ?_ ?_
            · rintro _ _ ⟨u158, u159, u160, u161, u162, u163, u164, u165, u166, u167, V168, rfl, le169, rfl, ow170⟩
              refine U.p rfl rfl (.inl rfl) (S.move rfl (L 0 rfl rfl)) ?_
              obtain ⟨y171, hy172, h173⟩ := bindS h157
              refine U.joinX 43 (fun e H => ∃ (u174 u175 u176 u177 u178 u179 u180 u181 : Value), H = V168.H ∧ e = [(85, .bool y171), (84, u174), (83, u175), (82, u176), (81, u177), (80, u178), (79, u179), (78, u180), (77, u181)]) ?_ ?_
              · rintro _ _ ⟨u174, u175, u176, u177, u178, u179, u180, u181, rfl, rfl⟩
                refine U.p rfl rfl (.inl rfl) (S.move rfl (L 0 rfl rfl)) ?_
                obtain ⟨y185, hy186, h187⟩ := bindS h173
                refine U.joinX 53 (fun e H => ∃ (u188 u189 u190 u191 u192 u193 u194 u195 : Value), H = V168.H ∧ e = [(95, .bool y185), (94, u188), (93, u189), (92, u190), (91, u191), (90, u192), (89, u193), (88, u194), (87, u195)]) ?_ ?_
                · rintro _ _ ⟨u188, u189, u190, u191, u192, u193, u194, u195, rfl, rfl⟩
                  refine U.done (Nat.le_of_ble_eq_true rfl) ?_
                  refine WP.cond _ (L 0 rfl rfl) rfl (fun c199 => ?_) (fun c199 => ?_)
                  · have h200 := ifT c199 h187
                    refine WP.usreg rfl ?_
                    refine U.p rfl rfl (.inl rfl) (S.assign rfl K) ?_
                    refine U.done (Nat.le_of_ble_eq_true rfl) ?_
                    refine WP.ret ?_
                    refine blkR (sqR (sqR (blkR (blkR (sqR (sqR (blkR (sqR ?_))))))))
                    have h201 := exitS h200 e90
                    have h202 := exitS h201 e48
                    refine fin.slot (.inr rfl) rfl (L 0 rfl rfl) ⟨V168, rfl, (((((((((((le9.trans le20).trans le34).trans le44).trans le66).trans le70).trans le86).trans le108).trans le112).trans le119).trans le131).trans le169), ?_⟩
                    have ow203 := ow170.drop 0 rfl
                    have ow204 := ow203.drop 1 rfl
                    have ow205 := ow204.drop 1 rfl
                    have e206 := Option.some.inj h202
                    subst e206
                    exact ⟨rfl, ow205⟩
                  · have h207 := ifF c199 h187
                    refine WP.skip ?_
                    refine blkN (sqN ?_)
                    refine WP.ureg rfl ?_
                    refine U.p rfl rfl (.inl rfl) (S.add rfl (L 81 rfl rfl) K) ?_
                    refine U.p rfl rfl (.inl rfl) (S.move rfl (L 0 rfl rfl)) ?_
                    refine U.done (Nat.le_of_ble_eq_true rfl) ?_
                    refine sqN ?_
                    have ow208 := ow170.drop 0 rfl
                    exact ⟨_, V168, rfl, ⟨m88, Nat.lt_succ_self _, w64 (x79 + 1), rfl, (((((le86.trans le108).trans le112).trans le119).trans le131).trans le169), ow208, backS h207 e90⟩, (allCons (L 74 rfl rfl) (allCons (L 75 rfl rfl) (allCons (L 76 rfl rfl) (allCons (L 77 rfl rfl) (allCons (L 78 rfl rfl) (allCons (L 79 rfl rfl) (allCons (L 80 rfl rfl) (allCons (L 81 rfl rfl) (allCons (L 82 rfl rfl) (allCons (L 0 rfl rfl) allNil))))))))))⟩
                · intro kk
                  refine bcase (b := y171) (fun g209 => ?_) (fun g209 => ?_)
                  · have h210 := ifT g209 hy186
                    refine U.p rfl rfl (.inr ⟨_, _, _, rfl, rfl, ((L 0 rfl rfl).trans (congrArg Value.bool g209))⟩) (S.move rfl (L 64 rfl rfl)) ?_
                    refine U.p rfl rfl (.inr ⟨_, _, _, rfl, rfl, ((L 1 rfl rfl).trans (congrArg Value.bool g209))⟩) (S.move rfl (L 58 rfl rfl)) ?_
                    obtain ⟨x211, hx212, h213⟩ := bindS h210
                    obtain ⟨b214, o215, n216, c217, hv218⟩ := ow170.sspt (k := 2) rfl hx212
                    refine U.p rfl rfl (.inr ⟨_, _, _, rfl, rfl, ((L 2 rfl rfl).trans (congrArg Value.bool g209))⟩) (S.index rfl ((L 1 rfl rfl).trans (ow170.sslen' (k := 2) rfl hv218)) (L 0 rfl rfl) Try.underlying42 ti53 (ix_ge hx212) (ix_lt hx212)) ?_
                    obtain ⟨h219, hh220, ow221⟩ := ow170.ssopen (k := 2) rfl hx212
                    have hcl223 := ow221.shcell (k := 3) rfl hv218 hh220
                    refine U.k rfl rfl (.inr ⟨_, _, _, rfl, rfl, ((L 3 rfl rfl).trans (congrArg Value.bool g209))⟩) (S.load rfl (L 0 rfl rfl) Try.underlying53 rfl hcl223.2) nd ?_
                    refine U.p rfl rfl (.inr ⟨_, _, _, rfl, rfl, ((L 4 rfl rfl).trans (congrArg Value.bool g209))⟩) (S.move rfl (L 69 rfl rfl)) ?_
                    obtain ⟨x224, hx225, h226⟩ := bindS h213
                    obtain ⟨b227, o228, n229, c230, hv231⟩ := ow221.ospt (k := 0) rfl hx225
                    obtain ⟨_, hv232, _⟩ := ow221.osel (k := 0) rfl hv231 hx225
                    refine U.p rfl rfl (.inr ⟨_, _, _, rfl, rfl, ((L 5 rfl rfl).trans (congrArg Value.bool g209))⟩) (S.index rfl ((L 1 rfl rfl).trans hv232) (L 0 rfl rfl) Try.underlying53 ti4 (ix_ge hx225) (ix_lt hx225)) ?_
                    obtain ⟨cs233, hv234, hlt235, hr236, hc237⟩ := ow221.osel (k := 0) rfl hv231 hx225
                    obtain rfl : cs233 = [.bool x224] := hr236
                    refine U.k rfl rfl (.inr ⟨_, _, _, rfl, rfl, ((L 6 rfl rfl).trans (congrArg Value.bool g209))⟩) (S.load rfl (L 0 rfl rfl) Try.underlying4 rfl (hc237 0 _ rfl)) nd ?_
                    refine U.p rfl rfl (.inr ⟨_, _, _, rfl, rfl, ((L 7 rfl rfl).trans (congrArg Value.bool g209))⟩) (S.not rfl (L 0 rfl rfl)) ?_
                    refine U.p rfl rfl (.inl rfl) (S.pickT rfl ((L 8 rfl rfl).trans (congrArg Value.bool g209)) (L 0 rfl rfl)) ?_
                    have ow238 := ow221.ssclose' (k := 3) (j := 0) rfl rfl (by decide) hh220 hx212
                    have e239 := Option.some.inj h226
                    subst e239
                    exact kk [(95, .bool (!x224)), (94, .bool (!x224)), (93, .bool x224), (92, .pointer (some ⟨b227, o228 + Int.toNat x32 * 1, none⟩)), (91, .int .i64 x32), (90, h219), (89, .pointer (some ⟨b214, o215 + Int.toNat x79 * 1, none⟩)), (88, .int .i64 x79), (87, v18)] _ ⟨.bool (!x224), .bool x224, .pointer (some ⟨b227, o228 + Int.toNat x32 * 1, none⟩), .int .i64 x32, h219, .pointer (some ⟨b214, o215 + Int.toNat x79 * 1, none⟩), .int .i64 x79, v18, rfl, rfl⟩
                  · have h240 := ifF g209 hy186
                    refine U.x rfl rfl rfl rfl ((L 0 rfl rfl).trans (congrArg Value.bool g209)) (by decide) ?_
                    refine U.x rfl rfl rfl rfl ((L 1 rfl rfl).trans (congrArg Value.bool g209)) (by decide) ?_
                    refine U.x rfl rfl rfl rfl ((L 2 rfl rfl).trans (congrArg Value.bool g209)) (by decide) ?_
                    refine U.x rfl rfl rfl rfl ((L 3 rfl rfl).trans (congrArg Value.bool g209)) (by decide) ?_
                    refine U.x rfl rfl rfl rfl ((L 4 rfl rfl).trans (congrArg Value.bool g209)) (by decide) ?_
                    refine U.x rfl rfl rfl rfl ((L 5 rfl rfl).trans (congrArg Value.bool g209)) (by decide) ?_
                    refine U.x rfl rfl rfl rfl ((L 6 rfl rfl).trans (congrArg Value.bool g209)) (by decide) ?_
                    refine U.x rfl rfl rfl rfl ((L 7 rfl rfl).trans (congrArg Value.bool g209)) (by decide) ?_
                    refine U.p rfl rfl (.inl rfl) (S.pickF rfl ((L 8 rfl rfl).trans (congrArg Value.bool g209)) K) ?_
                    have e241 := Option.some.inj h240
                    subst e241
                    exact kk [(95, .bool false), (94, .tuple #[]), (93, .tuple #[]), (92, .tuple #[]), (91, .tuple #[]), (90, .tuple #[]), (89, .tuple #[]), (88, .tuple #[]), (87, .tuple #[])] _ ⟨.tuple #[], .tuple #[], .tuple #[], .tuple #[], .tuple #[], .tuple #[], .tuple #[], .tuple #[], rfl, rfl⟩
              · intro kk
                refine bcase (b := y155) (fun g242 => ?_) (fun g242 => ?_)
                · have h243 := ifT g242 hy172
                  refine U.p rfl rfl (.inr ⟨_, _, _, rfl, rfl, ((L 0 rfl rfl).trans (congrArg Value.bool g242))⟩) (S.move rfl (L 54 rfl rfl)) ?_
                  refine U.p rfl rfl (.inr ⟨_, _, _, rfl, rfl, ((L 1 rfl rfl).trans (congrArg Value.bool g242))⟩) (S.move rfl (L 56 rfl rfl)) ?_
                  obtain ⟨x244, hx245, h246⟩ := bindS h243
                  obtain ⟨b247, o248, n249, c250, hv251⟩ := ow170.sspt (k := 2) rfl hx245
                  refine U.p rfl rfl (.inr ⟨_, _, _, rfl, rfl, ((L 2 rfl rfl).trans (congrArg Value.bool g242))⟩) (S.index rfl ((L 1 rfl rfl).trans (ow170.sslen' (k := 2) rfl hv251)) (L 0 rfl rfl) Try.underlying42 ti53 (ix_ge hx245) (ix_lt hx245)) ?_
                  obtain ⟨h252, hh253, ow254⟩ := ow170.ssopen (k := 2) rfl hx245
                  have hcl256 := ow254.shcell (k := 3) rfl hv251 hh253
                  refine U.k rfl rfl (.inr ⟨_, _, _, rfl, rfl, ((L 3 rfl rfl).trans (congrArg Value.bool g242))⟩) (S.load rfl (L 0 rfl rfl) Try.underlying53 rfl hcl256.2) nd ?_
                  refine U.p rfl rfl (.inr ⟨_, _, _, rfl, rfl, ((L 4 rfl rfl).trans (congrArg Value.bool g242))⟩) (S.move rfl (L 51 rfl rfl)) ?_
                  obtain ⟨x257, hx258, h259⟩ := bindS h246
                  obtain ⟨b260, o261, n262, c263, hv264⟩ := ow254.ospt (k := 0) rfl hx258
                  obtain ⟨_, hv265, _⟩ := ow254.osel (k := 0) rfl hv264 hx258
                  refine U.p rfl rfl (.inr ⟨_, _, _, rfl, rfl, ((L 5 rfl rfl).trans (congrArg Value.bool g242))⟩) (S.index rfl ((L 1 rfl rfl).trans hv265) (L 0 rfl rfl) Try.underlying53 ti4 (ix_ge hx258) (ix_lt hx258)) ?_
                  obtain ⟨cs266, hv267, hlt268, hr269, hc270⟩ := ow254.osel (k := 0) rfl hv264 hx258
                  obtain rfl : cs266 = [.bool x257] := hr269
                  refine U.k rfl rfl (.inr ⟨_, _, _, rfl, rfl, ((L 6 rfl rfl).trans (congrArg Value.bool g242))⟩) (S.load rfl (L 0 rfl rfl) Try.underlying4 rfl (hc270 0 _ rfl)) nd ?_
                  refine U.p rfl rfl (.inr ⟨_, _, _, rfl, rfl, ((L 7 rfl rfl).trans (congrArg Value.bool g242))⟩) (S.not rfl (L 0 rfl rfl)) ?_
                  refine U.p rfl rfl (.inl rfl) (S.pickT rfl ((L 8 rfl rfl).trans (congrArg Value.bool g242)) (L 0 rfl rfl)) ?_
                  have ow271 := ow254.ssclose' (k := 3) (j := 0) rfl rfl (by decide) hh253 hx245
                  have e272 := Option.some.inj h259
                  subst e272
                  exact kk [(85, .bool (!x257)), (84, .bool (!x257)), (83, .bool x257), (82, .pointer (some ⟨b260, o261 + Int.toNat x79 * 1, none⟩)), (81, .int .i64 x79), (80, h252), (79, .pointer (some ⟨b247, o248 + Int.toNat x32 * 1, none⟩)), (78, .int .i64 x32), (77, v18)] _ ⟨.bool (!x257), .bool x257, .pointer (some ⟨b260, o261 + Int.toNat x79 * 1, none⟩), .int .i64 x79, h252, .pointer (some ⟨b247, o248 + Int.toNat x32 * 1, none⟩), .int .i64 x32, v18, rfl, rfl⟩
                · have h273 := ifF g242 hy172
                  refine U.x rfl rfl rfl rfl ((L 0 rfl rfl).trans (congrArg Value.bool g242)) (by decide) ?_
                  refine U.x rfl rfl rfl rfl ((L 1 rfl rfl).trans (congrArg Value.bool g242)) (by decide) ?_
                  refine U.x rfl rfl rfl rfl ((L 2 rfl rfl).trans (congrArg Value.bool g242)) (by decide) ?_
                  refine U.x rfl rfl rfl rfl ((L 3 rfl rfl).trans (congrArg Value.bool g242)) (by decide) ?_
                  refine U.x rfl rfl rfl rfl ((L 4 rfl rfl).trans (congrArg Value.bool g242)) (by decide) ?_
                  refine U.x rfl rfl rfl rfl ((L 5 rfl rfl).trans (congrArg Value.bool g242)) (by decide) ?_
                  refine U.x rfl rfl rfl rfl ((L 6 rfl rfl).trans (congrArg Value.bool g242)) (by decide) ?_
                  refine U.x rfl rfl rfl rfl ((L 7 rfl rfl).trans (congrArg Value.bool g242)) (by decide) ?_
                  refine U.p rfl rfl (.inl rfl) (S.pickF rfl ((L 8 rfl rfl).trans (congrArg Value.bool g242)) K) ?_
                  have e274 := Option.some.inj h273
                  subst e274
                  exact kk [(85, .bool false), (84, .tuple #[]), (83, .tuple #[]), (82, .tuple #[]), (81, .tuple #[]), (80, .tuple #[]), (79, .tuple #[]), (78, .tuple #[]), (77, .tuple #[])] _ ⟨.tuple #[], .tuple #[], .tuple #[], .tuple #[], .tuple #[], .tuple #[], .tuple #[], .tuple #[], rfl, rfl⟩
            · intro kk
              refine bcase (b := (y122 && (decide (x53.e.t ≠ x95.e.t))) && (decide (x53.e.act.at_ = x95.e.act.at_))) (fun g275 => ?_) (fun g275 => ?_)
              · have h276 := ifT g275 hy156
                refine U.p (v := .pointer (some ⟨b64, 0, none⟩)) rfl rfl (.inr ⟨_, _, _, rfl, rfl, ((L 0 rfl rfl).trans (congrArg Value.bool g275))⟩) (S.fieldAddr rfl (L 44 rfl rfl) Try.underlying45 rfl ti31 rfl rfl) ?_
                refine U.p (v := .pointer (some ⟨b64, 1, none⟩)) rfl rfl (.inr ⟨_, _, _, rfl, rfl, ((L 1 rfl rfl).trans (congrArg Value.bool g275))⟩) (S.fieldAddr rfl (L 0 rfl rfl) Try.underlying31 rfl ti29 rfl rfl) ?_
                refine U.k rfl rfl (.inr ⟨_, _, _, rfl, rfl, ((L 2 rfl rfl).trans (congrArg Value.bool g275))⟩) (S.loadN (cs := [.int .i64 x53.e.act.kind, .int .i64 x53.e.act.at_, .int .i64 x53.e.act.val, .int .i64 x53.e.act.what, .bool x53.e.act.volatile, .bool x53.e.act.final]) rfl (L 0 rfl rfl) Try.underlying29 rfl ti29 rfl (cellsOfOwn (ow132.own (k := 3) rfl) 1 rfl)) nd ?_
                obtain ⟨x277, hx278, h279⟩ := bindS h276
                refine O.call (V := V130) rfl rfl (.inr ⟨_, _, _, rfl, rfl, ((L 3 rfl rfl).trans (congrArg Value.bool g275))⟩) rfl en39 (aC (L 0 rfl rfl) aN) (wk_order_writes V130 _ x53.e.act ow132 _ hx278) (fun _ _ _ _ => nd) (fun v280 V281 le282 hp283 => ?_)
                obtain ⟨rfl, ow284⟩ := hp283
                refine U.p rfl rfl (.inr ⟨_, _, _, rfl, rfl, ((L 4 rfl rfl).trans (congrArg Value.bool g275))⟩) (S.move rfl (L 0 rfl rfl)) ?_
                obtain ⟨y285, hy286, h287⟩ := bindS h279
                refine U.joinX 32 (fun e H => ∃ (u288 u289 u290 u291 : Value), ∃ V' : Vw, H = V'.H ∧ V281.le V' ∧ e = [(74, .bool y285), (73, u288), (72, u289), (71, u290), (70, u291)] ∧ Ow V' (.pt b106 (.cells 10 [.int .i64 x95.e.t, .int .i64 x95.e.act.kind, .int .i64 x95.e.act.at_, .int .i64 x95.e.act.val, .int .i64 x95.e.act.what, .bool x95.e.act.volatile, .bool x95.e.act.final, .int .i64 x95.e.rf, .int .i64 x95.e.id, .int .i64 x95.at_]) :: .oss (RO.os RT_TEvent) v1 hs2 p0 :: .oss (RO.os RT.bool) v18 hs24 x15 :: .pt b64 (.cells 10 [.int .i64 x53.e.t, .int .i64 x53.e.act.kind, .int .i64 x53.e.act.at_, .int .i64 x53.e.act.val, .int .i64 x53.e.act.what, .bool x53.e.act.volatile, .bool x53.e.act.final, .int .i64 x53.e.rf, .int .i64 x53.e.id, .int .i64 x53.at_]) :: Rs)) ?_ ?_
                · rintro _ _ ⟨u288, u289, u290, u291, V292, rfl, le293, rfl, ow294⟩
                  refine U.p rfl rfl (.inl rfl) (S.pickT rfl ((L 10 rfl rfl).trans (congrArg Value.bool g275)) (L 0 rfl rfl)) ?_
                  have e295 := Option.some.inj h287
                  subst e295
                  exact kk [(75, .bool y285), (74, .bool y285), (73, u288), (72, u289), (71, u290), (70, u291), (69, .bool x277), (68, .bool x277), (67, .agg #[.int .i64 x53.e.act.kind, .int .i64 x53.e.act.at_, .int .i64 x53.e.act.val, .int .i64 x53.e.act.what, .bool x53.e.act.volatile, .bool x53.e.act.final]), (66, .pointer (some ⟨b64, 1, none⟩)), (65, .pointer (some ⟨b64, 0, none⟩))] _ ⟨.bool y285, u288, u289, u290, u291, .bool x277, .bool x277, .agg #[.int .i64 x53.e.act.kind, .int .i64 x53.e.act.at_, .int .i64 x53.e.act.val, .int .i64 x53.e.act.what, .bool x53.e.act.volatile, .bool x53.e.act.final], .pointer (some ⟨b64, 1, none⟩), .pointer (some ⟨b64, 0, none⟩), V292, rfl, (le282.trans le293), rfl, ow294⟩
                · intro kk
                  refine bcase (b := x277) (fun g296 => ?_) (fun g296 => ?_)
                  · have h297 := ifT g296 hy286
                    refine U.x rfl rfl rfl rfl ((L 0 rfl rfl).trans (congrArg Value.bool g296)) (by decide) ?_
                    refine U.x rfl rfl rfl rfl ((L 1 rfl rfl).trans (congrArg Value.bool g296)) (by decide) ?_
                    refine U.x rfl rfl rfl rfl ((L 2 rfl rfl).trans (congrArg Value.bool g296)) (by decide) ?_
                    refine U.x rfl rfl rfl rfl ((L 3 rfl rfl).trans (congrArg Value.bool g296)) (by decide) ?_
                    refine U.p rfl rfl (.inr ⟨_, _, _, rfl, rfl, ((L 9 rfl rfl).trans (congrArg Value.bool g275))⟩) (S.pickT rfl ((L 4 rfl rfl).trans (congrArg Value.bool g296)) K) ?_
                    have e298 := Option.some.inj h297
                    subst e298
                    exact kk [(74, .bool true), (73, .tuple #[]), (72, .tuple #[]), (71, .tuple #[]), (70, .tuple #[])] _ ⟨.tuple #[], .tuple #[], .tuple #[], .tuple #[], V281, rfl, (.refl _), rfl, ow284⟩
                  · have h299 := ifF g296 hy286
                    refine U.p (v := .pointer (some ⟨b106, 0, none⟩)) rfl rfl (.inr ⟨_, _, _, rfl, rfl, ((L 0 rfl rfl).trans (congrArg Value.bool g296))⟩) (S.fieldAddr rfl (L 41 rfl rfl) Try.underlying45 rfl ti31 rfl rfl) ?_
                    refine U.p (v := .pointer (some ⟨b106, 1, none⟩)) rfl rfl (.inr ⟨_, _, _, rfl, rfl, ((L 1 rfl rfl).trans (congrArg Value.bool g296))⟩) (S.fieldAddr rfl (L 0 rfl rfl) Try.underlying31 rfl ti29 rfl rfl) ?_
                    refine U.k rfl rfl (.inr ⟨_, _, _, rfl, rfl, ((L 2 rfl rfl).trans (congrArg Value.bool g296))⟩) (S.loadN (cs := [.int .i64 x95.e.act.kind, .int .i64 x95.e.act.at_, .int .i64 x95.e.act.val, .int .i64 x95.e.act.what, .bool x95.e.act.volatile, .bool x95.e.act.final]) rfl (L 0 rfl rfl) Try.underlying29 rfl ti29 rfl (cellsOfOwn (ow284.own (k := 0) rfl) 1 rfl)) nd ?_
                    obtain ⟨x300, hx301, h302⟩ := bindS h299
                    refine O.call (V := V281) rfl rfl (.inr ⟨_, _, _, rfl, rfl, ((L 3 rfl rfl).trans (congrArg Value.bool g296))⟩) rfl en39 (aC (L 0 rfl rfl) aN) (wk_order_writes V281 _ x95.e.act ow284 _ hx301) (fun _ _ _ _ => nd) (fun v303 V304 le305 hp306 => ?_)
                    obtain ⟨rfl, ow307⟩ := hp306
                    refine U.p rfl rfl (.inr ⟨_, _, _, rfl, rfl, ((L 9 rfl rfl).trans (congrArg Value.bool g275))⟩) (S.pickF rfl ((L 4 rfl rfl).trans (congrArg Value.bool g296)) (L 0 rfl rfl)) ?_
                    have e308 := Option.some.inj h302
                    subst e308
                    exact kk [(74, .bool x300), (73, .bool x300), (72, .agg #[.int .i64 x95.e.act.kind, .int .i64 x95.e.act.at_, .int .i64 x95.e.act.val, .int .i64 x95.e.act.what, .bool x95.e.act.volatile, .bool x95.e.act.final]), (71, .pointer (some ⟨b106, 1, none⟩)), (70, .pointer (some ⟨b106, 0, none⟩))] _ ⟨.bool x300, .agg #[.int .i64 x95.e.act.kind, .int .i64 x95.e.act.at_, .int .i64 x95.e.act.val, .int .i64 x95.e.act.what, .bool x95.e.act.volatile, .bool x95.e.act.final], .pointer (some ⟨b106, 1, none⟩), .pointer (some ⟨b106, 0, none⟩), V304, rfl, le305, rfl, ow307⟩
              · have h309 := ifF g275 hy156
                refine U.x rfl rfl rfl rfl ((L 0 rfl rfl).trans (congrArg Value.bool g275)) (by decide) ?_
                refine U.x rfl rfl rfl rfl ((L 1 rfl rfl).trans (congrArg Value.bool g275)) (by decide) ?_
                refine U.x rfl rfl rfl rfl ((L 2 rfl rfl).trans (congrArg Value.bool g275)) (by decide) ?_
                refine U.x rfl rfl rfl rfl ((L 3 rfl rfl).trans (congrArg Value.bool g275)) (by decide) ?_
                refine U.x rfl rfl rfl rfl ((L 4 rfl rfl).trans (congrArg Value.bool g275)) (by decide) ?_
                refine U.z rfl rfl rfl rfl (L 0 rfl rfl) ?_
                refine U.z rfl rfl rfl rfl (L 1 rfl rfl) ?_
                refine U.z rfl rfl rfl rfl (L 2 rfl rfl) ?_
                refine U.z rfl rfl rfl rfl (L 3 rfl rfl) ?_
                refine U.x rfl rfl rfl rfl ((L 9 rfl rfl).trans (congrArg Value.bool g275)) (by decide) ?_
                refine U.p rfl rfl (.inl rfl) (S.pickF rfl ((L 10 rfl rfl).trans (congrArg Value.bool g275)) K) ?_
                have e310 := Option.some.inj h309
                subst e310
                exact kk [(75, .bool false), (74, .tuple #[]), (73, .tuple #[]), (72, .tuple #[]), (71, .tuple #[]), (70, .tuple #[]), (69, .tuple #[]), (68, .tuple #[]), (67, .tuple #[]), (66, .tuple #[]), (65, .tuple #[])] _ ⟨.tuple #[], .tuple #[], .tuple #[], .tuple #[], .tuple #[], .tuple #[], .tuple #[], .tuple #[], .tuple #[], .tuple #[], V130, rfl, (.refl _), rfl, ow132⟩
          · intro kk
            refine bcase (b := y122 && (decide (x53.e.t ≠ x95.e.t))) (fun g311 => ?_) (fun g311 => ?_)
            · skip
              refine U.p (v := .pointer (some ⟨b64, 0, none⟩)) rfl rfl (.inr ⟨_, _, _, rfl, rfl, ((L 0 rfl rfl).trans (congrArg Value.bool g311))⟩) (S.fieldAddr rfl (L 33 rfl rfl) Try.underlying45 rfl ti31 rfl rfl) ?_
              refine U.p (v := .pointer (some ⟨b64, 1, none⟩)) rfl rfl (.inr ⟨_, _, _, rfl, rfl, ((L 1 rfl rfl).trans (congrArg Value.bool g311))⟩) (S.fieldAddr rfl (L 0 rfl rfl) Try.underlying31 rfl ti29 rfl rfl) ?_
              refine U.p (v := .pointer (some ⟨b64, 2, none⟩)) rfl rfl (.inr ⟨_, _, _, rfl, rfl, ((L 2 rfl rfl).trans (congrArg Value.bool g311))⟩) (S.fieldAddr rfl (L 0 rfl rfl) Try.underlying29 rfl ti3 rfl rfl) ?_
              refine U.k rfl rfl (.inr ⟨_, _, _, rfl, rfl, ((L 3 rfl rfl).trans (congrArg Value.bool g311))⟩) (S.load rfl (L 0 rfl rfl) Try.underlying3 rfl ((ow132.own (k := 3) rfl).cell rfl)) nd ?_
              refine U.p (v := .pointer (some ⟨b106, 0, none⟩)) rfl rfl (.inr ⟨_, _, _, rfl, rfl, ((L 4 rfl rfl).trans (congrArg Value.bool g311))⟩) (S.fieldAddr rfl (L 29 rfl rfl) Try.underlying45 rfl ti31 rfl rfl) ?_
              refine U.p (v := .pointer (some ⟨b106, 1, none⟩)) rfl rfl (.inr ⟨_, _, _, rfl, rfl, ((L 5 rfl rfl).trans (congrArg Value.bool g311))⟩) (S.fieldAddr rfl (L 0 rfl rfl) Try.underlying31 rfl ti29 rfl rfl) ?_
              refine U.p (v := .pointer (some ⟨b106, 2, none⟩)) rfl rfl (.inr ⟨_, _, _, rfl, rfl, ((L 6 rfl rfl).trans (congrArg Value.bool g311))⟩) (S.fieldAddr rfl (L 0 rfl rfl) Try.underlying29 rfl ti3 rfl rfl) ?_
              refine U.k rfl rfl (.inr ⟨_, _, _, rfl, rfl, ((L 7 rfl rfl).trans (congrArg Value.bool g311))⟩) (S.load rfl (L 0 rfl rfl) Try.underlying3 rfl ((ow132.own (k := 0) rfl).cell rfl)) nd ?_
              refine U.p rfl rfl (.inr ⟨_, _, _, rfl, rfl, ((L 8 rfl rfl).trans (congrArg Value.bool g311))⟩) (S.eqlI rfl (L 4 rfl rfl) (L 0 rfl rfl)) ?_
              refine U.p rfl rfl (.inl rfl) (S.pickT rfl ((L 9 rfl rfl).trans (congrArg Value.bool g311)) (L 0 rfl rfl)) ?_
              exact kk [(63, .bool (decide (x53.e.act.at_ = x95.e.act.at_))), (62, .bool (decide (x53.e.act.at_ = x95.e.act.at_))), (61, .int .i64 x95.e.act.at_), (60, .pointer (some ⟨b106, 2, none⟩)), (59, .pointer (some ⟨b106, 1, none⟩)), (58, .pointer (some ⟨b106, 0, none⟩)), (57, .int .i64 x53.e.act.at_), (56, .pointer (some ⟨b64, 2, none⟩)), (55, .pointer (some ⟨b64, 1, none⟩)), (54, .pointer (some ⟨b64, 0, none⟩))] _ ⟨.bool (decide (x53.e.act.at_ = x95.e.act.at_)), .int .i64 x95.e.act.at_, .pointer (some ⟨b106, 2, none⟩), .pointer (some ⟨b106, 1, none⟩), .pointer (some ⟨b106, 0, none⟩), .int .i64 x53.e.act.at_, .pointer (some ⟨b64, 2, none⟩), .pointer (some ⟨b64, 1, none⟩), .pointer (some ⟨b64, 0, none⟩), rfl, (by rw [g311, Bool.true_and])⟩
            · skip
              refine U.x rfl rfl rfl rfl ((L 0 rfl rfl).trans (congrArg Value.bool g311)) (by decide) ?_
              refine U.x rfl rfl rfl rfl ((L 1 rfl rfl).trans (congrArg Value.bool g311)) (by decide) ?_
              refine U.x rfl rfl rfl rfl ((L 2 rfl rfl).trans (congrArg Value.bool g311)) (by decide) ?_
              refine U.x rfl rfl rfl rfl ((L 3 rfl rfl).trans (congrArg Value.bool g311)) (by decide) ?_
              refine U.x rfl rfl rfl rfl ((L 4 rfl rfl).trans (congrArg Value.bool g311)) (by decide) ?_
              refine U.x rfl rfl rfl rfl ((L 5 rfl rfl).trans (congrArg Value.bool g311)) (by decide) ?_
              refine U.x rfl rfl rfl rfl ((L 6 rfl rfl).trans (congrArg Value.bool g311)) (by decide) ?_
              refine U.x rfl rfl rfl rfl ((L 7 rfl rfl).trans (congrArg Value.bool g311)) (by decide) ?_
              refine U.x rfl rfl rfl rfl ((L 8 rfl rfl).trans (congrArg Value.bool g311)) (by decide) ?_
              refine U.p rfl rfl (.inl rfl) (S.pickF rfl ((L 9 rfl rfl).trans (congrArg Value.bool g311)) K) ?_
              exact kk [(63, .bool false), (62, .tuple #[]), (61, .tuple #[]), (60, .tuple #[]), (59, .tuple #[]), (58, .tuple #[]), (57, .tuple #[]), (56, .tuple #[]), (55, .tuple #[]), (54, .tuple #[])] _ ⟨.tuple #[], .tuple #[], .tuple #[], .tuple #[], .tuple #[], .tuple #[], .tuple #[], .tuple #[], .tuple #[], rfl, (by rw [g311, Bool.false_and])⟩
        · intro kk
          refine bcase (b := y122) (fun g312 => ?_) (fun g312 => ?_)
          · skip
            refine U.p (v := .pointer (some ⟨b64, 0, none⟩)) rfl rfl (.inr ⟨_, _, _, rfl, rfl, ((L 0 rfl rfl).trans (congrArg Value.bool g312))⟩) (S.fieldAddr rfl (L 24 rfl rfl) Try.underlying45 rfl ti31 rfl rfl) ?_
            refine U.p (v := .pointer (some ⟨b64, 0, none⟩)) rfl rfl (.inr ⟨_, _, _, rfl, rfl, ((L 1 rfl rfl).trans (congrArg Value.bool g312))⟩) (S.fieldAddr rfl (L 0 rfl rfl) Try.underlying31 rfl ti3 rfl rfl) ?_
            refine U.k rfl rfl (.inr ⟨_, _, _, rfl, rfl, ((L 2 rfl rfl).trans (congrArg Value.bool g312))⟩) (S.load rfl (L 0 rfl rfl) Try.underlying3 rfl ((ow132.own (k := 3) rfl).cell rfl)) nd ?_
            refine U.p (v := .pointer (some ⟨b106, 0, none⟩)) rfl rfl (.inr ⟨_, _, _, rfl, rfl, ((L 3 rfl rfl).trans (congrArg Value.bool g312))⟩) (S.fieldAddr rfl (L 19 rfl rfl) Try.underlying45 rfl ti31 rfl rfl) ?_
            refine U.p (v := .pointer (some ⟨b106, 0, none⟩)) rfl rfl (.inr ⟨_, _, _, rfl, rfl, ((L 4 rfl rfl).trans (congrArg Value.bool g312))⟩) (S.fieldAddr rfl (L 0 rfl rfl) Try.underlying31 rfl ti3 rfl rfl) ?_
            refine U.k rfl rfl (.inr ⟨_, _, _, rfl, rfl, ((L 5 rfl rfl).trans (congrArg Value.bool g312))⟩) (S.load rfl (L 0 rfl rfl) Try.underlying3 rfl ((ow132.own (k := 0) rfl).cell rfl)) nd ?_
            refine U.p rfl rfl (.inr ⟨_, _, _, rfl, rfl, ((L 6 rfl rfl).trans (congrArg Value.bool g312))⟩) (S.neqI rfl (L 3 rfl rfl) (L 0 rfl rfl)) ?_
            refine U.p rfl rfl (.inl rfl) (S.pickT rfl ((L 7 rfl rfl).trans (congrArg Value.bool g312)) (L 0 rfl rfl)) ?_
            exact kk [(52, .bool (decide (x53.e.t ≠ x95.e.t))), (51, .bool (decide (x53.e.t ≠ x95.e.t))), (50, .int .i64 x95.e.t), (49, .pointer (some ⟨b106, 0, none⟩)), (48, .pointer (some ⟨b106, 0, none⟩)), (47, .int .i64 x53.e.t), (46, .pointer (some ⟨b64, 0, none⟩)), (45, .pointer (some ⟨b64, 0, none⟩))] _ ⟨.bool (decide (x53.e.t ≠ x95.e.t)), .int .i64 x95.e.t, .pointer (some ⟨b106, 0, none⟩), .pointer (some ⟨b106, 0, none⟩), .int .i64 x53.e.t, .pointer (some ⟨b64, 0, none⟩), .pointer (some ⟨b64, 0, none⟩), rfl, (by rw [g312, Bool.true_and])⟩
          · skip
            refine U.x rfl rfl rfl rfl ((L 0 rfl rfl).trans (congrArg Value.bool g312)) (by decide) ?_
            refine U.x rfl rfl rfl rfl ((L 1 rfl rfl).trans (congrArg Value.bool g312)) (by decide) ?_
            refine U.x rfl rfl rfl rfl ((L 2 rfl rfl).trans (congrArg Value.bool g312)) (by decide) ?_
            refine U.x rfl rfl rfl rfl ((L 3 rfl rfl).trans (congrArg Value.bool g312)) (by decide) ?_
            refine U.x rfl rfl rfl rfl ((L 4 rfl rfl).trans (congrArg Value.bool g312)) (by decide) ?_
            refine U.x rfl rfl rfl rfl ((L 5 rfl rfl).trans (congrArg Value.bool g312)) (by decide) ?_
            refine U.x rfl rfl rfl rfl ((L 6 rfl rfl).trans (congrArg Value.bool g312)) (by decide) ?_
            refine U.p rfl rfl (.inl rfl) (S.pickF rfl ((L 7 rfl rfl).trans (congrArg Value.bool g312)) K) ?_
            exact kk [(52, .bool false), (51, .tuple #[]), (50, .tuple #[]), (49, .tuple #[]), (48, .tuple #[]), (47, .tuple #[]), (46, .tuple #[]), (45, .tuple #[])] _ ⟨.tuple #[], .tuple #[], .tuple #[], .tuple #[], .tuple #[], .tuple #[], .tuple #[], rfl, (by rw [g312, Bool.false_and])⟩
      · intro kk
        refine bcase (b := !x114) (fun g313 => ?_) (fun g313 => ?_)
        · have h314 := ifT g313 hy123
          have k315 : x114 = false := by simpa using g313
          refine U.x rfl rfl rfl rfl ((L 0 rfl rfl).trans (congrArg Value.bool g313)) (by decide) ?_
          refine U.x rfl rfl rfl rfl ((L 1 rfl rfl).trans (congrArg Value.bool g313)) (by decide) ?_
          refine U.x rfl rfl rfl rfl ((L 2 rfl rfl).trans (congrArg Value.bool g313)) (by decide) ?_
          refine U.x rfl rfl rfl rfl ((L 3 rfl rfl).trans (congrArg Value.bool g313)) (by decide) ?_
          refine U.x rfl rfl rfl rfl ((L 4 rfl rfl).trans (congrArg Value.bool g313)) (by decide) ?_
          refine U.p rfl rfl (.inl rfl) (S.pickT rfl ((L 5 rfl rfl).trans (congrArg Value.bool g313)) K) ?_
          have e316 := Option.some.inj h314
          subst e316
          exact kk [(42, .bool true), (41, .tuple #[]), (40, .tuple #[]), (39, .tuple #[]), (38, .tuple #[]), (37, .tuple #[])] _ ⟨.tuple #[], .tuple #[], .tuple #[], .tuple #[], .tuple #[], V118, rfl, (.refl _), rfl, ow121⟩
        · have h317 := ifF g313 hy123
          have k318 : x114 = true := by simpa using g313
          refine U.p (v := .pointer (some ⟨b106, 0, none⟩)) rfl rfl (.inr ⟨_, _, _, rfl, rfl, ((L 0 rfl rfl).trans (congrArg Value.bool g313))⟩) (S.fieldAddr rfl (L 7 rfl rfl) Try.underlying45 rfl ti31 rfl rfl) ?_
          refine U.p (v := .pointer (some ⟨b106, 1, none⟩)) rfl rfl (.inr ⟨_, _, _, rfl, rfl, ((L 1 rfl rfl).trans (congrArg Value.bool g313))⟩) (S.fieldAddr rfl (L 0 rfl rfl) Try.underlying31 rfl ti29 rfl rfl) ?_
          refine U.k rfl rfl (.inr ⟨_, _, _, rfl, rfl, ((L 2 rfl rfl).trans (congrArg Value.bool g313))⟩) (S.loadN (cs := [.int .i64 x95.e.act.kind, .int .i64 x95.e.act.at_, .int .i64 x95.e.act.val, .int .i64 x95.e.act.what, .bool x95.e.act.volatile, .bool x95.e.act.final]) rfl (L 0 rfl rfl) Try.underlying29 rfl ti29 rfl (cellsOfOwn (ow121.own (k := 0) rfl) 1 rfl)) nd ?_
          obtain ⟨x319, hx320, h321⟩ := bindS h317
          refine O.call (V := V118) rfl rfl (.inr ⟨_, _, _, rfl, rfl, ((L 3 rfl rfl).trans (congrArg Value.bool g313))⟩) rfl en36 (aC (L 0 rfl rfl) aN) (wk_order_syncs V118 _ x95.e.act ow121 _ hx320) (fun _ _ _ _ => nd) (fun v322 V323 le324 hp325 => ?_)
          obtain ⟨rfl, ow326⟩ := hp325
          refine U.p rfl rfl (.inr ⟨_, _, _, rfl, rfl, ((L 4 rfl rfl).trans (congrArg Value.bool g313))⟩) (S.not rfl (L 0 rfl rfl)) ?_
          refine U.p rfl rfl (.inl rfl) (S.pickF rfl ((L 5 rfl rfl).trans (congrArg Value.bool g313)) (L 0 rfl rfl)) ?_
          have e327 := Option.some.inj h321
          subst e327
          exact kk [(42, .bool (!x319)), (41, .bool (!x319)), (40, .bool x319), (39, .agg #[.int .i64 x95.e.act.kind, .int .i64 x95.e.act.at_, .int .i64 x95.e.act.val, .int .i64 x95.e.act.what, .bool x95.e.act.volatile, .bool x95.e.act.final]), (38, .pointer (some ⟨b106, 1, none⟩)), (37, .pointer (some ⟨b106, 0, none⟩))] _ ⟨.bool (!x319), .bool x319, .agg #[.int .i64 x95.e.act.kind, .int .i64 x95.e.act.at_, .int .i64 x95.e.act.val, .int .i64 x95.e.act.what, .bool x95.e.act.volatile, .bool x95.e.act.final], .pointer (some ⟨b106, 1, none⟩), .pointer (some ⟨b106, 0, none⟩), V323, rfl, le324, rfl, ow326⟩
    · have h328 := ifF c93 h92
      refine WP.exit ?_
      refine sqE (sqE (blkE (blkN (sqN ?_))))
      have h329 := exitS h328 e90
      refine WP.ureg rfl ?_
      refine U.p rfl rfl (.inl rfl) (S.add rfl (L 7 rfl rfl) K) ?_
      refine U.p rfl rfl (.inl rfl) (S.move rfl (L 0 rfl rfl)) ?_
      refine U.done (Nat.le_of_ble_eq_true rfl) ?_
      refine sqN ?_
      have ow330 := ow87.drop 2 rfl
      have f331 := f72.up le86
      have f332 := f31.up ((le66.trans le70).trans le86)
      exact ⟨_, V85, rfl, ⟨m46, Nat.lt_succ_self _, xs26, v27, xs29, v30, w64 (x32 + 1), rfl, (((le44.trans le66).trans le70).trans le86), f331, f332, ow330, backS h329 e48⟩, (allCons (L 3 rfl rfl) (allCons (L 4 rfl rfl) (allCons (L 7 rfl rfl) (allCons (L 8 rfl rfl) (allCons (L 0 rfl rfl) allNil)))))⟩
  · have h333 := ifF c51 h50
    refine WP.exit ?_
    refine sqE (sqE (blkE (sqN ?_)))
    have h334 := exitS h333 e48
    refine WP.usreg rfl ?_
    refine U.p rfl rfl (.inl rfl) (S.assign rfl K) ?_
    refine U.done (Nat.le_of_ble_eq_true rfl) ?_
    refine WP.ret ?_
    refine fin.slot (.inr rfl) rfl (L 0 rfl rfl) ⟨V43, rfl, (((le9.trans le20).trans le34).trans le44), ?_⟩
    have ow335 := ow45.drop 1 rfl
    have e336 := Option.some.inj h334
    subst e336
    exact ⟨rfl, ow335⟩

set_option maxHeartbeats 4000000 in
set_option maxRecDepth 10000 in
theorem wk_law21_alive (V : Vw) (Rs : List At) (ow : Ow V (Rs)) (r : Bool) (h : law21_alive = some r) : ∃ v V', Cl Try.prog 0 8 #[] V.H v V'.H ∧ V.le V' ∧ (v = .bool r ∧ Ow V' (Rs)) := by
  refine Ct.of (Nat.zero_le _) Try.func8 rfl (Nat.le_of_ble_eq_true rfl) ?_
  unfold law21_alive at h
  refine WP.usreg rfl ?_
  refine U.p rfl rfl (.inl rfl) (S.assign rfl K) ?_
  refine U.done (Nat.le_of_ble_eq_true rfl) ?_
  refine WP.usreg rfl ?_
  obtain ⟨x1, hx2, h3⟩ := bindS h
  refine O.call (V := V) rfl rfl (.inl rfl) rfl en21 (aC K (aC K (aC K aN))) (wk_law21_w V _ 0 8 1 ow _ hx2) (fun _ _ _ _ => nd) (fun v4 V5 le6 hp7 => ?_)
  obtain ⟨rfl, ow8⟩ := hp7
  obtain ⟨x9, hx10, h11⟩ := bindS h3
  refine O.call (V := V5) rfl rfl (.inl rfl) rfl en22 (aC K (aC K (aC K aN))) (wk_law21_r V5 _ 0 16 0 ow8 _ hx10) (fun _ _ _ _ => nd) (fun v12 V13 le14 hp15 => ?_)
  obtain ⟨rfl, ow16⟩ := hp15
  refine O.lit (R := RT_TEvent) ow16 rfl rfl (.inl rfl) rfl Try.underlying27 ti31 rfl rfl rfl (Nat.le_of_ble_eq_true rfl) rfl (aC (L 1 rfl rfl) (aC (L 0 rfl rfl) aN)) (.cons _ _ x1 _ (by simp [topV]) rfl (.cons _ _ x9 _ (by simp [topV]) rfl .nil)) (fun _ => nd) (fun v17 V18 le19 ow20 => ?_)
  obtain ⟨x22, hx23, h24⟩ := bindS h11
  refine O.call (V := V18) rfl rfl (.inl rfl) rfl en21 (aC K (aC K (aC K aN))) (wk_law21_w V18 _ 1 16 2 ow20 _ hx23) (fun _ _ _ _ => nd) (fun v25 V26 le27 hp28 => ?_)
  obtain ⟨rfl, ow29⟩ := hp28
  obtain ⟨x30, hx31, h32⟩ := bindS h24
  refine O.call (V := V26) rfl rfl (.inl rfl) rfl en22 (aC K (aC K (aC K aN))) (wk_law21_r V26 _ 1 8 0 ow29 _ hx31) (fun _ _ _ _ => nd) (fun v33 V34 le35 hp36 => ?_)
  obtain ⟨rfl, ow37⟩ := hp36
  refine O.lit (R := RT_TEvent) ow37 rfl rfl (.inl rfl) rfl Try.underlying27 ti31 rfl rfl rfl (Nat.le_of_ble_eq_true rfl) rfl (aC (L 1 rfl rfl) (aC (L 0 rfl rfl) aN)) (.cons _ _ x22 _ (by simp [topV]) rfl (.cons _ _ x30 _ (by simp [topV]) rfl .nil)) (fun _ => nd) (fun v38 V39 le40 ow41 => ?_)
  have ow43 := ow41.pick 1 rfl
  refine O.litS (RI := (RO.os RT_TEvent)) (Bs := [.os RT_TEvent v17 [x1, x9], .os RT_TEvent v38 [x22, x30]]) (As := Rs) (us := ([v17, v38] : List Value)) (ys := [[x1, x9], [x22, x30]]) ow43 rfl rfl (.inl rfl) rfl Try.underlying25 ti27 rfl rfl (Nat.le_of_ble_eq_true rfl) rfl (aC (L 3 rfl rfl) (aC (L 0 rfl rfl) aN)) (fun p hp => all2 hp) (fun _ => nd) (fun v44 V45 le46 ow47 => ?_)
  refine U.p rfl rfl (.inl rfl) (S.assign rfl (L 0 rfl rfl)) ?_
  refine U.done (Nat.le_of_ble_eq_true rfl) ?_
  refine WP.usreg rfl ?_
  refine U.p rfl rfl (.inl rfl) (S.move rfl (L 0 rfl rfl)) ?_
  obtain ⟨x49, hx50, h51⟩ := bindS h32
  refine O.call (V := V45) rfl rfl (.inl rfl) rfl en14 (aC (L 0 rfl rfl) aN) (wk_order_Run_Serial V45 _ ([[x1, x9], [x22, x30]]) v44 ([v17, v38] : List Value) ow47 _ hx50) (fun _ _ _ _ => nd) (fun v52 V53 le54 hp55 => ?_)
  obtain ⟨rfl, ow56⟩ := hp55
  refine U.p rfl rfl (.inl rfl) (S.not rfl (L 0 rfl rfl)) ?_
  refine U.p rfl rfl (.inl rfl) (S.move rfl (L 0 rfl rfl)) ?_
  obtain ⟨y57, hy58, h59⟩ := bindS h51
  refine U.joinX 7 (fun e H => ∃ (u60 u61 : Value), ∃ V' : Vw, H = V'.H ∧ V53.le V' ∧ e = [(15, .bool y57), (14, u60), (13, u61)] ∧ Ow V' (.oss (RO.os RT_TEvent) v44 ([v17, v38] : List Value) ([[x1, x9], [x22, x30]]) :: Rs)) ?_ ?_
  · rintro _ _ ⟨u60, u61, V62, rfl, le63, rfl, ow64⟩
    refine U.p rfl rfl (.inl rfl) (S.move rfl (L 0 rfl rfl)) ?_
    obtain ⟨y65, hy66, h67⟩ := bindS h59
    refine U.joinX 11 (fun e H => ∃ (u68 u69 : Value), ∃ V' : Vw, H = V'.H ∧ V62.le V' ∧ e = [(19, .bool y65), (18, u68), (17, u69)] ∧ Ow V' (.oss (RO.os RT_TEvent) v44 ([v17, v38] : List Value) ([[x1, x9], [x22, x30]]) :: Rs)) ?_ ?_
    · rintro _ _ ⟨u68, u69, V70, rfl, le71, rfl, ow72⟩
      refine U.p rfl rfl (.inl rfl) (S.assign rfl (L 0 rfl rfl)) ?_
      refine U.done (Nat.le_of_ble_eq_true rfl) ?_
      refine WP.ret ?_
      refine fin.slot (.inr rfl) rfl (L 0 rfl rfl) ⟨V70, rfl, (((((((((le6.trans le14).trans le19).trans le27).trans le35).trans le40).trans le46).trans le54).trans le63).trans le71), ?_⟩
      have ow73 := ow72.drop 0 rfl
      have e74 := Option.some.inj h67
      subst e74
      exact ⟨rfl, ow73⟩
    · intro kk
      refine bcase (b := y57) (fun g75 => ?_) (fun g75 => ?_)
      · have h76 := ifT g75 hy66
        refine U.p rfl rfl (.inr ⟨_, _, _, rfl, rfl, ((L 0 rfl rfl).trans (congrArg Value.bool g75))⟩) (S.move rfl (L 8 rfl rfl)) ?_
        obtain ⟨x77, hx78, h79⟩ := bindS h76
        refine O.call (V := V62) rfl rfl (.inr ⟨_, _, _, rfl, rfl, ((L 1 rfl rfl).trans (congrArg Value.bool g75))⟩) rfl en17 (aC (L 0 rfl rfl) aN) (wk_order_Run_Racy V62 _ ([[x1, x9], [x22, x30]]) v44 ([v17, v38] : List Value) ow64 _ hx78) (fun _ _ _ _ => nd) (fun v80 V81 le82 hp83 => ?_)
        obtain ⟨rfl, ow84⟩ := hp83
        refine U.p rfl rfl (.inl rfl) (S.pickT rfl ((L 2 rfl rfl).trans (congrArg Value.bool g75)) (L 0 rfl rfl)) ?_
        have e85 := Option.some.inj h79
        subst e85
        exact kk [(19, .bool x77), (18, .bool x77), (17, v44)] _ ⟨.bool x77, v44, V81, rfl, le82, rfl, ow84⟩
      · have h86 := ifF g75 hy66
        refine U.x rfl rfl rfl rfl ((L 0 rfl rfl).trans (congrArg Value.bool g75)) (by decide) ?_
        refine U.x rfl rfl rfl rfl ((L 1 rfl rfl).trans (congrArg Value.bool g75)) (by decide) ?_
        refine U.p rfl rfl (.inl rfl) (S.pickF rfl ((L 2 rfl rfl).trans (congrArg Value.bool g75)) K) ?_
        have e87 := Option.some.inj h86
        subst e87
        exact kk [(19, .bool false), (18, .tuple #[]), (17, .tuple #[])] _ ⟨.tuple #[], .tuple #[], V62, rfl, (.refl _), rfl, ow64⟩
  · intro kk
    refine bcase (b := !x49) (fun g88 => ?_) (fun g88 => ?_)
    · have h89 := ifT g88 hy58
      have k90 : x49 = false := by simpa using g88
      refine U.p rfl rfl (.inr ⟨_, _, _, rfl, rfl, ((L 0 rfl rfl).trans (congrArg Value.bool g88))⟩) (S.move rfl (L 4 rfl rfl)) ?_
      obtain ⟨x91, hx92, h93⟩ := bindS h89
      refine O.call (V := V53) rfl rfl (.inr ⟨_, _, _, rfl, rfl, ((L 1 rfl rfl).trans (congrArg Value.bool g88))⟩) rfl en11 (aC (L 0 rfl rfl) aN) (wk_order_Run_Coherent V53 _ ([[x1, x9], [x22, x30]]) v44 ([v17, v38] : List Value) ow56 _ hx92) (fun _ _ _ _ => nd) (fun v94 V95 le96 hp97 => ?_)
      obtain ⟨rfl, ow98⟩ := hp97
      refine U.p rfl rfl (.inl rfl) (S.pickT rfl ((L 2 rfl rfl).trans (congrArg Value.bool g88)) (L 0 rfl rfl)) ?_
      have e99 := Option.some.inj h93
      subst e99
      exact kk [(15, .bool x91), (14, .bool x91), (13, v44)] _ ⟨.bool x91, v44, V95, rfl, le96, rfl, ow98⟩
    · have h100 := ifF g88 hy58
      have k101 : x49 = true := by simpa using g88
      refine U.x rfl rfl rfl rfl ((L 0 rfl rfl).trans (congrArg Value.bool g88)) (by decide) ?_
      refine U.x rfl rfl rfl rfl ((L 1 rfl rfl).trans (congrArg Value.bool g88)) (by decide) ?_
      refine U.p rfl rfl (.inl rfl) (S.pickF rfl ((L 2 rfl rfl).trans (congrArg Value.bool g88)) K) ?_
      have e102 := Option.some.inj h100
      subst e102
      exact kk [(15, .bool false), (14, .tuple #[]), (13, .tuple #[])] _ ⟨.tuple #[], .tuple #[], V53, rfl, (.refl _), rfl, ow56⟩

set_option maxHeartbeats 4000000 in
set_option maxRecDepth 10000 in
theorem wk_law21_great (V : Vw) (Rs : List At) (p0 : List (List TEvent)) (v1 : Value) (f2 : Fz (RT.sl RT_TEvent) V v1 p0) (ow : Ow V (Rs)) (r : Bool) (h : law21_great p0 = some r) : ∃ v V', Cl Try.prog 0 9 #[v1] V.H v V'.H ∧ V.le V' ∧ (v = .bool r ∧ Ow V' (Rs)) := by
  refine Ct.of (Nat.zero_le _) Try.func9 rfl (Nat.le_of_ble_eq_true rfl) ?_
  unfold law21_great at h
  refine WP.usreg rfl ?_
  refine U.p rfl rfl (.inl rfl) (S.assign rfl K) ?_
  refine U.done (Nat.le_of_ble_eq_true rfl) ?_
  refine WP.usreg rfl ?_
  refine U.p rfl rfl (.inl rfl) (S.assign rfl K) ?_
  refine U.done (Nat.le_of_ble_eq_true rfl) ?_
  refine WP.seq ?_
  refine WP.usreg rfl ?_
  refine U.p rfl rfl (.inl rfl) (S.move rfl (L 2 rfl rfl)) ?_
  refine U.p rfl rfl (.inl rfl) (f2.1.len rfl (L 0 rfl rfl) Try.underlying22) ?_
  refine U.p rfl rfl (.inl rfl) (S.move rfl K) ?_
  refine U.done (Nat.le_of_ble_eq_true rfl) ?_
  refine WP.blk ?_
  unfold law21_great_l1 at h
  obtain ⟨n6, hn5⟩ := loopO_some.1 h
  refine WP.loopI2 (fun n l V' => ∃ (x3 : Int) (x4 : Int), l = [(0, v1), (3, .int .i64 x3), (6, v1), (7, .int .i64 (p0.length : Int)), (8, .int .i64 x4)] ∧ V.le V' ∧ Ow V' (Rs) ∧ itO (fun s => law21_great_l1b p0 s.1 s.2) n (x3, x4) = some r) n6 _ ⟨0, 0, rfl, .refl _, ow, hn5⟩ (allCons (L 5 rfl rfl) (allCons (L 3 rfl rfl) (allCons (L 2 rfl rfl) (allCons (L 1 rfl rfl) (allCons (L 0 rfl rfl) allNil))))) ?_
  rintro _ _ V7 ⟨x3, x4, rfl, le8, ow9, h13⟩
  obtain ⟨m10, q11, rfl, h14, e12⟩ := itS h13
  replace h14 : law21_great_l1b p0 x3 x4 = some q11 := h14
  unfold law21_great_l1b at h14
  refine WP.usreg rfl ?_
  refine U.p rfl rfl (.inl rfl) (S.lss rfl (L 4 rfl rfl) (L 3 rfl rfl)) ?_
  refine U.done (Nat.le_of_ble_eq_true rfl) ?_
  refine WP.seq ?_
  refine WP.cond _ (L 0 rfl rfl) rfl (fun c15 => ?_) (fun c15 => ?_)
  · have h16 := ifT c15 h14
    refine WP.skip ?_
    refine sqN ?_
    refine WP.seq ?_
    refine WP.blk ?_
    refine WP.usreg rfl ?_
    obtain ⟨x17, hx18, h19⟩ := bindS h16
    obtain ⟨b20, o21, c22, cs23, hv24, hf25, hr26, hc27⟩ := f2.at hx18
    obtain ⟨v28, rfl, f29⟩ := hr26
    refine U.p rfl rfl (.inl rfl) (S.index rfl ((L 3 rfl rfl).trans hv24) (L 5 rfl rfl) Try.underlying22 ti27 (ix_ge hx18) (ix_lt hx18)) ?_
    refine U.k rfl rfl (.inl rfl) (S.load rfl (L 0 rfl rfl) Try.underlying27 rfl (le8.cell hf25 (hc27 0 _ rfl))) nd ?_
    refine U.p rfl rfl (.inl rfl) (S.assign rfl (L 0 rfl rfl)) ?_
    refine U.done (Nat.le_of_ble_eq_true rfl) ?_
    refine WP.ureg rfl ?_
    refine U.p rfl rfl (.inl rfl) (S.move rfl (L 5 rfl rfl)) ?_
    refine U.p rfl rfl (.inl rfl) (S.move rfl (L 1 rfl rfl)) ?_
    refine U.p rfl rfl (.inl rfl) (f29.1.len rfl (L 0 rfl rfl) Try.underlying27) ?_
    refine U.p rfl rfl (.inl rfl) (S.add rfl (L 2 rfl rfl) (L 0 rfl rfl)) ?_
    refine U.p rfl rfl (.inl rfl) (S.assign rfl (L 0 rfl rfl)) ?_
    refine U.done (Nat.le_of_ble_eq_true rfl) ?_
    refine blkN (sqN ?_)
    refine WP.ureg rfl ?_
    refine U.p rfl rfl (.inl rfl) (S.add rfl (L 13 rfl rfl) K) ?_
    refine U.p rfl rfl (.inl rfl) (S.move rfl (L 0 rfl rfl)) ?_
    refine U.done (Nat.le_of_ble_eq_true rfl) ?_
    refine sqN ?_
    exact ⟨_, V7, rfl, ⟨m10, Nat.lt_succ_self _, w64 (x3 + (x17.length : Int)), w64 (x4 + 1), rfl, le8, ow9, backS h19 e12⟩, (allCons (L 11 rfl rfl) (allCons (L 2 rfl rfl) (allCons (L 13 rfl rfl) (allCons (L 14 rfl rfl) (allCons (L 0 rfl rfl) allNil)))))⟩
  · have h30 := ifF c15 h14
    refine WP.exit ?_
    refine sqE (sqE (blkE (sqN ?_)))
    have h31 := exitS h30 e12
    refine WP.usreg rfl ?_
    refine U.p rfl rfl (.inl rfl) (S.move rfl (L 1 rfl rfl)) ?_
    refine U.p rfl rfl (.inl rfl) (f2.1.len rfl (L 0 rfl rfl) Try.underlying22) ?_
    refine U.p rfl rfl (.inl rfl) (S.gtr rfl (L 0 rfl rfl) K) ?_
    refine U.p rfl rfl (.inl rfl) (S.move rfl (L 0 rfl rfl)) ?_
    refine U.joinX 7 (fun e H => ∃ (u32 u33 : Value), H = V7.H ∧ e = [(23, .bool ((decide (5 < (p0.length : Int))) || (decide (24 < x3)))), (22, u32), (21, u33)]) ?_ ?_
    · rintro _ _ ⟨u32, u33, rfl, rfl⟩
      refine U.p rfl rfl (.inl rfl) (S.assign rfl (L 0 rfl rfl)) ?_
      refine U.done (Nat.le_of_ble_eq_true rfl) ?_
      refine WP.ret ?_
      refine fin.slot (.inr rfl) rfl (L 0 rfl rfl) ⟨V7, rfl, le8, ?_⟩
      have e37 := Option.some.inj h31
      subst e37
      exact ⟨rfl, ow9⟩
    · intro kk
      refine bcase (b := decide (5 < (p0.length : Int))) (fun g38 => ?_) (fun g38 => ?_)
      · skip
        refine U.x rfl rfl rfl rfl ((L 0 rfl rfl).trans (congrArg Value.bool g38)) (by decide) ?_
        refine U.x rfl rfl rfl rfl ((L 1 rfl rfl).trans (congrArg Value.bool g38)) (by decide) ?_
        refine U.p rfl rfl (.inl rfl) (S.pickT rfl ((L 2 rfl rfl).trans (congrArg Value.bool g38)) K) ?_
        exact kk [(23, .bool true), (22, .tuple #[]), (21, .tuple #[])] _ ⟨.tuple #[], .tuple #[], rfl, (by rw [g38, Bool.true_or])⟩
      · skip
        refine U.p rfl rfl (.inr ⟨_, _, _, rfl, rfl, ((L 0 rfl rfl).trans (congrArg Value.bool g38))⟩) (S.move rfl (L 6 rfl rfl)) ?_
        refine U.p rfl rfl (.inr ⟨_, _, _, rfl, rfl, ((L 1 rfl rfl).trans (congrArg Value.bool g38))⟩) (S.gtr rfl (L 0 rfl rfl) K) ?_
        refine U.p rfl rfl (.inl rfl) (S.pickF rfl ((L 2 rfl rfl).trans (congrArg Value.bool g38)) (L 0 rfl rfl)) ?_
        exact kk [(23, .bool (decide (24 < x3))), (22, .bool (decide (24 < x3))), (21, .int .i64 x3)] _ ⟨.bool (decide (24 < x3)), .int .i64 x3, rfl, (by rw [g38, Bool.false_or])⟩

set_option maxHeartbeats 4000000 in
set_option maxRecDepth 10000 in
theorem wk_ref21_Good (V : Vw) (Rs : List At) (p0 : List (List TEvent)) (v1 : Value) (f2 : Fz (RT.sl RT_TEvent) V v1 p0) (ow : Ow V (Rs)) (r : Bool) (h : ref21_Good p0 = some r) : ∃ v V', Cl Try.prog 0 10 #[v1] V.H v V'.H ∧ V.le V' ∧ (v = .bool r ∧ Ow V' (Rs)) := by
  refine Ct.of (Nat.zero_le _) Try.func10 rfl (Nat.le_of_ble_eq_true rfl) ?_
  unfold ref21_Good at h
  refine WP.usreg rfl ?_
  refine U.p rfl rfl (.inl rfl) (S.assign rfl K) ?_
  refine U.done (Nat.le_of_ble_eq_true rfl) ?_
  refine WP.usreg rfl ?_
  refine O.makeMap RT.bool false ow rfl rfl (.inl rfl) rfl (fun _ => nd) (fun v3 V4 le5 ow6 => ?_)
  refine U.p rfl rfl (.inl rfl) (S.assign rfl (L 0 rfl rfl)) ?_
  refine U.done (Nat.le_of_ble_eq_true rfl) ?_
  refine WP.seq ?_
  refine WP.usreg rfl ?_
  refine U.p rfl rfl (.inl rfl) (S.move rfl (L 3 rfl rfl)) ?_
  refine U.p rfl rfl (.inl rfl) (f2.1.len rfl (L 0 rfl rfl) Try.underlying22) ?_
  refine U.p rfl rfl (.inl rfl) (S.move rfl K) ?_
  refine U.done (Nat.le_of_ble_eq_true rfl) ?_
  refine WP.blk ?_
  unfold ref21_Good_l1 at h
  obtain ⟨n11, hn10⟩ := loopO_some.1 h
  refine WP.loopI2 (fun n l V' => ∃ (xs8 : List (Int × Bool)) (x9 : Int), l = [(3, v3), (9, v1), (10, .int .i64 (p0.length : Int)), (11, .int .i64 x9)] ∧ V4.le V' ∧ Ow V' (.om RT.bool false v3 xs8 :: Rs) ∧ itO (fun s => ref21_Good_l1b p0 s.1 s.2) n (xs8, x9) = some r) n11 _ ⟨[], 0, rfl, .refl _, ow6, hn10⟩ (allCons (L 3 rfl rfl) (allCons (L 2 rfl rfl) (allCons (L 1 rfl rfl) (allCons (L 0 rfl rfl) allNil)))) ?_
  rintro _ _ V12 ⟨xs8, x9, rfl, le13, ow14, h18⟩
  obtain ⟨m15, q16, rfl, h19, e17⟩ := itS h18
  replace h19 : ref21_Good_l1b p0 xs8 x9 = some q16 := h19
  unfold ref21_Good_l1b at h19
  refine WP.usreg rfl ?_
  refine U.p rfl rfl (.inl rfl) (S.lss rfl (L 3 rfl rfl) (L 2 rfl rfl)) ?_
  refine U.done (Nat.le_of_ble_eq_true rfl) ?_
  refine WP.seq ?_
  refine WP.cond _ (L 0 rfl rfl) rfl (fun c20 => ?_) (fun c20 => ?_)
  · have h21 := ifT c20 h19
    refine WP.skip ?_
    refine sqN ?_
    refine WP.seq ?_
    refine WP.blk ?_
    refine WP.usreg rfl ?_
    refine U.p rfl rfl (.inl rfl) (S.move rfl (L 4 rfl rfl)) ?_
    obtain ⟨x22, hx23, h24⟩ := bindS h21
    obtain ⟨b25, o26, c27, cs28, hv29, hf30, hr31, hc32⟩ := f2.at hx23
    obtain ⟨v33, rfl, f34⟩ := hr31
    refine U.p rfl rfl (.inl rfl) (S.index rfl ((L 3 rfl rfl).trans hv29) (L 5 rfl rfl) Try.underlying22 ti27 (ix_ge hx23) (ix_lt hx23)) ?_
    refine U.k rfl rfl (.inl rfl) (S.load rfl (L 0 rfl rfl) Try.underlying27 rfl ((le5.trans le13).cell hf30 (hc32 0 _ rfl))) nd ?_
    refine U.p rfl rfl (.inl rfl) (S.assign rfl (L 2 rfl rfl)) ?_
    refine U.p rfl rfl (.inl rfl) (S.assign rfl (L 1 rfl rfl)) ?_
    refine U.done (Nat.le_of_ble_eq_true rfl) ?_
    refine WP.usreg rfl ?_
    refine U.p rfl rfl (.inl rfl) (S.move rfl (L 0 rfl rfl)) ?_
    refine U.p rfl rfl (.inl rfl) (f34.1.len rfl (L 0 rfl rfl) Try.underlying27) ?_
    refine U.p rfl rfl (.inl rfl) (S.move rfl K) ?_
    refine U.done (Nat.le_of_ble_eq_true rfl) ?_
    refine WP.blk ?_
    unfold ref21_Good_l2 at h24
    obtain ⟨n38, hn37⟩ := loopO_some.1 h24
    refine WP.loopI2 (fun n l V' => ∃ (xs35 : List (Int × Bool)) (x36 : Int), l = [(3, v3), (4, .int .i64 x9), (9, v1), (10, .int .i64 (p0.length : Int)), (11, .int .i64 x9), (16, v33), (17, .int .i64 (x22.length : Int)), (18, .int .i64 x36)] ∧ V12.le V' ∧ Ow V' (.om RT.bool false v3 xs35 :: Rs) ∧ itO (fun s => ref21_Good_l2b x9 x22 s.1 s.2) n (xs35, x36) = some q16) n38 _ ⟨xs8, 0, rfl, .refl _, ow14, hn37⟩ (allCons (L 9 rfl rfl) (allCons (L 4 rfl rfl) (allCons (L 10 rfl rfl) (allCons (L 11 rfl rfl) (allCons (L 12 rfl rfl) (allCons (L 2 rfl rfl) (allCons (L 1 rfl rfl) (allCons (L 0 rfl rfl) allNil)))))))) ?_
    rintro _ _ V39 ⟨xs35, x36, rfl, le40, ow41, h45⟩
    obtain ⟨m42, q43, rfl, h46, e44⟩ := itS h45
    replace h46 : ref21_Good_l2b x9 x22 xs35 x36 = some q43 := h46
    unfold ref21_Good_l2b at h46
    refine WP.usreg rfl ?_
    refine U.p rfl rfl (.inl rfl) (S.lss rfl (L 7 rfl rfl) (L 6 rfl rfl)) ?_
    refine U.done (Nat.le_of_ble_eq_true rfl) ?_
    refine WP.seq ?_
    refine WP.cond _ (L 0 rfl rfl) rfl (fun c47 => ?_) (fun c47 => ?_)
    · have h48 := ifT c47 h46
      refine WP.skip ?_
      refine sqN ?_
      refine WP.seq ?_
      refine WP.blk ?_
      refine WP.usreg rfl ?_
      obtain ⟨x49, hx50, h51⟩ := bindS h48
      obtain ⟨b52, o53, c54, cs55, hv56, hf57, hr58, hc59⟩ := f34.at hx50
      obtain rfl : cs55 = [.int .i64 x49.t, .int .i64 x49.act.kind, .int .i64 x49.act.at_, .int .i64 x49.act.val, .int .i64 x49.act.what, .bool x49.act.volatile, .bool x49.act.final, .int .i64 x49.rf, .int .i64 x49.id] := hr58
      refine U.p rfl rfl (.inl rfl) (S.index rfl ((L 6 rfl rfl).trans hv56) (L 8 rfl rfl) Try.underlying27 ti31 (ix_ge hx50) (ix_lt hx50)) ?_
      refine U.k rfl rfl (.inl rfl) (S.loadN (cs := [.int .i64 x49.t, .int .i64 x49.act.kind, .int .i64 x49.act.at_, .int .i64 x49.act.val, .int .i64 x49.act.what, .bool x49.act.volatile, .bool x49.act.final, .int .i64 x49.rf, .int .i64 x49.id]) rfl (L 0 rfl rfl) Try.underlying31 rfl ti31 rfl (fun j v hj => ((le5.trans le13).trans le40).cell hf57 (hc59 j v hj))) nd ?_
      refine O.alloc ow41 rfl rfl (.inl rfl) rfl ti31 rfl rfl nd (fun b60 V61 le62 ow63 => ?_)
      refine O.store (k := 0) (cs := [.int .i64 x49.t, .int .i64 x49.act.kind, .int .i64 x49.act.at_, .int .i64 x49.act.val, .int .i64 x49.act.what, .bool x49.act.volatile, .bool x49.act.final, .int .i64 x49.rf, .int .i64 x49.id]) (c' := [.int .i64 x49.t, .int .i64 x49.act.kind, .int .i64 x49.act.at_, .int .i64 x49.act.val, .int .i64 x49.act.what, .bool x49.act.volatile, .bool x49.act.final, .int .i64 x49.rf, .int .i64 x49.id]) ow63 rfl rfl rfl (.inl rfl) rfl (L 0 rfl rfl) (L 1 rfl rfl) ti31 (by simp [topV]) rfl rfl (Nat.le_of_ble_eq_true rfl) rfl rfl nd (fun V65 le66 ow67 => ?_)
      refine U.done (Nat.le_of_ble_eq_true rfl) ?_
      refine WP.seq ?_
      refine WP.usreg rfl ?_
      refine U.p (v := .pointer (some ⟨b60, 0, none⟩)) rfl rfl (.inl rfl) (S.fieldAddr rfl (L 0 rfl rfl) Try.underlying31 rfl ti3 rfl rfl) ?_
      refine U.k rfl rfl (.inl rfl) (S.load rfl (L 0 rfl rfl) Try.underlying3 rfl ((ow67.own (k := 0) rfl).cell rfl)) nd ?_
      refine U.p rfl rfl (.inl rfl) (S.move rfl (L 7 rfl rfl)) ?_
      refine U.p rfl rfl (.inl rfl) (S.neqI rfl (L 1 rfl rfl) (L 0 rfl rfl)) ?_
      refine U.p rfl rfl (.inl rfl) (S.move rfl (L 0 rfl rfl)) ?_
      refine U.joinX 9 (fun e H => ∃ (u68 u69 u70 : Value), H = V65.H ∧ e = [(30, .bool ((decide (x49.t ≠ x9)) || (decide (x49.rf < 0)))), (29, u68), (28, u69), (27, u70)]) ?_ ?_
      · rintro _ _ ⟨u68, u69, u70, rfl, rfl⟩
        refine U.p rfl rfl (.inl rfl) (S.move rfl (L 0 rfl rfl)) ?_
        refine U.joinX 14 (fun e H => ∃ (u74 u75 u76 : Value), H = V65.H ∧ e = [(35, .bool (((decide (x49.t ≠ x9)) || (decide (x49.rf < 0))) || (decide (x49.id < 0)))), (34, u74), (33, u75), (32, u76)]) ?_ ?_
        · rintro _ _ ⟨u74, u75, u76, rfl, rfl⟩
          refine U.done (Nat.le_of_ble_eq_true rfl) ?_
          refine WP.cond _ (L 0 rfl rfl) rfl (fun c80 => ?_) (fun c80 => ?_)
          · have h81 := ifT c80 h51
            refine WP.usreg rfl ?_
            refine U.p rfl rfl (.inl rfl) (S.assign rfl K) ?_
            refine U.done (Nat.le_of_ble_eq_true rfl) ?_
            refine WP.ret ?_
            refine sqR (blkR (sqR (sqR (blkR (blkR (sqR (sqR (blkR (sqR ?_)))))))))
            have h82 := exitS h81 e44
            have h83 := exitS h82 e17
            refine fin.slot (.inr rfl) rfl (L 0 rfl rfl) ⟨V65, rfl, ((((le5.trans le13).trans le40).trans le62).trans le66), ?_⟩
            have ow84 := ow67.drop 0 rfl
            have ow85 := ow84.drop 0 rfl
            have e86 := Option.some.inj h83
            subst e86
            exact ⟨rfl, ow85⟩
          · have h87 := ifF c80 h51
            refine WP.skip ?_
            refine sqN ?_
            refine WP.seq ?_
            refine WP.usreg rfl ?_
            refine U.p (v := .pointer (some ⟨b60, 8, none⟩)) rfl rfl (.inl rfl) (S.fieldAddr rfl (L 14 rfl rfl) Try.underlying31 rfl ti3 rfl rfl) ?_
            refine U.k rfl rfl (.inl rfl) (S.load rfl (L 0 rfl rfl) Try.underlying3 rfl ((ow67.own (k := 0) rfl).cell rfl)) nd ?_
            refine U.p rfl rfl (.inl rfl) (S.gtr rfl (L 0 rfl rfl) K) ?_
            refine U.p rfl rfl (.inl rfl) (S.move rfl (L 0 rfl rfl)) ?_
            refine U.joinX 9 (fun e H => ∃ (u88 u89 u90 u91 : Value), H = V65.H ∧ e = [(44, .bool ((decide (0 < x49.id)) && ((mG xs35 x49.id).getD false))), (43, u88), (42, u89), (41, u90), (40, u91)]) ?_ ?_
            · rintro _ _ ⟨u88, u89, u90, u91, rfl, rfl⟩
              refine U.done (Nat.le_of_ble_eq_true rfl) ?_
              refine WP.cond _ (L 0 rfl rfl) rfl (fun c95 => ?_) (fun c95 => ?_)
              · have h96 := ifT c95 h87
                refine WP.usreg rfl ?_
                refine U.p rfl rfl (.inl rfl) (S.assign rfl K) ?_
                refine U.done (Nat.le_of_ble_eq_true rfl) ?_
                refine WP.ret ?_
                refine sqR (blkR (sqR (sqR (blkR (blkR (sqR (sqR (blkR (sqR ?_)))))))))
                have h97 := exitS h96 e44
                have h98 := exitS h97 e17
                refine fin.slot (.inr rfl) rfl (L 0 rfl rfl) ⟨V65, rfl, ((((le5.trans le13).trans le40).trans le62).trans le66), ?_⟩
                have ow99 := ow67.drop 0 rfl
                have ow100 := ow99.drop 0 rfl
                have e101 := Option.some.inj h98
                subst e101
                exact ⟨rfl, ow100⟩
              · have h102 := ifF c95 h87
                refine WP.skip ?_
                refine sqN ?_
                refine WP.ureg rfl ?_
                refine U.p rfl rfl (.inl rfl) (S.move rfl (L 27 rfl rfl)) ?_
                refine U.p (v := .pointer (some ⟨b60, 8, none⟩)) rfl rfl (.inl rfl) (S.fieldAddr rfl (L 24 rfl rfl) Try.underlying31 rfl ti3 rfl rfl) ?_
                refine U.k rfl rfl (.inl rfl) (S.load rfl (L 0 rfl rfl) Try.underlying3 rfl ((ow67.own (k := 0) rfl).cell rfl)) nd ?_
                refine O.mapUpdate (k := 1) (w := true) ow67 rfl rfl rfl (.inl rfl) rfl (L 2 rfl rfl) (L 0 rfl rfl) K Try.underlying37 Try.underlying3 (cell_vrel rfl) (fun _ _ => nd) (fun V103 le104 ow105 => ?_)
                refine U.done (Nat.le_of_ble_eq_true rfl) ?_
                refine blkN (sqN ?_)
                refine WP.ureg rfl ?_
                refine U.p rfl rfl (.inl rfl) (S.add rfl (L 37 rfl rfl) K) ?_
                refine U.p rfl rfl (.inl rfl) (S.move rfl (L 0 rfl rfl)) ?_
                refine U.done (Nat.le_of_ble_eq_true rfl) ?_
                refine sqN ?_
                have ow106 := ow105.drop 0 rfl
                exact ⟨_, V103, rfl, ⟨m42, Nat.lt_succ_self _, mS xs35 x49.id true, w64 (x36 + 1), rfl, (((le40.trans le62).trans le66).trans le104), ow106, backS h102 e44⟩, (allCons (L 32 rfl rfl) (allCons (L 33 rfl rfl) (allCons (L 34 rfl rfl) (allCons (L 35 rfl rfl) (allCons (L 36 rfl rfl) (allCons (L 37 rfl rfl) (allCons (L 38 rfl rfl) (allCons (L 0 rfl rfl) allNil))))))))⟩
            · intro kk
              refine bcase (b := decide (0 < x49.id)) (fun g107 => ?_) (fun g107 => ?_)
              · skip
                refine U.p rfl rfl (.inr ⟨_, _, _, rfl, rfl, ((L 0 rfl rfl).trans (congrArg Value.bool g107))⟩) (S.move rfl (L 22 rfl rfl)) ?_
                refine U.p (v := .pointer (some ⟨b60, 8, none⟩)) rfl rfl (.inr ⟨_, _, _, rfl, rfl, ((L 1 rfl rfl).trans (congrArg Value.bool g107))⟩) (S.fieldAddr rfl (L 19 rfl rfl) Try.underlying31 rfl ti3 rfl rfl) ?_
                refine U.k rfl rfl (.inr ⟨_, _, _, rfl, rfl, ((L 2 rfl rfl).trans (congrArg Value.bool g107))⟩) (S.load rfl (L 0 rfl rfl) Try.underlying3 rfl ((ow67.own (k := 0) rfl).cell rfl)) nd ?_
                refine O.lookup1 (k := 1) false ow67 rfl rfl rfl (.inr ⟨_, _, _, rfl, rfl, ((L 3 rfl rfl).trans (congrArg Value.bool g107))⟩) rfl (L 2 rfl rfl) (L 0 rfl rfl) Try.underlying37 Try.underlying3 ti4 rfl (cell_vrel rfl) (fun b108 hlt110 => nd) (fun b108 u109 hlt110 hr111 => ?_)
                obtain rfl : u109 = .bool ((mG xs35 x49.id).getD false) := (List.cons.inj (vrel_cell hr111)).1
                refine U.p rfl rfl (.inl rfl) (S.pickT rfl ((L 4 rfl rfl).trans (congrArg Value.bool g107)) (L 0 rfl rfl)) ?_
                exact kk [(44, .bool ((mG xs35 x49.id).getD false)), (43, .bool ((mG xs35 x49.id).getD false)), (42, .int .i64 x49.id), (41, .pointer (some ⟨b60, 8, none⟩)), (40, v3)] _ ⟨.bool ((mG xs35 x49.id).getD false), .int .i64 x49.id, .pointer (some ⟨b60, 8, none⟩), v3, rfl, (by rw [g107, Bool.true_and])⟩
              · skip
                refine U.x rfl rfl rfl rfl ((L 0 rfl rfl).trans (congrArg Value.bool g107)) (by decide) ?_
                refine U.x rfl rfl rfl rfl ((L 1 rfl rfl).trans (congrArg Value.bool g107)) (by decide) ?_
                refine U.x rfl rfl rfl rfl ((L 2 rfl rfl).trans (congrArg Value.bool g107)) (by decide) ?_
                refine U.x rfl rfl rfl rfl ((L 3 rfl rfl).trans (congrArg Value.bool g107)) (by decide) ?_
                refine U.p rfl rfl (.inl rfl) (S.pickF rfl ((L 4 rfl rfl).trans (congrArg Value.bool g107)) K) ?_
                exact kk [(44, .bool false), (43, .tuple #[]), (42, .tuple #[]), (41, .tuple #[]), (40, .tuple #[])] _ ⟨.tuple #[], .tuple #[], .tuple #[], .tuple #[], rfl, (by rw [g107, Bool.false_and])⟩
        · intro kk
          refine bcase (b := (decide (x49.t ≠ x9)) || (decide (x49.rf < 0))) (fun g113 => ?_) (fun g113 => ?_)
          · skip
            refine U.x rfl rfl rfl rfl ((L 0 rfl rfl).trans (congrArg Value.bool g113)) (by decide) ?_
            refine U.x rfl rfl rfl rfl ((L 1 rfl rfl).trans (congrArg Value.bool g113)) (by decide) ?_
            refine U.x rfl rfl rfl rfl ((L 2 rfl rfl).trans (congrArg Value.bool g113)) (by decide) ?_
            refine U.p rfl rfl (.inl rfl) (S.pickT rfl ((L 3 rfl rfl).trans (congrArg Value.bool g113)) K) ?_
            exact kk [(35, .bool true), (34, .tuple #[]), (33, .tuple #[]), (32, .tuple #[])] _ ⟨.tuple #[], .tuple #[], .tuple #[], rfl, (by rw [g113, Bool.true_or])⟩
          · skip
            refine U.p (v := .pointer (some ⟨b60, 8, none⟩)) rfl rfl (.inr ⟨_, _, _, rfl, rfl, ((L 0 rfl rfl).trans (congrArg Value.bool g113))⟩) (S.fieldAddr rfl (L 10 rfl rfl) Try.underlying31 rfl ti3 rfl rfl) ?_
            refine U.k rfl rfl (.inr ⟨_, _, _, rfl, rfl, ((L 1 rfl rfl).trans (congrArg Value.bool g113))⟩) (S.load rfl (L 0 rfl rfl) Try.underlying3 rfl ((ow67.own (k := 0) rfl).cell rfl)) nd ?_
            refine U.p rfl rfl (.inr ⟨_, _, _, rfl, rfl, ((L 2 rfl rfl).trans (congrArg Value.bool g113))⟩) (S.lss rfl (L 0 rfl rfl) K) ?_
            refine U.p rfl rfl (.inl rfl) (S.pickF rfl ((L 3 rfl rfl).trans (congrArg Value.bool g113)) (L 0 rfl rfl)) ?_
            exact kk [(35, .bool (decide (x49.id < 0))), (34, .bool (decide (x49.id < 0))), (33, .int .i64 x49.id), (32, .pointer (some ⟨b60, 8, none⟩))] _ ⟨.bool (decide (x49.id < 0)), .int .i64 x49.id, .pointer (some ⟨b60, 8, none⟩), rfl, (by rw [g113, Bool.false_or])⟩
      · intro kk
        refine bcase (b := decide (x49.t ≠ x9)) (fun g114 => ?_) (fun g114 => ?_)
        · skip
          refine U.x rfl rfl rfl rfl ((L 0 rfl rfl).trans (congrArg Value.bool g114)) (by decide) ?_
          refine U.x rfl rfl rfl rfl ((L 1 rfl rfl).trans (congrArg Value.bool g114)) (by decide) ?_
          refine U.x rfl rfl rfl rfl ((L 2 rfl rfl).trans (congrArg Value.bool g114)) (by decide) ?_
          refine U.p rfl rfl (.inl rfl) (S.pickT rfl ((L 3 rfl rfl).trans (congrArg Value.bool g114)) K) ?_
          exact kk [(30, .bool true), (29, .tuple #[]), (28, .tuple #[]), (27, .tuple #[])] _ ⟨.tuple #[], .tuple #[], .tuple #[], rfl, (by rw [g114, Bool.true_or])⟩
        · skip
          refine U.p (v := .pointer (some ⟨b60, 7, none⟩)) rfl rfl (.inr ⟨_, _, _, rfl, rfl, ((L 0 rfl rfl).trans (congrArg Value.bool g114))⟩) (S.fieldAddr rfl (L 5 rfl rfl) Try.underlying31 rfl ti3 rfl rfl) ?_
          refine U.k rfl rfl (.inr ⟨_, _, _, rfl, rfl, ((L 1 rfl rfl).trans (congrArg Value.bool g114))⟩) (S.load rfl (L 0 rfl rfl) Try.underlying3 rfl ((ow67.own (k := 0) rfl).cell rfl)) nd ?_
          refine U.p rfl rfl (.inr ⟨_, _, _, rfl, rfl, ((L 2 rfl rfl).trans (congrArg Value.bool g114))⟩) (S.lss rfl (L 0 rfl rfl) K) ?_
          refine U.p rfl rfl (.inl rfl) (S.pickF rfl ((L 3 rfl rfl).trans (congrArg Value.bool g114)) (L 0 rfl rfl)) ?_
          exact kk [(30, .bool (decide (x49.rf < 0))), (29, .bool (decide (x49.rf < 0))), (28, .int .i64 x49.rf), (27, .pointer (some ⟨b60, 7, none⟩))] _ ⟨.bool (decide (x49.rf < 0)), .int .i64 x49.rf, .pointer (some ⟨b60, 7, none⟩), rfl, (by rw [g114, Bool.false_or])⟩
    · have h115 := ifF c47 h46
      refine WP.exit ?_
      refine sqE (sqE (blkE (blkN (sqN ?_))))
      have h116 := exitS h115 e44
      refine WP.ureg rfl ?_
      refine U.p rfl rfl (.inl rfl) (S.add rfl (L 5 rfl rfl) K) ?_
      refine U.p rfl rfl (.inl rfl) (S.move rfl (L 0 rfl rfl)) ?_
      refine U.done (Nat.le_of_ble_eq_true rfl) ?_
      refine sqN ?_
      exact ⟨_, V39, rfl, ⟨m15, Nat.lt_succ_self _, xs35, w64 (x9 + 1), rfl, (le13.trans le40), ow41, backS h116 e17⟩, (allCons (L 3 rfl rfl) (allCons (L 5 rfl rfl) (allCons (L 6 rfl rfl) (allCons (L 0 rfl rfl) allNil))))⟩
  · have h117 := ifF c20 h19
    refine WP.exit ?_
    refine sqE (sqE (blkE (sqN ?_)))
    have h118 := exitS h117 e17
    refine WP.usreg rfl ?_
    refine U.p rfl rfl (.inl rfl) (S.assign rfl K) ?_
    refine U.done (Nat.le_of_ble_eq_true rfl) ?_
    refine WP.ret ?_
    refine fin.slot (.inr rfl) rfl (L 0 rfl rfl) ⟨V12, rfl, (le5.trans le13), ?_⟩
    have ow119 := ow14.drop 0 rfl
    have e120 := Option.some.inj h118
    subst e120
    exact ⟨rfl, ow119⟩

set_option maxHeartbeats 4000000 in
set_option maxRecDepth 10000 in
theorem wk_order_Run_nodes_2 (V : Vw) (Rs : List At) (p0 : List (List TEvent)) (v1 : Value) (f2 : Fz (RT.sl RT_TEvent) V v1 p0) (ow : Ow V (Rs)) (r : List Torder_node) (h : order_Run_nodes_2 p0 = some r) : ∃ v V', Cl Try.prog 0 23 #[v1, .func (.func 24) #[] #[]] V.H v V'.H ∧ V.le V' ∧ (∃ (v3 : Value), v = v3 ∧ Ow V' (.os RT_Torder_node v3 r :: Rs)) := by
  refine Ct.of (Nat.zero_le _) Try.func23 rfl (Nat.le_of_ble_eq_true rfl) ?_
  unfold order_Run_nodes_2 at h
  refine WP.usreg rfl ?_
  refine U.p rfl rfl (.inl rfl) (S.assign rfl K) ?_
  refine U.done (Nat.le_of_ble_eq_true rfl) ?_
  refine WP.usreg rfl ?_
  refine U.p rfl rfl (.inl rfl) (S.assign rfl K) ?_
  refine U.done (Nat.le_of_ble_eq_true rfl) ?_
  refine WP.seq ?_
  refine WP.usreg rfl ?_
  refine U.p rfl rfl (.inl rfl) (S.move rfl (L 2 rfl rfl)) ?_
  refine U.p rfl rfl (.inl rfl) (f2.1.len rfl (L 0 rfl rfl) Try.underlying25) ?_
  refine U.p rfl rfl (.inl rfl) (S.move rfl K) ?_
  refine U.done (Nat.le_of_ble_eq_true rfl) ?_
  refine WP.blk ?_
  have ow9 := ow.nil RT_Torder_node
  unfold order_Run_nodes_2_l1 at h
  obtain ⟨n12, hn11⟩ := loopO_some.1 h
  refine WP.loopI2 (fun n l V' => ∃ (v6 : Value) (xs7 : List Torder_node) (x8 : Int), l = [(1, .func (.func 24) #[] #[]), (5, v6), (10, v1), (11, .int .i64 (p0.length : Int)), (12, .int .i64 x8)] ∧ V.le V' ∧ Ow V' (.os RT_Torder_node v6 xs7 :: Rs) ∧ itO (fun s => order_Run_nodes_2_l1b p0 s.1 s.2) n (xs7, x8) = some r) n12 _ ⟨(.slice none 0 0), [], 0, rfl, .refl _, ow9, hn11⟩ (allCons (L 6 rfl rfl) (allCons (L 3 rfl rfl) (allCons (L 2 rfl rfl) (allCons (L 1 rfl rfl) (allCons (L 0 rfl rfl) allNil))))) ?_
  rintro _ _ V13 ⟨v6, xs7, x8, rfl, le14, ow15, h19⟩
  obtain ⟨m16, q17, rfl, h20, e18⟩ := itS h19
  replace h20 : order_Run_nodes_2_l1b p0 xs7 x8 = some q17 := h20
  unfold order_Run_nodes_2_l1b at h20
  refine WP.usreg rfl ?_
  refine U.p rfl rfl (.inl rfl) (S.lss rfl (L 4 rfl rfl) (L 3 rfl rfl)) ?_
  refine U.done (Nat.le_of_ble_eq_true rfl) ?_
  refine WP.seq ?_
  refine WP.cond _ (L 0 rfl rfl) rfl (fun c21 => ?_) (fun c21 => ?_)
  · have h22 := ifT c21 h20
    refine WP.skip ?_
    refine sqN ?_
    refine WP.seq ?_
    refine WP.blk ?_
    refine WP.usreg rfl ?_
    obtain ⟨x23, hx24, h25⟩ := bindS h22
    obtain ⟨b26, o27, c28, cs29, hv30, hf31, hr32, hc33⟩ := f2.at hx24
    obtain ⟨v34, rfl, f35⟩ := hr32
    refine U.p rfl rfl (.inl rfl) (S.index rfl ((L 3 rfl rfl).trans hv30) (L 5 rfl rfl) Try.underlying25 ti27 (ix_ge hx24) (ix_lt hx24)) ?_
    refine U.k rfl rfl (.inl rfl) (S.load rfl (L 0 rfl rfl) Try.underlying27 rfl (le14.cell hf31 (hc33 0 _ rfl))) nd ?_
    refine U.p rfl rfl (.inl rfl) (S.assign rfl (L 0 rfl rfl)) ?_
    refine U.done (Nat.le_of_ble_eq_true rfl) ?_
    refine WP.usreg rfl ?_
    refine U.p rfl rfl (.inl rfl) (S.move rfl (L 0 rfl rfl)) ?_
    refine U.p rfl rfl (.inl rfl) (f35.1.len rfl (L 0 rfl rfl) Try.underlying27) ?_
    refine U.p rfl rfl (.inl rfl) (S.move rfl K) ?_
    refine U.done (Nat.le_of_ble_eq_true rfl) ?_
    refine WP.blk ?_
    unfold order_Run_nodes_2_l2 at h25
    obtain ⟨n41, hn40⟩ := loopO_some.1 h25
    refine WP.loopI2 (fun n l V' => ∃ (v37 : Value) (xs38 : List Torder_node) (x39 : Int), l = [(1, .func (.func 24) #[] #[]), (5, v37), (10, v1), (11, .int .i64 (p0.length : Int)), (12, .int .i64 x8), (16, v34), (17, .int .i64 (x23.length : Int)), (18, .int .i64 x39)] ∧ V13.le V' ∧ Ow V' (.os RT_Torder_node v37 xs38 :: Rs) ∧ itO (fun s => order_Run_nodes_2_l2b x8 x23 s.1 s.2) n (xs38, x39) = some q17) n41 _ ⟨v6, xs7, 0, rfl, .refl _, ow15, hn40⟩ (allCons (L 7 rfl rfl) (allCons (L 8 rfl rfl) (allCons (L 9 rfl rfl) (allCons (L 10 rfl rfl) (allCons (L 11 rfl rfl) (allCons (L 2 rfl rfl) (allCons (L 1 rfl rfl) (allCons (L 0 rfl rfl) allNil)))))))) ?_
    rintro _ _ V42 ⟨v37, xs38, x39, rfl, le43, ow44, h48⟩
    obtain ⟨m45, q46, rfl, h49, e47⟩ := itS h48
    replace h49 : order_Run_nodes_2_l2b x8 x23 xs38 x39 = some q46 := h49
    unfold order_Run_nodes_2_l2b at h49
    refine WP.usreg rfl ?_
    refine U.p rfl rfl (.inl rfl) (S.lss rfl (L 7 rfl rfl) (L 6 rfl rfl)) ?_
    refine U.done (Nat.le_of_ble_eq_true rfl) ?_
    refine WP.seq ?_
    refine WP.cond _ (L 0 rfl rfl) rfl (fun c50 => ?_) (fun c50 => ?_)
    · have h51 := ifT c50 h49
      refine WP.skip ?_
      refine sqN ?_
      refine WP.seqI (fun l V' => ∃ (v53 : Value) (xs54 : List Torder_node), l = [(1, .func (.func 24) #[] #[]), (5, v53), (10, v1), (11, .int .i64 (p0.length : Int)), (12, .int .i64 x8), (16, v34), (17, .int .i64 (x23.length : Int)), (18, .int .i64 x39)] ∧ V42.le V' ∧ Ow V' (.os RT_Torder_node v53 xs54 :: Rs) ∧ order_Run_nodes_2_k1 x39 xs54 = some q46) ?_ ?_
      · rintro _ V55 ⟨v53, xs54, rfl, le56, ow57, h58⟩
        unfold order_Run_nodes_2_k1 at h58
        refine WP.ureg rfl ?_
        refine U.p rfl rfl (.inl rfl) (S.add rfl (L 7 rfl rfl) K) ?_
        refine U.p rfl rfl (.inl rfl) (S.move rfl (L 0 rfl rfl)) ?_
        refine U.done (Nat.le_of_ble_eq_true rfl) ?_
        refine sqN ?_
        exact ⟨_, V55, rfl, ⟨m45, Nat.lt_succ_self _, v53, xs54, w64 (x39 + 1), rfl, (le43.trans le56), ow57, backS h58 e47⟩, (allCons (L 2 rfl rfl) (allCons (L 3 rfl rfl) (allCons (L 4 rfl rfl) (allCons (L 5 rfl rfl) (allCons (L 6 rfl rfl) (allCons (L 7 rfl rfl) (allCons (L 8 rfl rfl) (allCons (L 0 rfl rfl) allNil))))))))⟩
      · skip
        refine WP.blk ?_
        refine WP.usreg rfl ?_
        refine U.p rfl rfl (.inl rfl) (S.move rfl (L 8 rfl rfl)) ?_
        obtain ⟨x59, hx60, h61⟩ := bindS h51
        obtain ⟨b62, o63, c64, cs65, hv66, hf67, hr68, hc69⟩ := f35.at hx60
        obtain rfl : cs65 = [.int .i64 x59.t, .int .i64 x59.act.kind, .int .i64 x59.act.at_, .int .i64 x59.act.val, .int .i64 x59.act.what, .bool x59.act.volatile, .bool x59.act.final, .int .i64 x59.rf, .int .i64 x59.id] := hr68
        refine U.p rfl rfl (.inl rfl) (S.index rfl ((L 7 rfl rfl).trans hv66) (L 9 rfl rfl) Try.underlying27 ti31 (ix_ge hx60) (ix_lt hx60)) ?_
        refine U.k rfl rfl (.inl rfl) (S.loadN (cs := [.int .i64 x59.t, .int .i64 x59.act.kind, .int .i64 x59.act.at_, .int .i64 x59.act.val, .int .i64 x59.act.what, .bool x59.act.volatile, .bool x59.act.final, .int .i64 x59.rf, .int .i64 x59.id]) rfl (L 0 rfl rfl) Try.underlying31 rfl ti31 rfl (fun j v hj => (le14.trans le43).cell hf67 (hc69 j v hj))) nd ?_
        refine O.alloc ow44 rfl rfl (.inl rfl) rfl ti31 rfl rfl nd (fun b70 V71 le72 ow73 => ?_)
        refine U.p rfl rfl (.inl rfl) (S.assign rfl (L 3 rfl rfl)) ?_
        refine O.store (k := 0) (cs := [.int .i64 x59.t, .int .i64 x59.act.kind, .int .i64 x59.act.at_, .int .i64 x59.act.val, .int .i64 x59.act.what, .bool x59.act.volatile, .bool x59.act.final, .int .i64 x59.rf, .int .i64 x59.id]) (c' := [.int .i64 x59.t, .int .i64 x59.act.kind, .int .i64 x59.act.at_, .int .i64 x59.act.val, .int .i64 x59.act.what, .bool x59.act.volatile, .bool x59.act.final, .int .i64 x59.rf, .int .i64 x59.id]) ow73 rfl rfl rfl (.inl rfl) rfl (L 1 rfl rfl) (L 2 rfl rfl) ti31 (by simp [topV]) rfl rfl (Nat.le_of_ble_eq_true rfl) rfl rfl nd (fun V75 le76 ow77 => ?_)
        refine U.done (Nat.le_of_ble_eq_true rfl) ?_
        refine WP.usreg rfl ?_
        refine U.p (v := .pointer (some ⟨b70, 1, none⟩)) rfl rfl (.inl rfl) (S.fieldAddr rfl (L 1 rfl rfl) Try.underlying31 rfl ti29 rfl rfl) ?_
        refine U.k rfl rfl (.inl rfl) (S.loadN (cs := [.int .i64 x59.act.kind, .int .i64 x59.act.at_, .int .i64 x59.act.val, .int .i64 x59.act.what, .bool x59.act.volatile, .bool x59.act.final]) rfl (L 0 rfl rfl) Try.underlying29 rfl ti29 rfl (cellsOfOwn (ow77.own (k := 0) rfl) 1 rfl)) nd ?_
        obtain ⟨x78, hx79, h80⟩ := bindS h61
        refine O.call (V := V75) rfl rfl (.inl rfl) rfl en39 (aC (L 0 rfl rfl) aN) (wk_order_writes V75 _ x59.act ow77 _ hx79) (fun _ _ _ _ => nd) (fun v81 V82 le83 hp84 => ?_)
        obtain ⟨rfl, ow85⟩ := hp84
        refine U.p rfl rfl (.inl rfl) (S.move rfl (L 0 rfl rfl)) ?_
        obtain ⟨y86, hy87, h88⟩ := bindS h80
        refine U.joinX 8 (fun e H => ∃ (u89 u90 u91 : Value), ∃ V' : Vw, H = V'.H ∧ V82.le V' ∧ e = [(30, .bool y86), (29, u89), (28, u90), (27, u91)] ∧ Ow V' (.pt b70 (.cells 9 [.int .i64 x59.t, .int .i64 x59.act.kind, .int .i64 x59.act.at_, .int .i64 x59.act.val, .int .i64 x59.act.what, .bool x59.act.volatile, .bool x59.act.final, .int .i64 x59.rf, .int .i64 x59.id]) :: .os RT_Torder_node v37 xs38 :: Rs)) ?_ ?_
        · rintro _ _ ⟨u89, u90, u91, V92, rfl, le93, rfl, ow94⟩
          refine U.p rfl rfl (.inl rfl) (S.move rfl (L 0 rfl rfl)) ?_
          obtain ⟨y95, hy96, h97⟩ := bindS h88
          refine U.joinX 14 (fun e H => ∃ (u98 u99 u100 u101 : Value), ∃ V' : Vw, H = V'.H ∧ V92.le V' ∧ e = [(36, .bool y95), (35, u98), (34, u99), (33, u100), (32, u101)] ∧ Ow V' (.pt b70 (.cells 9 [.int .i64 x59.t, .int .i64 x59.act.kind, .int .i64 x59.act.at_, .int .i64 x59.act.val, .int .i64 x59.act.what, .bool x59.act.volatile, .bool x59.act.final, .int .i64 x59.rf, .int .i64 x59.id]) :: .os RT_Torder_node v37 xs38 :: Rs)) ?_ ?_
          · rintro _ _ ⟨u98, u99, u100, u101, V102, rfl, le103, rfl, ow104⟩
            refine U.done (Nat.le_of_ble_eq_true rfl) ?_
            refine WP.cond _ (L 0 rfl rfl) rfl (fun c105 => ?_) (fun c105 => ?_)
            · have h106 := ifT c105 h97
              refine WP.ureg rfl ?_
              refine U.p rfl rfl (.inl rfl) (S.move rfl (L 21 rfl rfl)) ?_
              refine U.k rfl rfl (.inl rfl) (S.loadB rfl (L 16 rfl rfl) Try.underlying31 rfl ti31 (ow104.own (k := 0) rfl).get rfl) nd ?_
              refine U.p rfl rfl (.inl rfl) (S.move rfl (L 16 rfl rfl)) ?_
              refine U.p (v := .agg #[.int .i64 x59.t, .int .i64 x59.act.kind, .int .i64 x59.act.at_, .int .i64 x59.act.val, .int .i64 x59.act.what, .bool x59.act.volatile, .bool x59.act.final, .int .i64 x59.rf, .int .i64 x59.id, .int .i64 x39]) rfl rfl (.inl rfl) (S.build (vs := [.agg #[.int .i64 x59.t, .int .i64 x59.act.kind, .int .i64 x59.act.at_, .int .i64 x59.act.val, .int .i64 x59.act.what, .bool x59.act.volatile, .bool x59.act.final, .int .i64 x59.rf, .int .i64 x59.id], .int .i64 x39]) rfl ti45 rfl pl45 (aC (L 1 rfl rfl) (aC (L 0 rfl rfl) aN)) (allC (by simp [topV]) (allC (by simp [topV]) allN)) (fillA (ws := [.int .i64 x59.t, .int .i64 x59.act.kind, .int .i64 x59.act.at_, .int .i64 x59.act.val, .int .i64 x59.act.what, .bool x59.act.volatile, .bool x59.act.final, .int .i64 x59.rf, .int .i64 x59.id]) rfl rfl rfl (Nat.le_of_ble_eq_true rfl) (fill1 rfl rfl (Nat.le_of_ble_eq_true rfl) rfl))) ?_
              refine O.lit (R := RT_Torder_node) ow104 rfl rfl (.inl rfl) rfl Try.underlying38 ti45 rfl rfl rfl (Nat.le_of_ble_eq_true rfl) rfl (aC (L 0 rfl rfl) aN) (.cons _ _ (⟨x59, x39⟩ : Torder_node) _ (by simp [topV]) rfl .nil) (fun _ => nd) (fun v107 V108 le109 ow110 => ?_)
              obtain ⟨xs112, hx113, h114⟩ := bindS h106
              refine O.append (k := 2) ow110 rfl rfl rfl (.inl rfl) rfl (L 4 rfl rfl) (L 0 rfl rfl) Try.underlying38 ti45 rfl rfl (Nat.le_of_ble_eq_true rfl) (ow110.src (k := 0) rfl Try.underlying38) hx113 (fun _ _ => nd) (fun v115 V116 le117 ow118 => ?_)
              refine U.p rfl rfl (.inl rfl) (S.assign rfl (L 0 rfl rfl)) ?_
              refine U.done (Nat.le_of_ble_eq_true rfl) ?_
              refine blkN (sqN ?_)
              have ow120 := ow118.drop 0 rfl
              have ow121 := ow120.drop 0 rfl
              exact ⟨_, V116, rfl, ⟨v115, xs112, rfl, ((((((le72.trans le76).trans le83).trans le93).trans le103).trans le109).trans le117), ow121, h114⟩, (allCons (L 27 rfl rfl) (allCons (L 0 rfl rfl) (allCons (L 29 rfl rfl) (allCons (L 30 rfl rfl) (allCons (L 31 rfl rfl) (allCons (L 32 rfl rfl) (allCons (L 33 rfl rfl) (allCons (L 34 rfl rfl) allNil))))))))⟩
            · have h122 := ifF c105 h97
              refine WP.skip ?_
              refine blkN (sqN ?_)
              have ow123 := ow104.drop 0 rfl
              exact ⟨_, V102, rfl, ⟨v37, xs38, rfl, ((((le72.trans le76).trans le83).trans le93).trans le103), ow123, h122⟩, (allCons (L 20 rfl rfl) (allCons (L 21 rfl rfl) (allCons (L 22 rfl rfl) (allCons (L 23 rfl rfl) (allCons (L 24 rfl rfl) (allCons (L 25 rfl rfl) (allCons (L 26 rfl rfl) (allCons (L 27 rfl rfl) allNil))))))))⟩
          · intro kk
            refine bcase (b := y86) (fun g124 => ?_) (fun g124 => ?_)
            · have h125 := ifT g124 hy96
              refine U.p rfl rfl (.inr ⟨_, _, _, rfl, rfl, ((L 0 rfl rfl).trans (congrArg Value.bool g124))⟩) (S.move rfl (L 15 rfl rfl)) ?_
              refine U.p (v := .pointer (some ⟨b70, 1, none⟩)) rfl rfl (.inr ⟨_, _, _, rfl, rfl, ((L 1 rfl rfl).trans (congrArg Value.bool g124))⟩) (S.fieldAddr rfl (L 11 rfl rfl) Try.underlying31 rfl ti29 rfl rfl) ?_
              refine U.k rfl rfl (.inr ⟨_, _, _, rfl, rfl, ((L 2 rfl rfl).trans (congrArg Value.bool g124))⟩) (S.loadN (cs := [.int .i64 x59.act.kind, .int .i64 x59.act.at_, .int .i64 x59.act.val, .int .i64 x59.act.what, .bool x59.act.volatile, .bool x59.act.final]) rfl (L 0 rfl rfl) Try.underlying29 rfl ti29 rfl (cellsOfOwn (ow94.own (k := 0) rfl) 1 rfl)) nd ?_
              obtain ⟨x126, hx127, h128⟩ := bindS h125
              refine O.callv (V := V92) rfl rfl (.inr ⟨_, _, _, rfl, rfl, ((L 3 rfl rfl).trans (congrArg Value.bool g124))⟩) rfl (L 2 rfl rfl) en24 (aC (L 0 rfl rfl) aN) (wk_order_every V92 _ x59.act ow94 _ hx127) (fun _ _ _ _ => nd) (fun v129 V130 le131 hp132 => ?_)
              obtain ⟨rfl, ow133⟩ := hp132
              refine U.p rfl rfl (.inl rfl) (S.pickT rfl ((L 4 rfl rfl).trans (congrArg Value.bool g124)) (L 0 rfl rfl)) ?_
              have e134 := Option.some.inj h128
              subst e134
              exact kk [(36, .bool x126), (35, .bool x126), (34, .agg #[.int .i64 x59.act.kind, .int .i64 x59.act.at_, .int .i64 x59.act.val, .int .i64 x59.act.what, .bool x59.act.volatile, .bool x59.act.final]), (33, .pointer (some ⟨b70, 1, none⟩)), (32, .func (.func 24) #[] #[])] _ ⟨.bool x126, .agg #[.int .i64 x59.act.kind, .int .i64 x59.act.at_, .int .i64 x59.act.val, .int .i64 x59.act.what, .bool x59.act.volatile, .bool x59.act.final], .pointer (some ⟨b70, 1, none⟩), .func (.func 24) #[] #[], V130, rfl, le131, rfl, ow133⟩
            · have h135 := ifF g124 hy96
              refine U.x rfl rfl rfl rfl ((L 0 rfl rfl).trans (congrArg Value.bool g124)) (by decide) ?_
              refine U.x rfl rfl rfl rfl ((L 1 rfl rfl).trans (congrArg Value.bool g124)) (by decide) ?_
              refine U.x rfl rfl rfl rfl ((L 2 rfl rfl).trans (congrArg Value.bool g124)) (by decide) ?_
              refine U.x rfl rfl rfl rfl ((L 3 rfl rfl).trans (congrArg Value.bool g124)) (by decide) ?_
              refine U.p rfl rfl (.inl rfl) (S.pickF rfl ((L 4 rfl rfl).trans (congrArg Value.bool g124)) K) ?_
              have e136 := Option.some.inj h135
              subst e136
              exact kk [(36, .bool false), (35, .tuple #[]), (34, .tuple #[]), (33, .tuple #[]), (32, .tuple #[])] _ ⟨.tuple #[], .tuple #[], .tuple #[], .tuple #[], V92, rfl, (.refl _), rfl, ow94⟩
        · intro kk
          refine bcase (b := x78) (fun g137 => ?_) (fun g137 => ?_)
          · have h138 := ifT g137 hy87
            refine U.x rfl rfl rfl rfl ((L 0 rfl rfl).trans (congrArg Value.bool g137)) (by decide) ?_
            refine U.x rfl rfl rfl rfl ((L 1 rfl rfl).trans (congrArg Value.bool g137)) (by decide) ?_
            refine U.x rfl rfl rfl rfl ((L 2 rfl rfl).trans (congrArg Value.bool g137)) (by decide) ?_
            refine U.p rfl rfl (.inl rfl) (S.pickT rfl ((L 3 rfl rfl).trans (congrArg Value.bool g137)) K) ?_
            have e139 := Option.some.inj h138
            subst e139
            exact kk [(30, .bool true), (29, .tuple #[]), (28, .tuple #[]), (27, .tuple #[])] _ ⟨.tuple #[], .tuple #[], .tuple #[], V82, rfl, (.refl _), rfl, ow85⟩
          · have h140 := ifF g137 hy87
            refine U.p (v := .pointer (some ⟨b70, 1, none⟩)) rfl rfl (.inr ⟨_, _, _, rfl, rfl, ((L 0 rfl rfl).trans (congrArg Value.bool g137))⟩) (S.fieldAddr rfl (L 5 rfl rfl) Try.underlying31 rfl ti29 rfl rfl) ?_
            refine U.k rfl rfl (.inr ⟨_, _, _, rfl, rfl, ((L 1 rfl rfl).trans (congrArg Value.bool g137))⟩) (S.loadN (cs := [.int .i64 x59.act.kind, .int .i64 x59.act.at_, .int .i64 x59.act.val, .int .i64 x59.act.what, .bool x59.act.volatile, .bool x59.act.final]) rfl (L 0 rfl rfl) Try.underlying29 rfl ti29 rfl (cellsOfOwn (ow85.own (k := 0) rfl) 1 rfl)) nd ?_
            obtain ⟨x141, hx142, h143⟩ := bindS h140
            refine O.call (V := V82) rfl rfl (.inr ⟨_, _, _, rfl, rfl, ((L 2 rfl rfl).trans (congrArg Value.bool g137))⟩) rfl en38 (aC (L 0 rfl rfl) aN) (wk_order_reads V82 _ x59.act ow85 _ hx142) (fun _ _ _ _ => nd) (fun v144 V145 le146 hp147 => ?_)
            obtain ⟨rfl, ow148⟩ := hp147
            refine U.p rfl rfl (.inl rfl) (S.pickF rfl ((L 3 rfl rfl).trans (congrArg Value.bool g137)) (L 0 rfl rfl)) ?_
            have e149 := Option.some.inj h143
            subst e149
            exact kk [(30, .bool x141), (29, .bool x141), (28, .agg #[.int .i64 x59.act.kind, .int .i64 x59.act.at_, .int .i64 x59.act.val, .int .i64 x59.act.what, .bool x59.act.volatile, .bool x59.act.final]), (27, .pointer (some ⟨b70, 1, none⟩))] _ ⟨.bool x141, .agg #[.int .i64 x59.act.kind, .int .i64 x59.act.at_, .int .i64 x59.act.val, .int .i64 x59.act.what, .bool x59.act.volatile, .bool x59.act.final], .pointer (some ⟨b70, 1, none⟩), V145, rfl, le146, rfl, ow148⟩
    · have h150 := ifF c50 h49
      refine WP.exit ?_
      refine sqE (sqE (blkE (blkN (sqN ?_))))
      have h151 := exitS h150 e47
      refine WP.ureg rfl ?_
      refine U.p rfl rfl (.inl rfl) (S.add rfl (L 5 rfl rfl) K) ?_
      refine U.p rfl rfl (.inl rfl) (S.move rfl (L 0 rfl rfl)) ?_
      refine U.done (Nat.le_of_ble_eq_true rfl) ?_
      refine sqN ?_
      exact ⟨_, V42, rfl, ⟨m16, Nat.lt_succ_self _, v37, xs38, w64 (x8 + 1), rfl, (le14.trans le43), ow44, backS h151 e18⟩, (allCons (L 3 rfl rfl) (allCons (L 4 rfl rfl) (allCons (L 5 rfl rfl) (allCons (L 6 rfl rfl) (allCons (L 0 rfl rfl) allNil)))))⟩
  · have h152 := ifF c21 h20
    refine WP.exit ?_
    refine sqE (sqE (blkE (sqN ?_)))
    have h153 := exitS h152 e18
    refine WP.usreg rfl ?_
    refine U.p rfl rfl (.inl rfl) (S.move rfl (L 2 rfl rfl)) ?_
    refine U.p rfl rfl (.inl rfl) (S.assign rfl (L 0 rfl rfl)) ?_
    refine U.done (Nat.le_of_ble_eq_true rfl) ?_
    refine WP.ret ?_
    refine fin.slot (.inr rfl) rfl (L 0 rfl rfl) ⟨V13, rfl, le14, ?_⟩
    have e154 := Option.some.inj h153
    subst e154
    exact ⟨v6, rfl, ow15⟩

set_option maxHeartbeats 4000000 in
set_option maxRecDepth 10000 in
theorem wk_order_join_2 (V : Vw) (Rs : List At) (p0 : List Torder_node) (p1 : List Nat) (v1 : Value) (v3 : Value) (f2 : Fz RT_Torder_node V v1 p0) (ow : Ow V (.os (RT.fn fnt46) v3 p1 :: Rs)) (r : List (List Bool)) (h : order_join_2 p0 p1 = some r) : ∃ v V', Cl Try.prog 0 25 #[v1, v3] V.H v V'.H ∧ V.le V' ∧ (∃ (v5 : Value) (hs6 : List Value), v = v5 ∧ Ow V' (.oss (RO.os RT.bool) v5 hs6 r :: .os (RT.fn fnt46) v3 p1 :: Rs)) := by
  refine Ct.of (Nat.zero_le _) Try.func25 rfl (Nat.le_of_ble_eq_true rfl) ?_
  unfold order_join_2 at h
  refine WP.usreg rfl ?_
  refine U.p rfl rfl (.inl rfl) (S.assign rfl K) ?_
  refine U.done (Nat.le_of_ble_eq_true rfl) ?_
  refine WP.usreg rfl ?_
  refine U.p rfl rfl (.inl rfl) (S.move rfl (L 1 rfl rfl)) ?_
  refine U.p rfl rfl (.inl rfl) (f2.1.len rfl (L 0 rfl rfl) Try.underlying38) ?_
  obtain ⟨xs8, hx9, h10⟩ := bindS h
  refine O.makeS (RO.os RT.bool) ow rfl rfl (.inl rfl) rfl (L 0 rfl rfl) (L 0 rfl rfl) Try.underlying42 ti53 rfl rfl (Nat.le_of_ble_eq_true rfl) ⟨Nat.zero_le _, .inl ⟨rfl, rfl, rfl⟩⟩ hx9 (fun _ => nd) (fun v11 hs12 V13 le14 ow15 => ?_)
  refine U.p rfl rfl (.inl rfl) (S.assign rfl (L 0 rfl rfl)) ?_
  refine U.done (Nat.le_of_ble_eq_true rfl) ?_
  refine WP.seq ?_
  refine WP.usreg rfl ?_
  refine U.p rfl rfl (.inl rfl) (S.move rfl (L 5 rfl rfl)) ?_
  refine U.p rfl rfl (.inl rfl) (f2.1.len rfl (L 0 rfl rfl) Try.underlying38) ?_
  refine U.p rfl rfl (.inl rfl) (S.move rfl K) ?_
  refine U.done (Nat.le_of_ble_eq_true rfl) ?_
  refine WP.blk ?_
  have ow20 := ow15.pick 0 rfl
  have ow21 := ow20.pick 1 rfl
  unfold order_join_2_l1 at h10
  obtain ⟨n23, hn22⟩ := loopO_some.1 h10
  refine WP.loopI2 (fun n l V' => ∃ (hs17 : List Value) (xs18 : List (List Bool)) (x19 : Int), l = [(0, v1), (1, v3), (5, v11), (13, v1), (14, .int .i64 (p0.length : Int)), (15, .int .i64 x19)] ∧ V13.le V' ∧ Ow V' (.os (RT.fn fnt46) v3 p1 :: .oss (RO.os RT.bool) v11 hs17 xs18 :: Rs) ∧ itO (fun s => order_join_2_l1b p0 p1 s.1 s.2) n (xs18, x19) = some r) n23 _ ⟨hs12, xs8, 0, rfl, .refl _, ow21, hn22⟩ (allCons (L 8 rfl rfl) (allCons (L 9 rfl rfl) (allCons (L 3 rfl rfl) (allCons (L 2 rfl rfl) (allCons (L 1 rfl rfl) (allCons (L 0 rfl rfl) allNil)))))) ?_
  rintro _ _ V24 ⟨hs17, xs18, x19, rfl, le25, ow26, h30⟩
  obtain ⟨m27, q28, rfl, h31, e29⟩ := itS h30
  replace h31 : order_join_2_l1b p0 p1 xs18 x19 = some q28 := h31
  unfold order_join_2_l1b at h31
  refine WP.usreg rfl ?_
  refine U.p rfl rfl (.inl rfl) (S.lss rfl (L 5 rfl rfl) (L 4 rfl rfl)) ?_
  refine U.done (Nat.le_of_ble_eq_true rfl) ?_
  refine WP.seq ?_
  refine WP.cond _ (L 0 rfl rfl) rfl (fun c32 => ?_) (fun c32 => ?_)
  · have h33 := ifT c32 h31
    refine WP.skip ?_
    refine sqN ?_
    refine WP.seq ?_
    refine WP.blk ?_
    refine WP.usreg rfl ?_
    refine U.p rfl rfl (.inl rfl) (S.move rfl (L 6 rfl rfl)) ?_
    obtain ⟨x34, hx35, h36⟩ := bindS h33
    obtain ⟨b37, o38, c39, cs40, hv41, hf42, hr43, hc44⟩ := f2.at hx35
    obtain rfl : cs40 = [.int .i64 x34.e.t, .int .i64 x34.e.act.kind, .int .i64 x34.e.act.at_, .int .i64 x34.e.act.val, .int .i64 x34.e.act.what, .bool x34.e.act.volatile, .bool x34.e.act.final, .int .i64 x34.e.rf, .int .i64 x34.e.id, .int .i64 x34.at_] := hr43
    refine U.p rfl rfl (.inl rfl) (S.index rfl ((L 5 rfl rfl).trans hv41) (L 7 rfl rfl) Try.underlying38 ti45 (ix_ge hx35) (ix_lt hx35)) ?_
    refine U.k rfl rfl (.inl rfl) (S.loadN (cs := [.int .i64 x34.e.t, .int .i64 x34.e.act.kind, .int .i64 x34.e.act.at_, .int .i64 x34.e.act.val, .int .i64 x34.e.act.what, .bool x34.e.act.volatile, .bool x34.e.act.final, .int .i64 x34.e.rf, .int .i64 x34.e.id, .int .i64 x34.at_]) rfl (L 0 rfl rfl) Try.underlying45 rfl ti45 rfl (fun j v hj => (le14.trans le25).cell hf42 (hc44 j v hj))) nd ?_
    refine O.alloc ow26 rfl rfl (.inl rfl) rfl ti45 rfl rfl nd (fun b45 V46 le47 ow48 => ?_)
    refine U.p rfl rfl (.inl rfl) (S.assign rfl (L 3 rfl rfl)) ?_
    refine O.store (k := 0) (cs := [.int .i64 x34.e.t, .int .i64 x34.e.act.kind, .int .i64 x34.e.act.at_, .int .i64 x34.e.act.val, .int .i64 x34.e.act.what, .bool x34.e.act.volatile, .bool x34.e.act.final, .int .i64 x34.e.rf, .int .i64 x34.e.id, .int .i64 x34.at_]) (c' := [.int .i64 x34.e.t, .int .i64 x34.e.act.kind, .int .i64 x34.e.act.at_, .int .i64 x34.e.act.val, .int .i64 x34.e.act.what, .bool x34.e.act.volatile, .bool x34.e.act.final, .int .i64 x34.e.rf, .int .i64 x34.e.id, .int .i64 x34.at_]) ow48 rfl rfl rfl (.inl rfl) rfl (L 1 rfl rfl) (L 2 rfl rfl) ti45 (by simp [topV]) rfl rfl (Nat.le_of_ble_eq_true rfl) rfl rfl nd (fun V50 le51 ow52 => ?_)
    refine U.done (Nat.le_of_ble_eq_true rfl) ?_
    refine WP.usreg rfl ?_
    refine U.p rfl rfl (.inl rfl) (S.move rfl (L 8 rfl rfl)) ?_
    refine U.p rfl rfl (.inl rfl) (S.move rfl (L 1 rfl rfl)) ?_
    refine U.p rfl rfl (.inl rfl) (S.move rfl (L 8 rfl rfl)) ?_
    refine U.p rfl rfl (.inl rfl) (f2.1.len rfl (L 0 rfl rfl) Try.underlying38) ?_
    obtain ⟨xs53, hx54, h55⟩ := bindS h36
    refine O.make (R := RT.bool) ow52 rfl rfl (.inl rfl) rfl (L 0 rfl rfl) (L 0 rfl rfl) Try.underlying53 ti4 rfl rfl rfl (Nat.le_of_ble_eq_true rfl) rfl hx54 (fun _ => nd) (fun v56 V57 le58 ow59 => ?_)
    obtain ⟨x61, hx62, h63⟩ := bindS h55
    obtain ⟨b64, o65, n66, c67, hv68⟩ := ow59.sspt (k := 3) rfl hx62
    refine U.p rfl rfl (.inl rfl) (S.index rfl ((L 4 rfl rfl).trans (ow59.sslen' (k := 3) rfl hv68)) (L 3 rfl rfl) Try.underlying42 ti53 (ix_ge hx62) (ix_lt hx62)) ?_
    obtain ⟨h69, hh70, ow71⟩ := ow59.ssopen (k := 3) rfl hx62
    have ow73 := ow71.drop 0 rfl
    refine O.storeH (k := 3) ow73 rfl hv68 rfl rfl (.inl rfl) rfl (L 0 rfl rfl) (L 1 rfl rfl) ti53 (ow73.osne (k := 0) rfl) (by rw [ow73.oscells (k := 0) rfl]) (ow73.osone (k := 0) rfl) (fun _ _ => nd) (fun V74 le75 ow76 => ?_)
    have hh77 := ow76.shset (k := 3) rfl
    refine U.done (Nat.le_of_ble_eq_true rfl) ?_
    refine WP.usreg rfl ?_
    refine U.p rfl rfl (.inl rfl) (S.move rfl (L 12 rfl rfl)) ?_
    refine U.p rfl rfl (.inl rfl) (f2.1.len rfl (L 0 rfl rfl) Try.underlying38) ?_
    refine U.p rfl rfl (.inl rfl) (S.move rfl K) ?_
    refine U.done (Nat.le_of_ble_eq_true rfl) ?_
    refine WP.blk ?_
    have ow78 := ow76.ssclose (k := 3) (j := 0) rfl rfl (by decide) hh77
    have ow81 := ow78.pick 0 rfl
    have ow82 := ow81.pick 2 rfl
    have ow83 := ow82.pick 2 rfl
    unfold order_join_2_l2 at h63
    obtain ⟨n85, hn84⟩ := loopO_some.1 h63
    refine WP.loopI2 (fun n l V' => ∃ (xs79 : List (List Bool)) (x80 : Int), l = [(0, v1), (1, v3), (5, v11), (6, .int .i64 x19), (7, .pointer (some ⟨b45, 0, none⟩)), (13, v1), (14, .int .i64 (p0.length : Int)), (15, .int .i64 x19), (26, v1), (27, .int .i64 (p0.length : Int)), (28, .int .i64 x80)] ∧ V74.le V' ∧ Ow V' (.os (RT.fn fnt46) v3 p1 :: .oss (RO.os RT.bool) v11 (hs17.set (Int.toNat x19) v56) xs79 :: .pt b45 (.cells 10 [.int .i64 x34.e.t, .int .i64 x34.e.act.kind, .int .i64 x34.e.act.at_, .int .i64 x34.e.act.val, .int .i64 x34.e.act.what, .bool x34.e.act.volatile, .bool x34.e.act.final, .int .i64 x34.e.rf, .int .i64 x34.e.id, .int .i64 x34.at_]) :: Rs) ∧ itO (fun s => order_join_2_l2b p0 p1 x19 x34 s.1 s.2) n (xs79, x80) = some q28) n85 _ ⟨xs18.set (Int.toNat x19) xs53, 0, rfl, .refl _, ow83, hn84⟩ (allCons (L 15 rfl rfl) (allCons (L 16 rfl rfl) (allCons (L 17 rfl rfl) (allCons (L 9 rfl rfl) (allCons (L 10 rfl rfl) (allCons (L 18 rfl rfl) (allCons (L 19 rfl rfl) (allCons (L 20 rfl rfl) (allCons (L 2 rfl rfl) (allCons (L 1 rfl rfl) (allCons (L 0 rfl rfl) allNil))))))))))) ?_
    rintro _ _ V86 ⟨xs79, x80, rfl, le87, ow88, h92⟩
    obtain ⟨m89, q90, rfl, h93, e91⟩ := itS h92
    replace h93 : order_join_2_l2b p0 p1 x19 x34 xs79 x80 = some q90 := h93
    unfold order_join_2_l2b at h93
    refine WP.usreg rfl ?_
    refine U.p rfl rfl (.inl rfl) (S.lss rfl (L 10 rfl rfl) (L 9 rfl rfl)) ?_
    refine U.done (Nat.le_of_ble_eq_true rfl) ?_
    refine WP.seq ?_
    refine WP.cond _ (L 0 rfl rfl) rfl (fun c94 => ?_) (fun c94 => ?_)
    · have h95 := ifT c94 h93
      refine WP.skip ?_
      refine sqN ?_
      refine WP.seqI (fun l V' => ∃ (xs96 : List (List Bool)), l = [(0, v1), (1, v3), (5, v11), (6, .int .i64 x19), (7, .pointer (some ⟨b45, 0, none⟩)), (13, v1), (14, .int .i64 (p0.length : Int)), (15, .int .i64 x19), (26, v1), (27, .int .i64 (p0.length : Int)), (28, .int .i64 x80)] ∧ V86.le V' ∧ Ow V' (.os (RT.fn fnt46) v3 p1 :: .oss (RO.os RT.bool) v11 (hs17.set (Int.toNat x19) v56) xs96 :: .pt b45 (.cells 10 [.int .i64 x34.e.t, .int .i64 x34.e.act.kind, .int .i64 x34.e.act.at_, .int .i64 x34.e.act.val, .int .i64 x34.e.act.what, .bool x34.e.act.volatile, .bool x34.e.act.final, .int .i64 x34.e.rf, .int .i64 x34.e.id, .int .i64 x34.at_]) :: Rs) ∧ order_join_2_k1 x80 xs96 = some q90) ?_ ?_
      · rintro _ V97 ⟨xs96, rfl, le98, ow99, h100⟩
        unfold order_join_2_k1 at h100
        refine WP.ureg rfl ?_
        refine U.p rfl rfl (.inl rfl) (S.add rfl (L 10 rfl rfl) K) ?_
        refine U.p rfl rfl (.inl rfl) (S.move rfl (L 0 rfl rfl)) ?_
        refine U.done (Nat.le_of_ble_eq_true rfl) ?_
        refine sqN ?_
        exact ⟨_, V97, rfl, ⟨m89, Nat.lt_succ_self _, xs96, w64 (x80 + 1), rfl, (le87.trans le98), ow99, backS h100 e91⟩, (allCons (L 2 rfl rfl) (allCons (L 3 rfl rfl) (allCons (L 4 rfl rfl) (allCons (L 5 rfl rfl) (allCons (L 6 rfl rfl) (allCons (L 7 rfl rfl) (allCons (L 8 rfl rfl) (allCons (L 9 rfl rfl) (allCons (L 10 rfl rfl) (allCons (L 11 rfl rfl) (allCons (L 0 rfl rfl) allNil)))))))))))⟩
      · skip
        refine WP.blk ?_
        refine WP.usreg rfl ?_
        refine U.p rfl rfl (.inl rfl) (S.move rfl (L 11 rfl rfl)) ?_
        obtain ⟨x101, hx102, h103⟩ := bindS h95
        obtain ⟨b104, o105, c106, cs107, hv108, hf109, hr110, hc111⟩ := f2.at hx102
        obtain rfl : cs107 = [.int .i64 x101.e.t, .int .i64 x101.e.act.kind, .int .i64 x101.e.act.at_, .int .i64 x101.e.act.val, .int .i64 x101.e.act.what, .bool x101.e.act.volatile, .bool x101.e.act.final, .int .i64 x101.e.rf, .int .i64 x101.e.id, .int .i64 x101.at_] := hr110
        refine U.p rfl rfl (.inl rfl) (S.index rfl ((L 10 rfl rfl).trans hv108) (L 12 rfl rfl) Try.underlying38 ti45 (ix_ge hx102) (ix_lt hx102)) ?_
        refine U.k rfl rfl (.inl rfl) (S.loadN (cs := [.int .i64 x101.e.t, .int .i64 x101.e.act.kind, .int .i64 x101.e.act.at_, .int .i64 x101.e.act.val, .int .i64 x101.e.act.what, .bool x101.e.act.volatile, .bool x101.e.act.final, .int .i64 x101.e.rf, .int .i64 x101.e.id, .int .i64 x101.at_]) rfl (L 0 rfl rfl) Try.underlying45 rfl ti45 rfl (fun j v hj => ((((((le14.trans le25).trans le47).trans le51).trans le58).trans le75).trans le87).cell hf109 (hc111 j v hj))) nd ?_
        refine O.alloc ow88 rfl rfl (.inl rfl) rfl ti45 rfl rfl nd (fun b112 V113 le114 ow115 => ?_)
        refine U.p rfl rfl (.inl rfl) (S.assign rfl (L 3 rfl rfl)) ?_
        refine O.store (k := 0) (cs := [.int .i64 x101.e.t, .int .i64 x101.e.act.kind, .int .i64 x101.e.act.at_, .int .i64 x101.e.act.val, .int .i64 x101.e.act.what, .bool x101.e.act.volatile, .bool x101.e.act.final, .int .i64 x101.e.rf, .int .i64 x101.e.id, .int .i64 x101.at_]) (c' := [.int .i64 x101.e.t, .int .i64 x101.e.act.kind, .int .i64 x101.e.act.at_, .int .i64 x101.e.act.val, .int .i64 x101.e.act.what, .bool x101.e.act.volatile, .bool x101.e.act.final, .int .i64 x101.e.rf, .int .i64 x101.e.id, .int .i64 x101.at_]) ow115 rfl rfl rfl (.inl rfl) rfl (L 1 rfl rfl) (L 2 rfl rfl) ti45 (by simp [topV]) rfl rfl (Nat.le_of_ble_eq_true rfl) rfl rfl nd (fun V117 le118 ow119 => ?_)
        refine U.done (Nat.le_of_ble_eq_true rfl) ?_
        refine WP.udreg rfl rfl rfl ?_
        refine U.p rfl rfl (.inl rfl) (S.move rfl (L 8 rfl rfl)) ?_
        refine U.p rfl rfl (.inl rfl) (S.move rfl (L 10 rfl rfl)) ?_
        obtain ⟨x120, hx121, h122⟩ := bindS h103
        refine U.p rfl rfl (.inl rfl) (S.index rfl ((L 1 rfl rfl).trans (ow119.sslen' (k := 2) rfl hv68)) (L 0 rfl rfl) Try.underlying42 ti53 (ix_ge hx121) (ix_lt hx121)) ?_
        obtain ⟨h123, hh124, ow125⟩ := ow119.ssopen (k := 2) rfl hx121
        have hcl127 := ow125.shcell (k := 3) rfl hv68 hh124
        refine U.k rfl rfl (.inl rfl) (S.load rfl (L 0 rfl rfl) Try.underlying53 rfl hcl127.2) (fun _ => (okH.nil (fun r h => by cases h; exact hcl127.1))) ?_
        refine U.p rfl rfl (.inl rfl) (S.move rfl (L 4 rfl rfl)) ?_
        refine U.p rfl rfl (.inl rfl) (S.move rfl (L 14 rfl rfl)) ?_
        refine U.p rfl rfl (.inl rfl) (S.move rfl (L 6 rfl rfl)) ?_
        refine U.p rfl rfl (.inl rfl) (S.neqI rfl (L 1 rfl rfl) (L 0 rfl rfl)) ?_
        refine U.p rfl rfl (.inl rfl) (S.move rfl (L 0 rfl rfl)) ?_
        have ow128 := ow125.ssclose' (k := 3) (j := 0) rfl rfl (by decide) hh124 hx121
        refine bcase (b := decide (x19 ≠ x80)) (fun g129 => ?_) (fun g129 => ?_)
        · have h130 := ifT g129 h122
          refine U.p rfl rfl (.inr ⟨_, _, _, rfl, rfl, ((L 0 rfl rfl).trans (congrArg Value.bool g129))⟩) (S.move rfl (L 16 rfl rfl)) ?_
          refine U.p (v := .func (.func 52) #[] #[.pointer (some ⟨b45, 0, none⟩), .pointer (some ⟨b112, 0, none⟩)]) rfl rfl (.inr ⟨_, _, _, rfl, rfl, ((L 1 rfl rfl).trans (congrArg Value.bool g129))⟩) (S.makeFunc' rfl (amN) (am2 (L 20 rfl rfl) (L 11 rfl rfl))) ?_
          have ow131 := ow128.pick 3 rfl
          have ow132 := ow131.pick 2 rfl
          obtain ⟨x133, hx134, h135⟩ := bindS h130
          obtain ⟨q141, ow142⟩ := ow132.toEx 3 rfl
          refine O.call (V := V117) rfl rfl (.inr ⟨_, _, _, rfl, rfl, ((L 2 rfl rfl).trans (congrArg Value.bool g129))⟩) rfl en51 (aC (L 1 rfl rfl) (aC (L 0 rfl rfl) aN)) (wk_slices_ContainsFunc V117 _ p1 x34 x101 v3 b45 10 b112 10 ow142 _ hx134) (fun v136 V137 le138 hp139 => by obtain ⟨rfl, ow140⟩ := hp139; exact (fun _ => (okH.cons (Or.inr (ow142.exsame (k := 3) (j := 3) rfl ow140 rfl (fun h => exb_ss hv68 h))) (okH.nil (fun r h => nomatch h))))) (fun v136 V137 le138 hp139 => ?_)
          obtain ⟨rfl, ow140⟩ := hp139
          have ow143 := ow140.unEx 3 rfl
          refine U.p rfl rfl (.inl rfl) (S.pickT rfl ((L 3 rfl rfl).trans (congrArg Value.bool g129)) (L 0 rfl rfl)) ?_
          obtain ⟨x144, hx145, h146⟩ := bindS h135
          obtain ⟨h147, hh148, ow149⟩ := ow143.ssopen (k := 3) rfl hx145
          obtain rfl : h147 = h123 := Option.some.inj (hh148.symm.trans hh124)
          obtain ⟨x151, hx152, h153⟩ := bindS h146
          obtain ⟨b154, o155, n156, c157, hv158⟩ := ow149.ospt (k := 0) rfl hx152
          obtain ⟨_, hv159, _⟩ := ow149.osel (k := 0) rfl hv158 hx152
          refine U.p rfl rfl (.inl rfl) (S.index rfl ((L 9 rfl rfl).trans hv159) (L 8 rfl rfl) Try.underlying53 ti4 (ix_ge hx152) (ix_lt hx152)) ?_
          obtain ⟨cs160, hv161, hlt162, hr163, hc164⟩ := ow149.osel (k := 0) rfl hv158 hx152
          obtain rfl : cs160 = [.bool x151] := hr163
          refine O.storeE (k := 0) (R := RT.bool) (j := 0) (y := x133) (cs := [.bool x133]) ow149 rfl hv161 rfl rfl (.inl rfl) rfl (L 0 rfl rfl) (L 1 rfl rfl) ti4 hx152 (by simp [topV]) rfl rfl rfl (full rfl) (fun H1 hs => (fun _ => (okH.cons rfl (okH.cons (Or.inl rfl) (okH.nil (fun r h => nomatch h)))))) (fun V165 le166 ow167 => ?_)
          refine U.done (Nat.le_of_ble_eq_true rfl) ?_
          refine blkN (sqN ?_)
          have ow168 := ow167.ssclose (k := 4) (j := 0) rfl rfl (by decide) hh124
          have ow169 := ow168.drop 2 rfl
          have ow170 := ow169.pick 1 rfl
          have ow171 := ow170.pick 2 rfl
          have ow172 := ow171.pick 2 rfl
          exact ⟨_, V165, rfl, ⟨xs79.set (Int.toNat x19) (x144.set (Int.toNat x80) x133), rfl, (((le114.trans le118).trans le138).trans le166), ow172, h153⟩, (allCons (L 20 rfl rfl) (allCons (L 21 rfl rfl) (allCons (L 22 rfl rfl) (allCons (L 23 rfl rfl) (allCons (L 24 rfl rfl) (allCons (L 25 rfl rfl) (allCons (L 26 rfl rfl) (allCons (L 27 rfl rfl) (allCons (L 28 rfl rfl) (allCons (L 29 rfl rfl) (allCons (L 30 rfl rfl) allNil)))))))))))⟩
        · have h173 := ifF g129 h122
          refine U.x rfl rfl rfl rfl ((L 0 rfl rfl).trans (congrArg Value.bool g129)) (by decide) ?_
          refine U.x rfl rfl rfl rfl ((L 1 rfl rfl).trans (congrArg Value.bool g129)) (by decide) ?_
          refine U.x rfl rfl rfl rfl ((L 2 rfl rfl).trans (congrArg Value.bool g129)) (by decide) ?_
          refine U.p rfl rfl (.inl rfl) (S.pickF rfl ((L 3 rfl rfl).trans (congrArg Value.bool g129)) K) ?_
          obtain ⟨x174, hx175, h176⟩ := bindS h173
          obtain ⟨h177, hh178, ow179⟩ := ow128.ssopen (k := 2) rfl hx175
          obtain rfl : h177 = h123 := Option.some.inj (hh178.symm.trans hh124)
          obtain ⟨x181, hx182, h183⟩ := bindS h176
          obtain ⟨b184, o185, n186, c187, hv188⟩ := ow179.ospt (k := 0) rfl hx182
          obtain ⟨_, hv189, _⟩ := ow179.osel (k := 0) rfl hv188 hx182
          refine U.p rfl rfl (.inl rfl) (S.index rfl ((L 9 rfl rfl).trans hv189) (L 8 rfl rfl) Try.underlying53 ti4 (ix_ge hx182) (ix_lt hx182)) ?_
          obtain ⟨cs190, hv191, hlt192, hr193, hc194⟩ := ow179.osel (k := 0) rfl hv188 hx182
          obtain rfl : cs190 = [.bool x181] := hr193
          refine O.storeE (k := 0) (R := RT.bool) (j := 0) (y := false) (cs := [.bool false]) ow179 rfl hv191 rfl rfl (.inl rfl) rfl (L 0 rfl rfl) (L 1 rfl rfl) ti4 hx182 (by simp [topV]) rfl rfl rfl (full rfl) (fun H1 hs => (fun _ => (okH.cons (Or.inl rfl) (okH.nil (fun r h => nomatch h))))) (fun V195 le196 ow197 => ?_)
          refine U.done (Nat.le_of_ble_eq_true rfl) ?_
          refine blkN (sqN ?_)
          have ow198 := ow197.ssclose (k := 3) (j := 0) rfl rfl (by decide) hh124
          have ow199 := ow198.drop 0 rfl
          exact ⟨_, V195, rfl, ⟨xs79.set (Int.toNat x19) (x174.set (Int.toNat x80) false), rfl, ((le114.trans le118).trans le196), ow199, h183⟩, (allCons (L 20 rfl rfl) (allCons (L 21 rfl rfl) (allCons (L 22 rfl rfl) (allCons (L 23 rfl rfl) (allCons (L 24 rfl rfl) (allCons (L 25 rfl rfl) (allCons (L 26 rfl rfl) (allCons (L 27 rfl rfl) (allCons (L 28 rfl rfl) (allCons (L 29 rfl rfl) (allCons (L 30 rfl rfl) allNil)))))))))))⟩
    · have h200 := ifF c94 h93
      refine WP.exit ?_
      refine sqE (sqE (blkE (blkN (sqN ?_))))
      have h201 := exitS h200 e91
      refine WP.ureg rfl ?_
      refine U.p rfl rfl (.inl rfl) (S.add rfl (L 8 rfl rfl) K) ?_
      refine U.p rfl rfl (.inl rfl) (S.move rfl (L 0 rfl rfl)) ?_
      refine U.done (Nat.le_of_ble_eq_true rfl) ?_
      refine sqN ?_
      have ow202 := ow88.drop 2 rfl
      exact ⟨_, V86, rfl, ⟨m27, Nat.lt_succ_self _, hs17.set (Int.toNat x19) v56, xs79, w64 (x19 + 1), rfl, (((((le25.trans le47).trans le51).trans le58).trans le75).trans le87), ow202, backS h201 e29⟩, (allCons (L 3 rfl rfl) (allCons (L 4 rfl rfl) (allCons (L 5 rfl rfl) (allCons (L 8 rfl rfl) (allCons (L 9 rfl rfl) (allCons (L 0 rfl rfl) allNil))))))⟩
  · have h203 := ifF c32 h31
    refine WP.exit ?_
    refine sqE (sqE (blkE (sqN ?_)))
    have h204 := exitS h203 e29
    refine WP.usreg rfl ?_
    refine U.p rfl rfl (.inl rfl) (S.move rfl (L 3 rfl rfl)) ?_
    refine U.p rfl rfl (.inl rfl) (S.assign rfl (L 0 rfl rfl)) ?_
    refine U.done (Nat.le_of_ble_eq_true rfl) ?_
    refine WP.ret ?_
    refine fin.slot (.inr rfl) rfl (L 0 rfl rfl) ⟨V24, rfl, (le14.trans le25), ?_⟩
    have ow205 := ow26.pick 0 rfl
    have ow206 := ow205.pick 1 rfl
    have e207 := Option.some.inj h204
    subst e207
    exact ⟨v11, hs17, rfl, ow206⟩

set_option maxHeartbeats 4000000 in
set_option maxRecDepth 10000 in
theorem wk_order_Run_happens_2 (V : Vw) (Rs : List At) (p0 : List (List TEvent)) (p1 : List Torder_node) (v1 : Value) (v3 : Value) (f2 : Fz (RT.sl RT_TEvent) V v1 p0) (f4 : Fz RT_Torder_node V v3 p1) (ow : Ow V (Rs)) (r : List (List Bool)) (h : order_Run_happens_2 p0 p1 = some r) : ∃ v V', Cl Try.prog 0 37 #[v1, v3] V.H v V'.H ∧ V.le V' ∧ (∃ (v5 : Value) (hs6 : List Value), v = v5 ∧ Ow V' (.oss (RO.os RT.bool) v5 hs6 r :: Rs)) := by
  refine Ct.of (Nat.zero_le _) Try.func37 rfl (Nat.le_of_ble_eq_true rfl) ?_
  unfold order_Run_happens_2 at h
  refine WP.usreg rfl ?_
  refine U.p rfl rfl (.inl rfl) (S.assign rfl K) ?_
  refine U.done (Nat.le_of_ble_eq_true rfl) ?_
  refine WP.usreg rfl ?_
  refine U.p rfl rfl (.inl rfl) (S.move rfl (L 2 rfl rfl)) ?_
  refine O.lit (R := (RT.fn fnt46)) ow rfl rfl (.inl rfl) rfl Try.underlying66 ti46 rfl rfl rfl (Nat.le_of_ble_eq_true rfl) rfl (aC Fu (aC Fu aN)) (.cons _ _ 1 _ (by simp [topV]) ⟨_, rfl, rfl, _, rfl⟩ (.cons _ _ 5 _ (by simp [topV]) ⟨_, rfl, rfl, _, rfl⟩ .nil)) (fun _ => nd) (fun v8 V9 le10 ow11 => ?_)
  have f13 := f4.up le10
  obtain ⟨x14, hx15, h16⟩ := bindS h
  refine O.call (V := V9) rfl rfl (.inl rfl) rfl en25 (aC (L 1 rfl rfl) (aC (L 0 rfl rfl) aN)) (wk_order_join_2 V9 _ p1 [1, 5] v3 v8 f13 ow11 _ hx15) (fun _ _ _ _ => nd) (fun v17 V18 le19 hp20 => ?_)
  obtain ⟨_, hs23, rfl, ow21⟩ := hp20
  obtain ⟨x25, hx26, h27⟩ := bindS h16
  refine O.call (V := V18) rfl rfl (.inl rfl) rfl en55 (aC (L 0 rfl rfl) aN) (wk_order_graph_closed V18 _ x14 v17 hs23 ow21 _ hx26) (fun _ _ _ _ => nd) (fun v28 V29 le30 hp31 => ?_)
  obtain ⟨_, hs34, rfl, ow32⟩ := hp31
  refine U.p rfl rfl (.inl rfl) (S.assign rfl (L 0 rfl rfl)) ?_
  refine U.done (Nat.le_of_ble_eq_true rfl) ?_
  refine WP.ret ?_
  refine fin.slot (.inr rfl) rfl (L 0 rfl rfl) ⟨V29, rfl, ((le10.trans le19).trans le30), ?_⟩
  have ow36 := ow32.drop 1 rfl
  have ow37 := ow36.drop 1 rfl
  have e38 := Option.some.inj h27
  subst e38
  exact ⟨v28, hs34, rfl, ow37⟩

set_option maxHeartbeats 4000000 in
set_option maxRecDepth 10000 in
theorem wk_slices_Index (V : Vw) (Rs : List At) (p0 : List Torder_node) (p1 : Torder_node) (v1 : Value) (f2 : Fz RT_Torder_node V v1 p0) (ow : Ow V (Rs)) (r : Int) (h : slices_Index p0 p1 = some r) : ∃ v V', Cl Try.prog 0 42 #[v1, .agg #[.int .i64 p1.e.t, .int .i64 p1.e.act.kind, .int .i64 p1.e.act.at_, .int .i64 p1.e.act.val, .int .i64 p1.e.act.what, .bool p1.e.act.volatile, .bool p1.e.act.final, .int .i64 p1.e.rf, .int .i64 p1.e.id, .int .i64 p1.at_]] V.H v V'.H ∧ V.le V' ∧ (v = .int .i64 r ∧ Ow V' (Rs)) := by
  refine Ct.of (Nat.zero_le _) Try.func42 rfl (Nat.le_of_ble_eq_true rfl) ?_
  unfold slices_Index at h
  refine WP.usreg rfl ?_
  refine O.box ow rfl rfl (.inl rfl) rfl (L 1 rfl rfl) (by simp [topV]) rfl nd (fun b3 V4 le5 ow6 => ?_)
  refine U.p rfl rfl (.inl rfl) (S.assign rfl K) ?_
  refine U.done (Nat.le_of_ble_eq_true rfl) ?_
  refine WP.seq ?_
  refine WP.usreg rfl ?_
  refine U.p rfl rfl (.inl rfl) (S.move rfl (L 2 rfl rfl)) ?_
  refine U.p rfl rfl (.inl rfl) (f2.1.len rfl (L 0 rfl rfl) Try.underlying38) ?_
  refine U.p rfl rfl (.inl rfl) (S.move rfl K) ?_
  refine U.done (Nat.le_of_ble_eq_true rfl) ?_
  refine WP.blk ?_
  unfold slices_Index_l1 at h
  obtain ⟨n10, hn9⟩ := loopO_some.1 h
  refine WP.loopI2 (fun n l V' => ∃ (x8 : Int), l = [(0, v1), (3, .pointer (some ⟨b3, 0, none⟩)), (7, .int .i64 (p0.length : Int)), (8, .int .i64 x8)] ∧ V4.le V' ∧ Ow V' (.pt b3 (.cells 0 [.int .i64 p1.e.t, .int .i64 p1.e.act.kind, .int .i64 p1.e.act.at_, .int .i64 p1.e.act.val, .int .i64 p1.e.act.what, .bool p1.e.act.volatile, .bool p1.e.act.final, .int .i64 p1.e.rf, .int .i64 p1.e.id, .int .i64 p1.at_]) :: Rs) ∧ itO (fun s => slices_Index_l1b p0 p1 s) n x8 = some r) n10 _ ⟨0, rfl, .refl _, ow6, hn9⟩ (allCons (L 5 rfl rfl) (allCons (L 4 rfl rfl) (allCons (L 1 rfl rfl) (allCons (L 0 rfl rfl) allNil)))) ?_
  rintro _ _ V11 ⟨x8, rfl, le12, ow13, h17⟩
  obtain ⟨m14, q15, rfl, h18, e16⟩ := itS h17
  replace h18 : slices_Index_l1b p0 p1 x8 = some q15 := h18
  unfold slices_Index_l1b at h18
  refine WP.usreg rfl ?_
  refine U.p rfl rfl (.inl rfl) (S.lss rfl (L 3 rfl rfl) (L 2 rfl rfl)) ?_
  refine U.done (Nat.le_of_ble_eq_true rfl) ?_
  refine WP.seq ?_
  refine WP.cond _ (L 0 rfl rfl) rfl (fun c19 => ?_) (fun c19 => ?_)
  · have h20 := ifT c19 h18
    refine WP.skip ?_
    refine sqN ?_
    refine WP.seq ?_
    refine WP.blk ?_
    refine WP.usreg rfl ?_
    refine U.p rfl rfl (.inl rfl) (S.move rfl (L 4 rfl rfl)) ?_
    refine U.p rfl rfl (.inl rfl) (S.assign rfl (L 0 rfl rfl)) ?_
    refine U.done (Nat.le_of_ble_eq_true rfl) ?_
    refine WP.usdreg rfl rfl rfl ?_
    refine U.k rfl rfl (.inl rfl) (S.loadB rfl (L 4 rfl rfl) Try.underlying45 rfl ti45 (ow13.own (k := 0) rfl).get rfl) (fun _ => (okH.nil (fun r h => by cases h; exact (ow13.own (k := 0) rfl).lt))) ?_
    refine U.p rfl rfl (.inl rfl) (S.move rfl (L 4 rfl rfl)) ?_
    refine U.p rfl rfl (.inl rfl) (S.move rfl (L 2 rfl rfl)) ?_
    obtain ⟨x21, hx22, h23⟩ := bindS h20
    obtain ⟨b24, o25, c26, cs27, hv28, hf29, hr30, hc31⟩ := f2.at hx22
    obtain rfl : cs27 = [.int .i64 x21.e.t, .int .i64 x21.e.act.kind, .int .i64 x21.e.act.at_, .int .i64 x21.e.act.val, .int .i64 x21.e.act.what, .bool x21.e.act.volatile, .bool x21.e.act.final, .int .i64 x21.e.rf, .int .i64 x21.e.id, .int .i64 x21.at_] := hr30
    refine U.p rfl rfl (.inl rfl) (S.index rfl ((L 1 rfl rfl).trans hv28) (L 0 rfl rfl) Try.underlying38 ti45 (ix_ge hx22) (ix_lt hx22)) ?_
    refine U.k rfl rfl (.inl rfl) (S.loadN (cs := [.int .i64 x21.e.t, .int .i64 x21.e.act.kind, .int .i64 x21.e.act.at_, .int .i64 x21.e.act.val, .int .i64 x21.e.act.what, .bool x21.e.act.volatile, .bool x21.e.act.final, .int .i64 x21.e.rf, .int .i64 x21.e.id, .int .i64 x21.at_]) rfl (L 0 rfl rfl) Try.underlying45 rfl ti45 rfl (fun j v hj => (le5.trans le12).cell hf29 (hc31 j v hj))) (fun _ => (okH.cons trivial (okH.nil (fun r h => by cases h; exact (V11.wf _ ((le5.trans le12).sub _ hf29)))))) ?_
    refine U.p rfl rfl (.inl rfl) (S.eqlT (flA (flC (.int _ _) (flC (.int _ _) (flC (.int _ _) (flC (.int _ _) (flC (.int _ _) (flC (.bool _) (flC (.bool _) (flC (.int _ _) (flC (.int _ _) (flC (.int _ _) flN))))))))))) (flA (flC (.int _ _) (flC (.int _ _) (flC (.int _ _) (flC (.int _ _) (flC (.int _ _) (flC (.bool _) (flC (.bool _) (flC (.int _ _) (flC (.int _ _) (flC (.int _ _) flN))))))))))) rfl (L 4 rfl rfl) (L 0 rfl rfl) Try.underlying45 (by kernel_rfl) (by kernel_rfl) (.cons _ _ _ _ _ _ (by decide) (part_agg Try.underlying31 rfl ti31) (part_agg Try.underlying31 rfl ti31) (eqIn_struct Try.underlying31 (by kernel_rfl) (.cons _ _ _ _ _ _ (by decide) (part_cell Try.underlying3 rfl rfl) (part_cell Try.underlying3 rfl rfl) (eqIn_int Try.underlying3 9997) (.cons _ _ _ _ _ _ (by decide) (part_agg Try.underlying29 rfl ti29) (part_agg Try.underlying29 rfl ti29) (eqIn_struct Try.underlying29 (by kernel_rfl) (.cons _ _ _ _ _ _ (by decide) (part_cell Try.underlying3 rfl rfl) (part_cell Try.underlying3 rfl rfl) (eqIn_int Try.underlying3 9996) (.cons _ _ _ _ _ _ (by decide) (part_cell Try.underlying3 rfl rfl) (part_cell Try.underlying3 rfl rfl) (eqIn_int Try.underlying3 9996) (.cons _ _ _ _ _ _ (by decide) (part_cell Try.underlying3 rfl rfl) (part_cell Try.underlying3 rfl rfl) (eqIn_int Try.underlying3 9996) (.cons _ _ _ _ _ _ (by decide) (part_cell Try.underlying3 rfl rfl) (part_cell Try.underlying3 rfl rfl) (eqIn_int Try.underlying3 9996) (.cons _ _ _ _ _ _ (by decide) (part_cell Try.underlying4 rfl rfl) (part_cell Try.underlying4 rfl rfl) (eqIn_b Try.underlying4 9996) (.cons _ _ _ _ _ _ (by decide) (part_cell Try.underlying4 rfl rfl) (part_cell Try.underlying4 rfl rfl) (eqIn_b Try.underlying4 9996) .nil))))))) (.cons _ _ _ _ _ _ (by decide) (part_cell Try.underlying3 rfl rfl) (part_cell Try.underlying3 rfl rfl) (eqIn_int Try.underlying3 9997) (.cons _ _ _ _ _ _ (by decide) (part_cell Try.underlying3 rfl rfl) (part_cell Try.underlying3 rfl rfl) (eqIn_int Try.underlying3 9997) .nil))))) (.cons _ _ _ _ _ _ (by decide) (part_cell Try.underlying3 rfl rfl) (part_cell Try.underlying3 rfl rfl) (eqIn_int Try.underlying3 9998) .nil))) ?_
    refine U.done (Nat.le_of_ble_eq_true rfl) ?_
    refine WP.cond _ (L 0 rfl rfl) rfl (fun c32 => ?_) (fun c32 => ?_)
    · have h33 := ifT c32 h23
      refine WP.usreg rfl ?_
      refine U.p rfl rfl (.inl rfl) (S.move rfl (L 6 rfl rfl)) ?_
      refine U.p rfl rfl (.inl rfl) (S.assign rfl (L 0 rfl rfl)) ?_
      refine U.done (Nat.le_of_ble_eq_true rfl) ?_
      refine WP.ret ?_
      refine blkR (sqR (sqR (blkR (sqR ?_))))
      have h34 := exitS h33 e16
      refine fin.slot (.inr rfl) rfl (L 0 rfl rfl) ⟨V11, rfl, (le5.trans le12), ?_⟩
      have ow35 := ow13.drop 0 rfl
      have e36 := Option.some.inj h34
      subst e36
      exact ⟨rfl, ow35⟩
    · have h37 := ifF c32 h23
      refine WP.skip ?_
      refine blkN (sqN ?_)
      refine WP.ureg rfl ?_
      refine U.p rfl rfl (.inl rfl) (S.add rfl (L 12 rfl rfl) K) ?_
      refine U.p rfl rfl (.inl rfl) (S.move rfl (L 0 rfl rfl)) ?_
      refine U.done (Nat.le_of_ble_eq_true rfl) ?_
      refine sqN ?_
      exact ⟨_, V11, rfl, ⟨m14, Nat.lt_succ_self _, w64 (x8 + 1), rfl, le12, ow13, backS h37 e16⟩, (allCons (L 11 rfl rfl) (allCons (L 12 rfl rfl) (allCons (L 13 rfl rfl) (allCons (L 0 rfl rfl) allNil))))⟩
  · have h38 := ifF c19 h18
    refine WP.exit ?_
    refine sqE (sqE (blkE (sqN ?_)))
    have h39 := exitS h38 e16
    refine WP.usreg rfl ?_
    refine U.p rfl rfl (.inl rfl) (S.assign rfl K) ?_
    refine U.done (Nat.le_of_ble_eq_true rfl) ?_
    refine WP.ret ?_
    refine fin.slot (.inr rfl) rfl (L 0 rfl rfl) ⟨V11, rfl, (le5.trans le12), ?_⟩
    have ow40 := ow13.drop 0 rfl
    have e41 := Option.some.inj h39
    subst e41
    exact ⟨rfl, ow40⟩

set_option maxHeartbeats 4000000 in
set_option maxRecDepth 10000 in
theorem wk_order_Run_Consistent_c1 (V : Vw) (Rs : List At) (p0 : Torder_node) (p1 : Torder_node) (p2 : List (List Bool)) (p3 : List Torder_node) (p4 : Int) (b1 : Nat) (z2 : Nat) (b4 : Nat) (z5 : Nat) (v7 : Value) (hs8 : List Value) (b10 : Nat) (z11 : Nat) (v13 : Value) (b15 : Nat) (z16 : Nat) (f14 : Fz RT_Torder_node V v13 p3) (ow : Ow V (.pt b1 (.cells z2 [.int .i64 p1.e.t, .int .i64 p1.e.act.kind, .int .i64 p1.e.act.at_, .int .i64 p1.e.act.val, .int .i64 p1.e.act.what, .bool p1.e.act.volatile, .bool p1.e.act.final, .int .i64 p1.e.rf, .int .i64 p1.e.id, .int .i64 p1.at_]) :: .pt b4 (.cells z5 [v7]) :: .oss (RO.os RT.bool) v7 hs8 p2 :: .pt b10 (.cells z11 [v13]) :: .pt b15 (.cells z16 [.int .i64 p4]) :: Rs)) (r : Bool) (h : order_Run_Consistent_c1 p0 p1 p2 p3 p4 = some r) : ∃ v V', Cl Try.prog 0 41 #[.agg #[.int .i64 p0.e.t, .int .i64 p0.e.act.kind, .int .i64 p0.e.act.at_, .int .i64 p0.e.act.val, .int .i64 p0.e.act.what, .bool p0.e.act.volatile, .bool p0.e.act.final, .int .i64 p0.e.rf, .int .i64 p0.e.id, .int .i64 p0.at_], .pointer (some ⟨b1, 0, none⟩), .pointer (some ⟨b4, 0, none⟩), .pointer (some ⟨b10, 0, none⟩), .pointer (some ⟨b15, 0, none⟩)] V.H v V'.H ∧ V.le V' ∧ (v = .bool r ∧ Ow V' (.pt b1 (.cells z2 [.int .i64 p1.e.t, .int .i64 p1.e.act.kind, .int .i64 p1.e.act.at_, .int .i64 p1.e.act.val, .int .i64 p1.e.act.what, .bool p1.e.act.volatile, .bool p1.e.act.final, .int .i64 p1.e.rf, .int .i64 p1.e.id, .int .i64 p1.at_]) :: .pt b4 (.cells z5 [v7]) :: .oss (RO.os RT.bool) v7 hs8 p2 :: .pt b10 (.cells z11 [v13]) :: .pt b15 (.cells z16 [.int .i64 p4]) :: Rs)) := by
  refine Ct.of (Nat.zero_le _) Try.func41 rfl (Nat.le_of_ble_eq_true rfl) ?_
  unfold order_Run_Consistent_c1 at h
  refine WP.usreg rfl ?_
  refine O.box ow rfl rfl (.inl rfl) rfl (L 0 rfl rfl) (by simp [topV]) rfl nd (fun b18 V19 le20 ow21 => ?_)
  refine U.p rfl rfl (.inl rfl) (S.assign rfl K) ?_
  refine U.done (Nat.le_of_ble_eq_true rfl) ?_
  refine WP.seqI (fun l V' => ∃ (x23 : Bool), l = [(6, .bool x23)] ∧ V19.le V' ∧ Ow V' (.pt b1 (.cells z2 [.int .i64 p1.e.t, .int .i64 p1.e.act.kind, .int .i64 p1.e.act.at_, .int .i64 p1.e.act.val, .int .i64 p1.e.act.what, .bool p1.e.act.volatile, .bool p1.e.act.final, .int .i64 p1.e.rf, .int .i64 p1.e.id, .int .i64 p1.at_]) :: .pt b4 (.cells z5 [v7]) :: .oss (RO.os RT.bool) v7 hs8 p2 :: .pt b10 (.cells z11 [v13]) :: .pt b15 (.cells z16 [.int .i64 p4]) :: Rs) ∧ order_Run_Consistent_c1_k1 x23 = some r) ?_ ?_
  · rintro _ V24 ⟨x23, rfl, le25, ow26, h27⟩
    unfold order_Run_Consistent_c1_k1 at h27
    refine WP.ret ?_
    refine fin.slot (.inr rfl) rfl (L 0 rfl rfl) ⟨V24, rfl, (le20.trans le25), ?_⟩
    have e28 := Option.some.inj h27
    subst e28
    exact ⟨rfl, ow26⟩
  · skip
    refine WP.udreg rfl rfl rfl ?_
    refine U.k rfl rfl (.inl rfl) (S.loadB rfl (L 1 rfl rfl) Try.underlying45 rfl ti45 (ow21.own (k := 0) rfl).get rfl) (fun _ => (okH.nil (fun r h => by cases h; exact (ow21.own (k := 0) rfl).lt))) ?_
    refine U.k rfl rfl (.inl rfl) (S.loadB rfl (L 4 rfl rfl) Try.underlying45 rfl ti45 (ow21.own (k := 1) rfl).get rfl) (fun _ => (okH.cons trivial (okH.nil (fun r h => by cases h; exact (ow21.own (k := 1) rfl).lt)))) ?_
    obtain ⟨x29, hx30, h31⟩ := bindS h
    refine O.call (V := V19) rfl rfl (.inl rfl) rfl en28 (aC (L 1 rfl rfl) (aC (L 0 rfl rfl) aN)) (wk_order_rf V19 _ p0 p1 ow21 _ hx30) (fun v32 V33 le34 hp35 => by obtain ⟨rfl, ow36⟩ := hp35; exact (fun _ => (okH.cons (Or.inl rfl) (okH.cons (Or.inl rfl) (okH.nil (fun r h => nomatch h)))))) (fun v32 V33 le34 hp35 => ?_)
    obtain ⟨rfl, ow36⟩ := hp35
    refine U.p rfl rfl (.inl rfl) (S.move rfl (L 0 rfl rfl)) ?_
    refine bcase (b := x29) (fun g37 => ?_) (fun g37 => ?_)
    · have h38 := ifT g37 h31
      refine U.k rfl rfl (.inr ⟨_, _, _, rfl, rfl, ((L 0 rfl rfl).trans (congrArg Value.bool g37))⟩) (S.load rfl (L 8 rfl rfl) Try.underlying42 rfl ((ow36.own (k := 2) rfl).cell rfl)) (fun _ => (okH.cons (Or.inl rfl) (okH.cons trivial (okH.cons trivial (okH.nil (fun r h => by cases h; exact (ow36.own (k := 2) rfl).lt)))))) ?_
      refine U.k rfl rfl (.inr ⟨_, _, _, rfl, rfl, ((L 1 rfl rfl).trans (congrArg Value.bool g37))⟩) (S.load rfl (L 10 rfl rfl) Try.underlying38 rfl ((ow36.own (k := 4) rfl).cell rfl)) (fun _ => (okH.cons trivial (okH.cons (Or.inl rfl) (okH.cons trivial (okH.cons trivial (okH.nil (fun r h => by cases h; exact (ow36.own (k := 4) rfl).lt))))))) ?_
      refine U.k rfl rfl (.inr ⟨_, _, _, rfl, rfl, ((L 2 rfl rfl).trans (congrArg Value.bool g37))⟩) (S.loadB rfl (L 7 rfl rfl) Try.underlying45 rfl ti45 (ow36.own (k := 0) rfl).get rfl) (fun _ => (okH.cons trivial (okH.cons trivial (okH.cons (Or.inl rfl) (okH.cons trivial (okH.cons trivial (okH.nil (fun r h => by cases h; exact (ow36.own (k := 0) rfl).lt)))))))) ?_
      have f39 := f14.up (le20.trans le34)
      obtain ⟨x40, hx41, h42⟩ := bindS h38
      refine O.call (V := V33) rfl rfl (.inr ⟨_, _, _, rfl, rfl, ((L 3 rfl rfl).trans (congrArg Value.bool g37))⟩) rfl en42 (aC (L 1 rfl rfl) (aC (L 0 rfl rfl) aN)) (wk_slices_Index V33 _ p3 p0 v13 f39 ow36 _ hx41) (fun v43 V44 le45 hp46 => by obtain ⟨rfl, ow47⟩ := hp46; exact (fun _ => (okH.cons (Or.inl rfl) (okH.cons (Or.inl rfl) (okH.cons (Or.inr (((ow47.own (k := 2) rfl).get.trans (ow36.own (k := 2) rfl).get.symm))) (okH.cons rfl (okH.cons (Or.inl rfl) (okH.cons (Or.inl rfl) (okH.nil (fun r h => nomatch h)))))))))) (fun v43 V44 le45 hp46 => ?_)
      obtain ⟨rfl, ow47⟩ := hp46
      obtain ⟨x48, hx49, h50⟩ := bindS h42
      obtain ⟨b51, o52, n53, c54, hv55⟩ := ow47.sspt (k := 3) rfl hx49
      refine U.p rfl rfl (.inr ⟨_, _, _, rfl, rfl, ((L 4 rfl rfl).trans (congrArg Value.bool g37))⟩) (S.index rfl ((L 3 rfl rfl).trans (ow47.sslen' (k := 3) rfl hv55)) (L 0 rfl rfl) Try.underlying42 ti53 (ix_ge hx49) (ix_lt hx49)) ?_
      obtain ⟨h56, hh57, ow58⟩ := ow47.ssopen (k := 3) rfl hx49
      have hcl60 := ow58.shcell (k := 4) rfl hv55 hh57
      refine U.k rfl rfl (.inr ⟨_, _, _, rfl, rfl, ((L 5 rfl rfl).trans (congrArg Value.bool g37))⟩) (S.load rfl (L 0 rfl rfl) Try.underlying53 rfl hcl60.2) (fun _ => (okH.cons (Or.inl rfl) (okH.cons trivial (okH.cons trivial (okH.cons trivial (okH.cons (Or.inl rfl) (okH.cons trivial (okH.cons trivial (okH.nil (fun r h => by cases h; exact hcl60.1)))))))))) ?_
      refine U.k rfl rfl (.inr ⟨_, _, _, rfl, rfl, ((L 6 rfl rfl).trans (congrArg Value.bool g37))⟩) (S.load rfl (L 16 rfl rfl) Try.underlying3 rfl ((ow58.own (k := 6) rfl).cell rfl)) (fun _ => (okH.cons trivial (okH.cons (Or.inr ((ow47.own (k := 5) rfl).get.trans (ow36.own (k := 5) rfl).get.symm)) (okH.cons trivial (okH.cons trivial (okH.cons trivial (okH.cons (Or.inl rfl) (okH.cons trivial (okH.cons trivial (okH.nil (fun r h => by cases h; exact (ow58.own (k := 6) rfl).lt))))))))))) ?_
      obtain ⟨x61, hx62, h63⟩ := bindS h50
      obtain ⟨b64, o65, n66, c67, hv68⟩ := ow58.ospt (k := 0) rfl hx62
      obtain ⟨_, hv69, _⟩ := ow58.osel (k := 0) rfl hv68 hx62
      refine U.p rfl rfl (.inr ⟨_, _, _, rfl, rfl, ((L 7 rfl rfl).trans (congrArg Value.bool g37))⟩) (S.index rfl ((L 1 rfl rfl).trans hv69) (L 0 rfl rfl) Try.underlying53 ti4 (ix_ge hx62) (ix_lt hx62)) ?_
      obtain ⟨cs70, hv71, hlt72, hr73, hc74⟩ := ow58.osel (k := 0) rfl hv68 hx62
      obtain rfl : cs70 = [.bool x61] := hr73
      refine U.k rfl rfl (.inr ⟨_, _, _, rfl, rfl, ((L 8 rfl rfl).trans (congrArg Value.bool g37))⟩) (S.load rfl (L 0 rfl rfl) Try.underlying4 rfl (hc74 0 _ rfl)) (fun _ => (okH.cons trivial (okH.cons trivial (okH.cons (Or.inl rfl) (okH.cons trivial (okH.cons trivial (okH.cons trivial (okH.cons (Or.inl rfl) (okH.cons trivial (okH.cons trivial (okH.nil (fun r h => by cases h; exact hlt72)))))))))))) ?_
      refine U.p rfl rfl (.inl rfl) (S.pickT rfl ((L 9 rfl rfl).trans (congrArg Value.bool g37)) (L 0 rfl rfl)) ?_
      refine U.p rfl rfl (.inl rfl) (S.assign rfl (L 0 rfl rfl)) ?_
      refine U.done (Nat.le_of_ble_eq_true rfl) ?_
      refine sqN ?_
      have ow75 := ow58.ssclose' (k := 4) (j := 0) rfl rfl (by decide) hh57 hx49
      have ow76 := ow75.drop 0 rfl
      exact ⟨_, V44, rfl, ⟨x61, rfl, (le34.trans le45), ow76, h63⟩, (allCons (L 0 rfl rfl) allNil)⟩
    · have h77 := ifF g37 h31
      refine U.x rfl rfl rfl rfl ((L 0 rfl rfl).trans (congrArg Value.bool g37)) (by decide) ?_
      refine U.x rfl rfl rfl rfl ((L 1 rfl rfl).trans (congrArg Value.bool g37)) (by decide) ?_
      refine U.x rfl rfl rfl rfl ((L 2 rfl rfl).trans (congrArg Value.bool g37)) (by decide) ?_
      refine U.x rfl rfl rfl rfl ((L 3 rfl rfl).trans (congrArg Value.bool g37)) (by decide) ?_
      refine U.x rfl rfl rfl rfl ((L 4 rfl rfl).trans (congrArg Value.bool g37)) (by decide) ?_
      refine U.x rfl rfl rfl rfl ((L 5 rfl rfl).trans (congrArg Value.bool g37)) (by decide) ?_
      refine U.x rfl rfl rfl rfl ((L 6 rfl rfl).trans (congrArg Value.bool g37)) (by decide) ?_
      refine U.x rfl rfl rfl rfl ((L 7 rfl rfl).trans (congrArg Value.bool g37)) (by decide) ?_
      refine U.x rfl rfl rfl rfl ((L 8 rfl rfl).trans (congrArg Value.bool g37)) (by decide) ?_
      refine U.p rfl rfl (.inl rfl) (S.pickF rfl ((L 9 rfl rfl).trans (congrArg Value.bool g37)) K) ?_
      refine U.p rfl rfl (.inl rfl) (S.assign rfl (L 0 rfl rfl)) ?_
      refine U.done (Nat.le_of_ble_eq_true rfl) ?_
      refine sqN ?_
      have ow78 := ow36.drop 0 rfl
      exact ⟨_, V33, rfl, ⟨false, rfl, le34, ow78, h77⟩, (allCons (L 0 rfl rfl) allNil)⟩

set_option maxHeartbeats 4000000 in
set_option maxRecDepth 10000 in
theorem wk_slices_IndexFunc_2 (V : Vw) (Rs : List At) (p0 : List Torder_node) (p1_10 : Torder_node) (p1_11 : List (List Bool)) (p1_12 : List Torder_node) (p1_13 : Int) (v1 : Value) (b3 : Nat) (z4 : Nat) (b6 : Nat) (z7 : Nat) (v9 : Value) (hs10 : List Value) (b12 : Nat) (z13 : Nat) (v15 : Value) (b17 : Nat) (z18 : Nat) (f2 : Fz RT_Torder_node V v1 p0) (f16 : Fz RT_Torder_node V v15 p1_12) (ow : Ow V (.pt b3 (.cells z4 [.int .i64 p1_10.e.t, .int .i64 p1_10.e.act.kind, .int .i64 p1_10.e.act.at_, .int .i64 p1_10.e.act.val, .int .i64 p1_10.e.act.what, .bool p1_10.e.act.volatile, .bool p1_10.e.act.final, .int .i64 p1_10.e.rf, .int .i64 p1_10.e.id, .int .i64 p1_10.at_]) :: .pt b6 (.cells z7 [v9]) :: .oss (RO.os RT.bool) v9 hs10 p1_11 :: .pt b12 (.cells z13 [v15]) :: .pt b17 (.cells z18 [.int .i64 p1_13]) :: Rs)) (r : Int) (h : slices_IndexFunc_2 p0 p1_10 p1_11 p1_12 p1_13 = some r) : ∃ v V', Cl Try.prog 0 56 #[v1, .func (.func 41) #[] #[.pointer (some ⟨b3, 0, none⟩), .pointer (some ⟨b6, 0, none⟩), .pointer (some ⟨b12, 0, none⟩), .pointer (some ⟨b17, 0, none⟩)]] V.H v V'.H ∧ V.le V' ∧ (v = .int .i64 r ∧ Ow V' (.pt b3 (.cells z4 [.int .i64 p1_10.e.t, .int .i64 p1_10.e.act.kind, .int .i64 p1_10.e.act.at_, .int .i64 p1_10.e.act.val, .int .i64 p1_10.e.act.what, .bool p1_10.e.act.volatile, .bool p1_10.e.act.final, .int .i64 p1_10.e.rf, .int .i64 p1_10.e.id, .int .i64 p1_10.at_]) :: .pt b6 (.cells z7 [v9]) :: .oss (RO.os RT.bool) v9 hs10 p1_11 :: .pt b12 (.cells z13 [v15]) :: .pt b17 (.cells z18 [.int .i64 p1_13]) :: Rs)) := by
  refine Ct.of (Nat.zero_le _) Try.func56 rfl (Nat.le_of_ble_eq_true rfl) ?_
  unfold slices_IndexFunc_2 at h
  refine WP.usreg rfl ?_
  refine U.p rfl rfl (.inl rfl) (S.assign rfl K) ?_
  refine U.done (Nat.le_of_ble_eq_true rfl) ?_
  refine WP.seq ?_
  refine WP.usreg rfl ?_
  refine U.p rfl rfl (.inl rfl) (S.move rfl (L 1 rfl rfl)) ?_
  refine U.p rfl rfl (.inl rfl) (f2.1.len rfl (L 0 rfl rfl) Try.underlying38) ?_
  refine U.p rfl rfl (.inl rfl) (S.move rfl K) ?_
  refine U.done (Nat.le_of_ble_eq_true rfl) ?_
  refine WP.blk ?_
  unfold slices_IndexFunc_2_l1 at h
  obtain ⟨n22, hn21⟩ := loopO_some.1 h
  refine WP.loopI2 (fun n l V' => ∃ (x20 : Int), l = [(0, v1), (1, .func (.func 41) #[] #[.pointer (some ⟨b3, 0, none⟩), .pointer (some ⟨b6, 0, none⟩), .pointer (some ⟨b12, 0, none⟩), .pointer (some ⟨b17, 0, none⟩)]), (7, .int .i64 (p0.length : Int)), (8, .int .i64 x20)] ∧ V.le V' ∧ Ow V' (.pt b3 (.cells z4 [.int .i64 p1_10.e.t, .int .i64 p1_10.e.act.kind, .int .i64 p1_10.e.act.at_, .int .i64 p1_10.e.act.val, .int .i64 p1_10.e.act.what, .bool p1_10.e.act.volatile, .bool p1_10.e.act.final, .int .i64 p1_10.e.rf, .int .i64 p1_10.e.id, .int .i64 p1_10.at_]) :: .pt b6 (.cells z7 [v9]) :: .oss (RO.os RT.bool) v9 hs10 p1_11 :: .pt b12 (.cells z13 [v15]) :: .pt b17 (.cells z18 [.int .i64 p1_13]) :: Rs) ∧ itO (fun s => slices_IndexFunc_2_l1b p0 p1_10 p1_11 p1_12 p1_13 s) n x20 = some r) n22 _ ⟨0, rfl, .refl _, ow, hn21⟩ (allCons (L 4 rfl rfl) (allCons (L 5 rfl rfl) (allCons (L 1 rfl rfl) (allCons (L 0 rfl rfl) allNil)))) ?_
  rintro _ _ V23 ⟨x20, rfl, le24, ow25, h29⟩
  obtain ⟨m26, q27, rfl, h30, e28⟩ := itS h29
  replace h30 : slices_IndexFunc_2_l1b p0 p1_10 p1_11 p1_12 p1_13 x20 = some q27 := h30
  unfold slices_IndexFunc_2_l1b at h30
  refine WP.usreg rfl ?_
  refine U.p rfl rfl (.inl rfl) (S.lss rfl (L 3 rfl rfl) (L 2 rfl rfl)) ?_
  refine U.done (Nat.le_of_ble_eq_true rfl) ?_
  refine WP.seq ?_
  refine WP.cond _ (L 0 rfl rfl) rfl (fun c31 => ?_) (fun c31 => ?_)
  · have h32 := ifT c31 h30
    refine WP.skip ?_
    refine sqN ?_
    refine WP.seq ?_
    refine WP.blk ?_
    refine WP.usreg rfl ?_
    refine U.p rfl rfl (.inl rfl) (S.move rfl (L 4 rfl rfl)) ?_
    refine U.p rfl rfl (.inl rfl) (S.assign rfl (L 0 rfl rfl)) ?_
    refine U.done (Nat.le_of_ble_eq_true rfl) ?_
    refine WP.usreg rfl ?_
    refine U.p rfl rfl (.inl rfl) (S.move rfl (L 4 rfl rfl)) ?_
    refine U.p rfl rfl (.inl rfl) (S.move rfl (L 4 rfl rfl)) ?_
    refine U.p rfl rfl (.inl rfl) (S.move rfl (L 2 rfl rfl)) ?_
    obtain ⟨x33, hx34, h35⟩ := bindS h32
    obtain ⟨b36, o37, c38, cs39, hv40, hf41, hr42, hc43⟩ := f2.at hx34
    obtain rfl : cs39 = [.int .i64 x33.e.t, .int .i64 x33.e.act.kind, .int .i64 x33.e.act.at_, .int .i64 x33.e.act.val, .int .i64 x33.e.act.what, .bool x33.e.act.volatile, .bool x33.e.act.final, .int .i64 x33.e.rf, .int .i64 x33.e.id, .int .i64 x33.at_] := hr42
    refine U.p rfl rfl (.inl rfl) (S.index rfl ((L 1 rfl rfl).trans hv40) (L 0 rfl rfl) Try.underlying38 ti45 (ix_ge hx34) (ix_lt hx34)) ?_
    refine U.k rfl rfl (.inl rfl) (S.loadN (cs := [.int .i64 x33.e.t, .int .i64 x33.e.act.kind, .int .i64 x33.e.act.at_, .int .i64 x33.e.act.val, .int .i64 x33.e.act.what, .bool x33.e.act.volatile, .bool x33.e.act.final, .int .i64 x33.e.rf, .int .i64 x33.e.id, .int .i64 x33.at_]) rfl (L 0 rfl rfl) Try.underlying45 rfl ti45 rfl (fun j v hj => le24.cell hf41 (hc43 j v hj))) nd ?_
    have f44 := f16.up le24
    have ow45 := ow25.pick 4 rfl
    have ow46 := ow45.pick 4 rfl
    have ow47 := ow46.pick 4 rfl
    have ow48 := ow47.pick 4 rfl
    have ow49 := ow48.pick 4 rfl
    obtain ⟨x50, hx51, h52⟩ := bindS h35
    refine O.callv (V := V23) rfl rfl (.inl rfl) rfl (L 4 rfl rfl) en41 (aC (L 0 rfl rfl) aN) (wk_order_Run_Consistent_c1 V23 _ x33 p1_10 p1_11 p1_12 p1_13 b3 z4 b6 z7 v9 hs10 b12 z13 v15 b17 z18 f44 ow49 _ hx51) (fun _ _ _ _ => nd) (fun v53 V54 le55 hp56 => ?_)
    obtain ⟨rfl, ow57⟩ := hp56
    refine U.done (Nat.le_of_ble_eq_true rfl) ?_
    refine WP.cond _ (L 0 rfl rfl) rfl (fun c58 => ?_) (fun c58 => ?_)
    · have h59 := ifT c58 h52
      refine WP.usreg rfl ?_
      refine U.p rfl rfl (.inl rfl) (S.move rfl (L 6 rfl rfl)) ?_
      refine U.p rfl rfl (.inl rfl) (S.assign rfl (L 0 rfl rfl)) ?_
      refine U.done (Nat.le_of_ble_eq_true rfl) ?_
      refine WP.ret ?_
      refine blkR (sqR (sqR (blkR (sqR ?_))))
      have h60 := exitS h59 e28
      refine fin.slot (.inr rfl) rfl (L 0 rfl rfl) ⟨V54, rfl, (le24.trans le55), ?_⟩
      have e61 := Option.some.inj h60
      subst e61
      exact ⟨rfl, ow57⟩
    · have h62 := ifF c58 h52
      refine WP.skip ?_
      refine blkN (sqN ?_)
      refine WP.ureg rfl ?_
      refine U.p rfl rfl (.inl rfl) (S.add rfl (L 12 rfl rfl) K) ?_
      refine U.p rfl rfl (.inl rfl) (S.move rfl (L 0 rfl rfl)) ?_
      refine U.done (Nat.le_of_ble_eq_true rfl) ?_
      refine sqN ?_
      exact ⟨_, V54, rfl, ⟨m26, Nat.lt_succ_self _, w64 (x20 + 1), rfl, (le24.trans le55), ow57, backS h62 e28⟩, (allCons (L 11 rfl rfl) (allCons (L 12 rfl rfl) (allCons (L 13 rfl rfl) (allCons (L 0 rfl rfl) allNil))))⟩
  · have h63 := ifF c31 h30
    refine WP.exit ?_
    refine sqE (sqE (blkE (sqN ?_)))
    have h64 := exitS h63 e28
    refine WP.usreg rfl ?_
    refine U.p rfl rfl (.inl rfl) (S.assign rfl K) ?_
    refine U.done (Nat.le_of_ble_eq_true rfl) ?_
    refine WP.ret ?_
    refine fin.slot (.inr rfl) rfl (L 0 rfl rfl) ⟨V23, rfl, le24, ?_⟩
    have e65 := Option.some.inj h64
    subst e65
    exact ⟨rfl, ow25⟩

set_option maxHeartbeats 4000000 in
set_option maxRecDepth 10000 in
theorem wk_slices_ContainsFunc_2 (V : Vw) (Rs : List At) (p0 : List Torder_node) (p1_10 : Torder_node) (p1_11 : List (List Bool)) (p1_12 : List Torder_node) (p1_13 : Int) (v1 : Value) (b3 : Nat) (z4 : Nat) (b6 : Nat) (z7 : Nat) (v9 : Value) (hs10 : List Value) (b12 : Nat) (z13 : Nat) (v15 : Value) (b17 : Nat) (z18 : Nat) (f2 : Fz RT_Torder_node V v1 p0) (f16 : Fz RT_Torder_node V v15 p1_12) (ow : Ow V (.pt b3 (.cells z4 [.int .i64 p1_10.e.t, .int .i64 p1_10.e.act.kind, .int .i64 p1_10.e.act.at_, .int .i64 p1_10.e.act.val, .int .i64 p1_10.e.act.what, .bool p1_10.e.act.volatile, .bool p1_10.e.act.final, .int .i64 p1_10.e.rf, .int .i64 p1_10.e.id, .int .i64 p1_10.at_]) :: .pt b6 (.cells z7 [v9]) :: .oss (RO.os RT.bool) v9 hs10 p1_11 :: .pt b12 (.cells z13 [v15]) :: .pt b17 (.cells z18 [.int .i64 p1_13]) :: Rs)) (r : Bool) (h : slices_ContainsFunc_2 p0 p1_10 p1_11 p1_12 p1_13 = some r) : ∃ v V', Cl Try.prog 0 40 #[v1, .func (.func 41) #[] #[.pointer (some ⟨b3, 0, none⟩), .pointer (some ⟨b6, 0, none⟩), .pointer (some ⟨b12, 0, none⟩), .pointer (some ⟨b17, 0, none⟩)]] V.H v V'.H ∧ V.le V' ∧ (v = .bool r ∧ Ow V' (.pt b3 (.cells z4 [.int .i64 p1_10.e.t, .int .i64 p1_10.e.act.kind, .int .i64 p1_10.e.act.at_, .int .i64 p1_10.e.act.val, .int .i64 p1_10.e.act.what, .bool p1_10.e.act.volatile, .bool p1_10.e.act.final, .int .i64 p1_10.e.rf, .int .i64 p1_10.e.id, .int .i64 p1_10.at_]) :: .pt b6 (.cells z7 [v9]) :: .oss (RO.os RT.bool) v9 hs10 p1_11 :: .pt b12 (.cells z13 [v15]) :: .pt b17 (.cells z18 [.int .i64 p1_13]) :: Rs)) := by
  refine Ct.of (Nat.zero_le _) Try.func40 rfl (Nat.le_of_ble_eq_true rfl) ?_
  unfold slices_ContainsFunc_2 at h
  refine WP.usreg rfl ?_
  refine U.p rfl rfl (.inl rfl) (S.assign rfl K) ?_
  refine U.done (Nat.le_of_ble_eq_true rfl) ?_
  refine WP.usreg rfl ?_
  refine U.p rfl rfl (.inl rfl) (S.move rfl (L 1 rfl rfl)) ?_
  refine U.p rfl rfl (.inl rfl) (S.move rfl (L 3 rfl rfl)) ?_
  have ow20 := ow.pick 4 rfl
  have ow21 := ow20.pick 4 rfl
  have ow22 := ow21.pick 4 rfl
  have ow23 := ow22.pick 4 rfl
  have ow24 := ow23.pick 4 rfl
  obtain ⟨x25, hx26, h27⟩ := bindS h
  refine O.call (V := V) rfl rfl (.inl rfl) rfl en56 (aC (L 1 rfl rfl) (aC (L 0 rfl rfl) aN)) (wk_slices_IndexFunc_2 V _ p0 p1_10 p1_11 p1_12 p1_13 v1 b3 z4 b6 z7 v9 hs10 b12 z13 v15 b17 z18 f2 f16 ow24 _ hx26) (fun _ _ _ _ => nd) (fun v28 V29 le30 hp31 => ?_)
  obtain ⟨rfl, ow32⟩ := hp31
  refine U.p rfl rfl (.inl rfl) (S.geq rfl (L 0 rfl rfl) K) ?_
  refine U.p rfl rfl (.inl rfl) (S.assign rfl (L 0 rfl rfl)) ?_
  refine U.done (Nat.le_of_ble_eq_true rfl) ?_
  refine WP.ret ?_
  refine fin.slot (.inr rfl) rfl (L 0 rfl rfl) ⟨V29, rfl, le30, ?_⟩
  have e33 := Option.some.inj h27
  subst e33
  exact ⟨rfl, ow32⟩

set_option maxHeartbeats 4000000 in
set_option maxRecDepth 10000 in
theorem wk_order_Run_Consistent (V : Vw) (Rs : List At) (p0 : List (List TEvent)) (v1 : Value) (f2 : Fz (RT.sl RT_TEvent) V v1 p0) (ow : Ow V (Rs)) (r : Bool) (h : order_Run_Consistent p0 = some r) : ∃ v V', Cl Try.prog 0 15 #[v1] V.H v V'.H ∧ V.le V' ∧ (v = .bool r ∧ Ow V' (Rs)) := by
  refine Ct.of (Nat.zero_le _) Try.func15 rfl (Nat.le_of_ble_eq_true rfl) ?_
  unfold order_Run_Consistent at h
  refine WP.usreg rfl ?_
  refine U.p rfl rfl (.inl rfl) (S.assign rfl K) ?_
  refine U.done (Nat.le_of_ble_eq_true rfl) ?_
  refine WP.usreg rfl ?_
  refine U.p rfl rfl (.inl rfl) (S.move rfl (L 1 rfl rfl)) ?_
  obtain ⟨x3, hx4, h5⟩ := bindS h
  refine O.call (V := V) rfl rfl (.inl rfl) rfl en23 (aC (L 0 rfl rfl) (aC Fu aN)) (wk_order_Run_nodes_2 V _ p0 v1 f2 ow _ hx4) (fun _ _ _ _ => nd) (fun v6 V7 le8 hp9 => ?_)
  obtain ⟨_, rfl, ow10⟩ := hp9
  refine O.alloc ow10 rfl rfl (.inl rfl) rfl ti38 rfl rfl nd (fun b13 V14 le15 ow16 => ?_)
  refine O.store (k := 0) (cs := [v6]) (c' := [v6]) ow16 rfl rfl rfl (.inl rfl) rfl (L 0 rfl rfl) (L 1 rfl rfl) ti38 (ow16.osne (k := 1) rfl) (by rw [ow16.oscells (k := 1) rfl]) rfl (Nat.le_of_ble_eq_true rfl) (by have q0 := (ow16.osone (k := 1) rfl); simp only [List.all_cons, List.all_nil, q0]; rfl) rfl nd (fun V18 le19 ow20 => ?_)
  refine U.done (Nat.le_of_ble_eq_true rfl) ?_
  refine WP.usreg rfl ?_
  refine U.p rfl rfl (.inl rfl) (S.move rfl (L 4 rfl rfl)) ?_
  refine U.k rfl rfl (.inl rfl) (S.load rfl (L 1 rfl rfl) Try.underlying38 rfl ((ow20.own (k := 0) rfl).cell rfl)) nd ?_
  obtain ⟨V21, eV25, le22, f23, ow24⟩ := ow20.osfz (k := 1) rfl
  rw [← eV25]
  have f27 := f2.up (((le8.trans le15).trans le19).trans le22)
  obtain ⟨x28, hx29, h30⟩ := bindS h5
  refine O.call (V := V21) rfl rfl (.inl rfl) rfl en37 (aC (L 1 rfl rfl) (aC (L 0 rfl rfl) aN)) (wk_order_Run_happens_2 V21 _ p0 x3 v1 v6 f27 f23 ow24 _ hx29) (fun _ _ _ _ => nd) (fun v31 V32 le33 hp34 => ?_)
  obtain ⟨_, hs37, rfl, ow35⟩ := hp34
  refine O.alloc ow35 rfl rfl (.inl rfl) rfl ti42 rfl rfl nd (fun b39 V40 le41 ow42 => ?_)
  refine O.store (k := 0) (cs := [v31]) (c' := [v31]) ow42 rfl rfl rfl (.inl rfl) rfl (L 0 rfl rfl) (L 1 rfl rfl) ti42 (ow42.ssne (k := 1) rfl) (by rw [ow42.sscells (k := 1) rfl]) rfl (Nat.le_of_ble_eq_true rfl) (by have q0 := (ow42.ssone (k := 1) rfl); simp only [List.all_cons, List.all_nil, q0]; rfl) rfl nd (fun V44 le45 ow46 => ?_)
  refine U.done (Nat.le_of_ble_eq_true rfl) ?_
  refine WP.seq ?_
  refine WP.usreg rfl ?_
  refine U.k rfl rfl (.inl rfl) (S.load rfl (L 4 rfl rfl) Try.underlying38 rfl ((ow46.own (k := 2) rfl).cell rfl)) nd ?_
  refine U.p rfl rfl (.inl rfl) (f23.1.len rfl (L 0 rfl rfl) Try.underlying38) ?_
  refine U.p rfl rfl (.inl rfl) (S.move rfl K) ?_
  refine U.done (Nat.le_of_ble_eq_true rfl) ?_
  refine WP.blk ?_
  have ow48 := ow46.pick 1 rfl
  have ow49 := ow48.pick 1 rfl
  have ow50 := ow49.pick 2 rfl
  unfold order_Run_Consistent_l1 at h30
  obtain ⟨n52, hn51⟩ := loopO_some.1 h30
  refine WP.loopI2 (fun n l V' => ∃ (x47 : Int), l = [(3, .pointer (some ⟨b13, 0, none⟩)), (4, .pointer (some ⟨b39, 0, none⟩)), (14, v6), (15, .int .i64 (x3.length : Int)), (16, .int .i64 x47)] ∧ V44.le V' ∧ Ow V' (.pt b13 (.cells 1 [v6]) :: .pt b39 (.cells 1 [v31]) :: .oss (RO.os RT.bool) v31 hs37 x28 :: Rs) ∧ itO (fun s => order_Run_Consistent_l1b x3 x28 s) n x47 = some r) n52 _ ⟨0, rfl, .refl _, ow50, hn51⟩ (allCons (L 7 rfl rfl) (allCons (L 3 rfl rfl) (allCons (L 2 rfl rfl) (allCons (L 1 rfl rfl) (allCons (L 0 rfl rfl) allNil))))) ?_
  rintro _ _ V53 ⟨x47, rfl, le54, ow55, h59⟩
  obtain ⟨m56, q57, rfl, h60, e58⟩ := itS h59
  replace h60 : order_Run_Consistent_l1b x3 x28 x47 = some q57 := h60
  unfold order_Run_Consistent_l1b at h60
  refine WP.usreg rfl ?_
  refine U.p rfl rfl (.inl rfl) (S.lss rfl (L 4 rfl rfl) (L 3 rfl rfl)) ?_
  refine U.done (Nat.le_of_ble_eq_true rfl) ?_
  refine WP.seq ?_
  refine WP.cond _ (L 0 rfl rfl) rfl (fun c61 => ?_) (fun c61 => ?_)
  · have h62 := ifT c61 h60
    refine WP.skip ?_
    refine sqN ?_
    refine WP.seqI (fun l V' => l = [(3, .pointer (some ⟨b13, 0, none⟩)), (4, .pointer (some ⟨b39, 0, none⟩)), (14, v6), (15, .int .i64 (x3.length : Int)), (16, .int .i64 x47)] ∧ V53.le V' ∧ Ow V' (.pt b13 (.cells 1 [v6]) :: .pt b39 (.cells 1 [v31]) :: .oss (RO.os RT.bool) v31 hs37 x28 :: Rs) ∧ order_Run_Consistent_k1 x47  = some q57) ?_ ?_
    · rintro _ V63 ⟨rfl, le64, ow65, h66⟩
      unfold order_Run_Consistent_k1 at h66
      refine WP.ureg rfl ?_
      refine U.p rfl rfl (.inl rfl) (S.add rfl (L 4 rfl rfl) K) ?_
      refine U.p rfl rfl (.inl rfl) (S.move rfl (L 0 rfl rfl)) ?_
      refine U.done (Nat.le_of_ble_eq_true rfl) ?_
      refine sqN ?_
      exact ⟨_, V63, rfl, ⟨m56, Nat.lt_succ_self _, w64 (x47 + 1), rfl, (le54.trans le64), ow65, backS h66 e58⟩, (allCons (L 2 rfl rfl) (allCons (L 3 rfl rfl) (allCons (L 4 rfl rfl) (allCons (L 5 rfl rfl) (allCons (L 0 rfl rfl) allNil)))))⟩
    · skip
      refine WP.blk ?_
      refine WP.usreg rfl ?_
      refine U.p rfl rfl (.inl rfl) (S.move rfl (L 5 rfl rfl)) ?_
      obtain ⟨x67, hx68, h69⟩ := bindS h62
      obtain ⟨b70, o71, c72, cs73, hv74, hf75, hr76, hc77⟩ := f23.at hx68
      obtain rfl : cs73 = [.int .i64 x67.e.t, .int .i64 x67.e.act.kind, .int .i64 x67.e.act.at_, .int .i64 x67.e.act.val, .int .i64 x67.e.act.what, .bool x67.e.act.volatile, .bool x67.e.act.final, .int .i64 x67.e.rf, .int .i64 x67.e.id, .int .i64 x67.at_] := hr76
      refine U.p rfl rfl (.inl rfl) (S.index rfl ((L 4 rfl rfl).trans hv74) (L 6 rfl rfl) Try.underlying38 ti45 (ix_ge hx68) (ix_lt hx68)) ?_
      refine U.k rfl rfl (.inl rfl) (S.loadN (cs := [.int .i64 x67.e.t, .int .i64 x67.e.act.kind, .int .i64 x67.e.act.at_, .int .i64 x67.e.act.val, .int .i64 x67.e.act.what, .bool x67.e.act.volatile, .bool x67.e.act.final, .int .i64 x67.e.rf, .int .i64 x67.e.id, .int .i64 x67.at_]) rfl (L 0 rfl rfl) Try.underlying45 rfl ti45 rfl (fun j v hj => (((le33.trans le41).trans le45).trans le54).cell hf75 (hc77 j v hj))) nd ?_
      refine O.alloc ow55 rfl rfl (.inl rfl) rfl ti45 rfl rfl nd (fun b78 V79 le80 ow81 => ?_)
      refine U.p rfl rfl (.inl rfl) (S.assign rfl (L 3 rfl rfl)) ?_
      refine O.store (k := 0) (cs := [.int .i64 x67.e.t, .int .i64 x67.e.act.kind, .int .i64 x67.e.act.at_, .int .i64 x67.e.act.val, .int .i64 x67.e.act.what, .bool x67.e.act.volatile, .bool x67.e.act.final, .int .i64 x67.e.rf, .int .i64 x67.e.id, .int .i64 x67.at_]) (c' := [.int .i64 x67.e.t, .int .i64 x67.e.act.kind, .int .i64 x67.e.act.at_, .int .i64 x67.e.act.val, .int .i64 x67.e.act.what, .bool x67.e.act.volatile, .bool x67.e.act.final, .int .i64 x67.e.rf, .int .i64 x67.e.id, .int .i64 x67.at_]) ow81 rfl rfl rfl (.inl rfl) rfl (L 1 rfl rfl) (L 2 rfl rfl) ti45 (by simp [topV]) rfl rfl (Nat.le_of_ble_eq_true rfl) rfl rfl nd (fun V83 le84 ow85 => ?_)
      refine U.done (Nat.le_of_ble_eq_true rfl) ?_
      refine WP.seq ?_
      refine WP.usreg rfl ?_
      refine U.p (v := .pointer (some ⟨b78, 0, none⟩)) rfl rfl (.inl rfl) (S.fieldAddr rfl (L 1 rfl rfl) Try.underlying45 rfl ti31 rfl rfl) ?_
      refine U.p (v := .pointer (some ⟨b78, 1, none⟩)) rfl rfl (.inl rfl) (S.fieldAddr rfl (L 0 rfl rfl) Try.underlying31 rfl ti29 rfl rfl) ?_
      refine U.k rfl rfl (.inl rfl) (S.loadN (cs := [.int .i64 x67.e.act.kind, .int .i64 x67.e.act.at_, .int .i64 x67.e.act.val, .int .i64 x67.e.act.what, .bool x67.e.act.volatile, .bool x67.e.act.final]) rfl (L 0 rfl rfl) Try.underlying29 rfl ti29 rfl (cellsOfOwn (ow85.own (k := 0) rfl) 1 rfl)) nd ?_
      obtain ⟨x86, hx87, h88⟩ := bindS h69
      refine O.call (V := V83) rfl rfl (.inl rfl) rfl en38 (aC (L 0 rfl rfl) aN) (wk_order_reads V83 _ x67.e.act ow85 _ hx87) (fun _ _ _ _ => nd) (fun v89 V90 le91 hp92 => ?_)
      obtain ⟨rfl, ow93⟩ := hp92
      refine U.p rfl rfl (.inl rfl) (S.not rfl (L 0 rfl rfl)) ?_
      refine U.done (Nat.le_of_ble_eq_true rfl) ?_
      refine WP.cond _ (L 0 rfl rfl) rfl (fun c94 => ?_) (fun c94 => ?_)
      · have h95 := ifT c94 h88
        have k96 : x86 = false := by simpa using c94
        refine WP.exit ?_
        refine sqE (blkE (sqN ?_))
        have ow97 := ow93.drop 0 rfl
        exact ⟨_, V90, rfl, ⟨rfl, ((le80.trans le84).trans le91), ow97, h95⟩, (allCons (L 11 rfl rfl) (allCons (L 12 rfl rfl) (allCons (L 13 rfl rfl) (allCons (L 14 rfl rfl) (allCons (L 15 rfl rfl) allNil)))))⟩
      · have h98 := ifF c94 h88
        have k99 : x86 = true := by simpa using c94
        refine WP.skip ?_
        refine sqN ?_
        refine WP.usreg rfl ?_
        refine U.k rfl rfl (.inl rfl) (S.load rfl (L 11 rfl rfl) Try.underlying38 rfl ((ow93.own (k := 1) rfl).cell rfl)) nd ?_
        refine U.p rfl rfl (.inl rfl) (f23.1.len rfl (L 0 rfl rfl) Try.underlying38) ?_
        refine U.p rfl rfl (.inl rfl) (S.move rfl K) ?_
        refine U.done (Nat.le_of_ble_eq_true rfl) ?_
        refine WP.blk ?_
        have ow101 := ow93.pick 0 rfl
        have ow102 := ow101.pick 3 rfl
        have ow103 := ow102.pick 3 rfl
        have ow104 := ow103.pick 3 rfl
        unfold order_Run_Consistent_l2 at h98
        obtain ⟨n106, hn105⟩ := loopO_some.1 h98
        refine WP.loopI2 (fun n l V' => ∃ (x100 : Int), l = [(3, .pointer (some ⟨b13, 0, none⟩)), (4, .pointer (some ⟨b39, 0, none⟩)), (5, .int .i64 x47), (6, .pointer (some ⟨b78, 0, none⟩)), (14, v6), (15, .int .i64 (x3.length : Int)), (16, .int .i64 x47), (26, v6), (27, .int .i64 (x3.length : Int)), (28, .int .i64 x100)] ∧ V90.le V' ∧ Ow V' (.pt b13 (.cells 1 [v6]) :: .pt b39 (.cells 1 [v31]) :: .oss (RO.os RT.bool) v31 hs37 x28 :: .pt b78 (.cells 10 [.int .i64 x67.e.t, .int .i64 x67.e.act.kind, .int .i64 x67.e.act.at_, .int .i64 x67.e.act.val, .int .i64 x67.e.act.what, .bool x67.e.act.volatile, .bool x67.e.act.final, .int .i64 x67.e.rf, .int .i64 x67.e.id, .int .i64 x67.at_]) :: Rs) ∧ itO (fun s => order_Run_Consistent_l2b x3 x28 x47 x67 s) n x100 = some q57) n106 _ ⟨0, rfl, .refl _, ow104, hn105⟩ (allCons (L 14 rfl rfl) (allCons (L 15 rfl rfl) (allCons (L 8 rfl rfl) (allCons (L 9 rfl rfl) (allCons (L 16 rfl rfl) (allCons (L 17 rfl rfl) (allCons (L 18 rfl rfl) (allCons (L 2 rfl rfl) (allCons (L 1 rfl rfl) (allCons (L 0 rfl rfl) allNil)))))))))) ?_
        rintro _ _ V107 ⟨x100, rfl, le108, ow109, h113⟩
        obtain ⟨m110, q111, rfl, h114, e112⟩ := itS h113
        replace h114 : order_Run_Consistent_l2b x3 x28 x47 x67 x100 = some q111 := h114
        unfold order_Run_Consistent_l2b at h114
        refine WP.usreg rfl ?_
        refine U.p rfl rfl (.inl rfl) (S.lss rfl (L 9 rfl rfl) (L 8 rfl rfl)) ?_
        refine U.done (Nat.le_of_ble_eq_true rfl) ?_
        refine WP.seq ?_
        refine WP.cond _ (L 0 rfl rfl) rfl (fun c115 => ?_) (fun c115 => ?_)
        · have h116 := ifT c115 h114
          refine WP.skip ?_
          refine sqN ?_
          refine WP.seqI (fun l V' => l = [(3, .pointer (some ⟨b13, 0, none⟩)), (4, .pointer (some ⟨b39, 0, none⟩)), (5, .int .i64 x47), (6, .pointer (some ⟨b78, 0, none⟩)), (14, v6), (15, .int .i64 (x3.length : Int)), (16, .int .i64 x47), (26, v6), (27, .int .i64 (x3.length : Int)), (28, .int .i64 x100)] ∧ V107.le V' ∧ Ow V' (.pt b13 (.cells 1 [v6]) :: .pt b39 (.cells 1 [v31]) :: .oss (RO.os RT.bool) v31 hs37 x28 :: .pt b78 (.cells 10 [.int .i64 x67.e.t, .int .i64 x67.e.act.kind, .int .i64 x67.e.act.at_, .int .i64 x67.e.act.val, .int .i64 x67.e.act.what, .bool x67.e.act.volatile, .bool x67.e.act.final, .int .i64 x67.e.rf, .int .i64 x67.e.id, .int .i64 x67.at_]) :: Rs) ∧ order_Run_Consistent_k2 x100  = some q111) ?_ ?_
          · rintro _ V117 ⟨rfl, le118, ow119, h120⟩
            unfold order_Run_Consistent_k2 at h120
            refine WP.ureg rfl ?_
            refine U.p rfl rfl (.inl rfl) (S.add rfl (L 9 rfl rfl) K) ?_
            refine U.p rfl rfl (.inl rfl) (S.move rfl (L 0 rfl rfl)) ?_
            refine U.done (Nat.le_of_ble_eq_true rfl) ?_
            refine sqN ?_
            exact ⟨_, V117, rfl, ⟨m110, Nat.lt_succ_self _, w64 (x100 + 1), rfl, (le108.trans le118), ow119, backS h120 e112⟩, (allCons (L 2 rfl rfl) (allCons (L 3 rfl rfl) (allCons (L 4 rfl rfl) (allCons (L 5 rfl rfl) (allCons (L 6 rfl rfl) (allCons (L 7 rfl rfl) (allCons (L 8 rfl rfl) (allCons (L 9 rfl rfl) (allCons (L 10 rfl rfl) (allCons (L 0 rfl rfl) allNil))))))))))⟩
          · skip
            refine WP.blk ?_
            refine WP.usreg rfl ?_
            refine U.p rfl rfl (.inl rfl) (S.move rfl (L 10 rfl rfl)) ?_
            obtain ⟨x121, hx122, h123⟩ := bindS h116
            obtain ⟨b124, o125, c126, cs127, hv128, hf129, hr130, hc131⟩ := f23.at hx122
            obtain rfl : cs127 = [.int .i64 x121.e.t, .int .i64 x121.e.act.kind, .int .i64 x121.e.act.at_, .int .i64 x121.e.act.val, .int .i64 x121.e.act.what, .bool x121.e.act.volatile, .bool x121.e.act.final, .int .i64 x121.e.rf, .int .i64 x121.e.id, .int .i64 x121.at_] := hr130
            refine U.p rfl rfl (.inl rfl) (S.index rfl ((L 9 rfl rfl).trans hv128) (L 11 rfl rfl) Try.underlying38 ti45 (ix_ge hx122) (ix_lt hx122)) ?_
            refine U.k rfl rfl (.inl rfl) (S.loadN (cs := [.int .i64 x121.e.t, .int .i64 x121.e.act.kind, .int .i64 x121.e.act.at_, .int .i64 x121.e.act.val, .int .i64 x121.e.act.what, .bool x121.e.act.volatile, .bool x121.e.act.final, .int .i64 x121.e.rf, .int .i64 x121.e.id, .int .i64 x121.at_]) rfl (L 0 rfl rfl) Try.underlying45 rfl ti45 rfl (fun j v hj => (((((((le33.trans le41).trans le45).trans le54).trans le80).trans le84).trans le91).trans le108).cell hf129 (hc131 j v hj))) nd ?_
            refine O.alloc ow109 rfl rfl (.inl rfl) rfl ti3 rfl rfl nd (fun b132 V133 le134 ow135 => ?_)
            refine O.alloc ow135 rfl rfl (.inl rfl) rfl ti45 rfl rfl nd (fun b137 V138 le139 ow140 => ?_)
            refine O.store (k := 1) (cs := [.int .i64 x100]) (c' := [.int .i64 x100]) ow140 rfl rfl rfl (.inl rfl) rfl (L 1 rfl rfl) (L 4 rfl rfl) ti3 (by simp [topV]) rfl rfl (Nat.le_of_ble_eq_true rfl) rfl rfl nd (fun V142 le143 ow144 => ?_)
            refine O.store (k := 0) (cs := [.int .i64 x121.e.t, .int .i64 x121.e.act.kind, .int .i64 x121.e.act.at_, .int .i64 x121.e.act.val, .int .i64 x121.e.act.what, .bool x121.e.act.volatile, .bool x121.e.act.final, .int .i64 x121.e.rf, .int .i64 x121.e.id, .int .i64 x121.at_]) (c' := [.int .i64 x121.e.t, .int .i64 x121.e.act.kind, .int .i64 x121.e.act.at_, .int .i64 x121.e.act.val, .int .i64 x121.e.act.what, .bool x121.e.act.volatile, .bool x121.e.act.final, .int .i64 x121.e.rf, .int .i64 x121.e.id, .int .i64 x121.at_]) ow144 rfl rfl rfl (.inl rfl) rfl (L 0 rfl rfl) (L 2 rfl rfl) ti45 (by simp [topV]) rfl rfl (Nat.le_of_ble_eq_true rfl) rfl rfl nd (fun V145 le146 ow147 => ?_)
            refine U.done (Nat.le_of_ble_eq_true rfl) ?_
            refine WP.blk ?_
            refine WP.usreg rfl ?_
            refine U.p rfl rfl (.inl rfl) (S.move rfl (L 8 rfl rfl)) ?_
            refine U.k rfl rfl (.inl rfl) (S.load rfl (L 2 rfl rfl) Try.underlying3 rfl ((ow147.own (k := 1) rfl).cell rfl)) nd ?_
            refine U.p rfl rfl (.inl rfl) (S.eqlI rfl (L 1 rfl rfl) (L 0 rfl rfl)) ?_
            refine U.p rfl rfl (.inl rfl) (S.move rfl (L 0 rfl rfl)) ?_
            obtain ⟨y148, hy149, h150⟩ := bindS h123
            refine U.joinX 10 (fun e H => ∃ (u151 u152 u153 u154 u155 : Value), ∃ V' : Vw, H = V'.H ∧ V145.le V' ∧ e = [(43, .bool y148), (42, u151), (41, u152), (40, u153), (39, u154), (38, u155)] ∧ Ow V' (.pt b137 (.cells 10 [.int .i64 x121.e.t, .int .i64 x121.e.act.kind, .int .i64 x121.e.act.at_, .int .i64 x121.e.act.val, .int .i64 x121.e.act.what, .bool x121.e.act.volatile, .bool x121.e.act.final, .int .i64 x121.e.rf, .int .i64 x121.e.id, .int .i64 x121.at_]) :: .pt b132 (.cells 1 [.int .i64 x100]) :: .pt b13 (.cells 1 [v6]) :: .pt b39 (.cells 1 [v31]) :: .oss (RO.os RT.bool) v31 hs37 x28 :: .pt b78 (.cells 10 [.int .i64 x67.e.t, .int .i64 x67.e.act.kind, .int .i64 x67.e.act.at_, .int .i64 x67.e.act.val, .int .i64 x67.e.act.what, .bool x67.e.act.volatile, .bool x67.e.act.final, .int .i64 x67.e.rf, .int .i64 x67.e.id, .int .i64 x67.at_]) :: Rs)) ?_ ?_
            · rintro _ _ ⟨u151, u152, u153, u154, u155, V156, rfl, le157, rfl, ow158⟩
              refine U.p rfl rfl (.inl rfl) (S.move rfl (L 0 rfl rfl)) ?_
              refine U.joinX 21 (fun e H => ∃ (u159 u160 u161 u162 u163 u164 u165 u166 u167 : Value), H = V156.H ∧ e = [(54, .bool (y148 || (decide (x121.e.act.at_ ≠ x67.e.act.at_)))), (53, u159), (52, u160), (51, u161), (50, u162), (49, u163), (48, u164), (47, u165), (46, u166), (45, u167)]) ?_ ?_
              · rintro _ _ ⟨u159, u160, u161, u162, u163, u164, u165, u166, u167, rfl, rfl⟩
                refine U.p rfl rfl (.inl rfl) (S.assign rfl (L 0 rfl rfl)) ?_
                refine U.done (Nat.le_of_ble_eq_true rfl) ?_
                refine WP.cond _ (L 0 rfl rfl) rfl (fun c171 => ?_) (fun c171 => ?_)
                · have h172 := ifT c171 h150
                  refine WP.skip ?_
                  refine blkN (blkN (sqN ?_))
                  have ow173 := ow158.drop 0 rfl
                  have ow174 := ow173.drop 0 rfl
                  exact ⟨_, V156, rfl, ⟨rfl, ((((le134.trans le139).trans le143).trans le146).trans le157), ow174, h172⟩, (allCons (L 28 rfl rfl) (allCons (L 29 rfl rfl) (allCons (L 30 rfl rfl) (allCons (L 31 rfl rfl) (allCons (L 32 rfl rfl) (allCons (L 33 rfl rfl) (allCons (L 34 rfl rfl) (allCons (L 35 rfl rfl) (allCons (L 36 rfl rfl) (allCons (L 37 rfl rfl) allNil))))))))))⟩
                · have h175 := ifF c171 h150
                  refine WP.seqI (fun l V' => ∃ (x176 : Bool), l = [(3, .pointer (some ⟨b13, 0, none⟩)), (4, .pointer (some ⟨b39, 0, none⟩)), (5, .int .i64 x47), (6, .pointer (some ⟨b78, 0, none⟩)), (7, .pointer (some ⟨b132, 0, none⟩)), (8, .pointer (some ⟨b137, 0, none⟩)), (14, v6), (15, .int .i64 (x3.length : Int)), (16, .int .i64 x47), (26, v6), (27, .int .i64 (x3.length : Int)), (28, .int .i64 x100), (55, .bool x176)] ∧ V156.le V' ∧ Ow V' (.pt b13 (.cells 1 [v6]) :: .pt b39 (.cells 1 [v31]) :: .oss (RO.os RT.bool) v31 hs37 x28 :: .pt b78 (.cells 10 [.int .i64 x67.e.t, .int .i64 x67.e.act.kind, .int .i64 x67.e.act.at_, .int .i64 x67.e.act.val, .int .i64 x67.e.act.what, .bool x67.e.act.volatile, .bool x67.e.act.final, .int .i64 x67.e.rf, .int .i64 x67.e.id, .int .i64 x67.at_]) :: .pt b132 (.cells 1 [.int .i64 x100]) :: .pt b137 (.cells 10 [.int .i64 x121.e.t, .int .i64 x121.e.act.kind, .int .i64 x121.e.act.at_, .int .i64 x121.e.act.val, .int .i64 x121.e.act.what, .bool x121.e.act.volatile, .bool x121.e.act.final, .int .i64 x121.e.rf, .int .i64 x121.e.id, .int .i64 x121.at_]) :: Rs) ∧ order_Run_Consistent_k3 x3 x28 x47 x67 x100 x121 x176 = some q111) ?_ ?_
                  · rintro _ V177 ⟨x176, rfl, le178, ow179, h180⟩
                    unfold order_Run_Consistent_k3 at h180
                    refine WP.cond _ (L 12 rfl rfl) rfl (fun c181 => ?_) (fun c181 => ?_)
                    · have h182 := ifT c181 h180
                      refine WP.usreg rfl ?_
                      refine U.p rfl rfl (.inl rfl) (S.assign rfl K) ?_
                      refine U.done (Nat.le_of_ble_eq_true rfl) ?_
                      refine WP.ret ?_
                      refine blkR (blkR (sqR (sqR (blkR (blkR (sqR (sqR (blkR (sqR ?_)))))))))
                      have h183 := exitS h182 e112
                      have h184 := exitS h183 e58
                      refine fin.slot (.inr rfl) rfl (L 0 rfl rfl) ⟨V177, rfl, (((((((((((((((((le8.trans le15).trans le19).trans le22).trans le33).trans le41).trans le45).trans le54).trans le80).trans le84).trans le91).trans le108).trans le134).trans le139).trans le143).trans le146).trans le157).trans le178), ?_⟩
                      have ow185 := ow179.drop 0 rfl
                      have ow186 := ow185.drop 0 rfl
                      have ow187 := ow186.drop 0 rfl
                      have ow188 := ow187.drop 0 rfl
                      have ow189 := ow188.drop 0 rfl
                      have ow190 := ow189.drop 0 rfl
                      have e191 := Option.some.inj h184
                      subst e191
                      exact ⟨rfl, ow190⟩
                    · have h192 := ifF c181 h180
                      refine WP.usreg rfl ?_
                      refine U.k rfl rfl (.inl rfl) (S.load rfl (L 1 rfl rfl) Try.underlying42 rfl ((ow179.own (k := 1) rfl).cell rfl)) nd ?_
                      refine U.k rfl rfl (.inl rfl) (S.load rfl (L 5 rfl rfl) Try.underlying3 rfl ((ow179.own (k := 4) rfl).cell rfl)) nd ?_
                      obtain ⟨x193, hx194, h195⟩ := bindS h192
                      obtain ⟨b196, o197, n198, c199, hv200⟩ := ow179.sspt (k := 2) rfl hx194
                      refine U.p rfl rfl (.inl rfl) (S.index rfl ((L 1 rfl rfl).trans (ow179.sslen' (k := 2) rfl hv200)) (L 0 rfl rfl) Try.underlying42 ti53 (ix_ge hx194) (ix_lt hx194)) ?_
                      obtain ⟨h201, hh202, ow203⟩ := ow179.ssopen (k := 2) rfl hx194
                      have hcl205 := ow203.shcell (k := 3) rfl hv200 hh202
                      refine U.k rfl rfl (.inl rfl) (S.load rfl (L 0 rfl rfl) Try.underlying53 rfl hcl205.2) nd ?_
                      refine U.p rfl rfl (.inl rfl) (S.move rfl (L 6 rfl rfl)) ?_
                      obtain ⟨x206, hx207, h208⟩ := bindS h195
                      obtain ⟨b209, o210, n211, c212, hv213⟩ := ow203.ospt (k := 0) rfl hx207
                      obtain ⟨_, hv214, _⟩ := ow203.osel (k := 0) rfl hv213 hx207
                      refine U.p rfl rfl (.inl rfl) (S.index rfl ((L 1 rfl rfl).trans hv214) (L 0 rfl rfl) Try.underlying53 ti4 (ix_ge hx207) (ix_lt hx207)) ?_
                      obtain ⟨cs215, hv216, hlt217, hr218, hc219⟩ := ow203.osel (k := 0) rfl hv213 hx207
                      obtain rfl : cs215 = [.bool x206] := hr218
                      refine U.k rfl rfl (.inl rfl) (S.load rfl (L 0 rfl rfl) Try.underlying4 rfl (hc219 0 _ rfl)) nd ?_
                      refine U.p rfl rfl (.inl rfl) (S.move rfl (L 0 rfl rfl)) ?_
                      have ow220 := ow203.ssclose' (k := 3) (j := 0) rfl rfl (by decide) hh202 hx194
                      refine U.joinX 16 (fun e H => ∃ (u221 u222 u223 u224 u225 u226 u227 : Value), H = V177.H ∧ e = [(84, .bool (x206 && (decide (x67.e.rf < x121.e.id)))), (83, u221), (82, u222), (81, u223), (80, u224), (79, u225), (78, u226), (77, u227)]) ?_ ?_
                      · rintro _ _ ⟨u221, u222, u223, u224, u225, u226, u227, rfl, rfl⟩
                        refine U.p rfl rfl (.inl rfl) (S.move rfl (L 0 rfl rfl)) ?_
                        refine U.joinX 22 (fun e H => ∃ (u231 u232 u233 u234 : Value), H = V177.H ∧ e = [(90, .bool ((x206 && (decide (x67.e.rf < x121.e.id))) && (decide (x67.e.rf = 0)))), (89, u231), (88, u232), (87, u233), (86, u234)]) ?_ ?_
                        · rintro _ _ ⟨u231, u232, u233, u234, rfl, rfl⟩
                          refine U.p rfl rfl (.inl rfl) (S.assign rfl (L 0 rfl rfl)) ?_
                          refine U.done (Nat.le_of_ble_eq_true rfl) ?_
                          refine WP.cond _ (L 0 rfl rfl) rfl (fun c238 => ?_) (fun c238 => ?_)
                          · have h239 := ifT c238 h208
                            refine WP.usreg rfl ?_
                            refine U.p rfl rfl (.inl rfl) (S.assign rfl K) ?_
                            refine U.done (Nat.le_of_ble_eq_true rfl) ?_
                            refine WP.ret ?_
                            refine blkR (blkR (sqR (sqR (blkR (blkR (sqR (sqR (blkR (sqR ?_)))))))))
                            have h240 := exitS h239 e112
                            have h241 := exitS h240 e58
                            refine fin.slot (.inr rfl) rfl (L 0 rfl rfl) ⟨V177, rfl, (((((((((((((((((le8.trans le15).trans le19).trans le22).trans le33).trans le41).trans le45).trans le54).trans le80).trans le84).trans le91).trans le108).trans le134).trans le139).trans le143).trans le146).trans le157).trans le178), ?_⟩
                            have ow242 := ow220.drop 0 rfl
                            have ow243 := ow242.drop 0 rfl
                            have ow244 := ow243.drop 0 rfl
                            have ow245 := ow244.drop 0 rfl
                            have ow246 := ow245.drop 0 rfl
                            have ow247 := ow246.drop 0 rfl
                            have e248 := Option.some.inj h241
                            subst e248
                            exact ⟨rfl, ow247⟩
                          · have h249 := ifF c238 h208
                            refine WP.usreg rfl ?_
                            refine U.k rfl rfl (.inl rfl) (S.load rfl (L 24 rfl rfl) Try.underlying42 rfl ((ow220.own (k := 1) rfl).cell rfl)) nd ?_
                            refine U.k rfl rfl (.inl rfl) (S.load rfl (L 28 rfl rfl) Try.underlying3 rfl ((ow220.own (k := 4) rfl).cell rfl)) nd ?_
                            obtain ⟨x250, hx251, h252⟩ := bindS h249
                            refine U.p rfl rfl (.inl rfl) (S.index rfl ((L 1 rfl rfl).trans (ow220.sslen' (k := 2) rfl hv200)) (L 0 rfl rfl) Try.underlying42 ti53 (ix_ge hx251) (ix_lt hx251)) ?_
                            obtain ⟨h253, hh254, ow255⟩ := ow220.ssopen (k := 2) rfl hx251
                            have hcl257 := ow255.shcell (k := 3) rfl hv200 hh254
                            refine U.k rfl rfl (.inl rfl) (S.load rfl (L 0 rfl rfl) Try.underlying53 rfl hcl257.2) nd ?_
                            refine U.p rfl rfl (.inl rfl) (S.move rfl (L 29 rfl rfl)) ?_
                            obtain ⟨x258, hx259, h260⟩ := bindS h252
                            obtain ⟨b261, o262, n263, c264, hv265⟩ := ow255.ospt (k := 0) rfl hx259
                            obtain ⟨_, hv266, _⟩ := ow255.osel (k := 0) rfl hv265 hx259
                            refine U.p rfl rfl (.inl rfl) (S.index rfl ((L 1 rfl rfl).trans hv266) (L 0 rfl rfl) Try.underlying53 ti4 (ix_ge hx259) (ix_lt hx259)) ?_
                            obtain ⟨cs267, hv268, hlt269, hr270, hc271⟩ := ow255.osel (k := 0) rfl hv265 hx259
                            obtain rfl : cs267 = [.bool x258] := hr270
                            refine U.k rfl rfl (.inl rfl) (S.load rfl (L 0 rfl rfl) Try.underlying4 rfl (hc271 0 _ rfl)) nd ?_
                            refine U.p rfl rfl (.inl rfl) (S.move rfl (L 0 rfl rfl)) ?_
                            have ow272 := ow255.ssclose' (k := 3) (j := 0) rfl rfl (by decide) hh254 hx251
                            obtain ⟨y273, hy274, h275⟩ := bindS h260
                            refine U.joinX 12 (fun e H => ∃ (u276 u277 u278 : Value), ∃ V' : Vw, H = V'.H ∧ V177.le V' ∧ e = [(103, .bool y273), (102, u276), (101, u277), (100, u278)] ∧ Ow V' (.pt b13 (.cells 1 [v6]) :: .pt b39 (.cells 1 [v31]) :: .oss (RO.os RT.bool) v31 hs37 x28 :: .pt b78 (.cells 10 [.int .i64 x67.e.t, .int .i64 x67.e.act.kind, .int .i64 x67.e.act.at_, .int .i64 x67.e.act.val, .int .i64 x67.e.act.what, .bool x67.e.act.volatile, .bool x67.e.act.final, .int .i64 x67.e.rf, .int .i64 x67.e.id, .int .i64 x67.at_]) :: .pt b132 (.cells 1 [.int .i64 x100]) :: .pt b137 (.cells 10 [.int .i64 x121.e.t, .int .i64 x121.e.act.kind, .int .i64 x121.e.act.at_, .int .i64 x121.e.act.val, .int .i64 x121.e.act.what, .bool x121.e.act.volatile, .bool x121.e.act.final, .int .i64 x121.e.rf, .int .i64 x121.e.id, .int .i64 x121.at_]) :: Rs)) ?_ ?_
                            · rintro _ _ ⟨u276, u277, u278, V279, rfl, le280, rfl, ow281⟩
                              refine U.p rfl rfl (.inl rfl) (S.assign rfl (L 0 rfl rfl)) ?_
                              refine U.done (Nat.le_of_ble_eq_true rfl) ?_
                              refine WP.cond _ (L 0 rfl rfl) rfl (fun c282 => ?_) (fun c282 => ?_)
                              · have h283 := ifT c282 h275
                                refine WP.usreg rfl ?_
                                refine U.p rfl rfl (.inl rfl) (S.assign rfl K) ?_
                                refine U.done (Nat.le_of_ble_eq_true rfl) ?_
                                refine WP.ret ?_
                                refine blkR (blkR (sqR (sqR (blkR (blkR (sqR (sqR (blkR (sqR ?_)))))))))
                                have h284 := exitS h283 e112
                                have h285 := exitS h284 e58
                                refine fin.slot (.inr rfl) rfl (L 0 rfl rfl) ⟨V279, rfl, ((((((((((((((((((le8.trans le15).trans le19).trans le22).trans le33).trans le41).trans le45).trans le54).trans le80).trans le84).trans le91).trans le108).trans le134).trans le139).trans le143).trans le146).trans le157).trans le178).trans le280), ?_⟩
                                have ow286 := ow281.drop 0 rfl
                                have ow287 := ow286.drop 0 rfl
                                have ow288 := ow287.drop 0 rfl
                                have ow289 := ow288.drop 0 rfl
                                have ow290 := ow289.drop 0 rfl
                                have ow291 := ow290.drop 0 rfl
                                have e292 := Option.some.inj h285
                                subst e292
                                exact ⟨rfl, ow291⟩
                              · have h293 := ifF c282 h275
                                refine WP.skip ?_
                                refine blkN (blkN (sqN ?_))
                                have ow294 := ow281.drop 4 rfl
                                have ow295 := ow294.drop 4 rfl
                                exact ⟨_, V279, rfl, ⟨rfl, ((((((le134.trans le139).trans le143).trans le146).trans le157).trans le178).trans le280), ow295, h293⟩, (allCons (L 36 rfl rfl) (allCons (L 37 rfl rfl) (allCons (L 38 rfl rfl) (allCons (L 39 rfl rfl) (allCons (L 42 rfl rfl) (allCons (L 43 rfl rfl) (allCons (L 44 rfl rfl) (allCons (L 45 rfl rfl) (allCons (L 46 rfl rfl) (allCons (L 47 rfl rfl) allNil))))))))))⟩
                            · intro kk
                              refine bcase (b := x258) (fun g296 => ?_) (fun g296 => ?_)
                              · have h297 := ifT g296 hy274
                                refine U.k rfl rfl (.inr ⟨_, _, _, rfl, rfl, ((L 0 rfl rfl).trans (congrArg Value.bool g296))⟩) (S.load rfl (L 31 rfl rfl) Try.underlying38 rfl ((ow272.own (k := 0) rfl).cell rfl)) nd ?_
                                refine U.p (v := .func (.func 41) #[] #[.pointer (some ⟨b78, 0, none⟩), .pointer (some ⟨b39, 0, none⟩), .pointer (some ⟨b13, 0, none⟩), .pointer (some ⟨b132, 0, none⟩)]) rfl rfl (.inr ⟨_, _, _, rfl, rfl, ((L 1 rfl rfl).trans (congrArg Value.bool g296))⟩) (S.makeFunc' rfl (amN) (am4 (L 35 rfl rfl) (L 33 rfl rfl) (L 32 rfl rfl) (L 36 rfl rfl))) ?_
                                have f298 := f23.up (((((((((((((le33.trans le41).trans le45).trans le54).trans le80).trans le84).trans le91).trans le108).trans le134).trans le139).trans le143).trans le146).trans le157).trans le178)
                                have ow299 := ow272.pick 4 rfl
                                have ow300 := ow299.pick 1 rfl
                                have ow301 := ow300.pick 3 rfl
                                have ow302 := ow301.pick 3 rfl
                                have ow303 := ow302.pick 4 rfl
                                obtain ⟨x304, hx305, h306⟩ := bindS h297
                                refine O.call (V := V177) rfl rfl (.inr ⟨_, _, _, rfl, rfl, ((L 2 rfl rfl).trans (congrArg Value.bool g296))⟩) rfl en40 (aC (L 1 rfl rfl) (aC (L 0 rfl rfl) aN)) (wk_slices_ContainsFunc_2 V177 _ x3 x67 x28 x3 x100 v6 b78 10 b39 1 v31 hs37 b13 1 v6 b132 1 f298 f298 ow303 _ hx305) (fun _ _ _ _ => nd) (fun v307 V308 le309 hp310 => ?_)
                                obtain ⟨rfl, ow311⟩ := hp310
                                refine U.p rfl rfl (.inl rfl) (S.pickT rfl ((L 3 rfl rfl).trans (congrArg Value.bool g296)) (L 0 rfl rfl)) ?_
                                have e312 := Option.some.inj h306
                                subst e312
                                have ow313 := ow311.pick 5 rfl
                                have ow314 := ow313.pick 5 rfl
                                have ow315 := ow314.pick 2 rfl
                                have ow316 := ow315.pick 4 rfl
                                have ow317 := ow316.pick 4 rfl
                                have ow318 := ow317.pick 5 rfl
                                exact kk [(103, .bool x304), (102, .bool x304), (101, .func (.func 41) #[] #[.pointer (some ⟨b78, 0, none⟩), .pointer (some ⟨b39, 0, none⟩), .pointer (some ⟨b13, 0, none⟩), .pointer (some ⟨b132, 0, none⟩)]), (100, v6)] _ ⟨.bool x304, .func (.func 41) #[] #[.pointer (some ⟨b78, 0, none⟩), .pointer (some ⟨b39, 0, none⟩), .pointer (some ⟨b13, 0, none⟩), .pointer (some ⟨b132, 0, none⟩)], v6, V308, rfl, le309, rfl, ow318⟩
                              · have h319 := ifF g296 hy274
                                refine U.x rfl rfl rfl rfl ((L 0 rfl rfl).trans (congrArg Value.bool g296)) (by decide) ?_
                                refine U.x rfl rfl rfl rfl ((L 1 rfl rfl).trans (congrArg Value.bool g296)) (by decide) ?_
                                refine U.x rfl rfl rfl rfl ((L 2 rfl rfl).trans (congrArg Value.bool g296)) (by decide) ?_
                                refine U.p rfl rfl (.inl rfl) (S.pickF rfl ((L 3 rfl rfl).trans (congrArg Value.bool g296)) K) ?_
                                have e320 := Option.some.inj h319
                                subst e320
                                exact kk [(103, .bool false), (102, .tuple #[]), (101, .tuple #[]), (100, .tuple #[])] _ ⟨.tuple #[], .tuple #[], .tuple #[], V177, rfl, (.refl _), rfl, ow272⟩
                        · intro kk
                          refine bcase (b := x206 && (decide (x67.e.rf < x121.e.id))) (fun g321 => ?_) (fun g321 => ?_)
                          · skip
                            refine U.p (v := .pointer (some ⟨b78, 0, none⟩)) rfl rfl (.inr ⟨_, _, _, rfl, rfl, ((L 0 rfl rfl).trans (congrArg Value.bool g321))⟩) (S.fieldAddr rfl (L 20 rfl rfl) Try.underlying45 rfl ti31 rfl rfl) ?_
                            refine U.p (v := .pointer (some ⟨b78, 7, none⟩)) rfl rfl (.inr ⟨_, _, _, rfl, rfl, ((L 1 rfl rfl).trans (congrArg Value.bool g321))⟩) (S.fieldAddr rfl (L 0 rfl rfl) Try.underlying31 rfl ti3 rfl rfl) ?_
                            refine U.k rfl rfl (.inr ⟨_, _, _, rfl, rfl, ((L 2 rfl rfl).trans (congrArg Value.bool g321))⟩) (S.load rfl (L 0 rfl rfl) Try.underlying3 rfl ((ow220.own (k := 3) rfl).cell rfl)) nd ?_
                            refine U.p rfl rfl (.inr ⟨_, _, _, rfl, rfl, ((L 3 rfl rfl).trans (congrArg Value.bool g321))⟩) (S.eqlI rfl (L 0 rfl rfl) K) ?_
                            refine U.p rfl rfl (.inl rfl) (S.pickT rfl ((L 4 rfl rfl).trans (congrArg Value.bool g321)) (L 0 rfl rfl)) ?_
                            exact kk [(90, .bool (decide (x67.e.rf = 0))), (89, .bool (decide (x67.e.rf = 0))), (88, .int .i64 x67.e.rf), (87, .pointer (some ⟨b78, 7, none⟩)), (86, .pointer (some ⟨b78, 0, none⟩))] _ ⟨.bool (decide (x67.e.rf = 0)), .int .i64 x67.e.rf, .pointer (some ⟨b78, 7, none⟩), .pointer (some ⟨b78, 0, none⟩), rfl, (by rw [g321, Bool.true_and])⟩
                          · skip
                            refine U.x rfl rfl rfl rfl ((L 0 rfl rfl).trans (congrArg Value.bool g321)) (by decide) ?_
                            refine U.x rfl rfl rfl rfl ((L 1 rfl rfl).trans (congrArg Value.bool g321)) (by decide) ?_
                            refine U.x rfl rfl rfl rfl ((L 2 rfl rfl).trans (congrArg Value.bool g321)) (by decide) ?_
                            refine U.x rfl rfl rfl rfl ((L 3 rfl rfl).trans (congrArg Value.bool g321)) (by decide) ?_
                            refine U.p rfl rfl (.inl rfl) (S.pickF rfl ((L 4 rfl rfl).trans (congrArg Value.bool g321)) K) ?_
                            exact kk [(90, .bool false), (89, .tuple #[]), (88, .tuple #[]), (87, .tuple #[]), (86, .tuple #[])] _ ⟨.tuple #[], .tuple #[], .tuple #[], .tuple #[], rfl, (by rw [g321, Bool.false_and])⟩
                      · intro kk
                        refine bcase (b := x206) (fun g322 => ?_) (fun g322 => ?_)
                        · skip
                          refine U.p (v := .pointer (some ⟨b137, 0, none⟩)) rfl rfl (.inr ⟨_, _, _, rfl, rfl, ((L 0 rfl rfl).trans (congrArg Value.bool g322))⟩) (S.fieldAddr rfl (L 13 rfl rfl) Try.underlying45 rfl ti31 rfl rfl) ?_
                          refine U.p (v := .pointer (some ⟨b137, 8, none⟩)) rfl rfl (.inr ⟨_, _, _, rfl, rfl, ((L 1 rfl rfl).trans (congrArg Value.bool g322))⟩) (S.fieldAddr rfl (L 0 rfl rfl) Try.underlying31 rfl ti3 rfl rfl) ?_
                          refine U.k rfl rfl (.inr ⟨_, _, _, rfl, rfl, ((L 2 rfl rfl).trans (congrArg Value.bool g322))⟩) (S.load rfl (L 0 rfl rfl) Try.underlying3 rfl ((ow220.own (k := 5) rfl).cell rfl)) nd ?_
                          refine U.p (v := .pointer (some ⟨b78, 0, none⟩)) rfl rfl (.inr ⟨_, _, _, rfl, rfl, ((L 3 rfl rfl).trans (congrArg Value.bool g322))⟩) (S.fieldAddr rfl (L 14 rfl rfl) Try.underlying45 rfl ti31 rfl rfl) ?_
                          refine U.p (v := .pointer (some ⟨b78, 7, none⟩)) rfl rfl (.inr ⟨_, _, _, rfl, rfl, ((L 4 rfl rfl).trans (congrArg Value.bool g322))⟩) (S.fieldAddr rfl (L 0 rfl rfl) Try.underlying31 rfl ti3 rfl rfl) ?_
                          refine U.k rfl rfl (.inr ⟨_, _, _, rfl, rfl, ((L 5 rfl rfl).trans (congrArg Value.bool g322))⟩) (S.load rfl (L 0 rfl rfl) Try.underlying3 rfl ((ow220.own (k := 3) rfl).cell rfl)) nd ?_
                          refine U.p rfl rfl (.inr ⟨_, _, _, rfl, rfl, ((L 6 rfl rfl).trans (congrArg Value.bool g322))⟩) (S.gtr rfl (L 3 rfl rfl) (L 0 rfl rfl)) ?_
                          refine U.p rfl rfl (.inl rfl) (S.pickT rfl ((L 7 rfl rfl).trans (congrArg Value.bool g322)) (L 0 rfl rfl)) ?_
                          exact kk [(84, .bool (decide (x67.e.rf < x121.e.id))), (83, .bool (decide (x67.e.rf < x121.e.id))), (82, .int .i64 x67.e.rf), (81, .pointer (some ⟨b78, 7, none⟩)), (80, .pointer (some ⟨b78, 0, none⟩)), (79, .int .i64 x121.e.id), (78, .pointer (some ⟨b137, 8, none⟩)), (77, .pointer (some ⟨b137, 0, none⟩))] _ ⟨.bool (decide (x67.e.rf < x121.e.id)), .int .i64 x67.e.rf, .pointer (some ⟨b78, 7, none⟩), .pointer (some ⟨b78, 0, none⟩), .int .i64 x121.e.id, .pointer (some ⟨b137, 8, none⟩), .pointer (some ⟨b137, 0, none⟩), rfl, (by rw [g322, Bool.true_and])⟩
                        · skip
                          refine U.x rfl rfl rfl rfl ((L 0 rfl rfl).trans (congrArg Value.bool g322)) (by decide) ?_
                          refine U.x rfl rfl rfl rfl ((L 1 rfl rfl).trans (congrArg Value.bool g322)) (by decide) ?_
                          refine U.x rfl rfl rfl rfl ((L 2 rfl rfl).trans (congrArg Value.bool g322)) (by decide) ?_
                          refine U.x rfl rfl rfl rfl ((L 3 rfl rfl).trans (congrArg Value.bool g322)) (by decide) ?_
                          refine U.x rfl rfl rfl rfl ((L 4 rfl rfl).trans (congrArg Value.bool g322)) (by decide) ?_
                          refine U.x rfl rfl rfl rfl ((L 5 rfl rfl).trans (congrArg Value.bool g322)) (by decide) ?_
                          refine U.x rfl rfl rfl rfl ((L 6 rfl rfl).trans (congrArg Value.bool g322)) (by decide) ?_
                          refine U.p rfl rfl (.inl rfl) (S.pickF rfl ((L 7 rfl rfl).trans (congrArg Value.bool g322)) K) ?_
                          exact kk [(84, .bool false), (83, .tuple #[]), (82, .tuple #[]), (81, .tuple #[]), (80, .tuple #[]), (79, .tuple #[]), (78, .tuple #[]), (77, .tuple #[])] _ ⟨.tuple #[], .tuple #[], .tuple #[], .tuple #[], .tuple #[], .tuple #[], .tuple #[], rfl, (by rw [g322, Bool.false_and])⟩
                  · skip
                    refine WP.udreg rfl rfl rfl ?_
                    refine U.k rfl rfl (.inl rfl) (S.loadB rfl (L 22 rfl rfl) Try.underlying45 rfl ti45 (ow158.own (k := 0) rfl).get rfl) (fun _ => (okH.nil (fun r h => by cases h; exact (ow158.own (k := 0) rfl).lt))) ?_
                    refine U.k rfl rfl (.inl rfl) (S.loadB rfl (L 32 rfl rfl) Try.underlying45 rfl ti45 (ow158.own (k := 5) rfl).get rfl) (fun _ => (okH.cons trivial (okH.nil (fun r h => by cases h; exact (ow158.own (k := 5) rfl).lt)))) ?_
                    obtain ⟨x323, hx324, h325⟩ := bindS h175
                    refine O.call (V := V156) rfl rfl (.inl rfl) rfl en28 (aC (L 1 rfl rfl) (aC (L 0 rfl rfl) aN)) (wk_order_rf V156 _ x121 x67 ow158 _ hx324) (fun v326 V327 le328 hp329 => by obtain ⟨rfl, ow330⟩ := hp329; exact (fun _ => (okH.cons (Or.inl rfl) (okH.cons (Or.inl rfl) (okH.nil (fun r h => nomatch h)))))) (fun v326 V327 le328 hp329 => ?_)
                    obtain ⟨rfl, ow330⟩ := hp329
                    refine U.p rfl rfl (.inl rfl) (S.move rfl (L 0 rfl rfl)) ?_
                    refine bcase (b := x323) (fun g331 => ?_) (fun g331 => ?_)
                    · have h332 := ifT g331 h325
                      refine U.k rfl rfl (.inr ⟨_, _, _, rfl, rfl, ((L 0 rfl rfl).trans (congrArg Value.bool g331))⟩) (S.load rfl (L 33 rfl rfl) Try.underlying42 rfl ((ow330.own (k := 3) rfl).cell rfl)) (fun _ => (okH.cons (Or.inl rfl) (okH.cons trivial (okH.cons trivial (okH.nil (fun r h => by cases h; exact (ow330.own (k := 3) rfl).lt)))))) ?_
                      refine U.p rfl rfl (.inr ⟨_, _, _, rfl, rfl, ((L 1 rfl rfl).trans (congrArg Value.bool g331))⟩) (S.move rfl (L 35 rfl rfl)) ?_
                      obtain ⟨x333, hx334, h335⟩ := bindS h332
                      obtain ⟨b336, o337, n338, c339, hv340⟩ := ow330.sspt (k := 4) rfl hx334
                      refine U.p rfl rfl (.inr ⟨_, _, _, rfl, rfl, ((L 2 rfl rfl).trans (congrArg Value.bool g331))⟩) (S.index rfl ((L 1 rfl rfl).trans (ow330.sslen' (k := 4) rfl hv340)) (L 0 rfl rfl) Try.underlying42 ti53 (ix_ge hx334) (ix_lt hx334)) ?_
                      obtain ⟨h341, hh342, ow343⟩ := ow330.ssopen (k := 4) rfl hx334
                      have hcl345 := ow343.shcell (k := 5) rfl hv340 hh342
                      refine U.k rfl rfl (.inr ⟨_, _, _, rfl, rfl, ((L 3 rfl rfl).trans (congrArg Value.bool g331))⟩) (S.load rfl (L 0 rfl rfl) Try.underlying53 rfl hcl345.2) (fun _ => (okH.cons trivial (okH.cons (Or.inl rfl) (okH.cons trivial (okH.cons trivial (okH.nil (fun r h => by cases h; exact hcl345.1))))))) ?_
                      refine U.k rfl rfl (.inr ⟨_, _, _, rfl, rfl, ((L 4 rfl rfl).trans (congrArg Value.bool g331))⟩) (S.load rfl (L 31 rfl rfl) Try.underlying3 rfl ((ow343.own (k := 2) rfl).cell rfl)) (fun _ => (okH.cons trivial (okH.cons trivial (okH.cons (Or.inl rfl) (okH.cons trivial (okH.cons trivial (okH.nil (fun r h => by cases h; exact (ow343.own (k := 2) rfl).lt)))))))) ?_
                      obtain ⟨x346, hx347, h348⟩ := bindS h335
                      obtain ⟨b349, o350, n351, c352, hv353⟩ := ow343.ospt (k := 0) rfl hx347
                      obtain ⟨_, hv354, _⟩ := ow343.osel (k := 0) rfl hv353 hx347
                      refine U.p rfl rfl (.inr ⟨_, _, _, rfl, rfl, ((L 5 rfl rfl).trans (congrArg Value.bool g331))⟩) (S.index rfl ((L 1 rfl rfl).trans hv354) (L 0 rfl rfl) Try.underlying53 ti4 (ix_ge hx347) (ix_lt hx347)) ?_
                      obtain ⟨cs355, hv356, hlt357, hr358, hc359⟩ := ow343.osel (k := 0) rfl hv353 hx347
                      obtain rfl : cs355 = [.bool x346] := hr358
                      refine U.k rfl rfl (.inr ⟨_, _, _, rfl, rfl, ((L 6 rfl rfl).trans (congrArg Value.bool g331))⟩) (S.load rfl (L 0 rfl rfl) Try.underlying4 rfl (hc359 0 _ rfl)) (fun _ => (okH.cons trivial (okH.cons trivial (okH.cons trivial (okH.cons (Or.inl rfl) (okH.cons trivial (okH.cons trivial (okH.nil (fun r h => by cases h; exact hlt357))))))))) ?_
                      refine U.p rfl rfl (.inl rfl) (S.pickT rfl ((L 7 rfl rfl).trans (congrArg Value.bool g331)) (L 0 rfl rfl)) ?_
                      refine U.p rfl rfl (.inl rfl) (S.assign rfl (L 0 rfl rfl)) ?_
                      refine U.done (Nat.le_of_ble_eq_true rfl) ?_
                      refine sqN ?_
                      have ow360 := ow343.ssclose' (k := 5) (j := 0) rfl rfl (by decide) hh342 hx334
                      have ow361 := ow360.pick 0 rfl
                      have ow362 := ow361.pick 1 rfl
                      have ow363 := ow362.pick 5 rfl
                      have ow364 := ow363.pick 5 rfl
                      have ow365 := ow364.pick 5 rfl
                      have ow366 := ow365.pick 5 rfl
                      exact ⟨_, V327, rfl, ⟨x346, rfl, le328, ow366, h348⟩, (allCons (L 41 rfl rfl) (allCons (L 42 rfl rfl) (allCons (L 43 rfl rfl) (allCons (L 44 rfl rfl) (allCons (L 36 rfl rfl) (allCons (L 35 rfl rfl) (allCons (L 45 rfl rfl) (allCons (L 46 rfl rfl) (allCons (L 47 rfl rfl) (allCons (L 48 rfl rfl) (allCons (L 49 rfl rfl) (allCons (L 50 rfl rfl) (allCons (L 0 rfl rfl) allNil)))))))))))))⟩
                    · have h367 := ifF g331 h325
                      refine U.x rfl rfl rfl rfl ((L 0 rfl rfl).trans (congrArg Value.bool g331)) (by decide) ?_
                      refine U.x rfl rfl rfl rfl ((L 1 rfl rfl).trans (congrArg Value.bool g331)) (by decide) ?_
                      refine U.x rfl rfl rfl rfl ((L 2 rfl rfl).trans (congrArg Value.bool g331)) (by decide) ?_
                      refine U.x rfl rfl rfl rfl ((L 3 rfl rfl).trans (congrArg Value.bool g331)) (by decide) ?_
                      refine U.x rfl rfl rfl rfl ((L 4 rfl rfl).trans (congrArg Value.bool g331)) (by decide) ?_
                      refine U.x rfl rfl rfl rfl ((L 5 rfl rfl).trans (congrArg Value.bool g331)) (by decide) ?_
                      refine U.x rfl rfl rfl rfl ((L 6 rfl rfl).trans (congrArg Value.bool g331)) (by decide) ?_
                      refine U.p rfl rfl (.inl rfl) (S.pickF rfl ((L 7 rfl rfl).trans (congrArg Value.bool g331)) K) ?_
                      refine U.p rfl rfl (.inl rfl) (S.assign rfl (L 0 rfl rfl)) ?_
                      refine U.done (Nat.le_of_ble_eq_true rfl) ?_
                      refine sqN ?_
                      have ow368 := ow330.pick 0 rfl
                      have ow369 := ow368.pick 1 rfl
                      have ow370 := ow369.pick 5 rfl
                      have ow371 := ow370.pick 5 rfl
                      have ow372 := ow371.pick 5 rfl
                      have ow373 := ow372.pick 5 rfl
                      exact ⟨_, V327, rfl, ⟨false, rfl, le328, ow373, h367⟩, (allCons (L 41 rfl rfl) (allCons (L 42 rfl rfl) (allCons (L 43 rfl rfl) (allCons (L 44 rfl rfl) (allCons (L 36 rfl rfl) (allCons (L 35 rfl rfl) (allCons (L 45 rfl rfl) (allCons (L 46 rfl rfl) (allCons (L 47 rfl rfl) (allCons (L 48 rfl rfl) (allCons (L 49 rfl rfl) (allCons (L 50 rfl rfl) (allCons (L 0 rfl rfl) allNil)))))))))))))⟩
              · intro kk
                refine bcase (b := y148) (fun g374 => ?_) (fun g374 => ?_)
                · skip
                  refine U.x rfl rfl rfl rfl ((L 0 rfl rfl).trans (congrArg Value.bool g374)) (by decide) ?_
                  refine U.x rfl rfl rfl rfl ((L 1 rfl rfl).trans (congrArg Value.bool g374)) (by decide) ?_
                  refine U.x rfl rfl rfl rfl ((L 2 rfl rfl).trans (congrArg Value.bool g374)) (by decide) ?_
                  refine U.x rfl rfl rfl rfl ((L 3 rfl rfl).trans (congrArg Value.bool g374)) (by decide) ?_
                  refine U.x rfl rfl rfl rfl ((L 4 rfl rfl).trans (congrArg Value.bool g374)) (by decide) ?_
                  refine U.x rfl rfl rfl rfl ((L 5 rfl rfl).trans (congrArg Value.bool g374)) (by decide) ?_
                  refine U.x rfl rfl rfl rfl ((L 6 rfl rfl).trans (congrArg Value.bool g374)) (by decide) ?_
                  refine U.x rfl rfl rfl rfl ((L 7 rfl rfl).trans (congrArg Value.bool g374)) (by decide) ?_
                  refine U.x rfl rfl rfl rfl ((L 8 rfl rfl).trans (congrArg Value.bool g374)) (by decide) ?_
                  refine U.p rfl rfl (.inl rfl) (S.pickT rfl ((L 9 rfl rfl).trans (congrArg Value.bool g374)) K) ?_
                  exact kk [(54, .bool true), (53, .tuple #[]), (52, .tuple #[]), (51, .tuple #[]), (50, .tuple #[]), (49, .tuple #[]), (48, .tuple #[]), (47, .tuple #[]), (46, .tuple #[]), (45, .tuple #[])] _ ⟨.tuple #[], .tuple #[], .tuple #[], .tuple #[], .tuple #[], .tuple #[], .tuple #[], .tuple #[], .tuple #[], rfl, (by rw [g374, Bool.true_or])⟩
                · skip
                  refine U.p (v := .pointer (some ⟨b137, 0, none⟩)) rfl rfl (.inr ⟨_, _, _, rfl, rfl, ((L 0 rfl rfl).trans (congrArg Value.bool g374))⟩) (S.fieldAddr rfl (L 11 rfl rfl) Try.underlying45 rfl ti31 rfl rfl) ?_
                  refine U.p (v := .pointer (some ⟨b137, 1, none⟩)) rfl rfl (.inr ⟨_, _, _, rfl, rfl, ((L 1 rfl rfl).trans (congrArg Value.bool g374))⟩) (S.fieldAddr rfl (L 0 rfl rfl) Try.underlying31 rfl ti29 rfl rfl) ?_
                  refine U.p (v := .pointer (some ⟨b137, 2, none⟩)) rfl rfl (.inr ⟨_, _, _, rfl, rfl, ((L 2 rfl rfl).trans (congrArg Value.bool g374))⟩) (S.fieldAddr rfl (L 0 rfl rfl) Try.underlying29 rfl ti3 rfl rfl) ?_
                  refine U.k rfl rfl (.inr ⟨_, _, _, rfl, rfl, ((L 3 rfl rfl).trans (congrArg Value.bool g374))⟩) (S.load rfl (L 0 rfl rfl) Try.underlying3 rfl ((ow158.own (k := 0) rfl).cell rfl)) nd ?_
                  refine U.p (v := .pointer (some ⟨b78, 0, none⟩)) rfl rfl (.inr ⟨_, _, _, rfl, rfl, ((L 4 rfl rfl).trans (congrArg Value.bool g374))⟩) (S.fieldAddr rfl (L 24 rfl rfl) Try.underlying45 rfl ti31 rfl rfl) ?_
                  refine U.p (v := .pointer (some ⟨b78, 1, none⟩)) rfl rfl (.inr ⟨_, _, _, rfl, rfl, ((L 5 rfl rfl).trans (congrArg Value.bool g374))⟩) (S.fieldAddr rfl (L 0 rfl rfl) Try.underlying31 rfl ti29 rfl rfl) ?_
                  refine U.p (v := .pointer (some ⟨b78, 2, none⟩)) rfl rfl (.inr ⟨_, _, _, rfl, rfl, ((L 6 rfl rfl).trans (congrArg Value.bool g374))⟩) (S.fieldAddr rfl (L 0 rfl rfl) Try.underlying29 rfl ti3 rfl rfl) ?_
                  refine U.k rfl rfl (.inr ⟨_, _, _, rfl, rfl, ((L 7 rfl rfl).trans (congrArg Value.bool g374))⟩) (S.load rfl (L 0 rfl rfl) Try.underlying3 rfl ((ow158.own (k := 5) rfl).cell rfl)) nd ?_
                  refine U.p rfl rfl (.inr ⟨_, _, _, rfl, rfl, ((L 8 rfl rfl).trans (congrArg Value.bool g374))⟩) (S.neqI rfl (L 4 rfl rfl) (L 0 rfl rfl)) ?_
                  refine U.p rfl rfl (.inl rfl) (S.pickF rfl ((L 9 rfl rfl).trans (congrArg Value.bool g374)) (L 0 rfl rfl)) ?_
                  exact kk [(54, .bool (decide (x121.e.act.at_ ≠ x67.e.act.at_))), (53, .bool (decide (x121.e.act.at_ ≠ x67.e.act.at_))), (52, .int .i64 x67.e.act.at_), (51, .pointer (some ⟨b78, 2, none⟩)), (50, .pointer (some ⟨b78, 1, none⟩)), (49, .pointer (some ⟨b78, 0, none⟩)), (48, .int .i64 x121.e.act.at_), (47, .pointer (some ⟨b137, 2, none⟩)), (46, .pointer (some ⟨b137, 1, none⟩)), (45, .pointer (some ⟨b137, 0, none⟩))] _ ⟨.bool (decide (x121.e.act.at_ ≠ x67.e.act.at_)), .int .i64 x67.e.act.at_, .pointer (some ⟨b78, 2, none⟩), .pointer (some ⟨b78, 1, none⟩), .pointer (some ⟨b78, 0, none⟩), .int .i64 x121.e.act.at_, .pointer (some ⟨b137, 2, none⟩), .pointer (some ⟨b137, 1, none⟩), .pointer (some ⟨b137, 0, none⟩), rfl, (by rw [g374, Bool.false_or])⟩
            · intro kk
              refine bcase (b := decide (x47 = x100)) (fun g375 => ?_) (fun g375 => ?_)
              · have h376 := ifT g375 hy149
                refine U.x rfl rfl rfl rfl ((L 0 rfl rfl).trans (congrArg Value.bool g375)) (by decide) ?_
                refine U.x rfl rfl rfl rfl ((L 1 rfl rfl).trans (congrArg Value.bool g375)) (by decide) ?_
                refine U.x rfl rfl rfl rfl ((L 2 rfl rfl).trans (congrArg Value.bool g375)) (by decide) ?_
                refine U.x rfl rfl rfl rfl ((L 3 rfl rfl).trans (congrArg Value.bool g375)) (by decide) ?_
                refine U.x rfl rfl rfl rfl ((L 4 rfl rfl).trans (congrArg Value.bool g375)) (by decide) ?_
                refine U.p rfl rfl (.inl rfl) (S.pickT rfl ((L 5 rfl rfl).trans (congrArg Value.bool g375)) K) ?_
                have e377 := Option.some.inj h376
                subst e377
                exact kk [(43, .bool true), (42, .tuple #[]), (41, .tuple #[]), (40, .tuple #[]), (39, .tuple #[]), (38, .tuple #[])] _ ⟨.tuple #[], .tuple #[], .tuple #[], .tuple #[], .tuple #[], V145, rfl, (.refl _), rfl, ow147⟩
              · have h378 := ifF g375 hy149
                refine U.p (v := .pointer (some ⟨b137, 0, none⟩)) rfl rfl (.inr ⟨_, _, _, rfl, rfl, ((L 0 rfl rfl).trans (congrArg Value.bool g375))⟩) (S.fieldAddr rfl (L 4 rfl rfl) Try.underlying45 rfl ti31 rfl rfl) ?_
                refine U.p (v := .pointer (some ⟨b137, 1, none⟩)) rfl rfl (.inr ⟨_, _, _, rfl, rfl, ((L 1 rfl rfl).trans (congrArg Value.bool g375))⟩) (S.fieldAddr rfl (L 0 rfl rfl) Try.underlying31 rfl ti29 rfl rfl) ?_
                refine U.k rfl rfl (.inr ⟨_, _, _, rfl, rfl, ((L 2 rfl rfl).trans (congrArg Value.bool g375))⟩) (S.loadN (cs := [.int .i64 x121.e.act.kind, .int .i64 x121.e.act.at_, .int .i64 x121.e.act.val, .int .i64 x121.e.act.what, .bool x121.e.act.volatile, .bool x121.e.act.final]) rfl (L 0 rfl rfl) Try.underlying29 rfl ti29 rfl (cellsOfOwn (ow147.own (k := 0) rfl) 1 rfl)) nd ?_
                obtain ⟨x379, hx380, h381⟩ := bindS h378
                refine O.call (V := V145) rfl rfl (.inr ⟨_, _, _, rfl, rfl, ((L 3 rfl rfl).trans (congrArg Value.bool g375))⟩) rfl en39 (aC (L 0 rfl rfl) aN) (wk_order_writes V145 _ x121.e.act ow147 _ hx380) (fun _ _ _ _ => nd) (fun v382 V383 le384 hp385 => ?_)
                obtain ⟨rfl, ow386⟩ := hp385
                refine U.p rfl rfl (.inr ⟨_, _, _, rfl, rfl, ((L 4 rfl rfl).trans (congrArg Value.bool g375))⟩) (S.not rfl (L 0 rfl rfl)) ?_
                refine U.p rfl rfl (.inl rfl) (S.pickF rfl ((L 5 rfl rfl).trans (congrArg Value.bool g375)) (L 0 rfl rfl)) ?_
                have e387 := Option.some.inj h381
                subst e387
                exact kk [(43, .bool (!x379)), (42, .bool (!x379)), (41, .bool x379), (40, .agg #[.int .i64 x121.e.act.kind, .int .i64 x121.e.act.at_, .int .i64 x121.e.act.val, .int .i64 x121.e.act.what, .bool x121.e.act.volatile, .bool x121.e.act.final]), (39, .pointer (some ⟨b137, 1, none⟩)), (38, .pointer (some ⟨b137, 0, none⟩))] _ ⟨.bool (!x379), .bool x379, .agg #[.int .i64 x121.e.act.kind, .int .i64 x121.e.act.at_, .int .i64 x121.e.act.val, .int .i64 x121.e.act.what, .bool x121.e.act.volatile, .bool x121.e.act.final], .pointer (some ⟨b137, 1, none⟩), .pointer (some ⟨b137, 0, none⟩), V383, rfl, le384, rfl, ow386⟩
        · have h388 := ifF c115 h114
          refine WP.exit ?_
          refine sqE (sqE (blkE (blkN (sqN ?_))))
          have h389 := exitS h388 e112
          have ow390 := ow109.drop 3 rfl
          exact ⟨_, V107, rfl, ⟨rfl, (((le80.trans le84).trans le91).trans le108), ow390, h389⟩, (allCons (L 1 rfl rfl) (allCons (L 2 rfl rfl) (allCons (L 5 rfl rfl) (allCons (L 6 rfl rfl) (allCons (L 7 rfl rfl) allNil)))))⟩
  · have h391 := ifF c61 h60
    refine WP.exit ?_
    refine sqE (sqE (blkE (sqN ?_)))
    have h392 := exitS h391 e58
    refine WP.usreg rfl ?_
    refine U.p rfl rfl (.inl rfl) (S.assign rfl K) ?_
    refine U.done (Nat.le_of_ble_eq_true rfl) ?_
    refine WP.ret ?_
    refine fin.slot (.inr rfl) rfl (L 0 rfl rfl) ⟨V53, rfl, (((((((le8.trans le15).trans le19).trans le22).trans le33).trans le41).trans le45).trans le54), ?_⟩
    have ow393 := ow55.drop 0 rfl
    have ow394 := ow393.drop 0 rfl
    have ow395 := ow394.drop 0 rfl
    have e396 := Option.some.inj h392
    subst e396
    exact ⟨rfl, ow395⟩

set_option maxHeartbeats 4000000 in
set_option maxRecDepth 10000 in
theorem wk_ref21_Reads (V : Vw) (Rs : List At) (p0 : Tref21_Node) (ow : Ow V (Rs)) (r : Bool) (h : ref21_Reads p0 = some r) : ∃ v V', Cl Try.prog 0 44 #[.agg #[.int .i64 p0.e.t, .int .i64 p0.e.act.kind, .int .i64 p0.e.act.at_, .int .i64 p0.e.act.val, .int .i64 p0.e.act.what, .bool p0.e.act.volatile, .bool p0.e.act.final, .int .i64 p0.e.rf, .int .i64 p0.e.id, .int .i64 p0.at_]] V.H v V'.H ∧ V.le V' ∧ (v = .bool r ∧ Ow V' (Rs)) := by
  refine Ct.of (Nat.zero_le _) Try.func44 rfl (Nat.le_of_ble_eq_true rfl) ?_
  unfold ref21_Reads at h
  refine WP.usreg rfl ?_
  refine O.box ow rfl rfl (.inl rfl) rfl (L 0 rfl rfl) (by simp [topV]) rfl nd (fun b1 V2 le3 ow4 => ?_)
  refine U.p rfl rfl (.inl rfl) (S.assign rfl K) ?_
  refine U.done (Nat.le_of_ble_eq_true rfl) ?_
  refine WP.usreg rfl ?_
  refine U.p (v := .pointer (some ⟨b1, 0, none⟩)) rfl rfl (.inl rfl) (S.fieldAddr rfl (L 1 rfl rfl) Try.underlying52 rfl ti31 rfl rfl) ?_
  refine U.p (v := .pointer (some ⟨b1, 1, none⟩)) rfl rfl (.inl rfl) (S.fieldAddr rfl (L 0 rfl rfl) Try.underlying31 rfl ti29 rfl rfl) ?_
  refine U.p (v := .pointer (some ⟨b1, 1, none⟩)) rfl rfl (.inl rfl) (S.fieldAddr rfl (L 0 rfl rfl) Try.underlying29 rfl ti3 rfl rfl) ?_
  refine U.k rfl rfl (.inl rfl) (S.load rfl (L 0 rfl rfl) Try.underlying3 rfl ((ow4.own (k := 0) rfl).cell rfl)) nd ?_
  refine U.p rfl rfl (.inl rfl) (S.eqlI rfl (L 0 rfl rfl) K) ?_
  refine U.p rfl rfl (.inl rfl) (S.move rfl (L 0 rfl rfl)) ?_
  refine U.joinX 12 (fun e H => ∃ (u6 u7 u8 u9 u10 : Value), H = V2.H ∧ e = [(14, .bool ((decide (p0.e.act.kind = 1)) || (decide (p0.e.act.kind = 5)))), (13, u6), (12, u7), (11, u8), (10, u9), (9, u10)]) ?_ ?_
  · rintro _ _ ⟨u6, u7, u8, u9, u10, rfl, rfl⟩
    refine U.p rfl rfl (.inl rfl) (S.assign rfl (L 0 rfl rfl)) ?_
    refine U.done (Nat.le_of_ble_eq_true rfl) ?_
    refine WP.ret ?_
    refine fin.slot (.inr rfl) rfl (L 0 rfl rfl) ⟨V2, rfl, le3, ?_⟩
    have ow14 := ow4.drop 0 rfl
    have e15 := Option.some.inj h
    subst e15
    exact ⟨rfl, ow14⟩
  · intro kk
    refine bcase (b := decide (p0.e.act.kind = 1)) (fun g16 => ?_) (fun g16 => ?_)
    · skip
      refine U.x rfl rfl rfl rfl ((L 0 rfl rfl).trans (congrArg Value.bool g16)) (by decide) ?_
      refine U.x rfl rfl rfl rfl ((L 1 rfl rfl).trans (congrArg Value.bool g16)) (by decide) ?_
      refine U.x rfl rfl rfl rfl ((L 2 rfl rfl).trans (congrArg Value.bool g16)) (by decide) ?_
      refine U.x rfl rfl rfl rfl ((L 3 rfl rfl).trans (congrArg Value.bool g16)) (by decide) ?_
      refine U.x rfl rfl rfl rfl ((L 4 rfl rfl).trans (congrArg Value.bool g16)) (by decide) ?_
      refine U.p rfl rfl (.inl rfl) (S.pickT rfl ((L 5 rfl rfl).trans (congrArg Value.bool g16)) K) ?_
      exact kk [(14, .bool true), (13, .tuple #[]), (12, .tuple #[]), (11, .tuple #[]), (10, .tuple #[]), (9, .tuple #[])] _ ⟨.tuple #[], .tuple #[], .tuple #[], .tuple #[], .tuple #[], rfl, (by rw [g16, Bool.true_or])⟩
    · skip
      refine U.p (v := .pointer (some ⟨b1, 0, none⟩)) rfl rfl (.inr ⟨_, _, _, rfl, rfl, ((L 0 rfl rfl).trans (congrArg Value.bool g16))⟩) (S.fieldAddr rfl (L 7 rfl rfl) Try.underlying52 rfl ti31 rfl rfl) ?_
      refine U.p (v := .pointer (some ⟨b1, 1, none⟩)) rfl rfl (.inr ⟨_, _, _, rfl, rfl, ((L 1 rfl rfl).trans (congrArg Value.bool g16))⟩) (S.fieldAddr rfl (L 0 rfl rfl) Try.underlying31 rfl ti29 rfl rfl) ?_
      refine U.p (v := .pointer (some ⟨b1, 1, none⟩)) rfl rfl (.inr ⟨_, _, _, rfl, rfl, ((L 2 rfl rfl).trans (congrArg Value.bool g16))⟩) (S.fieldAddr rfl (L 0 rfl rfl) Try.underlying29 rfl ti3 rfl rfl) ?_
      refine U.k rfl rfl (.inr ⟨_, _, _, rfl, rfl, ((L 3 rfl rfl).trans (congrArg Value.bool g16))⟩) (S.load rfl (L 0 rfl rfl) Try.underlying3 rfl ((ow4.own (k := 0) rfl).cell rfl)) nd ?_
      refine U.p rfl rfl (.inr ⟨_, _, _, rfl, rfl, ((L 4 rfl rfl).trans (congrArg Value.bool g16))⟩) (S.eqlI rfl (L 0 rfl rfl) K) ?_
      refine U.p rfl rfl (.inl rfl) (S.pickF rfl ((L 5 rfl rfl).trans (congrArg Value.bool g16)) (L 0 rfl rfl)) ?_
      exact kk [(14, .bool (decide (p0.e.act.kind = 5))), (13, .bool (decide (p0.e.act.kind = 5))), (12, .int .i64 p0.e.act.kind), (11, .pointer (some ⟨b1, 1, none⟩)), (10, .pointer (some ⟨b1, 1, none⟩)), (9, .pointer (some ⟨b1, 0, none⟩))] _ ⟨.bool (decide (p0.e.act.kind = 5)), .int .i64 p0.e.act.kind, .pointer (some ⟨b1, 1, none⟩), .pointer (some ⟨b1, 1, none⟩), .pointer (some ⟨b1, 0, none⟩), rfl, (by rw [g16, Bool.false_or])⟩

set_option maxHeartbeats 4000000 in
set_option maxRecDepth 10000 in
theorem wk_ref21_Writes (V : Vw) (Rs : List At) (p0 : Tref21_Node) (ow : Ow V (Rs)) (r : Bool) (h : ref21_Writes p0 = some r) : ∃ v V', Cl Try.prog 0 45 #[.agg #[.int .i64 p0.e.t, .int .i64 p0.e.act.kind, .int .i64 p0.e.act.at_, .int .i64 p0.e.act.val, .int .i64 p0.e.act.what, .bool p0.e.act.volatile, .bool p0.e.act.final, .int .i64 p0.e.rf, .int .i64 p0.e.id, .int .i64 p0.at_]] V.H v V'.H ∧ V.le V' ∧ (v = .bool r ∧ Ow V' (Rs)) := by
  refine Ct.of (Nat.zero_le _) Try.func45 rfl (Nat.le_of_ble_eq_true rfl) ?_
  unfold ref21_Writes at h
  refine WP.usreg rfl ?_
  refine O.box ow rfl rfl (.inl rfl) rfl (L 0 rfl rfl) (by simp [topV]) rfl nd (fun b1 V2 le3 ow4 => ?_)
  refine U.p rfl rfl (.inl rfl) (S.assign rfl K) ?_
  refine U.done (Nat.le_of_ble_eq_true rfl) ?_
  refine WP.usreg rfl ?_
  refine U.p (v := .pointer (some ⟨b1, 0, none⟩)) rfl rfl (.inl rfl) (S.fieldAddr rfl (L 1 rfl rfl) Try.underlying52 rfl ti31 rfl rfl) ?_
  refine U.p (v := .pointer (some ⟨b1, 1, none⟩)) rfl rfl (.inl rfl) (S.fieldAddr rfl (L 0 rfl rfl) Try.underlying31 rfl ti29 rfl rfl) ?_
  refine U.p (v := .pointer (some ⟨b1, 1, none⟩)) rfl rfl (.inl rfl) (S.fieldAddr rfl (L 0 rfl rfl) Try.underlying29 rfl ti3 rfl rfl) ?_
  refine U.k rfl rfl (.inl rfl) (S.load rfl (L 0 rfl rfl) Try.underlying3 rfl ((ow4.own (k := 0) rfl).cell rfl)) nd ?_
  refine U.p rfl rfl (.inl rfl) (S.eqlI rfl (L 0 rfl rfl) K) ?_
  refine U.p rfl rfl (.inl rfl) (S.move rfl (L 0 rfl rfl)) ?_
  refine U.joinX 12 (fun e H => ∃ (u6 u7 u8 u9 u10 : Value), H = V2.H ∧ e = [(14, .bool ((decide (p0.e.act.kind = 2)) || (decide (p0.e.act.kind = 5)))), (13, u6), (12, u7), (11, u8), (10, u9), (9, u10)]) ?_ ?_
  · rintro _ _ ⟨u6, u7, u8, u9, u10, rfl, rfl⟩
    refine U.p rfl rfl (.inl rfl) (S.move rfl (L 0 rfl rfl)) ?_
    refine U.joinX 19 (fun e H => ∃ (u14 u15 u16 u17 u18 : Value), H = V2.H ∧ e = [(21, .bool (((decide (p0.e.act.kind = 2)) || (decide (p0.e.act.kind = 5))) || (decide (p0.e.act.kind = 6)))), (20, u14), (19, u15), (18, u16), (17, u17), (16, u18)]) ?_ ?_
    · rintro _ _ ⟨u14, u15, u16, u17, u18, rfl, rfl⟩
      refine U.p rfl rfl (.inl rfl) (S.assign rfl (L 0 rfl rfl)) ?_
      refine U.done (Nat.le_of_ble_eq_true rfl) ?_
      refine WP.ret ?_
      refine fin.slot (.inr rfl) rfl (L 0 rfl rfl) ⟨V2, rfl, le3, ?_⟩
      have ow22 := ow4.drop 0 rfl
      have e23 := Option.some.inj h
      subst e23
      exact ⟨rfl, ow22⟩
    · intro kk
      refine bcase (b := (decide (p0.e.act.kind = 2)) || (decide (p0.e.act.kind = 5))) (fun g24 => ?_) (fun g24 => ?_)
      · skip
        refine U.x rfl rfl rfl rfl ((L 0 rfl rfl).trans (congrArg Value.bool g24)) (by decide) ?_
        refine U.x rfl rfl rfl rfl ((L 1 rfl rfl).trans (congrArg Value.bool g24)) (by decide) ?_
        refine U.x rfl rfl rfl rfl ((L 2 rfl rfl).trans (congrArg Value.bool g24)) (by decide) ?_
        refine U.x rfl rfl rfl rfl ((L 3 rfl rfl).trans (congrArg Value.bool g24)) (by decide) ?_
        refine U.x rfl rfl rfl rfl ((L 4 rfl rfl).trans (congrArg Value.bool g24)) (by decide) ?_
        refine U.p rfl rfl (.inl rfl) (S.pickT rfl ((L 5 rfl rfl).trans (congrArg Value.bool g24)) K) ?_
        exact kk [(21, .bool true), (20, .tuple #[]), (19, .tuple #[]), (18, .tuple #[]), (17, .tuple #[]), (16, .tuple #[])] _ ⟨.tuple #[], .tuple #[], .tuple #[], .tuple #[], .tuple #[], rfl, (by rw [g24, Bool.true_or])⟩
      · skip
        refine U.p (v := .pointer (some ⟨b1, 0, none⟩)) rfl rfl (.inr ⟨_, _, _, rfl, rfl, ((L 0 rfl rfl).trans (congrArg Value.bool g24))⟩) (S.fieldAddr rfl (L 14 rfl rfl) Try.underlying52 rfl ti31 rfl rfl) ?_
        refine U.p (v := .pointer (some ⟨b1, 1, none⟩)) rfl rfl (.inr ⟨_, _, _, rfl, rfl, ((L 1 rfl rfl).trans (congrArg Value.bool g24))⟩) (S.fieldAddr rfl (L 0 rfl rfl) Try.underlying31 rfl ti29 rfl rfl) ?_
        refine U.p (v := .pointer (some ⟨b1, 1, none⟩)) rfl rfl (.inr ⟨_, _, _, rfl, rfl, ((L 2 rfl rfl).trans (congrArg Value.bool g24))⟩) (S.fieldAddr rfl (L 0 rfl rfl) Try.underlying29 rfl ti3 rfl rfl) ?_
        refine U.k rfl rfl (.inr ⟨_, _, _, rfl, rfl, ((L 3 rfl rfl).trans (congrArg Value.bool g24))⟩) (S.load rfl (L 0 rfl rfl) Try.underlying3 rfl ((ow4.own (k := 0) rfl).cell rfl)) nd ?_
        refine U.p rfl rfl (.inr ⟨_, _, _, rfl, rfl, ((L 4 rfl rfl).trans (congrArg Value.bool g24))⟩) (S.eqlI rfl (L 0 rfl rfl) K) ?_
        refine U.p rfl rfl (.inl rfl) (S.pickF rfl ((L 5 rfl rfl).trans (congrArg Value.bool g24)) (L 0 rfl rfl)) ?_
        exact kk [(21, .bool (decide (p0.e.act.kind = 6))), (20, .bool (decide (p0.e.act.kind = 6))), (19, .int .i64 p0.e.act.kind), (18, .pointer (some ⟨b1, 1, none⟩)), (17, .pointer (some ⟨b1, 1, none⟩)), (16, .pointer (some ⟨b1, 0, none⟩))] _ ⟨.bool (decide (p0.e.act.kind = 6)), .int .i64 p0.e.act.kind, .pointer (some ⟨b1, 1, none⟩), .pointer (some ⟨b1, 1, none⟩), .pointer (some ⟨b1, 0, none⟩), rfl, (by rw [g24, Bool.false_or])⟩
  · intro kk
    refine bcase (b := decide (p0.e.act.kind = 2)) (fun g25 => ?_) (fun g25 => ?_)
    · skip
      refine U.x rfl rfl rfl rfl ((L 0 rfl rfl).trans (congrArg Value.bool g25)) (by decide) ?_
      refine U.x rfl rfl rfl rfl ((L 1 rfl rfl).trans (congrArg Value.bool g25)) (by decide) ?_
      refine U.x rfl rfl rfl rfl ((L 2 rfl rfl).trans (congrArg Value.bool g25)) (by decide) ?_
      refine U.x rfl rfl rfl rfl ((L 3 rfl rfl).trans (congrArg Value.bool g25)) (by decide) ?_
      refine U.x rfl rfl rfl rfl ((L 4 rfl rfl).trans (congrArg Value.bool g25)) (by decide) ?_
      refine U.p rfl rfl (.inl rfl) (S.pickT rfl ((L 5 rfl rfl).trans (congrArg Value.bool g25)) K) ?_
      exact kk [(14, .bool true), (13, .tuple #[]), (12, .tuple #[]), (11, .tuple #[]), (10, .tuple #[]), (9, .tuple #[])] _ ⟨.tuple #[], .tuple #[], .tuple #[], .tuple #[], .tuple #[], rfl, (by rw [g25, Bool.true_or])⟩
    · skip
      refine U.p (v := .pointer (some ⟨b1, 0, none⟩)) rfl rfl (.inr ⟨_, _, _, rfl, rfl, ((L 0 rfl rfl).trans (congrArg Value.bool g25))⟩) (S.fieldAddr rfl (L 7 rfl rfl) Try.underlying52 rfl ti31 rfl rfl) ?_
      refine U.p (v := .pointer (some ⟨b1, 1, none⟩)) rfl rfl (.inr ⟨_, _, _, rfl, rfl, ((L 1 rfl rfl).trans (congrArg Value.bool g25))⟩) (S.fieldAddr rfl (L 0 rfl rfl) Try.underlying31 rfl ti29 rfl rfl) ?_
      refine U.p (v := .pointer (some ⟨b1, 1, none⟩)) rfl rfl (.inr ⟨_, _, _, rfl, rfl, ((L 2 rfl rfl).trans (congrArg Value.bool g25))⟩) (S.fieldAddr rfl (L 0 rfl rfl) Try.underlying29 rfl ti3 rfl rfl) ?_
      refine U.k rfl rfl (.inr ⟨_, _, _, rfl, rfl, ((L 3 rfl rfl).trans (congrArg Value.bool g25))⟩) (S.load rfl (L 0 rfl rfl) Try.underlying3 rfl ((ow4.own (k := 0) rfl).cell rfl)) nd ?_
      refine U.p rfl rfl (.inr ⟨_, _, _, rfl, rfl, ((L 4 rfl rfl).trans (congrArg Value.bool g25))⟩) (S.eqlI rfl (L 0 rfl rfl) K) ?_
      refine U.p rfl rfl (.inl rfl) (S.pickF rfl ((L 5 rfl rfl).trans (congrArg Value.bool g25)) (L 0 rfl rfl)) ?_
      exact kk [(14, .bool (decide (p0.e.act.kind = 5))), (13, .bool (decide (p0.e.act.kind = 5))), (12, .int .i64 p0.e.act.kind), (11, .pointer (some ⟨b1, 1, none⟩)), (10, .pointer (some ⟨b1, 1, none⟩)), (9, .pointer (some ⟨b1, 0, none⟩))] _ ⟨.bool (decide (p0.e.act.kind = 5)), .int .i64 p0.e.act.kind, .pointer (some ⟨b1, 1, none⟩), .pointer (some ⟨b1, 1, none⟩), .pointer (some ⟨b1, 0, none⟩), rfl, (by rw [g25, Bool.false_or])⟩

set_option maxHeartbeats 4000000 in
set_option maxRecDepth 10000 in
theorem wk_ref21_Synced (V : Vw) (Rs : List At) (p0 : Tref21_Node) (ow : Ow V (Rs)) (r : Bool) (h : ref21_Synced p0 = some r) : ∃ v V', Cl Try.prog 0 47 #[.agg #[.int .i64 p0.e.t, .int .i64 p0.e.act.kind, .int .i64 p0.e.act.at_, .int .i64 p0.e.act.val, .int .i64 p0.e.act.what, .bool p0.e.act.volatile, .bool p0.e.act.final, .int .i64 p0.e.rf, .int .i64 p0.e.id, .int .i64 p0.at_]] V.H v V'.H ∧ V.le V' ∧ (v = .bool r ∧ Ow V' (Rs)) := by
  refine Ct.of (Nat.zero_le _) Try.func47 rfl (Nat.le_of_ble_eq_true rfl) ?_
  unfold ref21_Synced at h
  refine WP.usreg rfl ?_
  refine O.box ow rfl rfl (.inl rfl) rfl (L 0 rfl rfl) (by simp [topV]) rfl nd (fun b1 V2 le3 ow4 => ?_)
  refine U.p rfl rfl (.inl rfl) (S.assign rfl K) ?_
  refine U.done (Nat.le_of_ble_eq_true rfl) ?_
  refine WP.usreg rfl ?_
  refine U.p (v := .pointer (some ⟨b1, 0, none⟩)) rfl rfl (.inl rfl) (S.fieldAddr rfl (L 1 rfl rfl) Try.underlying52 rfl ti31 rfl rfl) ?_
  refine U.p (v := .pointer (some ⟨b1, 1, none⟩)) rfl rfl (.inl rfl) (S.fieldAddr rfl (L 0 rfl rfl) Try.underlying31 rfl ti29 rfl rfl) ?_
  refine U.p (v := .pointer (some ⟨b1, 1, none⟩)) rfl rfl (.inl rfl) (S.fieldAddr rfl (L 0 rfl rfl) Try.underlying29 rfl ti3 rfl rfl) ?_
  refine U.k rfl rfl (.inl rfl) (S.load rfl (L 0 rfl rfl) Try.underlying3 rfl ((ow4.own (k := 0) rfl).cell rfl)) nd ?_
  refine U.p rfl rfl (.inl rfl) (S.assign rfl (L 0 rfl rfl)) ?_
  refine U.done (Nat.le_of_ble_eq_true rfl) ?_
  refine WP.usreg rfl ?_
  refine U.p rfl rfl (.inl rfl) (S.move rfl (L 0 rfl rfl)) ?_
  refine U.p rfl rfl (.inl rfl) (S.eqlI rfl (L 0 rfl rfl) K) ?_
  refine U.p rfl rfl (.inl rfl) (S.move rfl (L 0 rfl rfl)) ?_
  refine U.joinX 6 (fun e H => ∃ (u6 u7 : Value), H = V2.H ∧ e = [(13, .bool ((decide (p0.e.act.kind = 5)) || (decide (p0.e.act.kind = 6)))), (12, u6), (11, u7)]) ?_ ?_
  · rintro _ _ ⟨u6, u7, rfl, rfl⟩
    refine U.p rfl rfl (.inl rfl) (S.move rfl (L 0 rfl rfl)) ?_
    refine U.joinX 20 (fun e H => ∃ (u11 u12 u13 u14 u15 u16 u17 u18 u19 u20 u21 u22 : Value), H = V2.H ∧ e = [(27, .bool (((decide (p0.e.act.kind = 5)) || (decide (p0.e.act.kind = 6))) || (p0.e.act.volatile && ((decide (p0.e.act.kind = 1)) || (decide (p0.e.act.kind = 2)))))), (26, u11), (25, u12), (24, u13), (23, u14), (22, u15), (21, u16), (20, u17), (19, u18), (18, u19), (17, u20), (16, u21), (15, u22)]) ?_ ?_
    · rintro _ _ ⟨u11, u12, u13, u14, u15, u16, u17, u18, u19, u20, u21, u22, rfl, rfl⟩
      refine U.p rfl rfl (.inl rfl) (S.assign rfl (L 0 rfl rfl)) ?_
      refine U.done (Nat.le_of_ble_eq_true rfl) ?_
      refine WP.ret ?_
      refine fin.slot (.inr rfl) rfl (L 0 rfl rfl) ⟨V2, rfl, le3, ?_⟩
      have ow26 := ow4.drop 0 rfl
      have e27 := Option.some.inj h
      subst e27
      exact ⟨rfl, ow26⟩
    · intro kk
      refine bcase (b := (decide (p0.e.act.kind = 5)) || (decide (p0.e.act.kind = 6))) (fun g28 => ?_) (fun g28 => ?_)
      · skip
        refine U.x rfl rfl rfl rfl ((L 0 rfl rfl).trans (congrArg Value.bool g28)) (by decide) ?_
        refine U.x rfl rfl rfl rfl ((L 1 rfl rfl).trans (congrArg Value.bool g28)) (by decide) ?_
        refine U.x rfl rfl rfl rfl ((L 2 rfl rfl).trans (congrArg Value.bool g28)) (by decide) ?_
        refine U.x rfl rfl rfl rfl ((L 3 rfl rfl).trans (congrArg Value.bool g28)) (by decide) ?_
        refine U.x rfl rfl rfl rfl ((L 4 rfl rfl).trans (congrArg Value.bool g28)) (by decide) ?_
        refine U.z rfl rfl rfl rfl (L 0 rfl rfl) ?_
        refine U.z rfl rfl rfl rfl (L 1 rfl rfl) ?_
        refine U.z rfl rfl rfl rfl (L 2 rfl rfl) ?_
        refine U.z rfl rfl rfl rfl (L 0 rfl rfl) ?_
        refine U.z rfl rfl rfl rfl (L 1 rfl rfl) ?_
        refine U.z rfl rfl rfl rfl (L 5 rfl rfl) ?_
        refine U.x rfl rfl rfl rfl ((L 11 rfl rfl).trans (congrArg Value.bool g28)) (by decide) ?_
        refine U.p rfl rfl (.inl rfl) (S.pickT rfl ((L 12 rfl rfl).trans (congrArg Value.bool g28)) K) ?_
        exact kk [(27, .bool true), (26, .tuple #[]), (25, .tuple #[]), (24, .tuple #[]), (23, .tuple #[]), (22, .tuple #[]), (21, .tuple #[]), (20, .tuple #[]), (19, .tuple #[]), (18, .tuple #[]), (17, .tuple #[]), (16, .tuple #[]), (15, .tuple #[])] _ ⟨.tuple #[], .tuple #[], .tuple #[], .tuple #[], .tuple #[], .tuple #[], .tuple #[], .tuple #[], .tuple #[], .tuple #[], .tuple #[], .tuple #[], rfl, (by rw [g28, Bool.true_or])⟩
      · skip
        refine U.p (v := .pointer (some ⟨b1, 0, none⟩)) rfl rfl (.inr ⟨_, _, _, rfl, rfl, ((L 0 rfl rfl).trans (congrArg Value.bool g28))⟩) (S.fieldAddr rfl (L 13 rfl rfl) Try.underlying52 rfl ti31 rfl rfl) ?_
        refine U.p (v := .pointer (some ⟨b1, 1, none⟩)) rfl rfl (.inr ⟨_, _, _, rfl, rfl, ((L 1 rfl rfl).trans (congrArg Value.bool g28))⟩) (S.fieldAddr rfl (L 0 rfl rfl) Try.underlying31 rfl ti29 rfl rfl) ?_
        refine U.p (v := .pointer (some ⟨b1, 5, none⟩)) rfl rfl (.inr ⟨_, _, _, rfl, rfl, ((L 2 rfl rfl).trans (congrArg Value.bool g28))⟩) (S.fieldAddr rfl (L 0 rfl rfl) Try.underlying29 rfl ti4 rfl rfl) ?_
        refine U.k rfl rfl (.inr ⟨_, _, _, rfl, rfl, ((L 3 rfl rfl).trans (congrArg Value.bool g28))⟩) (S.load rfl (L 0 rfl rfl) Try.underlying4 rfl ((ow4.own (k := 0) rfl).cell rfl)) nd ?_
        refine U.p rfl rfl (.inr ⟨_, _, _, rfl, rfl, ((L 4 rfl rfl).trans (congrArg Value.bool g28))⟩) (S.move rfl (L 0 rfl rfl)) ?_
        refine U.joinX 19 (fun e H => ∃ (u29 u30 u31 u32 u33 u34 : Value), H = V2.H ∧ e = [(26, .bool (p0.e.act.volatile && ((decide (p0.e.act.kind = 1)) || (decide (p0.e.act.kind = 2))))), (25, u29), (24, u30), (23, u31), (22, u32), (21, u33), (20, u34)]) ?_ ?_
        · rintro _ _ ⟨u29, u30, u31, u32, u33, u34, rfl, rfl⟩
          refine U.p rfl rfl (.inl rfl) (S.pickF rfl ((L 12 rfl rfl).trans (congrArg Value.bool g28)) (L 0 rfl rfl)) ?_
          exact kk [(27, .bool (p0.e.act.volatile && ((decide (p0.e.act.kind = 1)) || (decide (p0.e.act.kind = 2))))), (26, .bool (p0.e.act.volatile && ((decide (p0.e.act.kind = 1)) || (decide (p0.e.act.kind = 2))))), (25, u29), (24, u30), (23, u31), (22, u32), (21, u33), (20, u34), (19, .bool p0.e.act.volatile), (18, .bool p0.e.act.volatile), (17, .pointer (some ⟨b1, 5, none⟩)), (16, .pointer (some ⟨b1, 1, none⟩)), (15, .pointer (some ⟨b1, 0, none⟩))] _ ⟨.bool (p0.e.act.volatile && ((decide (p0.e.act.kind = 1)) || (decide (p0.e.act.kind = 2)))), u29, u30, u31, u32, u33, u34, .bool p0.e.act.volatile, .bool p0.e.act.volatile, .pointer (some ⟨b1, 5, none⟩), .pointer (some ⟨b1, 1, none⟩), .pointer (some ⟨b1, 0, none⟩), rfl, (by rw [g28, Bool.false_or])⟩
        · intro kk
          refine bcase (b := p0.e.act.volatile) (fun g38 => ?_) (fun g38 => ?_)
          · skip
            refine U.p rfl rfl (.inr ⟨_, _, _, rfl, rfl, ((L 0 rfl rfl).trans (congrArg Value.bool g38))⟩) (S.move rfl (L 12 rfl rfl)) ?_
            refine U.p rfl rfl (.inr ⟨_, _, _, rfl, rfl, ((L 1 rfl rfl).trans (congrArg Value.bool g38))⟩) (S.eqlI rfl (L 0 rfl rfl) K) ?_
            refine U.p rfl rfl (.inr ⟨_, _, _, rfl, rfl, ((L 2 rfl rfl).trans (congrArg Value.bool g38))⟩) (S.move rfl (L 0 rfl rfl)) ?_
            refine U.joinX 18 (fun e H => ∃ (u39 u40 : Value), H = V2.H ∧ e = [(25, .bool ((decide (p0.e.act.kind = 1)) || (decide (p0.e.act.kind = 2)))), (24, u39), (23, u40)]) ?_ ?_
            · rintro _ _ ⟨u39, u40, rfl, rfl⟩
              refine U.p rfl rfl (.inr ⟨_, _, _, rfl, rfl, ((L 11 rfl rfl).trans (congrArg Value.bool g28))⟩) (S.pickT rfl ((L 6 rfl rfl).trans (congrArg Value.bool g38)) (L 0 rfl rfl)) ?_
              exact kk [(26, .bool ((decide (p0.e.act.kind = 1)) || (decide (p0.e.act.kind = 2)))), (25, .bool ((decide (p0.e.act.kind = 1)) || (decide (p0.e.act.kind = 2)))), (24, u39), (23, u40), (22, .bool (decide (p0.e.act.kind = 1))), (21, .bool (decide (p0.e.act.kind = 1))), (20, .int .i64 p0.e.act.kind)] _ ⟨.bool ((decide (p0.e.act.kind = 1)) || (decide (p0.e.act.kind = 2))), u39, u40, .bool (decide (p0.e.act.kind = 1)), .bool (decide (p0.e.act.kind = 1)), .int .i64 p0.e.act.kind, rfl, (by rw [g38, Bool.true_and])⟩
            · intro kk
              refine bcase (b := decide (p0.e.act.kind = 1)) (fun g44 => ?_) (fun g44 => ?_)
              · skip
                refine U.x rfl rfl rfl rfl ((L 0 rfl rfl).trans (congrArg Value.bool g44)) (by decide) ?_
                refine U.x rfl rfl rfl rfl ((L 1 rfl rfl).trans (congrArg Value.bool g44)) (by decide) ?_
                refine U.p rfl rfl (.inr ⟨_, _, _, rfl, rfl, ((L 5 rfl rfl).trans (congrArg Value.bool g38))⟩) (S.pickT rfl ((L 2 rfl rfl).trans (congrArg Value.bool g44)) K) ?_
                exact kk [(25, .bool true), (24, .tuple #[]), (23, .tuple #[])] _ ⟨.tuple #[], .tuple #[], rfl, (by rw [g44, Bool.true_or])⟩
              · skip
                refine U.p rfl rfl (.inr ⟨_, _, _, rfl, rfl, ((L 0 rfl rfl).trans (congrArg Value.bool g44))⟩) (S.move rfl (L 15 rfl rfl)) ?_
                refine U.p rfl rfl (.inr ⟨_, _, _, rfl, rfl, ((L 1 rfl rfl).trans (congrArg Value.bool g44))⟩) (S.eqlI rfl (L 0 rfl rfl) K) ?_
                refine U.p rfl rfl (.inr ⟨_, _, _, rfl, rfl, ((L 5 rfl rfl).trans (congrArg Value.bool g38))⟩) (S.pickF rfl ((L 2 rfl rfl).trans (congrArg Value.bool g44)) (L 0 rfl rfl)) ?_
                exact kk [(25, .bool (decide (p0.e.act.kind = 2))), (24, .bool (decide (p0.e.act.kind = 2))), (23, .int .i64 p0.e.act.kind)] _ ⟨.bool (decide (p0.e.act.kind = 2)), .int .i64 p0.e.act.kind, rfl, (by rw [g44, Bool.false_or])⟩
          · skip
            refine U.x rfl rfl rfl rfl ((L 0 rfl rfl).trans (congrArg Value.bool g38)) (by decide) ?_
            refine U.x rfl rfl rfl rfl ((L 1 rfl rfl).trans (congrArg Value.bool g38)) (by decide) ?_
            refine U.x rfl rfl rfl rfl ((L 2 rfl rfl).trans (congrArg Value.bool g38)) (by decide) ?_
            refine U.z rfl rfl rfl rfl (L 0 rfl rfl) ?_
            refine U.z rfl rfl rfl rfl (L 1 rfl rfl) ?_
            refine U.x rfl rfl rfl rfl ((L 5 rfl rfl).trans (congrArg Value.bool g38)) (by decide) ?_
            refine U.p rfl rfl (.inr ⟨_, _, _, rfl, rfl, ((L 11 rfl rfl).trans (congrArg Value.bool g28))⟩) (S.pickF rfl ((L 6 rfl rfl).trans (congrArg Value.bool g38)) K) ?_
            exact kk [(26, .bool false), (25, .tuple #[]), (24, .tuple #[]), (23, .tuple #[]), (22, .tuple #[]), (21, .tuple #[]), (20, .tuple #[])] _ ⟨.tuple #[], .tuple #[], .tuple #[], .tuple #[], .tuple #[], .tuple #[], rfl, (by rw [g38, Bool.false_and])⟩
  · intro kk
    refine bcase (b := decide (p0.e.act.kind = 5)) (fun g45 => ?_) (fun g45 => ?_)
    · skip
      refine U.x rfl rfl rfl rfl ((L 0 rfl rfl).trans (congrArg Value.bool g45)) (by decide) ?_
      refine U.x rfl rfl rfl rfl ((L 1 rfl rfl).trans (congrArg Value.bool g45)) (by decide) ?_
      refine U.p rfl rfl (.inl rfl) (S.pickT rfl ((L 2 rfl rfl).trans (congrArg Value.bool g45)) K) ?_
      exact kk [(13, .bool true), (12, .tuple #[]), (11, .tuple #[])] _ ⟨.tuple #[], .tuple #[], rfl, (by rw [g45, Bool.true_or])⟩
    · skip
      refine U.p rfl rfl (.inr ⟨_, _, _, rfl, rfl, ((L 0 rfl rfl).trans (congrArg Value.bool g45))⟩) (S.move rfl (L 3 rfl rfl)) ?_
      refine U.p rfl rfl (.inr ⟨_, _, _, rfl, rfl, ((L 1 rfl rfl).trans (congrArg Value.bool g45))⟩) (S.eqlI rfl (L 0 rfl rfl) K) ?_
      refine U.p rfl rfl (.inl rfl) (S.pickF rfl ((L 2 rfl rfl).trans (congrArg Value.bool g45)) (L 0 rfl rfl)) ?_
      exact kk [(13, .bool (decide (p0.e.act.kind = 6))), (12, .bool (decide (p0.e.act.kind = 6))), (11, .int .i64 p0.e.act.kind)] _ ⟨.bool (decide (p0.e.act.kind = 6)), .int .i64 p0.e.act.kind, rfl, (by rw [g45, Bool.false_or])⟩

set_option maxHeartbeats 4000000 in
set_option maxRecDepth 10000 in
theorem wk_ref21_Nodes (V : Vw) (Rs : List At) (p0 : List (List TEvent)) (p1 : Bool) (v1 : Value) (f2 : Fz (RT.sl RT_TEvent) V v1 p0) (ow : Ow V (Rs)) (r : List Tref21_Node) (h : ref21_Nodes p0 p1 = some r) : ∃ v V', Cl Try.prog 0 32 #[v1, .bool p1] V.H v V'.H ∧ V.le V' ∧ (∃ (v3 : Value), v = v3 ∧ Ow V' (.os RT_Tref21_Node v3 r :: Rs)) := by
  refine Ct.of (Nat.zero_le _) Try.func32 rfl (Nat.le_of_ble_eq_true rfl) ?_
  unfold ref21_Nodes at h
  refine WP.usreg rfl ?_
  refine U.p rfl rfl (.inl rfl) (S.assign rfl K) ?_
  refine U.done (Nat.le_of_ble_eq_true rfl) ?_
  refine WP.usreg rfl ?_
  refine U.p rfl rfl (.inl rfl) (S.assign rfl K) ?_
  refine U.done (Nat.le_of_ble_eq_true rfl) ?_
  refine WP.seq ?_
  refine WP.usreg rfl ?_
  refine U.p rfl rfl (.inl rfl) (S.move rfl (L 2 rfl rfl)) ?_
  refine U.p rfl rfl (.inl rfl) (f2.1.len rfl (L 0 rfl rfl) Try.underlying22) ?_
  refine U.p rfl rfl (.inl rfl) (S.move rfl K) ?_
  refine U.done (Nat.le_of_ble_eq_true rfl) ?_
  refine WP.blk ?_
  have ow9 := ow.nil RT_Tref21_Node
  unfold ref21_Nodes_l1 at h
  obtain ⟨n12, hn11⟩ := loopO_some.1 h
  refine WP.loopI2 (fun n l V' => ∃ (v6 : Value) (xs7 : List Tref21_Node) (x8 : Int), l = [(1, .bool p1), (5, v6), (11, v1), (12, .int .i64 (p0.length : Int)), (13, .int .i64 x8)] ∧ V.le V' ∧ Ow V' (.os RT_Tref21_Node v6 xs7 :: Rs) ∧ itO (fun s => ref21_Nodes_l1b p0 p1 s.1 s.2) n (xs7, x8) = some r) n12 _ ⟨(.slice none 0 0), [], 0, rfl, .refl _, ow9, hn11⟩ (allCons (L 6 rfl rfl) (allCons (L 3 rfl rfl) (allCons (L 2 rfl rfl) (allCons (L 1 rfl rfl) (allCons (L 0 rfl rfl) allNil))))) ?_
  rintro _ _ V13 ⟨v6, xs7, x8, rfl, le14, ow15, h19⟩
  obtain ⟨m16, q17, rfl, h20, e18⟩ := itS h19
  replace h20 : ref21_Nodes_l1b p0 p1 xs7 x8 = some q17 := h20
  unfold ref21_Nodes_l1b at h20
  refine WP.usreg rfl ?_
  refine U.p rfl rfl (.inl rfl) (S.lss rfl (L 4 rfl rfl) (L 3 rfl rfl)) ?_
  refine U.done (Nat.le_of_ble_eq_true rfl) ?_
  refine WP.seq ?_
  refine WP.cond _ (L 0 rfl rfl) rfl (fun c21 => ?_) (fun c21 => ?_)
  · have h22 := ifT c21 h20
    refine WP.skip ?_
    refine sqN ?_
    refine WP.seq ?_
    refine WP.blk ?_
    refine WP.usreg rfl ?_
    obtain ⟨x23, hx24, h25⟩ := bindS h22
    obtain ⟨b26, o27, c28, cs29, hv30, hf31, hr32, hc33⟩ := f2.at hx24
    obtain ⟨v34, rfl, f35⟩ := hr32
    refine U.p rfl rfl (.inl rfl) (S.index rfl ((L 3 rfl rfl).trans hv30) (L 5 rfl rfl) Try.underlying22 ti27 (ix_ge hx24) (ix_lt hx24)) ?_
    refine U.k rfl rfl (.inl rfl) (S.load rfl (L 0 rfl rfl) Try.underlying27 rfl (le14.cell hf31 (hc33 0 _ rfl))) nd ?_
    refine U.p rfl rfl (.inl rfl) (S.assign rfl (L 0 rfl rfl)) ?_
    refine U.done (Nat.le_of_ble_eq_true rfl) ?_
    refine WP.usreg rfl ?_
    refine U.p rfl rfl (.inl rfl) (S.move rfl (L 0 rfl rfl)) ?_
    refine U.p rfl rfl (.inl rfl) (f35.1.len rfl (L 0 rfl rfl) Try.underlying27) ?_
    refine U.p rfl rfl (.inl rfl) (S.move rfl K) ?_
    refine U.done (Nat.le_of_ble_eq_true rfl) ?_
    refine WP.blk ?_
    unfold ref21_Nodes_l2 at h25
    obtain ⟨n41, hn40⟩ := loopO_some.1 h25
    refine WP.loopI2 (fun n l V' => ∃ (v37 : Value) (xs38 : List Tref21_Node) (x39 : Int), l = [(1, .bool p1), (5, v37), (11, v1), (12, .int .i64 (p0.length : Int)), (13, .int .i64 x8), (17, v34), (18, .int .i64 (x23.length : Int)), (19, .int .i64 x39)] ∧ V13.le V' ∧ Ow V' (.os RT_Tref21_Node v37 xs38 :: Rs) ∧ itO (fun s => ref21_Nodes_l2b p1 x8 x23 s.1 s.2) n (xs38, x39) = some q17) n41 _ ⟨v6, xs7, 0, rfl, .refl _, ow15, hn40⟩ (allCons (L 7 rfl rfl) (allCons (L 8 rfl rfl) (allCons (L 9 rfl rfl) (allCons (L 10 rfl rfl) (allCons (L 11 rfl rfl) (allCons (L 2 rfl rfl) (allCons (L 1 rfl rfl) (allCons (L 0 rfl rfl) allNil)))))))) ?_
    rintro _ _ V42 ⟨v37, xs38, x39, rfl, le43, ow44, h48⟩
    obtain ⟨m45, q46, rfl, h49, e47⟩ := itS h48
    replace h49 : ref21_Nodes_l2b p1 x8 x23 xs38 x39 = some q46 := h49
    unfold ref21_Nodes_l2b at h49
    refine WP.usreg rfl ?_
    refine U.p rfl rfl (.inl rfl) (S.lss rfl (L 7 rfl rfl) (L 6 rfl rfl)) ?_
    refine U.done (Nat.le_of_ble_eq_true rfl) ?_
    refine WP.seq ?_
    refine WP.cond _ (L 0 rfl rfl) rfl (fun c50 => ?_) (fun c50 => ?_)
    · have h51 := ifT c50 h49
      refine WP.skip ?_
      refine sqN ?_
      refine WP.seqI (fun l V' => ∃ (v53 : Value) (xs54 : List Tref21_Node), l = [(1, .bool p1), (5, v53), (11, v1), (12, .int .i64 (p0.length : Int)), (13, .int .i64 x8), (17, v34), (18, .int .i64 (x23.length : Int)), (19, .int .i64 x39)] ∧ V42.le V' ∧ Ow V' (.os RT_Tref21_Node v53 xs54 :: Rs) ∧ ref21_Nodes_k1 x39 xs54 = some q46) ?_ ?_
      · rintro _ V55 ⟨v53, xs54, rfl, le56, ow57, h58⟩
        unfold ref21_Nodes_k1 at h58
        refine WP.ureg rfl ?_
        refine U.p rfl rfl (.inl rfl) (S.add rfl (L 7 rfl rfl) K) ?_
        refine U.p rfl rfl (.inl rfl) (S.move rfl (L 0 rfl rfl)) ?_
        refine U.done (Nat.le_of_ble_eq_true rfl) ?_
        refine sqN ?_
        exact ⟨_, V55, rfl, ⟨m45, Nat.lt_succ_self _, v53, xs54, w64 (x39 + 1), rfl, (le43.trans le56), ow57, backS h58 e47⟩, (allCons (L 2 rfl rfl) (allCons (L 3 rfl rfl) (allCons (L 4 rfl rfl) (allCons (L 5 rfl rfl) (allCons (L 6 rfl rfl) (allCons (L 7 rfl rfl) (allCons (L 8 rfl rfl) (allCons (L 0 rfl rfl) allNil))))))))⟩
      · skip
        refine WP.blk ?_
        refine WP.usreg rfl ?_
        refine U.p rfl rfl (.inl rfl) (S.move rfl (L 8 rfl rfl)) ?_
        obtain ⟨x59, hx60, h61⟩ := bindS h51
        obtain ⟨b62, o63, c64, cs65, hv66, hf67, hr68, hc69⟩ := f35.at hx60
        obtain rfl : cs65 = [.int .i64 x59.t, .int .i64 x59.act.kind, .int .i64 x59.act.at_, .int .i64 x59.act.val, .int .i64 x59.act.what, .bool x59.act.volatile, .bool x59.act.final, .int .i64 x59.rf, .int .i64 x59.id] := hr68
        refine U.p rfl rfl (.inl rfl) (S.index rfl ((L 7 rfl rfl).trans hv66) (L 9 rfl rfl) Try.underlying27 ti31 (ix_ge hx60) (ix_lt hx60)) ?_
        refine U.k rfl rfl (.inl rfl) (S.loadN (cs := [.int .i64 x59.t, .int .i64 x59.act.kind, .int .i64 x59.act.at_, .int .i64 x59.act.val, .int .i64 x59.act.what, .bool x59.act.volatile, .bool x59.act.final, .int .i64 x59.rf, .int .i64 x59.id]) rfl (L 0 rfl rfl) Try.underlying31 rfl ti31 rfl (fun j v hj => (le14.trans le43).cell hf67 (hc69 j v hj))) nd ?_
        refine O.alloc ow44 rfl rfl (.inl rfl) rfl ti31 rfl rfl nd (fun b70 V71 le72 ow73 => ?_)
        refine U.p rfl rfl (.inl rfl) (S.assign rfl (L 3 rfl rfl)) ?_
        refine O.store (k := 0) (cs := [.int .i64 x59.t, .int .i64 x59.act.kind, .int .i64 x59.act.at_, .int .i64 x59.act.val, .int .i64 x59.act.what, .bool x59.act.volatile, .bool x59.act.final, .int .i64 x59.rf, .int .i64 x59.id]) (c' := [.int .i64 x59.t, .int .i64 x59.act.kind, .int .i64 x59.act.at_, .int .i64 x59.act.val, .int .i64 x59.act.what, .bool x59.act.volatile, .bool x59.act.final, .int .i64 x59.rf, .int .i64 x59.id]) ow73 rfl rfl rfl (.inl rfl) rfl (L 1 rfl rfl) (L 2 rfl rfl) ti31 (by simp [topV]) rfl rfl (Nat.le_of_ble_eq_true rfl) rfl rfl nd (fun V75 le76 ow77 => ?_)
        refine U.done (Nat.le_of_ble_eq_true rfl) ?_
        refine WP.usreg rfl ?_
        refine U.k rfl rfl (.inl rfl) (S.loadB rfl (L 1 rfl rfl) Try.underlying31 rfl ti31 (ow77.own (k := 0) rfl).get rfl) nd ?_
        refine U.p rfl rfl (.inl rfl) (S.move rfl (L 1 rfl rfl)) ?_
        refine U.p (v := .agg #[.int .i64 x59.t, .int .i64 x59.act.kind, .int .i64 x59.act.at_, .int .i64 x59.act.val, .int .i64 x59.act.what, .bool x59.act.volatile, .bool x59.act.final, .int .i64 x59.rf, .int .i64 x59.id, .int .i64 x39]) rfl rfl (.inl rfl) (S.build (vs := [.agg #[.int .i64 x59.t, .int .i64 x59.act.kind, .int .i64 x59.act.at_, .int .i64 x59.act.val, .int .i64 x59.act.what, .bool x59.act.volatile, .bool x59.act.final, .int .i64 x59.rf, .int .i64 x59.id], .int .i64 x39]) rfl ti52 rfl pl52 (aC (L 1 rfl rfl) (aC (L 0 rfl rfl) aN)) (allC (by simp [topV]) (allC (by simp [topV]) allN)) (fillA (ws := [.int .i64 x59.t, .int .i64 x59.act.kind, .int .i64 x59.act.at_, .int .i64 x59.act.val, .int .i64 x59.act.what, .bool x59.act.volatile, .bool x59.act.final, .int .i64 x59.rf, .int .i64 x59.id]) rfl rfl rfl (Nat.le_of_ble_eq_true rfl) (fill1 rfl rfl (Nat.le_of_ble_eq_true rfl) rfl))) ?_
        refine O.alloc ow77 rfl rfl (.inl rfl) rfl ti52 rfl rfl nd (fun b78 V79 le80 ow81 => ?_)
        refine O.store (k := 0) (cs := [.int .i64 x59.t, .int .i64 x59.act.kind, .int .i64 x59.act.at_, .int .i64 x59.act.val, .int .i64 x59.act.what, .bool x59.act.volatile, .bool x59.act.final, .int .i64 x59.rf, .int .i64 x59.id, .int .i64 x39]) (c' := [.int .i64 x59.t, .int .i64 x59.act.kind, .int .i64 x59.act.at_, .int .i64 x59.act.val, .int .i64 x59.act.what, .bool x59.act.volatile, .bool x59.act.final, .int .i64 x59.rf, .int .i64 x59.id, .int .i64 x39]) ow81 rfl rfl rfl (.inl rfl) rfl (L 0 rfl rfl) (L 1 rfl rfl) ti52 (by simp [topV]) rfl rfl (Nat.le_of_ble_eq_true rfl) rfl rfl nd (fun V83 le84 ow85 => ?_)
        refine U.done (Nat.le_of_ble_eq_true rfl) ?_
        refine WP.usreg rfl ?_
        refine U.k rfl rfl (.inl rfl) (S.loadB rfl (L 0 rfl rfl) Try.underlying52 rfl ti52 (ow85.own (k := 0) rfl).get rfl) nd ?_
        obtain ⟨x86, hx87, h88⟩ := bindS h61
        refine O.call (V := V83) rfl rfl (.inl rfl) rfl en44 (aC (L 0 rfl rfl) aN) (wk_ref21_Reads V83 _ (⟨x59, x39⟩ : Tref21_Node) ow85 _ hx87) (fun _ _ _ _ => nd) (fun v89 V90 le91 hp92 => ?_)
        obtain ⟨rfl, ow93⟩ := hp92
        refine U.p rfl rfl (.inl rfl) (S.move rfl (L 0 rfl rfl)) ?_
        obtain ⟨y94, hy95, h96⟩ := bindS h88
        refine U.joinX 6 (fun e H => ∃ (u97 u98 : Value), ∃ V' : Vw, H = V'.H ∧ V90.le V' ∧ e = [(32, .bool y94), (31, u97), (30, u98)] ∧ Ow V' (.pt b78 (.cells 10 [.int .i64 x59.t, .int .i64 x59.act.kind, .int .i64 x59.act.at_, .int .i64 x59.act.val, .int .i64 x59.act.what, .bool x59.act.volatile, .bool x59.act.final, .int .i64 x59.rf, .int .i64 x59.id, .int .i64 x39]) :: .pt b70 (.cells 9 [.int .i64 x59.t, .int .i64 x59.act.kind, .int .i64 x59.act.at_, .int .i64 x59.act.val, .int .i64 x59.act.what, .bool x59.act.volatile, .bool x59.act.final, .int .i64 x59.rf, .int .i64 x59.id]) :: .os RT_Tref21_Node v37 xs38 :: Rs)) ?_ ?_
        · rintro _ _ ⟨u97, u98, V99, rfl, le100, rfl, ow101⟩
          refine U.p rfl rfl (.inl rfl) (S.move rfl (L 0 rfl rfl)) ?_
          obtain ⟨y102, hy103, h104⟩ := bindS h96
          refine U.joinX 14 (fun e H => ∃ (u105 u106 u107 u108 u109 u110 : Value), ∃ V' : Vw, H = V'.H ∧ V99.le V' ∧ e = [(40, .bool y102), (39, u105), (38, u106), (37, u107), (36, u108), (35, u109), (34, u110)] ∧ Ow V' (.pt b78 (.cells 10 [.int .i64 x59.t, .int .i64 x59.act.kind, .int .i64 x59.act.at_, .int .i64 x59.act.val, .int .i64 x59.act.what, .bool x59.act.volatile, .bool x59.act.final, .int .i64 x59.rf, .int .i64 x59.id, .int .i64 x39]) :: .pt b70 (.cells 9 [.int .i64 x59.t, .int .i64 x59.act.kind, .int .i64 x59.act.at_, .int .i64 x59.act.val, .int .i64 x59.act.what, .bool x59.act.volatile, .bool x59.act.final, .int .i64 x59.rf, .int .i64 x59.id]) :: .os RT_Tref21_Node v37 xs38 :: Rs)) ?_ ?_
          · rintro _ _ ⟨u105, u106, u107, u108, u109, u110, V111, rfl, le112, rfl, ow113⟩
            refine U.done (Nat.le_of_ble_eq_true rfl) ?_
            refine WP.cond _ (L 0 rfl rfl) rfl (fun c114 => ?_) (fun c114 => ?_)
            · have h115 := ifT c114 h104
              refine WP.ureg rfl ?_
              refine U.p rfl rfl (.inl rfl) (S.move rfl (L 25 rfl rfl)) ?_
              refine U.k rfl rfl (.inl rfl) (S.loadB rfl (L 15 rfl rfl) Try.underlying52 rfl ti52 (ow113.own (k := 0) rfl).get rfl) nd ?_
              refine O.lit (R := RT_Tref21_Node) ow113 rfl rfl (.inl rfl) rfl Try.underlying47 ti52 rfl rfl rfl (Nat.le_of_ble_eq_true rfl) rfl (aC (L 0 rfl rfl) aN) (.cons _ _ (⟨x59, x39⟩ : Tref21_Node) _ (by simp [topV]) rfl .nil) (fun _ => nd) (fun v116 V117 le118 ow119 => ?_)
              obtain ⟨xs121, hx122, h123⟩ := bindS h115
              refine O.append (k := 3) ow119 rfl rfl rfl (.inl rfl) rfl (L 2 rfl rfl) (L 0 rfl rfl) Try.underlying47 ti52 rfl rfl (Nat.le_of_ble_eq_true rfl) (ow119.src (k := 0) rfl Try.underlying47) hx122 (fun _ _ => nd) (fun v124 V125 le126 ow127 => ?_)
              refine U.p rfl rfl (.inl rfl) (S.assign rfl (L 0 rfl rfl)) ?_
              refine U.done (Nat.le_of_ble_eq_true rfl) ?_
              refine blkN (sqN ?_)
              have ow129 := ow127.drop 0 rfl
              have ow130 := ow129.drop 0 rfl
              have ow131 := ow130.drop 0 rfl
              exact ⟨_, V125, rfl, ⟨v124, xs121, rfl, ((((((((le72.trans le76).trans le80).trans le84).trans le91).trans le100).trans le112).trans le118).trans le126), ow131, h123⟩, (allCons (L 29 rfl rfl) (allCons (L 0 rfl rfl) (allCons (L 31 rfl rfl) (allCons (L 32 rfl rfl) (allCons (L 33 rfl rfl) (allCons (L 34 rfl rfl) (allCons (L 35 rfl rfl) (allCons (L 36 rfl rfl) allNil))))))))⟩
            · have h132 := ifF c114 h104
              refine WP.skip ?_
              refine blkN (sqN ?_)
              have ow133 := ow113.drop 0 rfl
              have ow134 := ow133.drop 0 rfl
              exact ⟨_, V111, rfl, ⟨v37, xs38, rfl, ((((((le72.trans le76).trans le80).trans le84).trans le91).trans le100).trans le112), ow134, h132⟩, (allCons (L 24 rfl rfl) (allCons (L 25 rfl rfl) (allCons (L 26 rfl rfl) (allCons (L 27 rfl rfl) (allCons (L 28 rfl rfl) (allCons (L 29 rfl rfl) (allCons (L 30 rfl rfl) (allCons (L 31 rfl rfl) allNil))))))))⟩
          · intro kk
            refine bcase (b := y94) (fun g135 => ?_) (fun g135 => ?_)
            · have h136 := ifT g135 hy103
              refine U.p rfl rfl (.inr ⟨_, _, _, rfl, rfl, ((L 0 rfl rfl).trans (congrArg Value.bool g135))⟩) (S.move rfl (L 17 rfl rfl)) ?_
              refine U.p rfl rfl (.inr ⟨_, _, _, rfl, rfl, ((L 1 rfl rfl).trans (congrArg Value.bool g135))⟩) (S.not rfl (L 0 rfl rfl)) ?_
              refine U.p rfl rfl (.inr ⟨_, _, _, rfl, rfl, ((L 2 rfl rfl).trans (congrArg Value.bool g135))⟩) (S.move rfl (L 0 rfl rfl)) ?_
              obtain ⟨y137, hy138, h139⟩ := bindS h136
              refine U.joinX 13 (fun e H => ∃ (u140 u141 : Value), ∃ V' : Vw, H = V'.H ∧ V99.le V' ∧ e = [(39, .bool y137), (38, u140), (37, u141)] ∧ Ow V' (.pt b78 (.cells 10 [.int .i64 x59.t, .int .i64 x59.act.kind, .int .i64 x59.act.at_, .int .i64 x59.act.val, .int .i64 x59.act.what, .bool x59.act.volatile, .bool x59.act.final, .int .i64 x59.rf, .int .i64 x59.id, .int .i64 x39]) :: .pt b70 (.cells 9 [.int .i64 x59.t, .int .i64 x59.act.kind, .int .i64 x59.act.at_, .int .i64 x59.act.val, .int .i64 x59.act.what, .bool x59.act.volatile, .bool x59.act.final, .int .i64 x59.rf, .int .i64 x59.id]) :: .os RT_Tref21_Node v37 xs38 :: Rs)) ?_ ?_
              · rintro _ _ ⟨u140, u141, V142, rfl, le143, rfl, ow144⟩
                refine U.p rfl rfl (.inl rfl) (S.pickT rfl ((L 6 rfl rfl).trans (congrArg Value.bool g135)) (L 0 rfl rfl)) ?_
                have e145 := Option.some.inj h139
                subst e145
                exact kk [(40, .bool y137), (39, .bool y137), (38, u140), (37, u141), (36, .bool (!p1)), (35, .bool (!p1)), (34, .bool p1)] _ ⟨.bool y137, u140, u141, .bool (!p1), .bool (!p1), .bool p1, V142, rfl, le143, rfl, ow144⟩
              · intro kk
                refine bcase (b := !p1) (fun g146 => ?_) (fun g146 => ?_)
                · have h147 := ifT g146 hy138
                  have k148 : p1 = false := by simpa using g146
                  refine U.x rfl rfl rfl rfl ((L 0 rfl rfl).trans (congrArg Value.bool g146)) (by decide) ?_
                  refine U.x rfl rfl rfl rfl ((L 1 rfl rfl).trans (congrArg Value.bool g146)) (by decide) ?_
                  refine U.p rfl rfl (.inr ⟨_, _, _, rfl, rfl, ((L 5 rfl rfl).trans (congrArg Value.bool g135))⟩) (S.pickT rfl ((L 2 rfl rfl).trans (congrArg Value.bool g146)) K) ?_
                  have e149 := Option.some.inj h147
                  subst e149
                  exact kk [(39, .bool true), (38, .tuple #[]), (37, .tuple #[])] _ ⟨.tuple #[], .tuple #[], V99, rfl, (.refl _), rfl, ow101⟩
                · have h150 := ifF g146 hy138
                  have k151 : p1 = true := by simpa using g146
                  refine U.k rfl rfl (.inr ⟨_, _, _, rfl, rfl, ((L 0 rfl rfl).trans (congrArg Value.bool g146))⟩) (S.loadB rfl (L 10 rfl rfl) Try.underlying52 rfl ti52 (ow101.own (k := 0) rfl).get rfl) nd ?_
                  obtain ⟨x152, hx153, h154⟩ := bindS h150
                  refine O.call (V := V99) rfl rfl (.inr ⟨_, _, _, rfl, rfl, ((L 1 rfl rfl).trans (congrArg Value.bool g146))⟩) rfl en47 (aC (L 0 rfl rfl) aN) (wk_ref21_Synced V99 _ (⟨x59, x39⟩ : Tref21_Node) ow101 _ hx153) (fun _ _ _ _ => nd) (fun v155 V156 le157 hp158 => ?_)
                  obtain ⟨rfl, ow159⟩ := hp158
                  refine U.p rfl rfl (.inr ⟨_, _, _, rfl, rfl, ((L 5 rfl rfl).trans (congrArg Value.bool g135))⟩) (S.pickF rfl ((L 2 rfl rfl).trans (congrArg Value.bool g146)) (L 0 rfl rfl)) ?_
                  have e160 := Option.some.inj h154
                  subst e160
                  exact kk [(39, .bool x152), (38, .bool x152), (37, .agg #[.int .i64 x59.t, .int .i64 x59.act.kind, .int .i64 x59.act.at_, .int .i64 x59.act.val, .int .i64 x59.act.what, .bool x59.act.volatile, .bool x59.act.final, .int .i64 x59.rf, .int .i64 x59.id, .int .i64 x39])] _ ⟨.bool x152, .agg #[.int .i64 x59.t, .int .i64 x59.act.kind, .int .i64 x59.act.at_, .int .i64 x59.act.val, .int .i64 x59.act.what, .bool x59.act.volatile, .bool x59.act.final, .int .i64 x59.rf, .int .i64 x59.id, .int .i64 x39], V156, rfl, le157, rfl, ow159⟩
            · have h161 := ifF g135 hy103
              refine U.x rfl rfl rfl rfl ((L 0 rfl rfl).trans (congrArg Value.bool g135)) (by decide) ?_
              refine U.x rfl rfl rfl rfl ((L 1 rfl rfl).trans (congrArg Value.bool g135)) (by decide) ?_
              refine U.x rfl rfl rfl rfl ((L 2 rfl rfl).trans (congrArg Value.bool g135)) (by decide) ?_
              refine U.z rfl rfl rfl rfl (L 0 rfl rfl) ?_
              refine U.z rfl rfl rfl rfl (L 1 rfl rfl) ?_
              refine U.x rfl rfl rfl rfl ((L 5 rfl rfl).trans (congrArg Value.bool g135)) (by decide) ?_
              refine U.p rfl rfl (.inl rfl) (S.pickF rfl ((L 6 rfl rfl).trans (congrArg Value.bool g135)) K) ?_
              have e162 := Option.some.inj h161
              subst e162
              exact kk [(40, .bool false), (39, .tuple #[]), (38, .tuple #[]), (37, .tuple #[]), (36, .tuple #[]), (35, .tuple #[]), (34, .tuple #[])] _ ⟨.tuple #[], .tuple #[], .tuple #[], .tuple #[], .tuple #[], .tuple #[], V99, rfl, (.refl _), rfl, ow101⟩
        · intro kk
          refine bcase (b := x86) (fun g163 => ?_) (fun g163 => ?_)
          · have h164 := ifT g163 hy95
            refine U.x rfl rfl rfl rfl ((L 0 rfl rfl).trans (congrArg Value.bool g163)) (by decide) ?_
            refine U.x rfl rfl rfl rfl ((L 1 rfl rfl).trans (congrArg Value.bool g163)) (by decide) ?_
            refine U.p rfl rfl (.inl rfl) (S.pickT rfl ((L 2 rfl rfl).trans (congrArg Value.bool g163)) K) ?_
            have e165 := Option.some.inj h164
            subst e165
            exact kk [(32, .bool true), (31, .tuple #[]), (30, .tuple #[])] _ ⟨.tuple #[], .tuple #[], V90, rfl, (.refl _), rfl, ow93⟩
          · have h166 := ifF g163 hy95
            refine U.k rfl rfl (.inr ⟨_, _, _, rfl, rfl, ((L 0 rfl rfl).trans (congrArg Value.bool g163))⟩) (S.loadB rfl (L 3 rfl rfl) Try.underlying52 rfl ti52 (ow93.own (k := 0) rfl).get rfl) nd ?_
            obtain ⟨x167, hx168, h169⟩ := bindS h166
            refine O.call (V := V90) rfl rfl (.inr ⟨_, _, _, rfl, rfl, ((L 1 rfl rfl).trans (congrArg Value.bool g163))⟩) rfl en45 (aC (L 0 rfl rfl) aN) (wk_ref21_Writes V90 _ (⟨x59, x39⟩ : Tref21_Node) ow93 _ hx168) (fun _ _ _ _ => nd) (fun v170 V171 le172 hp173 => ?_)
            obtain ⟨rfl, ow174⟩ := hp173
            refine U.p rfl rfl (.inl rfl) (S.pickF rfl ((L 2 rfl rfl).trans (congrArg Value.bool g163)) (L 0 rfl rfl)) ?_
            have e175 := Option.some.inj h169
            subst e175
            exact kk [(32, .bool x167), (31, .bool x167), (30, .agg #[.int .i64 x59.t, .int .i64 x59.act.kind, .int .i64 x59.act.at_, .int .i64 x59.act.val, .int .i64 x59.act.what, .bool x59.act.volatile, .bool x59.act.final, .int .i64 x59.rf, .int .i64 x59.id, .int .i64 x39])] _ ⟨.bool x167, .agg #[.int .i64 x59.t, .int .i64 x59.act.kind, .int .i64 x59.act.at_, .int .i64 x59.act.val, .int .i64 x59.act.what, .bool x59.act.volatile, .bool x59.act.final, .int .i64 x59.rf, .int .i64 x59.id, .int .i64 x39], V171, rfl, le172, rfl, ow174⟩
    · have h176 := ifF c50 h49
      refine WP.exit ?_
      refine sqE (sqE (blkE (blkN (sqN ?_))))
      have h177 := exitS h176 e47
      refine WP.ureg rfl ?_
      refine U.p rfl rfl (.inl rfl) (S.add rfl (L 5 rfl rfl) K) ?_
      refine U.p rfl rfl (.inl rfl) (S.move rfl (L 0 rfl rfl)) ?_
      refine U.done (Nat.le_of_ble_eq_true rfl) ?_
      refine sqN ?_
      exact ⟨_, V42, rfl, ⟨m16, Nat.lt_succ_self _, v37, xs38, w64 (x8 + 1), rfl, (le14.trans le43), ow44, backS h177 e18⟩, (allCons (L 3 rfl rfl) (allCons (L 4 rfl rfl) (allCons (L 5 rfl rfl) (allCons (L 6 rfl rfl) (allCons (L 0 rfl rfl) allNil)))))⟩
  · have h178 := ifF c21 h20
    refine WP.exit ?_
    refine sqE (sqE (blkE (sqN ?_)))
    have h179 := exitS h178 e18
    refine WP.usreg rfl ?_
    refine U.p rfl rfl (.inl rfl) (S.move rfl (L 2 rfl rfl)) ?_
    refine U.p rfl rfl (.inl rfl) (S.assign rfl (L 0 rfl rfl)) ?_
    refine U.done (Nat.le_of_ble_eq_true rfl) ?_
    refine WP.ret ?_
    refine fin.slot (.inr rfl) rfl (L 0 rfl rfl) ⟨V13, rfl, le14, ?_⟩
    have e180 := Option.some.inj h179
    subst e180
    exact ⟨v6, rfl, ow15⟩

set_option maxHeartbeats 4000000 in
set_option maxRecDepth 10000 in
theorem wk_ref21_matrix (V : Vw) (Rs : List At) (p0 : Int) (ow : Ow V (Rs)) (r : List (List Bool)) (h : ref21_matrix p0 = some r) : ∃ v V', Cl Try.prog 0 33 #[.int .i64 p0] V.H v V'.H ∧ V.le V' ∧ (∃ (v1 : Value) (hs2 : List Value), v = v1 ∧ Ow V' (.oss (RO.os RT.bool) v1 hs2 r :: Rs)) := by
  refine Ct.of (Nat.zero_le _) Try.func33 rfl (Nat.le_of_ble_eq_true rfl) ?_
  unfold ref21_matrix at h
  refine WP.usreg rfl ?_
  refine U.p rfl rfl (.inl rfl) (S.assign rfl K) ?_
  refine U.done (Nat.le_of_ble_eq_true rfl) ?_
  refine WP.usreg rfl ?_
  refine U.p rfl rfl (.inl rfl) (S.move rfl (L 1 rfl rfl)) ?_
  obtain ⟨xs4, hx5, h6⟩ := bindS h
  refine O.makeS (RO.os RT.bool) ow rfl rfl (.inl rfl) rfl (L 0 rfl rfl) (L 0 rfl rfl) Try.underlying41 ti53 rfl rfl (Nat.le_of_ble_eq_true rfl) ⟨Nat.zero_le _, .inl ⟨rfl, rfl, rfl⟩⟩ hx5 (fun _ => nd) (fun v7 hs8 V9 le10 ow11 => ?_)
  refine U.p rfl rfl (.inl rfl) (S.assign rfl (L 0 rfl rfl)) ?_
  refine U.done (Nat.le_of_ble_eq_true rfl) ?_
  refine WP.seq ?_
  refine WP.usreg rfl ?_
  refine U.p rfl rfl (.inl rfl) (S.move rfl (L 0 rfl rfl)) ?_
  refine U.p rfl rfl (.inl rfl) (ow11.sslen (k := 0) rfl rfl (L 0 rfl rfl) Try.underlying41) ?_
  refine U.p rfl rfl (.inl rfl) (S.move rfl K) ?_
  refine U.done (Nat.le_of_ble_eq_true rfl) ?_
  refine WP.blk ?_
  unfold ref21_matrix_l1 at h6
  obtain ⟨n17, hn16⟩ := loopO_some.1 h6
  refine WP.loopI2 (fun n l V' => ∃ (hs13 : List Value) (xs14 : List (List Bool)) (x15 : Int), l = [(0, .int .i64 p0), (3, v7), (8, .int .i64 (xs4.length : Int)), (9, .int .i64 x15)] ∧ V9.le V' ∧ Ow V' (.oss (RO.os RT.bool) v7 hs13 xs14 :: Rs) ∧ itO (fun s => ref21_matrix_l1b p0 xs4 s.1 s.2) n (xs14, x15) = some r) n17 _ ⟨hs8, xs4, 0, rfl, .refl _, ow11, hn16⟩ (allCons (L 7 rfl rfl) (allCons (L 3 rfl rfl) (allCons (L 1 rfl rfl) (allCons (L 0 rfl rfl) allNil)))) ?_
  rintro _ _ V18 ⟨hs13, xs14, x15, rfl, le19, ow20, h24⟩
  obtain ⟨m21, q22, rfl, h25, e23⟩ := itS h24
  replace h25 : ref21_matrix_l1b p0 xs4 xs14 x15 = some q22 := h25
  unfold ref21_matrix_l1b at h25
  refine WP.usreg rfl ?_
  refine U.p rfl rfl (.inl rfl) (S.lss rfl (L 3 rfl rfl) (L 2 rfl rfl)) ?_
  refine U.done (Nat.le_of_ble_eq_true rfl) ?_
  refine WP.seq ?_
  refine WP.cond _ (L 0 rfl rfl) rfl (fun c26 => ?_) (fun c26 => ?_)
  · have h27 := ifT c26 h25
    refine WP.skip ?_
    refine sqN ?_
    refine WP.seq ?_
    refine WP.blk ?_
    refine WP.usreg rfl ?_
    refine U.p rfl rfl (.inl rfl) (S.move rfl (L 4 rfl rfl)) ?_
    refine U.p rfl rfl (.inl rfl) (S.assign rfl (L 0 rfl rfl)) ?_
    refine U.done (Nat.le_of_ble_eq_true rfl) ?_
    refine WP.ureg rfl ?_
    refine U.p rfl rfl (.inl rfl) (S.move rfl (L 4 rfl rfl)) ?_
    refine U.p rfl rfl (.inl rfl) (S.move rfl (L 1 rfl rfl)) ?_
    refine U.p rfl rfl (.inl rfl) (S.move rfl (L 5 rfl rfl)) ?_
    obtain ⟨xs28, hx29, h30⟩ := bindS h27
    refine O.make (R := RT.bool) ow20 rfl rfl (.inl rfl) rfl (L 0 rfl rfl) (L 0 rfl rfl) Try.underlying53 ti4 rfl rfl rfl (Nat.le_of_ble_eq_true rfl) rfl hx29 (fun _ => nd) (fun v31 V32 le33 ow34 => ?_)
    obtain ⟨x36, hx37, h38⟩ := bindS h30
    obtain ⟨b39, o40, n41, c42, hv43⟩ := ow34.sspt (k := 1) rfl hx37
    refine U.p rfl rfl (.inl rfl) (S.index rfl ((L 3 rfl rfl).trans (ow34.sslen' (k := 1) rfl hv43)) (L 2 rfl rfl) Try.underlying41 ti53 (ix_ge hx37) (ix_lt hx37)) ?_
    obtain ⟨h44, hh45, ow46⟩ := ow34.ssopen (k := 1) rfl hx37
    have ow48 := ow46.drop 0 rfl
    refine O.storeH (k := 1) ow48 rfl hv43 rfl rfl (.inl rfl) rfl (L 0 rfl rfl) (L 1 rfl rfl) ti53 (ow48.osne (k := 0) rfl) (by rw [ow48.oscells (k := 0) rfl]) (ow48.osone (k := 0) rfl) (fun _ _ => nd) (fun V49 le50 ow51 => ?_)
    have hh52 := ow51.shset (k := 1) rfl
    refine U.done (Nat.le_of_ble_eq_true rfl) ?_
    refine blkN (sqN ?_)
    refine WP.ureg rfl ?_
    refine U.p rfl rfl (.inl rfl) (S.add rfl (L 11 rfl rfl) K) ?_
    refine U.p rfl rfl (.inl rfl) (S.move rfl (L 0 rfl rfl)) ?_
    refine U.done (Nat.le_of_ble_eq_true rfl) ?_
    refine sqN ?_
    have ow53 := ow51.ssclose (k := 1) (j := 0) rfl rfl (by decide) hh52
    exact ⟨_, V49, rfl, ⟨m21, Nat.lt_succ_self _, hs13.set (Int.toNat x15) v31, xs14.set (Int.toNat x15) xs28, w64 (x15 + 1), rfl, ((le19.trans le33).trans le50), ow53, backS h38 e23⟩, (allCons (L 10 rfl rfl) (allCons (L 11 rfl rfl) (allCons (L 12 rfl rfl) (allCons (L 0 rfl rfl) allNil))))⟩
  · have h54 := ifF c26 h25
    refine WP.exit ?_
    refine sqE (sqE (blkE (sqN ?_)))
    have h55 := exitS h54 e23
    refine WP.usreg rfl ?_
    refine U.p rfl rfl (.inl rfl) (S.move rfl (L 2 rfl rfl)) ?_
    refine U.p rfl rfl (.inl rfl) (S.assign rfl (L 0 rfl rfl)) ?_
    refine U.done (Nat.le_of_ble_eq_true rfl) ?_
    refine WP.ret ?_
    refine fin.slot (.inr rfl) rfl (L 0 rfl rfl) ⟨V18, rfl, (le10.trans le19), ?_⟩
    have e56 := Option.some.inj h55
    subst e56
    exact ⟨v7, hs13, rfl, ow20⟩

end Go.Vm.GH21
