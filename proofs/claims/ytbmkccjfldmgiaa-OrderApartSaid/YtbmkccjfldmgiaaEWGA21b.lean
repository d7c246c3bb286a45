/-
  What the functions compute is what the plain ones say, for all inputs at which those answer.
-/
import Derived.Test.YtbmkccjfldmgiaaEWGA21
set_option linter.unusedSimpArgs false
set_option linter.unusedVariables false
namespace Go.Vm.GA21
open Go Go.Proofs
set_option maxHeartbeats 4000000 in
set_option maxRecDepth 10000 in
theorem wk_order_Run_Racy (V : Vw) (Rs : List At) (p0 : List (List TEvent)) (v1 : Value) (hs2 : List Value) (ow : Ow V (.oss (RO.os RT_TEvent) v1 hs2 p0 :: Rs)) (r : Bool) (h : order_Run_Racy p0 = some r) : ∃ v V', Cl Try.prog 0 17 #[v1] V.H v V'.H ∧ V.le V' ∧ (v = .bool r ∧ Ow V' (.oss (RO.os RT_TEvent) v1 hs2 p0 :: Rs)) := by
 refine Ct.of (Nat.zero_le _) Try.func17 rfl (nr rfl) ?_
 unfold order_Run_Racy at h
 refine WP.usreg rfl ?_
 refine U.p rfl rfl (.inl rfl) (S.assign rfl K) ?_
 refine U.done (nr rfl) ?_
 refine WP.usreg rfl ?_
 refine U.p rfl rfl (.inl rfl) (S.move rfl (L 1 rfl rfl)) ?_
 obtain ⟨x4, hx5, h6⟩ := bindS h
 refine O.call (V := V) rfl rfl (.inl rfl) rfl en23 (aC (L 0 rfl rfl) (aC Fu aN)) (wk_order_Run_nodes V _ p0 v1 hs2 ow _ hx5) (fun _ _ _ _ => nd) (fun v7 V8 le9 hp10 => ?_)
 obtain ⟨_, rfl, ow11⟩ := hp10
 refine U.p rfl rfl (.inl rfl) (S.assign rfl (L 0 rfl rfl)) ?_
 refine U.done (nr rfl) ?_
 refine WP.usreg rfl ?_
 refine U.p rfl rfl (.inl rfl) (S.move rfl (L 4 rfl rfl)) ?_
 refine U.p rfl rfl (.inl rfl) (S.move rfl (L 1 rfl rfl)) ?_
 have ow14 := ow11.pick 1 rfl
 obtain ⟨x15, hx16, h17⟩ := bindS h6
 refine O.call (V := V8) rfl rfl (.inl rfl) rfl en37 (aC (L 1 rfl rfl) (aC (L 0 rfl rfl) aN)) (wk_order_Run_happens V8 _ p0 x4 v1 hs2 v7 ow14 _ hx16) (fun _ _ _ _ => nd) (fun v18 V19 le20 hp21 => ?_)
 obtain ⟨_, hs24, rfl, ow22⟩ := hp21
 refine U.p rfl rfl (.inl rfl) (S.assign rfl (L 0 rfl rfl)) ?_
 refine U.done (nr rfl) ?_
 refine WP.seq ?_
 refine WP.usreg rfl ?_
 refine U.p rfl rfl (.inl rfl) (S.move rfl (L 4 rfl rfl)) ?_
 refine U.p rfl rfl (.inl rfl) (ow22.oslen (k := 2) rfl rfl (L 0 rfl rfl) Try.underlying38) ?_
 refine U.p rfl rfl (.inl rfl) (S.move rfl K) ?_
 refine U.done (nr rfl) ?_
 refine WP.blk ?_
 obtain ⟨V33, eV37, le34, f35, ow36⟩ := ow22.osfz (k := 2) rfl
 rw [← eV37]
 have ow39 := ow36.pick 0 rfl
 have ow40 := ow39.pick 1 rfl
 unfold order_Run_Racy_l1 at h17
 obtain ⟨n42, hn41⟩ := loopO_some.1 h17
 refine WP.loopI2 (fun n l V' => ∃ (xs26 : List Tnd) (v27 : Value) (xs29 : List Tnd) (v30 : Value) (x32 : Int), l = [(3, v27), (4, v18), (15, v30), (16, .int .i64 (x4.length : Int)), (17, .int .i64 x32)] ∧ V33.le V' ∧ Fz RT_Tnd V' v27 xs26 ∧ Fz RT_Tnd V' v30 xs29 ∧ Ow V' (.oss (RO.os RT_TEvent) v1 hs2 p0 :: .oss (RO.os RT.bool) v18 hs24 x15 :: Rs) ∧ itO (fun s => order_Run_Racy_l1b x4 x15 s.1 s.2.1 s.2.2) n (xs26, xs29, x32) = some r) n42 _ ⟨x4, v7, x4, v7, 0, rfl, .refl _, f35, f35, ow40, hn41⟩ (allCons (L 7 rfl rfl) (allCons (L 3 rfl rfl) (allCons (L 2 rfl rfl) (allCons (L 1 rfl rfl) (allCons (L 0 rfl rfl) allNil))))) ?_
 rintro _ _ V43 ⟨xs26, v27, xs29, v30, x32, rfl, le44, f28, f31, ow45, h49⟩
 obtain ⟨m46, q47, rfl, h50, e48⟩ := itS h49
 replace h50 : order_Run_Racy_l1b x4 x15 xs26 xs29 x32 = some q47 := h50
 unfold order_Run_Racy_l1b at h50
 refine WP.usreg rfl ?_
 refine U.p rfl rfl (.inl rfl) (S.lss rfl (L 4 rfl rfl) (L 3 rfl rfl)) ?_
 refine U.done (nr rfl) ?_
 refine WP.seq ?_
 refine WP.cond _ (L 0 rfl rfl) rfl (fun c51 => ?_) (fun c51 => ?_)
 ·have h52 := ifT c51 h50
  refine WP.skip ?_
  refine sqN ?_
  refine WP.seq ?_
  refine WP.blk ?_
  refine WP.usreg rfl ?_
  refine U.p rfl rfl (.inl rfl) (S.move rfl (L 5 rfl rfl)) ?_
  obtain ⟨x53, hx54, h55⟩ := bindS h52
  obtain ⟨b56, o57, c58, cs59, hv60, hf61, hr62, hc63⟩ := f31.at hx54
  obtain rfl : cs59 = [.int .i64 x53.e.t, .int .i64 x53.e.act.kind, .int .i64 x53.e.act.at_, .int .i64 x53.e.act.val, .int .i64 x53.e.act.what, .bool x53.e.act.volatile, .bool x53.e.act.final, .int .i64 x53.e.rf, .int .i64 x53.e.id, .int .i64 x53.at_] := hr62
  refine U.p rfl rfl (.inl rfl) (S.index rfl ((L 4 rfl rfl).trans hv60) (L 6 rfl rfl) Try.underlying38 ti45 (ix_ge hx54) (ix_lt hx54)) ?_
  refine U.k rfl rfl (.inl rfl) (S.loadN (cs := [.int .i64 x53.e.t, .int .i64 x53.e.act.kind, .int .i64 x53.e.act.at_, .int .i64 x53.e.act.val, .int .i64 x53.e.act.what, .bool x53.e.act.volatile, .bool x53.e.act.final, .int .i64 x53.e.rf, .int .i64 x53.e.id, .int .i64 x53.at_]) rfl (L 0 rfl rfl) Try.underlying45 rfl ti45 rfl (fun j v hj => hc63 j v hj)) nd ?_
  refine O.alloc ow45 rfl rfl (.inl rfl) rfl ti45 rfl rfl nd (fun b64 V65 le66 ow67 => ?_)
  refine U.p rfl rfl (.inl rfl) (S.assign rfl (L 3 rfl rfl)) ?_
  refine O.store (k := 0) (cs := [.int .i64 x53.e.t, .int .i64 x53.e.act.kind, .int .i64 x53.e.act.at_, .int .i64 x53.e.act.val, .int .i64 x53.e.act.what, .bool x53.e.act.volatile, .bool x53.e.act.final, .int .i64 x53.e.rf, .int .i64 x53.e.id, .int .i64 x53.at_]) (c' := [.int .i64 x53.e.t, .int .i64 x53.e.act.kind, .int .i64 x53.e.act.at_, .int .i64 x53.e.act.val, .int .i64 x53.e.act.what, .bool x53.e.act.volatile, .bool x53.e.act.final, .int .i64 x53.e.rf, .int .i64 x53.e.id, .int .i64 x53.at_]) ow67 rfl rfl rfl (.inl rfl) rfl (L 1 rfl rfl) (L 2 rfl rfl) ti45 (by simp [topV]) rfl rfl (nr rfl) rfl rfl nd (fun V69 le70 ow71 => ?_)
  refine U.done (nr rfl) ?_
  refine WP.usreg rfl ?_
  refine U.p rfl rfl (.inl rfl) (S.move rfl (L 6 rfl rfl)) ?_
  refine U.p rfl rfl (.inl rfl) (S.move rfl (L 1 rfl rfl)) ?_
  have f72 := f28.up (le66.trans le70)
  obtain ⟨xs73, hx74, h75⟩ := bindS h55
  refine O.subF f72 hx74 rfl rfl (.inl rfl) rfl (L 1 rfl rfl) Try.underlying38 ti45 ⟨.inl ⟨rfl, rfl⟩, .inr ⟨_, _, rfl, (L 0 rfl rfl)⟩, .inl rfl⟩ (fun v76 f78 => ?_)
  refine U.p rfl rfl (.inl rfl) (f78.1.len rfl (L 0 rfl rfl) Try.underlying38) ?_
  refine U.p rfl rfl (.inl rfl) (S.move rfl K) ?_
  refine U.done (nr rfl) ?_
  refine WP.blk ?_
  have ow80 := ow71.pick 0 rfl
  have ow81 := ow80.pick 2 rfl
  have ow82 := ow81.pick 2 rfl
  unfold order_Run_Racy_l2 at h75
  obtain ⟨n84, hn83⟩ := loopO_some.1 h75
  refine WP.loopI2 (fun n l V' => ∃ (x79 : Int), l = [(3, v27), (4, v18), (5, .int .i64 x32), (6, .pointer (some ⟨b64, 0, none⟩)), (15, v30), (16, .int .i64 (x4.length : Int)), (17, .int .i64 x32), (24, v76), (25, .int .i64 (xs73.length : Int)), (26, .int .i64 x79)] ∧ V69.le V' ∧ Ow V' (.oss (RO.os RT_TEvent) v1 hs2 p0 :: .oss (RO.os RT.bool) v18 hs24 x15 :: .pt b64 (.cells 10 [.int .i64 x53.e.t, .int .i64 x53.e.act.kind, .int .i64 x53.e.act.at_, .int .i64 x53.e.act.val, .int .i64 x53.e.act.what, .bool x53.e.act.volatile, .bool x53.e.act.final, .int .i64 x53.e.rf, .int .i64 x53.e.id, .int .i64 x53.at_]) :: Rs) ∧ itO (fun s => order_Run_Racy_l2b x15 xs26 xs29 x32 x53 xs73 s) n x79 = some q47) n84 _ ⟨0, rfl, .refl _, ow82, hn83⟩ (allCons (L 11 rfl rfl) (allCons (L 12 rfl rfl) (allCons (L 5 rfl rfl) (allCons (L 6 rfl rfl) (allCons (L 13 rfl rfl) (allCons (L 14 rfl rfl) (allCons (L 15 rfl rfl) (allCons (L 2 rfl rfl) (allCons (L 1 rfl rfl) (allCons (L 0 rfl rfl) allNil)))))))))) ?_
  rintro _ _ V85 ⟨x79, rfl, le86, ow87, h91⟩
  obtain ⟨m88, q89, rfl, h92, e90⟩ := itS h91
  replace h92 : order_Run_Racy_l2b x15 xs26 xs29 x32 x53 xs73 x79 = some q89 := h92
  unfold order_Run_Racy_l2b at h92
  refine WP.usreg rfl ?_
  refine U.p rfl rfl (.inl rfl) (S.lss rfl (L 9 rfl rfl) (L 8 rfl rfl)) ?_
  refine U.done (nr rfl) ?_
  refine WP.seq ?_
  refine WP.cond _ (L 0 rfl rfl) rfl (fun c93 => ?_) (fun c93 => ?_)
  ·have h94 := ifT c93 h92
   refine WP.skip ?_
   refine sqN ?_
   refine WP.seq ?_
   refine WP.blk ?_
   refine WP.usreg rfl ?_
   refine U.p rfl rfl (.inl rfl) (S.move rfl (L 10 rfl rfl)) ?_
   obtain ⟨x95, hx96, h97⟩ := bindS h94
   obtain ⟨b98, o99, c100, cs101, hv102, hf103, hr104, hc105⟩ := f78.at hx96
   obtain rfl : cs101 = [.int .i64 x95.e.t, .int .i64 x95.e.act.kind, .int .i64 x95.e.act.at_, .int .i64 x95.e.act.val, .int .i64 x95.e.act.what, .bool x95.e.act.volatile, .bool x95.e.act.final, .int .i64 x95.e.rf, .int .i64 x95.e.id, .int .i64 x95.at_] := hr104
   refine U.p rfl rfl (.inl rfl) (S.index rfl ((L 9 rfl rfl).trans hv102) (L 11 rfl rfl) Try.underlying38 ti45 (ix_ge hx96) (ix_lt hx96)) ?_
   refine U.k rfl rfl (.inl rfl) (S.loadN (cs := [.int .i64 x95.e.t, .int .i64 x95.e.act.kind, .int .i64 x95.e.act.at_, .int .i64 x95.e.act.val, .int .i64 x95.e.act.what, .bool x95.e.act.volatile, .bool x95.e.act.final, .int .i64 x95.e.rf, .int .i64 x95.e.id, .int .i64 x95.at_]) rfl (L 0 rfl rfl) Try.underlying45 rfl ti45 rfl (fun j v hj => le86.cell hf103 (hc105 j v hj))) nd ?_
   refine O.alloc ow87 rfl rfl (.inl rfl) rfl ti45 rfl rfl nd (fun b106 V107 le108 ow109 => ?_)
   refine U.p rfl rfl (.inl rfl) (S.assign rfl (L 3 rfl rfl)) ?_
   refine O.store (k := 0) (cs := [.int .i64 x95.e.t, .int .i64 x95.e.act.kind, .int .i64 x95.e.act.at_, .int .i64 x95.e.act.val, .int .i64 x95.e.act.what, .bool x95.e.act.volatile, .bool x95.e.act.final, .int .i64 x95.e.rf, .int .i64 x95.e.id, .int .i64 x95.at_]) (c' := [.int .i64 x95.e.t, .int .i64 x95.e.act.kind, .int .i64 x95.e.act.at_, .int .i64 x95.e.act.val, .int .i64 x95.e.act.what, .bool x95.e.act.volatile, .bool x95.e.act.final, .int .i64 x95.e.rf, .int .i64 x95.e.id, .int .i64 x95.at_]) ow109 rfl rfl rfl (.inl rfl) rfl (L 1 rfl rfl) (L 2 rfl rfl) ti45 (by simp [topV]) rfl rfl (nr rfl) rfl rfl nd (fun V111 le112 ow113 => ?_)
   refine U.done (nr rfl) ?_
   refine WP.usreg rfl ?_
   refine U.p (v := .pointer (some ⟨b64, 0, none⟩)) rfl rfl (.inl rfl) (S.fieldAddr rfl (L 9 rfl rfl) Try.underlying45 rfl ti31 rfl rfl) ?_
   refine U.p (v := .pointer (some ⟨b64, 1, none⟩)) rfl rfl (.inl rfl) (S.fieldAddr rfl (L 0 rfl rfl) Try.underlying31 rfl ti29 rfl rfl) ?_
   refine U.k rfl rfl (.inl rfl) (S.loadN (cs := [.int .i64 x53.e.act.kind, .int .i64 x53.e.act.at_, .int .i64 x53.e.act.val, .int .i64 x53.e.act.what, .bool x53.e.act.volatile, .bool x53.e.act.final]) rfl (L 0 rfl rfl) Try.underlying29 rfl ti29 rfl (cellsOfOwn (ow113.own (k := 3) rfl) 1 rfl)) nd ?_
   obtain ⟨x114, hx115, h116⟩ := bindS h97
   refine O.call (V := V111) rfl rfl (.inl rfl) rfl en36 (aC (L 0 rfl rfl) aN) (wk_order_syncs V111 _ x53.e.act ow113 _ hx115) (fun _ _ _ _ => nd) (fun v117 V118 le119 hp120 => ?_)
   obtain ⟨rfl, ow121⟩ := hp120
   refine U.p rfl rfl (.inl rfl) (S.not rfl (L 0 rfl rfl)) ?_
   refine U.p rfl rfl (.inl rfl) (S.move rfl (L 0 rfl rfl)) ?_
   obtain ⟨y122, hy123, h124⟩ := bindS h116
   refine U.joinX 12 (fun e H => ∃ (u125 u126 u127 u128 u129 : Value), ∃ V' : Vw, H = V'.H ∧ V118.le V' ∧ e = [(42, .bool y122), (41, u125), (40, u126), (39, u127), (38, u128), (37, u129)] ∧ Ow V' (.pt b106 (.cells 10 [.int .i64 x95.e.t, .int .i64 x95.e.act.kind, .int .i64 x95.e.act.at_, .int .i64 x95.e.act.val, .int .i64 x95.e.act.what, .bool x95.e.act.volatile, .bool x95.e.act.final, .int .i64 x95.e.rf, .int .i64 x95.e.id, .int .i64 x95.at_]) :: .oss (RO.os RT_TEvent) v1 hs2 p0 :: .oss (RO.os RT.bool) v18 hs24 x15 :: .pt b64 (.cells 10 [.int .i64 x53.e.t, .int .i64 x53.e.act.kind, .int .i64 x53.e.act.at_, .int .i64 x53.e.act.val, .int .i64 x53.e.act.what, .bool x53.e.act.volatile, .bool x53.e.act.final, .int .i64 x53.e.rf, .int .i64 x53.e.id, .int .i64 x53.at_]) :: Rs)) ?_ ?_
   ·rintro _ _ ⟨u125, u126, u127, u128, u129, V130, rfl, le131, rfl, ow132⟩
    refine U.p rfl rfl (.inl rfl) (S.assign rfl (L 0 rfl rfl)) ?_
    refine U.done (nr rfl) ?_
    refine WP.usreg rfl ?_
    refine U.p rfl rfl (.inl rfl) (S.move rfl (L 0 rfl rfl)) ?_
    refine U.p rfl rfl (.inl rfl) (S.move rfl (L 0 rfl rfl)) ?_
    refine U.joinX 10 (fun e H => ∃ (u133 u134 u135 u136 u137 u138 u139 : Value), H = V130.H ∧ e = [(52, .bool (y122 && (decide (x53.e.t ≠ x95.e.t)))), (51, u133), (50, u134), (49, u135), (48, u136), (47, u137), (46, u138), (45, u139)]) ?_ ?_
    ·rintro _ _ ⟨u133, u134, u135, u136, u137, u138, u139, rfl, rfl⟩
     refine U.p rfl rfl (.inl rfl) (S.move rfl (L 0 rfl rfl)) ?_
     refine U.joinX 21 (fun e H => ∃ (u143 u144 u145 u146 u147 u148 u149 u150 u151 : Value), H = V130.H ∧ e = [(63, .bool ((y122 && (decide (x53.e.t ≠ x95.e.t))) && (decide (x53.e.act.at_ = x95.e.act.at_)))), (62, u143), (61, u144), (60, u145), (59, u146), (58, u147), (57, u148), (56, u149), (55, u150), (54, u151)]) ?_ ?_
     ·rintro _ _ ⟨u143, u144, u145, u146, u147, u148, u149, u150, u151, rfl, rfl⟩
      refine U.p rfl rfl (.inl rfl) (S.move rfl (L 0 rfl rfl)) ?_
      obtain ⟨y155, hy156, h157⟩ := bindS h124
      refine U.joinX 33 (fun e H => ∃ (u158 u159 u160 u161 u162 u163 u164 u165 u166 u167 : Value), ∃ V' : Vw, H = V'.H ∧ V130.le V' ∧ e = [(75, .bool y155), (74, u158), (73, u159), (72, u160), (71, u161), (70, u162), (69, u163), (68, u164), (67, u165), (66, u166), (65, u167)] ∧ Ow V' (.pt b106 (.cells 10 [.int .i64 x95.e.t, .int .i64 x95.e.act.kind, .int .i64 x95.e.act.at_, .int .i64 x95.e.act.val, .int .i64 x95.e.act.what, .bool x95.e.act.volatile, .bool x95.e.act.final, .int .i64 x95.e.rf, .int .i64 x95.e.id, .int .i64 x95.at_]) :: .oss (RO.os RT_TEvent) v1 hs2 p0 :: .oss (RO.os RT.bool) v18 hs24 x15 :: .pt b64 (.cells 10 [.int .i64 x53.e.t, .int .i64 x53.e.act.kind, .int .i64 x53.e.act.at_, .int .i64 x53.e.act.val, .int .i64 x53.e.act.what, .bool x53.e.act.volatile, .bool x53.e.act.final, .int .i64 x53.e.rf, .int .i64 x53.e.id, .int .i64 x53.at_]) :: Rs)) ?_ ?_
      ·rintro _ _ ⟨u158, u159, u160, u161, u162, u163, u164, u165, u166, u167, V168, rfl, le169, rfl, ow170⟩
       refine U.p rfl rfl (.inl rfl) (S.move rfl (L 0 rfl rfl)) ?_
       obtain ⟨y171, hy172, h173⟩ := bindS h157
       refine U.joinX 43 (fun e H => ∃ (u174 u175 u176 u177 u178 u179 u180 u181 : Value), H = V168.H ∧ e = [(85, .bool y171), (84, u174), (83, u175), (82, u176), (81, u177), (80, u178), (79, u179), (78, u180), (77, u181)]) ?_ ?_
       ·rintro _ _ ⟨u174, u175, u176, u177, u178, u179, u180, u181, rfl, rfl⟩
        refine U.p rfl rfl (.inl rfl) (S.move rfl (L 0 rfl rfl)) ?_
        obtain ⟨y185, hy186, h187⟩ := bindS h173
        refine U.joinX 53 (fun e H => ∃ (u188 u189 u190 u191 u192 u193 u194 u195 : Value), H = V168.H ∧ e = [(95, .bool y185), (94, u188), (93, u189), (92, u190), (91, u191), (90, u192), (89, u193), (88, u194), (87, u195)]) ?_ ?_
        ·rintro _ _ ⟨u188, u189, u190, u191, u192, u193, u194, u195, rfl, rfl⟩
         refine U.done (nr rfl) ?_
         refine WP.cond _ (L 0 rfl rfl) rfl (fun c199 => ?_) (fun c199 => ?_)
         ·have h200 := ifT c199 h187
          refine WP.usreg rfl ?_
          refine U.p rfl rfl (.inl rfl) (S.assign rfl K) ?_
          refine U.done (nr rfl) ?_
          refine WP.ret ?_
          refine blkR (sqR (sqR (blkR (blkR (sqR (sqR (blkR (sqR ?_))))))))
          have h201 := exitS h200 e90
          have h202 := exitS h201 e48
          refine fin.slot (.inr rfl) rfl (L 0 rfl rfl) ⟨V168, rfl, (((((((((((le9.trans le20).trans le34).trans le44).trans le66).trans le70).trans le86).trans le108).trans le112).trans le119).trans le131).trans le169), ?_⟩
          have ow203 := ow170.drop 0 rfl
          have ow204 := ow203.drop 1 rfl
          have ow205 := ow204.drop 1 rfl
          have e206 := Option.some.inj h202
          subst e206
          exact ⟨rfl, ow205⟩
         ·have h207 := ifF c199 h187
          refine WP.skip ?_
          refine blkN (sqN ?_)
          refine WP.ureg rfl ?_
          refine U.p rfl rfl (.inl rfl) (S.add rfl (L 81 rfl rfl) K) ?_
          refine U.p rfl rfl (.inl rfl) (S.move rfl (L 0 rfl rfl)) ?_
          refine U.done (nr rfl) ?_
          refine sqN ?_
          have ow208 := ow170.drop 0 rfl
          exact ⟨_, V168, rfl, ⟨m88, Nat.lt_succ_self _, w64 (x79 + 1), rfl, (((((le86.trans le108).trans le112).trans le119).trans le131).trans le169), ow208, backS h207 e90⟩, (allCons (L 74 rfl rfl) (allCons (L 75 rfl rfl) (allCons (L 76 rfl rfl) (allCons (L 77 rfl rfl) (allCons (L 78 rfl rfl) (allCons (L 79 rfl rfl) (allCons (L 80 rfl rfl) (allCons (L 81 rfl rfl) (allCons (L 82 rfl rfl) (allCons (L 0 rfl rfl) allNil))))))))))⟩
        ·intro kk
         refine bcase (b := y171) (fun g209 => ?_) (fun g209 => ?_)
         ·have h210 := ifT g209 hy186
          refine U.p rfl rfl (.inr ⟨_, _, _, rfl, rfl, ((L 0 rfl rfl).trans (congrArg Value.bool g209))⟩) (S.move rfl (L 64 rfl rfl)) ?_
          refine U.p rfl rfl (.inr ⟨_, _, _, rfl, rfl, ((L 1 rfl rfl).trans (congrArg Value.bool g209))⟩) (S.move rfl (L 58 rfl rfl)) ?_
          obtain ⟨x211, hx212, h213⟩ := bindS h210
          obtain ⟨b214, o215, n216, c217, hv218⟩ := ow170.sspt (k := 2) rfl hx212
          refine U.p rfl rfl (.inr ⟨_, _, _, rfl, rfl, ((L 2 rfl rfl).trans (congrArg Value.bool g209))⟩) (S.index rfl ((L 1 rfl rfl).trans (ow170.sslen' (k := 2) rfl hv218)) (L 0 rfl rfl) Try.underlying42 ti53 (ix_ge hx212) (ix_lt hx212)) ?_
          obtain ⟨h219, hh220, ow221⟩ := ow170.ssopen (k := 2) rfl hx212
          have hcl223 := ow221.shcell (k := 3) rfl hv218 hh220
          refine U.k rfl rfl (.inr ⟨_, _, _, rfl, rfl, ((L 3 rfl rfl).trans (congrArg Value.bool g209))⟩) (S.load rfl (L 0 rfl rfl) Try.underlying53 rfl hcl223.2) nd ?_
          refine U.p rfl rfl (.inr ⟨_, _, _, rfl, rfl, ((L 4 rfl rfl).trans (congrArg Value.bool g209))⟩) (S.move rfl (L 69 rfl rfl)) ?_
          obtain ⟨x224, hx225, h226⟩ := bindS h213
          obtain ⟨b227, o228, n229, c230, hv231⟩ := ow221.ospt (k := 0) rfl hx225
          obtain ⟨_, hv232, _⟩ := ow221.osel (k := 0) rfl hv231 hx225
          refine U.p rfl rfl (.inr ⟨_, _, _, rfl, rfl, ((L 5 rfl rfl).trans (congrArg Value.bool g209))⟩) (S.index rfl ((L 1 rfl rfl).trans hv232) (L 0 rfl rfl) Try.underlying53 ti4 (ix_ge hx225) (ix_lt hx225)) ?_
          obtain ⟨cs233, hv234, hlt235, hr236, hc237⟩ := ow221.osel (k := 0) rfl hv231 hx225
          obtain rfl : cs233 = [.bool x224] := hr236
          refine U.k rfl rfl (.inr ⟨_, _, _, rfl, rfl, ((L 6 rfl rfl).trans (congrArg Value.bool g209))⟩) (S.load rfl (L 0 rfl rfl) Try.underlying4 rfl (hc237 0 _ rfl)) nd ?_
          refine U.p rfl rfl (.inr ⟨_, _, _, rfl, rfl, ((L 7 rfl rfl).trans (congrArg Value.bool g209))⟩) (S.not rfl (L 0 rfl rfl)) ?_
          refine U.p rfl rfl (.inl rfl) (S.pickT rfl ((L 8 rfl rfl).trans (congrArg Value.bool g209)) (L 0 rfl rfl)) ?_
          have ow238 := ow221.ssclose' (k := 3) (j := 0) rfl rfl (by decide) hh220 hx212
          have e239 := Option.some.inj h226
          subst e239
          exact kk [(95, .bool (!x224)), (94, .bool (!x224)), (93, .bool x224), (92, .pointer (some ⟨b227, o228 + Int.toNat x32 * 1, none⟩)), (91, .int .i64 x32), (90, h219), (89, .pointer (some ⟨b214, o215 + Int.toNat x79 * 1, none⟩)), (88, .int .i64 x79), (87, v18)] _ ⟨.bool (!x224), .bool x224, .pointer (some ⟨b227, o228 + Int.toNat x32 * 1, none⟩), .int .i64 x32, h219, .pointer (some ⟨b214, o215 + Int.toNat x79 * 1, none⟩), .int .i64 x79, v18, rfl, rfl⟩
         ·have h240 := ifF g209 hy186
          refine U.x rfl rfl rfl rfl ((L 0 rfl rfl).trans (congrArg Value.bool g209)) (by decide) ?_
          refine U.x rfl rfl rfl rfl ((L 1 rfl rfl).trans (congrArg Value.bool g209)) (by decide) ?_
          refine U.x rfl rfl rfl rfl ((L 2 rfl rfl).trans (congrArg Value.bool g209)) (by decide) ?_
          refine U.x rfl rfl rfl rfl ((L 3 rfl rfl).trans (congrArg Value.bool g209)) (by decide) ?_
          refine U.x rfl rfl rfl rfl ((L 4 rfl rfl).trans (congrArg Value.bool g209)) (by decide) ?_
          refine U.x rfl rfl rfl rfl ((L 5 rfl rfl).trans (congrArg Value.bool g209)) (by decide) ?_
          refine U.x rfl rfl rfl rfl ((L 6 rfl rfl).trans (congrArg Value.bool g209)) (by decide) ?_
          refine U.x rfl rfl rfl rfl ((L 7 rfl rfl).trans (congrArg Value.bool g209)) (by decide) ?_
          refine U.p rfl rfl (.inl rfl) (S.pickF rfl ((L 8 rfl rfl).trans (congrArg Value.bool g209)) K) ?_
          have e241 := Option.some.inj h240
          subst e241
          exact kk [(95, .bool false), (94, .tuple #[]), (93, .tuple #[]), (92, .tuple #[]), (91, .tuple #[]), (90, .tuple #[]), (89, .tuple #[]), (88, .tuple #[]), (87, .tuple #[])] _ ⟨.tuple #[], .tuple #[], .tuple #[], .tuple #[], .tuple #[], .tuple #[], .tuple #[], .tuple #[], rfl, rfl⟩
       ·intro kk
        refine bcase (b := y155) (fun g242 => ?_) (fun g242 => ?_)
        ·have h243 := ifT g242 hy172
         refine U.p rfl rfl (.inr ⟨_, _, _, rfl, rfl, ((L 0 rfl rfl).trans (congrArg Value.bool g242))⟩) (S.move rfl (L 54 rfl rfl)) ?_
         refine U.p rfl rfl (.inr ⟨_, _, _, rfl, rfl, ((L 1 rfl rfl).trans (congrArg Value.bool g242))⟩) (S.move rfl (L 56 rfl rfl)) ?_
         obtain ⟨x244, hx245, h246⟩ := bindS h243
         obtain ⟨b247, o248, n249, c250, hv251⟩ := ow170.sspt (k := 2) rfl hx245
         refine U.p rfl rfl (.inr ⟨_, _, _, rfl, rfl, ((L 2 rfl rfl).trans (congrArg Value.bool g242))⟩) (S.index rfl ((L 1 rfl rfl).trans (ow170.sslen' (k := 2) rfl hv251)) (L 0 rfl rfl) Try.underlying42 ti53 (ix_ge hx245) (ix_lt hx245)) ?_
         obtain ⟨h252, hh253, ow254⟩ := ow170.ssopen (k := 2) rfl hx245
         have hcl256 := ow254.shcell (k := 3) rfl hv251 hh253
         refine U.k rfl rfl (.inr ⟨_, _, _, rfl, rfl, ((L 3 rfl rfl).trans (congrArg Value.bool g242))⟩) (S.load rfl (L 0 rfl rfl) Try.underlying53 rfl hcl256.2) nd ?_
         refine U.p rfl rfl (.inr ⟨_, _, _, rfl, rfl, ((L 4 rfl rfl).trans (congrArg Value.bool g242))⟩) (S.move rfl (L 51 rfl rfl)) ?_
         obtain ⟨x257, hx258, h259⟩ := bindS h246
         obtain ⟨b260, o261, n262, c263, hv264⟩ := ow254.ospt (k := 0) rfl hx258
         obtain ⟨_, hv265, _⟩ := ow254.osel (k := 0) rfl hv264 hx258
         refine U.p rfl rfl (.inr ⟨_, _, _, rfl, rfl, ((L 5 rfl rfl).trans (congrArg Value.bool g242))⟩) (S.index rfl ((L 1 rfl rfl).trans hv265) (L 0 rfl rfl) Try.underlying53 ti4 (ix_ge hx258) (ix_lt hx258)) ?_
         obtain ⟨cs266, hv267, hlt268, hr269, hc270⟩ := ow254.osel (k := 0) rfl hv264 hx258
         obtain rfl : cs266 = [.bool x257] := hr269
         refine U.k rfl rfl (.inr ⟨_, _, _, rfl, rfl, ((L 6 rfl rfl).trans (congrArg Value.bool g242))⟩) (S.load rfl (L 0 rfl rfl) Try.underlying4 rfl (hc270 0 _ rfl)) nd ?_
         refine U.p rfl rfl (.inr ⟨_, _, _, rfl, rfl, ((L 7 rfl rfl).trans (congrArg Value.bool g242))⟩) (S.not rfl (L 0 rfl rfl)) ?_
         refine U.p rfl rfl (.inl rfl) (S.pickT rfl ((L 8 rfl rfl).trans (congrArg Value.bool g242)) (L 0 rfl rfl)) ?_
         have ow271 := ow254.ssclose' (k := 3) (j := 0) rfl rfl (by decide) hh253 hx245
         have e272 := Option.some.inj h259
         subst e272
         exact kk [(85, .bool (!x257)), (84, .bool (!x257)), (83, .bool x257), (82, .pointer (some ⟨b260, o261 + Int.toNat x79 * 1, none⟩)), (81, .int .i64 x79), (80, h252), (79, .pointer (some ⟨b247, o248 + Int.toNat x32 * 1, none⟩)), (78, .int .i64 x32), (77, v18)] _ ⟨.bool (!x257), .bool x257, .pointer (some ⟨b260, o261 + Int.toNat x79 * 1, none⟩), .int .i64 x79, h252, .pointer (some ⟨b247, o248 + Int.toNat x32 * 1, none⟩), .int .i64 x32, v18, rfl, rfl⟩
        ·have h273 := ifF g242 hy172
         refine U.x rfl rfl rfl rfl ((L 0 rfl rfl).trans (congrArg Value.bool g242)) (by decide) ?_
         refine U.x rfl rfl rfl rfl ((L 1 rfl rfl).trans (congrArg Value.bool g242)) (by decide) ?_
         refine U.x rfl rfl rfl rfl ((L 2 rfl rfl).trans (congrArg Value.bool g242)) (by decide) ?_
         refine U.x rfl rfl rfl rfl ((L 3 rfl rfl).trans (congrArg Value.bool g242)) (by decide) ?_
         refine U.x rfl rfl rfl rfl ((L 4 rfl rfl).trans (congrArg Value.bool g242)) (by decide) ?_
         refine U.x rfl rfl rfl rfl ((L 5 rfl rfl).trans (congrArg Value.bool g242)) (by decide) ?_
         refine U.x rfl rfl rfl rfl ((L 6 rfl rfl).trans (congrArg Value.bool g242)) (by decide) ?_
         refine U.x rfl rfl rfl rfl ((L 7 rfl rfl).trans (congrArg Value.bool g242)) (by decide) ?_
         refine U.p rfl rfl (.inl rfl) (S.pickF rfl ((L 8 rfl rfl).trans (congrArg Value.bool g242)) K) ?_
         have e274 := Option.some.inj h273
         subst e274
         exact kk [(85, .bool false), (84, .tuple #[]), (83, .tuple #[]), (82, .tuple #[]), (81, .tuple #[]), (80, .tuple #[]), (79, .tuple #[]), (78, .tuple #[]), (77, .tuple #[])] _ ⟨.tuple #[], .tuple #[], .tuple #[], .tuple #[], .tuple #[], .tuple #[], .tuple #[], .tuple #[], rfl, rfl⟩
      ·intro kk
       refine bcase (b := (y122 && (decide (x53.e.t ≠ x95.e.t))) && (decide (x53.e.act.at_ = x95.e.act.at_))) (fun g275 => ?_) (fun g275 => ?_)
       ·have h276 := ifT g275 hy156
        refine U.p (v := .pointer (some ⟨b64, 0, none⟩)) rfl rfl (.inr ⟨_, _, _, rfl, rfl, ((L 0 rfl rfl).trans (congrArg Value.bool g275))⟩) (S.fieldAddr rfl (L 44 rfl rfl) Try.underlying45 rfl ti31 rfl rfl) ?_
        refine U.p (v := .pointer (some ⟨b64, 1, none⟩)) rfl rfl (.inr ⟨_, _, _, rfl, rfl, ((L 1 rfl rfl).trans (congrArg Value.bool g275))⟩) (S.fieldAddr rfl (L 0 rfl rfl) Try.underlying31 rfl ti29 rfl rfl) ?_
        refine U.k rfl rfl (.inr ⟨_, _, _, rfl, rfl, ((L 2 rfl rfl).trans (congrArg Value.bool g275))⟩) (S.loadN (cs := [.int .i64 x53.e.act.kind, .int .i64 x53.e.act.at_, .int .i64 x53.e.act.val, .int .i64 x53.e.act.what, .bool x53.e.act.volatile, .bool x53.e.act.final]) rfl (L 0 rfl rfl) Try.underlying29 rfl ti29 rfl (cellsOfOwn (ow132.own (k := 3) rfl) 1 rfl)) nd ?_
        obtain ⟨x277, hx278, h279⟩ := bindS h276
        refine O.call (V := V130) rfl rfl (.inr ⟨_, _, _, rfl, rfl, ((L 3 rfl rfl).trans (congrArg Value.bool g275))⟩) rfl en39 (aC (L 0 rfl rfl) aN) (wk_order_writes V130 _ x53.e.act ow132 _ hx278) (fun _ _ _ _ => nd) (fun v280 V281 le282 hp283 => ?_)
        obtain ⟨rfl, ow284⟩ := hp283
        refine U.p rfl rfl (.inr ⟨_, _, _, rfl, rfl, ((L 4 rfl rfl).trans (congrArg Value.bool g275))⟩) (S.move rfl (L 0 rfl rfl)) ?_
        obtain ⟨y285, hy286, h287⟩ := bindS h279
        refine U.joinX 32 (fun e H => ∃ (u288 u289 u290 u291 : Value), ∃ V' : Vw, H = V'.H ∧ V281.le V' ∧ e = [(74, .bool y285), (73, u288), (72, u289), (71, u290), (70, u291)] ∧ Ow V' (.pt b106 (.cells 10 [.int .i64 x95.e.t, .int .i64 x95.e.act.kind, .int .i64 x95.e.act.at_, .int .i64 x95.e.act.val, .int .i64 x95.e.act.what, .bool x95.e.act.volatile, .bool x95.e.act.final, .int .i64 x95.e.rf, .int .i64 x95.e.id, .int .i64 x95.at_]) :: .oss (RO.os RT_TEvent) v1 hs2 p0 :: .oss (RO.os RT.bool) v18 hs24 x15 :: .pt b64 (.cells 10 [.int .i64 x53.e.t, .int .i64 x53.e.act.kind, .int .i64 x53.e.act.at_, .int .i64 x53.e.act.val, .int .i64 x53.e.act.what, .bool x53.e.act.volatile, .bool x53.e.act.final, .int .i64 x53.e.rf, .int .i64 x53.e.id, .int .i64 x53.at_]) :: Rs)) ?_ ?_
        ·rintro _ _ ⟨u288, u289, u290, u291, V292, rfl, le293, rfl, ow294⟩
         refine U.p rfl rfl (.inl rfl) (S.pickT rfl ((L 10 rfl rfl).trans (congrArg Value.bool g275)) (L 0 rfl rfl)) ?_
         have e295 := Option.some.inj h287
         subst e295
         exact kk [(75, .bool y285), (74, .bool y285), (73, u288), (72, u289), (71, u290), (70, u291), (69, .bool x277), (68, .bool x277), (67, .agg #[.int .i64 x53.e.act.kind, .int .i64 x53.e.act.at_, .int .i64 x53.e.act.val, .int .i64 x53.e.act.what, .bool x53.e.act.volatile, .bool x53.e.act.final]), (66, .pointer (some ⟨b64, 1, none⟩)), (65, .pointer (some ⟨b64, 0, none⟩))] _ ⟨.bool y285, u288, u289, u290, u291, .bool x277, .bool x277, .agg #[.int .i64 x53.e.act.kind, .int .i64 x53.e.act.at_, .int .i64 x53.e.act.val, .int .i64 x53.e.act.what, .bool x53.e.act.volatile, .bool x53.e.act.final], .pointer (some ⟨b64, 1, none⟩), .pointer (some ⟨b64, 0, none⟩), V292, rfl, (le282.trans le293), rfl, ow294⟩
        ·intro kk
         refine bcase (b := x277) (fun g296 => ?_) (fun g296 => ?_)
         ·have h297 := ifT g296 hy286
          refine U.x rfl rfl rfl rfl ((L 0 rfl rfl).trans (congrArg Value.bool g296)) (by decide) ?_
          refine U.x rfl rfl rfl rfl ((L 1 rfl rfl).trans (congrArg Value.bool g296)) (by decide) ?_
          refine U.x rfl rfl rfl rfl ((L 2 rfl rfl).trans (congrArg Value.bool g296)) (by decide) ?_
          refine U.x rfl rfl rfl rfl ((L 3 rfl rfl).trans (congrArg Value.bool g296)) (by decide) ?_
          refine U.p rfl rfl (.inr ⟨_, _, _, rfl, rfl, ((L 9 rfl rfl).trans (congrArg Value.bool g275))⟩) (S.pickT rfl ((L 4 rfl rfl).trans (congrArg Value.bool g296)) K) ?_
          have e298 := Option.some.inj h297
          subst e298
          exact kk [(74, .bool true), (73, .tuple #[]), (72, .tuple #[]), (71, .tuple #[]), (70, .tuple #[])] _ ⟨.tuple #[], .tuple #[], .tuple #[], .tuple #[], V281, rfl, (.refl _), rfl, ow284⟩
         ·have h299 := ifF g296 hy286
          refine U.p (v := .pointer (some ⟨b106, 0, none⟩)) rfl rfl (.inr ⟨_, _, _, rfl, rfl, ((L 0 rfl rfl).trans (congrArg Value.bool g296))⟩) (S.fieldAddr rfl (L 41 rfl rfl) Try.underlying45 rfl ti31 rfl rfl) ?_
          refine U.p (v := .pointer (some ⟨b106, 1, none⟩)) rfl rfl (.inr ⟨_, _, _, rfl, rfl, ((L 1 rfl rfl).trans (congrArg Value.bool g296))⟩) (S.fieldAddr rfl (L 0 rfl rfl) Try.underlying31 rfl ti29 rfl rfl) ?_
          refine U.k rfl rfl (.inr ⟨_, _, _, rfl, rfl, ((L 2 rfl rfl).trans (congrArg Value.bool g296))⟩) (S.loadN (cs := [.int .i64 x95.e.act.kind, .int .i64 x95.e.act.at_, .int .i64 x95.e.act.val, .int .i64 x95.e.act.what, .bool x95.e.act.volatile, .bool x95.e.act.final]) rfl (L 0 rfl rfl) Try.underlying29 rfl ti29 rfl (cellsOfOwn (ow284.own (k := 0) rfl) 1 rfl)) nd ?_
          obtain ⟨x300, hx301, h302⟩ := bindS h299
          refine O.call (V := V281) rfl rfl (.inr ⟨_, _, _, rfl, rfl, ((L 3 rfl rfl).trans (congrArg Value.bool g296))⟩) rfl en39 (aC (L 0 rfl rfl) aN) (wk_order_writes V281 _ x95.e.act ow284 _ hx301) (fun _ _ _ _ => nd) (fun v303 V304 le305 hp306 => ?_)
          obtain ⟨rfl, ow307⟩ := hp306
          refine U.p rfl rfl (.inr ⟨_, _, _, rfl, rfl, ((L 9 rfl rfl).trans (congrArg Value.bool g275))⟩) (S.pickF rfl ((L 4 rfl rfl).trans (congrArg Value.bool g296)) (L 0 rfl rfl)) ?_
          have e308 := Option.some.inj h302
          subst e308
          exact kk [(74, .bool x300), (73, .bool x300), (72, .agg #[.int .i64 x95.e.act.kind, .int .i64 x95.e.act.at_, .int .i64 x95.e.act.val, .int .i64 x95.e.act.what, .bool x95.e.act.volatile, .bool x95.e.act.final]), (71, .pointer (some ⟨b106, 1, none⟩)), (70, .pointer (some ⟨b106, 0, none⟩))] _ ⟨.bool x300, .agg #[.int .i64 x95.e.act.kind, .int .i64 x95.e.act.at_, .int .i64 x95.e.act.val, .int .i64 x95.e.act.what, .bool x95.e.act.volatile, .bool x95.e.act.final], .pointer (some ⟨b106, 1, none⟩), .pointer (some ⟨b106, 0, none⟩), V304, rfl, le305, rfl, ow307⟩
       ·have h309 := ifF g275 hy156
        refine U.x rfl rfl rfl rfl ((L 0 rfl rfl).trans (congrArg Value.bool g275)) (by decide) ?_
        refine U.x rfl rfl rfl rfl ((L 1 rfl rfl).trans (congrArg Value.bool g275)) (by decide) ?_
        refine U.x rfl rfl rfl rfl ((L 2 rfl rfl).trans (congrArg Value.bool g275)) (by decide) ?_
        refine U.x rfl rfl rfl rfl ((L 3 rfl rfl).trans (congrArg Value.bool g275)) (by decide) ?_
        refine U.x rfl rfl rfl rfl ((L 4 rfl rfl).trans (congrArg Value.bool g275)) (by decide) ?_
        refine U.z rfl rfl rfl rfl (L 0 rfl rfl) ?_
        refine U.z rfl rfl rfl rfl (L 1 rfl rfl) ?_
        refine U.z rfl rfl rfl rfl (L 2 rfl rfl) ?_
        refine U.z rfl rfl rfl rfl (L 3 rfl rfl) ?_
        refine U.x rfl rfl rfl rfl ((L 9 rfl rfl).trans (congrArg Value.bool g275)) (by decide) ?_
        refine U.p rfl rfl (.inl rfl) (S.pickF rfl ((L 10 rfl rfl).trans (congrArg Value.bool g275)) K) ?_
        have e310 := Option.some.inj h309
        subst e310
        exact kk [(75, .bool false), (74, .tuple #[]), (73, .tuple #[]), (72, .tuple #[]), (71, .tuple #[]), (70, .tuple #[]), (69, .tuple #[]), (68, .tuple #[]), (67, .tuple #[]), (66, .tuple #[]), (65, .tuple #[])] _ ⟨.tuple #[], .tuple #[], .tuple #[], .tuple #[], .tuple #[], .tuple #[], .tuple #[], .tuple #[], .tuple #[], .tuple #[], V130, rfl, (.refl _), rfl, ow132⟩
     ·intro kk
      refine bcase (b := y122 && (decide (x53.e.t ≠ x95.e.t))) (fun g311 => ?_) (fun g311 => ?_)
      ·skip
       refine U.p (v := .pointer (some ⟨b64, 0, none⟩)) rfl rfl (.inr ⟨_, _, _, rfl, rfl, ((L 0 rfl rfl).trans (congrArg Value.bool g311))⟩) (S.fieldAddr rfl (L 33 rfl rfl) Try.underlying45 rfl ti31 rfl rfl) ?_
       refine U.p (v := .pointer (some ⟨b64, 1, none⟩)) rfl rfl (.inr ⟨_, _, _, rfl, rfl, ((L 1 rfl rfl).trans (congrArg Value.bool g311))⟩) (S.fieldAddr rfl (L 0 rfl rfl) Try.underlying31 rfl ti29 rfl rfl) ?_
       refine U.p (v := .pointer (some ⟨b64, 2, none⟩)) rfl rfl (.inr ⟨_, _, _, rfl, rfl, ((L 2 rfl rfl).trans (congrArg Value.bool g311))⟩) (S.fieldAddr rfl (L 0 rfl rfl) Try.underlying29 rfl ti3 rfl rfl) ?_
       refine U.k rfl rfl (.inr ⟨_, _, _, rfl, rfl, ((L 3 rfl rfl).trans (congrArg Value.bool g311))⟩) (S.load rfl (L 0 rfl rfl) Try.underlying3 rfl ((ow132.own (k := 3) rfl).cell rfl)) nd ?_
       refine U.p (v := .pointer (some ⟨b106, 0, none⟩)) rfl rfl (.inr ⟨_, _, _, rfl, rfl, ((L 4 rfl rfl).trans (congrArg Value.bool g311))⟩) (S.fieldAddr rfl (L 29 rfl rfl) Try.underlying45 rfl ti31 rfl rfl) ?_
       refine U.p (v := .pointer (some ⟨b106, 1, none⟩)) rfl rfl (.inr ⟨_, _, _, rfl, rfl, ((L 5 rfl rfl).trans (congrArg Value.bool g311))⟩) (S.fieldAddr rfl (L 0 rfl rfl) Try.underlying31 rfl ti29 rfl rfl) ?_
       refine U.p (v := .pointer (some ⟨b106, 2, none⟩)) rfl rfl (.inr ⟨_, _, _, rfl, rfl, ((L 6 rfl rfl).trans (congrArg Value.bool g311))⟩) (S.fieldAddr rfl (L 0 rfl rfl) Try.underlying29 rfl ti3 rfl rfl) ?_
       refine U.k rfl rfl (.inr ⟨_, _, _, rfl, rfl, ((L 7 rfl rfl).trans (congrArg Value.bool g311))⟩) (S.load rfl (L 0 rfl rfl) Try.underlying3 rfl ((ow132.own (k := 0) rfl).cell rfl)) nd ?_
       refine U.p rfl rfl (.inr ⟨_, _, _, rfl, rfl, ((L 8 rfl rfl).trans (congrArg Value.bool g311))⟩) (S.eqlI rfl (L 4 rfl rfl) (L 0 rfl rfl)) ?_
       refine U.p rfl rfl (.inl rfl) (S.pickT rfl ((L 9 rfl rfl).trans (congrArg Value.bool g311)) (L 0 rfl rfl)) ?_
       exact kk [(63, .bool (decide (x53.e.act.at_ = x95.e.act.at_))), (62, .bool (decide (x53.e.act.at_ = x95.e.act.at_))), (61, .int .i64 x95.e.act.at_), (60, .pointer (some ⟨b106, 2, none⟩)), (59, .pointer (some ⟨b106, 1, none⟩)), (58, .pointer (some ⟨b106, 0, none⟩)), (57, .int .i64 x53.e.act.at_), (56, .pointer (some ⟨b64, 2, none⟩)), (55, .pointer (some ⟨b64, 1, none⟩)), (54, .pointer (some ⟨b64, 0, none⟩))] _ ⟨.bool (decide (x53.e.act.at_ = x95.e.act.at_)), .int .i64 x95.e.act.at_, .pointer (some ⟨b106, 2, none⟩), .pointer (some ⟨b106, 1, none⟩), .pointer (some ⟨b106, 0, none⟩), .int .i64 x53.e.act.at_, .pointer (some ⟨b64, 2, none⟩), .pointer (some ⟨b64, 1, none⟩), .pointer (some ⟨b64, 0, none⟩), rfl, (by rw [g311, Bool.true_and])⟩
      ·skip
       refine U.x rfl rfl rfl rfl ((L 0 rfl rfl).trans (congrArg Value.bool g311)) (by decide) ?_
       refine U.x rfl rfl rfl rfl ((L 1 rfl rfl).trans (congrArg Value.bool g311)) (by decide) ?_
       refine U.x rfl rfl rfl rfl ((L 2 rfl rfl).trans (congrArg Value.bool g311)) (by decide) ?_
       refine U.x rfl rfl rfl rfl ((L 3 rfl rfl).trans (congrArg Value.bool g311)) (by decide) ?_
       refine U.x rfl rfl rfl rfl ((L 4 rfl rfl).trans (congrArg Value.bool g311)) (by decide) ?_
       refine U.x rfl rfl rfl rfl ((L 5 rfl rfl).trans (congrArg Value.bool g311)) (by decide) ?_
       refine U.x rfl rfl rfl rfl ((L 6 rfl rfl).trans (congrArg Value.bool g311)) (by decide) ?_
       refine U.x rfl rfl rfl rfl ((L 7 rfl rfl).trans (congrArg Value.bool g311)) (by decide) ?_
       refine U.x rfl rfl rfl rfl ((L 8 rfl rfl).trans (congrArg Value.bool g311)) (by decide) ?_
       refine U.p rfl rfl (.inl rfl) (S.pickF rfl ((L 9 rfl rfl).trans (congrArg Value.bool g311)) K) ?_
       exact kk [(63, .bool false), (62, .tuple #[]), (61, .tuple #[]), (60, .tuple #[]), (59, .tuple #[]), (58, .tuple #[]), (57, .tuple #[]), (56, .tuple #[]), (55, .tuple #[]), (54, .tuple #[])] _ ⟨.tuple #[], .tuple #[], .tuple #[], .tuple #[], .tuple #[], .tuple #[], .tuple #[], .tuple #[], .tuple #[], rfl, (by rw [g311, Bool.false_and])⟩
    ·intro kk
     refine bcase (b := y122) (fun g312 => ?_) (fun g312 => ?_)
     ·skip
      refine U.p (v := .pointer (some ⟨b64, 0, none⟩)) rfl rfl (.inr ⟨_, _, _, rfl, rfl, ((L 0 rfl rfl).trans (congrArg Value.bool g312))⟩) (S.fieldAddr rfl (L 24 rfl rfl) Try.underlying45 rfl ti31 rfl rfl) ?_
      refine U.p (v := .pointer (some ⟨b64, 0, none⟩)) rfl rfl (.inr ⟨_, _, _, rfl, rfl, ((L 1 rfl rfl).trans (congrArg Value.bool g312))⟩) (S.fieldAddr rfl (L 0 rfl rfl) Try.underlying31 rfl ti3 rfl rfl) ?_
      refine U.k rfl rfl (.inr ⟨_, _, _, rfl, rfl, ((L 2 rfl rfl).trans (congrArg Value.bool g312))⟩) (S.load rfl (L 0 rfl rfl) Try.underlying3 rfl ((ow132.own (k := 3) rfl).cell rfl)) nd ?_
      refine U.p (v := .pointer (some ⟨b106, 0, none⟩)) rfl rfl (.inr ⟨_, _, _, rfl, rfl, ((L 3 rfl rfl).trans (congrArg Value.bool g312))⟩) (S.fieldAddr rfl (L 19 rfl rfl) Try.underlying45 rfl ti31 rfl rfl) ?_
      refine U.p (v := .pointer (some ⟨b106, 0, none⟩)) rfl rfl (.inr ⟨_, _, _, rfl, rfl, ((L 4 rfl rfl).trans (congrArg Value.bool g312))⟩) (S.fieldAddr rfl (L 0 rfl rfl) Try.underlying31 rfl ti3 rfl rfl) ?_
      refine U.k rfl rfl (.inr ⟨_, _, _, rfl, rfl, ((L 5 rfl rfl).trans (congrArg Value.bool g312))⟩) (S.load rfl (L 0 rfl rfl) Try.underlying3 rfl ((ow132.own (k := 0) rfl).cell rfl)) nd ?_
      refine U.p rfl rfl (.inr ⟨_, _, _, rfl, rfl, ((L 6 rfl rfl).trans (congrArg Value.bool g312))⟩) (S.neqI rfl (L 3 rfl rfl) (L 0 rfl rfl)) ?_
      refine U.p rfl rfl (.inl rfl) (S.pickT rfl ((L 7 rfl rfl).trans (congrArg Value.bool g312)) (L 0 rfl rfl)) ?_
      exact kk [(52, .bool (decide (x53.e.t ≠ x95.e.t))), (51, .bool (decide (x53.e.t ≠ x95.e.t))), (50, .int .i64 x95.e.t), (49, .pointer (some ⟨b106, 0, none⟩)), (48, .pointer (some ⟨b106, 0, none⟩)), (47, .int .i64 x53.e.t), (46, .pointer (some ⟨b64, 0, none⟩)), (45, .pointer (some ⟨b64, 0, none⟩))] _ ⟨.bool (decide (x53.e.t ≠ x95.e.t)), .int .i64 x95.e.t, .pointer (some ⟨b106, 0, none⟩), .pointer (some ⟨b106, 0, none⟩), .int .i64 x53.e.t, .pointer (some ⟨b64, 0, none⟩), .pointer (some ⟨b64, 0, none⟩), rfl, (by rw [g312, Bool.true_and])⟩
     ·skip
      refine U.x rfl rfl rfl rfl ((L 0 rfl rfl).trans (congrArg Value.bool g312)) (by decide) ?_
      refine U.x rfl rfl rfl rfl ((L 1 rfl rfl).trans (congrArg Value.bool g312)) (by decide) ?_
      refine U.x rfl rfl rfl rfl ((L 2 rfl rfl).trans (congrArg Value.bool g312)) (by decide) ?_
      refine U.x rfl rfl rfl rfl ((L 3 rfl rfl).trans (congrArg Value.bool g312)) (by decide) ?_
      refine U.x rfl rfl rfl rfl ((L 4 rfl rfl).trans (congrArg Value.bool g312)) (by decide) ?_
      refine U.x rfl rfl rfl rfl ((L 5 rfl rfl).trans (congrArg Value.bool g312)) (by decide) ?_
      refine U.x rfl rfl rfl rfl ((L 6 rfl rfl).trans (congrArg Value.bool g312)) (by decide) ?_
      refine U.p rfl rfl (.inl rfl) (S.pickF rfl ((L 7 rfl rfl).trans (congrArg Value.bool g312)) K) ?_
      exact kk [(52, .bool false), (51, .tuple #[]), (50, .tuple #[]), (49, .tuple #[]), (48, .tuple #[]), (47, .tuple #[]), (46, .tuple #[]), (45, .tuple #[])] _ ⟨.tuple #[], .tuple #[], .tuple #[], .tuple #[], .tuple #[], .tuple #[], .tuple #[], rfl, (by rw [g312, Bool.false_and])⟩
   ·intro kk
    refine bcase (b := !x114) (fun g313 => ?_) (fun g313 => ?_)
    ·have h314 := ifT g313 hy123
     have k315 : x114 = false := by simpa using g313
     refine U.x rfl rfl rfl rfl ((L 0 rfl rfl).trans (congrArg Value.bool g313)) (by decide) ?_
     refine U.x rfl rfl rfl rfl ((L 1 rfl rfl).trans (congrArg Value.bool g313)) (by decide) ?_
     refine U.x rfl rfl rfl rfl ((L 2 rfl rfl).trans (congrArg Value.bool g313)) (by decide) ?_
     refine U.x rfl rfl rfl rfl ((L 3 rfl rfl).trans (congrArg Value.bool g313)) (by decide) ?_
     refine U.x rfl rfl rfl rfl ((L 4 rfl rfl).trans (congrArg Value.bool g313)) (by decide) ?_
     refine U.p rfl rfl (.inl rfl) (S.pickT rfl ((L 5 rfl rfl).trans (congrArg Value.bool g313)) K) ?_
     have e316 := Option.some.inj h314
     subst e316
     exact kk [(42, .bool true), (41, .tuple #[]), (40, .tuple #[]), (39, .tuple #[]), (38, .tuple #[]), (37, .tuple #[])] _ ⟨.tuple #[], .tuple #[], .tuple #[], .tuple #[], .tuple #[], V118, rfl, (.refl _), rfl, ow121⟩
    ·have h317 := ifF g313 hy123
     have k318 : x114 = true := by simpa using g313
     refine U.p (v := .pointer (some ⟨b106, 0, none⟩)) rfl rfl (.inr ⟨_, _, _, rfl, rfl, ((L 0 rfl rfl).trans (congrArg Value.bool g313))⟩) (S.fieldAddr rfl (L 7 rfl rfl) Try.underlying45 rfl ti31 rfl rfl) ?_
     refine U.p (v := .pointer (some ⟨b106, 1, none⟩)) rfl rfl (.inr ⟨_, _, _, rfl, rfl, ((L 1 rfl rfl).trans (congrArg Value.bool g313))⟩) (S.fieldAddr rfl (L 0 rfl rfl) Try.underlying31 rfl ti29 rfl rfl) ?_
     refine U.k rfl rfl (.inr ⟨_, _, _, rfl, rfl, ((L 2 rfl rfl).trans (congrArg Value.bool g313))⟩) (S.loadN (cs := [.int .i64 x95.e.act.kind, .int .i64 x95.e.act.at_, .int .i64 x95.e.act.val, .int .i64 x95.e.act.what, .bool x95.e.act.volatile, .bool x95.e.act.final]) rfl (L 0 rfl rfl) Try.underlying29 rfl ti29 rfl (cellsOfOwn (ow121.own (k := 0) rfl) 1 rfl)) nd ?_
     obtain ⟨x319, hx320, h321⟩ := bindS h317
     refine O.call (V := V118) rfl rfl (.inr ⟨_, _, _, rfl, rfl, ((L 3 rfl rfl).trans (congrArg Value.bool g313))⟩) rfl en36 (aC (L 0 rfl rfl) aN) (wk_order_syncs V118 _ x95.e.act ow121 _ hx320) (fun _ _ _ _ => nd) (fun v322 V323 le324 hp325 => ?_)
     obtain ⟨rfl, ow326⟩ := hp325
     refine U.p rfl rfl (.inr ⟨_, _, _, rfl, rfl, ((L 4 rfl rfl).trans (congrArg Value.bool g313))⟩) (S.not rfl (L 0 rfl rfl)) ?_
     refine U.p rfl rfl (.inl rfl) (S.pickF rfl ((L 5 rfl rfl).trans (congrArg Value.bool g313)) (L 0 rfl rfl)) ?_
     have e327 := Option.some.inj h321
     subst e327
     exact kk [(42, .bool (!x319)), (41, .bool (!x319)), (40, .bool x319), (39, .agg #[.int .i64 x95.e.act.kind, .int .i64 x95.e.act.at_, .int .i64 x95.e.act.val, .int .i64 x95.e.act.what, .bool x95.e.act.volatile, .bool x95.e.act.final]), (38, .pointer (some ⟨b106, 1, none⟩)), (37, .pointer (some ⟨b106, 0, none⟩))] _ ⟨.bool (!x319), .bool x319, .agg #[.int .i64 x95.e.act.kind, .int .i64 x95.e.act.at_, .int .i64 x95.e.act.val, .int .i64 x95.e.act.what, .bool x95.e.act.volatile, .bool x95.e.act.final], .pointer (some ⟨b106, 1, none⟩), .pointer (some ⟨b106, 0, none⟩), V323, rfl, le324, rfl, ow326⟩
  ·have h328 := ifF c93 h92
   refine WP.exit ?_
   refine sqE (sqE (blkE (blkN (sqN ?_))))
   have h329 := exitS h328 e90
   refine WP.ureg rfl ?_
   refine U.p rfl rfl (.inl rfl) (S.add rfl (L 7 rfl rfl) K) ?_
   refine U.p rfl rfl (.inl rfl) (S.move rfl (L 0 rfl rfl)) ?_
   refine U.done (nr rfl) ?_
   refine sqN ?_
   have ow330 := ow87.drop 2 rfl
   have f331 := f72.up le86
   have f332 := f31.up ((le66.trans le70).trans le86)
   exact ⟨_, V85, rfl, ⟨m46, Nat.lt_succ_self _, xs26, v27, xs29, v30, w64 (x32 + 1), rfl, (((le44.trans le66).trans le70).trans le86), f331, f332, ow330, backS h329 e48⟩, (allCons (L 3 rfl rfl) (allCons (L 4 rfl rfl) (allCons (L 7 rfl rfl) (allCons (L 8 rfl rfl) (allCons (L 0 rfl rfl) allNil)))))⟩
 ·have h333 := ifF c51 h50
  refine WP.exit ?_
  refine sqE (sqE (blkE (sqN ?_)))
  have h334 := exitS h333 e48
  refine WP.usreg rfl ?_
  refine U.p rfl rfl (.inl rfl) (S.assign rfl K) ?_
  refine U.done (nr rfl) ?_
  refine WP.ret ?_
  refine fin.slot (.inr rfl) rfl (L 0 rfl rfl) ⟨V43, rfl, (((le9.trans le20).trans le34).trans le44), ?_⟩
  have ow335 := ow45.drop 1 rfl
  have e336 := Option.some.inj h334
  subst e336
  exact ⟨rfl, ow335⟩
set_option maxHeartbeats 4000000 in
set_option maxRecDepth 10000 in
theorem wk_law21_alive (V : Vw) (Rs : List At) (ow : Ow V (Rs)) (r : Bool) (h : law21_alive = some r) : ∃ v V', Cl Try.prog 0 8 #[] V.H v V'.H ∧ V.le V' ∧ (v = .bool r ∧ Ow V' (Rs)) := by
 refine Ct.of (Nat.zero_le _) Try.func8 rfl (nr rfl) ?_
 unfold law21_alive at h
 refine WP.usreg rfl ?_
 refine U.p rfl rfl (.inl rfl) (S.assign rfl K) ?_
 refine U.done (nr rfl) ?_
 refine WP.usreg rfl ?_
 obtain ⟨x1, hx2, h3⟩ := bindS h
 refine O.call (V := V) rfl rfl (.inl rfl) rfl en21 (aC K (aC K (aC K aN))) (wk_law21_w V _ 0 8 1 ow _ hx2) (fun _ _ _ _ => nd) (fun v4 V5 le6 hp7 => ?_)
 obtain ⟨rfl, ow8⟩ := hp7
 obtain ⟨x9, hx10, h11⟩ := bindS h3
 refine O.call (V := V5) rfl rfl (.inl rfl) rfl en22 (aC K (aC K (aC K aN))) (wk_law21_r V5 _ 0 16 0 ow8 _ hx10) (fun _ _ _ _ => nd) (fun v12 V13 le14 hp15 => ?_)
 obtain ⟨rfl, ow16⟩ := hp15
 refine O.lit (R := RT_TEvent) ow16 rfl rfl (.inl rfl) rfl Try.underlying27 ti31 rfl rfl rfl (nr rfl) rfl (aC (L 1 rfl rfl) (aC (L 0 rfl rfl) aN)) (.cons _ _ x1 _ (by simp [topV]) rfl (.cons _ _ x9 _ (by simp [topV]) rfl .nil)) (fun _ => nd) (fun v17 V18 le19 ow20 => ?_)
 obtain ⟨x22, hx23, h24⟩ := bindS h11
 refine O.call (V := V18) rfl rfl (.inl rfl) rfl en21 (aC K (aC K (aC K aN))) (wk_law21_w V18 _ 1 16 2 ow20 _ hx23) (fun _ _ _ _ => nd) (fun v25 V26 le27 hp28 => ?_)
 obtain ⟨rfl, ow29⟩ := hp28
 obtain ⟨x30, hx31, h32⟩ := bindS h24
 refine O.call (V := V26) rfl rfl (.inl rfl) rfl en22 (aC K (aC K (aC K aN))) (wk_law21_r V26 _ 1 8 0 ow29 _ hx31) (fun _ _ _ _ => nd) (fun v33 V34 le35 hp36 => ?_)
 obtain ⟨rfl, ow37⟩ := hp36
 refine O.lit (R := RT_TEvent) ow37 rfl rfl (.inl rfl) rfl Try.underlying27 ti31 rfl rfl rfl (nr rfl) rfl (aC (L 1 rfl rfl) (aC (L 0 rfl rfl) aN)) (.cons _ _ x22 _ (by simp [topV]) rfl (.cons _ _ x30 _ (by simp [topV]) rfl .nil)) (fun _ => nd) (fun v38 V39 le40 ow41 => ?_)
 have ow43 := ow41.pick 1 rfl
 refine O.litS (RI := (RO.os RT_TEvent)) (Bs := [.os RT_TEvent v17 [x1, x9], .os RT_TEvent v38 [x22, x30]]) (As := Rs) (us := ([v17, v38] : List Value)) (ys := [[x1, x9], [x22, x30]]) ow43 rfl rfl (.inl rfl) rfl Try.underlying25 ti27 rfl rfl (nr rfl) rfl (aC (L 3 rfl rfl) (aC (L 0 rfl rfl) aN)) (fun p hp => all2 hp) (fun _ => nd) (fun v44 V45 le46 ow47 => ?_)
 refine U.p rfl rfl (.inl rfl) (S.assign rfl (L 0 rfl rfl)) ?_
 refine U.done (nr rfl) ?_
 refine WP.usreg rfl ?_
 refine U.p rfl rfl (.inl rfl) (S.move rfl (L 0 rfl rfl)) ?_
 obtain ⟨x49, hx50, h51⟩ := bindS h32
 refine O.call (V := V45) rfl rfl (.inl rfl) rfl en14 (aC (L 0 rfl rfl) aN) (wk_order_Run_Serial V45 _ ([[x1, x9], [x22, x30]]) v44 ([v17, v38] : List Value) ow47 _ hx50) (fun _ _ _ _ => nd) (fun v52 V53 le54 hp55 => ?_)
 obtain ⟨rfl, ow56⟩ := hp55
 refine U.p rfl rfl (.inl rfl) (S.not rfl (L 0 rfl rfl)) ?_
 refine U.p rfl rfl (.inl rfl) (S.move rfl (L 0 rfl rfl)) ?_
 obtain ⟨y57, hy58, h59⟩ := bindS h51
 refine U.joinX 7 (fun e H => ∃ (u60 u61 : Value), ∃ V' : Vw, H = V'.H ∧ V53.le V' ∧ e = [(15, .bool y57), (14, u60), (13, u61)] ∧ Ow V' (.oss (RO.os RT_TEvent) v44 ([v17, v38] : List Value) ([[x1, x9], [x22, x30]]) :: Rs)) ?_ ?_
 ·rintro _ _ ⟨u60, u61, V62, rfl, le63, rfl, ow64⟩
  refine U.p rfl rfl (.inl rfl) (S.move rfl (L 0 rfl rfl)) ?_
  obtain ⟨y65, hy66, h67⟩ := bindS h59
  refine U.joinX 11 (fun e H => ∃ (u68 u69 : Value), ∃ V' : Vw, H = V'.H ∧ V62.le V' ∧ e = [(19, .bool y65), (18, u68), (17, u69)] ∧ Ow V' (.oss (RO.os RT_TEvent) v44 ([v17, v38] : List Value) ([[x1, x9], [x22, x30]]) :: Rs)) ?_ ?_
  ·rintro _ _ ⟨u68, u69, V70, rfl, le71, rfl, ow72⟩
   refine U.p rfl rfl (.inl rfl) (S.assign rfl (L 0 rfl rfl)) ?_
   refine U.done (nr rfl) ?_
   refine WP.ret ?_
   refine fin.slot (.inr rfl) rfl (L 0 rfl rfl) ⟨V70, rfl, (((((((((le6.trans le14).trans le19).trans le27).trans le35).trans le40).trans le46).trans le54).trans le63).trans le71), ?_⟩
   have ow73 := ow72.drop 0 rfl
   have e74 := Option.some.inj h67
   subst e74
   exact ⟨rfl, ow73⟩
  ·intro kk
   refine bcase (b := y57) (fun g75 => ?_) (fun g75 => ?_)
   ·have h76 := ifT g75 hy66
    refine U.p rfl rfl (.inr ⟨_, _, _, rfl, rfl, ((L 0 rfl rfl).trans (congrArg Value.bool g75))⟩) (S.move rfl (L 8 rfl rfl)) ?_
    obtain ⟨x77, hx78, h79⟩ := bindS h76
    refine O.call (V := V62) rfl rfl (.inr ⟨_, _, _, rfl, rfl, ((L 1 rfl rfl).trans (congrArg Value.bool g75))⟩) rfl en17 (aC (L 0 rfl rfl) aN) (wk_order_Run_Racy V62 _ ([[x1, x9], [x22, x30]]) v44 ([v17, v38] : List Value) ow64 _ hx78) (fun _ _ _ _ => nd) (fun v80 V81 le82 hp83 => ?_)
    obtain ⟨rfl, ow84⟩ := hp83
    refine U.p rfl rfl (.inl rfl) (S.pickT rfl ((L 2 rfl rfl).trans (congrArg Value.bool g75)) (L 0 rfl rfl)) ?_
    have e85 := Option.some.inj h79
    subst e85
    exact kk [(19, .bool x77), (18, .bool x77), (17, v44)] _ ⟨.bool x77, v44, V81, rfl, le82, rfl, ow84⟩
   ·have h86 := ifF g75 hy66
    refine U.x rfl rfl rfl rfl ((L 0 rfl rfl).trans (congrArg Value.bool g75)) (by decide) ?_
    refine U.x rfl rfl rfl rfl ((L 1 rfl rfl).trans (congrArg Value.bool g75)) (by decide) ?_
    refine U.p rfl rfl (.inl rfl) (S.pickF rfl ((L 2 rfl rfl).trans (congrArg Value.bool g75)) K) ?_
    have e87 := Option.some.inj h86
    subst e87
    exact kk [(19, .bool false), (18, .tuple #[]), (17, .tuple #[])] _ ⟨.tuple #[], .tuple #[], V62, rfl, (.refl _), rfl, ow64⟩
 ·intro kk
  refine bcase (b := !x49) (fun g88 => ?_) (fun g88 => ?_)
  ·have h89 := ifT g88 hy58
   have k90 : x49 = false := by simpa using g88
   refine U.p rfl rfl (.inr ⟨_, _, _, rfl, rfl, ((L 0 rfl rfl).trans (congrArg Value.bool g88))⟩) (S.move rfl (L 4 rfl rfl)) ?_
   obtain ⟨x91, hx92, h93⟩ := bindS h89
   refine O.call (V := V53) rfl rfl (.inr ⟨_, _, _, rfl, rfl, ((L 1 rfl rfl).trans (congrArg Value.bool g88))⟩) rfl en11 (aC (L 0 rfl rfl) aN) (wk_order_Run_Coherent V53 _ ([[x1, x9], [x22, x30]]) v44 ([v17, v38] : List Value) ow56 _ hx92) (fun _ _ _ _ => nd) (fun v94 V95 le96 hp97 => ?_)
   obtain ⟨rfl, ow98⟩ := hp97
   refine U.p rfl rfl (.inl rfl) (S.pickT rfl ((L 2 rfl rfl).trans (congrArg Value.bool g88)) (L 0 rfl rfl)) ?_
   have e99 := Option.some.inj h93
   subst e99
   exact kk [(15, .bool x91), (14, .bool x91), (13, v44)] _ ⟨.bool x91, v44, V95, rfl, le96, rfl, ow98⟩
  ·have h100 := ifF g88 hy58
   have k101 : x49 = true := by simpa using g88
   refine U.x rfl rfl rfl rfl ((L 0 rfl rfl).trans (congrArg Value.bool g88)) (by decide) ?_
   refine U.x rfl rfl rfl rfl ((L 1 rfl rfl).trans (congrArg Value.bool g88)) (by decide) ?_
   refine U.p rfl rfl (.inl rfl) (S.pickF rfl ((L 2 rfl rfl).trans (congrArg Value.bool g88)) K) ?_
   have e102 := Option.some.inj h100
   subst e102
   exact kk [(15, .bool false), (14, .tuple #[]), (13, .tuple #[])] _ ⟨.tuple #[], .tuple #[], V53, rfl, (.refl _), rfl, ow56⟩
set_option maxHeartbeats 4000000 in
set_option maxRecDepth 10000 in
theorem wk_law21_great (V : Vw) (Rs : List At) (p0 : List (List TEvent)) (v1 : Value) (f2 : Fz (RT.sl RT_TEvent) V v1 p0) (ow : Ow V (Rs)) (r : Bool) (h : law21_great p0 = some r) : ∃ v V', Cl Try.prog 0 9 #[v1] V.H v V'.H ∧ V.le V' ∧ (v = .bool r ∧ Ow V' (Rs)) := by
 refine Ct.of (Nat.zero_le _) Try.func9 rfl (nr rfl) ?_
 unfold law21_great at h
 refine WP.usreg rfl ?_
 refine U.p rfl rfl (.inl rfl) (S.assign rfl K) ?_
 refine U.done (nr rfl) ?_
 refine WP.usreg rfl ?_
 refine U.p rfl rfl (.inl rfl) (S.assign rfl K) ?_
 refine U.done (nr rfl) ?_
 refine WP.seq ?_
 refine WP.usreg rfl ?_
 refine U.p rfl rfl (.inl rfl) (S.move rfl (L 2 rfl rfl)) ?_
 refine U.p rfl rfl (.inl rfl) (f2.1.len rfl (L 0 rfl rfl) Try.underlying22) ?_
 refine U.p rfl rfl (.inl rfl) (S.move rfl K) ?_
 refine U.done (nr rfl) ?_
 refine WP.blk ?_
 unfold law21_great_l1 at h
 obtain ⟨n6, hn5⟩ := loopO_some.1 h
 refine WP.loopI2 (fun n l V' => ∃ (x3 : Int) (x4 : Int), l = [(0, v1), (3, .int .i64 x3), (6, v1), (7, .int .i64 (p0.length : Int)), (8, .int .i64 x4)] ∧ V.le V' ∧ Ow V' (Rs) ∧ itO (fun s => law21_great_l1b p0 s.1 s.2) n (x3, x4) = some r) n6 _ ⟨0, 0, rfl, .refl _, ow, hn5⟩ (allCons (L 5 rfl rfl) (allCons (L 3 rfl rfl) (allCons (L 2 rfl rfl) (allCons (L 1 rfl rfl) (allCons (L 0 rfl rfl) allNil))))) ?_
 rintro _ _ V7 ⟨x3, x4, rfl, le8, ow9, h13⟩
 obtain ⟨m10, q11, rfl, h14, e12⟩ := itS h13
 replace h14 : law21_great_l1b p0 x3 x4 = some q11 := h14
 unfold law21_great_l1b at h14
 refine WP.usreg rfl ?_
 refine U.p rfl rfl (.inl rfl) (S.lss rfl (L 4 rfl rfl) (L 3 rfl rfl)) ?_
 refine U.done (nr rfl) ?_
 refine WP.seq ?_
 refine WP.cond _ (L 0 rfl rfl) rfl (fun c15 => ?_) (fun c15 => ?_)
 ·have h16 := ifT c15 h14
  refine WP.skip ?_
  refine sqN ?_
  refine WP.seq ?_
  refine WP.blk ?_
  refine WP.usreg rfl ?_
  obtain ⟨x17, hx18, h19⟩ := bindS h16
  obtain ⟨b20, o21, c22, cs23, hv24, hf25, hr26, hc27⟩ := f2.at hx18
  obtain ⟨v28, rfl, f29⟩ := hr26
  refine U.p rfl rfl (.inl rfl) (S.index rfl ((L 3 rfl rfl).trans hv24) (L 5 rfl rfl) Try.underlying22 ti27 (ix_ge hx18) (ix_lt hx18)) ?_
  refine U.k rfl rfl (.inl rfl) (S.load rfl (L 0 rfl rfl) Try.underlying27 rfl (le8.cell hf25 (hc27 0 _ rfl))) nd ?_
  refine U.p rfl rfl (.inl rfl) (S.assign rfl (L 0 rfl rfl)) ?_
  refine U.done (nr rfl) ?_
  refine WP.ureg rfl ?_
  refine U.p rfl rfl (.inl rfl) (S.move rfl (L 5 rfl rfl)) ?_
  refine U.p rfl rfl (.inl rfl) (S.move rfl (L 1 rfl rfl)) ?_
  refine U.p rfl rfl (.inl rfl) (f29.1.len rfl (L 0 rfl rfl) Try.underlying27) ?_
  refine U.p rfl rfl (.inl rfl) (S.add rfl (L 2 rfl rfl) (L 0 rfl rfl)) ?_
  refine U.p rfl rfl (.inl rfl) (S.assign rfl (L 0 rfl rfl)) ?_
  refine U.done (nr rfl) ?_
  refine blkN (sqN ?_)
  refine WP.ureg rfl ?_
  refine U.p rfl rfl (.inl rfl) (S.add rfl (L 13 rfl rfl) K) ?_
  refine U.p rfl rfl (.inl rfl) (S.move rfl (L 0 rfl rfl)) ?_
  refine U.done (nr rfl) ?_
  refine sqN ?_
  exact ⟨_, V7, rfl, ⟨m10, Nat.lt_succ_self _, w64 (x3 + (x17.length : Int)), w64 (x4 + 1), rfl, le8, ow9, backS h19 e12⟩, (allCons (L 11 rfl rfl) (allCons (L 2 rfl rfl) (allCons (L 13 rfl rfl) (allCons (L 14 rfl rfl) (allCons (L 0 rfl rfl) allNil)))))⟩
 ·have h30 := ifF c15 h14
  refine WP.exit ?_
  refine sqE (sqE (blkE (sqN ?_)))
  have h31 := exitS h30 e12
  refine WP.usreg rfl ?_
  refine U.p rfl rfl (.inl rfl) (S.move rfl (L 1 rfl rfl)) ?_
  refine U.p rfl rfl (.inl rfl) (f2.1.len rfl (L 0 rfl rfl) Try.underlying22) ?_
  refine U.p rfl rfl (.inl rfl) (S.gtr rfl (L 0 rfl rfl) K) ?_
  refine U.p rfl rfl (.inl rfl) (S.move rfl (L 0 rfl rfl)) ?_
  refine U.joinX 7 (fun e H => ∃ (u32 u33 : Value), H = V7.H ∧ e = [(23, .bool ((decide (5 < (p0.length : Int))) || (decide (24 < x3)))), (22, u32), (21, u33)]) ?_ ?_
  ·rintro _ _ ⟨u32, u33, rfl, rfl⟩
   refine U.p rfl rfl (.inl rfl) (S.assign rfl (L 0 rfl rfl)) ?_
   refine U.done (nr rfl) ?_
   refine WP.ret ?_
   refine fin.slot (.inr rfl) rfl (L 0 rfl rfl) ⟨V7, rfl, le8, ?_⟩
   have e37 := Option.some.inj h31
   subst e37
   exact ⟨rfl, ow9⟩
  ·intro kk
   refine bcase (b := decide (5 < (p0.length : Int))) (fun g38 => ?_) (fun g38 => ?_)
   ·skip
    refine U.x rfl rfl rfl rfl ((L 0 rfl rfl).trans (congrArg Value.bool g38)) (by decide) ?_
    refine U.x rfl rfl rfl rfl ((L 1 rfl rfl).trans (congrArg Value.bool g38)) (by decide) ?_
    refine U.p rfl rfl (.inl rfl) (S.pickT rfl ((L 2 rfl rfl).trans (congrArg Value.bool g38)) K) ?_
    exact kk [(23, .bool true), (22, .tuple #[]), (21, .tuple #[])] _ ⟨.tuple #[], .tuple #[], rfl, (by rw [g38, Bool.true_or])⟩
   ·skip
    refine U.p rfl rfl (.inr ⟨_, _, _, rfl, rfl, ((L 0 rfl rfl).trans (congrArg Value.bool g38))⟩) (S.move rfl (L 6 rfl rfl)) ?_
    refine U.p rfl rfl (.inr ⟨_, _, _, rfl, rfl, ((L 1 rfl rfl).trans (congrArg Value.bool g38))⟩) (S.gtr rfl (L 0 rfl rfl) K) ?_
    refine U.p rfl rfl (.inl rfl) (S.pickF rfl ((L 2 rfl rfl).trans (congrArg Value.bool g38)) (L 0 rfl rfl)) ?_
    exact kk [(23, .bool (decide (24 < x3))), (22, .bool (decide (24 < x3))), (21, .int .i64 x3)] _ ⟨.bool (decide (24 < x3)), .int .i64 x3, rfl, (by rw [g38, Bool.false_or])⟩
set_option maxHeartbeats 4000000 in
set_option maxRecDepth 10000 in
theorem wk_ref21_Good (V : Vw) (Rs : List At) (p0 : List (List TEvent)) (v1 : Value) (f2 : Fz (RT.sl RT_TEvent) V v1 p0) (ow : Ow V (Rs)) (r : Bool) (h : ref21_Good p0 = some r) : ∃ v V', Cl Try.prog 0 10 #[v1] V.H v V'.H ∧ V.le V' ∧ (v = .bool r ∧ Ow V' (Rs)) := by
 refine Ct.of (Nat.zero_le _) Try.func10 rfl (nr rfl) ?_
 unfold ref21_Good at h
 refine WP.usreg rfl ?_
 refine U.p rfl rfl (.inl rfl) (S.assign rfl K) ?_
 refine U.done (nr rfl) ?_
 refine WP.usreg rfl ?_
 refine O.makeMap RT.bool false ow rfl rfl (.inl rfl) rfl (fun _ => nd) (fun v3 V4 le5 ow6 => ?_)
 refine U.p rfl rfl (.inl rfl) (S.assign rfl (L 0 rfl rfl)) ?_
 refine U.done (nr rfl) ?_
 refine WP.seq ?_
 refine WP.usreg rfl ?_
 refine U.p rfl rfl (.inl rfl) (S.move rfl (L 3 rfl rfl)) ?_
 refine U.p rfl rfl (.inl rfl) (f2.1.len rfl (L 0 rfl rfl) Try.underlying22) ?_
 refine U.p rfl rfl (.inl rfl) (S.move rfl K) ?_
 refine U.done (nr rfl) ?_
 refine WP.blk ?_
 unfold ref21_Good_l1 at h
 obtain ⟨n11, hn10⟩ := loopO_some.1 h
 refine WP.loopI2 (fun n l V' => ∃ (xs8 : List (Int × Bool)) (x9 : Int), l = [(3, v3), (9, v1), (10, .int .i64 (p0.length : Int)), (11, .int .i64 x9)] ∧ V4.le V' ∧ Ow V' (.om RT.bool false v3 xs8 :: Rs) ∧ itO (fun s => ref21_Good_l1b p0 s.1 s.2) n (xs8, x9) = some r) n11 _ ⟨[], 0, rfl, .refl _, ow6, hn10⟩ (allCons (L 3 rfl rfl) (allCons (L 2 rfl rfl) (allCons (L 1 rfl rfl) (allCons (L 0 rfl rfl) allNil)))) ?_
 rintro _ _ V12 ⟨xs8, x9, rfl, le13, ow14, h18⟩
 obtain ⟨m15, q16, rfl, h19, e17⟩ := itS h18
 replace h19 : ref21_Good_l1b p0 xs8 x9 = some q16 := h19
 unfold ref21_Good_l1b at h19
 refine WP.usreg rfl ?_
 refine U.p rfl rfl (.inl rfl) (S.lss rfl (L 3 rfl rfl) (L 2 rfl rfl)) ?_
 refine U.done (nr rfl) ?_
 refine WP.seq ?_
 refine WP.cond _ (L 0 rfl rfl) rfl (fun c20 => ?_) (fun c20 => ?_)
 ·have h21 := ifT c20 h19
  refine WP.skip ?_
  refine sqN ?_
  refine WP.seq ?_
  refine WP.blk ?_
  refine WP.usreg rfl ?_
  refine U.p rfl rfl (.inl rfl) (S.move rfl (L 4 rfl rfl)) ?_
  obtain ⟨x22, hx23, h24⟩ := bindS h21
  obtain ⟨b25, o26, c27, cs28, hv29, hf30, hr31, hc32⟩ := f2.at hx23
  obtain ⟨v33, rfl, f34⟩ := hr31
  refine U.p rfl rfl (.inl rfl) (S.index rfl ((L 3 rfl rfl).trans hv29) (L 5 rfl rfl) Try.underlying22 ti27 (ix_ge hx23) (ix_lt hx23)) ?_
  refine U.k rfl rfl (.inl rfl) (S.load rfl (L 0 rfl rfl) Try.underlying27 rfl ((le5.trans le13).cell hf30 (hc32 0 _ rfl))) nd ?_
  refine U.p rfl rfl (.inl rfl) (S.assign rfl (L 2 rfl rfl)) ?_
  refine U.p rfl rfl (.inl rfl) (S.assign rfl (L 1 rfl rfl)) ?_
  refine U.done (nr rfl) ?_
  refine WP.usreg rfl ?_
  refine U.p rfl rfl (.inl rfl) (S.move rfl (L 0 rfl rfl)) ?_
  refine U.p rfl rfl (.inl rfl) (f34.1.len rfl (L 0 rfl rfl) Try.underlying27) ?_
  refine U.p rfl rfl (.inl rfl) (S.move rfl K) ?_
  refine U.done (nr rfl) ?_
  refine WP.blk ?_
  unfold ref21_Good_l2 at h24
  obtain ⟨n38, hn37⟩ := loopO_some.1 h24
  refine WP.loopI2 (fun n l V' => ∃ (xs35 : List (Int × Bool)) (x36 : Int), l = [(3, v3), (4, .int .i64 x9), (9, v1), (10, .int .i64 (p0.length : Int)), (11, .int .i64 x9), (16, v33), (17, .int .i64 (x22.length : Int)), (18, .int .i64 x36)] ∧ V12.le V' ∧ Ow V' (.om RT.bool false v3 xs35 :: Rs) ∧ itO (fun s => ref21_Good_l2b x9 x22 s.1 s.2) n (xs35, x36) = some q16) n38 _ ⟨xs8, 0, rfl, .refl _, ow14, hn37⟩ (allCons (L 9 rfl rfl) (allCons (L 4 rfl rfl) (allCons (L 10 rfl rfl) (allCons (L 11 rfl rfl) (allCons (L 12 rfl rfl) (allCons (L 2 rfl rfl) (allCons (L 1 rfl rfl) (allCons (L 0 rfl rfl) allNil)))))))) ?_
  rintro _ _ V39 ⟨xs35, x36, rfl, le40, ow41, h45⟩
  obtain ⟨m42, q43, rfl, h46, e44⟩ := itS h45
  replace h46 : ref21_Good_l2b x9 x22 xs35 x36 = some q43 := h46
  unfold ref21_Good_l2b at h46
  refine WP.usreg rfl ?_
  refine U.p rfl rfl (.inl rfl) (S.lss rfl (L 7 rfl rfl) (L 6 rfl rfl)) ?_
  refine U.done (nr rfl) ?_
  refine WP.seq ?_
  refine WP.cond _ (L 0 rfl rfl) rfl (fun c47 => ?_) (fun c47 => ?_)
  ·have h48 := ifT c47 h46
   refine WP.skip ?_
   refine sqN ?_
   refine WP.seq ?_
   refine WP.blk ?_
   refine WP.usreg rfl ?_
   obtain ⟨x49, hx50, h51⟩ := bindS h48
   obtain ⟨b52, o53, c54, cs55, hv56, hf57, hr58, hc59⟩ := f34.at hx50
   obtain rfl : cs55 = [.int .i64 x49.t, .int .i64 x49.act.kind, .int .i64 x49.act.at_, .int .i64 x49.act.val, .int .i64 x49.act.what, .bool x49.act.volatile, .bool x49.act.final, .int .i64 x49.rf, .int .i64 x49.id] := hr58
   refine U.p rfl rfl (.inl rfl) (S.index rfl ((L 6 rfl rfl).trans hv56) (L 8 rfl rfl) Try.underlying27 ti31 (ix_ge hx50) (ix_lt hx50)) ?_
   refine U.k rfl rfl (.inl rfl) (S.loadN (cs := [.int .i64 x49.t, .int .i64 x49.act.kind, .int .i64 x49.act.at_, .int .i64 x49.act.val, .int .i64 x49.act.what, .bool x49.act.volatile, .bool x49.act.final, .int .i64 x49.rf, .int .i64 x49.id]) rfl (L 0 rfl rfl) Try.underlying31 rfl ti31 rfl (fun j v hj => ((le5.trans le13).trans le40).cell hf57 (hc59 j v hj))) nd ?_
   refine O.alloc ow41 rfl rfl (.inl rfl) rfl ti31 rfl rfl nd (fun b60 V61 le62 ow63 => ?_)
   refine O.store (k := 0) (cs := [.int .i64 x49.t, .int .i64 x49.act.kind, .int .i64 x49.act.at_, .int .i64 x49.act.val, .int .i64 x49.act.what, .bool x49.act.volatile, .bool x49.act.final, .int .i64 x49.rf, .int .i64 x49.id]) (c' := [.int .i64 x49.t, .int .i64 x49.act.kind, .int .i64 x49.act.at_, .int .i64 x49.act.val, .int .i64 x49.act.what, .bool x49.act.volatile, .bool x49.act.final, .int .i64 x49.rf, .int .i64 x49.id]) ow63 rfl rfl rfl (.inl rfl) rfl (L 0 rfl rfl) (L 1 rfl rfl) ti31 (by simp [topV]) rfl rfl (nr rfl) rfl rfl nd (fun V65 le66 ow67 => ?_)
   refine U.done (nr rfl) ?_
   refine WP.seq ?_
   refine WP.usreg rfl ?_
   refine U.p (v := .pointer (some ⟨b60, 0, none⟩)) rfl rfl (.inl rfl) (S.fieldAddr rfl (L 0 rfl rfl) Try.underlying31 rfl ti3 rfl rfl) ?_
   refine U.k rfl rfl (.inl rfl) (S.load rfl (L 0 rfl rfl) Try.underlying3 rfl ((ow67.own (k := 0) rfl).cell rfl)) nd ?_
   refine U.p rfl rfl (.inl rfl) (S.move rfl (L 7 rfl rfl)) ?_
   refine U.p rfl rfl (.inl rfl) (S.neqI rfl (L 1 rfl rfl) (L 0 rfl rfl)) ?_
   refine U.p rfl rfl (.inl rfl) (S.move rfl (L 0 rfl rfl)) ?_
   refine U.joinX 9 (fun e H => ∃ (u68 u69 u70 : Value), H = V65.H ∧ e = [(30, .bool ((decide (x49.t ≠ x9)) || (decide (x49.rf < 0)))), (29, u68), (28, u69), (27, u70)]) ?_ ?_
   ·rintro _ _ ⟨u68, u69, u70, rfl, rfl⟩
    refine U.p rfl rfl (.inl rfl) (S.move rfl (L 0 rfl rfl)) ?_
    refine U.joinX 14 (fun e H => ∃ (u74 u75 u76 : Value), H = V65.H ∧ e = [(35, .bool (((decide (x49.t ≠ x9)) || (decide (x49.rf < 0))) || (decide (x49.id < 0)))), (34, u74), (33, u75), (32, u76)]) ?_ ?_
    ·rintro _ _ ⟨u74, u75, u76, rfl, rfl⟩
     refine U.done (nr rfl) ?_
     refine WP.cond _ (L 0 rfl rfl) rfl (fun c80 => ?_) (fun c80 => ?_)
     ·have h81 := ifT c80 h51
      refine WP.usreg rfl ?_
      refine U.p rfl rfl (.inl rfl) (S.assign rfl K) ?_
      refine U.done (nr rfl) ?_
      refine WP.ret ?_
      refine sqR (blkR (sqR (sqR (blkR (blkR (sqR (sqR (blkR (sqR ?_)))))))))
      have h82 := exitS h81 e44
      have h83 := exitS h82 e17
      refine fin.slot (.inr rfl) rfl (L 0 rfl rfl) ⟨V65, rfl, ((((le5.trans le13).trans le40).trans le62).trans le66), ?_⟩
      have ow84 := ow67.drop 0 rfl
      have ow85 := ow84.drop 0 rfl
      have e86 := Option.some.inj h83
      subst e86
      exact ⟨rfl, ow85⟩
     ·have h87 := ifF c80 h51
      refine WP.skip ?_
      refine sqN ?_
      refine WP.seq ?_
      refine WP.usreg rfl ?_
      refine U.p (v := .pointer (some ⟨b60, 8, none⟩)) rfl rfl (.inl rfl) (S.fieldAddr rfl (L 14 rfl rfl) Try.underlying31 rfl ti3 rfl rfl) ?_
      refine U.k rfl rfl (.inl rfl) (S.load rfl (L 0 rfl rfl) Try.underlying3 rfl ((ow67.own (k := 0) rfl).cell rfl)) nd ?_
      refine U.p rfl rfl (.inl rfl) (S.gtr rfl (L 0 rfl rfl) K) ?_
      refine U.p rfl rfl (.inl rfl) (S.move rfl (L 0 rfl rfl)) ?_
      refine U.joinX 9 (fun e H => ∃ (u88 u89 u90 u91 : Value), H = V65.H ∧ e = [(44, .bool ((decide (0 < x49.id)) && ((mG xs35 x49.id).getD false))), (43, u88), (42, u89), (41, u90), (40, u91)]) ?_ ?_
      ·rintro _ _ ⟨u88, u89, u90, u91, rfl, rfl⟩
       refine U.done (nr rfl) ?_
       refine WP.cond _ (L 0 rfl rfl) rfl (fun c95 => ?_) (fun c95 => ?_)
       ·have h96 := ifT c95 h87
        refine WP.usreg rfl ?_
        refine U.p rfl rfl (.inl rfl) (S.assign rfl K) ?_
        refine U.done (nr rfl) ?_
        refine WP.ret ?_
        refine sqR (blkR (sqR (sqR (blkR (blkR (sqR (sqR (blkR (sqR ?_)))))))))
        have h97 := exitS h96 e44
        have h98 := exitS h97 e17
        refine fin.slot (.inr rfl) rfl (L 0 rfl rfl) ⟨V65, rfl, ((((le5.trans le13).trans le40).trans le62).trans le66), ?_⟩
        have ow99 := ow67.drop 0 rfl
        have ow100 := ow99.drop 0 rfl
        have e101 := Option.some.inj h98
        subst e101
        exact ⟨rfl, ow100⟩
       ·have h102 := ifF c95 h87
        refine WP.skip ?_
        refine sqN ?_
        refine WP.ureg rfl ?_
        refine U.p rfl rfl (.inl rfl) (S.move rfl (L 27 rfl rfl)) ?_
        refine U.p (v := .pointer (some ⟨b60, 8, none⟩)) rfl rfl (.inl rfl) (S.fieldAddr rfl (L 24 rfl rfl) Try.underlying31 rfl ti3 rfl rfl) ?_
        refine U.k rfl rfl (.inl rfl) (S.load rfl (L 0 rfl rfl) Try.underlying3 rfl ((ow67.own (k := 0) rfl).cell rfl)) nd ?_
        refine O.mapUpdate (k := 1) (w := true) ow67 rfl rfl rfl (.inl rfl) rfl (L 2 rfl rfl) (L 0 rfl rfl) K Try.underlying37 Try.underlying3 (cell_vrel rfl) (fun _ _ => nd) (fun V103 le104 ow105 => ?_)
        refine U.done (nr rfl) ?_
        refine blkN (sqN ?_)
        refine WP.ureg rfl ?_
        refine U.p rfl rfl (.inl rfl) (S.add rfl (L 37 rfl rfl) K) ?_
        refine U.p rfl rfl (.inl rfl) (S.move rfl (L 0 rfl rfl)) ?_
        refine U.done (nr rfl) ?_
        refine sqN ?_
        have ow106 := ow105.drop 0 rfl
        exact ⟨_, V103, rfl, ⟨m42, Nat.lt_succ_self _, mS xs35 x49.id true, w64 (x36 + 1), rfl, (((le40.trans le62).trans le66).trans le104), ow106, backS h102 e44⟩, (allCons (L 32 rfl rfl) (allCons (L 33 rfl rfl) (allCons (L 34 rfl rfl) (allCons (L 35 rfl rfl) (allCons (L 36 rfl rfl) (allCons (L 37 rfl rfl) (allCons (L 38 rfl rfl) (allCons (L 0 rfl rfl) allNil))))))))⟩
      ·intro kk
       refine bcase (b := decide (0 < x49.id)) (fun g107 => ?_) (fun g107 => ?_)
       ·skip
        refine U.p rfl rfl (.inr ⟨_, _, _, rfl, rfl, ((L 0 rfl rfl).trans (congrArg Value.bool g107))⟩) (S.move rfl (L 22 rfl rfl)) ?_
        refine U.p (v := .pointer (some ⟨b60, 8, none⟩)) rfl rfl (.inr ⟨_, _, _, rfl, rfl, ((L 1 rfl rfl).trans (congrArg Value.bool g107))⟩) (S.fieldAddr rfl (L 19 rfl rfl) Try.underlying31 rfl ti3 rfl rfl) ?_
        refine U.k rfl rfl (.inr ⟨_, _, _, rfl, rfl, ((L 2 rfl rfl).trans (congrArg Value.bool g107))⟩) (S.load rfl (L 0 rfl rfl) Try.underlying3 rfl ((ow67.own (k := 0) rfl).cell rfl)) nd ?_
        refine O.lookup1 (k := 1) false ow67 rfl rfl rfl (.inr ⟨_, _, _, rfl, rfl, ((L 3 rfl rfl).trans (congrArg Value.bool g107))⟩) rfl (L 2 rfl rfl) (L 0 rfl rfl) Try.underlying37 Try.underlying3 ti4 rfl (cell_vrel rfl) (fun b108 hlt110 => nd) (fun b108 u109 hlt110 hr111 => ?_)
        obtain rfl : u109 = .bool ((mG xs35 x49.id).getD false) := (List.cons.inj (vrel_cell hr111)).1
        refine U.p rfl rfl (.inl rfl) (S.pickT rfl ((L 4 rfl rfl).trans (congrArg Value.bool g107)) (L 0 rfl rfl)) ?_
        exact kk [(44, .bool ((mG xs35 x49.id).getD false)), (43, .bool ((mG xs35 x49.id).getD false)), (42, .int .i64 x49.id), (41, .pointer (some ⟨b60, 8, none⟩)), (40, v3)] _ ⟨.bool ((mG xs35 x49.id).getD false), .int .i64 x49.id, .pointer (some ⟨b60, 8, none⟩), v3, rfl, (by rw [g107, Bool.true_and])⟩
       ·skip
        refine U.x rfl rfl rfl rfl ((L 0 rfl rfl).trans (congrArg Value.bool g107)) (by decide) ?_
        refine U.x rfl rfl rfl rfl ((L 1 rfl rfl).trans (congrArg Value.bool g107)) (by decide) ?_
        refine U.x rfl rfl rfl rfl ((L 2 rfl rfl).trans (congrArg Value.bool g107)) (by decide) ?_
        refine U.x rfl rfl rfl rfl ((L 3 rfl rfl).trans (congrArg Value.bool g107)) (by decide) ?_
        refine U.p rfl rfl (.inl rfl) (S.pickF rfl ((L 4 rfl rfl).trans (congrArg Value.bool g107)) K) ?_
        exact kk [(44, .bool false), (43, .tuple #[]), (42, .tuple #[]), (41, .tuple #[]), (40, .tuple #[])] _ ⟨.tuple #[], .tuple #[], .tuple #[], .tuple #[], rfl, (by rw [g107, Bool.false_and])⟩
    ·intro kk
     refine bcase (b := (decide (x49.t ≠ x9)) || (decide (x49.rf < 0))) (fun g113 => ?_) (fun g113 => ?_)
     ·skip
      refine U.x rfl rfl rfl rfl ((L 0 rfl rfl).trans (congrArg Value.bool g113)) (by decide) ?_
      refine U.x rfl rfl rfl rfl ((L 1 rfl rfl).trans (congrArg Value.bool g113)) (by decide) ?_
      refine U.x rfl rfl rfl rfl ((L 2 rfl rfl).trans (congrArg Value.bool g113)) (by decide) ?_
      refine U.p rfl rfl (.inl rfl) (S.pickT rfl ((L 3 rfl rfl).trans (congrArg Value.bool g113)) K) ?_
      exact kk [(35, .bool true), (34, .tuple #[]), (33, .tuple #[]), (32, .tuple #[])] _ ⟨.tuple #[], .tuple #[], .tuple #[], rfl, (by rw [g113, Bool.true_or])⟩
     ·skip
      refine U.p (v := .pointer (some ⟨b60, 8, none⟩)) rfl rfl (.inr ⟨_, _, _, rfl, rfl, ((L 0 rfl rfl).trans (congrArg Value.bool g113))⟩) (S.fieldAddr rfl (L 10 rfl rfl) Try.underlying31 rfl ti3 rfl rfl) ?_
      refine U.k rfl rfl (.inr ⟨_, _, _, rfl, rfl, ((L 1 rfl rfl).trans (congrArg Value.bool g113))⟩) (S.load rfl (L 0 rfl rfl) Try.underlying3 rfl ((ow67.own (k := 0) rfl).cell rfl)) nd ?_
      refine U.p rfl rfl (.inr ⟨_, _, _, rfl, rfl, ((L 2 rfl rfl).trans (congrArg Value.bool g113))⟩) (S.lss rfl (L 0 rfl rfl) K) ?_
      refine U.p rfl rfl (.inl rfl) (S.pickF rfl ((L 3 rfl rfl).trans (congrArg Value.bool g113)) (L 0 rfl rfl)) ?_
      exact kk [(35, .bool (decide (x49.id < 0))), (34, .bool (decide (x49.id < 0))), (33, .int .i64 x49.id), (32, .pointer (some ⟨b60, 8, none⟩))] _ ⟨.bool (decide (x49.id < 0)), .int .i64 x49.id, .pointer (some ⟨b60, 8, none⟩), rfl, (by rw [g113, Bool.false_or])⟩
   ·intro kk
    refine bcase (b := decide (x49.t ≠ x9)) (fun g114 => ?_) (fun g114 => ?_)
    ·skip
     refine U.x rfl rfl rfl rfl ((L 0 rfl rfl).trans (congrArg Value.bool g114)) (by decide) ?_
     refine U.x rfl rfl rfl rfl ((L 1 rfl rfl).trans (congrArg Value.bool g114)) (by decide) ?_
     refine U.x rfl rfl rfl rfl ((L 2 rfl rfl).trans (congrArg Value.bool g114)) (by decide) ?_
     refine U.p rfl rfl (.inl rfl) (S.pickT rfl ((L 3 rfl rfl).trans (congrArg Value.bool g114)) K) ?_
     exact kk [(30, .bool true), (29, .tuple #[]), (28, .tuple #[]), (27, .tuple #[])] _ ⟨.tuple #[], .tuple #[], .tuple #[], rfl, (by rw [g114, Bool.true_or])⟩
    ·skip
     refine U.p (v := .pointer (some ⟨b60, 7, none⟩)) rfl rfl (.inr ⟨_, _, _, rfl, rfl, ((L 0 rfl rfl).trans (congrArg Value.bool g114))⟩) (S.fieldAddr rfl (L 5 rfl rfl) Try.underlying31 rfl ti3 rfl rfl) ?_
     refine U.k rfl rfl (.inr ⟨_, _, _, rfl, rfl, ((L 1 rfl rfl).trans (congrArg Value.bool g114))⟩) (S.load rfl (L 0 rfl rfl) Try.underlying3 rfl ((ow67.own (k := 0) rfl).cell rfl)) nd ?_
     refine U.p rfl rfl (.inr ⟨_, _, _, rfl, rfl, ((L 2 rfl rfl).trans (congrArg Value.bool g114))⟩) (S.lss rfl (L 0 rfl rfl) K) ?_
     refine U.p rfl rfl (.inl rfl) (S.pickF rfl ((L 3 rfl rfl).trans (congrArg Value.bool g114)) (L 0 rfl rfl)) ?_
     exact kk [(30, .bool (decide (x49.rf < 0))), (29, .bool (decide (x49.rf < 0))), (28, .int .i64 x49.rf), (27, .pointer (some ⟨b60, 7, none⟩))] _ ⟨.bool (decide (x49.rf < 0)), .int .i64 x49.rf, .pointer (some ⟨b60, 7, none⟩), rfl, (by rw [g114, Bool.false_or])⟩
  ·have h115 := ifF c47 h46
   refine WP.exit ?_
   refine sqE (sqE (blkE (blkN (sqN ?_))))
   have h116 := exitS h115 e44
   refine WP.ureg rfl ?_
   refine U.p rfl rfl (.inl rfl) (S.add rfl (L 5 rfl rfl) K) ?_
   refine U.p rfl rfl (.inl rfl) (S.move rfl (L 0 rfl rfl)) ?_
   refine U.done (nr rfl) ?_
   refine sqN ?_
   exact ⟨_, V39, rfl, ⟨m15, Nat.lt_succ_self _, xs35, w64 (x9 + 1), rfl, (le13.trans le40), ow41, backS h116 e17⟩, (allCons (L 3 rfl rfl) (allCons (L 5 rfl rfl) (allCons (L 6 rfl rfl) (allCons (L 0 rfl rfl) allNil))))⟩
 ·have h117 := ifF c20 h19
  refine WP.exit ?_
  refine sqE (sqE (blkE (sqN ?_)))
  have h118 := exitS h117 e17
  refine WP.usreg rfl ?_
  refine U.p rfl rfl (.inl rfl) (S.assign rfl K) ?_
  refine U.done (nr rfl) ?_
  refine WP.ret ?_
  refine fin.slot (.inr rfl) rfl (L 0 rfl rfl) ⟨V12, rfl, (le5.trans le13), ?_⟩
  have ow119 := ow14.drop 0 rfl
  have e120 := Option.some.inj h118
  subst e120
  exact ⟨rfl, ow119⟩
set_option maxHeartbeats 4000000 in
set_option maxRecDepth 10000 in
theorem wk_order_Run_Apart_c1 (V : Vw) (Rs : List At) (p0 : TAct) (ow : Ow V (Rs)) (r : Bool) (h : order_Run_Apart_c1 p0 = some r) : ∃ v V', Cl Try.prog 0 48 #[.agg #[.int .i64 p0.kind, .int .i64 p0.at_, .int .i64 p0.val, .int .i64 p0.what, .bool p0.volatile, .bool p0.final]] V.H v V'.H ∧ V.le V' ∧ (v = .bool r ∧ Ow V' (Rs)) := by
 refine Ct.of (Nat.zero_le _) Try.func48 rfl (nr rfl) ?_
 unfold order_Run_Apart_c1 at h
 refine WP.usreg rfl ?_
 refine O.box ow rfl rfl (.inl rfl) rfl (L 0 rfl rfl) (by simp [topV]) rfl nd (fun b1 V2 le3 ow4 => ?_)
 refine U.p rfl rfl (.inl rfl) (S.assign rfl K) ?_
 refine U.done (nr rfl) ?_
 refine WP.usreg rfl ?_
 refine U.p (v := .pointer (some ⟨b1, 0, none⟩)) rfl rfl (.inl rfl) (S.fieldAddr rfl (L 1 rfl rfl) Try.underlying29 rfl ti3 rfl rfl) ?_
 refine U.k rfl rfl (.inl rfl) (S.load rfl (L 0 rfl rfl) Try.underlying3 rfl ((ow4.own (k := 0) rfl).cell rfl)) nd ?_
 refine U.p rfl rfl (.inl rfl) (S.eqlI rfl (L 0 rfl rfl) K) ?_
 refine U.p rfl rfl (.inl rfl) (S.move rfl (L 0 rfl rfl)) ?_
 refine U.joinX 8 (fun e H => ∃ (u6 u7 u8 : Value), H = V2.H ∧ e = [(10, .bool ((decide (p0.kind = 5)) || (decide (p0.kind = 6)))), (9, u6), (8, u7), (7, u8)]) ?_ ?_
 ·rintro _ _ ⟨u6, u7, u8, rfl, rfl⟩
  refine U.p rfl rfl (.inl rfl) (S.assign rfl (L 0 rfl rfl)) ?_
  refine U.done (nr rfl) ?_
  refine WP.ret ?_
  refine fin.slot (.inr rfl) rfl (L 0 rfl rfl) ⟨V2, rfl, le3, ?_⟩
  have ow12 := ow4.drop 0 rfl
  have e13 := Option.some.inj h
  subst e13
  exact ⟨rfl, ow12⟩
 ·intro kk
  refine bcase (b := decide (p0.kind = 5)) (fun g14 => ?_) (fun g14 => ?_)
  ·skip
   refine U.x rfl rfl rfl rfl ((L 0 rfl rfl).trans (congrArg Value.bool g14)) (by decide) ?_
   refine U.x rfl rfl rfl rfl ((L 1 rfl rfl).trans (congrArg Value.bool g14)) (by decide) ?_
   refine U.x rfl rfl rfl rfl ((L 2 rfl rfl).trans (congrArg Value.bool g14)) (by decide) ?_
   refine U.p rfl rfl (.inl rfl) (S.pickT rfl ((L 3 rfl rfl).trans (congrArg Value.bool g14)) K) ?_
   exact kk [(10, .bool true), (9, .tuple #[]), (8, .tuple #[]), (7, .tuple #[])] _ ⟨.tuple #[], .tuple #[], .tuple #[], rfl, (by rw [g14, Bool.true_or])⟩
  ·skip
   refine U.p (v := .pointer (some ⟨b1, 0, none⟩)) rfl rfl (.inr ⟨_, _, _, rfl, rfl, ((L 0 rfl rfl).trans (congrArg Value.bool g14))⟩) (S.fieldAddr rfl (L 5 rfl rfl) Try.underlying29 rfl ti3 rfl rfl) ?_
   refine U.k rfl rfl (.inr ⟨_, _, _, rfl, rfl, ((L 1 rfl rfl).trans (congrArg Value.bool g14))⟩) (S.load rfl (L 0 rfl rfl) Try.underlying3 rfl ((ow4.own (k := 0) rfl).cell rfl)) nd ?_
   refine U.p rfl rfl (.inr ⟨_, _, _, rfl, rfl, ((L 2 rfl rfl).trans (congrArg Value.bool g14))⟩) (S.eqlI rfl (L 0 rfl rfl) K) ?_
   refine U.p rfl rfl (.inl rfl) (S.pickF rfl ((L 3 rfl rfl).trans (congrArg Value.bool g14)) (L 0 rfl rfl)) ?_
   exact kk [(10, .bool (decide (p0.kind = 6))), (9, .bool (decide (p0.kind = 6))), (8, .int .i64 p0.kind), (7, .pointer (some ⟨b1, 0, none⟩))] _ ⟨.bool (decide (p0.kind = 6)), .int .i64 p0.kind, .pointer (some ⟨b1, 0, none⟩), rfl, (by rw [g14, Bool.false_or])⟩
set_option maxHeartbeats 4000000 in
set_option maxRecDepth 10000 in
theorem wk_order_Run_nodes_2 (V : Vw) (Rs : List At) (p0 : List (List TEvent)) (v1 : Value) (f2 : Fz (RT.sl RT_TEvent) V v1 p0) (ow : Ow V (Rs)) (r : List Tnd) (h : order_Run_nodes_2 p0 = some r) : ∃ v V', Cl Try.prog 0 23 #[v1, .func (.func 48) #[] #[]] V.H v V'.H ∧ V.le V' ∧ (∃ (v3 : Value), v = v3 ∧ Ow V' (.os RT_Tnd v3 r :: Rs)) := by
 refine Ct.of (Nat.zero_le _) Try.func23 rfl (nr rfl) ?_
 unfold order_Run_nodes_2 at h
 refine WP.usreg rfl ?_
 refine U.p rfl rfl (.inl rfl) (S.assign rfl K) ?_
 refine U.done (nr rfl) ?_
 refine WP.usreg rfl ?_
 refine U.p rfl rfl (.inl rfl) (S.assign rfl K) ?_
 refine U.done (nr rfl) ?_
 refine WP.seq ?_
 refine WP.usreg rfl ?_
 refine U.p rfl rfl (.inl rfl) (S.move rfl (L 2 rfl rfl)) ?_
 refine U.p rfl rfl (.inl rfl) (f2.1.len rfl (L 0 rfl rfl) Try.underlying25) ?_
 refine U.p rfl rfl (.inl rfl) (S.move rfl K) ?_
 refine U.done (nr rfl) ?_
 refine WP.blk ?_
 have ow9 := ow.nil RT_Tnd
 unfold order_Run_nodes_2_l1 at h
 obtain ⟨n12, hn11⟩ := loopO_some.1 h
 refine WP.loopI2 (fun n l V' => ∃ (v6 : Value) (xs7 : List Tnd) (x8 : Int), l = [(1, .func (.func 48) #[] #[]), (5, v6), (10, v1), (11, .int .i64 (p0.length : Int)), (12, .int .i64 x8)] ∧ V.le V' ∧ Ow V' (.os RT_Tnd v6 xs7 :: Rs) ∧ itO (fun s => order_Run_nodes_2_l1b p0 s.1 s.2) n (xs7, x8) = some r) n12 _ ⟨(.slice none 0 0), [], 0, rfl, .refl _, ow9, hn11⟩ (allCons (L 6 rfl rfl) (allCons (L 3 rfl rfl) (allCons (L 2 rfl rfl) (allCons (L 1 rfl rfl) (allCons (L 0 rfl rfl) allNil))))) ?_
 rintro _ _ V13 ⟨v6, xs7, x8, rfl, le14, ow15, h19⟩
 obtain ⟨m16, q17, rfl, h20, e18⟩ := itS h19
 replace h20 : order_Run_nodes_2_l1b p0 xs7 x8 = some q17 := h20
 unfold order_Run_nodes_2_l1b at h20
 refine WP.usreg rfl ?_
 refine U.p rfl rfl (.inl rfl) (S.lss rfl (L 4 rfl rfl) (L 3 rfl rfl)) ?_
 refine U.done (nr rfl) ?_
 refine WP.seq ?_
 refine WP.cond _ (L 0 rfl rfl) rfl (fun c21 => ?_) (fun c21 => ?_)
 ·have h22 := ifT c21 h20
  refine WP.skip ?_
  refine sqN ?_
  refine WP.seq ?_
  refine WP.blk ?_
  refine WP.usreg rfl ?_
  obtain ⟨x23, hx24, h25⟩ := bindS h22
  obtain ⟨b26, o27, c28, cs29, hv30, hf31, hr32, hc33⟩ := f2.at hx24
  obtain ⟨v34, rfl, f35⟩ := hr32
  refine U.p rfl rfl (.inl rfl) (S.index rfl ((L 3 rfl rfl).trans hv30) (L 5 rfl rfl) Try.underlying25 ti27 (ix_ge hx24) (ix_lt hx24)) ?_
  refine U.k rfl rfl (.inl rfl) (S.load rfl (L 0 rfl rfl) Try.underlying27 rfl (le14.cell hf31 (hc33 0 _ rfl))) nd ?_
  refine U.p rfl rfl (.inl rfl) (S.assign rfl (L 0 rfl rfl)) ?_
  refine U.done (nr rfl) ?_
  refine WP.usreg rfl ?_
  refine U.p rfl rfl (.inl rfl) (S.move rfl (L 0 rfl rfl)) ?_
  refine U.p rfl rfl (.inl rfl) (f35.1.len rfl (L 0 rfl rfl) Try.underlying27) ?_
  refine U.p rfl rfl (.inl rfl) (S.move rfl K) ?_
  refine U.done (nr rfl) ?_
  refine WP.blk ?_
  unfold order_Run_nodes_2_l2 at h25
  obtain ⟨n41, hn40⟩ := loopO_some.1 h25
  refine WP.loopI2 (fun n l V' => ∃ (v37 : Value) (xs38 : List Tnd) (x39 : Int), l = [(1, .func (.func 48) #[] #[]), (5, v37), (10, v1), (11, .int .i64 (p0.length : Int)), (12, .int .i64 x8), (16, v34), (17, .int .i64 (x23.length : Int)), (18, .int .i64 x39)] ∧ V13.le V' ∧ Ow V' (.os RT_Tnd v37 xs38 :: Rs) ∧ itO (fun s => order_Run_nodes_2_l2b x8 x23 s.1 s.2) n (xs38, x39) = some q17) n41 _ ⟨v6, xs7, 0, rfl, .refl _, ow15, hn40⟩ (allCons (L 7 rfl rfl) (allCons (L 8 rfl rfl) (allCons (L 9 rfl rfl) (allCons (L 10 rfl rfl) (allCons (L 11 rfl rfl) (allCons (L 2 rfl rfl) (allCons (L 1 rfl rfl) (allCons (L 0 rfl rfl) allNil)))))))) ?_
  rintro _ _ V42 ⟨v37, xs38, x39, rfl, le43, ow44, h48⟩
  obtain ⟨m45, q46, rfl, h49, e47⟩ := itS h48
  replace h49 : order_Run_nodes_2_l2b x8 x23 xs38 x39 = some q46 := h49
  unfold order_Run_nodes_2_l2b at h49
  refine WP.usreg rfl ?_
  refine U.p rfl rfl (.inl rfl) (S.lss rfl (L 7 rfl rfl) (L 6 rfl rfl)) ?_
  refine U.done (nr rfl) ?_
  refine WP.seq ?_
  refine WP.cond _ (L 0 rfl rfl) rfl (fun c50 => ?_) (fun c50 => ?_)
  ·have h51 := ifT c50 h49
   refine WP.skip ?_
   refine sqN ?_
   refine WP.seqI (fun l V' => ∃ (v53 : Value) (xs54 : List Tnd), l = [(1, .func (.func 48) #[] #[]), (5, v53), (10, v1), (11, .int .i64 (p0.length : Int)), (12, .int .i64 x8), (16, v34), (17, .int .i64 (x23.length : Int)), (18, .int .i64 x39)] ∧ V42.le V' ∧ Ow V' (.os RT_Tnd v53 xs54 :: Rs) ∧ order_Run_nodes_2_k1 x39 xs54 = some q46) ?_ ?_
   ·rintro _ V55 ⟨v53, xs54, rfl, le56, ow57, h58⟩
    unfold order_Run_nodes_2_k1 at h58
    refine WP.ureg rfl ?_
    refine U.p rfl rfl (.inl rfl) (S.add rfl (L 7 rfl rfl) K) ?_
    refine U.p rfl rfl (.inl rfl) (S.move rfl (L 0 rfl rfl)) ?_
    refine U.done (nr rfl) ?_
    refine sqN ?_
    exact ⟨_, V55, rfl, ⟨m45, Nat.lt_succ_self _, v53, xs54, w64 (x39 + 1), rfl, (le43.trans le56), ow57, backS h58 e47⟩, (allCons (L 2 rfl rfl) (allCons (L 3 rfl rfl) (allCons (L 4 rfl rfl) (allCons (L 5 rfl rfl) (allCons (L 6 rfl rfl) (allCons (L 7 rfl rfl) (allCons (L 8 rfl rfl) (allCons (L 0 rfl rfl) allNil))))))))⟩
   ·skip
    refine WP.blk ?_
    refine WP.usreg rfl ?_
    refine U.p rfl rfl (.inl rfl) (S.move rfl (L 8 rfl rfl)) ?_
    obtain ⟨x59, hx60, h61⟩ := bindS h51
    obtain ⟨b62, o63, c64, cs65, hv66, hf67, hr68, hc69⟩ := f35.at hx60
    obtain rfl : cs65 = [.int .i64 x59.t, .int .i64 x59.act.kind, .int .i64 x59.act.at_, .int .i64 x59.act.val, .int .i64 x59.act.what, .bool x59.act.volatile, .bool x59.act.final, .int .i64 x59.rf, .int .i64 x59.id] := hr68
    refine U.p rfl rfl (.inl rfl) (S.index rfl ((L 7 rfl rfl).trans hv66) (L 9 rfl rfl) Try.underlying27 ti31 (ix_ge hx60) (ix_lt hx60)) ?_
    refine U.k rfl rfl (.inl rfl) (S.loadN (cs := [.int .i64 x59.t, .int .i64 x59.act.kind, .int .i64 x59.act.at_, .int .i64 x59.act.val, .int .i64 x59.act.what, .bool x59.act.volatile, .bool x59.act.final, .int .i64 x59.rf, .int .i64 x59.id]) rfl (L 0 rfl rfl) Try.underlying31 rfl ti31 rfl (fun j v hj => (le14.trans le43).cell hf67 (hc69 j v hj))) nd ?_
    refine O.alloc ow44 rfl rfl (.inl rfl) rfl ti31 rfl rfl nd (fun b70 V71 le72 ow73 => ?_)
    refine U.p rfl rfl (.inl rfl) (S.assign rfl (L 3 rfl rfl)) ?_
    refine O.store (k := 0) (cs := [.int .i64 x59.t, .int .i64 x59.act.kind, .int .i64 x59.act.at_, .int .i64 x59.act.val, .int .i64 x59.act.what, .bool x59.act.volatile, .bool x59.act.final, .int .i64 x59.rf, .int .i64 x59.id]) (c' := [.int .i64 x59.t, .int .i64 x59.act.kind, .int .i64 x59.act.at_, .int .i64 x59.act.val, .int .i64 x59.act.what, .bool x59.act.volatile, .bool x59.act.final, .int .i64 x59.rf, .int .i64 x59.id]) ow73 rfl rfl rfl (.inl rfl) rfl (L 1 rfl rfl) (L 2 rfl rfl) ti31 (by simp [topV]) rfl rfl (nr rfl) rfl rfl nd (fun V75 le76 ow77 => ?_)
    refine U.done (nr rfl) ?_
    refine WP.usreg rfl ?_
    refine U.p (v := .pointer (some ⟨b70, 1, none⟩)) rfl rfl (.inl rfl) (S.fieldAddr rfl (L 1 rfl rfl) Try.underlying31 rfl ti29 rfl rfl) ?_
    refine U.k rfl rfl (.inl rfl) (S.loadN (cs := [.int .i64 x59.act.kind, .int .i64 x59.act.at_, .int .i64 x59.act.val, .int .i64 x59.act.what, .bool x59.act.volatile, .bool x59.act.final]) rfl (L 0 rfl rfl) Try.underlying29 rfl ti29 rfl (cellsOfOwn (ow77.own (k := 0) rfl) 1 rfl)) nd ?_
    obtain ⟨x78, hx79, h80⟩ := bindS h61
    refine O.call (V := V75) rfl rfl (.inl rfl) rfl en39 (aC (L 0 rfl rfl) aN) (wk_order_writes V75 _ x59.act ow77 _ hx79) (fun _ _ _ _ => nd) (fun v81 V82 le83 hp84 => ?_)
    obtain ⟨rfl, ow85⟩ := hp84
    refine U.p rfl rfl (.inl rfl) (S.move rfl (L 0 rfl rfl)) ?_
    obtain ⟨y86, hy87, h88⟩ := bindS h80
    refine U.joinX 8 (fun e H => ∃ (u89 u90 u91 : Value), ∃ V' : Vw, H = V'.H ∧ V82.le V' ∧ e = [(30, .bool y86), (29, u89), (28, u90), (27, u91)] ∧ Ow V' (.pt b70 (.cells 9 [.int .i64 x59.t, .int .i64 x59.act.kind, .int .i64 x59.act.at_, .int .i64 x59.act.val, .int .i64 x59.act.what, .bool x59.act.volatile, .bool x59.act.final, .int .i64 x59.rf, .int .i64 x59.id]) :: .os RT_Tnd v37 xs38 :: Rs)) ?_ ?_
    ·rintro _ _ ⟨u89, u90, u91, V92, rfl, le93, rfl, ow94⟩
     refine U.p rfl rfl (.inl rfl) (S.move rfl (L 0 rfl rfl)) ?_
     obtain ⟨y95, hy96, h97⟩ := bindS h88
     refine U.joinX 14 (fun e H => ∃ (u98 u99 u100 u101 : Value), ∃ V' : Vw, H = V'.H ∧ V92.le V' ∧ e = [(36, .bool y95), (35, u98), (34, u99), (33, u100), (32, u101)] ∧ Ow V' (.pt b70 (.cells 9 [.int .i64 x59.t, .int .i64 x59.act.kind, .int .i64 x59.act.at_, .int .i64 x59.act.val, .int .i64 x59.act.what, .bool x59.act.volatile, .bool x59.act.final, .int .i64 x59.rf, .int .i64 x59.id]) :: .os RT_Tnd v37 xs38 :: Rs)) ?_ ?_
     ·rintro _ _ ⟨u98, u99, u100, u101, V102, rfl, le103, rfl, ow104⟩
      refine U.done (nr rfl) ?_
      refine WP.cond _ (L 0 rfl rfl) rfl (fun c105 => ?_) (fun c105 => ?_)
      ·have h106 := ifT c105 h97
       refine WP.ureg rfl ?_
       refine U.p rfl rfl (.inl rfl) (S.move rfl (L 21 rfl rfl)) ?_
       refine U.k rfl rfl (.inl rfl) (S.loadB rfl (L 16 rfl rfl) Try.underlying31 rfl ti31 (ow104.own (k := 0) rfl).get rfl) nd ?_
       refine U.p rfl rfl (.inl rfl) (S.move rfl (L 16 rfl rfl)) ?_
       refine U.p (v := .agg #[.int .i64 x59.t, .int .i64 x59.act.kind, .int .i64 x59.act.at_, .int .i64 x59.act.val, .int .i64 x59.act.what, .bool x59.act.volatile, .bool x59.act.final, .int .i64 x59.rf, .int .i64 x59.id, .int .i64 x39]) rfl rfl (.inl rfl) (S.build (vs := [.agg #[.int .i64 x59.t, .int .i64 x59.act.kind, .int .i64 x59.act.at_, .int .i64 x59.act.val, .int .i64 x59.act.what, .bool x59.act.volatile, .bool x59.act.final, .int .i64 x59.rf, .int .i64 x59.id], .int .i64 x39]) rfl ti45 rfl pl45 (aC (L 1 rfl rfl) (aC (L 0 rfl rfl) aN)) (allC (by simp [topV]) (allC (by simp [topV]) allN)) (fillA (ws := [.int .i64 x59.t, .int .i64 x59.act.kind, .int .i64 x59.act.at_, .int .i64 x59.act.val, .int .i64 x59.act.what, .bool x59.act.volatile, .bool x59.act.final, .int .i64 x59.rf, .int .i64 x59.id]) rfl rfl rfl (nr rfl) (fill1 rfl rfl (nr rfl) rfl))) ?_
       refine O.lit (R := RT_Tnd) ow104 rfl rfl (.inl rfl) rfl Try.underlying38 ti45 rfl rfl rfl (nr rfl) rfl (aC (L 0 rfl rfl) aN) (.cons _ _ (⟨x59, x39⟩ : Tnd) _ (by simp [topV]) rfl .nil) (fun _ => nd) (fun v107 V108 le109 ow110 => ?_)
       obtain ⟨xs112, hx113, h114⟩ := bindS h106
       refine O.append (k := 2) ow110 rfl rfl rfl (.inl rfl) rfl (L 4 rfl rfl) (L 0 rfl rfl) Try.underlying38 ti45 rfl rfl (nr rfl) (ow110.src (k := 0) rfl Try.underlying38) hx113 (fun _ _ => nd) (fun v115 V116 le117 ow118 => ?_)
       refine U.p rfl rfl (.inl rfl) (S.assign rfl (L 0 rfl rfl)) ?_
       refine U.done (nr rfl) ?_
       refine blkN (sqN ?_)
       have ow120 := ow118.drop 0 rfl
       have ow121 := ow120.drop 0 rfl
       exact ⟨_, V116, rfl, ⟨v115, xs112, rfl, ((((((le72.trans le76).trans le83).trans le93).trans le103).trans le109).trans le117), ow121, h114⟩, (allCons (L 27 rfl rfl) (allCons (L 0 rfl rfl) (allCons (L 29 rfl rfl) (allCons (L 30 rfl rfl) (allCons (L 31 rfl rfl) (allCons (L 32 rfl rfl) (allCons (L 33 rfl rfl) (allCons (L 34 rfl rfl) allNil))))))))⟩
      ·have h122 := ifF c105 h97
       refine WP.skip ?_
       refine blkN (sqN ?_)
       have ow123 := ow104.drop 0 rfl
       exact ⟨_, V102, rfl, ⟨v37, xs38, rfl, ((((le72.trans le76).trans le83).trans le93).trans le103), ow123, h122⟩, (allCons (L 20 rfl rfl) (allCons (L 21 rfl rfl) (allCons (L 22 rfl rfl) (allCons (L 23 rfl rfl) (allCons (L 24 rfl rfl) (allCons (L 25 rfl rfl) (allCons (L 26 rfl rfl) (allCons (L 27 rfl rfl) allNil))))))))⟩
     ·intro kk
      refine bcase (b := y86) (fun g124 => ?_) (fun g124 => ?_)
      ·have h125 := ifT g124 hy96
       refine U.p rfl rfl (.inr ⟨_, _, _, rfl, rfl, ((L 0 rfl rfl).trans (congrArg Value.bool g124))⟩) (S.move rfl (L 15 rfl rfl)) ?_
       refine U.p (v := .pointer (some ⟨b70, 1, none⟩)) rfl rfl (.inr ⟨_, _, _, rfl, rfl, ((L 1 rfl rfl).trans (congrArg Value.bool g124))⟩) (S.fieldAddr rfl (L 11 rfl rfl) Try.underlying31 rfl ti29 rfl rfl) ?_
       refine U.k rfl rfl (.inr ⟨_, _, _, rfl, rfl, ((L 2 rfl rfl).trans (congrArg Value.bool g124))⟩) (S.loadN (cs := [.int .i64 x59.act.kind, .int .i64 x59.act.at_, .int .i64 x59.act.val, .int .i64 x59.act.what, .bool x59.act.volatile, .bool x59.act.final]) rfl (L 0 rfl rfl) Try.underlying29 rfl ti29 rfl (cellsOfOwn (ow94.own (k := 0) rfl) 1 rfl)) nd ?_
       obtain ⟨x126, hx127, h128⟩ := bindS h125
       refine O.callv (V := V92) rfl rfl (.inr ⟨_, _, _, rfl, rfl, ((L 3 rfl rfl).trans (congrArg Value.bool g124))⟩) rfl (L 2 rfl rfl) en48 (aC (L 0 rfl rfl) aN) (wk_order_Run_Apart_c1 V92 _ x59.act ow94 _ hx127) (fun _ _ _ _ => nd) (fun v129 V130 le131 hp132 => ?_)
       obtain ⟨rfl, ow133⟩ := hp132
       refine U.p rfl rfl (.inl rfl) (S.pickT rfl ((L 4 rfl rfl).trans (congrArg Value.bool g124)) (L 0 rfl rfl)) ?_
       have e134 := Option.some.inj h128
       subst e134
       exact kk [(36, .bool x126), (35, .bool x126), (34, .agg #[.int .i64 x59.act.kind, .int .i64 x59.act.at_, .int .i64 x59.act.val, .int .i64 x59.act.what, .bool x59.act.volatile, .bool x59.act.final]), (33, .pointer (some ⟨b70, 1, none⟩)), (32, .func (.func 48) #[] #[])] _ ⟨.bool x126, .agg #[.int .i64 x59.act.kind, .int .i64 x59.act.at_, .int .i64 x59.act.val, .int .i64 x59.act.what, .bool x59.act.volatile, .bool x59.act.final], .pointer (some ⟨b70, 1, none⟩), .func (.func 48) #[] #[], V130, rfl, le131, rfl, ow133⟩
      ·have h135 := ifF g124 hy96
       refine U.x rfl rfl rfl rfl ((L 0 rfl rfl).trans (congrArg Value.bool g124)) (by decide) ?_
       refine U.x rfl rfl rfl rfl ((L 1 rfl rfl).trans (congrArg Value.bool g124)) (by decide) ?_
       refine U.x rfl rfl rfl rfl ((L 2 rfl rfl).trans (congrArg Value.bool g124)) (by decide) ?_
       refine U.x rfl rfl rfl rfl ((L 3 rfl rfl).trans (congrArg Value.bool g124)) (by decide) ?_
       refine U.p rfl rfl (.inl rfl) (S.pickF rfl ((L 4 rfl rfl).trans (congrArg Value.bool g124)) K) ?_
       have e136 := Option.some.inj h135
       subst e136
       exact kk [(36, .bool false), (35, .tuple #[]), (34, .tuple #[]), (33, .tuple #[]), (32, .tuple #[])] _ ⟨.tuple #[], .tuple #[], .tuple #[], .tuple #[], V92, rfl, (.refl _), rfl, ow94⟩
    ·intro kk
     refine bcase (b := x78) (fun g137 => ?_) (fun g137 => ?_)
     ·have h138 := ifT g137 hy87
      refine U.x rfl rfl rfl rfl ((L 0 rfl rfl).trans (congrArg Value.bool g137)) (by decide) ?_
      refine U.x rfl rfl rfl rfl ((L 1 rfl rfl).trans (congrArg Value.bool g137)) (by decide) ?_
      refine U.x rfl rfl rfl rfl ((L 2 rfl rfl).trans (congrArg Value.bool g137)) (by decide) ?_
      refine U.p rfl rfl (.inl rfl) (S.pickT rfl ((L 3 rfl rfl).trans (congrArg Value.bool g137)) K) ?_
      have e139 := Option.some.inj h138
      subst e139
      exact kk [(30, .bool true), (29, .tuple #[]), (28, .tuple #[]), (27, .tuple #[])] _ ⟨.tuple #[], .tuple #[], .tuple #[], V82, rfl, (.refl _), rfl, ow85⟩
     ·have h140 := ifF g137 hy87
      refine U.p (v := .pointer (some ⟨b70, 1, none⟩)) rfl rfl (.inr ⟨_, _, _, rfl, rfl, ((L 0 rfl rfl).trans (congrArg Value.bool g137))⟩) (S.fieldAddr rfl (L 5 rfl rfl) Try.underlying31 rfl ti29 rfl rfl) ?_
      refine U.k rfl rfl (.inr ⟨_, _, _, rfl, rfl, ((L 1 rfl rfl).trans (congrArg Value.bool g137))⟩) (S.loadN (cs := [.int .i64 x59.act.kind, .int .i64 x59.act.at_, .int .i64 x59.act.val, .int .i64 x59.act.what, .bool x59.act.volatile, .bool x59.act.final]) rfl (L 0 rfl rfl) Try.underlying29 rfl ti29 rfl (cellsOfOwn (ow85.own (k := 0) rfl) 1 rfl)) nd ?_
      obtain ⟨x141, hx142, h143⟩ := bindS h140
      refine O.call (V := V82) rfl rfl (.inr ⟨_, _, _, rfl, rfl, ((L 2 rfl rfl).trans (congrArg Value.bool g137))⟩) rfl en38 (aC (L 0 rfl rfl) aN) (wk_order_reads V82 _ x59.act ow85 _ hx142) (fun _ _ _ _ => nd) (fun v144 V145 le146 hp147 => ?_)
      obtain ⟨rfl, ow148⟩ := hp147
      refine U.p rfl rfl (.inl rfl) (S.pickF rfl ((L 3 rfl rfl).trans (congrArg Value.bool g137)) (L 0 rfl rfl)) ?_
      have e149 := Option.some.inj h143
      subst e149
      exact kk [(30, .bool x141), (29, .bool x141), (28, .agg #[.int .i64 x59.act.kind, .int .i64 x59.act.at_, .int .i64 x59.act.val, .int .i64 x59.act.what, .bool x59.act.volatile, .bool x59.act.final]), (27, .pointer (some ⟨b70, 1, none⟩))] _ ⟨.bool x141, .agg #[.int .i64 x59.act.kind, .int .i64 x59.act.at_, .int .i64 x59.act.val, .int .i64 x59.act.what, .bool x59.act.volatile, .bool x59.act.final], .pointer (some ⟨b70, 1, none⟩), V145, rfl, le146, rfl, ow148⟩
  ·have h150 := ifF c50 h49
   refine WP.exit ?_
   refine sqE (sqE (blkE (blkN (sqN ?_))))
   have h151 := exitS h150 e47
   refine WP.ureg rfl ?_
   refine U.p rfl rfl (.inl rfl) (S.add rfl (L 5 rfl rfl) K) ?_
   refine U.p rfl rfl (.inl rfl) (S.move rfl (L 0 rfl rfl)) ?_
   refine U.done (nr rfl) ?_
   refine sqN ?_
   exact ⟨_, V42, rfl, ⟨m16, Nat.lt_succ_self _, v37, xs38, w64 (x8 + 1), rfl, (le14.trans le43), ow44, backS h151 e18⟩, (allCons (L 3 rfl rfl) (allCons (L 4 rfl rfl) (allCons (L 5 rfl rfl) (allCons (L 6 rfl rfl) (allCons (L 0 rfl rfl) allNil)))))⟩
 ·have h152 := ifF c21 h20
  refine WP.exit ?_
  refine sqE (sqE (blkE (sqN ?_)))
  have h153 := exitS h152 e18
  refine WP.usreg rfl ?_
  refine U.p rfl rfl (.inl rfl) (S.move rfl (L 2 rfl rfl)) ?_
  refine U.p rfl rfl (.inl rfl) (S.assign rfl (L 0 rfl rfl)) ?_
  refine U.done (nr rfl) ?_
  refine WP.ret ?_
  refine fin.slot (.inr rfl) rfl (L 0 rfl rfl) ⟨V13, rfl, le14, ?_⟩
  have e154 := Option.some.inj h153
  subst e154
  exact ⟨v6, rfl, ow15⟩
set_option maxHeartbeats 4000000 in
set_option maxRecDepth 10000 in
theorem wk_math_bits_Len64 (V : Vw) (Rs : List At) (p0 : Int) (ow : Ow V (Rs)) (r : Int) (h : math_bits_Len64 p0 = some r) : ∃ v V', Cl Try.prog 0 70 #[.int .u64 p0] V.H v V'.H ∧ V.le V' ∧ (v = .int .i64 r ∧ Ow V' (Rs)) := by
 refine Ct.of (Nat.zero_le _) Try.func70 rfl (nr rfl) ?_
 unfold math_bits_Len64 at h
 refine WP.usreg rfl ?_
 refine U.p rfl rfl (.inl rfl) (S.assign rfl K) ?_
 refine U.done (nr rfl) ?_
 refine WP.seqI (fun l V' => ∃ (x1 : Int) (x2 : Int), l = [(0, .int .u64 x1), (2, .int .i64 x2)] ∧ V.le V' ∧ Ow V' (Rs) ∧ math_bits_Len64_k1 x1 x2 = some r) ?_ ?_
 ·rintro _ V3 ⟨x1, x2, rfl, le4, ow5, h6⟩
  unfold math_bits_Len64_k1 at h6
  refine WP.seqI (fun l V' => ∃ (x7 : Int) (x8 : Int), l = [(0, .int .u64 x7), (2, .int .i64 x8)] ∧ V3.le V' ∧ Ow V' (Rs) ∧ math_bits_Len64_k2 x7 x8 = some r) ?_ ?_
  ·rintro _ V9 ⟨x7, x8, rfl, le10, ow11, h12⟩
   unfold math_bits_Len64_k2 at h12
   refine WP.seqI (fun l V' => ∃ (x13 : Int) (x14 : Int), l = [(0, .int .u64 x13), (2, .int .i64 x14)] ∧ V9.le V' ∧ Ow V' (Rs) ∧ math_bits_Len64_k3 x13 x14 = some r) ?_ ?_
   ·rintro _ V15 ⟨x13, x14, rfl, le16, ow17, h18⟩
    unfold math_bits_Len64_k3 at h18
    refine WP.usreg rfl ?_
    refine U.p rfl rfl (.inl rfl) (S.move rfl (L 1 rfl rfl)) ?_
    refine U.p rfl rfl (.inl rfl) (S.move rfl (L 1 rfl rfl)) ?_
    refine U.p rfl rfl (.inl rfl) (S.conv rfl (L 0 rfl rfl) Try.underlying87 Try.underlying5) ?_
    obtain ⟨x19, hx20, h21⟩ := bindS h18
    refine U.p rfl rfl (.inl rfl) (S.indexS hx20 rfl K (L 0 rfl rfl) Try.underlying9) ?_
    refine U.p rfl rfl (.inl rfl) (S.conv rfl (L 0 rfl rfl) Try.underlying5 Try.underlying3) ?_
    refine U.p rfl rfl (.inl rfl) (S.add rfl (L 4 rfl rfl) (L 0 rfl rfl)) ?_
    refine U.p rfl rfl (.inl rfl) (S.assign rfl (L 0 rfl rfl)) ?_
    refine U.done (nr rfl) ?_
    refine WP.ret ?_
    refine fin.slot (.inr rfl) rfl (L 0 rfl rfl) ⟨V15, rfl, ((le4.trans le10).trans le16), ?_⟩
    have e22 := Option.some.inj h21
    subst e22
    exact ⟨rfl, ow17⟩
   ·skip
    refine WP.usreg rfl ?_
    refine U.p rfl rfl (.inl rfl) (S.move rfl (L 0 rfl rfl)) ?_
    refine U.p rfl rfl (.inl rfl) (S.geq rfl (L 0 rfl rfl) K) ?_
    refine U.done (nr rfl) ?_
    refine WP.cond _ (L 0 rfl rfl) rfl (fun c23 => ?_) (fun c23 => ?_)
    ·have h24 := ifT c23 h12
     refine WP.usreg rfl ?_
     refine U.p rfl rfl (.inl rfl) (S.move rfl (L 2 rfl rfl)) ?_
     obtain ⟨x25, hx26, h27⟩ := bindS h24
     refine U.p rfl rfl (.inl rfl) (S.shr hx26 rfl (L 0 rfl rfl) K) ?_
     refine U.p rfl rfl (.inl rfl) (S.assign rfl (L 0 rfl rfl)) ?_
     refine U.done (nr rfl) ?_
     refine WP.ureg rfl ?_
     refine U.p rfl rfl (.inl rfl) (S.move rfl (L 6 rfl rfl)) ?_
     refine U.p rfl rfl (.inl rfl) (S.add rfl (L 0 rfl rfl) K) ?_
     refine U.p rfl rfl (.inl rfl) (S.assign rfl (L 0 rfl rfl)) ?_
     refine U.done (nr rfl) ?_
     refine sqN ?_
     exact ⟨_, V9, rfl, ⟨x25, w64 (x8 + 8), rfl, (.refl _), ow11, h27⟩, (allCons (L 3 rfl rfl) (allCons (L 0 rfl rfl) allNil))⟩
    ·have h28 := ifF c23 h12
     refine WP.skip ?_
     refine sqN ?_
     exact ⟨_, V9, rfl, ⟨x7, x8, rfl, (.refl _), ow11, h28⟩, (allCons (L 2 rfl rfl) (allCons (L 3 rfl rfl) allNil))⟩
  ·skip
   refine WP.usreg rfl ?_
   refine U.p rfl rfl (.inl rfl) (S.move rfl (L 0 rfl rfl)) ?_
   refine U.p rfl rfl (.inl rfl) (S.geq rfl (L 0 rfl rfl) K) ?_
   refine U.done (nr rfl) ?_
   refine WP.cond _ (L 0 rfl rfl) rfl (fun c29 => ?_) (fun c29 => ?_)
   ·have h30 := ifT c29 h6
    refine WP.usreg rfl ?_
    refine U.p rfl rfl (.inl rfl) (S.move rfl (L 2 rfl rfl)) ?_
    obtain ⟨x31, hx32, h33⟩ := bindS h30
    refine U.p rfl rfl (.inl rfl) (S.shr hx32 rfl (L 0 rfl rfl) K) ?_
    refine U.p rfl rfl (.inl rfl) (S.assign rfl (L 0 rfl rfl)) ?_
    refine U.done (nr rfl) ?_
    refine WP.ureg rfl ?_
    refine U.p rfl rfl (.inl rfl) (S.move rfl (L 6 rfl rfl)) ?_
    refine U.p rfl rfl (.inl rfl) (S.add rfl (L 0 rfl rfl) K) ?_
    refine U.p rfl rfl (.inl rfl) (S.assign rfl (L 0 rfl rfl)) ?_
    refine U.done (nr rfl) ?_
    refine sqN ?_
    exact ⟨_, V3, rfl, ⟨x31, w64 (x2 + 16), rfl, (.refl _), ow5, h33⟩, (allCons (L 3 rfl rfl) (allCons (L 0 rfl rfl) allNil))⟩
   ·have h34 := ifF c29 h6
    refine WP.skip ?_
    refine sqN ?_
    exact ⟨_, V3, rfl, ⟨x1, x2, rfl, (.refl _), ow5, h34⟩, (allCons (L 2 rfl rfl) (allCons (L 3 rfl rfl) allNil))⟩
 ·skip
  refine WP.usreg rfl ?_
  refine U.p rfl rfl (.inl rfl) (S.move rfl (L 1 rfl rfl)) ?_
  refine U.p rfl rfl (.inl rfl) (S.geq rfl (L 0 rfl rfl) K) ?_
  refine U.done (nr rfl) ?_
  refine WP.cond _ (L 0 rfl rfl) rfl (fun c35 => ?_) (fun c35 => ?_)
  ·have h36 := ifT c35 h
   refine WP.usreg rfl ?_
   refine U.p rfl rfl (.inl rfl) (S.move rfl (L 3 rfl rfl)) ?_
   obtain ⟨x37, hx38, h39⟩ := bindS h36
   refine U.p rfl rfl (.inl rfl) (S.shr hx38 rfl (L 0 rfl rfl) K) ?_
   refine U.p rfl rfl (.inl rfl) (S.assign rfl (L 0 rfl rfl)) ?_
   refine U.done (nr rfl) ?_
   refine WP.ureg rfl ?_
   refine U.p rfl rfl (.inl rfl) (S.assign rfl K) ?_
   refine U.done (nr rfl) ?_
   refine sqN ?_
   exact ⟨_, V, rfl, ⟨x37, 32, rfl, (.refl _), ow, h39⟩, (allCons (L 1 rfl rfl) (allCons (L 0 rfl rfl) allNil))⟩
  ·have h40 := ifF c35 h
   refine WP.skip ?_
   refine sqN ?_
   exact ⟨_, V, rfl, ⟨p0, 0, rfl, (.refl _), ow, h40⟩, (allCons (L 3 rfl rfl) (allCons (L 2 rfl rfl) allNil))⟩
set_option maxHeartbeats 4000000 in
set_option maxRecDepth 10000 in
theorem wk_math_bits_Len (V : Vw) (Rs : List At) (p0 : Int) (ow : Ow V (Rs)) (r : Int) (h : math_bits_Len p0 = some r) : ∃ v V', Cl Try.prog 0 59 #[.int .u64 p0] V.H v V'.H ∧ V.le V' ∧ (v = .int .i64 r ∧ Ow V' (Rs)) := by
 refine Ct.of (Nat.zero_le _) Try.func59 rfl (nr rfl) ?_
 unfold math_bits_Len at h
 refine WP.usreg rfl ?_
 refine U.p rfl rfl (.inl rfl) (S.assign rfl K) ?_
 refine U.done (nr rfl) ?_
 refine WP.seq ?_
 refine WP.cond false K rfl (fun h => by cases h) (fun _ => ?_)
 refine WP.skip ?_
 refine sqN ?_
 refine WP.usreg rfl ?_
 refine U.p rfl rfl (.inl rfl) (S.move rfl (L 1 rfl rfl)) ?_
 obtain ⟨x1, hx2, h3⟩ := bindS h
 refine O.call (V := V) rfl rfl (.inl rfl) rfl en70 (aC (L 0 rfl rfl) aN) (wk_math_bits_Len64 V _ p0 ow _ hx2) (fun _ _ _ _ => nd) (fun v4 V5 le6 hp7 => ?_)
 obtain ⟨rfl, ow8⟩ := hp7
 refine U.p rfl rfl (.inl rfl) (S.assign rfl (L 0 rfl rfl)) ?_
 refine U.done (nr rfl) ?_
 refine WP.ret ?_
 refine fin.slot (.inr rfl) rfl (L 0 rfl rfl) ⟨V5, rfl, le6, ?_⟩
 have e9 := Option.some.inj h3
 subst e9
 exact ⟨rfl, ow8⟩
set_option maxHeartbeats 4000000 in
set_option maxRecDepth 10000 in
theorem wk_order_Run_Apart_c2 (V : Vw) (Rs : List At) (p0 : Tnd) (p1 : Tnd) (ow : Ow V (Rs)) (r : Int) (h : order_Run_Apart_c2 p0 p1 = some r) : ∃ v V', Cl Try.prog 0 50 #[.agg #[.int .i64 p0.e.t, .int .i64 p0.e.act.kind, .int .i64 p0.e.act.at_, .int .i64 p0.e.act.val, .int .i64 p0.e.act.what, .bool p0.e.act.volatile, .bool p0.e.act.final, .int .i64 p0.e.rf, .int .i64 p0.e.id, .int .i64 p0.at_], .agg #[.int .i64 p1.e.t, .int .i64 p1.e.act.kind, .int .i64 p1.e.act.at_, .int .i64 p1.e.act.val, .int .i64 p1.e.act.what, .bool p1.e.act.volatile, .bool p1.e.act.final, .int .i64 p1.e.rf, .int .i64 p1.e.id, .int .i64 p1.at_]] V.H v V'.H ∧ V.le V' ∧ (v = .int .i64 r ∧ Ow V' (Rs)) := by
 refine Ct.of (Nat.zero_le _) Try.func50 rfl (nr rfl) ?_
 unfold order_Run_Apart_c2 at h
 refine WP.usreg rfl ?_
 refine O.box ow rfl rfl (.inl rfl) rfl (L 0 rfl rfl) (by simp [topV]) rfl nd (fun b1 V2 le3 ow4 => ?_)
 refine O.box ow4 rfl rfl (.inl rfl) rfl (L 2 rfl rfl) (by simp [topV]) rfl nd (fun b6 V7 le8 ow9 => ?_)
 refine U.p rfl rfl (.inl rfl) (S.assign rfl K) ?_
 refine U.done (nr rfl) ?_
 refine WP.usreg rfl ?_
 refine U.p (v := .pointer (some ⟨b1, 0, none⟩)) rfl rfl (.inl rfl) (S.fieldAddr rfl (L 2 rfl rfl) Try.underlying45 rfl ti31 rfl rfl) ?_
 refine U.p (v := .pointer (some ⟨b1, 8, none⟩)) rfl rfl (.inl rfl) (S.fieldAddr rfl (L 0 rfl rfl) Try.underlying31 rfl ti3 rfl rfl) ?_
 refine U.k rfl rfl (.inl rfl) (S.load rfl (L 0 rfl rfl) Try.underlying3 rfl ((ow9.own (k := 1) rfl).cell rfl)) nd ?_
 refine U.p (v := .pointer (some ⟨b6, 0, none⟩)) rfl rfl (.inl rfl) (S.fieldAddr rfl (L 4 rfl rfl) Try.underlying45 rfl ti31 rfl rfl) ?_
 refine U.p (v := .pointer (some ⟨b6, 8, none⟩)) rfl rfl (.inl rfl) (S.fieldAddr rfl (L 0 rfl rfl) Try.underlying31 rfl ti3 rfl rfl) ?_
 refine U.k rfl rfl (.inl rfl) (S.load rfl (L 0 rfl rfl) Try.underlying3 rfl ((ow9.own (k := 0) rfl).cell rfl)) nd ?_
 refine U.p rfl rfl (.inl rfl) (S.sub rfl (L 3 rfl rfl) (L 0 rfl rfl)) ?_
 refine U.p rfl rfl (.inl rfl) (S.assign rfl (L 0 rfl rfl)) ?_
 refine U.done (nr rfl) ?_
 refine WP.ret ?_
 refine fin.slot (.inr rfl) rfl (L 0 rfl rfl) ⟨V7, rfl, (le3.trans le8), ?_⟩
 have ow11 := ow9.drop 0 rfl
 have ow12 := ow11.drop 0 rfl
 have e13 := Option.some.inj h
 subst e13
 exact ⟨rfl, ow12⟩
set_option maxHeartbeats 4000000 in
set_option maxRecDepth 10000 in
theorem wk_s_insertionSort (V : Vw) (Rs : List At) (p0 : List Tnd) (p1 : Int) (p2 : Int) (v1 : Value) (ow : Ow V (.os RT_Tnd v1 p0 :: Rs)) (r : List Tnd) (h : s_insertionSort p0 p1 p2 = some r) : ∃ v V', Cl Try.prog 0 61 #[v1, .int .i64 p1, .int .i64 p2, .func (.func 50) #[] #[]] V.H v V'.H ∧ V.le V' ∧ (Ow V' (.os RT_Tnd v1 r :: Rs)) := by
 refine Ct.of (Nat.zero_le _) Try.func61 rfl (nr rfl) ?_
 unfold s_insertionSort at h
 refine WP.usreg rfl ?_
 refine U.p rfl rfl (.inl rfl) (S.move rfl (L 1 rfl rfl)) ?_
 refine U.p rfl rfl (.inl rfl) (S.add rfl (L 0 rfl rfl) K) ?_
 refine U.p rfl rfl (.inl rfl) (S.assign rfl (L 0 rfl rfl)) ?_
 refine U.done (nr rfl) ?_
 refine WP.blk ?_
 unfold s_insertionSort_l1 at h
 obtain ⟨n6, hn5⟩ := loopO_some.1 h
 refine WP.loopI2 (fun n l V' => ∃ (xs3 : List Tnd) (x4 : Int), l = [(0, v1), (1, .int .i64 p1), (2, .int .i64 p2), (3, .func (.func 50) #[] #[]), (8, .int .i64 x4)] ∧ V.le V' ∧ Ow V' (.os RT_Tnd v1 xs3 :: Rs) ∧ itO (fun s => s_insertionSort_l1b p1 p2 s.1 s.2) n (xs3, x4) = some r) n6 _ ⟨p0, w64 (p1 + 1), rfl, .refl _, ow, hn5⟩ (allCons (L 3 rfl rfl) (allCons (L 4 rfl rfl) (allCons (L 5 rfl rfl) (allCons (L 6 rfl rfl) (allCons (L 0 rfl rfl) allNil))))) ?_
 rintro _ _ V7 ⟨xs3, x4, rfl, le8, ow9, h13⟩
 obtain ⟨m10, q11, rfl, h14, e12⟩ := itS h13
 replace h14 : s_insertionSort_l1b p1 p2 xs3 x4 = some q11 := h14
 unfold s_insertionSort_l1b at h14
 refine WP.seq ?_
 refine WP.usreg rfl ?_
 refine U.p rfl rfl (.inl rfl) (S.move rfl (L 4 rfl rfl)) ?_
 refine U.p rfl rfl (.inl rfl) (S.move rfl (L 3 rfl rfl)) ?_
 refine U.p rfl rfl (.inl rfl) (S.lss rfl (L 1 rfl rfl) (L 0 rfl rfl)) ?_
 refine U.done (nr rfl) ?_
 refine WP.cond _ (L 0 rfl rfl) rfl (fun c15 => ?_) (fun c15 => ?_)
 ·have h16 := ifT c15 h14
  refine WP.skip ?_
  refine sqN ?_
  refine WP.seq ?_
  refine WP.blk ?_
  refine WP.usreg rfl ?_
  refine U.p rfl rfl (.inl rfl) (S.move rfl (L 7 rfl rfl)) ?_
  refine U.p rfl rfl (.inl rfl) (S.assign rfl (L 0 rfl rfl)) ?_
  refine U.done (nr rfl) ?_
  refine WP.blk ?_
  unfold s_insertionSort_l2 at h16
  obtain ⟨n20, hn19⟩ := loopO_some.1 h16
  refine WP.loopI2 (fun n l V' => ∃ (xs17 : List Tnd) (x18 : Int), l = [(0, v1), (1, .int .i64 p1), (2, .int .i64 p2), (3, .func (.func 50) #[] #[]), (8, .int .i64 x4), (9, .int .i64 x18)] ∧ V7.le V' ∧ Ow V' (.os RT_Tnd v1 xs17 :: Rs) ∧ itO (fun s => s_insertionSort_l2b p1 x4 s.1 s.2) n (xs17, x18) = some q11) n20 _ ⟨xs3, x4, rfl, .refl _, ow9, hn19⟩ (allCons (L 5 rfl rfl) (allCons (L 6 rfl rfl) (allCons (L 7 rfl rfl) (allCons (L 8 rfl rfl) (allCons (L 9 rfl rfl) (allCons (L 0 rfl rfl) allNil)))))) ?_
  rintro _ _ V21 ⟨xs17, x18, rfl, le22, ow23, h27⟩
  obtain ⟨m24, q25, rfl, h28, e26⟩ := itS h27
  replace h28 : s_insertionSort_l2b p1 x4 xs17 x18 = some q25 := h28
  unfold s_insertionSort_l2b at h28
  refine WP.seq ?_
  refine WP.seqI (fun l V' => ∃ (x29 : Bool), l = [(0, v1), (1, .int .i64 p1), (2, .int .i64 p2), (3, .func (.func 50) #[] #[]), (8, .int .i64 x4), (9, .int .i64 x18), (34, .bool x29)] ∧ V21.le V' ∧ Ow V' (.os RT_Tnd v1 xs17 :: Rs) ∧ s_insertionSort_k1 x4 xs17 x18 x29 = some q25) ?_ ?_
  ·rintro _ V30 ⟨x29, rfl, le31, ow32, h33⟩
   unfold s_insertionSort_k1 at h33
   refine WP.cond _ (L 6 rfl rfl) rfl (fun c34 => ?_) (fun c34 => ?_)
   ·have h35 := ifT c34 h33
    refine WP.skip ?_
    refine sqN ?_
    refine WP.seq ?_
    refine WP.blk ?_
    refine WP.udreg rfl rfl rfl ?_
    refine U.p rfl rfl (.inl rfl) (S.move rfl (L 0 rfl rfl)) ?_
    refine U.p rfl rfl (.inl rfl) (S.move rfl (L 6 rfl rfl)) ?_
    refine U.p rfl rfl (.inl rfl) (S.move rfl (L 2 rfl rfl)) ?_
    refine U.p rfl rfl (.inl rfl) (S.move rfl (L 8 rfl rfl)) ?_
    refine U.p rfl rfl (.inl rfl) (S.sub rfl (L 0 rfl rfl) K) ?_
    refine U.p rfl rfl (.inl rfl) (S.move rfl (L 5 rfl rfl)) ?_
    refine U.p rfl rfl (.inl rfl) (S.move rfl (L 11 rfl rfl)) ?_
    refine U.p rfl rfl (.inl rfl) (S.sub rfl (L 0 rfl rfl) K) ?_
    obtain ⟨x36, hx37, h38⟩ := bindS h35
    obtain ⟨b39, o40, n41, c42, hv43⟩ := ow32.ospt (k := 0) rfl hx37
    obtain ⟨_, hv44, _⟩ := ow32.osel (k := 0) rfl hv43 hx37
    refine U.p rfl rfl (.inl rfl) (S.index rfl ((L 2 rfl rfl).trans hv44) (L 0 rfl rfl) Try.underlying38 ti45 (ix_ge hx37) (ix_lt hx37)) ?_
    obtain ⟨cs45, hv46, hlt47, hr48, hc49⟩ := ow32.osel (k := 0) rfl hv43 hx37
    obtain rfl : cs45 = [.int .i64 x36.e.t, .int .i64 x36.e.act.kind, .int .i64 x36.e.act.at_, .int .i64 x36.e.act.val, .int .i64 x36.e.act.what, .bool x36.e.act.volatile, .bool x36.e.act.final, .int .i64 x36.e.rf, .int .i64 x36.e.id, .int .i64 x36.at_] := hr48
    refine U.k rfl rfl (.inl rfl) (S.loadN (cs := [.int .i64 x36.e.t, .int .i64 x36.e.act.kind, .int .i64 x36.e.act.at_, .int .i64 x36.e.act.val, .int .i64 x36.e.act.what, .bool x36.e.act.volatile, .bool x36.e.act.final, .int .i64 x36.e.rf, .int .i64 x36.e.id, .int .i64 x36.at_]) rfl (L 0 rfl rfl) Try.underlying45 rfl ti45 rfl hc49) (fun _ => (okH.nil (fun r h => by cases h; exact hlt47))) ?_
    refine U.p rfl rfl (.inl rfl) (S.move rfl (L 10 rfl rfl)) ?_
    refine U.p rfl rfl (.inl rfl) (S.move rfl (L 16 rfl rfl)) ?_
    obtain ⟨x50, hx51, h52⟩ := bindS h38
    obtain ⟨_, hv53, _⟩ := ow32.osel (k := 0) rfl hv43 hx51
    refine U.p rfl rfl (.inl rfl) (S.index rfl ((L 1 rfl rfl).trans hv53) (L 0 rfl rfl) Try.underlying38 ti45 (ix_ge hx51) (ix_lt hx51)) ?_
    obtain ⟨cs54, hv55, hlt56, hr57, hc58⟩ := ow32.osel (k := 0) rfl hv43 hx51
    obtain rfl : cs54 = [.int .i64 x50.e.t, .int .i64 x50.e.act.kind, .int .i64 x50.e.act.at_, .int .i64 x50.e.act.val, .int .i64 x50.e.act.what, .bool x50.e.act.volatile, .bool x50.e.act.final, .int .i64 x50.e.rf, .int .i64 x50.e.id, .int .i64 x50.at_] := hr57
    refine U.k rfl rfl (.inl rfl) (S.loadN (cs := [.int .i64 x50.e.t, .int .i64 x50.e.act.kind, .int .i64 x50.e.act.at_, .int .i64 x50.e.act.val, .int .i64 x50.e.act.what, .bool x50.e.act.volatile, .bool x50.e.act.final, .int .i64 x50.e.rf, .int .i64 x50.e.id, .int .i64 x50.at_]) rfl (L 0 rfl rfl) Try.underlying45 rfl ti45 rfl hc58) (fun _ => (okH.cons trivial (okH.nil (fun r h => by cases h; exact hlt56)))) ?_
    obtain ⟨x59, hx60, h61⟩ := bindS h52
    obtain ⟨_, hv62, _⟩ := ow32.osel (k := 0) rfl hv43 hx60
    refine U.p rfl rfl (.inl rfl) (S.index rfl ((L 13 rfl rfl).trans hv62) (L 12 rfl rfl) Try.underlying38 ti45 (ix_ge hx60) (ix_lt hx60)) ?_
    obtain ⟨cs63, hv64, hlt65, hr66, hc67⟩ := ow32.osel (k := 0) rfl hv43 hx60
    obtain rfl : cs63 = [.int .i64 x59.e.t, .int .i64 x59.e.act.kind, .int .i64 x59.e.act.at_, .int .i64 x59.e.act.val, .int .i64 x59.e.act.what, .bool x59.e.act.volatile, .bool x59.e.act.final, .int .i64 x59.e.rf, .int .i64 x59.e.id, .int .i64 x59.at_] := hr66
    refine O.storeE (k := 0) (R := RT_Tnd) (j := 0) (y := x36) (cs := [.int .i64 x36.e.t, .int .i64 x36.e.act.kind, .int .i64 x36.e.act.at_, .int .i64 x36.e.act.val, .int .i64 x36.e.act.what, .bool x36.e.act.volatile, .bool x36.e.act.final, .int .i64 x36.e.rf, .int .i64 x36.e.id, .int .i64 x36.at_]) ow32 rfl hv64 rfl rfl (.inl rfl) rfl (L 0 rfl rfl) (L 5 rfl rfl) ti45 hx60 (by simp [topV]) rfl rfl rfl (full rfl) (fun H1 hs => (fun _ => (okH.cons (Or.inl rfl) (okH.cons (Or.inl rfl) (okH.nil (fun r h => nomatch h)))))) (fun V68 le69 ow70 => ?_)
    obtain ⟨x71, hx72, h73⟩ := bindS h61
    obtain ⟨_, hv74, _⟩ := ow70.osel (k := 0) rfl hv43 hx72
    refine U.p rfl rfl (.inl rfl) (S.index rfl ((L 12 rfl rfl).trans hv74) (L 10 rfl rfl) Try.underlying38 ti45 (ix_ge hx72) (ix_lt hx72)) ?_
    obtain ⟨cs75, hv76, hlt77, hr78, hc79⟩ := ow70.osel (k := 0) rfl hv43 hx72
    obtain rfl : cs75 = [.int .i64 x71.e.t, .int .i64 x71.e.act.kind, .int .i64 x71.e.act.at_, .int .i64 x71.e.act.val, .int .i64 x71.e.act.what, .bool x71.e.act.volatile, .bool x71.e.act.final, .int .i64 x71.e.rf, .int .i64 x71.e.id, .int .i64 x71.at_] := hr78
    refine O.storeE (k := 0) (R := RT_Tnd) (j := 0) (y := x50) (cs := [.int .i64 x50.e.t, .int .i64 x50.e.act.kind, .int .i64 x50.e.act.at_, .int .i64 x50.e.act.val, .int .i64 x50.e.act.what, .bool x50.e.act.volatile, .bool x50.e.act.final, .int .i64 x50.e.rf, .int .i64 x50.e.id, .int .i64 x50.at_]) ow70 rfl hv76 rfl rfl (.inl rfl) rfl (L 0 rfl rfl) (L 2 rfl rfl) ti45 hx72 (by simp [topV]) rfl rfl rfl (full rfl) (fun H1 hs => (fun _ => (okH.cons rfl (okH.cons (Or.inl rfl) (okH.cons (Or.inl rfl) (okH.nil (fun r h => nomatch h))))))) (fun V80 le81 ow82 => ?_)
    refine U.done (nr rfl) ?_
    refine blkN (sqN ?_)
    refine WP.ureg rfl ?_
    refine U.p rfl rfl (.inl rfl) (S.move rfl (L 21 rfl rfl)) ?_
    refine U.p rfl rfl (.inl rfl) (S.sub rfl (L 0 rfl rfl) K) ?_
    refine U.p rfl rfl (.inl rfl) (S.assign rfl (L 0 rfl rfl)) ?_
    refine U.done (nr rfl) ?_
    refine sqN ?_
    exact ⟨_, V80, rfl, ⟨m24, Nat.lt_succ_self _, (xs17.set (Int.toNat x18) x36).set (Int.toNat (w64 (x18 - 1))) x50, w64 (x18 - 1), rfl, (((le22.trans le31).trans le69).trans le81), ow82, backS h73 e26⟩, (allCons (L 19 rfl rfl) (allCons (L 20 rfl rfl) (allCons (L 21 rfl rfl) (allCons (L 22 rfl rfl) (allCons (L 23 rfl rfl) (allCons (L 0 rfl rfl) allNil))))))⟩
   ·have h83 := ifF c34 h33
    refine WP.exit ?_
    refine sqE (sqE (blkE (blkN (sqN ?_))))
    have h84 := exitS h83 e26
    refine WP.ureg rfl ?_
    refine U.p rfl rfl (.inl rfl) (S.move rfl (L 4 rfl rfl)) ?_
    refine U.p rfl rfl (.inl rfl) (S.add rfl (L 0 rfl rfl) K) ?_
    refine U.p rfl rfl (.inl rfl) (S.assign rfl (L 0 rfl rfl)) ?_
    refine U.done (nr rfl) ?_
    refine sqN ?_
    exact ⟨_, V30, rfl, ⟨m10, Nat.lt_succ_self _, xs17, w64 (x4 + 1), rfl, ((le8.trans le22).trans le31), ow32, backS h84 e12⟩, (allCons (L 3 rfl rfl) (allCons (L 4 rfl rfl) (allCons (L 5 rfl rfl) (allCons (L 6 rfl rfl) (allCons (L 0 rfl rfl) allNil)))))⟩
  ·skip
   refine WP.udreg rfl rfl rfl ?_
   refine U.p rfl rfl (.inl rfl) (S.move rfl (L 5 rfl rfl)) ?_
   refine U.p rfl rfl (.inl rfl) (S.move rfl (L 2 rfl rfl)) ?_
   refine U.p rfl rfl (.inl rfl) (S.gtr rfl (L 1 rfl rfl) (L 0 rfl rfl)) ?_
   refine U.p rfl rfl (.inl rfl) (S.move rfl (L 0 rfl rfl)) ?_
   refine bcase (b := decide (p1 < x18)) (fun g85 => ?_) (fun g85 => ?_)
   ·have h86 := ifT g85 h28
    refine U.p rfl rfl (.inr ⟨_, _, _, rfl, rfl, ((L 0 rfl rfl).trans (congrArg Value.bool g85))⟩) (S.move rfl (L 7 rfl rfl)) ?_
    refine U.p rfl rfl (.inr ⟨_, _, _, rfl, rfl, ((L 1 rfl rfl).trans (congrArg Value.bool g85))⟩) (S.move rfl (L 5 rfl rfl)) ?_
    refine U.p rfl rfl (.inr ⟨_, _, _, rfl, rfl, ((L 2 rfl rfl).trans (congrArg Value.bool g85))⟩) (S.move rfl (L 11 rfl rfl)) ?_
    obtain ⟨x87, hx88, h89⟩ := bindS h86
    obtain ⟨b90, o91, n92, c93, hv94⟩ := ow23.ospt (k := 0) rfl hx88
    obtain ⟨_, hv95, _⟩ := ow23.osel (k := 0) rfl hv94 hx88
    refine U.p rfl rfl (.inr ⟨_, _, _, rfl, rfl, ((L 3 rfl rfl).trans (congrArg Value.bool g85))⟩) (S.index rfl ((L 1 rfl rfl).trans hv95) (L 0 rfl rfl) Try.underlying38 ti45 (ix_ge hx88) (ix_lt hx88)) ?_
    obtain ⟨cs96, hv97, hlt98, hr99, hc100⟩ := ow23.osel (k := 0) rfl hv94 hx88
    obtain rfl : cs96 = [.int .i64 x87.e.t, .int .i64 x87.e.act.kind, .int .i64 x87.e.act.at_, .int .i64 x87.e.act.val, .int .i64 x87.e.act.what, .bool x87.e.act.volatile, .bool x87.e.act.final, .int .i64 x87.e.rf, .int .i64 x87.e.id, .int .i64 x87.at_] := hr99
    refine U.k rfl rfl (.inr ⟨_, _, _, rfl, rfl, ((L 4 rfl rfl).trans (congrArg Value.bool g85))⟩) (S.loadN (cs := [.int .i64 x87.e.t, .int .i64 x87.e.act.kind, .int .i64 x87.e.act.at_, .int .i64 x87.e.act.val, .int .i64 x87.e.act.what, .bool x87.e.act.volatile, .bool x87.e.act.final, .int .i64 x87.e.rf, .int .i64 x87.e.id, .int .i64 x87.at_]) rfl (L 0 rfl rfl) Try.underlying45 rfl ti45 rfl hc100) (fun _ => (okH.nil (fun r h => by cases h; exact hlt98))) ?_
    refine U.p rfl rfl (.inr ⟨_, _, _, rfl, rfl, ((L 5 rfl rfl).trans (congrArg Value.bool g85))⟩) (S.move rfl (L 9 rfl rfl)) ?_
    refine U.p rfl rfl (.inr ⟨_, _, _, rfl, rfl, ((L 6 rfl rfl).trans (congrArg Value.bool g85))⟩) (S.move rfl (L 15 rfl rfl)) ?_
    refine U.p rfl rfl (.inr ⟨_, _, _, rfl, rfl, ((L 7 rfl rfl).trans (congrArg Value.bool g85))⟩) (S.sub rfl (L 0 rfl rfl) K) ?_
    obtain ⟨x101, hx102, h103⟩ := bindS h89
    obtain ⟨_, hv104, _⟩ := ow23.osel (k := 0) rfl hv94 hx102
    refine U.p rfl rfl (.inr ⟨_, _, _, rfl, rfl, ((L 8 rfl rfl).trans (congrArg Value.bool g85))⟩) (S.index rfl ((L 2 rfl rfl).trans hv104) (L 0 rfl rfl) Try.underlying38 ti45 (ix_ge hx102) (ix_lt hx102)) ?_
    obtain ⟨cs105, hv106, hlt107, hr108, hc109⟩ := ow23.osel (k := 0) rfl hv94 hx102
    obtain rfl : cs105 = [.int .i64 x101.e.t, .int .i64 x101.e.act.kind, .int .i64 x101.e.act.at_, .int .i64 x101.e.act.val, .int .i64 x101.e.act.what, .bool x101.e.act.volatile, .bool x101.e.act.final, .int .i64 x101.e.rf, .int .i64 x101.e.id, .int .i64 x101.at_] := hr108
    refine U.k rfl rfl (.inr ⟨_, _, _, rfl, rfl, ((L 9 rfl rfl).trans (congrArg Value.bool g85))⟩) (S.loadN (cs := [.int .i64 x101.e.t, .int .i64 x101.e.act.kind, .int .i64 x101.e.act.at_, .int .i64 x101.e.act.val, .int .i64 x101.e.act.what, .bool x101.e.act.volatile, .bool x101.e.act.final, .int .i64 x101.e.rf, .int .i64 x101.e.id, .int .i64 x101.at_]) rfl (L 0 rfl rfl) Try.underlying45 rfl ti45 rfl hc109) (fun _ => (okH.cons trivial (okH.nil (fun r h => by cases h; exact hlt107)))) ?_
    obtain ⟨x110, hx111, h112⟩ := bindS h103
    refine O.callv (V := V21) rfl rfl (.inr ⟨_, _, _, rfl, rfl, ((L 10 rfl rfl).trans (congrArg Value.bool g85))⟩) rfl (L 9 rfl rfl) en50 (aC (L 5 rfl rfl) (aC (L 0 rfl rfl) aN)) (wk_order_Run_Apart_c2 V21 _ x87 x101 ow23 _ hx111) (fun v113 V114 le115 hp116 => by obtain ⟨rfl, ow117⟩ := hp116; exact (fun _ => (okH.cons (Or.inl rfl) (okH.cons (Or.inl rfl) (okH.nil (fun r h => nomatch h)))))) (fun v113 V114 le115 hp116 => ?_)
    obtain ⟨rfl, ow117⟩ := hp116
    refine U.p rfl rfl (.inr ⟨_, _, _, rfl, rfl, ((L 11 rfl rfl).trans (congrArg Value.bool g85))⟩) (S.lss rfl (L 0 rfl rfl) K) ?_
    refine U.p rfl rfl (.inl rfl) (S.pickT rfl ((L 12 rfl rfl).trans (congrArg Value.bool g85)) (L 0 rfl rfl)) ?_
    refine U.done (nr rfl) ?_
    refine sqN ?_
    exact ⟨_, V114, rfl, ⟨decide (x110 < 0), rfl, le115, ow117, h112⟩, (allCons (L 17 rfl rfl) (allCons (L 18 rfl rfl) (allCons (L 19 rfl rfl) (allCons (L 20 rfl rfl) (allCons (L 21 rfl rfl) (allCons (L 22 rfl rfl) (allCons (L 0 rfl rfl) allNil)))))))⟩
   ·have h118 := ifF g85 h28
    refine U.x rfl rfl rfl rfl ((L 0 rfl rfl).trans (congrArg Value.bool g85)) (by decide) ?_
    refine U.x rfl rfl rfl rfl ((L 1 rfl rfl).trans (congrArg Value.bool g85)) (by decide) ?_
    refine U.x rfl rfl rfl rfl ((L 2 rfl rfl).trans (congrArg Value.bool g85)) (by decide) ?_
    refine U.x rfl rfl rfl rfl ((L 3 rfl rfl).trans (congrArg Value.bool g85)) (by decide) ?_
    refine U.x rfl rfl rfl rfl ((L 4 rfl rfl).trans (congrArg Value.bool g85)) (by decide) ?_
    refine U.x rfl rfl rfl rfl ((L 5 rfl rfl).trans (congrArg Value.bool g85)) (by decide) ?_
    refine U.x rfl rfl rfl rfl ((L 6 rfl rfl).trans (congrArg Value.bool g85)) (by decide) ?_
    refine U.x rfl rfl rfl rfl ((L 7 rfl rfl).trans (congrArg Value.bool g85)) (by decide) ?_
    refine U.x rfl rfl rfl rfl ((L 8 rfl rfl).trans (congrArg Value.bool g85)) (by decide) ?_
    refine U.x rfl rfl rfl rfl ((L 9 rfl rfl).trans (congrArg Value.bool g85)) (by decide) ?_
    refine U.x rfl rfl rfl rfl ((L 10 rfl rfl).trans (congrArg Value.bool g85)) (by decide) ?_
    refine U.x rfl rfl rfl rfl ((L 11 rfl rfl).trans (congrArg Value.bool g85)) (by decide) ?_
    refine U.p rfl rfl (.inl rfl) (S.pickF rfl ((L 12 rfl rfl).trans (congrArg Value.bool g85)) K) ?_
    refine U.done (nr rfl) ?_
    refine sqN ?_
    exact ⟨_, V21, rfl, ⟨false, rfl, (.refl _), ow23, h118⟩, (allCons (L 17 rfl rfl) (allCons (L 18 rfl rfl) (allCons (L 19 rfl rfl) (allCons (L 20 rfl rfl) (allCons (L 21 rfl rfl) (allCons (L 22 rfl rfl) (allCons (L 0 rfl rfl) allNil)))))))⟩
 ·have h119 := ifF c15 h14
  refine WP.exit ?_
  refine sqE (sqE (blkE ?_))
  have h120 := exitS h119 e12
  refine fin.slots' (.inl rfl) fsN rfl ⟨V7, rfl, le8, ?_⟩
  have e121 := Option.some.inj h120
  subst e121
  exact ow9
set_option maxHeartbeats 4000000 in
set_option maxRecDepth 10000 in
theorem wk_s_siftDown (V : Vw) (Rs : List At) (p0 : List Tnd) (p1 : Int) (p2 : Int) (p3 : Int) (v1 : Value) (ow : Ow V (.os RT_Tnd v1 p0 :: Rs)) (r : List Tnd) (h : s_siftDown p0 p1 p2 p3 = some r) : ∃ v V', Cl Try.prog 0 71 #[v1, .int .i64 p1, .int .i64 p2, .int .i64 p3, .func (.func 50) #[] #[]] V.H v V'.H ∧ V.le V' ∧ (Ow V' (.os RT_Tnd v1 r :: Rs)) := by
 refine Ct.of (Nat.zero_le _) Try.func71 rfl (nr rfl) ?_
 unfold s_siftDown at h
 refine WP.usreg rfl ?_
 refine U.p rfl rfl (.inl rfl) (S.move rfl (L 1 rfl rfl)) ?_
 refine U.p rfl rfl (.inl rfl) (S.assign rfl (L 0 rfl rfl)) ?_
 refine U.done (nr rfl) ?_
 refine WP.blk ?_
 unfold s_siftDown_l1 at h
 obtain ⟨n6, hn5⟩ := loopO_some.1 h
 refine WP.loopI2 (fun n l V' => ∃ (xs3 : List Tnd) (x4 : Int), l = [(0, v1), (2, .int .i64 p2), (3, .int .i64 p3), (4, .func (.func 50) #[] #[]), (10, .int .i64 x4)] ∧ V.le V' ∧ Ow V' (.os RT_Tnd v1 xs3 :: Rs) ∧ itO (fun s => s_siftDown_l1b p2 p3 s.1 s.2) n (xs3, x4) = some r) n6 _ ⟨p0, p1, rfl, .refl _, ow, hn5⟩ (allCons (L 2 rfl rfl) (allCons (L 4 rfl rfl) (allCons (L 5 rfl rfl) (allCons (L 6 rfl rfl) (allCons (L 0 rfl rfl) allNil))))) ?_
 rintro _ _ V7 ⟨xs3, x4, rfl, le8, ow9, h13⟩
 obtain ⟨m10, q11, rfl, h14, e12⟩ := itS h13
 replace h14 : s_siftDown_l1b p2 p3 xs3 x4 = some q11 := h14
 unfold s_siftDown_l1b at h14
 refine WP.blk ?_
 refine WP.usreg rfl ?_
 refine U.p rfl rfl (.inl rfl) (S.move rfl (L 4 rfl rfl)) ?_
 refine U.p rfl rfl (.inl rfl) (S.mul rfl K (L 0 rfl rfl)) ?_
 refine U.p rfl rfl (.inl rfl) (S.add rfl (L 0 rfl rfl) K) ?_
 refine U.p rfl rfl (.inl rfl) (S.assign rfl (L 0 rfl rfl)) ?_
 refine U.done (nr rfl) ?_
 refine WP.seq ?_
 refine WP.usreg rfl ?_
 refine U.p rfl rfl (.inl rfl) (S.move rfl (L 0 rfl rfl)) ?_
 refine U.p rfl rfl (.inl rfl) (S.move rfl (L 6 rfl rfl)) ?_
 refine U.p rfl rfl (.inl rfl) (S.geq rfl (L 1 rfl rfl) (L 0 rfl rfl)) ?_
 refine U.done (nr rfl) ?_
 refine WP.cond _ (L 0 rfl rfl) rfl (fun c15 => ?_) (fun c15 => ?_)
 ·have h16 := ifT c15 h14
  refine WP.exit ?_
  refine sqE (blkO rfl (sqE (blkE ?_)))
  have h17 := exitS h16 e12
  refine fin.slots' (.inl rfl) fsN rfl ⟨V7, rfl, le8, ?_⟩
  have e18 := Option.some.inj h17
  subst e18
  exact ow9
 ·have h19 := ifF c15 h14
  refine WP.skip ?_
  refine sqN ?_
  refine WP.seqI (fun l V' => ∃ (x20 : Int), l = [(0, v1), (2, .int .i64 p2), (3, .int .i64 p3), (4, .func (.func 50) #[] #[]), (10, .int .i64 x4), (11, .int .i64 x20)] ∧ V7.le V' ∧ Ow V' (.os RT_Tnd v1 xs3 :: Rs) ∧ s_siftDown_k1 p3 xs3 x4 x20 = some q11) ?_ ?_
  ·rintro _ V21 ⟨x20, rfl, le22, ow23, h24⟩
   unfold s_siftDown_k1 at h24
   refine WP.seq ?_
   refine WP.usdreg rfl rfl rfl ?_
   refine U.p rfl rfl (.inl rfl) (S.move rfl (L 3 rfl rfl)) ?_
   refine U.p rfl rfl (.inl rfl) (S.move rfl (L 1 rfl rfl)) ?_
   refine U.p rfl rfl (.inl rfl) (S.move rfl (L 4 rfl rfl)) ?_
   refine U.p rfl rfl (.inl rfl) (S.move rfl (L 7 rfl rfl)) ?_
   refine U.p rfl rfl (.inl rfl) (S.add rfl (L 1 rfl rfl) (L 0 rfl rfl)) ?_
   obtain ⟨x25, hx26, h27⟩ := bindS h24
   obtain ⟨b28, o29, n30, c31, hv32⟩ := ow23.ospt (k := 0) rfl hx26
   obtain ⟨_, hv33, _⟩ := ow23.osel (k := 0) rfl hv32 hx26
   refine U.p rfl rfl (.inl rfl) (S.index rfl ((L 3 rfl rfl).trans hv33) (L 0 rfl rfl) Try.underlying38 ti45 (ix_ge hx26) (ix_lt hx26)) ?_
   obtain ⟨cs34, hv35, hlt36, hr37, hc38⟩ := ow23.osel (k := 0) rfl hv32 hx26
   obtain rfl : cs34 = [.int .i64 x25.e.t, .int .i64 x25.e.act.kind, .int .i64 x25.e.act.at_, .int .i64 x25.e.act.val, .int .i64 x25.e.act.what, .bool x25.e.act.volatile, .bool x25.e.act.final, .int .i64 x25.e.rf, .int .i64 x25.e.id, .int .i64 x25.at_] := hr37
   refine U.k rfl rfl (.inl rfl) (S.loadN (cs := [.int .i64 x25.e.t, .int .i64 x25.e.act.kind, .int .i64 x25.e.act.at_, .int .i64 x25.e.act.val, .int .i64 x25.e.act.what, .bool x25.e.act.volatile, .bool x25.e.act.final, .int .i64 x25.e.rf, .int .i64 x25.e.id, .int .i64 x25.at_]) rfl (L 0 rfl rfl) Try.underlying45 rfl ti45 rfl hc38) (fun _ => (okH.nil (fun r h => by cases h; exact hlt36))) ?_
   refine U.p rfl rfl (.inl rfl) (S.move rfl (L 7 rfl rfl)) ?_
   refine U.p rfl rfl (.inl rfl) (S.move rfl (L 10 rfl rfl)) ?_
   refine U.p rfl rfl (.inl rfl) (S.move rfl (L 14 rfl rfl)) ?_
   refine U.p rfl rfl (.inl rfl) (S.add rfl (L 1 rfl rfl) (L 0 rfl rfl)) ?_
   obtain ⟨x39, hx40, h41⟩ := bindS h27
   obtain ⟨_, hv42, _⟩ := ow23.osel (k := 0) rfl hv32 hx40
   refine U.p rfl rfl (.inl rfl) (S.index rfl ((L 3 rfl rfl).trans hv42) (L 0 rfl rfl) Try.underlying38 ti45 (ix_ge hx40) (ix_lt hx40)) ?_
   obtain ⟨cs43, hv44, hlt45, hr46, hc47⟩ := ow23.osel (k := 0) rfl hv32 hx40
   obtain rfl : cs43 = [.int .i64 x39.e.t, .int .i64 x39.e.act.kind, .int .i64 x39.e.act.at_, .int .i64 x39.e.act.val, .int .i64 x39.e.act.what, .bool x39.e.act.volatile, .bool x39.e.act.final, .int .i64 x39.e.rf, .int .i64 x39.e.id, .int .i64 x39.at_] := hr46
   refine U.k rfl rfl (.inl rfl) (S.loadN (cs := [.int .i64 x39.e.t, .int .i64 x39.e.act.kind, .int .i64 x39.e.act.at_, .int .i64 x39.e.act.val, .int .i64 x39.e.act.what, .bool x39.e.act.volatile, .bool x39.e.act.final, .int .i64 x39.e.rf, .int .i64 x39.e.id, .int .i64 x39.at_]) rfl (L 0 rfl rfl) Try.underlying45 rfl ti45 rfl hc47) (fun _ => (okH.cons trivial (okH.nil (fun r h => by cases h; exact hlt45)))) ?_
   obtain ⟨x48, hx49, h50⟩ := bindS h41
   refine O.callv (V := V21) rfl rfl (.inl rfl) rfl (L 12 rfl rfl) en50 (aC (L 6 rfl rfl) (aC (L 0 rfl rfl) aN)) (wk_order_Run_Apart_c2 V21 _ x25 x39 ow23 _ hx49) (fun v51 V52 le53 hp54 => by obtain ⟨rfl, ow55⟩ := hp54; exact (fun _ => (okH.cons (Or.inl rfl) (okH.cons (Or.inl rfl) (okH.nil (fun r h => nomatch h)))))) (fun v51 V52 le53 hp54 => ?_)
   obtain ⟨rfl, ow55⟩ := hp54
   refine U.p rfl rfl (.inl rfl) (S.lss rfl (L 0 rfl rfl) K) ?_
   refine U.p rfl rfl (.inl rfl) (S.not rfl (L 0 rfl rfl)) ?_
   refine U.done (nr rfl) ?_
   refine WP.cond _ (L 0 rfl rfl) rfl (fun c56 => ?_) (fun c56 => ?_)
   ·have h57 := ifT c56 h50
    have k58 : (decide (x48 < 0)) = false := by simpa using c56
    refine WP.ret ?_
    refine sqR (blkR (sqR (blkR ?_)))
    have h59 := exitS h57 e12
    refine fin.slots' (.inr rfl) fsN rfl ⟨V52, rfl, ((le8.trans le22).trans le53), ?_⟩
    have e60 := Option.some.inj h59
    subst e60
    exact ow55
   ·have h61 := ifF c56 h50
    have k62 : (decide (x48 < 0)) = true := by simpa using c56
    refine WP.skip ?_
    refine sqN ?_
    refine WP.usdreg rfl rfl rfl ?_
    refine U.p rfl rfl (.inl rfl) (S.move rfl (L 16 rfl rfl)) ?_
    refine U.p rfl rfl (.inl rfl) (S.move rfl (L 19 rfl rfl)) ?_
    refine U.p rfl rfl (.inl rfl) (S.move rfl (L 22 rfl rfl)) ?_
    refine U.p rfl rfl (.inl rfl) (S.add rfl (L 1 rfl rfl) (L 0 rfl rfl)) ?_
    refine U.p rfl rfl (.inl rfl) (S.move rfl (L 20 rfl rfl)) ?_
    refine U.p rfl rfl (.inl rfl) (S.move rfl (L 23 rfl rfl)) ?_
    refine U.p rfl rfl (.inl rfl) (S.move rfl (L 27 rfl rfl)) ?_
    refine U.p rfl rfl (.inl rfl) (S.add rfl (L 1 rfl rfl) (L 0 rfl rfl)) ?_
    refine U.p rfl rfl (.inl rfl) (S.move rfl (L 24 rfl rfl)) ?_
    refine U.p rfl rfl (.inl rfl) (S.move rfl (L 27 rfl rfl)) ?_
    refine U.p rfl rfl (.inl rfl) (S.move rfl (L 31 rfl rfl)) ?_
    refine U.p rfl rfl (.inl rfl) (S.add rfl (L 1 rfl rfl) (L 0 rfl rfl)) ?_
    obtain ⟨x63, hx64, h65⟩ := bindS h61
    obtain ⟨_, hv66, _⟩ := ow55.osel (k := 0) rfl hv32 hx64
    refine U.p rfl rfl (.inl rfl) (S.index rfl ((L 3 rfl rfl).trans hv66) (L 0 rfl rfl) Try.underlying38 ti45 (ix_ge hx64) (ix_lt hx64)) ?_
    obtain ⟨cs67, hv68, hlt69, hr70, hc71⟩ := ow55.osel (k := 0) rfl hv32 hx64
    obtain rfl : cs67 = [.int .i64 x63.e.t, .int .i64 x63.e.act.kind, .int .i64 x63.e.act.at_, .int .i64 x63.e.act.val, .int .i64 x63.e.act.what, .bool x63.e.act.volatile, .bool x63.e.act.final, .int .i64 x63.e.rf, .int .i64 x63.e.id, .int .i64 x63.at_] := hr70
    refine U.k rfl rfl (.inl rfl) (S.loadN (cs := [.int .i64 x63.e.t, .int .i64 x63.e.act.kind, .int .i64 x63.e.act.at_, .int .i64 x63.e.act.val, .int .i64 x63.e.act.what, .bool x63.e.act.volatile, .bool x63.e.act.final, .int .i64 x63.e.rf, .int .i64 x63.e.id, .int .i64 x63.at_]) rfl (L 0 rfl rfl) Try.underlying45 rfl ti45 rfl hc71) (fun _ => (okH.nil (fun r h => by cases h; exact hlt69))) ?_
    refine U.p rfl rfl (.inl rfl) (S.move rfl (L 30 rfl rfl)) ?_
    refine U.p rfl rfl (.inl rfl) (S.move rfl (L 33 rfl rfl)) ?_
    refine U.p rfl rfl (.inl rfl) (S.move rfl (L 36 rfl rfl)) ?_
    refine U.p rfl rfl (.inl rfl) (S.add rfl (L 1 rfl rfl) (L 0 rfl rfl)) ?_
    obtain ⟨x72, hx73, h74⟩ := bindS h65
    obtain ⟨_, hv75, _⟩ := ow55.osel (k := 0) rfl hv32 hx73
    refine U.p rfl rfl (.inl rfl) (S.index rfl ((L 3 rfl rfl).trans hv75) (L 0 rfl rfl) Try.underlying38 ti45 (ix_ge hx73) (ix_lt hx73)) ?_
    obtain ⟨cs76, hv77, hlt78, hr79, hc80⟩ := ow55.osel (k := 0) rfl hv32 hx73
    obtain rfl : cs76 = [.int .i64 x72.e.t, .int .i64 x72.e.act.kind, .int .i64 x72.e.act.at_, .int .i64 x72.e.act.val, .int .i64 x72.e.act.what, .bool x72.e.act.volatile, .bool x72.e.act.final, .int .i64 x72.e.rf, .int .i64 x72.e.id, .int .i64 x72.at_] := hr79
    refine U.k rfl rfl (.inl rfl) (S.loadN (cs := [.int .i64 x72.e.t, .int .i64 x72.e.act.kind, .int .i64 x72.e.act.at_, .int .i64 x72.e.act.val, .int .i64 x72.e.act.what, .bool x72.e.act.volatile, .bool x72.e.act.final, .int .i64 x72.e.rf, .int .i64 x72.e.id, .int .i64 x72.at_]) rfl (L 0 rfl rfl) Try.underlying45 rfl ti45 rfl hc80) (fun _ => (okH.cons trivial (okH.nil (fun r h => by cases h; exact hlt78)))) ?_
    obtain ⟨x81, hx82, h83⟩ := bindS h74
    obtain ⟨_, hv84, _⟩ := ow55.osel (k := 0) rfl hv32 hx82
    refine U.p rfl rfl (.inl rfl) (S.index rfl ((L 19 rfl rfl).trans hv84) (L 16 rfl rfl) Try.underlying38 ti45 (ix_ge hx82) (ix_lt hx82)) ?_
    obtain ⟨cs85, hv86, hlt87, hr88, hc89⟩ := ow55.osel (k := 0) rfl hv32 hx82
    obtain rfl : cs85 = [.int .i64 x81.e.t, .int .i64 x81.e.act.kind, .int .i64 x81.e.act.at_, .int .i64 x81.e.act.val, .int .i64 x81.e.act.what, .bool x81.e.act.volatile, .bool x81.e.act.final, .int .i64 x81.e.rf, .int .i64 x81.e.id, .int .i64 x81.at_] := hr88
    refine O.storeE (k := 0) (R := RT_Tnd) (j := 0) (y := x63) (cs := [.int .i64 x63.e.t, .int .i64 x63.e.act.kind, .int .i64 x63.e.act.at_, .int .i64 x63.e.act.val, .int .i64 x63.e.act.what, .bool x63.e.act.volatile, .bool x63.e.act.final, .int .i64 x63.e.rf, .int .i64 x63.e.id, .int .i64 x63.at_]) ow55 rfl hv86 rfl rfl (.inl rfl) rfl (L 0 rfl rfl) (L 7 rfl rfl) ti45 hx82 (by simp [topV]) rfl rfl rfl (full rfl) (fun H1 hs => (fun _ => (okH.cons (Or.inl rfl) (okH.cons (Or.inl rfl) (okH.nil (fun r h => nomatch h)))))) (fun V90 le91 ow92 => ?_)
    obtain ⟨x93, hx94, h95⟩ := bindS h83
    obtain ⟨_, hv96, _⟩ := ow92.osel (k := 0) rfl hv32 hx94
    refine U.p rfl rfl (.inl rfl) (S.index rfl ((L 16 rfl rfl).trans hv96) (L 13 rfl rfl) Try.underlying38 ti45 (ix_ge hx94) (ix_lt hx94)) ?_
    obtain ⟨cs97, hv98, hlt99, hr100, hc101⟩ := ow92.osel (k := 0) rfl hv32 hx94
    obtain rfl : cs97 = [.int .i64 x93.e.t, .int .i64 x93.e.act.kind, .int .i64 x93.e.act.at_, .int .i64 x93.e.act.val, .int .i64 x93.e.act.what, .bool x93.e.act.volatile, .bool x93.e.act.final, .int .i64 x93.e.rf, .int .i64 x93.e.id, .int .i64 x93.at_] := hr100
    refine O.storeE (k := 0) (R := RT_Tnd) (j := 0) (y := x72) (cs := [.int .i64 x72.e.t, .int .i64 x72.e.act.kind, .int .i64 x72.e.act.at_, .int .i64 x72.e.act.val, .int .i64 x72.e.act.what, .bool x72.e.act.volatile, .bool x72.e.act.final, .int .i64 x72.e.rf, .int .i64 x72.e.id, .int .i64 x72.at_]) ow92 rfl hv98 rfl rfl (.inl rfl) rfl (L 0 rfl rfl) (L 2 rfl rfl) ti45 hx94 (by simp [topV]) rfl rfl rfl (full rfl) (fun H1 hs => (fun _ => (okH.cons rfl (okH.cons (Or.inl rfl) (okH.cons (Or.inl rfl) (okH.nil (fun r h => nomatch h))))))) (fun V102 le103 ow104 => ?_)
    refine U.done (nr rfl) ?_
    refine WP.ureg rfl ?_
    refine U.p rfl rfl (.inl rfl) (S.move rfl (L 43 rfl rfl)) ?_
    refine U.p rfl rfl (.inl rfl) (S.assign rfl (L 0 rfl rfl)) ?_
    refine U.done (nr rfl) ?_
    refine blkN (sqN ?_)
    exact ⟨_, V102, rfl, ⟨m10, Nat.lt_succ_self _, (xs3.set (Int.toNat (w64 (p3 + x4))) x63).set (Int.toNat (w64 (p3 + x20))) x72, x20, rfl, ((((le8.trans le22).trans le53).trans le91).trans le103), ow104, backS h95 e12⟩, (allCons (L 40 rfl rfl) (allCons (L 41 rfl rfl) (allCons (L 42 rfl rfl) (allCons (L 43 rfl rfl) (allCons (L 0 rfl rfl) allNil)))))⟩
  ·skip
   refine WP.seqI (fun l V' => ∃ (x105 : Bool), l = [(0, v1), (2, .int .i64 p2), (3, .int .i64 p3), (4, .func (.func 50) #[] #[]), (10, .int .i64 x4), (11, .int .i64 (w64 ((w64 (2 * x4)) + 1))), (40, .bool x105)] ∧ V7.le V' ∧ Ow V' (.os RT_Tnd v1 xs3 :: Rs) ∧ s_siftDown_k2 p3 xs3 x4 x105 = some q11) ?_ ?_
   ·rintro _ V106 ⟨x105, rfl, le107, ow108, h109⟩
    unfold s_siftDown_k2 at h109
    refine WP.cond _ (L 6 rfl rfl) rfl (fun c110 => ?_) (fun c110 => ?_)
    ·have h111 := ifT c110 h109
     refine WP.ureg rfl ?_
     refine U.p rfl rfl (.inl rfl) (S.move rfl (L 5 rfl rfl)) ?_
     refine U.p rfl rfl (.inl rfl) (S.add rfl (L 0 rfl rfl) K) ?_
     refine U.p rfl rfl (.inl rfl) (S.assign rfl (L 0 rfl rfl)) ?_
     refine U.done (nr rfl) ?_
     refine sqN ?_
     exact ⟨_, V106, rfl, ⟨w64 ((w64 ((w64 (2 * x4)) + 1)) + 1), rfl, le107, ow108, h111⟩, (allCons (L 3 rfl rfl) (allCons (L 4 rfl rfl) (allCons (L 5 rfl rfl) (allCons (L 6 rfl rfl) (allCons (L 7 rfl rfl) (allCons (L 0 rfl rfl) allNil))))))⟩
    ·have h112 := ifF c110 h109
     refine WP.skip ?_
     refine sqN ?_
     exact ⟨_, V106, rfl, ⟨w64 ((w64 (2 * x4)) + 1), rfl, le107, ow108, h112⟩, (allCons (L 0 rfl rfl) (allCons (L 1 rfl rfl) (allCons (L 2 rfl rfl) (allCons (L 3 rfl rfl) (allCons (L 4 rfl rfl) (allCons (L 5 rfl rfl) allNil))))))⟩
   ·skip
    refine WP.udreg rfl rfl rfl ?_
    refine U.p rfl rfl (.inl rfl) (S.move rfl (L 3 rfl rfl)) ?_
    refine U.p rfl rfl (.inl rfl) (S.add rfl (L 0 rfl rfl) K) ?_
    refine U.p rfl rfl (.inl rfl) (S.move rfl (L 10 rfl rfl)) ?_
    refine U.p rfl rfl (.inl rfl) (S.lss rfl (L 1 rfl rfl) (L 0 rfl rfl)) ?_
    refine U.p rfl rfl (.inl rfl) (S.move rfl (L 0 rfl rfl)) ?_
    refine bcase (b := decide ((w64 ((w64 ((w64 (2 * x4)) + 1)) + 1)) < p2)) (fun g113 => ?_) (fun g113 => ?_)
    ·have h114 := ifT g113 h19
     refine U.p rfl rfl (.inr ⟨_, _, _, rfl, rfl, ((L 0 rfl rfl).trans (congrArg Value.bool g113))⟩) (S.move rfl (L 15 rfl rfl)) ?_
     refine U.p rfl rfl (.inr ⟨_, _, _, rfl, rfl, ((L 1 rfl rfl).trans (congrArg Value.bool g113))⟩) (S.move rfl (L 13 rfl rfl)) ?_
     refine U.p rfl rfl (.inr ⟨_, _, _, rfl, rfl, ((L 2 rfl rfl).trans (congrArg Value.bool g113))⟩) (S.move rfl (L 16 rfl rfl)) ?_
     refine U.p rfl rfl (.inr ⟨_, _, _, rfl, rfl, ((L 3 rfl rfl).trans (congrArg Value.bool g113))⟩) (S.move rfl (L 11 rfl rfl)) ?_
     refine U.p rfl rfl (.inr ⟨_, _, _, rfl, rfl, ((L 4 rfl rfl).trans (congrArg Value.bool g113))⟩) (S.add rfl (L 1 rfl rfl) (L 0 rfl rfl)) ?_
     obtain ⟨x115, hx116, h117⟩ := bindS h114
     obtain ⟨b118, o119, n120, c121, hv122⟩ := ow9.ospt (k := 0) rfl hx116
     obtain ⟨_, hv123, _⟩ := ow9.osel (k := 0) rfl hv122 hx116
     refine U.p rfl rfl (.inr ⟨_, _, _, rfl, rfl, ((L 5 rfl rfl).trans (congrArg Value.bool g113))⟩) (S.index rfl ((L 3 rfl rfl).trans hv123) (L 0 rfl rfl) Try.underlying38 ti45 (ix_ge hx116) (ix_lt hx116)) ?_
     obtain ⟨cs124, hv125, hlt126, hr127, hc128⟩ := ow9.osel (k := 0) rfl hv122 hx116
     obtain rfl : cs124 = [.int .i64 x115.e.t, .int .i64 x115.e.act.kind, .int .i64 x115.e.act.at_, .int .i64 x115.e.act.val, .int .i64 x115.e.act.what, .bool x115.e.act.volatile, .bool x115.e.act.final, .int .i64 x115.e.rf, .int .i64 x115.e.id, .int .i64 x115.at_] := hr127
     refine U.k rfl rfl (.inr ⟨_, _, _, rfl, rfl, ((L 6 rfl rfl).trans (congrArg Value.bool g113))⟩) (S.loadN (cs := [.int .i64 x115.e.t, .int .i64 x115.e.act.kind, .int .i64 x115.e.act.at_, .int .i64 x115.e.act.val, .int .i64 x115.e.act.what, .bool x115.e.act.volatile, .bool x115.e.act.final, .int .i64 x115.e.rf, .int .i64 x115.e.id, .int .i64 x115.at_]) rfl (L 0 rfl rfl) Try.underlying45 rfl ti45 rfl hc128) (fun _ => (okH.nil (fun r h => by cases h; exact hlt126))) ?_
     refine U.p rfl rfl (.inr ⟨_, _, _, rfl, rfl, ((L 7 rfl rfl).trans (congrArg Value.bool g113))⟩) (S.move rfl (L 19 rfl rfl)) ?_
     refine U.p rfl rfl (.inr ⟨_, _, _, rfl, rfl, ((L 8 rfl rfl).trans (congrArg Value.bool g113))⟩) (S.move rfl (L 22 rfl rfl)) ?_
     refine U.p rfl rfl (.inr ⟨_, _, _, rfl, rfl, ((L 9 rfl rfl).trans (congrArg Value.bool g113))⟩) (S.move rfl (L 17 rfl rfl)) ?_
     refine U.p rfl rfl (.inr ⟨_, _, _, rfl, rfl, ((L 10 rfl rfl).trans (congrArg Value.bool g113))⟩) (S.add rfl (L 1 rfl rfl) (L 0 rfl rfl)) ?_
     refine U.p rfl rfl (.inr ⟨_, _, _, rfl, rfl, ((L 11 rfl rfl).trans (congrArg Value.bool g113))⟩) (S.add rfl (L 0 rfl rfl) K) ?_
     obtain ⟨x129, hx130, h131⟩ := bindS h117
     obtain ⟨_, hv132, _⟩ := ow9.osel (k := 0) rfl hv122 hx130
     refine U.p rfl rfl (.inr ⟨_, _, _, rfl, rfl, ((L 12 rfl rfl).trans (congrArg Value.bool g113))⟩) (S.index rfl ((L 4 rfl rfl).trans hv132) (L 0 rfl rfl) Try.underlying38 ti45 (ix_ge hx130) (ix_lt hx130)) ?_
     obtain ⟨cs133, hv134, hlt135, hr136, hc137⟩ := ow9.osel (k := 0) rfl hv122 hx130
     obtain rfl : cs133 = [.int .i64 x129.e.t, .int .i64 x129.e.act.kind, .int .i64 x129.e.act.at_, .int .i64 x129.e.act.val, .int .i64 x129.e.act.what, .bool x129.e.act.volatile, .bool x129.e.act.final, .int .i64 x129.e.rf, .int .i64 x129.e.id, .int .i64 x129.at_] := hr136
     refine U.k rfl rfl (.inr ⟨_, _, _, rfl, rfl, ((L 13 rfl rfl).trans (congrArg Value.bool g113))⟩) (S.loadN (cs := [.int .i64 x129.e.t, .int .i64 x129.e.act.kind, .int .i64 x129.e.act.at_, .int .i64 x129.e.act.val, .int .i64 x129.e.act.what, .bool x129.e.act.volatile, .bool x129.e.act.final, .int .i64 x129.e.rf, .int .i64 x129.e.id, .int .i64 x129.at_]) rfl (L 0 rfl rfl) Try.underlying45 rfl ti45 rfl hc137) (fun _ => (okH.cons trivial (okH.nil (fun r h => by cases h; exact hlt135)))) ?_
     obtain ⟨x138, hx139, h140⟩ := bindS h131
     refine O.callv (V := V7) rfl rfl (.inr ⟨_, _, _, rfl, rfl, ((L 14 rfl rfl).trans (congrArg Value.bool g113))⟩) rfl (L 13 rfl rfl) en50 (aC (L 7 rfl rfl) (aC (L 0 rfl rfl) aN)) (wk_order_Run_Apart_c2 V7 _ x115 x129 ow9 _ hx139) (fun v141 V142 le143 hp144 => by obtain ⟨rfl, ow145⟩ := hp144; exact (fun _ => (okH.cons (Or.inl rfl) (okH.cons (Or.inl rfl) (okH.nil (fun r h => nomatch h)))))) (fun v141 V142 le143 hp144 => ?_)
     obtain ⟨rfl, ow145⟩ := hp144
     refine U.p rfl rfl (.inr ⟨_, _, _, rfl, rfl, ((L 15 rfl rfl).trans (congrArg Value.bool g113))⟩) (S.lss rfl (L 0 rfl rfl) K) ?_
     refine U.p rfl rfl (.inl rfl) (S.pickT rfl ((L 16 rfl rfl).trans (congrArg Value.bool g113)) (L 0 rfl rfl)) ?_
     refine U.done (nr rfl) ?_
     refine sqN ?_
     exact ⟨_, V142, rfl, ⟨decide (x138 < 0), rfl, le143, ow145, h140⟩, (allCons (L 29 rfl rfl) (allCons (L 30 rfl rfl) (allCons (L 31 rfl rfl) (allCons (L 32 rfl rfl) (allCons (L 33 rfl rfl) (allCons (L 25 rfl rfl) (allCons (L 0 rfl rfl) allNil)))))))⟩
    ·have h146 := ifF g113 h19
     refine U.x rfl rfl rfl rfl ((L 0 rfl rfl).trans (congrArg Value.bool g113)) (by decide) ?_
     refine U.x rfl rfl rfl rfl ((L 1 rfl rfl).trans (congrArg Value.bool g113)) (by decide) ?_
     refine U.x rfl rfl rfl rfl ((L 2 rfl rfl).trans (congrArg Value.bool g113)) (by decide) ?_
     refine U.x rfl rfl rfl rfl ((L 3 rfl rfl).trans (congrArg Value.bool g113)) (by decide) ?_
     refine U.x rfl rfl rfl rfl ((L 4 rfl rfl).trans (congrArg Value.bool g113)) (by decide) ?_
     refine U.x rfl rfl rfl rfl ((L 5 rfl rfl).trans (congrArg Value.bool g113)) (by decide) ?_
     refine U.x rfl rfl rfl rfl ((L 6 rfl rfl).trans (congrArg Value.bool g113)) (by decide) ?_
     refine U.x rfl rfl rfl rfl ((L 7 rfl rfl).trans (congrArg Value.bool g113)) (by decide) ?_
     refine U.x rfl rfl rfl rfl ((L 8 rfl rfl).trans (congrArg Value.bool g113)) (by decide) ?_
     refine U.x rfl rfl rfl rfl ((L 9 rfl rfl).trans (congrArg Value.bool g113)) (by decide) ?_
     refine U.x rfl rfl rfl rfl ((L 10 rfl rfl).trans (congrArg Value.bool g113)) (by decide) ?_
     refine U.x rfl rfl rfl rfl ((L 11 rfl rfl).trans (congrArg Value.bool g113)) (by decide) ?_
     refine U.x rfl rfl rfl rfl ((L 12 rfl rfl).trans (congrArg Value.bool g113)) (by decide) ?_
     refine U.x rfl rfl rfl rfl ((L 13 rfl rfl).trans (congrArg Value.bool g113)) (by decide) ?_
     refine U.x rfl rfl rfl rfl ((L 14 rfl rfl).trans (congrArg Value.bool g113)) (by decide) ?_
     refine U.x rfl rfl rfl rfl ((L 15 rfl rfl).trans (congrArg Value.bool g113)) (by decide) ?_
     refine U.p rfl rfl (.inl rfl) (S.pickF rfl ((L 16 rfl rfl).trans (congrArg Value.bool g113)) K) ?_
     refine U.done (nr rfl) ?_
     refine sqN ?_
     exact ⟨_, V7, rfl, ⟨false, rfl, (.refl _), ow9, h146⟩, (allCons (L 29 rfl rfl) (allCons (L 30 rfl rfl) (allCons (L 31 rfl rfl) (allCons (L 32 rfl rfl) (allCons (L 33 rfl rfl) (allCons (L 25 rfl rfl) (allCons (L 0 rfl rfl) allNil)))))))⟩
set_option maxHeartbeats 4000000 in
set_option maxRecDepth 10000 in
theorem wk_s_heapSort (V : Vw) (Rs : List At) (p0 : List Tnd) (p1 : Int) (p2 : Int) (v1 : Value) (ow : Ow V (.os RT_Tnd v1 p0 :: Rs)) (r : List Tnd) (h : s_heapSort p0 p1 p2 = some r) : ∃ v V', Cl Try.prog 0 62 #[v1, .int .i64 p1, .int .i64 p2, .func (.func 50) #[] #[]] V.H v V'.H ∧ V.le V' ∧ (Ow V' (.os RT_Tnd v1 r :: Rs)) := by
 refine Ct.of (Nat.zero_le _) Try.func62 rfl (nr rfl) ?_
 unfold s_heapSort at h
 refine WP.usreg rfl ?_
 refine U.p rfl rfl (.inl rfl) (S.move rfl (L 1 rfl rfl)) ?_
 refine U.p rfl rfl (.inl rfl) (S.assign rfl (L 0 rfl rfl)) ?_
 refine U.done (nr rfl) ?_
 refine WP.usreg rfl ?_
 refine U.p rfl rfl (.inl rfl) (S.assign rfl K) ?_
 refine U.done (nr rfl) ?_
 refine WP.usreg rfl ?_
 refine U.p rfl rfl (.inl rfl) (S.move rfl (L 5 rfl rfl)) ?_
 refine U.p rfl rfl (.inl rfl) (S.move rfl (L 5 rfl rfl)) ?_
 refine U.p rfl rfl (.inl rfl) (S.sub rfl (L 1 rfl rfl) (L 0 rfl rfl)) ?_
 refine U.p rfl rfl (.inl rfl) (S.assign rfl (L 0 rfl rfl)) ?_
 refine U.done (nr rfl) ?_
 refine WP.seq ?_
 refine WP.usreg rfl ?_
 refine U.p rfl rfl (.inl rfl) (S.move rfl (L 0 rfl rfl)) ?_
 refine U.p rfl rfl (.inl rfl) (S.sub rfl (L 0 rfl rfl) K) ?_
 obtain ⟨x3, hx4, h5⟩ := bindS h
 refine U.p rfl rfl (.inl rfl) (S.quo hx4 rfl (L 0 rfl rfl) K) ?_
 refine U.p rfl rfl (.inl rfl) (S.assign rfl (L 0 rfl rfl)) ?_
 refine U.done (nr rfl) ?_
 refine WP.blk ?_
 unfold s_heapSort_l1 at h5
 obtain ⟨n9, hn8⟩ := loopO_some.1 h5
 refine WP.loopI2 (fun n l V' => ∃ (xs6 : List Tnd) (x7 : Int), l = [(0, v1), (3, .func (.func 50) #[] #[]), (8, .int .i64 p1), (9, .int .i64 0), (10, .int .i64 (w64 (p2 - p1))), (11, .int .i64 x7)] ∧ V.le V' ∧ Ow V' (.os RT_Tnd v1 xs6 :: Rs) ∧ itO (fun s => s_heapSort_l1b p1 p2 s.1 s.2) n (xs6, x7) = some r) n9 _ ⟨p0, x3, rfl, .refl _, ow, hn8⟩ (allCons (L 11 rfl rfl) (allCons (L 14 rfl rfl) (allCons (L 9 rfl rfl) (allCons (L 8 rfl rfl) (allCons (L 4 rfl rfl) (allCons (L 0 rfl rfl) allNil)))))) ?_
 rintro _ _ V10 ⟨xs6, x7, rfl, le11, ow12, h16⟩
 obtain ⟨m13, q14, rfl, h17, e15⟩ := itS h16
 replace h17 : s_heapSort_l1b p1 p2 xs6 x7 = some q14 := h17
 unfold s_heapSort_l1b at h17
 refine WP.seq ?_
 refine WP.usreg rfl ?_
 refine U.p rfl rfl (.inl rfl) (S.move rfl (L 5 rfl rfl)) ?_
 refine U.p rfl rfl (.inl rfl) (S.geq rfl (L 0 rfl rfl) K) ?_
 refine U.done (nr rfl) ?_
 refine WP.cond _ (L 0 rfl rfl) rfl (fun c18 => ?_) (fun c18 => ?_)
 ·have h19 := ifT c18 h17
  refine WP.skip ?_
  refine sqN ?_
  refine WP.seq ?_
  refine WP.blk ?_
  refine WP.ureg rfl ?_
  refine U.p rfl rfl (.inl rfl) (S.move rfl (L 2 rfl rfl)) ?_
  refine U.p rfl rfl (.inl rfl) (S.move rfl (L 8 rfl rfl)) ?_
  refine U.p rfl rfl (.inl rfl) (S.move rfl (L 8 rfl rfl)) ?_
  refine U.p rfl rfl (.inl rfl) (S.move rfl (L 7 rfl rfl)) ?_
  refine U.p rfl rfl (.inl rfl) (S.move rfl (L 7 rfl rfl)) ?_
  obtain ⟨x20, hx21, h22⟩ := bindS h19
  refine O.call (V := V10) rfl rfl (.inl rfl) rfl en71 (aC (L 4 rfl rfl) (aC (L 3 rfl rfl) (aC (L 2 rfl rfl) (aC (L 1 rfl rfl) (aC (L 0 rfl rfl) aN))))) (wk_s_siftDown V10 _ xs6 x7 (w64 (p2 - p1)) p1 v1 ow12 _ hx21) (fun _ _ _ _ => nd) (fun v23 V24 le25 hp26 => ?_)
  have ow27 := hp26
  refine U.done (nr rfl) ?_
  refine blkN (sqN ?_)
  refine WP.ureg rfl ?_
  refine U.p rfl rfl (.inl rfl) (S.move rfl (L 13 rfl rfl)) ?_
  refine U.p rfl rfl (.inl rfl) (S.sub rfl (L 0 rfl rfl) K) ?_
  refine U.p rfl rfl (.inl rfl) (S.assign rfl (L 0 rfl rfl)) ?_
  refine U.done (nr rfl) ?_
  refine sqN ?_
  exact ⟨_, V24, rfl, ⟨m13, Nat.lt_succ_self _, x20, w64 (x7 - 1), rfl, (le11.trans le25), ow27, backS h22 e15⟩, (allCons (L 11 rfl rfl) (allCons (L 12 rfl rfl) (allCons (L 13 rfl rfl) (allCons (L 14 rfl rfl) (allCons (L 15 rfl rfl) (allCons (L 0 rfl rfl) allNil))))))⟩
 ·have h28 := ifF c18 h17
  refine WP.exit ?_
  refine sqE (sqE (blkE (sqN ?_)))
  have h29 := exitS h28 e15
  refine WP.usreg rfl ?_
  refine U.p rfl rfl (.inl rfl) (S.move rfl (L 6 rfl rfl)) ?_
  refine U.p rfl rfl (.inl rfl) (S.sub rfl (L 0 rfl rfl) K) ?_
  refine U.p rfl rfl (.inl rfl) (S.assign rfl (L 0 rfl rfl)) ?_
  refine U.done (nr rfl) ?_
  refine WP.blk ?_
  unfold s_heapSort_l2 at h29
  obtain ⟨n33, hn32⟩ := loopO_some.1 h29
  refine WP.loopI2 (fun n l V' => ∃ (xs30 : List Tnd) (x31 : Int), l = [(0, v1), (3, .func (.func 50) #[] #[]), (8, .int .i64 p1), (9, .int .i64 0), (12, .int .i64 x31)] ∧ V10.le V' ∧ Ow V' (.os RT_Tnd v1 xs30 :: Rs) ∧ itO (fun s => s_heapSort_l2b p1 s.1 s.2) n (xs30, x31) = some r) n33 _ ⟨xs6, w64 ((w64 (p2 - p1)) - 1), rfl, .refl _, ow12, hn32⟩ (allCons (L 5 rfl rfl) (allCons (L 6 rfl rfl) (allCons (L 7 rfl rfl) (allCons (L 8 rfl rfl) (allCons (L 0 rfl rfl) allNil))))) ?_
  rintro _ _ V34 ⟨xs30, x31, rfl, le35, ow36, h40⟩
  obtain ⟨m37, q38, rfl, h41, e39⟩ := itS h40
  replace h41 : s_heapSort_l2b p1 xs30 x31 = some q38 := h41
  unfold s_heapSort_l2b at h41
  refine WP.seq ?_
  refine WP.usreg rfl ?_
  refine U.p rfl rfl (.inl rfl) (S.move rfl (L 4 rfl rfl)) ?_
  refine U.p rfl rfl (.inl rfl) (S.geq rfl (L 0 rfl rfl) K) ?_
  refine U.done (nr rfl) ?_
  refine WP.cond _ (L 0 rfl rfl) rfl (fun c42 => ?_) (fun c42 => ?_)
  ·have h43 := ifT c42 h41
   refine WP.skip ?_
   refine sqN ?_
   refine WP.seq ?_
   refine WP.blk ?_
   refine WP.usdreg rfl rfl rfl ?_
   refine U.p rfl rfl (.inl rfl) (S.move rfl (L 2 rfl rfl)) ?_
   refine U.p rfl rfl (.inl rfl) (S.move rfl (L 5 rfl rfl)) ?_
   refine U.p rfl rfl (.inl rfl) (S.move rfl (L 4 rfl rfl)) ?_
   refine U.p rfl rfl (.inl rfl) (S.move rfl (L 7 rfl rfl)) ?_
   refine U.p rfl rfl (.inl rfl) (S.move rfl (L 10 rfl rfl)) ?_
   refine U.p rfl rfl (.inl rfl) (S.add rfl (L 1 rfl rfl) (L 0 rfl rfl)) ?_
   refine U.p rfl rfl (.inl rfl) (S.move rfl (L 8 rfl rfl)) ?_
   refine U.p rfl rfl (.inl rfl) (S.move rfl (L 11 rfl rfl)) ?_
   refine U.p rfl rfl (.inl rfl) (S.move rfl (L 14 rfl rfl)) ?_
   refine U.p rfl rfl (.inl rfl) (S.add rfl (L 1 rfl rfl) (L 0 rfl rfl)) ?_
   obtain ⟨x44, hx45, h46⟩ := bindS h43
   obtain ⟨b47, o48, n49, c50, hv51⟩ := ow36.ospt (k := 0) rfl hx45
   obtain ⟨_, hv52, _⟩ := ow36.osel (k := 0) rfl hv51 hx45
   refine U.p rfl rfl (.inl rfl) (S.index rfl ((L 3 rfl rfl).trans hv52) (L 0 rfl rfl) Try.underlying38 ti45 (ix_ge hx45) (ix_lt hx45)) ?_
   obtain ⟨cs53, hv54, hlt55, hr56, hc57⟩ := ow36.osel (k := 0) rfl hv51 hx45
   obtain rfl : cs53 = [.int .i64 x44.e.t, .int .i64 x44.e.act.kind, .int .i64 x44.e.act.at_, .int .i64 x44.e.act.val, .int .i64 x44.e.act.what, .bool x44.e.act.volatile, .bool x44.e.act.final, .int .i64 x44.e.rf, .int .i64 x44.e.id, .int .i64 x44.at_] := hr56
   refine U.k rfl rfl (.inl rfl) (S.loadN (cs := [.int .i64 x44.e.t, .int .i64 x44.e.act.kind, .int .i64 x44.e.act.at_, .int .i64 x44.e.act.val, .int .i64 x44.e.act.what, .bool x44.e.act.volatile, .bool x44.e.act.final, .int .i64 x44.e.rf, .int .i64 x44.e.id, .int .i64 x44.at_]) rfl (L 0 rfl rfl) Try.underlying45 rfl ti45 rfl hc57) (fun _ => (okH.nil (fun r h => by cases h; exact hlt55))) ?_
   refine U.p rfl rfl (.inl rfl) (S.move rfl (L 14 rfl rfl)) ?_
   refine U.p rfl rfl (.inl rfl) (S.move rfl (L 17 rfl rfl)) ?_
   obtain ⟨x58, hx59, h60⟩ := bindS h46
   obtain ⟨_, hv61, _⟩ := ow36.osel (k := 0) rfl hv51 hx59
   refine U.p rfl rfl (.inl rfl) (S.index rfl ((L 1 rfl rfl).trans hv61) (L 0 rfl rfl) Try.underlying38 ti45 (ix_ge hx59) (ix_lt hx59)) ?_
   obtain ⟨cs62, hv63, hlt64, hr65, hc66⟩ := ow36.osel (k := 0) rfl hv51 hx59
   obtain rfl : cs62 = [.int .i64 x58.e.t, .int .i64 x58.e.act.kind, .int .i64 x58.e.act.at_, .int .i64 x58.e.act.val, .int .i64 x58.e.act.what, .bool x58.e.act.volatile, .bool x58.e.act.final, .int .i64 x58.e.rf, .int .i64 x58.e.id, .int .i64 x58.at_] := hr65
   refine U.k rfl rfl (.inl rfl) (S.loadN (cs := [.int .i64 x58.e.t, .int .i64 x58.e.act.kind, .int .i64 x58.e.act.at_, .int .i64 x58.e.act.val, .int .i64 x58.e.act.what, .bool x58.e.act.volatile, .bool x58.e.act.final, .int .i64 x58.e.rf, .int .i64 x58.e.id, .int .i64 x58.at_]) rfl (L 0 rfl rfl) Try.underlying45 rfl ti45 rfl hc66) (fun _ => (okH.cons trivial (okH.nil (fun r h => by cases h; exact hlt64)))) ?_
   obtain ⟨x67, hx68, h69⟩ := bindS h60
   obtain ⟨_, hv70, _⟩ := ow36.osel (k := 0) rfl hv51 hx68
   refine U.p rfl rfl (.inl rfl) (S.index rfl ((L 15 rfl rfl).trans hv70) (L 14 rfl rfl) Try.underlying38 ti45 (ix_ge hx68) (ix_lt hx68)) ?_
   obtain ⟨cs71, hv72, hlt73, hr74, hc75⟩ := ow36.osel (k := 0) rfl hv51 hx68
   obtain rfl : cs71 = [.int .i64 x67.e.t, .int .i64 x67.e.act.kind, .int .i64 x67.e.act.at_, .int .i64 x67.e.act.val, .int .i64 x67.e.act.what, .bool x67.e.act.volatile, .bool x67.e.act.final, .int .i64 x67.e.rf, .int .i64 x67.e.id, .int .i64 x67.at_] := hr74
   refine O.storeE (k := 0) (R := RT_Tnd) (j := 0) (y := x44) (cs := [.int .i64 x44.e.t, .int .i64 x44.e.act.kind, .int .i64 x44.e.act.at_, .int .i64 x44.e.act.val, .int .i64 x44.e.act.what, .bool x44.e.act.volatile, .bool x44.e.act.final, .int .i64 x44.e.rf, .int .i64 x44.e.id, .int .i64 x44.at_]) ow36 rfl hv72 rfl rfl (.inl rfl) rfl (L 0 rfl rfl) (L 5 rfl rfl) ti45 hx68 (by simp [topV]) rfl rfl rfl (full rfl) (fun H1 hs => (fun _ => (okH.cons (Or.inl rfl) (okH.cons (Or.inl rfl) (okH.nil (fun r h => nomatch h)))))) (fun V76 le77 ow78 => ?_)
   obtain ⟨x79, hx80, h81⟩ := bindS h69
   obtain ⟨_, hv82, _⟩ := ow78.osel (k := 0) rfl hv51 hx80
   refine U.p rfl rfl (.inl rfl) (S.index rfl ((L 14 rfl rfl).trans hv82) (L 11 rfl rfl) Try.underlying38 ti45 (ix_ge hx80) (ix_lt hx80)) ?_
   obtain ⟨cs83, hv84, hlt85, hr86, hc87⟩ := ow78.osel (k := 0) rfl hv51 hx80
   obtain rfl : cs83 = [.int .i64 x79.e.t, .int .i64 x79.e.act.kind, .int .i64 x79.e.act.at_, .int .i64 x79.e.act.val, .int .i64 x79.e.act.what, .bool x79.e.act.volatile, .bool x79.e.act.final, .int .i64 x79.e.rf, .int .i64 x79.e.id, .int .i64 x79.at_] := hr86
   refine O.storeE (k := 0) (R := RT_Tnd) (j := 0) (y := x58) (cs := [.int .i64 x58.e.t, .int .i64 x58.e.act.kind, .int .i64 x58.e.act.at_, .int .i64 x58.e.act.val, .int .i64 x58.e.act.what, .bool x58.e.act.volatile, .bool x58.e.act.final, .int .i64 x58.e.rf, .int .i64 x58.e.id, .int .i64 x58.at_]) ow78 rfl hv84 rfl rfl (.inl rfl) rfl (L 0 rfl rfl) (L 2 rfl rfl) ti45 hx80 (by simp [topV]) rfl rfl rfl (full rfl) (fun H1 hs => (fun _ => (okH.cons rfl (okH.cons (Or.inl rfl) (okH.cons (Or.inl rfl) (okH.nil (fun r h => nomatch h))))))) (fun V88 le89 ow90 => ?_)
   refine U.done (nr rfl) ?_
   refine WP.ureg rfl ?_
   refine U.p rfl rfl (.inl rfl) (S.move rfl (L 20 rfl rfl)) ?_
   refine U.p rfl rfl (.inl rfl) (S.move rfl (L 24 rfl rfl)) ?_
   refine U.p rfl rfl (.inl rfl) (S.move rfl (L 26 rfl rfl)) ?_
   refine U.p rfl rfl (.inl rfl) (S.move rfl (L 25 rfl rfl)) ?_
   refine U.p rfl rfl (.inl rfl) (S.move rfl (L 25 rfl rfl)) ?_
   obtain ⟨x91, hx92, h93⟩ := bindS h81
   refine O.call (V := V88) rfl rfl (.inl rfl) rfl en71 (aC (L 4 rfl rfl) (aC (L 3 rfl rfl) (aC (L 2 rfl rfl) (aC (L 1 rfl rfl) (aC (L 0 rfl rfl) aN))))) (wk_s_siftDown V88 _ ((xs30.set (Int.toNat p1) x44).set (Int.toNat (w64 (p1 + x31))) x58) 0 x31 p1 v1 ow90 _ hx92) (fun _ _ _ _ => nd) (fun v94 V95 le96 hp97 => ?_)
   have ow98 := hp97
   refine U.done (nr rfl) ?_
   refine blkN (sqN ?_)
   refine WP.ureg rfl ?_
   refine U.p rfl rfl (.inl rfl) (S.move rfl (L 30 rfl rfl)) ?_
   refine U.p rfl rfl (.inl rfl) (S.sub rfl (L 0 rfl rfl) K) ?_
   refine U.p rfl rfl (.inl rfl) (S.assign rfl (L 0 rfl rfl)) ?_
   refine U.done (nr rfl) ?_
   refine sqN ?_
   exact ⟨_, V95, rfl, ⟨m37, Nat.lt_succ_self _, x91, w64 (x31 - 1), rfl, (((le35.trans le77).trans le89).trans le96), ow98, backS h93 e39⟩, (allCons (L 29 rfl rfl) (allCons (L 30 rfl rfl) (allCons (L 31 rfl rfl) (allCons (L 32 rfl rfl) (allCons (L 0 rfl rfl) allNil)))))⟩
  ·have h99 := ifF c42 h41
   refine WP.exit ?_
   refine sqE (sqE (blkE ?_))
   have h100 := exitS h99 e39
   refine fin.slots' (.inl rfl) fsN rfl ⟨V34, rfl, (le11.trans le35), ?_⟩
   have e101 := Option.some.inj h100
   subst e101
   exact ow36
set_option maxHeartbeats 4000000 in
set_option maxRecDepth 10000 in
theorem wk_s_order2 (V : Vw) (Rs : List At) (p0 : List Tnd) (p1 : Int) (p2 : Int) (p3 : Int) (v1 : Value) (b3 : Nat) (z4 : Nat) (ow : Ow V (.os RT_Tnd v1 p0 :: .pt b3 (.cells z4 [.int .i64 p3]) :: Rs)) (r : Int × Int × Int) (h : s_order2 p0 p1 p2 p3 = some r) : ∃ v V', Cl Try.prog 0 76 #[v1, .int .i64 p1, .int .i64 p2, .pointer (some ⟨b3, 0, none⟩), .func (.func 50) #[] #[]] V.H v V'.H ∧ V.le V' ∧ (v = .tuple #[.int .i64 r.1, .int .i64 r.2.1] ∧ Ow V' (.os RT_Tnd v1 p0 :: .pt b3 (.cells z4 [.int .i64 r.2.2]) :: Rs)) := by
 refine Ct.of (Nat.zero_le _) Try.func76 rfl (nr rfl) ?_
 unfold s_order2 at h
 refine WP.usreg rfl ?_
 refine U.p rfl rfl (.inl rfl) (S.assign rfl K) ?_
 refine U.p rfl rfl (.inl rfl) (S.assign rfl K) ?_
 refine U.done (nr rfl) ?_
 refine WP.seq ?_
 refine WP.usdreg rfl rfl rfl ?_
 refine U.p rfl rfl (.inl rfl) (S.move rfl (L 6 rfl rfl)) ?_
 refine U.p rfl rfl (.inl rfl) (S.move rfl (L 3 rfl rfl)) ?_
 refine U.p rfl rfl (.inl rfl) (S.move rfl (L 6 rfl rfl)) ?_
 obtain ⟨x6, hx7, h8⟩ := bindS h
 obtain ⟨b9, o10, n11, c12, hv13⟩ := ow.ospt (k := 0) rfl hx7
 obtain ⟨_, hv14, _⟩ := ow.osel (k := 0) rfl hv13 hx7
 refine U.p rfl rfl (.inl rfl) (S.index rfl ((L 1 rfl rfl).trans hv14) (L 0 rfl rfl) Try.underlying38 ti45 (ix_ge hx7) (ix_lt hx7)) ?_
 obtain ⟨cs15, hv16, hlt17, hr18, hc19⟩ := ow.osel (k := 0) rfl hv13 hx7
 obtain rfl : cs15 = [.int .i64 x6.e.t, .int .i64 x6.e.act.kind, .int .i64 x6.e.act.at_, .int .i64 x6.e.act.val, .int .i64 x6.e.act.what, .bool x6.e.act.volatile, .bool x6.e.act.final, .int .i64 x6.e.rf, .int .i64 x6.e.id, .int .i64 x6.at_] := hr18
 refine U.k rfl rfl (.inl rfl) (S.loadN (cs := [.int .i64 x6.e.t, .int .i64 x6.e.act.kind, .int .i64 x6.e.act.at_, .int .i64 x6.e.act.val, .int .i64 x6.e.act.what, .bool x6.e.act.volatile, .bool x6.e.act.final, .int .i64 x6.e.rf, .int .i64 x6.e.id, .int .i64 x6.at_]) rfl (L 0 rfl rfl) Try.underlying45 rfl ti45 rfl hc19) (fun _ => (okH.nil (fun r h => by cases h; exact hlt17))) ?_
 refine U.p rfl rfl (.inl rfl) (S.move rfl (L 7 rfl rfl)) ?_
 refine U.p rfl rfl (.inl rfl) (S.move rfl (L 9 rfl rfl)) ?_
 obtain ⟨x20, hx21, h22⟩ := bindS h8
 obtain ⟨_, hv23, _⟩ := ow.osel (k := 0) rfl hv13 hx21
 refine U.p rfl rfl (.inl rfl) (S.index rfl ((L 1 rfl rfl).trans hv23) (L 0 rfl rfl) Try.underlying38 ti45 (ix_ge hx21) (ix_lt hx21)) ?_
 obtain ⟨cs24, hv25, hlt26, hr27, hc28⟩ := ow.osel (k := 0) rfl hv13 hx21
 obtain rfl : cs24 = [.int .i64 x20.e.t, .int .i64 x20.e.act.kind, .int .i64 x20.e.act.at_, .int .i64 x20.e.act.val, .int .i64 x20.e.act.what, .bool x20.e.act.volatile, .bool x20.e.act.final, .int .i64 x20.e.rf, .int .i64 x20.e.id, .int .i64 x20.at_] := hr27
 refine U.k rfl rfl (.inl rfl) (S.loadN (cs := [.int .i64 x20.e.t, .int .i64 x20.e.act.kind, .int .i64 x20.e.act.at_, .int .i64 x20.e.act.val, .int .i64 x20.e.act.what, .bool x20.e.act.volatile, .bool x20.e.act.final, .int .i64 x20.e.rf, .int .i64 x20.e.id, .int .i64 x20.at_]) rfl (L 0 rfl rfl) Try.underlying45 rfl ti45 rfl hc28) (fun _ => (okH.cons trivial (okH.nil (fun r h => by cases h; exact hlt26)))) ?_
 obtain ⟨x29, hx30, h31⟩ := bindS h22
 refine O.callv (V := V) rfl rfl (.inl rfl) rfl (L 8 rfl rfl) en50 (aC (L 4 rfl rfl) (aC (L 0 rfl rfl) aN)) (wk_order_Run_Apart_c2 V _ x6 x20 ow _ hx30) (fun v32 V33 le34 hp35 => by obtain ⟨rfl, ow36⟩ := hp35; exact (fun _ => (okH.cons (Or.inl rfl) (okH.cons (Or.inl rfl) (okH.nil (fun r h => nomatch h)))))) (fun v32 V33 le34 hp35 => ?_)
 obtain ⟨rfl, ow36⟩ := hp35
 refine U.p rfl rfl (.inl rfl) (S.lss rfl (L 0 rfl rfl) K) ?_
 refine U.done (nr rfl) ?_
 refine WP.cond _ (L 0 rfl rfl) rfl (fun c37 => ?_) (fun c37 => ?_)
 ·have h38 := ifT c37 h31
  refine WP.usreg rfl ?_
  refine U.p rfl rfl (.inl rfl) (S.move rfl (L 16 rfl rfl)) ?_
  refine U.p rfl rfl (.inl rfl) (S.nilCheck rfl (L 0 rfl rfl)) ?_
  refine U.k rfl rfl (.inl rfl) (S.load rfl (L 0 rfl rfl) Try.underlying3 rfl ((ow36.own (k := 1) rfl).cell rfl)) nd ?_
  refine U.p rfl rfl (.inl rfl) (S.add rfl (L 0 rfl rfl) K) ?_
  refine U.p rfl rfl (.inl rfl) (S.nilCheck rfl (L 3 rfl rfl)) ?_
  refine O.store (k := 1) (cs := [.int .i64 (w64 (p3 + 1))]) (c' := [.int .i64 (w64 (p3 + 1))]) ow36 rfl rfl rfl (.inl rfl) rfl (L 0 rfl rfl) (L 1 rfl rfl) ti3 (by simp [topV]) rfl rfl (nr rfl) rfl rfl nd (fun V39 le40 ow41 => ?_)
  refine U.done (nr rfl) ?_
  refine WP.usreg rfl ?_
  refine U.p rfl rfl (.inl rfl) (S.move rfl (L 20 rfl rfl)) ?_
  refine U.p rfl rfl (.inl rfl) (S.move rfl (L 20 rfl rfl)) ?_
  refine U.p rfl rfl (.inl rfl) (S.assign rfl (L 1 rfl rfl)) ?_
  refine U.p rfl rfl (.inl rfl) (S.assign rfl (L 1 rfl rfl)) ?_
  refine U.done (nr rfl) ?_
  refine WP.ret ?_
  refine sqR ?_
  refine fin.slots' (.inr rfl) (fsC (L 1 rfl rfl) (fsC (L 0 rfl rfl) fsN)) rfl ⟨V39, rfl, (le34.trans le40), ?_⟩
  have e42 := Option.some.inj h38
  subst e42
  exact ⟨rfl, ow41⟩
 ·have h43 := ifF c37 h31
  refine WP.skip ?_
  refine sqN ?_
  refine WP.usreg rfl ?_
  refine U.p rfl rfl (.inl rfl) (S.move rfl (L 14 rfl rfl)) ?_
  refine U.p rfl rfl (.inl rfl) (S.move rfl (L 16 rfl rfl)) ?_
  refine U.p rfl rfl (.inl rfl) (S.assign rfl (L 1 rfl rfl)) ?_
  refine U.p rfl rfl (.inl rfl) (S.assign rfl (L 1 rfl rfl)) ?_
  refine U.done (nr rfl) ?_
  refine WP.ret ?_
  refine fin.slots' (.inr rfl) (fsC (L 1 rfl rfl) (fsC (L 0 rfl rfl) fsN)) rfl ⟨V33, rfl, le34, ?_⟩
  have e44 := Option.some.inj h43
  subst e44
  exact ⟨rfl, ow36⟩
set_option maxHeartbeats 4000000 in
set_option maxRecDepth 10000 in
theorem wk_s_median (V : Vw) (Rs : List At) (p0 : List Tnd) (p1 : Int) (p2 : Int) (p3 : Int) (p4 : Int) (v1 : Value) (b3 : Nat) (z4 : Nat) (ow : Ow V (.os RT_Tnd v1 p0 :: .pt b3 (.cells z4 [.int .i64 p4]) :: Rs)) (r : Int × Int) (h : s_median p0 p1 p2 p3 p4 = some r) : ∃ v V', Cl Try.prog 0 75 #[v1, .int .i64 p1, .int .i64 p2, .int .i64 p3, .pointer (some ⟨b3, 0, none⟩), .func (.func 50) #[] #[]] V.H v V'.H ∧ V.le V' ∧ (v = .int .i64 r.1 ∧ Ow V' (.os RT_Tnd v1 p0 :: .pt b3 (.cells z4 [.int .i64 r.2]) :: Rs)) := by
 refine Ct.of (Nat.zero_le _) Try.func75 rfl (nr rfl) ?_
 unfold s_median at h
 refine WP.usreg rfl ?_
 refine U.p rfl rfl (.inl rfl) (S.assign rfl K) ?_
 refine U.done (nr rfl) ?_
 refine WP.usreg rfl ?_
 refine U.p rfl rfl (.inl rfl) (S.move rfl (L 1 rfl rfl)) ?_
 refine U.p rfl rfl (.inl rfl) (S.move rfl (L 3 rfl rfl)) ?_
 refine U.p rfl rfl (.inl rfl) (S.move rfl (L 5 rfl rfl)) ?_
 refine U.p rfl rfl (.inl rfl) (S.move rfl (L 8 rfl rfl)) ?_
 refine U.p rfl rfl (.inl rfl) (S.move rfl (L 10 rfl rfl)) ?_
 have ow6 := ow.pick 1 rfl
 have ow7 := ow6.pick 1 rfl
 obtain ⟨x8, hx9, h10⟩ := bindS h
 refine O.call (V := V) rfl rfl (.inl rfl) rfl en76 (aC (L 4 rfl rfl) (aC (L 3 rfl rfl) (aC (L 2 rfl rfl) (aC (L 1 rfl rfl) (aC (L 0 rfl rfl) aN))))) (wk_s_order2 V _ p0 p1 p2 p4 v1 b3 z4 ow7 _ hx9) (fun _ _ _ _ => nd) (fun v11 V12 le13 hp14 => ?_)
 obtain ⟨rfl, ow15⟩ := hp14
 refine U.p rfl rfl (.inl rfl) (S.move rfl (L 0 rfl rfl)) ?_
 refine U.p rfl rfl (.inl rfl) (S.extract rfl (L 0 rfl rfl) rfl (nr rfl)) ?_
 refine U.p rfl rfl (.inl rfl) (S.extract rfl (L 1 rfl rfl) rfl (nr rfl)) ?_
 refine U.p rfl rfl (.inl rfl) (S.assign rfl (L 1 rfl rfl)) ?_
 refine U.p rfl rfl (.inl rfl) (S.assign rfl (L 1 rfl rfl)) ?_
 refine U.done (nr rfl) ?_
 refine WP.usreg rfl ?_
 refine U.p rfl rfl (.inl rfl) (S.move rfl (L 12 rfl rfl)) ?_
 refine U.p rfl rfl (.inl rfl) (S.move rfl (L 1 rfl rfl)) ?_
 refine U.p rfl rfl (.inl rfl) (S.move rfl (L 17 rfl rfl)) ?_
 refine U.p rfl rfl (.inl rfl) (S.move rfl (L 19 rfl rfl)) ?_
 refine U.p rfl rfl (.inl rfl) (S.move rfl (L 21 rfl rfl)) ?_
 have ow16 := ow15.pick 1 rfl
 have ow17 := ow16.pick 1 rfl
 obtain ⟨x18, hx19, h20⟩ := bindS h10
 refine O.call (V := V12) rfl rfl (.inl rfl) rfl en76 (aC (L 4 rfl rfl) (aC (L 3 rfl rfl) (aC (L 2 rfl rfl) (aC (L 1 rfl rfl) (aC (L 0 rfl rfl) aN))))) (wk_s_order2 V12 _ p0 x8.2.1 p3 x8.2.2 v1 b3 z4 ow17 _ hx19) (fun _ _ _ _ => nd) (fun v21 V22 le23 hp24 => ?_)
 obtain ⟨rfl, ow25⟩ := hp24
 refine U.p rfl rfl (.inl rfl) (S.move rfl (L 0 rfl rfl)) ?_
 refine U.p rfl rfl (.inl rfl) (S.extract rfl (L 0 rfl rfl) rfl (nr rfl)) ?_
 refine U.p rfl rfl (.inl rfl) (S.extract rfl (L 1 rfl rfl) rfl (nr rfl)) ?_
 refine U.p rfl rfl (.inl rfl) (S.assign rfl (L 1 rfl rfl)) ?_
 refine U.p rfl rfl (.inl rfl) (S.assign rfl (L 1 rfl rfl)) ?_
 refine U.done (nr rfl) ?_
 refine WP.usreg rfl ?_
 refine U.p rfl rfl (.inl rfl) (S.move rfl (L 23 rfl rfl)) ?_
 refine U.p rfl rfl (.inl rfl) (S.move rfl (L 13 rfl rfl)) ?_
 refine U.p rfl rfl (.inl rfl) (S.move rfl (L 3 rfl rfl)) ?_
 refine U.p rfl rfl (.inl rfl) (S.move rfl (L 30 rfl rfl)) ?_
 refine U.p rfl rfl (.inl rfl) (S.move rfl (L 32 rfl rfl)) ?_
 have ow26 := ow25.pick 1 rfl
 have ow27 := ow26.pick 1 rfl
 obtain ⟨x28, hx29, h30⟩ := bindS h20
 refine O.call (V := V22) rfl rfl (.inl rfl) rfl en76 (aC (L 4 rfl rfl) (aC (L 3 rfl rfl) (aC (L 2 rfl rfl) (aC (L 1 rfl rfl) (aC (L 0 rfl rfl) aN))))) (wk_s_order2 V22 _ p0 x8.1 x18.1 x18.2.2 v1 b3 z4 ow27 _ hx29) (fun _ _ _ _ => nd) (fun v31 V32 le33 hp34 => ?_)
 obtain ⟨rfl, ow35⟩ := hp34
 refine U.p rfl rfl (.inl rfl) (S.move rfl (L 0 rfl rfl)) ?_
 refine U.p rfl rfl (.inl rfl) (S.extract rfl (L 0 rfl rfl) rfl (nr rfl)) ?_
 refine U.p rfl rfl (.inl rfl) (S.extract rfl (L 1 rfl rfl) rfl (nr rfl)) ?_
 refine U.p rfl rfl (.inl rfl) (S.assign rfl (L 1 rfl rfl)) ?_
 refine U.p rfl rfl (.inl rfl) (S.assign rfl (L 1 rfl rfl)) ?_
 refine U.done (nr rfl) ?_
 refine WP.usreg rfl ?_
 refine U.p rfl rfl (.inl rfl) (S.move rfl (L 0 rfl rfl)) ?_
 refine U.p rfl rfl (.inl rfl) (S.assign rfl (L 0 rfl rfl)) ?_
 refine U.done (nr rfl) ?_
 refine WP.ret ?_
 refine fin.slot (.inr rfl) rfl (L 0 rfl rfl) ⟨V32, rfl, ((le13.trans le23).trans le33), ?_⟩
 have e36 := Option.some.inj h30
 subst e36
 exact ⟨rfl, ow35⟩
set_option maxHeartbeats 4000000 in
set_option maxRecDepth 10000 in
theorem wk_s_medianAdjacent (V : Vw) (Rs : List At) (p0 : List Tnd) (p1 : Int) (p2 : Int) (v1 : Value) (b3 : Nat) (z4 : Nat) (ow : Ow V (.os RT_Tnd v1 p0 :: .pt b3 (.cells z4 [.int .i64 p2]) :: Rs)) (r : Int × Int) (h : s_medianAdjacent p0 p1 p2 = some r) : ∃ v V', Cl Try.prog 0 74 #[v1, .int .i64 p1, .pointer (some ⟨b3, 0, none⟩), .func (.func 50) #[] #[]] V.H v V'.H ∧ V.le V' ∧ (v = .int .i64 r.1 ∧ Ow V' (.os RT_Tnd v1 p0 :: .pt b3 (.cells z4 [.int .i64 r.2]) :: Rs)) := by
 refine Ct.of (Nat.zero_le _) Try.func74 rfl (nr rfl) ?_
 unfold s_medianAdjacent at h
 refine WP.usreg rfl ?_
 refine U.p rfl rfl (.inl rfl) (S.assign rfl K) ?_
 refine U.done (nr rfl) ?_
 refine WP.usreg rfl ?_
 refine U.p rfl rfl (.inl rfl) (S.move rfl (L 1 rfl rfl)) ?_
 refine U.p rfl rfl (.inl rfl) (S.move rfl (L 3 rfl rfl)) ?_
 refine U.p rfl rfl (.inl rfl) (S.sub rfl (L 0 rfl rfl) K) ?_
 refine U.p rfl rfl (.inl rfl) (S.move rfl (L 5 rfl rfl)) ?_
 refine U.p rfl rfl (.inl rfl) (S.move rfl (L 6 rfl rfl)) ?_
 refine U.p rfl rfl (.inl rfl) (S.add rfl (L 0 rfl rfl) K) ?_
 refine U.p rfl rfl (.inl rfl) (S.move rfl (L 9 rfl rfl)) ?_
 refine U.p rfl rfl (.inl rfl) (S.move rfl (L 11 rfl rfl)) ?_
 have ow6 := ow.pick 1 rfl
 have ow7 := ow6.pick 1 rfl
 obtain ⟨x8, hx9, h10⟩ := bindS h
 refine O.call (V := V) rfl rfl (.inl rfl) rfl en75 (aC (L 7 rfl rfl) (aC (L 5 rfl rfl) (aC (L 4 rfl rfl) (aC (L 2 rfl rfl) (aC (L 1 rfl rfl) (aC (L 0 rfl rfl) aN)))))) (wk_s_median V _ p0 (w64 (p1 - 1)) p1 (w64 (p1 + 1)) p2 v1 b3 z4 ow7 _ hx9) (fun _ _ _ _ => nd) (fun v11 V12 le13 hp14 => ?_)
 obtain ⟨rfl, ow15⟩ := hp14
 refine U.p rfl rfl (.inl rfl) (S.assign rfl (L 0 rfl rfl)) ?_
 refine U.done (nr rfl) ?_
 refine WP.ret ?_
 refine fin.slot (.inr rfl) rfl (L 0 rfl rfl) ⟨V12, rfl, le13, ?_⟩
 have e16 := Option.some.inj h10
 subst e16
 exact ⟨rfl, ow15⟩
set_option maxHeartbeats 4000000 in
set_option maxRecDepth 10000 in
theorem wk_s_choosePivot (V : Vw) (Rs : List At) (p0 : List Tnd) (p1 : Int) (p2 : Int) (v1 : Value) (ow : Ow V (.os RT_Tnd v1 p0 :: Rs)) (r : Int × Int) (h : s_choosePivot p0 p1 p2 = some r) : ∃ v V', Cl Try.prog 0 64 #[v1, .int .i64 p1, .int .i64 p2, .func (.func 50) #[] #[]] V.H v V'.H ∧ V.le V' ∧ (v = .tuple #[.int .i64 r.1, .int .i64 r.2] ∧ Ow V' (.os RT_Tnd v1 p0 :: Rs)) := by
 refine Ct.of (Nat.zero_le _) Try.func64 rfl (nr rfl) ?_
 unfold s_choosePivot at h
 refine WP.usreg rfl ?_
 refine U.p rfl rfl (.inl rfl) (S.assign rfl K) ?_
 refine U.p rfl rfl (.inl rfl) (S.assign rfl K) ?_
 refine U.done (nr rfl) ?_
 refine WP.usreg rfl ?_
 refine U.p rfl rfl (.inl rfl) (S.move rfl (L 4 rfl rfl)) ?_
 refine U.p rfl rfl (.inl rfl) (S.move rfl (L 4 rfl rfl)) ?_
 refine U.p rfl rfl (.inl rfl) (S.sub rfl (L 1 rfl rfl) (L 0 rfl rfl)) ?_
 refine U.p rfl rfl (.inl rfl) (S.assign rfl (L 0 rfl rfl)) ?_
 refine U.done (nr rfl) ?_
 refine WP.usreg rfl ?_
 refine O.alloc ow rfl rfl (.inl rfl) rfl ti3 rfl rfl nd (fun b3 V4 le5 ow6 => ?_)
 refine U.done (nr rfl) ?_
 refine WP.usreg rfl ?_
 refine U.p rfl rfl (.inl rfl) (S.move rfl (L 8 rfl rfl)) ?_
 refine U.p rfl rfl (.inl rfl) (S.move rfl (L 2 rfl rfl)) ?_
 obtain ⟨x8, hx9, h10⟩ := bindS h
 refine U.p rfl rfl (.inl rfl) (S.quo hx9 rfl (L 0 rfl rfl) K) ?_
 refine U.p rfl rfl (.inl rfl) (S.mul rfl (L 0 rfl rfl) K) ?_
 refine U.p rfl rfl (.inl rfl) (S.add rfl (L 3 rfl rfl) (L 0 rfl rfl)) ?_
 refine U.p rfl rfl (.inl rfl) (S.assign rfl (L 0 rfl rfl)) ?_
 refine U.done (nr rfl) ?_
 refine WP.usreg rfl ?_
 refine U.p rfl rfl (.inl rfl) (S.move rfl (L 14 rfl rfl)) ?_
 refine U.p rfl rfl (.inl rfl) (S.move rfl (L 8 rfl rfl)) ?_
 obtain ⟨x11, hx12, h13⟩ := bindS h10
 refine U.p rfl rfl (.inl rfl) (S.quo hx12 rfl (L 0 rfl rfl) K) ?_
 refine U.p rfl rfl (.inl rfl) (S.mul rfl (L 0 rfl rfl) K) ?_
 refine U.p rfl rfl (.inl rfl) (S.add rfl (L 3 rfl rfl) (L 0 rfl rfl)) ?_
 refine U.p rfl rfl (.inl rfl) (S.assign rfl (L 0 rfl rfl)) ?_
 refine U.done (nr rfl) ?_
 refine WP.usreg rfl ?_
 refine U.p rfl rfl (.inl rfl) (S.move rfl (L 20 rfl rfl)) ?_
 refine U.p rfl rfl (.inl rfl) (S.move rfl (L 14 rfl rfl)) ?_
 obtain ⟨x14, hx15, h16⟩ := bindS h13
 refine U.p rfl rfl (.inl rfl) (S.quo hx15 rfl (L 0 rfl rfl) K) ?_
 refine U.p rfl rfl (.inl rfl) (S.mul rfl (L 0 rfl rfl) K) ?_
 refine U.p rfl rfl (.inl rfl) (S.add rfl (L 3 rfl rfl) (L 0 rfl rfl)) ?_
 refine U.p rfl rfl (.inl rfl) (S.assign rfl (L 0 rfl rfl)) ?_
 refine U.done (nr rfl) ?_
 refine WP.seqI (fun l V' => ∃ (x17 : Int) (x18 : Int), l = [(11, .pointer (some ⟨b3, 0, none⟩)), (13, .int .i64 x18)] ∧ V4.le V' ∧ Ow V' (.os RT_Tnd v1 p0 :: .pt b3 (.cells 1 [.int .i64 x17]) :: Rs) ∧ s_choosePivot_k1 x17 x18 = some r) ?_ ?_
 ·rintro _ V19 ⟨x17, x18, rfl, le20, ow21, h22⟩
  unfold s_choosePivot_k1 at h22
  refine WP.usreg rfl ?_
  refine U.k rfl rfl (.inl rfl) (S.load rfl (L 0 rfl rfl) Try.underlying3 rfl ((ow21.own (k := 1) rfl).cell rfl)) nd ?_
  refine U.done (nr rfl) ?_
  refine WP.blk ?_
  refine WP.usreg rfl ?_
  refine U.p rfl rfl (.inl rfl) (S.eqlI rfl (L 0 rfl rfl) K) ?_
  refine U.p rfl rfl (.inl rfl) (S.assign rfl (L 0 rfl rfl)) ?_
  refine U.done (nr rfl) ?_
  refine WP.cond _ (L 0 rfl rfl) rfl (fun c23 => ?_) (fun c23 => ?_)
  ·have h24 := ifT c23 h22
   refine WP.usreg rfl ?_
   refine U.p rfl rfl (.inl rfl) (S.move rfl (L 4 rfl rfl)) ?_
   refine U.p rfl rfl (.inl rfl) (S.assign rfl (L 0 rfl rfl)) ?_
   refine U.p rfl rfl (.inl rfl) (S.assign rfl K) ?_
   refine U.done (nr rfl) ?_
   refine WP.ret ?_
   refine blkR ?_
   refine fin.slots' (.inr rfl) (fsC (L 1 rfl rfl) (fsC (L 0 rfl rfl) fsN)) rfl ⟨V19, rfl, (le5.trans le20), ?_⟩
   have ow25 := ow21.drop 1 rfl
   have e26 := Option.some.inj h24
   subst e26
   exact ⟨rfl, ow25⟩
  ·have h27 := ifF c23 h22
   refine WP.usreg rfl ?_
   refine U.p rfl rfl (.inl rfl) (S.eqlI rfl (L 2 rfl rfl) K) ?_
   refine U.p rfl rfl (.inl rfl) (S.assign rfl (L 0 rfl rfl)) ?_
   refine U.done (nr rfl) ?_
   refine WP.cond _ (L 0 rfl rfl) rfl (fun c28 => ?_) (fun c28 => ?_)
   ·have h29 := ifT c28 h27
    refine WP.usreg rfl ?_
    refine U.p rfl rfl (.inl rfl) (S.move rfl (L 6 rfl rfl)) ?_
    refine U.p rfl rfl (.inl rfl) (S.assign rfl (L 0 rfl rfl)) ?_
    refine U.p rfl rfl (.inl rfl) (S.assign rfl K) ?_
    refine U.done (nr rfl) ?_
    refine WP.ret ?_
    refine blkR ?_
    refine fin.slots' (.inr rfl) (fsC (L 1 rfl rfl) (fsC (L 0 rfl rfl) fsN)) rfl ⟨V19, rfl, (le5.trans le20), ?_⟩
    have ow30 := ow21.drop 1 rfl
    have e31 := Option.some.inj h29
    subst e31
    exact ⟨rfl, ow30⟩
   ·have h32 := ifF c28 h27
    refine WP.usreg rfl ?_
    refine U.p rfl rfl (.inl rfl) (S.move rfl (L 6 rfl rfl)) ?_
    refine U.p rfl rfl (.inl rfl) (S.assign rfl (L 0 rfl rfl)) ?_
    refine U.p rfl rfl (.inl rfl) (S.assign rfl K) ?_
    refine U.done (nr rfl) ?_
    refine WP.ret ?_
    refine blkR ?_
    refine fin.slots' (.inr rfl) (fsC (L 1 rfl rfl) (fsC (L 0 rfl rfl) fsN)) rfl ⟨V19, rfl, (le5.trans le20), ?_⟩
    have ow33 := ow21.drop 1 rfl
    have e34 := Option.some.inj h32
    subst e34
    exact ⟨rfl, ow33⟩
 ·skip
  refine WP.usreg rfl ?_
  refine U.p rfl rfl (.inl rfl) (S.move rfl (L 19 rfl rfl)) ?_
  refine U.p rfl rfl (.inl rfl) (S.geq rfl (L 0 rfl rfl) K) ?_
  refine U.done (nr rfl) ?_
  refine WP.cond _ (L 0 rfl rfl) rfl (fun c35 => ?_) (fun c35 => ?_)
  ·have h36 := ifT c35 h16
   refine WP.seqI (fun l V' => ∃ (x37 : Int) (x38 : Int) (x39 : Int) (x40 : Int), l = [(0, v1), (3, .func (.func 50) #[] #[]), (11, .pointer (some ⟨b3, 0, none⟩)), (12, .int .i64 x38), (13, .int .i64 x39), (14, .int .i64 x40)] ∧ V4.le V' ∧ Ow V' (.os RT_Tnd v1 p0 :: .pt b3 (.cells 1 [.int .i64 x37]) :: Rs) ∧ s_choosePivot_k2 p0 x37 x38 x39 x40 = some r) ?_ ?_
   ·rintro _ V41 ⟨x37, x38, x39, x40, rfl, le42, ow43, h44⟩
    unfold s_choosePivot_k2 at h44
    refine WP.ureg rfl ?_
    refine U.p rfl rfl (.inl rfl) (S.move rfl (L 0 rfl rfl)) ?_
    refine U.p rfl rfl (.inl rfl) (S.move rfl (L 4 rfl rfl)) ?_
    refine U.p rfl rfl (.inl rfl) (S.move rfl (L 6 rfl rfl)) ?_
    refine U.p rfl rfl (.inl rfl) (S.move rfl (L 8 rfl rfl)) ?_
    refine U.p rfl rfl (.inl rfl) (S.move rfl (L 5 rfl rfl)) ?_
    have ow45 := ow43.pick 1 rfl
    have ow46 := ow45.pick 1 rfl
    obtain ⟨x47, hx48, h49⟩ := bindS h44
    refine O.call (V := V41) rfl rfl (.inl rfl) rfl en75 (aC (L 4 rfl rfl) (aC (L 3 rfl rfl) (aC (L 2 rfl rfl) (aC (L 1 rfl rfl) (aC (L 7 rfl rfl) (aC (L 0 rfl rfl) aN)))))) (wk_s_median V41 _ p0 x38 x39 x40 x37 v1 b3 1 ow46 _ hx48) (fun _ _ _ _ => nd) (fun v50 V51 le52 hp53 => ?_)
    obtain ⟨rfl, ow54⟩ := hp53
    refine U.p rfl rfl (.inl rfl) (S.assign rfl (L 0 rfl rfl)) ?_
    refine U.done (nr rfl) ?_
    refine sqN ?_
    exact ⟨_, V51, rfl, ⟨x47.2, x47.1, rfl, (le42.trans le52), ow54, h49⟩, (allCons (L 9 rfl rfl) (allCons (L 0 rfl rfl) allNil))⟩
   ·skip
    refine WP.usreg rfl ?_
    refine U.p rfl rfl (.inl rfl) (S.move rfl (L 21 rfl rfl)) ?_
    refine U.p rfl rfl (.inl rfl) (S.geq rfl (L 0 rfl rfl) K) ?_
    refine U.done (nr rfl) ?_
    refine WP.cond _ (L 0 rfl rfl) rfl (fun c55 => ?_) (fun c55 => ?_)
    ·have h56 := ifT c55 h36
     refine WP.usreg rfl ?_
     refine U.p rfl rfl (.inl rfl) (S.move rfl (L 29 rfl rfl)) ?_
     refine U.p rfl rfl (.inl rfl) (S.move rfl (L 17 rfl rfl)) ?_
     refine U.p rfl rfl (.inl rfl) (S.move rfl (L 34 rfl rfl)) ?_
     have ow57 := ow6.pick 1 rfl
     obtain ⟨x58, hx59, h60⟩ := bindS h56
     refine O.call (V := V4) rfl rfl (.inl rfl) rfl en74 (aC (L 2 rfl rfl) (aC (L 1 rfl rfl) (aC (L 25 rfl rfl) (aC (L 0 rfl rfl) aN)))) (wk_s_medianAdjacent V4 _ p0 (w64 (p1 + (w64 (x8 * 1)))) 0 v1 b3 1 ow57 _ hx59) (fun _ _ _ _ => nd) (fun v61 V62 le63 hp64 => ?_)
     obtain ⟨rfl, ow65⟩ := hp64
     refine U.p rfl rfl (.inl rfl) (S.assign rfl (L 0 rfl rfl)) ?_
     refine U.done (nr rfl) ?_
     refine WP.usreg rfl ?_
     refine U.p rfl rfl (.inl rfl) (S.move rfl (L 34 rfl rfl)) ?_
     refine U.p rfl rfl (.inl rfl) (S.move rfl (L 16 rfl rfl)) ?_
     refine U.p rfl rfl (.inl rfl) (S.move rfl (L 39 rfl rfl)) ?_
     have ow66 := ow65.pick 1 rfl
     have ow67 := ow66.pick 1 rfl
     obtain ⟨x68, hx69, h70⟩ := bindS h60
     refine O.call (V := V62) rfl rfl (.inl rfl) rfl en74 (aC (L 2 rfl rfl) (aC (L 1 rfl rfl) (aC (L 30 rfl rfl) (aC (L 0 rfl rfl) aN)))) (wk_s_medianAdjacent V62 _ p0 (w64 (p1 + (w64 (x11 * 2)))) x58.2 v1 b3 1 ow67 _ hx69) (fun _ _ _ _ => nd) (fun v71 V72 le73 hp74 => ?_)
     obtain ⟨rfl, ow75⟩ := hp74
     refine U.p rfl rfl (.inl rfl) (S.assign rfl (L 0 rfl rfl)) ?_
     refine U.done (nr rfl) ?_
     refine WP.ureg rfl ?_
     refine U.p rfl rfl (.inl rfl) (S.move rfl (L 39 rfl rfl)) ?_
     refine U.p rfl rfl (.inl rfl) (S.move rfl (L 15 rfl rfl)) ?_
     refine U.p rfl rfl (.inl rfl) (S.move rfl (L 44 rfl rfl)) ?_
     have ow76 := ow75.pick 1 rfl
     have ow77 := ow76.pick 1 rfl
     obtain ⟨x78, hx79, h80⟩ := bindS h70
     refine O.call (V := V72) rfl rfl (.inl rfl) rfl en74 (aC (L 2 rfl rfl) (aC (L 1 rfl rfl) (aC (L 35 rfl rfl) (aC (L 0 rfl rfl) aN)))) (wk_s_medianAdjacent V72 _ p0 (w64 (p1 + (w64 (x14 * 3)))) x68.2 v1 b3 1 ow77 _ hx79) (fun _ _ _ _ => nd) (fun v81 V82 le83 hp84 => ?_)
     obtain ⟨rfl, ow85⟩ := hp84
     refine U.p rfl rfl (.inl rfl) (S.assign rfl (L 0 rfl rfl)) ?_
     refine U.done (nr rfl) ?_
     refine sqN ?_
     exact ⟨_, V82, rfl, ⟨x78.2, x58.1, x68.1, x78.1, rfl, ((le63.trans le73).trans le83), ow85, h80⟩, (allCons (L 44 rfl rfl) (allCons (L 47 rfl rfl) (allCons (L 37 rfl rfl) (allCons (L 10 rfl rfl) (allCons (L 5 rfl rfl) (allCons (L 0 rfl rfl) allNil))))))⟩
    ·have h86 := ifF c55 h36
     refine WP.skip ?_
     refine sqN ?_
     have ow87 := ow6.pick 0 rfl
     have ow88 := ow87.pick 1 rfl
     exact ⟨_, V4, rfl, ⟨0, w64 (p1 + (w64 (x8 * 1))), w64 (p1 + (w64 (x11 * 2))), w64 (p1 + (w64 (x14 * 3))), rfl, (.refl _), ow88, h86⟩, (allCons (L 29 rfl rfl) (allCons (L 32 rfl rfl) (allCons (L 22 rfl rfl) (allCons (L 16 rfl rfl) (allCons (L 10 rfl rfl) (allCons (L 4 rfl rfl) allNil))))))⟩
  ·have h89 := ifF c35 h16
   refine WP.skip ?_
   refine sqN ?_
   have ow90 := ow6.pick 0 rfl
   have ow91 := ow90.pick 1 rfl
   exact ⟨_, V4, rfl, ⟨0, w64 (p1 + (w64 (x11 * 2))), rfl, (.refl _), ow91, h89⟩, (allCons (L 20 rfl rfl) (allCons (L 8 rfl rfl) allNil))⟩
set_option maxHeartbeats 4000000 in
set_option maxRecDepth 10000 in
theorem wk_s_reverseRange (V : Vw) (Rs : List At) (p0 : List Tnd) (p1 : Int) (p2 : Int) (v1 : Value) (ow : Ow V (.os RT_Tnd v1 p0 :: Rs)) (r : List Tnd) (h : s_reverseRange p0 p1 p2 = some r) : ∃ v V', Cl Try.prog 0 65 #[v1, .int .i64 p1, .int .i64 p2, .func (.func 50) #[] #[]] V.H v V'.H ∧ V.le V' ∧ (Ow V' (.os RT_Tnd v1 r :: Rs)) := by
 refine Ct.of (Nat.zero_le _) Try.func65 rfl (nr rfl) ?_
 unfold s_reverseRange at h
 refine WP.usreg rfl ?_
 refine U.p rfl rfl (.inl rfl) (S.move rfl (L 1 rfl rfl)) ?_
 refine U.p rfl rfl (.inl rfl) (S.assign rfl (L 0 rfl rfl)) ?_
 refine U.done (nr rfl) ?_
 refine WP.usreg rfl ?_
 refine U.p rfl rfl (.inl rfl) (S.move rfl (L 4 rfl rfl)) ?_
 refine U.p rfl rfl (.inl rfl) (S.sub rfl (L 0 rfl rfl) K) ?_
 refine U.p rfl rfl (.inl rfl) (S.assign rfl (L 0 rfl rfl)) ?_
 refine U.done (nr rfl) ?_
 refine WP.blk ?_
 unfold s_reverseRange_l1 at h
 obtain ⟨n7, hn6⟩ := loopO_some.1 h
 refine WP.loopI2 (fun n l V' => ∃ (xs3 : List Tnd) (x4 : Int) (x5 : Int), l = [(0, v1), (8, .int .i64 x4), (9, .int .i64 x5)] ∧ V.le V' ∧ Ow V' (.os RT_Tnd v1 xs3 :: Rs) ∧ itO (fun s => s_reverseRange_l1b s.1 s.2.1 s.2.2) n (xs3, x4, x5) = some r) n7 _ ⟨p0, p1, w64 (p2 - 1), rfl, .refl _, ow, hn6⟩ (allCons (L 5 rfl rfl) (allCons (L 3 rfl rfl) (allCons (L 0 rfl rfl) allNil))) ?_
 rintro _ _ V8 ⟨xs3, x4, x5, rfl, le9, ow10, h14⟩
 obtain ⟨m11, q12, rfl, h15, e13⟩ := itS h14
 replace h15 : s_reverseRange_l1b xs3 x4 x5 = some q12 := h15
 unfold s_reverseRange_l1b at h15
 refine WP.seq ?_
 refine WP.usreg rfl ?_
 refine U.p rfl rfl (.inl rfl) (S.move rfl (L 1 rfl rfl)) ?_
 refine U.p rfl rfl (.inl rfl) (S.move rfl (L 3 rfl rfl)) ?_
 refine U.p rfl rfl (.inl rfl) (S.lss rfl (L 1 rfl rfl) (L 0 rfl rfl)) ?_
 refine U.done (nr rfl) ?_
 refine WP.cond _ (L 0 rfl rfl) rfl (fun c16 => ?_) (fun c16 => ?_)
 ·have h17 := ifT c16 h15
  refine WP.skip ?_
  refine sqN ?_
  refine WP.blk ?_
  refine WP.usdreg rfl rfl rfl ?_
  refine U.p rfl rfl (.inl rfl) (S.move rfl (L 3 rfl rfl)) ?_
  refine U.p rfl rfl (.inl rfl) (S.move rfl (L 5 rfl rfl)) ?_
  refine U.p rfl rfl (.inl rfl) (S.move rfl (L 5 rfl rfl)) ?_
  refine U.p rfl rfl (.inl rfl) (S.move rfl (L 8 rfl rfl)) ?_
  refine U.p rfl rfl (.inl rfl) (S.move rfl (L 7 rfl rfl)) ?_
  refine U.p rfl rfl (.inl rfl) (S.move rfl (L 10 rfl rfl)) ?_
  obtain ⟨x18, hx19, h20⟩ := bindS h17
  obtain ⟨b21, o22, n23, c24, hv25⟩ := ow10.ospt (k := 0) rfl hx19
  obtain ⟨_, hv26, _⟩ := ow10.osel (k := 0) rfl hv25 hx19
  refine U.p rfl rfl (.inl rfl) (S.index rfl ((L 1 rfl rfl).trans hv26) (L 0 rfl rfl) Try.underlying38 ti45 (ix_ge hx19) (ix_lt hx19)) ?_
  obtain ⟨cs27, hv28, hlt29, hr30, hc31⟩ := ow10.osel (k := 0) rfl hv25 hx19
  obtain rfl : cs27 = [.int .i64 x18.e.t, .int .i64 x18.e.act.kind, .int .i64 x18.e.act.at_, .int .i64 x18.e.act.val, .int .i64 x18.e.act.what, .bool x18.e.act.volatile, .bool x18.e.act.final, .int .i64 x18.e.rf, .int .i64 x18.e.id, .int .i64 x18.at_] := hr30
  refine U.k rfl rfl (.inl rfl) (S.loadN (cs := [.int .i64 x18.e.t, .int .i64 x18.e.act.kind, .int .i64 x18.e.act.at_, .int .i64 x18.e.act.val, .int .i64 x18.e.act.what, .bool x18.e.act.volatile, .bool x18.e.act.final, .int .i64 x18.e.rf, .int .i64 x18.e.id, .int .i64 x18.at_]) rfl (L 0 rfl rfl) Try.underlying45 rfl ti45 rfl hc31) (fun _ => (okH.nil (fun r h => by cases h; exact hlt29))) ?_
  refine U.p rfl rfl (.inl rfl) (S.move rfl (L 11 rfl rfl)) ?_
  refine U.p rfl rfl (.inl rfl) (S.move rfl (L 13 rfl rfl)) ?_
  obtain ⟨x32, hx33, h34⟩ := bindS h20
  obtain ⟨_, hv35, _⟩ := ow10.osel (k := 0) rfl hv25 hx33
  refine U.p rfl rfl (.inl rfl) (S.index rfl ((L 1 rfl rfl).trans hv35) (L 0 rfl rfl) Try.underlying38 ti45 (ix_ge hx33) (ix_lt hx33)) ?_
  obtain ⟨cs36, hv37, hlt38, hr39, hc40⟩ := ow10.osel (k := 0) rfl hv25 hx33
  obtain rfl : cs36 = [.int .i64 x32.e.t, .int .i64 x32.e.act.kind, .int .i64 x32.e.act.at_, .int .i64 x32.e.act.val, .int .i64 x32.e.act.what, .bool x32.e.act.volatile, .bool x32.e.act.final, .int .i64 x32.e.rf, .int .i64 x32.e.id, .int .i64 x32.at_] := hr39
  refine U.k rfl rfl (.inl rfl) (S.loadN (cs := [.int .i64 x32.e.t, .int .i64 x32.e.act.kind, .int .i64 x32.e.act.at_, .int .i64 x32.e.act.val, .int .i64 x32.e.act.what, .bool x32.e.act.volatile, .bool x32.e.act.final, .int .i64 x32.e.rf, .int .i64 x32.e.id, .int .i64 x32.at_]) rfl (L 0 rfl rfl) Try.underlying45 rfl ti45 rfl hc40) (fun _ => (okH.cons trivial (okH.nil (fun r h => by cases h; exact hlt38)))) ?_
  obtain ⟨x41, hx42, h43⟩ := bindS h34
  obtain ⟨_, hv44, _⟩ := ow10.osel (k := 0) rfl hv25 hx42
  refine U.p rfl rfl (.inl rfl) (S.index rfl ((L 11 rfl rfl).trans hv44) (L 10 rfl rfl) Try.underlying38 ti45 (ix_ge hx42) (ix_lt hx42)) ?_
  obtain ⟨cs45, hv46, hlt47, hr48, hc49⟩ := ow10.osel (k := 0) rfl hv25 hx42
  obtain rfl : cs45 = [.int .i64 x41.e.t, .int .i64 x41.e.act.kind, .int .i64 x41.e.act.at_, .int .i64 x41.e.act.val, .int .i64 x41.e.act.what, .bool x41.e.act.volatile, .bool x41.e.act.final, .int .i64 x41.e.rf, .int .i64 x41.e.id, .int .i64 x41.at_] := hr48
  refine O.storeE (k := 0) (R := RT_Tnd) (j := 0) (y := x18) (cs := [.int .i64 x18.e.t, .int .i64 x18.e.act.kind, .int .i64 x18.e.act.at_, .int .i64 x18.e.act.val, .int .i64 x18.e.act.what, .bool x18.e.act.volatile, .bool x18.e.act.final, .int .i64 x18.e.rf, .int .i64 x18.e.id, .int .i64 x18.at_]) ow10 rfl hv46 rfl rfl (.inl rfl) rfl (L 0 rfl rfl) (L 5 rfl rfl) ti45 hx42 (by simp [topV]) rfl rfl rfl (full rfl) (fun H1 hs => (fun _ => (okH.cons (Or.inl rfl) (okH.cons (Or.inl rfl) (okH.nil (fun r h => nomatch h)))))) (fun V50 le51 ow52 => ?_)
  obtain ⟨x53, hx54, h55⟩ := bindS h43
  obtain ⟨_, hv56, _⟩ := ow52.osel (k := 0) rfl hv25 hx54
  refine U.p rfl rfl (.inl rfl) (S.index rfl ((L 10 rfl rfl).trans hv56) (L 9 rfl rfl) Try.underlying38 ti45 (ix_ge hx54) (ix_lt hx54)) ?_
  obtain ⟨cs57, hv58, hlt59, hr60, hc61⟩ := ow52.osel (k := 0) rfl hv25 hx54
  obtain rfl : cs57 = [.int .i64 x53.e.t, .int .i64 x53.e.act.kind, .int .i64 x53.e.act.at_, .int .i64 x53.e.act.val, .int .i64 x53.e.act.what, .bool x53.e.act.volatile, .bool x53.e.act.final, .int .i64 x53.e.rf, .int .i64 x53.e.id, .int .i64 x53.at_] := hr60
  refine O.storeE (k := 0) (R := RT_Tnd) (j := 0) (y := x32) (cs := [.int .i64 x32.e.t, .int .i64 x32.e.act.kind, .int .i64 x32.e.act.at_, .int .i64 x32.e.act.val, .int .i64 x32.e.act.what, .bool x32.e.act.volatile, .bool x32.e.act.final, .int .i64 x32.e.rf, .int .i64 x32.e.id, .int .i64 x32.at_]) ow52 rfl hv58 rfl rfl (.inl rfl) rfl (L 0 rfl rfl) (L 2 rfl rfl) ti45 hx54 (by simp [topV]) rfl rfl rfl (full rfl) (fun H1 hs => (fun _ => (okH.cons rfl (okH.cons (Or.inl rfl) (okH.cons (Or.inl rfl) (okH.nil (fun r h => nomatch h))))))) (fun V62 le63 ow64 => ?_)
  refine U.done (nr rfl) ?_
  refine WP.usreg rfl ?_
  refine U.p rfl rfl (.inl rfl) (S.move rfl (L 18 rfl rfl)) ?_
  refine U.p rfl rfl (.inl rfl) (S.add rfl (L 0 rfl rfl) K) ?_
  refine U.p rfl rfl (.inl rfl) (S.assign rfl (L 0 rfl rfl)) ?_
  refine U.done (nr rfl) ?_
  refine WP.ureg rfl ?_
  refine U.p rfl rfl (.inl rfl) (S.move rfl (L 22 rfl rfl)) ?_
  refine U.p rfl rfl (.inl rfl) (S.sub rfl (L 0 rfl rfl) K) ?_
  refine U.p rfl rfl (.inl rfl) (S.assign rfl (L 0 rfl rfl)) ?_
  refine U.done (nr rfl) ?_
  refine blkN (sqN ?_)
  exact ⟨_, V62, rfl, ⟨m11, Nat.lt_succ_self _, (xs3.set (Int.toNat x4) x18).set (Int.toNat x5) x32, w64 (x4 + 1), w64 (x5 - 1), rfl, ((le9.trans le51).trans le63), ow64, backS h55 e13⟩, (allCons (L 23 rfl rfl) (allCons (L 3 rfl rfl) (allCons (L 0 rfl rfl) allNil)))⟩
 ·have h65 := ifF c16 h15
  refine WP.exit ?_
  refine sqE (sqE (blkE ?_))
  have h66 := exitS h65 e13
  refine fin.slots' (.inl rfl) fsN rfl ⟨V8, rfl, le9, ?_⟩
  have e67 := Option.some.inj h66
  subst e67
  exact ow10
set_option maxHeartbeats 4000000 in
set_option maxRecDepth 10000 in
theorem wk_s_partialInsertionSort (V : Vw) (Rs : List At) (p0 : List Tnd) (p1 : Int) (p2 : Int) (v1 : Value) (ow : Ow V (.os RT_Tnd v1 p0 :: Rs)) (r : Bool × (List Tnd)) (h : s_partialInsertionSort p0 p1 p2 = some r) : ∃ v V', Cl Try.prog 0 66 #[v1, .int .i64 p1, .int .i64 p2, .func (.func 50) #[] #[]] V.H v V'.H ∧ V.le V' ∧ (v = .bool r.1 ∧ Ow V' (.os RT_Tnd v1 r.2 :: Rs)) := by
 refine Ct.of (Nat.zero_le _) Try.func66 rfl (nr rfl) ?_
 unfold s_partialInsertionSort at h
 refine WP.usreg rfl ?_
 refine U.p rfl rfl (.inl rfl) (S.assign rfl K) ?_
 refine U.done (nr rfl) ?_
 refine WP.usreg rfl ?_
 refine U.p rfl rfl (.inl rfl) (S.move rfl (L 2 rfl rfl)) ?_
 refine U.p rfl rfl (.inl rfl) (S.add rfl (L 0 rfl rfl) K) ?_
 refine U.p rfl rfl (.inl rfl) (S.assign rfl (L 0 rfl rfl)) ?_
 refine U.done (nr rfl) ?_
 refine WP.seq ?_
 refine WP.usreg rfl ?_
 refine U.p rfl rfl (.inl rfl) (S.assign rfl K) ?_
 refine U.done (nr rfl) ?_
 refine WP.blk ?_
 unfold s_partialInsertionSort_l1 at h
 obtain ⟨n7, hn6⟩ := loopO_some.1 h
 refine WP.loopI2 (fun n l V' => ∃ (xs3 : List Tnd) (x4 : Int) (x5 : Int), l = [(0, v1), (1, .int .i64 p1), (2, .int .i64 p2), (3, .func (.func 50) #[] #[]), (9, .int .i64 x4), (10, .int .i64 x5)] ∧ V.le V' ∧ Ow V' (.os RT_Tnd v1 xs3 :: Rs) ∧ itO (fun s => s_partialInsertionSort_l1b p1 p2 s.1 s.2.1 s.2.2) n (xs3, x4, x5) = some r) n7 _ ⟨p0, w64 (p1 + 1), 0, rfl, .refl _, ow, hn6⟩ (allCons (L 5 rfl rfl) (allCons (L 6 rfl rfl) (allCons (L 7 rfl rfl) (allCons (L 8 rfl rfl) (allCons (L 1 rfl rfl) (allCons (L 0 rfl rfl) allNil)))))) ?_
 rintro _ _ V8 ⟨xs3, x4, x5, rfl, le9, ow10, h14⟩
 obtain ⟨m11, q12, rfl, h15, e13⟩ := itS h14
 replace h15 : s_partialInsertionSort_l1b p1 p2 xs3 x4 x5 = some q12 := h15
 unfold s_partialInsertionSort_l1b at h15
 refine WP.seq ?_
 refine WP.usreg rfl ?_
 refine U.p rfl rfl (.inl rfl) (S.move rfl (L 5 rfl rfl)) ?_
 refine U.p rfl rfl (.inl rfl) (S.lss rfl (L 0 rfl rfl) K) ?_
 refine U.done (nr rfl) ?_
 refine WP.cond _ (L 0 rfl rfl) rfl (fun c16 => ?_) (fun c16 => ?_)
 ·have h17 := ifT c16 h15
  refine WP.skip ?_
  refine sqN ?_
  refine WP.seqI (fun l V' => ∃ (xs18 : List Tnd) (x19 : Int), l = [(0, v1), (1, .int .i64 p1), (2, .int .i64 p2), (3, .func (.func 50) #[] #[]), (9, .int .i64 x19), (10, .int .i64 x5)] ∧ V8.le V' ∧ Ow V' (.os RT_Tnd v1 xs18 :: Rs) ∧ s_partialInsertionSort_k1 x5 xs18 x19 = some q12) ?_ ?_
  ·rintro _ V20 ⟨xs18, x19, rfl, le21, ow22, h23⟩
   unfold s_partialInsertionSort_k1 at h23
   refine WP.ureg rfl ?_
   refine U.p rfl rfl (.inl rfl) (S.move rfl (L 5 rfl rfl)) ?_
   refine U.p rfl rfl (.inl rfl) (S.add rfl (L 0 rfl rfl) K) ?_
   refine U.p rfl rfl (.inl rfl) (S.assign rfl (L 0 rfl rfl)) ?_
   refine U.done (nr rfl) ?_
   refine sqN ?_
   exact ⟨_, V20, rfl, ⟨m11, Nat.lt_succ_self _, xs18, x19, w64 (x5 + 1), rfl, (le9.trans le21), ow22, backS h23 e13⟩, (allCons (L 3 rfl rfl) (allCons (L 4 rfl rfl) (allCons (L 5 rfl rfl) (allCons (L 6 rfl rfl) (allCons (L 7 rfl rfl) (allCons (L 0 rfl rfl) allNil))))))⟩
  ·skip
   refine WP.blk ?_
   refine WP.seq ?_
   refine WP.blk ?_
   unfold s_partialInsertionSort_l2 at h17
   obtain ⟨n26, hn25⟩ := loopO_some.1 h17
   refine WP.loopI2 (fun n l V' => ∃ (x24 : Int), l = [(0, v1), (1, .int .i64 p1), (2, .int .i64 p2), (3, .func (.func 50) #[] #[]), (9, .int .i64 x24), (10, .int .i64 x5)] ∧ V8.le V' ∧ Ow V' (.os RT_Tnd v1 xs3 :: Rs) ∧ itO (fun s => s_partialInsertionSort_l2b p1 p2 xs3 x5 s) n x24 = some q12) n26 _ ⟨x4, rfl, .refl _, ow10, hn25⟩ (allCons (L 2 rfl rfl) (allCons (L 3 rfl rfl) (allCons (L 4 rfl rfl) (allCons (L 5 rfl rfl) (allCons (L 6 rfl rfl) (allCons (L 7 rfl rfl) allNil)))))) ?_
   rintro _ _ V27 ⟨x24, rfl, le28, ow29, h33⟩
   obtain ⟨m30, q31, rfl, h34, e32⟩ := itS h33
   replace h34 : s_partialInsertionSort_l2b p1 p2 xs3 x5 x24 = some q31 := h34
   unfold s_partialInsertionSort_l2b at h34
   refine WP.seq ?_
   refine WP.seqI (fun l V' => ∃ (x35 : Bool), l = [(0, v1), (1, .int .i64 p1), (2, .int .i64 p2), (3, .func (.func 50) #[] #[]), (9, .int .i64 x24), (10, .int .i64 x5), (36, .bool x35)] ∧ V27.le V' ∧ Ow V' (.os RT_Tnd v1 xs3 :: Rs) ∧ s_partialInsertionSort_k2 p1 p2 xs3 x5 x24 x35 = some q31) ?_ ?_
   ·rintro _ V36 ⟨x35, rfl, le37, ow38, h39⟩
    unfold s_partialInsertionSort_k2 at h39
    refine WP.cond _ (L 6 rfl rfl) rfl (fun c40 => ?_) (fun c40 => ?_)
    ·have h41 := ifT c40 h39
     refine WP.skip ?_
     refine sqN ?_
     refine WP.blk ?_
     refine WP.ureg rfl ?_
     refine U.p rfl rfl (.inl rfl) (S.move rfl (L 4 rfl rfl)) ?_
     refine U.p rfl rfl (.inl rfl) (S.add rfl (L 0 rfl rfl) K) ?_
     refine U.p rfl rfl (.inl rfl) (S.assign rfl (L 0 rfl rfl)) ?_
     refine U.done (nr rfl) ?_
     refine blkN (sqN ?_)
     exact ⟨_, V36, rfl, ⟨m30, Nat.lt_succ_self _, w64 (x24 + 1), rfl, (le28.trans le37), ow38, backS h41 e32⟩, (allCons (L 3 rfl rfl) (allCons (L 4 rfl rfl) (allCons (L 5 rfl rfl) (allCons (L 6 rfl rfl) (allCons (L 0 rfl rfl) (allCons (L 8 rfl rfl) allNil))))))⟩
    ·have h42 := ifF c40 h39
     refine WP.exit ?_
     refine sqE (sqE (blkE (sqN ?_)))
     have h43 := exitS h42 e32
     refine WP.seq ?_
     refine WP.usreg rfl ?_
     refine U.p rfl rfl (.inl rfl) (S.move rfl (L 4 rfl rfl)) ?_
     refine U.p rfl rfl (.inl rfl) (S.move rfl (L 3 rfl rfl)) ?_
     refine U.p rfl rfl (.inl rfl) (S.eqlI rfl (L 1 rfl rfl) (L 0 rfl rfl)) ?_
     refine U.done (nr rfl) ?_
     refine WP.cond _ (L 0 rfl rfl) rfl (fun c44 => ?_) (fun c44 => ?_)
     ·have h45 := ifT c44 h43
      refine WP.usreg rfl ?_
      refine U.p rfl rfl (.inl rfl) (S.assign rfl K) ?_
      refine U.done (nr rfl) ?_
      refine WP.ret ?_
      refine sqR (blkR (sqR (sqR (blkR (sqR ?_)))))
      have h46 := exitS h45 e13
      refine fin.slot (.inr rfl) rfl (L 0 rfl rfl) ⟨V36, rfl, ((le9.trans le28).trans le37), ?_⟩
      have e47 := Option.some.inj h46
      subst e47
      exact ⟨rfl, ow38⟩
     ·have h48 := ifF c44 h43
      refine WP.skip ?_
      refine sqN ?_
      refine WP.seq ?_
      refine WP.usreg rfl ?_
      refine U.p rfl rfl (.inl rfl) (S.move rfl (L 5 rfl rfl)) ?_
      refine U.p rfl rfl (.inl rfl) (S.move rfl (L 5 rfl rfl)) ?_
      refine U.p rfl rfl (.inl rfl) (S.sub rfl (L 1 rfl rfl) (L 0 rfl rfl)) ?_
      refine U.p rfl rfl (.inl rfl) (S.lss rfl (L 0 rfl rfl) K) ?_
      refine U.done (nr rfl) ?_
      refine WP.cond _ (L 0 rfl rfl) rfl (fun c49 => ?_) (fun c49 => ?_)
      ·have h50 := ifT c49 h48
       refine WP.usreg rfl ?_
       refine U.p rfl rfl (.inl rfl) (S.assign rfl K) ?_
       refine U.done (nr rfl) ?_
       refine WP.ret ?_
       refine sqR (blkR (sqR (sqR (blkR (sqR ?_)))))
       have h51 := exitS h50 e13
       refine fin.slot (.inr rfl) rfl (L 0 rfl rfl) ⟨V36, rfl, ((le9.trans le28).trans le37), ?_⟩
       have e52 := Option.some.inj h51
       subst e52
       exact ⟨rfl, ow38⟩
      ·have h53 := ifF c49 h48
       refine WP.skip ?_
       refine sqN ?_
       refine WP.usdreg rfl rfl rfl ?_
       refine U.p rfl rfl (.inl rfl) (S.move rfl (L 7 rfl rfl)) ?_
       refine U.p rfl rfl (.inl rfl) (S.move rfl (L 12 rfl rfl)) ?_
       refine U.p rfl rfl (.inl rfl) (S.move rfl (L 9 rfl rfl)) ?_
       refine U.p rfl rfl (.inl rfl) (S.move rfl (L 14 rfl rfl)) ?_
       refine U.p rfl rfl (.inl rfl) (S.sub rfl (L 0 rfl rfl) K) ?_
       refine U.p rfl rfl (.inl rfl) (S.move rfl (L 12 rfl rfl)) ?_
       refine U.p rfl rfl (.inl rfl) (S.move rfl (L 17 rfl rfl)) ?_
       refine U.p rfl rfl (.inl rfl) (S.sub rfl (L 0 rfl rfl) K) ?_
       obtain ⟨x54, hx55, h56⟩ := bindS h53
       obtain ⟨b57, o58, n59, c60, hv61⟩ := ow38.ospt (k := 0) rfl hx55
       obtain ⟨_, hv62, _⟩ := ow38.osel (k := 0) rfl hv61 hx55
       refine U.p rfl rfl (.inl rfl) (S.index rfl ((L 2 rfl rfl).trans hv62) (L 0 rfl rfl) Try.underlying38 ti45 (ix_ge hx55) (ix_lt hx55)) ?_
       obtain ⟨cs63, hv64, hlt65, hr66, hc67⟩ := ow38.osel (k := 0) rfl hv61 hx55
       obtain rfl : cs63 = [.int .i64 x54.e.t, .int .i64 x54.e.act.kind, .int .i64 x54.e.act.at_, .int .i64 x54.e.act.val, .int .i64 x54.e.act.what, .bool x54.e.act.volatile, .bool x54.e.act.final, .int .i64 x54.e.rf, .int .i64 x54.e.id, .int .i64 x54.at_] := hr66
       refine U.k rfl rfl (.inl rfl) (S.loadN (cs := [.int .i64 x54.e.t, .int .i64 x54.e.act.kind, .int .i64 x54.e.act.at_, .int .i64 x54.e.act.val, .int .i64 x54.e.act.what, .bool x54.e.act.volatile, .bool x54.e.act.final, .int .i64 x54.e.rf, .int .i64 x54.e.id, .int .i64 x54.at_]) rfl (L 0 rfl rfl) Try.underlying45 rfl ti45 rfl hc67) (fun _ => (okH.nil (fun r h => by cases h; exact hlt65))) ?_
       refine U.p rfl rfl (.inl rfl) (S.move rfl (L 17 rfl rfl)) ?_
       refine U.p rfl rfl (.inl rfl) (S.move rfl (L 22 rfl rfl)) ?_
       obtain ⟨x68, hx69, h70⟩ := bindS h56
       obtain ⟨_, hv71, _⟩ := ow38.osel (k := 0) rfl hv61 hx69
       refine U.p rfl rfl (.inl rfl) (S.index rfl ((L 1 rfl rfl).trans hv71) (L 0 rfl rfl) Try.underlying38 ti45 (ix_ge hx69) (ix_lt hx69)) ?_
       obtain ⟨cs72, hv73, hlt74, hr75, hc76⟩ := ow38.osel (k := 0) rfl hv61 hx69
       obtain rfl : cs72 = [.int .i64 x68.e.t, .int .i64 x68.e.act.kind, .int .i64 x68.e.act.at_, .int .i64 x68.e.act.val, .int .i64 x68.e.act.what, .bool x68.e.act.volatile, .bool x68.e.act.final, .int .i64 x68.e.rf, .int .i64 x68.e.id, .int .i64 x68.at_] := hr75
       refine U.k rfl rfl (.inl rfl) (S.loadN (cs := [.int .i64 x68.e.t, .int .i64 x68.e.act.kind, .int .i64 x68.e.act.at_, .int .i64 x68.e.act.val, .int .i64 x68.e.act.what, .bool x68.e.act.volatile, .bool x68.e.act.final, .int .i64 x68.e.rf, .int .i64 x68.e.id, .int .i64 x68.at_]) rfl (L 0 rfl rfl) Try.underlying45 rfl ti45 rfl hc76) (fun _ => (okH.cons trivial (okH.nil (fun r h => by cases h; exact hlt74)))) ?_
       obtain ⟨x77, hx78, h79⟩ := bindS h70
       obtain ⟨_, hv80, _⟩ := ow38.osel (k := 0) rfl hv61 hx78
       refine U.p rfl rfl (.inl rfl) (S.index rfl ((L 13 rfl rfl).trans hv80) (L 12 rfl rfl) Try.underlying38 ti45 (ix_ge hx78) (ix_lt hx78)) ?_
       obtain ⟨cs81, hv82, hlt83, hr84, hc85⟩ := ow38.osel (k := 0) rfl hv61 hx78
       obtain rfl : cs81 = [.int .i64 x77.e.t, .int .i64 x77.e.act.kind, .int .i64 x77.e.act.at_, .int .i64 x77.e.act.val, .int .i64 x77.e.act.what, .bool x77.e.act.volatile, .bool x77.e.act.final, .int .i64 x77.e.rf, .int .i64 x77.e.id, .int .i64 x77.at_] := hr84
       refine O.storeE (k := 0) (R := RT_Tnd) (j := 0) (y := x54) (cs := [.int .i64 x54.e.t, .int .i64 x54.e.act.kind, .int .i64 x54.e.act.at_, .int .i64 x54.e.act.val, .int .i64 x54.e.act.what, .bool x54.e.act.volatile, .bool x54.e.act.final, .int .i64 x54.e.rf, .int .i64 x54.e.id, .int .i64 x54.at_]) ow38 rfl hv82 rfl rfl (.inl rfl) rfl (L 0 rfl rfl) (L 5 rfl rfl) ti45 hx78 (by simp [topV]) rfl rfl rfl (full rfl) (fun H1 hs => (fun _ => (okH.cons (Or.inl rfl) (okH.cons (Or.inl rfl) (okH.nil (fun r h => nomatch h)))))) (fun V86 le87 ow88 => ?_)
       obtain ⟨x89, hx90, h91⟩ := bindS h79
       obtain ⟨_, hv92, _⟩ := ow88.osel (k := 0) rfl hv61 hx90
       refine U.p rfl rfl (.inl rfl) (S.index rfl ((L 12 rfl rfl).trans hv92) (L 10 rfl rfl) Try.underlying38 ti45 (ix_ge hx90) (ix_lt hx90)) ?_
       obtain ⟨cs93, hv94, hlt95, hr96, hc97⟩ := ow88.osel (k := 0) rfl hv61 hx90
       obtain rfl : cs93 = [.int .i64 x89.e.t, .int .i64 x89.e.act.kind, .int .i64 x89.e.act.at_, .int .i64 x89.e.act.val, .int .i64 x89.e.act.what, .bool x89.e.act.volatile, .bool x89.e.act.final, .int .i64 x89.e.rf, .int .i64 x89.e.id, .int .i64 x89.at_] := hr96
       refine O.storeE (k := 0) (R := RT_Tnd) (j := 0) (y := x68) (cs := [.int .i64 x68.e.t, .int .i64 x68.e.act.kind, .int .i64 x68.e.act.at_, .int .i64 x68.e.act.val, .int .i64 x68.e.act.what, .bool x68.e.act.volatile, .bool x68.e.act.final, .int .i64 x68.e.rf, .int .i64 x68.e.id, .int .i64 x68.at_]) ow88 rfl hv94 rfl rfl (.inl rfl) rfl (L 0 rfl rfl) (L 2 rfl rfl) ti45 hx90 (by simp [topV]) rfl rfl rfl (full rfl) (fun H1 hs => (fun _ => (okH.cons rfl (okH.cons (Or.inl rfl) (okH.cons (Or.inl rfl) (okH.nil (fun r h => nomatch h))))))) (fun V98 le99 ow100 => ?_)
       refine U.done (nr rfl) ?_
       refine WP.seqI (fun l V' => ∃ (xs101 : List Tnd), l = [(0, v1), (1, .int .i64 p1), (2, .int .i64 p2), (3, .func (.func 50) #[] #[]), (9, .int .i64 x24), (10, .int .i64 x5)] ∧ V98.le V' ∧ Ow V' (.os RT_Tnd v1 xs101 :: Rs) ∧ s_partialInsertionSort_k3 p2 x5 x24 xs101 = some q12) ?_ ?_
       ·rintro _ V102 ⟨xs101, rfl, le103, ow104, h105⟩
        unfold s_partialInsertionSort_k3 at h105
        refine WP.usreg rfl ?_
        refine U.p rfl rfl (.inl rfl) (S.move rfl (L 2 rfl rfl)) ?_
        refine U.p rfl rfl (.inl rfl) (S.move rfl (L 5 rfl rfl)) ?_
        refine U.p rfl rfl (.inl rfl) (S.sub rfl (L 1 rfl rfl) (L 0 rfl rfl)) ?_
        refine U.p rfl rfl (.inl rfl) (S.geq rfl (L 0 rfl rfl) K) ?_
        refine U.done (nr rfl) ?_
        refine WP.cond _ (L 0 rfl rfl) rfl (fun c106 => ?_) (fun c106 => ?_)
        ·have h107 := ifT c106 h105
         refine WP.usreg rfl ?_
         refine U.p rfl rfl (.inl rfl) (S.move rfl (L 8 rfl rfl)) ?_
         refine U.p rfl rfl (.inl rfl) (S.add rfl (L 0 rfl rfl) K) ?_
         refine U.p rfl rfl (.inl rfl) (S.assign rfl (L 0 rfl rfl)) ?_
         refine U.done (nr rfl) ?_
         refine WP.blk ?_
         unfold s_partialInsertionSort_l3 at h107
         obtain ⟨n111, hn110⟩ := loopO_some.1 h107
         refine WP.loopI2 (fun n l V' => ∃ (xs108 : List Tnd) (x109 : Int), l = [(0, v1), (1, .int .i64 p1), (2, .int .i64 p2), (3, .func (.func 50) #[] #[]), (9, .int .i64 x24), (10, .int .i64 x5), (12, .int .i64 x109)] ∧ V102.le V' ∧ Ow V' (.os RT_Tnd v1 xs108 :: Rs) ∧ itO (fun s => s_partialInsertionSort_l3b p2 x5 x24 s.1 s.2) n (xs108, x109) = some q12) n111 _ ⟨xs101, w64 (x24 + 1), rfl, .refl _, ow104, hn110⟩ (allCons (L 7 rfl rfl) (allCons (L 8 rfl rfl) (allCons (L 9 rfl rfl) (allCons (L 10 rfl rfl) (allCons (L 11 rfl rfl) (allCons (L 12 rfl rfl) (allCons (L 0 rfl rfl) allNil))))))) ?_
         rintro _ _ V112 ⟨xs108, x109, rfl, le113, ow114, h118⟩
         obtain ⟨m115, q116, rfl, h119, e117⟩ := itS h118
         replace h119 : s_partialInsertionSort_l3b p2 x5 x24 xs108 x109 = some q116 := h119
         unfold s_partialInsertionSort_l3b at h119
         refine WP.seq ?_
         refine WP.usreg rfl ?_
         refine U.p rfl rfl (.inl rfl) (S.move rfl (L 6 rfl rfl)) ?_
         refine U.p rfl rfl (.inl rfl) (S.move rfl (L 3 rfl rfl)) ?_
         refine U.p rfl rfl (.inl rfl) (S.lss rfl (L 1 rfl rfl) (L 0 rfl rfl)) ?_
         refine U.done (nr rfl) ?_
         refine WP.cond _ (L 0 rfl rfl) rfl (fun c120 => ?_) (fun c120 => ?_)
         ·have h121 := ifT c120 h119
          refine WP.skip ?_
          refine sqN ?_
          refine WP.seq ?_
          refine WP.blk ?_
          refine WP.seq ?_
          refine WP.usdreg rfl rfl rfl ?_
          refine U.p rfl rfl (.inl rfl) (S.move rfl (L 6 rfl rfl)) ?_
          refine U.p rfl rfl (.inl rfl) (S.move rfl (L 4 rfl rfl)) ?_
          refine U.p rfl rfl (.inl rfl) (S.move rfl (L 11 rfl rfl)) ?_
          obtain ⟨x122, hx123, h124⟩ := bindS h121
          obtain ⟨_, hv125, _⟩ := ow114.osel (k := 0) rfl hv61 hx123
          refine U.p rfl rfl (.inl rfl) (S.index rfl ((L 1 rfl rfl).trans hv125) (L 0 rfl rfl) Try.underlying38 ti45 (ix_ge hx123) (ix_lt hx123)) ?_
          obtain ⟨cs126, hv127, hlt128, hr129, hc130⟩ := ow114.osel (k := 0) rfl hv61 hx123
          obtain rfl : cs126 = [.int .i64 x122.e.t, .int .i64 x122.e.act.kind, .int .i64 x122.e.act.at_, .int .i64 x122.e.act.val, .int .i64 x122.e.act.what, .bool x122.e.act.volatile, .bool x122.e.act.final, .int .i64 x122.e.rf, .int .i64 x122.e.id, .int .i64 x122.at_] := hr129
          refine U.k rfl rfl (.inl rfl) (S.loadN (cs := [.int .i64 x122.e.t, .int .i64 x122.e.act.kind, .int .i64 x122.e.act.at_, .int .i64 x122.e.act.val, .int .i64 x122.e.act.what, .bool x122.e.act.volatile, .bool x122.e.act.final, .int .i64 x122.e.rf, .int .i64 x122.e.id, .int .i64 x122.at_]) rfl (L 0 rfl rfl) Try.underlying45 rfl ti45 rfl hc130) (fun _ => (okH.nil (fun r h => by cases h; exact hlt128))) ?_
          refine U.p rfl rfl (.inl rfl) (S.move rfl (L 8 rfl rfl)) ?_
          refine U.p rfl rfl (.inl rfl) (S.move rfl (L 15 rfl rfl)) ?_
          refine U.p rfl rfl (.inl rfl) (S.sub rfl (L 0 rfl rfl) K) ?_
          obtain ⟨x131, hx132, h133⟩ := bindS h124
          obtain ⟨_, hv134, _⟩ := ow114.osel (k := 0) rfl hv61 hx132
          refine U.p rfl rfl (.inl rfl) (S.index rfl ((L 2 rfl rfl).trans hv134) (L 0 rfl rfl) Try.underlying38 ti45 (ix_ge hx132) (ix_lt hx132)) ?_
          obtain ⟨cs135, hv136, hlt137, hr138, hc139⟩ := ow114.osel (k := 0) rfl hv61 hx132
          obtain rfl : cs135 = [.int .i64 x131.e.t, .int .i64 x131.e.act.kind, .int .i64 x131.e.act.at_, .int .i64 x131.e.act.val, .int .i64 x131.e.act.what, .bool x131.e.act.volatile, .bool x131.e.act.final, .int .i64 x131.e.rf, .int .i64 x131.e.id, .int .i64 x131.at_] := hr138
          refine U.k rfl rfl (.inl rfl) (S.loadN (cs := [.int .i64 x131.e.t, .int .i64 x131.e.act.kind, .int .i64 x131.e.act.at_, .int .i64 x131.e.act.val, .int .i64 x131.e.act.what, .bool x131.e.act.volatile, .bool x131.e.act.final, .int .i64 x131.e.rf, .int .i64 x131.e.id, .int .i64 x131.at_]) rfl (L 0 rfl rfl) Try.underlying45 rfl ti45 rfl hc139) (fun _ => (okH.cons trivial (okH.nil (fun r h => by cases h; exact hlt137)))) ?_
          obtain ⟨x140, hx141, h142⟩ := bindS h133
          refine O.callv (V := V112) rfl rfl (.inl rfl) rfl (L 9 rfl rfl) en50 (aC (L 5 rfl rfl) (aC (L 0 rfl rfl) aN)) (wk_order_Run_Apart_c2 V112 _ x122 x131 ow114 _ hx141) (fun v143 V144 le145 hp146 => by obtain ⟨rfl, ow147⟩ := hp146; exact (fun _ => (okH.cons (Or.inl rfl) (okH.cons (Or.inl rfl) (okH.nil (fun r h => nomatch h)))))) (fun v143 V144 le145 hp146 => ?_)
          obtain ⟨rfl, ow147⟩ := hp146
          refine U.p rfl rfl (.inl rfl) (S.lss rfl (L 0 rfl rfl) K) ?_
          refine U.p rfl rfl (.inl rfl) (S.not rfl (L 0 rfl rfl)) ?_
          refine U.done (nr rfl) ?_
          refine WP.cond _ (L 0 rfl rfl) rfl (fun c148 => ?_) (fun c148 => ?_)
          ·have h149 := ifT c148 h142
           have k150 : (decide (x140 < 0)) = false := by simpa using c148
           refine WP.exit ?_
           refine sqE (blkO rfl (sqE (sqE (blkE (blkN (sqN ?_))))))
           have h151 := exitS h149 e117
           exact ⟨_, V144, rfl, ⟨xs108, x24, rfl, ((((((le28.trans le37).trans le87).trans le99).trans le103).trans le113).trans le145), ow147, h151⟩, (allCons (L 16 rfl rfl) (allCons (L 17 rfl rfl) (allCons (L 18 rfl rfl) (allCons (L 19 rfl rfl) (allCons (L 20 rfl rfl) (allCons (L 21 rfl rfl) allNil))))))⟩
          ·have h152 := ifF c148 h142
           have k153 : (decide (x140 < 0)) = true := by simpa using c148
           refine WP.skip ?_
           refine sqN ?_
           refine WP.udreg rfl rfl rfl ?_
           refine U.p rfl rfl (.inl rfl) (S.move rfl (L 16 rfl rfl)) ?_
           refine U.p rfl rfl (.inl rfl) (S.move rfl (L 23 rfl rfl)) ?_
           refine U.p rfl rfl (.inl rfl) (S.move rfl (L 18 rfl rfl)) ?_
           refine U.p rfl rfl (.inl rfl) (S.move rfl (L 25 rfl rfl)) ?_
           refine U.p rfl rfl (.inl rfl) (S.sub rfl (L 0 rfl rfl) K) ?_
           refine U.p rfl rfl (.inl rfl) (S.move rfl (L 21 rfl rfl)) ?_
           refine U.p rfl rfl (.inl rfl) (S.move rfl (L 28 rfl rfl)) ?_
           refine U.p rfl rfl (.inl rfl) (S.sub rfl (L 0 rfl rfl) K) ?_
           obtain ⟨x154, hx155, h156⟩ := bindS h152
           obtain ⟨_, hv157, _⟩ := ow147.osel (k := 0) rfl hv61 hx155
           refine U.p rfl rfl (.inl rfl) (S.index rfl ((L 2 rfl rfl).trans hv157) (L 0 rfl rfl) Try.underlying38 ti45 (ix_ge hx155) (ix_lt hx155)) ?_
           obtain ⟨cs158, hv159, hlt160, hr161, hc162⟩ := ow147.osel (k := 0) rfl hv61 hx155
           obtain rfl : cs158 = [.int .i64 x154.e.t, .int .i64 x154.e.act.kind, .int .i64 x154.e.act.at_, .int .i64 x154.e.act.val, .int .i64 x154.e.act.what, .bool x154.e.act.volatile, .bool x154.e.act.final, .int .i64 x154.e.rf, .int .i64 x154.e.id, .int .i64 x154.at_] := hr161
           refine U.k rfl rfl (.inl rfl) (S.loadN (cs := [.int .i64 x154.e.t, .int .i64 x154.e.act.kind, .int .i64 x154.e.act.at_, .int .i64 x154.e.act.val, .int .i64 x154.e.act.what, .bool x154.e.act.volatile, .bool x154.e.act.final, .int .i64 x154.e.rf, .int .i64 x154.e.id, .int .i64 x154.at_]) rfl (L 0 rfl rfl) Try.underlying45 rfl ti45 rfl hc162) (fun _ => (okH.nil (fun r h => by cases h; exact hlt160))) ?_
           refine U.p rfl rfl (.inl rfl) (S.move rfl (L 26 rfl rfl)) ?_
           refine U.p rfl rfl (.inl rfl) (S.move rfl (L 33 rfl rfl)) ?_
           obtain ⟨x163, hx164, h165⟩ := bindS h156
           obtain ⟨_, hv166, _⟩ := ow147.osel (k := 0) rfl hv61 hx164
           refine U.p rfl rfl (.inl rfl) (S.index rfl ((L 1 rfl rfl).trans hv166) (L 0 rfl rfl) Try.underlying38 ti45 (ix_ge hx164) (ix_lt hx164)) ?_
           obtain ⟨cs167, hv168, hlt169, hr170, hc171⟩ := ow147.osel (k := 0) rfl hv61 hx164
           obtain rfl : cs167 = [.int .i64 x163.e.t, .int .i64 x163.e.act.kind, .int .i64 x163.e.act.at_, .int .i64 x163.e.act.val, .int .i64 x163.e.act.what, .bool x163.e.act.volatile, .bool x163.e.act.final, .int .i64 x163.e.rf, .int .i64 x163.e.id, .int .i64 x163.at_] := hr170
           refine U.k rfl rfl (.inl rfl) (S.loadN (cs := [.int .i64 x163.e.t, .int .i64 x163.e.act.kind, .int .i64 x163.e.act.at_, .int .i64 x163.e.act.val, .int .i64 x163.e.act.what, .bool x163.e.act.volatile, .bool x163.e.act.final, .int .i64 x163.e.rf, .int .i64 x163.e.id, .int .i64 x163.at_]) rfl (L 0 rfl rfl) Try.underlying45 rfl ti45 rfl hc171) (fun _ => (okH.cons trivial (okH.nil (fun r h => by cases h; exact hlt169)))) ?_
           obtain ⟨x172, hx173, h174⟩ := bindS h165
           obtain ⟨_, hv175, _⟩ := ow147.osel (k := 0) rfl hv61 hx173
           refine U.p rfl rfl (.inl rfl) (S.index rfl ((L 13 rfl rfl).trans hv175) (L 12 rfl rfl) Try.underlying38 ti45 (ix_ge hx173) (ix_lt hx173)) ?_
           obtain ⟨cs176, hv177, hlt178, hr179, hc180⟩ := ow147.osel (k := 0) rfl hv61 hx173
           obtain rfl : cs176 = [.int .i64 x172.e.t, .int .i64 x172.e.act.kind, .int .i64 x172.e.act.at_, .int .i64 x172.e.act.val, .int .i64 x172.e.act.what, .bool x172.e.act.volatile, .bool x172.e.act.final, .int .i64 x172.e.rf, .int .i64 x172.e.id, .int .i64 x172.at_] := hr179
           refine O.storeE (k := 0) (R := RT_Tnd) (j := 0) (y := x154) (cs := [.int .i64 x154.e.t, .int .i64 x154.e.act.kind, .int .i64 x154.e.act.at_, .int .i64 x154.e.act.val, .int .i64 x154.e.act.what, .bool x154.e.act.volatile, .bool x154.e.act.final, .int .i64 x154.e.rf, .int .i64 x154.e.id, .int .i64 x154.at_]) ow147 rfl hv177 rfl rfl (.inl rfl) rfl (L 0 rfl rfl) (L 5 rfl rfl) ti45 hx173 (by simp [topV]) rfl rfl rfl (full rfl) (fun H1 hs => (fun _ => (okH.cons (Or.inl rfl) (okH.cons (Or.inl rfl) (okH.nil (fun r h => nomatch h)))))) (fun V181 le182 ow183 => ?_)
           obtain ⟨x184, hx185, h186⟩ := bindS h174
           obtain ⟨_, hv187, _⟩ := ow183.osel (k := 0) rfl hv61 hx185
           refine U.p rfl rfl (.inl rfl) (S.index rfl ((L 12 rfl rfl).trans hv187) (L 10 rfl rfl) Try.underlying38 ti45 (ix_ge hx185) (ix_lt hx185)) ?_
           obtain ⟨cs188, hv189, hlt190, hr191, hc192⟩ := ow183.osel (k := 0) rfl hv61 hx185
           obtain rfl : cs188 = [.int .i64 x184.e.t, .int .i64 x184.e.act.kind, .int .i64 x184.e.act.at_, .int .i64 x184.e.act.val, .int .i64 x184.e.act.what, .bool x184.e.act.volatile, .bool x184.e.act.final, .int .i64 x184.e.rf, .int .i64 x184.e.id, .int .i64 x184.at_] := hr191
           refine O.storeE (k := 0) (R := RT_Tnd) (j := 0) (y := x163) (cs := [.int .i64 x163.e.t, .int .i64 x163.e.act.kind, .int .i64 x163.e.act.at_, .int .i64 x163.e.act.val, .int .i64 x163.e.act.what, .bool x163.e.act.volatile, .bool x163.e.act.final, .int .i64 x163.e.rf, .int .i64 x163.e.id, .int .i64 x163.at_]) ow183 rfl hv189 rfl rfl (.inl rfl) rfl (L 0 rfl rfl) (L 2 rfl rfl) ti45 hx185 (by simp [topV]) rfl rfl rfl (full rfl) (fun H1 hs => (fun _ => (okH.cons rfl (okH.cons (Or.inl rfl) (okH.cons (Or.inl rfl) (okH.nil (fun r h => nomatch h))))))) (fun V193 le194 ow195 => ?_)
           refine U.done (nr rfl) ?_
           refine blkN (sqN ?_)
           refine WP.ureg rfl ?_
           refine U.p rfl rfl (.inl rfl) (S.move rfl (L 38 rfl rfl)) ?_
           refine U.p rfl rfl (.inl rfl) (S.add rfl (L 0 rfl rfl) K) ?_
           refine U.p rfl rfl (.inl rfl) (S.assign rfl (L 0 rfl rfl)) ?_
           refine U.done (nr rfl) ?_
           refine sqN ?_
           exact ⟨_, V193, rfl, ⟨m115, Nat.lt_succ_self _, (xs108.set (Int.toNat x109) x154).set (Int.toNat (w64 (x109 - 1))) x163, w64 (x109 + 1), rfl, (((le113.trans le145).trans le182).trans le194), ow195, backS h186 e117⟩, (allCons (L 35 rfl rfl) (allCons (L 36 rfl rfl) (allCons (L 37 rfl rfl) (allCons (L 38 rfl rfl) (allCons (L 39 rfl rfl) (allCons (L 40 rfl rfl) (allCons (L 0 rfl rfl) allNil)))))))⟩
         ·have h196 := ifF c120 h119
          refine WP.exit ?_
          refine sqE (sqE (blkE (blkN (sqN ?_))))
          have h197 := exitS h196 e117
          exact ⟨_, V112, rfl, ⟨xs108, x24, rfl, (((((le28.trans le37).trans le87).trans le99).trans le103).trans le113), ow114, h197⟩, (allCons (L 3 rfl rfl) (allCons (L 4 rfl rfl) (allCons (L 5 rfl rfl) (allCons (L 6 rfl rfl) (allCons (L 7 rfl rfl) (allCons (L 8 rfl rfl) allNil))))))⟩
        ·have h198 := ifF c106 h105
         refine WP.skip ?_
         refine blkN (sqN ?_)
         exact ⟨_, V102, rfl, ⟨xs101, x24, rfl, ((((le28.trans le37).trans le87).trans le99).trans le103), ow104, h198⟩, (allCons (L 4 rfl rfl) (allCons (L 5 rfl rfl) (allCons (L 6 rfl rfl) (allCons (L 7 rfl rfl) (allCons (L 8 rfl rfl) (allCons (L 9 rfl rfl) allNil))))))⟩
       ·skip
        refine WP.usreg rfl ?_
        refine U.p rfl rfl (.inl rfl) (S.move rfl (L 27 rfl rfl)) ?_
        refine U.p rfl rfl (.inl rfl) (S.move rfl (L 25 rfl rfl)) ?_
        refine U.p rfl rfl (.inl rfl) (S.sub rfl (L 1 rfl rfl) (L 0 rfl rfl)) ?_
        refine U.p rfl rfl (.inl rfl) (S.geq rfl (L 0 rfl rfl) K) ?_
        refine U.done (nr rfl) ?_
        refine WP.cond _ (L 0 rfl rfl) rfl (fun c199 => ?_) (fun c199 => ?_)
        ·have h200 := ifT c199 h91
         refine WP.usreg rfl ?_
         refine U.p rfl rfl (.inl rfl) (S.move rfl (L 31 rfl rfl)) ?_
         refine U.p rfl rfl (.inl rfl) (S.sub rfl (L 0 rfl rfl) K) ?_
         refine U.p rfl rfl (.inl rfl) (S.assign rfl (L 0 rfl rfl)) ?_
         refine U.done (nr rfl) ?_
         refine WP.blk ?_
         unfold s_partialInsertionSort_l4 at h200
         obtain ⟨n204, hn203⟩ := loopO_some.1 h200
         refine WP.loopI2 (fun n l V' => ∃ (xs201 : List Tnd) (x202 : Int), l = [(0, v1), (1, .int .i64 p1), (2, .int .i64 p2), (3, .func (.func 50) #[] #[]), (9, .int .i64 x24), (10, .int .i64 x5), (11, .int .i64 x202)] ∧ V98.le V' ∧ Ow V' (.os RT_Tnd v1 xs201 :: Rs) ∧ itO (fun s => s_partialInsertionSort_l4b p2 x5 x24 s.1 s.2) n (xs201, x202) = some q12) n204 _ ⟨(xs3.set (Int.toNat x24) x54).set (Int.toNat (w64 (x24 - 1))) x68, w64 (x24 - 1), rfl, .refl _, ow100, hn203⟩ (allCons (L 30 rfl rfl) (allCons (L 31 rfl rfl) (allCons (L 32 rfl rfl) (allCons (L 33 rfl rfl) (allCons (L 34 rfl rfl) (allCons (L 35 rfl rfl) (allCons (L 0 rfl rfl) allNil))))))) ?_
         rintro _ _ V205 ⟨xs201, x202, rfl, le206, ow207, h211⟩
         obtain ⟨m208, q209, rfl, h212, e210⟩ := itS h211
         replace h212 : s_partialInsertionSort_l4b p2 x5 x24 xs201 x202 = some q209 := h212
         unfold s_partialInsertionSort_l4b at h212
         refine WP.seq ?_
         refine WP.usreg rfl ?_
         refine U.p rfl rfl (.inl rfl) (S.move rfl (L 6 rfl rfl)) ?_
         refine U.p rfl rfl (.inl rfl) (S.geq rfl (L 0 rfl rfl) K) ?_
         refine U.done (nr rfl) ?_
         refine WP.cond _ (L 0 rfl rfl) rfl (fun c213 => ?_) (fun c213 => ?_)
         ·have h214 := ifT c213 h212
          refine WP.skip ?_
          refine sqN ?_
          refine WP.seq ?_
          refine WP.blk ?_
          refine WP.seq ?_
          refine WP.usdreg rfl rfl rfl ?_
          refine U.p rfl rfl (.inl rfl) (S.move rfl (L 5 rfl rfl)) ?_
          refine U.p rfl rfl (.inl rfl) (S.move rfl (L 3 rfl rfl)) ?_
          refine U.p rfl rfl (.inl rfl) (S.move rfl (L 10 rfl rfl)) ?_
          obtain ⟨x215, hx216, h217⟩ := bindS h214
          obtain ⟨_, hv218, _⟩ := ow207.osel (k := 0) rfl hv61 hx216
          refine U.p rfl rfl (.inl rfl) (S.index rfl ((L 1 rfl rfl).trans hv218) (L 0 rfl rfl) Try.underlying38 ti45 (ix_ge hx216) (ix_lt hx216)) ?_
          obtain ⟨cs219, hv220, hlt221, hr222, hc223⟩ := ow207.osel (k := 0) rfl hv61 hx216
          obtain rfl : cs219 = [.int .i64 x215.e.t, .int .i64 x215.e.act.kind, .int .i64 x215.e.act.at_, .int .i64 x215.e.act.val, .int .i64 x215.e.act.what, .bool x215.e.act.volatile, .bool x215.e.act.final, .int .i64 x215.e.rf, .int .i64 x215.e.id, .int .i64 x215.at_] := hr222
          refine U.k rfl rfl (.inl rfl) (S.loadN (cs := [.int .i64 x215.e.t, .int .i64 x215.e.act.kind, .int .i64 x215.e.act.at_, .int .i64 x215.e.act.val, .int .i64 x215.e.act.what, .bool x215.e.act.volatile, .bool x215.e.act.final, .int .i64 x215.e.rf, .int .i64 x215.e.id, .int .i64 x215.at_]) rfl (L 0 rfl rfl) Try.underlying45 rfl ti45 rfl hc223) (fun _ => (okH.nil (fun r h => by cases h; exact hlt221))) ?_
          refine U.p rfl rfl (.inl rfl) (S.move rfl (L 7 rfl rfl)) ?_
          refine U.p rfl rfl (.inl rfl) (S.move rfl (L 14 rfl rfl)) ?_
          refine U.p rfl rfl (.inl rfl) (S.sub rfl (L 0 rfl rfl) K) ?_
          obtain ⟨x224, hx225, h226⟩ := bindS h217
          obtain ⟨_, hv227, _⟩ := ow207.osel (k := 0) rfl hv61 hx225
          refine U.p rfl rfl (.inl rfl) (S.index rfl ((L 2 rfl rfl).trans hv227) (L 0 rfl rfl) Try.underlying38 ti45 (ix_ge hx225) (ix_lt hx225)) ?_
          obtain ⟨cs228, hv229, hlt230, hr231, hc232⟩ := ow207.osel (k := 0) rfl hv61 hx225
          obtain rfl : cs228 = [.int .i64 x224.e.t, .int .i64 x224.e.act.kind, .int .i64 x224.e.act.at_, .int .i64 x224.e.act.val, .int .i64 x224.e.act.what, .bool x224.e.act.volatile, .bool x224.e.act.final, .int .i64 x224.e.rf, .int .i64 x224.e.id, .int .i64 x224.at_] := hr231
          refine U.k rfl rfl (.inl rfl) (S.loadN (cs := [.int .i64 x224.e.t, .int .i64 x224.e.act.kind, .int .i64 x224.e.act.at_, .int .i64 x224.e.act.val, .int .i64 x224.e.act.what, .bool x224.e.act.volatile, .bool x224.e.act.final, .int .i64 x224.e.rf, .int .i64 x224.e.id, .int .i64 x224.at_]) rfl (L 0 rfl rfl) Try.underlying45 rfl ti45 rfl hc232) (fun _ => (okH.cons trivial (okH.nil (fun r h => by cases h; exact hlt230)))) ?_
          obtain ⟨x233, hx234, h235⟩ := bindS h226
          refine O.callv (V := V205) rfl rfl (.inl rfl) rfl (L 9 rfl rfl) en50 (aC (L 5 rfl rfl) (aC (L 0 rfl rfl) aN)) (wk_order_Run_Apart_c2 V205 _ x215 x224 ow207 _ hx234) (fun v236 V237 le238 hp239 => by obtain ⟨rfl, ow240⟩ := hp239; exact (fun _ => (okH.cons (Or.inl rfl) (okH.cons (Or.inl rfl) (okH.nil (fun r h => nomatch h)))))) (fun v236 V237 le238 hp239 => ?_)
          obtain ⟨rfl, ow240⟩ := hp239
          refine U.p rfl rfl (.inl rfl) (S.lss rfl (L 0 rfl rfl) K) ?_
          refine U.p rfl rfl (.inl rfl) (S.not rfl (L 0 rfl rfl)) ?_
          refine U.done (nr rfl) ?_
          refine WP.cond _ (L 0 rfl rfl) rfl (fun c241 => ?_) (fun c241 => ?_)
          ·have h242 := ifT c241 h235
           have k243 : (decide (x233 < 0)) = false := by simpa using c241
           refine WP.exit ?_
           refine sqE (blkO rfl (sqE (sqE (blkE (sqN ?_)))))
           have h244 := exitS h242 e210
           exact ⟨_, V237, rfl, ⟨xs201, rfl, (le206.trans le238), ow240, h244⟩, (allCons (L 15 rfl rfl) (allCons (L 16 rfl rfl) (allCons (L 17 rfl rfl) (allCons (L 18 rfl rfl) (allCons (L 19 rfl rfl) (allCons (L 20 rfl rfl) allNil))))))⟩
          ·have h245 := ifF c241 h235
           have k246 : (decide (x233 < 0)) = true := by simpa using c241
           refine WP.skip ?_
           refine sqN ?_
           refine WP.udreg rfl rfl rfl ?_
           refine U.p rfl rfl (.inl rfl) (S.move rfl (L 15 rfl rfl)) ?_
           refine U.p rfl rfl (.inl rfl) (S.move rfl (L 22 rfl rfl)) ?_
           refine U.p rfl rfl (.inl rfl) (S.move rfl (L 17 rfl rfl)) ?_
           refine U.p rfl rfl (.inl rfl) (S.move rfl (L 24 rfl rfl)) ?_
           refine U.p rfl rfl (.inl rfl) (S.sub rfl (L 0 rfl rfl) K) ?_
           refine U.p rfl rfl (.inl rfl) (S.move rfl (L 20 rfl rfl)) ?_
           refine U.p rfl rfl (.inl rfl) (S.move rfl (L 27 rfl rfl)) ?_
           refine U.p rfl rfl (.inl rfl) (S.sub rfl (L 0 rfl rfl) K) ?_
           obtain ⟨x247, hx248, h249⟩ := bindS h245
           obtain ⟨_, hv250, _⟩ := ow240.osel (k := 0) rfl hv61 hx248
           refine U.p rfl rfl (.inl rfl) (S.index rfl ((L 2 rfl rfl).trans hv250) (L 0 rfl rfl) Try.underlying38 ti45 (ix_ge hx248) (ix_lt hx248)) ?_
           obtain ⟨cs251, hv252, hlt253, hr254, hc255⟩ := ow240.osel (k := 0) rfl hv61 hx248
           obtain rfl : cs251 = [.int .i64 x247.e.t, .int .i64 x247.e.act.kind, .int .i64 x247.e.act.at_, .int .i64 x247.e.act.val, .int .i64 x247.e.act.what, .bool x247.e.act.volatile, .bool x247.e.act.final, .int .i64 x247.e.rf, .int .i64 x247.e.id, .int .i64 x247.at_] := hr254
           refine U.k rfl rfl (.inl rfl) (S.loadN (cs := [.int .i64 x247.e.t, .int .i64 x247.e.act.kind, .int .i64 x247.e.act.at_, .int .i64 x247.e.act.val, .int .i64 x247.e.act.what, .bool x247.e.act.volatile, .bool x247.e.act.final, .int .i64 x247.e.rf, .int .i64 x247.e.id, .int .i64 x247.at_]) rfl (L 0 rfl rfl) Try.underlying45 rfl ti45 rfl hc255) (fun _ => (okH.nil (fun r h => by cases h; exact hlt253))) ?_
           refine U.p rfl rfl (.inl rfl) (S.move rfl (L 25 rfl rfl)) ?_
           refine U.p rfl rfl (.inl rfl) (S.move rfl (L 32 rfl rfl)) ?_
           obtain ⟨x256, hx257, h258⟩ := bindS h249
           obtain ⟨_, hv259, _⟩ := ow240.osel (k := 0) rfl hv61 hx257
           refine U.p rfl rfl (.inl rfl) (S.index rfl ((L 1 rfl rfl).trans hv259) (L 0 rfl rfl) Try.underlying38 ti45 (ix_ge hx257) (ix_lt hx257)) ?_
           obtain ⟨cs260, hv261, hlt262, hr263, hc264⟩ := ow240.osel (k := 0) rfl hv61 hx257
           obtain rfl : cs260 = [.int .i64 x256.e.t, .int .i64 x256.e.act.kind, .int .i64 x256.e.act.at_, .int .i64 x256.e.act.val, .int .i64 x256.e.act.what, .bool x256.e.act.volatile, .bool x256.e.act.final, .int .i64 x256.e.rf, .int .i64 x256.e.id, .int .i64 x256.at_] := hr263
           refine U.k rfl rfl (.inl rfl) (S.loadN (cs := [.int .i64 x256.e.t, .int .i64 x256.e.act.kind, .int .i64 x256.e.act.at_, .int .i64 x256.e.act.val, .int .i64 x256.e.act.what, .bool x256.e.act.volatile, .bool x256.e.act.final, .int .i64 x256.e.rf, .int .i64 x256.e.id, .int .i64 x256.at_]) rfl (L 0 rfl rfl) Try.underlying45 rfl ti45 rfl hc264) (fun _ => (okH.cons trivial (okH.nil (fun r h => by cases h; exact hlt262)))) ?_
           obtain ⟨x265, hx266, h267⟩ := bindS h258
           obtain ⟨_, hv268, _⟩ := ow240.osel (k := 0) rfl hv61 hx266
           refine U.p rfl rfl (.inl rfl) (S.index rfl ((L 13 rfl rfl).trans hv268) (L 12 rfl rfl) Try.underlying38 ti45 (ix_ge hx266) (ix_lt hx266)) ?_
           obtain ⟨cs269, hv270, hlt271, hr272, hc273⟩ := ow240.osel (k := 0) rfl hv61 hx266
           obtain rfl : cs269 = [.int .i64 x265.e.t, .int .i64 x265.e.act.kind, .int .i64 x265.e.act.at_, .int .i64 x265.e.act.val, .int .i64 x265.e.act.what, .bool x265.e.act.volatile, .bool x265.e.act.final, .int .i64 x265.e.rf, .int .i64 x265.e.id, .int .i64 x265.at_] := hr272
           refine O.storeE (k := 0) (R := RT_Tnd) (j := 0) (y := x247) (cs := [.int .i64 x247.e.t, .int .i64 x247.e.act.kind, .int .i64 x247.e.act.at_, .int .i64 x247.e.act.val, .int .i64 x247.e.act.what, .bool x247.e.act.volatile, .bool x247.e.act.final, .int .i64 x247.e.rf, .int .i64 x247.e.id, .int .i64 x247.at_]) ow240 rfl hv270 rfl rfl (.inl rfl) rfl (L 0 rfl rfl) (L 5 rfl rfl) ti45 hx266 (by simp [topV]) rfl rfl rfl (full rfl) (fun H1 hs => (fun _ => (okH.cons (Or.inl rfl) (okH.cons (Or.inl rfl) (okH.nil (fun r h => nomatch h)))))) (fun V274 le275 ow276 => ?_)
           obtain ⟨x277, hx278, h279⟩ := bindS h267
           obtain ⟨_, hv280, _⟩ := ow276.osel (k := 0) rfl hv61 hx278
           refine U.p rfl rfl (.inl rfl) (S.index rfl ((L 12 rfl rfl).trans hv280) (L 10 rfl rfl) Try.underlying38 ti45 (ix_ge hx278) (ix_lt hx278)) ?_
           obtain ⟨cs281, hv282, hlt283, hr284, hc285⟩ := ow276.osel (k := 0) rfl hv61 hx278
           obtain rfl : cs281 = [.int .i64 x277.e.t, .int .i64 x277.e.act.kind, .int .i64 x277.e.act.at_, .int .i64 x277.e.act.val, .int .i64 x277.e.act.what, .bool x277.e.act.volatile, .bool x277.e.act.final, .int .i64 x277.e.rf, .int .i64 x277.e.id, .int .i64 x277.at_] := hr284
           refine O.storeE (k := 0) (R := RT_Tnd) (j := 0) (y := x256) (cs := [.int .i64 x256.e.t, .int .i64 x256.e.act.kind, .int .i64 x256.e.act.at_, .int .i64 x256.e.act.val, .int .i64 x256.e.act.what, .bool x256.e.act.volatile, .bool x256.e.act.final, .int .i64 x256.e.rf, .int .i64 x256.e.id, .int .i64 x256.at_]) ow276 rfl hv282 rfl rfl (.inl rfl) rfl (L 0 rfl rfl) (L 2 rfl rfl) ti45 hx278 (by simp [topV]) rfl rfl rfl (full rfl) (fun H1 hs => (fun _ => (okH.cons rfl (okH.cons (Or.inl rfl) (okH.cons (Or.inl rfl) (okH.nil (fun r h => nomatch h))))))) (fun V286 le287 ow288 => ?_)
           refine U.done (nr rfl) ?_
           refine blkN (sqN ?_)
           refine WP.ureg rfl ?_
           refine U.p rfl rfl (.inl rfl) (S.move rfl (L 37 rfl rfl)) ?_
           refine U.p rfl rfl (.inl rfl) (S.sub rfl (L 0 rfl rfl) K) ?_
           refine U.p rfl rfl (.inl rfl) (S.assign rfl (L 0 rfl rfl)) ?_
           refine U.done (nr rfl) ?_
           refine sqN ?_
           exact ⟨_, V286, rfl, ⟨m208, Nat.lt_succ_self _, (xs201.set (Int.toNat x202) x247).set (Int.toNat (w64 (x202 - 1))) x256, w64 (x202 - 1), rfl, (((le206.trans le238).trans le275).trans le287), ow288, backS h279 e210⟩, (allCons (L 34 rfl rfl) (allCons (L 35 rfl rfl) (allCons (L 36 rfl rfl) (allCons (L 37 rfl rfl) (allCons (L 38 rfl rfl) (allCons (L 39 rfl rfl) (allCons (L 0 rfl rfl) allNil)))))))⟩
         ·have h289 := ifF c213 h212
          refine WP.exit ?_
          refine sqE (sqE (blkE (sqN ?_)))
          have h290 := exitS h289 e210
          exact ⟨_, V205, rfl, ⟨xs201, rfl, le206, ow207, h290⟩, (allCons (L 2 rfl rfl) (allCons (L 3 rfl rfl) (allCons (L 4 rfl rfl) (allCons (L 5 rfl rfl) (allCons (L 6 rfl rfl) (allCons (L 7 rfl rfl) allNil))))))⟩
        ·have h291 := ifF c199 h91
         refine WP.skip ?_
         refine sqN ?_
         exact ⟨_, V98, rfl, ⟨(xs3.set (Int.toNat x24) x54).set (Int.toNat (w64 (x24 - 1))) x68, rfl, (.refl _), ow100, h291⟩, (allCons (L 27 rfl rfl) (allCons (L 28 rfl rfl) (allCons (L 29 rfl rfl) (allCons (L 30 rfl rfl) (allCons (L 31 rfl rfl) (allCons (L 32 rfl rfl) allNil))))))⟩
   ·skip
    refine WP.udreg rfl rfl rfl ?_
    refine U.p rfl rfl (.inl rfl) (S.move rfl (L 4 rfl rfl)) ?_
    refine U.p rfl rfl (.inl rfl) (S.move rfl (L 3 rfl rfl)) ?_
    refine U.p rfl rfl (.inl rfl) (S.lss rfl (L 1 rfl rfl) (L 0 rfl rfl)) ?_
    refine U.p rfl rfl (.inl rfl) (S.move rfl (L 0 rfl rfl)) ?_
    refine bcase (b := decide (x24 < p2)) (fun g292 => ?_) (fun g292 => ?_)
    ·have h293 := ifT g292 h34
     refine U.p rfl rfl (.inr ⟨_, _, _, rfl, rfl, ((L 0 rfl rfl).trans (congrArg Value.bool g292))⟩) (S.move rfl (L 7 rfl rfl)) ?_
     refine U.p rfl rfl (.inr ⟨_, _, _, rfl, rfl, ((L 1 rfl rfl).trans (congrArg Value.bool g292))⟩) (S.move rfl (L 5 rfl rfl)) ?_
     refine U.p rfl rfl (.inr ⟨_, _, _, rfl, rfl, ((L 2 rfl rfl).trans (congrArg Value.bool g292))⟩) (S.move rfl (L 10 rfl rfl)) ?_
     obtain ⟨x294, hx295, h296⟩ := bindS h293
     obtain ⟨b297, o298, n299, c300, hv301⟩ := ow29.ospt (k := 0) rfl hx295
     obtain ⟨_, hv302, _⟩ := ow29.osel (k := 0) rfl hv301 hx295
     refine U.p rfl rfl (.inr ⟨_, _, _, rfl, rfl, ((L 3 rfl rfl).trans (congrArg Value.bool g292))⟩) (S.index rfl ((L 1 rfl rfl).trans hv302) (L 0 rfl rfl) Try.underlying38 ti45 (ix_ge hx295) (ix_lt hx295)) ?_
     obtain ⟨cs303, hv304, hlt305, hr306, hc307⟩ := ow29.osel (k := 0) rfl hv301 hx295
     obtain rfl : cs303 = [.int .i64 x294.e.t, .int .i64 x294.e.act.kind, .int .i64 x294.e.act.at_, .int .i64 x294.e.act.val, .int .i64 x294.e.act.what, .bool x294.e.act.volatile, .bool x294.e.act.final, .int .i64 x294.e.rf, .int .i64 x294.e.id, .int .i64 x294.at_] := hr306
     refine U.k rfl rfl (.inr ⟨_, _, _, rfl, rfl, ((L 4 rfl rfl).trans (congrArg Value.bool g292))⟩) (S.loadN (cs := [.int .i64 x294.e.t, .int .i64 x294.e.act.kind, .int .i64 x294.e.act.at_, .int .i64 x294.e.act.val, .int .i64 x294.e.act.what, .bool x294.e.act.volatile, .bool x294.e.act.final, .int .i64 x294.e.rf, .int .i64 x294.e.id, .int .i64 x294.at_]) rfl (L 0 rfl rfl) Try.underlying45 rfl ti45 rfl hc307) (fun _ => (okH.nil (fun r h => by cases h; exact hlt305))) ?_
     refine U.p rfl rfl (.inr ⟨_, _, _, rfl, rfl, ((L 5 rfl rfl).trans (congrArg Value.bool g292))⟩) (S.move rfl (L 9 rfl rfl)) ?_
     refine U.p rfl rfl (.inr ⟨_, _, _, rfl, rfl, ((L 6 rfl rfl).trans (congrArg Value.bool g292))⟩) (S.move rfl (L 14 rfl rfl)) ?_
     refine U.p rfl rfl (.inr ⟨_, _, _, rfl, rfl, ((L 7 rfl rfl).trans (congrArg Value.bool g292))⟩) (S.sub rfl (L 0 rfl rfl) K) ?_
     obtain ⟨x308, hx309, h310⟩ := bindS h296
     obtain ⟨_, hv311, _⟩ := ow29.osel (k := 0) rfl hv301 hx309
     refine U.p rfl rfl (.inr ⟨_, _, _, rfl, rfl, ((L 8 rfl rfl).trans (congrArg Value.bool g292))⟩) (S.index rfl ((L 2 rfl rfl).trans hv311) (L 0 rfl rfl) Try.underlying38 ti45 (ix_ge hx309) (ix_lt hx309)) ?_
     obtain ⟨cs312, hv313, hlt314, hr315, hc316⟩ := ow29.osel (k := 0) rfl hv301 hx309
     obtain rfl : cs312 = [.int .i64 x308.e.t, .int .i64 x308.e.act.kind, .int .i64 x308.e.act.at_, .int .i64 x308.e.act.val, .int .i64 x308.e.act.what, .bool x308.e.act.volatile, .bool x308.e.act.final, .int .i64 x308.e.rf, .int .i64 x308.e.id, .int .i64 x308.at_] := hr315
     refine U.k rfl rfl (.inr ⟨_, _, _, rfl, rfl, ((L 9 rfl rfl).trans (congrArg Value.bool g292))⟩) (S.loadN (cs := [.int .i64 x308.e.t, .int .i64 x308.e.act.kind, .int .i64 x308.e.act.at_, .int .i64 x308.e.act.val, .int .i64 x308.e.act.what, .bool x308.e.act.volatile, .bool x308.e.act.final, .int .i64 x308.e.rf, .int .i64 x308.e.id, .int .i64 x308.at_]) rfl (L 0 rfl rfl) Try.underlying45 rfl ti45 rfl hc316) (fun _ => (okH.cons trivial (okH.nil (fun r h => by cases h; exact hlt314)))) ?_
     obtain ⟨x317, hx318, h319⟩ := bindS h310
     refine O.callv (V := V27) rfl rfl (.inr ⟨_, _, _, rfl, rfl, ((L 10 rfl rfl).trans (congrArg Value.bool g292))⟩) rfl (L 9 rfl rfl) en50 (aC (L 5 rfl rfl) (aC (L 0 rfl rfl) aN)) (wk_order_Run_Apart_c2 V27 _ x294 x308 ow29 _ hx318) (fun v320 V321 le322 hp323 => by obtain ⟨rfl, ow324⟩ := hp323; exact (fun _ => (okH.cons (Or.inl rfl) (okH.cons (Or.inl rfl) (okH.nil (fun r h => nomatch h)))))) (fun v320 V321 le322 hp323 => ?_)
     obtain ⟨rfl, ow324⟩ := hp323
     refine U.p rfl rfl (.inr ⟨_, _, _, rfl, rfl, ((L 11 rfl rfl).trans (congrArg Value.bool g292))⟩) (S.lss rfl (L 0 rfl rfl) K) ?_
     refine U.p rfl rfl (.inr ⟨_, _, _, rfl, rfl, ((L 12 rfl rfl).trans (congrArg Value.bool g292))⟩) (S.not rfl (L 0 rfl rfl)) ?_
     refine U.p rfl rfl (.inl rfl) (S.pickT rfl ((L 13 rfl rfl).trans (congrArg Value.bool g292)) (L 0 rfl rfl)) ?_
     refine U.done (nr rfl) ?_
     refine sqN ?_
     exact ⟨_, V321, rfl, ⟨!(decide (x317 < 0)), rfl, le322, ow324, h319⟩, (allCons (L 18 rfl rfl) (allCons (L 19 rfl rfl) (allCons (L 20 rfl rfl) (allCons (L 21 rfl rfl) (allCons (L 22 rfl rfl) (allCons (L 23 rfl rfl) (allCons (L 0 rfl rfl) allNil)))))))⟩
    ·have h325 := ifF g292 h34
     refine U.x rfl rfl rfl rfl ((L 0 rfl rfl).trans (congrArg Value.bool g292)) (by decide) ?_
     refine U.x rfl rfl rfl rfl ((L 1 rfl rfl).trans (congrArg Value.bool g292)) (by decide) ?_
     refine U.x rfl rfl rfl rfl ((L 2 rfl rfl).trans (congrArg Value.bool g292)) (by decide) ?_
     refine U.x rfl rfl rfl rfl ((L 3 rfl rfl).trans (congrArg Value.bool g292)) (by decide) ?_
     refine U.x rfl rfl rfl rfl ((L 4 rfl rfl).trans (congrArg Value.bool g292)) (by decide) ?_
     refine U.x rfl rfl rfl rfl ((L 5 rfl rfl).trans (congrArg Value.bool g292)) (by decide) ?_
     refine U.x rfl rfl rfl rfl ((L 6 rfl rfl).trans (congrArg Value.bool g292)) (by decide) ?_
     refine U.x rfl rfl rfl rfl ((L 7 rfl rfl).trans (congrArg Value.bool g292)) (by decide) ?_
     refine U.x rfl rfl rfl rfl ((L 8 rfl rfl).trans (congrArg Value.bool g292)) (by decide) ?_
     refine U.x rfl rfl rfl rfl ((L 9 rfl rfl).trans (congrArg Value.bool g292)) (by decide) ?_
     refine U.x rfl rfl rfl rfl ((L 10 rfl rfl).trans (congrArg Value.bool g292)) (by decide) ?_
     refine U.x rfl rfl rfl rfl ((L 11 rfl rfl).trans (congrArg Value.bool g292)) (by decide) ?_
     refine U.x rfl rfl rfl rfl ((L 12 rfl rfl).trans (congrArg Value.bool g292)) (by decide) ?_
     refine U.p rfl rfl (.inl rfl) (S.pickF rfl ((L 13 rfl rfl).trans (congrArg Value.bool g292)) K) ?_
     refine U.done (nr rfl) ?_
     refine sqN ?_
     exact ⟨_, V27, rfl, ⟨false, rfl, (.refl _), ow29, h325⟩, (allCons (L 18 rfl rfl) (allCons (L 19 rfl rfl) (allCons (L 20 rfl rfl) (allCons (L 21 rfl rfl) (allCons (L 22 rfl rfl) (allCons (L 23 rfl rfl) (allCons (L 0 rfl rfl) allNil)))))))⟩
 ·have h326 := ifF c16 h15
  refine WP.exit ?_
  refine sqE (sqE (blkE (sqN ?_)))
  have h327 := exitS h326 e13
  refine WP.usreg rfl ?_
  refine U.p rfl rfl (.inl rfl) (S.assign rfl K) ?_
  refine U.done (nr rfl) ?_
  refine WP.ret ?_
  refine fin.slot (.inr rfl) rfl (L 0 rfl rfl) ⟨V8, rfl, le9, ?_⟩
  have e328 := Option.some.inj h327
  subst e328
  exact ⟨rfl, ow10⟩
set_option maxHeartbeats 4000000 in
set_option maxRecDepth 10000 in
theorem wk_s_partitionEqual (V : Vw) (Rs : List At) (p0 : List Tnd) (p1 : Int) (p2 : Int) (p3 : Int) (v1 : Value) (ow : Ow V (.os RT_Tnd v1 p0 :: Rs)) (r : Int × (List Tnd)) (h : s_partitionEqual p0 p1 p2 p3 = some r) : ∃ v V', Cl Try.prog 0 67 #[v1, .int .i64 p1, .int .i64 p2, .int .i64 p3, .func (.func 50) #[] #[]] V.H v V'.H ∧ V.le V' ∧ (v = .int .i64 r.1 ∧ Ow V' (.os RT_Tnd v1 r.2 :: Rs)) := by
 refine Ct.of (Nat.zero_le _) Try.func67 rfl (nr rfl) ?_
 unfold s_partitionEqual at h
 refine WP.usreg rfl ?_
 refine U.p rfl rfl (.inl rfl) (S.assign rfl K) ?_
 refine U.done (nr rfl) ?_
 refine WP.usdreg rfl rfl rfl ?_
 refine U.p rfl rfl (.inl rfl) (S.move rfl (L 1 rfl rfl)) ?_
 refine U.p rfl rfl (.inl rfl) (S.move rfl (L 3 rfl rfl)) ?_
 refine U.p rfl rfl (.inl rfl) (S.move rfl (L 3 rfl rfl)) ?_
 refine U.p rfl rfl (.inl rfl) (S.move rfl (L 7 rfl rfl)) ?_
 refine U.p rfl rfl (.inl rfl) (S.move rfl (L 5 rfl rfl)) ?_
 refine U.p rfl rfl (.inl rfl) (S.move rfl (L 9 rfl rfl)) ?_
 obtain ⟨x3, hx4, h5⟩ := bindS h
 obtain ⟨b6, o7, n8, c9, hv10⟩ := ow.ospt (k := 0) rfl hx4
 obtain ⟨_, hv11, _⟩ := ow.osel (k := 0) rfl hv10 hx4
 refine U.p rfl rfl (.inl rfl) (S.index rfl ((L 1 rfl rfl).trans hv11) (L 0 rfl rfl) Try.underlying38 ti45 (ix_ge hx4) (ix_lt hx4)) ?_
 obtain ⟨cs12, hv13, hlt14, hr15, hc16⟩ := ow.osel (k := 0) rfl hv10 hx4
 obtain rfl : cs12 = [.int .i64 x3.e.t, .int .i64 x3.e.act.kind, .int .i64 x3.e.act.at_, .int .i64 x3.e.act.val, .int .i64 x3.e.act.what, .bool x3.e.act.volatile, .bool x3.e.act.final, .int .i64 x3.e.rf, .int .i64 x3.e.id, .int .i64 x3.at_] := hr15
 refine U.k rfl rfl (.inl rfl) (S.loadN (cs := [.int .i64 x3.e.t, .int .i64 x3.e.act.kind, .int .i64 x3.e.act.at_, .int .i64 x3.e.act.val, .int .i64 x3.e.act.what, .bool x3.e.act.volatile, .bool x3.e.act.final, .int .i64 x3.e.rf, .int .i64 x3.e.id, .int .i64 x3.at_]) rfl (L 0 rfl rfl) Try.underlying45 rfl ti45 rfl hc16) (fun _ => (okH.nil (fun r h => by cases h; exact hlt14))) ?_
 refine U.p rfl rfl (.inl rfl) (S.move rfl (L 9 rfl rfl)) ?_
 refine U.p rfl rfl (.inl rfl) (S.move rfl (L 11 rfl rfl)) ?_
 obtain ⟨x17, hx18, h19⟩ := bindS h5
 obtain ⟨_, hv20, _⟩ := ow.osel (k := 0) rfl hv10 hx18
 refine U.p rfl rfl (.inl rfl) (S.index rfl ((L 1 rfl rfl).trans hv20) (L 0 rfl rfl) Try.underlying38 ti45 (ix_ge hx18) (ix_lt hx18)) ?_
 obtain ⟨cs21, hv22, hlt23, hr24, hc25⟩ := ow.osel (k := 0) rfl hv10 hx18
 obtain rfl : cs21 = [.int .i64 x17.e.t, .int .i64 x17.e.act.kind, .int .i64 x17.e.act.at_, .int .i64 x17.e.act.val, .int .i64 x17.e.act.what, .bool x17.e.act.volatile, .bool x17.e.act.final, .int .i64 x17.e.rf, .int .i64 x17.e.id, .int .i64 x17.at_] := hr24
 refine U.k rfl rfl (.inl rfl) (S.loadN (cs := [.int .i64 x17.e.t, .int .i64 x17.e.act.kind, .int .i64 x17.e.act.at_, .int .i64 x17.e.act.val, .int .i64 x17.e.act.what, .bool x17.e.act.volatile, .bool x17.e.act.final, .int .i64 x17.e.rf, .int .i64 x17.e.id, .int .i64 x17.at_]) rfl (L 0 rfl rfl) Try.underlying45 rfl ti45 rfl hc25) (fun _ => (okH.cons trivial (okH.nil (fun r h => by cases h; exact hlt23)))) ?_
 obtain ⟨x26, hx27, h28⟩ := bindS h19
 obtain ⟨_, hv29, _⟩ := ow.osel (k := 0) rfl hv10 hx27
 refine U.p rfl rfl (.inl rfl) (S.index rfl ((L 11 rfl rfl).trans hv29) (L 10 rfl rfl) Try.underlying38 ti45 (ix_ge hx27) (ix_lt hx27)) ?_
 obtain ⟨cs30, hv31, hlt32, hr33, hc34⟩ := ow.osel (k := 0) rfl hv10 hx27
 obtain rfl : cs30 = [.int .i64 x26.e.t, .int .i64 x26.e.act.kind, .int .i64 x26.e.act.at_, .int .i64 x26.e.act.val, .int .i64 x26.e.act.what, .bool x26.e.act.volatile, .bool x26.e.act.final, .int .i64 x26.e.rf, .int .i64 x26.e.id, .int .i64 x26.at_] := hr33
 refine O.storeE (k := 0) (R := RT_Tnd) (j := 0) (y := x3) (cs := [.int .i64 x3.e.t, .int .i64 x3.e.act.kind, .int .i64 x3.e.act.at_, .int .i64 x3.e.act.val, .int .i64 x3.e.act.what, .bool x3.e.act.volatile, .bool x3.e.act.final, .int .i64 x3.e.rf, .int .i64 x3.e.id, .int .i64 x3.at_]) ow rfl hv31 rfl rfl (.inl rfl) rfl (L 0 rfl rfl) (L 5 rfl rfl) ti45 hx27 (by simp [topV]) rfl rfl rfl (full rfl) (fun H1 hs => (fun _ => (okH.cons (Or.inl rfl) (okH.cons (Or.inl rfl) (okH.nil (fun r h => nomatch h)))))) (fun V35 le36 ow37 => ?_)
 obtain ⟨x38, hx39, h40⟩ := bindS h28
 obtain ⟨_, hv41, _⟩ := ow37.osel (k := 0) rfl hv10 hx39
 refine U.p rfl rfl (.inl rfl) (S.index rfl ((L 10 rfl rfl).trans hv41) (L 9 rfl rfl) Try.underlying38 ti45 (ix_ge hx39) (ix_lt hx39)) ?_
 obtain ⟨cs42, hv43, hlt44, hr45, hc46⟩ := ow37.osel (k := 0) rfl hv10 hx39
 obtain rfl : cs42 = [.int .i64 x38.e.t, .int .i64 x38.e.act.kind, .int .i64 x38.e.act.at_, .int .i64 x38.e.act.val, .int .i64 x38.e.act.what, .bool x38.e.act.volatile, .bool x38.e.act.final, .int .i64 x38.e.rf, .int .i64 x38.e.id, .int .i64 x38.at_] := hr45
 refine O.storeE (k := 0) (R := RT_Tnd) (j := 0) (y := x17) (cs := [.int .i64 x17.e.t, .int .i64 x17.e.act.kind, .int .i64 x17.e.act.at_, .int .i64 x17.e.act.val, .int .i64 x17.e.act.what, .bool x17.e.act.volatile, .bool x17.e.act.final, .int .i64 x17.e.rf, .int .i64 x17.e.id, .int .i64 x17.at_]) ow37 rfl hv43 rfl rfl (.inl rfl) rfl (L 0 rfl rfl) (L 2 rfl rfl) ti45 hx39 (by simp [topV]) rfl rfl rfl (full rfl) (fun H1 hs => (fun _ => (okH.cons rfl (okH.cons (Or.inl rfl) (okH.cons (Or.inl rfl) (okH.nil (fun r h => nomatch h))))))) (fun V47 le48 ow49 => ?_)
 refine U.done (nr rfl) ?_
 refine WP.usreg rfl ?_
 refine U.p rfl rfl (.inl rfl) (S.move rfl (L 16 rfl rfl)) ?_
 refine U.p rfl rfl (.inl rfl) (S.add rfl (L 0 rfl rfl) K) ?_
 refine U.p rfl rfl (.inl rfl) (S.move rfl (L 19 rfl rfl)) ?_
 refine U.p rfl rfl (.inl rfl) (S.sub rfl (L 0 rfl rfl) K) ?_
 refine U.p rfl rfl (.inl rfl) (S.assign rfl (L 2 rfl rfl)) ?_
 refine U.p rfl rfl (.inl rfl) (S.assign rfl (L 1 rfl rfl)) ?_
 refine U.done (nr rfl) ?_
 refine WP.seq ?_
 refine WP.blk ?_
 unfold s_partitionEqual_l1 at h40
 obtain ⟨n54, hn53⟩ := loopO_some.1 h40
 refine WP.loopI2 (fun n l V' => ∃ (xs50 : List Tnd) (x51 : Int) (x52 : Int), l = [(0, v1), (1, .int .i64 p1), (4, .func (.func 50) #[] #[]), (11, .int .i64 x51), (12, .int .i64 x52)] ∧ V47.le V' ∧ Ow V' (.os RT_Tnd v1 xs50 :: Rs) ∧ itO (fun s => s_partitionEqual_l1b p1 s.1 s.2.1 s.2.2) n (xs50, x51, x52) = some r) n54 _ ⟨(p0.set (Int.toNat p1) x3).set (Int.toNat p3) x17, w64 (p1 + 1), w64 (p2 - 1), rfl, .refl _, ow49, hn53⟩ (allCons (L 21 rfl rfl) (allCons (L 22 rfl rfl) (allCons (L 25 rfl rfl) (allCons (L 1 rfl rfl) (allCons (L 0 rfl rfl) allNil))))) ?_
 rintro _ _ V55 ⟨xs50, x51, x52, rfl, le56, ow57, h61⟩
 obtain ⟨m58, q59, rfl, h62, e60⟩ := itS h61
 replace h62 : s_partitionEqual_l1b p1 xs50 x51 x52 = some q59 := h62
 unfold s_partitionEqual_l1b at h62
 refine WP.blk ?_
 refine WP.seq ?_
 refine WP.blk ?_
 unfold s_partitionEqual_l2 at h62
 obtain ⟨n65, hn64⟩ := loopO_some.1 h62
 refine WP.loopI2 (fun n l V' => ∃ (x63 : Int), l = [(0, v1), (1, .int .i64 p1), (4, .func (.func 50) #[] #[]), (11, .int .i64 x63), (12, .int .i64 x52)] ∧ V55.le V' ∧ Ow V' (.os RT_Tnd v1 xs50 :: Rs) ∧ itO (fun s => s_partitionEqual_l2b p1 xs50 x52 s) n x63 = some q59) n65 _ ⟨x51, rfl, .refl _, ow57, hn64⟩ (allCons (L 0 rfl rfl) (allCons (L 1 rfl rfl) (allCons (L 2 rfl rfl) (allCons (L 3 rfl rfl) (allCons (L 4 rfl rfl) allNil))))) ?_
 rintro _ _ V66 ⟨x63, rfl, le67, ow68, h72⟩
 obtain ⟨m69, q70, rfl, h73, e71⟩ := itS h72
 replace h73 : s_partitionEqual_l2b p1 xs50 x52 x63 = some q70 := h73
 unfold s_partitionEqual_l2b at h73
 refine WP.seq ?_
 refine WP.seqI (fun l V' => ∃ (x74 : Bool), l = [(0, v1), (1, .int .i64 p1), (4, .func (.func 50) #[] #[]), (11, .int .i64 x63), (12, .int .i64 x52), (47, .bool x74)] ∧ V66.le V' ∧ Ow V' (.os RT_Tnd v1 xs50 :: Rs) ∧ s_partitionEqual_k1 p1 xs50 x52 x63 x74 = some q70) ?_ ?_
 ·rintro _ V75 ⟨x74, rfl, le76, ow77, h78⟩
  unfold s_partitionEqual_k1 at h78
  refine WP.cond _ (L 5 rfl rfl) rfl (fun c79 => ?_) (fun c79 => ?_)
  ·have h80 := ifT c79 h78
   refine WP.skip ?_
   refine sqN ?_
   refine WP.blk ?_
   refine WP.ureg rfl ?_
   refine U.p rfl rfl (.inl rfl) (S.move rfl (L 3 rfl rfl)) ?_
   refine U.p rfl rfl (.inl rfl) (S.add rfl (L 0 rfl rfl) K) ?_
   refine U.p rfl rfl (.inl rfl) (S.assign rfl (L 0 rfl rfl)) ?_
   refine U.done (nr rfl) ?_
   refine blkN (sqN ?_)
   exact ⟨_, V75, rfl, ⟨m69, Nat.lt_succ_self _, w64 (x63 + 1), rfl, (le67.trans le76), ow77, backS h80 e71⟩, (allCons (L 3 rfl rfl) (allCons (L 4 rfl rfl) (allCons (L 5 rfl rfl) (allCons (L 0 rfl rfl) (allCons (L 7 rfl rfl) allNil)))))⟩
  ·have h81 := ifF c79 h78
   refine WP.exit ?_
   refine sqE (sqE (blkE (sqN ?_)))
   have h82 := exitS h81 e71
   refine WP.seq ?_
   refine WP.blk ?_
   unfold s_partitionEqual_l3 at h82
   obtain ⟨n85, hn84⟩ := loopO_some.1 h82
   refine WP.loopI2 (fun n l V' => ∃ (x83 : Int), l = [(0, v1), (1, .int .i64 p1), (4, .func (.func 50) #[] #[]), (11, .int .i64 x63), (12, .int .i64 x83)] ∧ V75.le V' ∧ Ow V' (.os RT_Tnd v1 xs50 :: Rs) ∧ itO (fun s => s_partitionEqual_l3b p1 xs50 x63 s) n x83 = some q59) n85 _ ⟨x52, rfl, .refl _, ow77, hn84⟩ (allCons (L 0 rfl rfl) (allCons (L 1 rfl rfl) (allCons (L 2 rfl rfl) (allCons (L 3 rfl rfl) (allCons (L 4 rfl rfl) allNil))))) ?_
   rintro _ _ V86 ⟨x83, rfl, le87, ow88, h92⟩
   obtain ⟨m89, q90, rfl, h93, e91⟩ := itS h92
   replace h93 : s_partitionEqual_l3b p1 xs50 x63 x83 = some q90 := h93
   unfold s_partitionEqual_l3b at h93
   refine WP.seq ?_
   refine WP.seqI (fun l V' => ∃ (x94 : Bool), l = [(0, v1), (1, .int .i64 p1), (4, .func (.func 50) #[] #[]), (11, .int .i64 x63), (12, .int .i64 x83), (65, .bool x94)] ∧ V86.le V' ∧ Ow V' (.os RT_Tnd v1 xs50 :: Rs) ∧ s_partitionEqual_k2 xs50 x63 x83 x94 = some q90) ?_ ?_
   ·rintro _ V95 ⟨x94, rfl, le96, ow97, h98⟩
    unfold s_partitionEqual_k2 at h98
    refine WP.cond _ (L 5 rfl rfl) rfl (fun c99 => ?_) (fun c99 => ?_)
    ·have h100 := ifT c99 h98
     refine WP.skip ?_
     refine sqN ?_
     refine WP.blk ?_
     refine WP.ureg rfl ?_
     refine U.p rfl rfl (.inl rfl) (S.move rfl (L 4 rfl rfl)) ?_
     refine U.p rfl rfl (.inl rfl) (S.sub rfl (L 0 rfl rfl) K) ?_
     refine U.p rfl rfl (.inl rfl) (S.assign rfl (L 0 rfl rfl)) ?_
     refine U.done (nr rfl) ?_
     refine blkN (sqN ?_)
     exact ⟨_, V95, rfl, ⟨m89, Nat.lt_succ_self _, w64 (x83 - 1), rfl, (le87.trans le96), ow97, backS h100 e91⟩, (allCons (L 3 rfl rfl) (allCons (L 4 rfl rfl) (allCons (L 5 rfl rfl) (allCons (L 6 rfl rfl) (allCons (L 0 rfl rfl) allNil)))))⟩
    ·have h101 := ifF c99 h98
     refine WP.exit ?_
     refine sqE (sqE (blkE (sqN ?_)))
     have h102 := exitS h101 e91
     refine WP.seq ?_
     refine WP.usreg rfl ?_
     refine U.p rfl rfl (.inl rfl) (S.move rfl (L 3 rfl rfl)) ?_
     refine U.p rfl rfl (.inl rfl) (S.move rfl (L 5 rfl rfl)) ?_
     refine U.p rfl rfl (.inl rfl) (S.gtr rfl (L 1 rfl rfl) (L 0 rfl rfl)) ?_
     refine U.done (nr rfl) ?_
     refine WP.cond _ (L 0 rfl rfl) rfl (fun c103 => ?_) (fun c103 => ?_)
     ·have h104 := ifT c103 h102
      refine WP.exit ?_
      refine sqE (blkO rfl (sqE (blkE (sqN ?_))))
      have h105 := exitS h104 e60
      refine WP.usreg rfl ?_
      refine U.p rfl rfl (.inl rfl) (S.move rfl (L 6 rfl rfl)) ?_
      refine U.p rfl rfl (.inl rfl) (S.assign rfl (L 0 rfl rfl)) ?_
      refine U.done (nr rfl) ?_
      refine WP.ret ?_
      refine fin.slot (.inr rfl) rfl (L 0 rfl rfl) ⟨V95, rfl, ((((((le36.trans le48).trans le56).trans le67).trans le76).trans le87).trans le96), ?_⟩
      have e106 := Option.some.inj h105
      subst e106
      exact ⟨rfl, ow97⟩
     ·have h107 := ifF c103 h102
      refine WP.skip ?_
      refine sqN ?_
      refine WP.usdreg rfl rfl rfl ?_
      refine U.p rfl rfl (.inl rfl) (S.move rfl (L 3 rfl rfl)) ?_
      refine U.p rfl rfl (.inl rfl) (S.move rfl (L 7 rfl rfl)) ?_
      refine U.p rfl rfl (.inl rfl) (S.move rfl (L 5 rfl rfl)) ?_
      refine U.p rfl rfl (.inl rfl) (S.move rfl (L 10 rfl rfl)) ?_
      refine U.p rfl rfl (.inl rfl) (S.move rfl (L 7 rfl rfl)) ?_
      refine U.p rfl rfl (.inl rfl) (S.move rfl (L 12 rfl rfl)) ?_
      obtain ⟨x108, hx109, h110⟩ := bindS h107
      obtain ⟨_, hv111, _⟩ := ow97.osel (k := 0) rfl hv10 hx109
      refine U.p rfl rfl (.inl rfl) (S.index rfl ((L 1 rfl rfl).trans hv111) (L 0 rfl rfl) Try.underlying38 ti45 (ix_ge hx109) (ix_lt hx109)) ?_
      obtain ⟨cs112, hv113, hlt114, hr115, hc116⟩ := ow97.osel (k := 0) rfl hv10 hx109
      obtain rfl : cs112 = [.int .i64 x108.e.t, .int .i64 x108.e.act.kind, .int .i64 x108.e.act.at_, .int .i64 x108.e.act.val, .int .i64 x108.e.act.what, .bool x108.e.act.volatile, .bool x108.e.act.final, .int .i64 x108.e.rf, .int .i64 x108.e.id, .int .i64 x108.at_] := hr115
      refine U.k rfl rfl (.inl rfl) (S.loadN (cs := [.int .i64 x108.e.t, .int .i64 x108.e.act.kind, .int .i64 x108.e.act.at_, .int .i64 x108.e.act.val, .int .i64 x108.e.act.what, .bool x108.e.act.volatile, .bool x108.e.act.final, .int .i64 x108.e.rf, .int .i64 x108.e.id, .int .i64 x108.at_]) rfl (L 0 rfl rfl) Try.underlying45 rfl ti45 rfl hc116) (fun _ => (okH.nil (fun r h => by cases h; exact hlt114))) ?_
      refine U.p rfl rfl (.inl rfl) (S.move rfl (L 11 rfl rfl)) ?_
      refine U.p rfl rfl (.inl rfl) (S.move rfl (L 15 rfl rfl)) ?_
      obtain ⟨x117, hx118, h119⟩ := bindS h110
      obtain ⟨_, hv120, _⟩ := ow97.osel (k := 0) rfl hv10 hx118
      refine U.p rfl rfl (.inl rfl) (S.index rfl ((L 1 rfl rfl).trans hv120) (L 0 rfl rfl) Try.underlying38 ti45 (ix_ge hx118) (ix_lt hx118)) ?_
      obtain ⟨cs121, hv122, hlt123, hr124, hc125⟩ := ow97.osel (k := 0) rfl hv10 hx118
      obtain rfl : cs121 = [.int .i64 x117.e.t, .int .i64 x117.e.act.kind, .int .i64 x117.e.act.at_, .int .i64 x117.e.act.val, .int .i64 x117.e.act.what, .bool x117.e.act.volatile, .bool x117.e.act.final, .int .i64 x117.e.rf, .int .i64 x117.e.id, .int .i64 x117.at_] := hr124
      refine U.k rfl rfl (.inl rfl) (S.loadN (cs := [.int .i64 x117.e.t, .int .i64 x117.e.act.kind, .int .i64 x117.e.act.at_, .int .i64 x117.e.act.val, .int .i64 x117.e.act.what, .bool x117.e.act.volatile, .bool x117.e.act.final, .int .i64 x117.e.rf, .int .i64 x117.e.id, .int .i64 x117.at_]) rfl (L 0 rfl rfl) Try.underlying45 rfl ti45 rfl hc125) (fun _ => (okH.cons trivial (okH.nil (fun r h => by cases h; exact hlt123)))) ?_
      obtain ⟨x126, hx127, h128⟩ := bindS h119
      obtain ⟨_, hv129, _⟩ := ow97.osel (k := 0) rfl hv10 hx127
      refine U.p rfl rfl (.inl rfl) (S.index rfl ((L 11 rfl rfl).trans hv129) (L 10 rfl rfl) Try.underlying38 ti45 (ix_ge hx127) (ix_lt hx127)) ?_
      obtain ⟨cs130, hv131, hlt132, hr133, hc134⟩ := ow97.osel (k := 0) rfl hv10 hx127
      obtain rfl : cs130 = [.int .i64 x126.e.t, .int .i64 x126.e.act.kind, .int .i64 x126.e.act.at_, .int .i64 x126.e.act.val, .int .i64 x126.e.act.what, .bool x126.e.act.volatile, .bool x126.e.act.final, .int .i64 x126.e.rf, .int .i64 x126.e.id, .int .i64 x126.at_] := hr133
      refine O.storeE (k := 0) (R := RT_Tnd) (j := 0) (y := x108) (cs := [.int .i64 x108.e.t, .int .i64 x108.e.act.kind, .int .i64 x108.e.act.at_, .int .i64 x108.e.act.val, .int .i64 x108.e.act.what, .bool x108.e.act.volatile, .bool x108.e.act.final, .int .i64 x108.e.rf, .int .i64 x108.e.id, .int .i64 x108.at_]) ow97 rfl hv131 rfl rfl (.inl rfl) rfl (L 0 rfl rfl) (L 5 rfl rfl) ti45 hx127 (by simp [topV]) rfl rfl rfl (full rfl) (fun H1 hs => (fun _ => (okH.cons (Or.inl rfl) (okH.cons (Or.inl rfl) (okH.nil (fun r h => nomatch h)))))) (fun V135 le136 ow137 => ?_)
      obtain ⟨x138, hx139, h140⟩ := bindS h128
      obtain ⟨_, hv141, _⟩ := ow137.osel (k := 0) rfl hv10 hx139
      refine U.p rfl rfl (.inl rfl) (S.index rfl ((L 10 rfl rfl).trans hv141) (L 9 rfl rfl) Try.underlying38 ti45 (ix_ge hx139) (ix_lt hx139)) ?_
      obtain ⟨cs142, hv143, hlt144, hr145, hc146⟩ := ow137.osel (k := 0) rfl hv10 hx139
      obtain rfl : cs142 = [.int .i64 x138.e.t, .int .i64 x138.e.act.kind, .int .i64 x138.e.act.at_, .int .i64 x138.e.act.val, .int .i64 x138.e.act.what, .bool x138.e.act.volatile, .bool x138.e.act.final, .int .i64 x138.e.rf, .int .i64 x138.e.id, .int .i64 x138.at_] := hr145
      refine O.storeE (k := 0) (R := RT_Tnd) (j := 0) (y := x117) (cs := [.int .i64 x117.e.t, .int .i64 x117.e.act.kind, .int .i64 x117.e.act.at_, .int .i64 x117.e.act.val, .int .i64 x117.e.act.what, .bool x117.e.act.volatile, .bool x117.e.act.final, .int .i64 x117.e.rf, .int .i64 x117.e.id, .int .i64 x117.at_]) ow137 rfl hv143 rfl rfl (.inl rfl) rfl (L 0 rfl rfl) (L 2 rfl rfl) ti45 hx139 (by simp [topV]) rfl rfl rfl (full rfl) (fun H1 hs => (fun _ => (okH.cons rfl (okH.cons (Or.inl rfl) (okH.cons (Or.inl rfl) (okH.nil (fun r h => nomatch h))))))) (fun V147 le148 ow149 => ?_)
      refine U.done (nr rfl) ?_
      refine WP.usreg rfl ?_
      refine U.p rfl rfl (.inl rfl) (S.move rfl (L 20 rfl rfl)) ?_
      refine U.p rfl rfl (.inl rfl) (S.add rfl (L 0 rfl rfl) K) ?_
      refine U.p rfl rfl (.inl rfl) (S.assign rfl (L 0 rfl rfl)) ?_
      refine U.done (nr rfl) ?_
      refine WP.ureg rfl ?_
      refine U.p rfl rfl (.inl rfl) (S.move rfl (L 24 rfl rfl)) ?_
      refine U.p rfl rfl (.inl rfl) (S.sub rfl (L 0 rfl rfl) K) ?_
      refine U.p rfl rfl (.inl rfl) (S.assign rfl (L 0 rfl rfl)) ?_
      refine U.done (nr rfl) ?_
      refine blkN (sqN ?_)
      exact ⟨_, V147, rfl, ⟨m58, Nat.lt_succ_self _, (xs50.set (Int.toNat x63) x108).set (Int.toNat x83) x117, w64 (x63 + 1), w64 (x83 - 1), rfl, ((((((le56.trans le67).trans le76).trans le87).trans le96).trans le136).trans le148), ow149, backS h140 e60⟩, (allCons (L 23 rfl rfl) (allCons (L 24 rfl rfl) (allCons (L 25 rfl rfl) (allCons (L 3 rfl rfl) (allCons (L 0 rfl rfl) allNil)))))⟩
   ·skip
    refine WP.udreg rfl rfl rfl ?_
    refine U.p rfl rfl (.inl rfl) (S.move rfl (L 3 rfl rfl)) ?_
    refine U.p rfl rfl (.inl rfl) (S.move rfl (L 5 rfl rfl)) ?_
    refine U.p rfl rfl (.inl rfl) (S.leq rfl (L 1 rfl rfl) (L 0 rfl rfl)) ?_
    refine U.p rfl rfl (.inl rfl) (S.move rfl (L 0 rfl rfl)) ?_
    refine bcase (b := decide (x63 ≤ x83)) (fun g150 => ?_) (fun g150 => ?_)
    ·have h151 := ifT g150 h93
     refine U.p rfl rfl (.inr ⟨_, _, _, rfl, rfl, ((L 0 rfl rfl).trans (congrArg Value.bool g150))⟩) (S.move rfl (L 6 rfl rfl)) ?_
     refine U.p rfl rfl (.inr ⟨_, _, _, rfl, rfl, ((L 1 rfl rfl).trans (congrArg Value.bool g150))⟩) (S.move rfl (L 5 rfl rfl)) ?_
     refine U.p rfl rfl (.inr ⟨_, _, _, rfl, rfl, ((L 2 rfl rfl).trans (congrArg Value.bool g150))⟩) (S.move rfl (L 7 rfl rfl)) ?_
     obtain ⟨x152, hx153, h154⟩ := bindS h151
     obtain ⟨_, hv155, _⟩ := ow88.osel (k := 0) rfl hv10 hx153
     refine U.p rfl rfl (.inr ⟨_, _, _, rfl, rfl, ((L 3 rfl rfl).trans (congrArg Value.bool g150))⟩) (S.index rfl ((L 1 rfl rfl).trans hv155) (L 0 rfl rfl) Try.underlying38 ti45 (ix_ge hx153) (ix_lt hx153)) ?_
     obtain ⟨cs156, hv157, hlt158, hr159, hc160⟩ := ow88.osel (k := 0) rfl hv10 hx153
     obtain rfl : cs156 = [.int .i64 x152.e.t, .int .i64 x152.e.act.kind, .int .i64 x152.e.act.at_, .int .i64 x152.e.act.val, .int .i64 x152.e.act.what, .bool x152.e.act.volatile, .bool x152.e.act.final, .int .i64 x152.e.rf, .int .i64 x152.e.id, .int .i64 x152.at_] := hr159
     refine U.k rfl rfl (.inr ⟨_, _, _, rfl, rfl, ((L 4 rfl rfl).trans (congrArg Value.bool g150))⟩) (S.loadN (cs := [.int .i64 x152.e.t, .int .i64 x152.e.act.kind, .int .i64 x152.e.act.at_, .int .i64 x152.e.act.val, .int .i64 x152.e.act.what, .bool x152.e.act.volatile, .bool x152.e.act.final, .int .i64 x152.e.rf, .int .i64 x152.e.id, .int .i64 x152.at_]) rfl (L 0 rfl rfl) Try.underlying45 rfl ti45 rfl hc160) (fun _ => (okH.nil (fun r h => by cases h; exact hlt158))) ?_
     refine U.p rfl rfl (.inr ⟨_, _, _, rfl, rfl, ((L 5 rfl rfl).trans (congrArg Value.bool g150))⟩) (S.move rfl (L 9 rfl rfl)) ?_
     refine U.p rfl rfl (.inr ⟨_, _, _, rfl, rfl, ((L 6 rfl rfl).trans (congrArg Value.bool g150))⟩) (S.move rfl (L 14 rfl rfl)) ?_
     obtain ⟨x161, hx162, h163⟩ := bindS h154
     obtain ⟨_, hv164, _⟩ := ow88.osel (k := 0) rfl hv10 hx162
     refine U.p rfl rfl (.inr ⟨_, _, _, rfl, rfl, ((L 7 rfl rfl).trans (congrArg Value.bool g150))⟩) (S.index rfl ((L 1 rfl rfl).trans hv164) (L 0 rfl rfl) Try.underlying38 ti45 (ix_ge hx162) (ix_lt hx162)) ?_
     obtain ⟨cs165, hv166, hlt167, hr168, hc169⟩ := ow88.osel (k := 0) rfl hv10 hx162
     obtain rfl : cs165 = [.int .i64 x161.e.t, .int .i64 x161.e.act.kind, .int .i64 x161.e.act.at_, .int .i64 x161.e.act.val, .int .i64 x161.e.act.what, .bool x161.e.act.volatile, .bool x161.e.act.final, .int .i64 x161.e.rf, .int .i64 x161.e.id, .int .i64 x161.at_] := hr168
     refine U.k rfl rfl (.inr ⟨_, _, _, rfl, rfl, ((L 8 rfl rfl).trans (congrArg Value.bool g150))⟩) (S.loadN (cs := [.int .i64 x161.e.t, .int .i64 x161.e.act.kind, .int .i64 x161.e.act.at_, .int .i64 x161.e.act.val, .int .i64 x161.e.act.what, .bool x161.e.act.volatile, .bool x161.e.act.final, .int .i64 x161.e.rf, .int .i64 x161.e.id, .int .i64 x161.at_]) rfl (L 0 rfl rfl) Try.underlying45 rfl ti45 rfl hc169) (fun _ => (okH.cons trivial (okH.nil (fun r h => by cases h; exact hlt167)))) ?_
     obtain ⟨x170, hx171, h172⟩ := bindS h163
     refine O.callv (V := V86) rfl rfl (.inr ⟨_, _, _, rfl, rfl, ((L 9 rfl rfl).trans (congrArg Value.bool g150))⟩) rfl (L 8 rfl rfl) en50 (aC (L 4 rfl rfl) (aC (L 0 rfl rfl) aN)) (wk_order_Run_Apart_c2 V86 _ x152 x161 ow88 _ hx171) (fun v173 V174 le175 hp176 => by obtain ⟨rfl, ow177⟩ := hp176; exact (fun _ => (okH.cons (Or.inl rfl) (okH.cons (Or.inl rfl) (okH.nil (fun r h => nomatch h)))))) (fun v173 V174 le175 hp176 => ?_)
     obtain ⟨rfl, ow177⟩ := hp176
     refine U.p rfl rfl (.inr ⟨_, _, _, rfl, rfl, ((L 10 rfl rfl).trans (congrArg Value.bool g150))⟩) (S.lss rfl (L 0 rfl rfl) K) ?_
     refine U.p rfl rfl (.inl rfl) (S.pickT rfl ((L 11 rfl rfl).trans (congrArg Value.bool g150)) (L 0 rfl rfl)) ?_
     refine U.done (nr rfl) ?_
     refine sqN ?_
     exact ⟨_, V174, rfl, ⟨decide (x170 < 0), rfl, le175, ow177, h172⟩, (allCons (L 16 rfl rfl) (allCons (L 17 rfl rfl) (allCons (L 18 rfl rfl) (allCons (L 19 rfl rfl) (allCons (L 20 rfl rfl) (allCons (L 0 rfl rfl) allNil))))))⟩
    ·have h178 := ifF g150 h93
     refine U.x rfl rfl rfl rfl ((L 0 rfl rfl).trans (congrArg Value.bool g150)) (by decide) ?_
     refine U.x rfl rfl rfl rfl ((L 1 rfl rfl).trans (congrArg Value.bool g150)) (by decide) ?_
     refine U.x rfl rfl rfl rfl ((L 2 rfl rfl).trans (congrArg Value.bool g150)) (by decide) ?_
     refine U.x rfl rfl rfl rfl ((L 3 rfl rfl).trans (congrArg Value.bool g150)) (by decide) ?_
     refine U.x rfl rfl rfl rfl ((L 4 rfl rfl).trans (congrArg Value.bool g150)) (by decide) ?_
     refine U.x rfl rfl rfl rfl ((L 5 rfl rfl).trans (congrArg Value.bool g150)) (by decide) ?_
     refine U.x rfl rfl rfl rfl ((L 6 rfl rfl).trans (congrArg Value.bool g150)) (by decide) ?_
     refine U.x rfl rfl rfl rfl ((L 7 rfl rfl).trans (congrArg Value.bool g150)) (by decide) ?_
     refine U.x rfl rfl rfl rfl ((L 8 rfl rfl).trans (congrArg Value.bool g150)) (by decide) ?_
     refine U.x rfl rfl rfl rfl ((L 9 rfl rfl).trans (congrArg Value.bool g150)) (by decide) ?_
     refine U.x rfl rfl rfl rfl ((L 10 rfl rfl).trans (congrArg Value.bool g150)) (by decide) ?_
     refine U.p rfl rfl (.inl rfl) (S.pickF rfl ((L 11 rfl rfl).trans (congrArg Value.bool g150)) K) ?_
     refine U.done (nr rfl) ?_
     refine sqN ?_
     exact ⟨_, V86, rfl, ⟨false, rfl, (.refl _), ow88, h178⟩, (allCons (L 16 rfl rfl) (allCons (L 17 rfl rfl) (allCons (L 18 rfl rfl) (allCons (L 19 rfl rfl) (allCons (L 20 rfl rfl) (allCons (L 0 rfl rfl) allNil))))))⟩
 ·skip
  refine WP.udreg rfl rfl rfl ?_
  refine U.p rfl rfl (.inl rfl) (S.move rfl (L 3 rfl rfl)) ?_
  refine U.p rfl rfl (.inl rfl) (S.move rfl (L 5 rfl rfl)) ?_
  refine U.p rfl rfl (.inl rfl) (S.leq rfl (L 1 rfl rfl) (L 0 rfl rfl)) ?_
  refine U.p rfl rfl (.inl rfl) (S.move rfl (L 0 rfl rfl)) ?_
  refine bcase (b := decide (x63 ≤ x52)) (fun g179 => ?_) (fun g179 => ?_)
  ·have h180 := ifT g179 h73
   refine U.p rfl rfl (.inr ⟨_, _, _, rfl, rfl, ((L 0 rfl rfl).trans (congrArg Value.bool g179))⟩) (S.move rfl (L 6 rfl rfl)) ?_
   refine U.p rfl rfl (.inr ⟨_, _, _, rfl, rfl, ((L 1 rfl rfl).trans (congrArg Value.bool g179))⟩) (S.move rfl (L 5 rfl rfl)) ?_
   refine U.p rfl rfl (.inr ⟨_, _, _, rfl, rfl, ((L 2 rfl rfl).trans (congrArg Value.bool g179))⟩) (S.move rfl (L 7 rfl rfl)) ?_
   obtain ⟨x181, hx182, h183⟩ := bindS h180
   obtain ⟨_, hv184, _⟩ := ow68.osel (k := 0) rfl hv10 hx182
   refine U.p rfl rfl (.inr ⟨_, _, _, rfl, rfl, ((L 3 rfl rfl).trans (congrArg Value.bool g179))⟩) (S.index rfl ((L 1 rfl rfl).trans hv184) (L 0 rfl rfl) Try.underlying38 ti45 (ix_ge hx182) (ix_lt hx182)) ?_
   obtain ⟨cs185, hv186, hlt187, hr188, hc189⟩ := ow68.osel (k := 0) rfl hv10 hx182
   obtain rfl : cs185 = [.int .i64 x181.e.t, .int .i64 x181.e.act.kind, .int .i64 x181.e.act.at_, .int .i64 x181.e.act.val, .int .i64 x181.e.act.what, .bool x181.e.act.volatile, .bool x181.e.act.final, .int .i64 x181.e.rf, .int .i64 x181.e.id, .int .i64 x181.at_] := hr188
   refine U.k rfl rfl (.inr ⟨_, _, _, rfl, rfl, ((L 4 rfl rfl).trans (congrArg Value.bool g179))⟩) (S.loadN (cs := [.int .i64 x181.e.t, .int .i64 x181.e.act.kind, .int .i64 x181.e.act.at_, .int .i64 x181.e.act.val, .int .i64 x181.e.act.what, .bool x181.e.act.volatile, .bool x181.e.act.final, .int .i64 x181.e.rf, .int .i64 x181.e.id, .int .i64 x181.at_]) rfl (L 0 rfl rfl) Try.underlying45 rfl ti45 rfl hc189) (fun _ => (okH.nil (fun r h => by cases h; exact hlt187))) ?_
   refine U.p rfl rfl (.inr ⟨_, _, _, rfl, rfl, ((L 5 rfl rfl).trans (congrArg Value.bool g179))⟩) (S.move rfl (L 9 rfl rfl)) ?_
   refine U.p rfl rfl (.inr ⟨_, _, _, rfl, rfl, ((L 6 rfl rfl).trans (congrArg Value.bool g179))⟩) (S.move rfl (L 13 rfl rfl)) ?_
   obtain ⟨x190, hx191, h192⟩ := bindS h183
   obtain ⟨_, hv193, _⟩ := ow68.osel (k := 0) rfl hv10 hx191
   refine U.p rfl rfl (.inr ⟨_, _, _, rfl, rfl, ((L 7 rfl rfl).trans (congrArg Value.bool g179))⟩) (S.index rfl ((L 1 rfl rfl).trans hv193) (L 0 rfl rfl) Try.underlying38 ti45 (ix_ge hx191) (ix_lt hx191)) ?_
   obtain ⟨cs194, hv195, hlt196, hr197, hc198⟩ := ow68.osel (k := 0) rfl hv10 hx191
   obtain rfl : cs194 = [.int .i64 x190.e.t, .int .i64 x190.e.act.kind, .int .i64 x190.e.act.at_, .int .i64 x190.e.act.val, .int .i64 x190.e.act.what, .bool x190.e.act.volatile, .bool x190.e.act.final, .int .i64 x190.e.rf, .int .i64 x190.e.id, .int .i64 x190.at_] := hr197
   refine U.k rfl rfl (.inr ⟨_, _, _, rfl, rfl, ((L 8 rfl rfl).trans (congrArg Value.bool g179))⟩) (S.loadN (cs := [.int .i64 x190.e.t, .int .i64 x190.e.act.kind, .int .i64 x190.e.act.at_, .int .i64 x190.e.act.val, .int .i64 x190.e.act.what, .bool x190.e.act.volatile, .bool x190.e.act.final, .int .i64 x190.e.rf, .int .i64 x190.e.id, .int .i64 x190.at_]) rfl (L 0 rfl rfl) Try.underlying45 rfl ti45 rfl hc198) (fun _ => (okH.cons trivial (okH.nil (fun r h => by cases h; exact hlt196)))) ?_
   obtain ⟨x199, hx200, h201⟩ := bindS h192
   refine O.callv (V := V66) rfl rfl (.inr ⟨_, _, _, rfl, rfl, ((L 9 rfl rfl).trans (congrArg Value.bool g179))⟩) rfl (L 8 rfl rfl) en50 (aC (L 4 rfl rfl) (aC (L 0 rfl rfl) aN)) (wk_order_Run_Apart_c2 V66 _ x181 x190 ow68 _ hx200) (fun v202 V203 le204 hp205 => by obtain ⟨rfl, ow206⟩ := hp205; exact (fun _ => (okH.cons (Or.inl rfl) (okH.cons (Or.inl rfl) (okH.nil (fun r h => nomatch h)))))) (fun v202 V203 le204 hp205 => ?_)
   obtain ⟨rfl, ow206⟩ := hp205
   refine U.p rfl rfl (.inr ⟨_, _, _, rfl, rfl, ((L 10 rfl rfl).trans (congrArg Value.bool g179))⟩) (S.lss rfl (L 0 rfl rfl) K) ?_
   refine U.p rfl rfl (.inr ⟨_, _, _, rfl, rfl, ((L 11 rfl rfl).trans (congrArg Value.bool g179))⟩) (S.not rfl (L 0 rfl rfl)) ?_
   refine U.p rfl rfl (.inl rfl) (S.pickT rfl ((L 12 rfl rfl).trans (congrArg Value.bool g179)) (L 0 rfl rfl)) ?_
   refine U.done (nr rfl) ?_
   refine sqN ?_
   exact ⟨_, V203, rfl, ⟨!(decide (x199 < 0)), rfl, le204, ow206, h201⟩, (allCons (L 17 rfl rfl) (allCons (L 18 rfl rfl) (allCons (L 19 rfl rfl) (allCons (L 20 rfl rfl) (allCons (L 21 rfl rfl) (allCons (L 0 rfl rfl) allNil))))))⟩
  ·have h207 := ifF g179 h73
   refine U.x rfl rfl rfl rfl ((L 0 rfl rfl).trans (congrArg Value.bool g179)) (by decide) ?_
   refine U.x rfl rfl rfl rfl ((L 1 rfl rfl).trans (congrArg Value.bool g179)) (by decide) ?_
   refine U.x rfl rfl rfl rfl ((L 2 rfl rfl).trans (congrArg Value.bool g179)) (by decide) ?_
   refine U.x rfl rfl rfl rfl ((L 3 rfl rfl).trans (congrArg Value.bool g179)) (by decide) ?_
   refine U.x rfl rfl rfl rfl ((L 4 rfl rfl).trans (congrArg Value.bool g179)) (by decide) ?_
   refine U.x rfl rfl rfl rfl ((L 5 rfl rfl).trans (congrArg Value.bool g179)) (by decide) ?_
   refine U.x rfl rfl rfl rfl ((L 6 rfl rfl).trans (congrArg Value.bool g179)) (by decide) ?_
   refine U.x rfl rfl rfl rfl ((L 7 rfl rfl).trans (congrArg Value.bool g179)) (by decide) ?_
   refine U.x rfl rfl rfl rfl ((L 8 rfl rfl).trans (congrArg Value.bool g179)) (by decide) ?_
   refine U.x rfl rfl rfl rfl ((L 9 rfl rfl).trans (congrArg Value.bool g179)) (by decide) ?_
   refine U.x rfl rfl rfl rfl ((L 10 rfl rfl).trans (congrArg Value.bool g179)) (by decide) ?_
   refine U.x rfl rfl rfl rfl ((L 11 rfl rfl).trans (congrArg Value.bool g179)) (by decide) ?_
   refine U.p rfl rfl (.inl rfl) (S.pickF rfl ((L 12 rfl rfl).trans (congrArg Value.bool g179)) K) ?_
   refine U.done (nr rfl) ?_
   refine sqN ?_
   exact ⟨_, V66, rfl, ⟨false, rfl, (.refl _), ow68, h207⟩, (allCons (L 17 rfl rfl) (allCons (L 18 rfl rfl) (allCons (L 19 rfl rfl) (allCons (L 20 rfl rfl) (allCons (L 21 rfl rfl) (allCons (L 0 rfl rfl) allNil))))))⟩
end Go.Vm.GA21
