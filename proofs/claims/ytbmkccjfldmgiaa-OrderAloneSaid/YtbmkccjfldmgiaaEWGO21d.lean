/-
  What the functions compute is what the plain ones say, for all inputs at which those answer.
-/
import Derived.Test.YtbmkccjfldmgiaaEWGO21c
set_option linter.unusedSimpArgs false
set_option linter.unusedVariables false
namespace Go.Vm.GO21
open Go Go.Proofs

set_option maxHeartbeats 4000000 in
set_option maxRecDepth 10000 in
theorem wk_law21_OrderAlone (V : Vw) (Rs : List At) (p0 : List Int) (p1 : List Int) (v1 : Value) (v3 : Value) (f2 : Fz (RT.int .i64) V v1 p0) (f4 : Fz (RT.int .i64) V v3 p1) (ow : Ow V (Rs)) (r : Bool) (h : law21_OrderAlone p0 p1 = some r) : ∃ v V', Cl Try.prog 0 7 #[v1, v3] V.H v V'.H ∧ V.le V' ∧ (v = .bool r ∧ Ow V' (Rs)) := by
 refine Ct.of (Nat.zero_le _) Try.func7 rfl (Nat.le_of_ble_eq_true rfl) ?_
 unfold law21_OrderAlone at h
 refine WP.usreg rfl ?_
 refine U.p rfl rfl (.inl rfl) (S.assign rfl K) ?_
 refine U.done (Nat.le_of_ble_eq_true rfl) ?_
 refine WP.seq ?_
 refine WP.usreg rfl ?_
 obtain ⟨x5, hx6, h7⟩ := bindS h
 refine O.call (V := V) rfl rfl (.inl rfl) rfl en8 aN (wk_law21_alive V _ ow _ hx6) (fun _ _ _ _ => nd) (fun v8 V9 le10 hp11 => ?_)
 obtain ⟨rfl, ow12⟩ := hp11
 refine U.p rfl rfl (.inl rfl) (S.not rfl (L 0 rfl rfl)) ?_
 refine U.done (Nat.le_of_ble_eq_true rfl) ?_
 refine WP.cond _ (L 0 rfl rfl) rfl (fun c13 => ?_) (fun c13 => ?_)
 ·have h14 := ifT c13 h7
  have k15 : x5 = false := by simpa using c13
  refine WP.usreg rfl ?_
  refine U.p rfl rfl (.inl rfl) (S.assign rfl K) ?_
  refine U.done (Nat.le_of_ble_eq_true rfl) ?_
  refine WP.ret ?_
  refine sqR ?_
  refine fin.slot (.inr rfl) rfl (L 0 rfl rfl) ⟨V9, rfl, le10, ?_⟩
  have e16 := Option.some.inj h14
  subst e16
  exact ⟨rfl, ow12⟩
 ·have h17 := ifF c13 h7
  have k18 : x5 = true := by simpa using c13
  refine WP.skip ?_
  refine sqN ?_
  refine WP.seq ?_
  refine WP.usreg rfl ?_
  refine U.p rfl rfl (.inl rfl) (S.move rfl (L 3 rfl rfl)) ?_
  refine U.p rfl rfl (.inl rfl) (f2.1.len rfl (L 0 rfl rfl) Try.underlying32) ?_
  refine U.p rfl rfl (.inl rfl) (S.gtr rfl (L 0 rfl rfl) K) ?_
  refine U.p rfl rfl (.inl rfl) (S.move rfl (L 0 rfl rfl)) ?_
  refine U.joinX 10 (fun e H => ∃ (u19 u20 u21 u22 u23 : Value), H = V9.H ∧ e = [(22, .bool ((decide (24 < (p0.length : Int))) || (decide ((p1.length : Int) < (p0.length : Int))))), (21, u19), (20, u20), (19, u21), (18, u22), (17, u23)]) ?_ ?_
  ·rintro _ _ ⟨u19, u20, u21, u22, u23, rfl, rfl⟩
   refine U.done (Nat.le_of_ble_eq_true rfl) ?_
   refine WP.cond _ (L 0 rfl rfl) rfl (fun c27 => ?_) (fun c27 => ?_)
   ·have h28 := ifT c27 h17
    refine WP.usreg rfl ?_
    refine U.p rfl rfl (.inl rfl) (S.assign rfl K) ?_
    refine U.done (Nat.le_of_ble_eq_true rfl) ?_
    refine WP.ret ?_
    refine sqR ?_
    refine fin.slot (.inr rfl) rfl (L 0 rfl rfl) ⟨V9, rfl, le10, ?_⟩
    have e29 := Option.some.inj h28
    subst e29
    exact ⟨rfl, ow12⟩
   ·have h30 := ifF c27 h17
    refine WP.skip ?_
    refine sqN ?_
    refine WP.usreg rfl ?_
    refine U.p rfl rfl (.inl rfl) (S.assign rfl K) ?_
    refine U.done (Nat.le_of_ble_eq_true rfl) ?_
    refine WP.usreg rfl ?_
    refine O.makeMap (RT.int .i64) false ow12 rfl rfl (.inl rfl) rfl (fun _ => nd) (fun v31 V32 le33 ow34 => ?_)
    refine U.p rfl rfl (.inl rfl) (S.assign rfl (L 0 rfl rfl)) ?_
    refine U.done (Nat.le_of_ble_eq_true rfl) ?_
    refine WP.seq ?_
    refine WP.usreg rfl ?_
    refine U.p rfl rfl (.inl rfl) (S.move rfl (L 16 rfl rfl)) ?_
    refine U.p rfl rfl (.inl rfl) (f2.1.len rfl (L 0 rfl rfl) Try.underlying32) ?_
    refine U.p rfl rfl (.inl rfl) (S.move rfl K) ?_
    refine U.done (Nat.le_of_ble_eq_true rfl) ?_
    refine WP.blk ?_
    have ow41 := ow34.nil RT_TEvent
    unfold law21_OrderAlone_l1 at h30
    obtain ⟨n44, hn43⟩ := loopO_some.1 h30
    refine WP.loopI2 (fun n l V' => ∃ (v37 : Value) (xs38 : List TEvent) (xs39 : List (Int × Int)) (x40 : Int), l = [(1, v3), (5, v37), (6, v31), (24, v1), (25, .int .i64 (p0.length : Int)), (26, .int .i64 x40)] ∧ V32.le V' ∧ Ow V' (.os RT_TEvent v37 xs38 :: .om (RT.int .i64) false v31 xs39 :: Rs) ∧ itO (fun s => law21_OrderAlone_l1b p0 p1 s.1 s.2.1 s.2.2) n (xs38, xs39, x40) = some r) n44 _ ⟨(.slice none 0 0), [], [], 0, rfl, .refl _, ow41, hn43⟩ (allCons (L 20 rfl rfl) (allCons (L 5 rfl rfl) (allCons (L 3 rfl rfl) (allCons (L 2 rfl rfl) (allCons (L 1 rfl rfl) (allCons (L 0 rfl rfl) allNil)))))) ?_
    rintro _ _ V45 ⟨v37, xs38, xs39, x40, rfl, le46, ow47, h51⟩
    obtain ⟨m48, q49, rfl, h52, e50⟩ := itS h51
    replace h52 : law21_OrderAlone_l1b p0 p1 xs38 xs39 x40 = some q49 := h52
    unfold law21_OrderAlone_l1b at h52
    refine WP.usreg rfl ?_
    refine U.p rfl rfl (.inl rfl) (S.lss rfl (L 5 rfl rfl) (L 4 rfl rfl)) ?_
    refine U.done (Nat.le_of_ble_eq_true rfl) ?_
    refine WP.seq ?_
    refine WP.cond _ (L 0 rfl rfl) rfl (fun c53 => ?_) (fun c53 => ?_)
    ·have h54 := ifT c53 h52
     refine WP.skip ?_
     refine sqN ?_
     refine WP.seqI (fun l V' => ∃ (v56 : Value) (xs57 : List TEvent) (xs58 : List (Int × Int)), l = [(1, v3), (5, v56), (6, v31), (24, v1), (25, .int .i64 (p0.length : Int)), (26, .int .i64 x40)] ∧ V45.le V' ∧ Ow V' (.os RT_TEvent v56 xs57 :: .om (RT.int .i64) false v31 xs58 :: Rs) ∧ law21_OrderAlone_k1 x40 xs57 xs58 = some q49) ?_ ?_
     ·rintro _ V59 ⟨v56, xs57, xs58, rfl, le60, ow61, h62⟩
      unfold law21_OrderAlone_k1 at h62
      refine WP.ureg rfl ?_
      refine U.p rfl rfl (.inl rfl) (S.add rfl (L 5 rfl rfl) K) ?_
      refine U.p rfl rfl (.inl rfl) (S.move rfl (L 0 rfl rfl)) ?_
      refine U.done (Nat.le_of_ble_eq_true rfl) ?_
      refine sqN ?_
      exact ⟨_, V59, rfl, ⟨m48, Nat.lt_succ_self _, v56, xs57, xs58, w64 (x40 + 1), rfl, (le46.trans le60), ow61, backS h62 e50⟩, (allCons (L 2 rfl rfl) (allCons (L 3 rfl rfl) (allCons (L 4 rfl rfl) (allCons (L 5 rfl rfl) (allCons (L 6 rfl rfl) (allCons (L 0 rfl rfl) allNil))))))⟩
     ·skip
      refine WP.blk ?_
      refine WP.usreg rfl ?_
      refine U.p rfl rfl (.inl rfl) (S.move rfl (L 6 rfl rfl)) ?_
      obtain ⟨x63, hx64, h65⟩ := bindS h54
      obtain ⟨b66, o67, c68, cs69, hv70, hf71, hr72, hc73⟩ := f2.at hx64
      obtain rfl : cs69 = [.int .i64 x63] := hr72
      refine U.p rfl rfl (.inl rfl) (S.index rfl ((L 5 rfl rfl).trans hv70) (L 7 rfl rfl) Try.underlying32 ti3 (ix_ge hx64) (ix_lt hx64)) ?_
      refine U.k rfl rfl (.inl rfl) (S.load rfl (L 0 rfl rfl) Try.underlying3 rfl (((le10.trans le33).trans le46).cell hf71 (hc73 0 _ rfl))) nd ?_
      refine U.p rfl rfl (.inl rfl) (S.assign rfl (L 2 rfl rfl)) ?_
      refine U.p rfl rfl (.inl rfl) (S.assign rfl (L 1 rfl rfl)) ?_
      refine U.done (Nat.le_of_ble_eq_true rfl) ?_
      refine WP.usreg rfl ?_
      refine U.p rfl rfl (.inl rfl) (S.move rfl (L 6 rfl rfl)) ?_
      refine U.p rfl rfl (.inl rfl) (S.move rfl (L 2 rfl rfl)) ?_
      obtain ⟨x74, hx75, h76⟩ := bindS h65
      obtain ⟨b77, o78, c79, cs80, hv81, hf82, hr83, hc84⟩ := f4.at hx75
      obtain rfl : cs80 = [.int .i64 x74] := hr83
      refine U.p rfl rfl (.inl rfl) (S.index rfl ((L 1 rfl rfl).trans hv81) (L 0 rfl rfl) Try.underlying32 ti3 (ix_ge hx75) (ix_lt hx75)) ?_
      refine U.k rfl rfl (.inl rfl) (S.load rfl (L 0 rfl rfl) Try.underlying3 rfl (((le10.trans le33).trans le46).cell hf82 (hc84 0 _ rfl))) nd ?_
      refine U.p rfl rfl (.inl rfl) (S.conv rfl (L 0 rfl rfl) Try.underlying3 Try.underlying34) ?_
      obtain ⟨x85, hx86, h87⟩ := bindS h76
      refine U.p rfl rfl (.inl rfl) (S.rem hx86 rfl (L 0 rfl rfl) K) ?_
      refine U.p rfl rfl (.inl rfl) (S.conv rfl (L 0 rfl rfl) Try.underlying34 Try.underlying3) ?_
      refine U.p rfl rfl (.inl rfl) (S.add rfl K (L 0 rfl rfl)) ?_
      refine U.p rfl rfl (.inl rfl) (S.mul rfl K (L 0 rfl rfl)) ?_
      refine U.p rfl rfl (.inl rfl) (S.assign rfl (L 0 rfl rfl)) ?_
      refine U.done (Nat.le_of_ble_eq_true rfl) ?_
      refine WP.usreg rfl ?_
      refine U.p rfl rfl (.inl rfl) (S.move rfl (L 10 rfl rfl)) ?_
      obtain ⟨x88, hx89, h90⟩ := bindS h87
      refine U.p rfl rfl (.inl rfl) (S.rem hx89 rfl (L 0 rfl rfl) K) ?_
      refine U.p rfl rfl (.inl rfl) (S.eqlI rfl (L 0 rfl rfl) K) ?_
      refine U.done (Nat.le_of_ble_eq_true rfl) ?_
      refine WP.cond _ (L 0 rfl rfl) rfl (fun c91 => ?_) (fun c91 => ?_)
      ·have h92 := ifT c91 h90
       refine WP.usreg rfl ?_
       refine U.p rfl rfl (.inl rfl) (S.move rfl (L 20 rfl rfl)) ?_
       refine U.p rfl rfl (.inl rfl) (S.move rfl (L 4 rfl rfl)) ?_
       refine U.p (v := .agg #[.int .i64 2, .int .i64 (w64 (8 * (w64 (1 + (w64 x85))))), .int .i64 0, .int .i64 0, .bool false, .bool false]) rfl rfl (.inl rfl) (S.build (vs := [.int .i64 2, .int .i64 (w64 (8 * (w64 (1 + (w64 x85)))))]) rfl ti29 rfl pl29 (aC K (aC (L 0 rfl rfl) aN)) (allC (by simp [topV]) (allC (by simp [topV]) allN)) rfl) ?_
       refine U.p rfl rfl (.inl rfl) (S.move rfl (L 17 rfl rfl)) ?_
       refine U.p rfl rfl (.inl rfl) (S.add rfl (L 0 rfl rfl) K) ?_
       refine U.p (v := .agg #[.int .i64 0, .int .i64 2, .int .i64 (w64 (8 * (w64 (1 + (w64 x85))))), .int .i64 0, .int .i64 0, .bool false, .bool false, .int .i64 0, .int .i64 (w64 (x40 + 1))]) rfl rfl (.inl rfl) (S.build (vs := [.agg #[.int .i64 2, .int .i64 (w64 (8 * (w64 (1 + (w64 x85))))), .int .i64 0, .int .i64 0, .bool false, .bool false], .int .i64 (w64 (x40 + 1))]) rfl ti31 rfl pl31 (aC (L 2 rfl rfl) (aC (L 0 rfl rfl) aN)) (allC (by simp [topV]) (allC (by simp [topV]) allN)) (fillA (ws := [.int .i64 2, .int .i64 (w64 (8 * (w64 (1 + (w64 x85))))), .int .i64 0, .int .i64 0, .bool false, .bool false]) rfl rfl rfl (Nat.le_of_ble_eq_true rfl) (fill1 rfl rfl (Nat.le_of_ble_eq_true rfl) rfl))) ?_
       refine O.lit (R := RT_TEvent) ow47 rfl rfl (.inl rfl) rfl Try.underlying27 ti31 rfl rfl rfl (Nat.le_of_ble_eq_true rfl) rfl (aC (L 0 rfl rfl) aN) (.cons _ _ (⟨0, (⟨2, w64 (8 * (w64 (1 + (w64 x85)))), 0, 0, false, false⟩ : TAct), 0, w64 (x40 + 1)⟩ : TEvent) _ (by simp [topV]) rfl .nil) (fun _ => nd) (fun v93 V94 le95 ow96 => ?_)
       obtain ⟨xs98, hx99, h100⟩ := bindS h92
       refine O.append (k := 1) ow96 rfl rfl rfl (.inl rfl) rfl (L 6 rfl rfl) (L 0 rfl rfl) Try.underlying27 ti31 rfl rfl (Nat.le_of_ble_eq_true rfl) (ow96.src (k := 0) rfl Try.underlying27) hx99 (fun _ _ => nd) (fun v101 V102 le103 ow104 => ?_)
       refine U.p rfl rfl (.inl rfl) (S.assign rfl (L 0 rfl rfl)) ?_
       refine U.done (Nat.le_of_ble_eq_true rfl) ?_
       refine WP.ureg rfl ?_
       refine U.p rfl rfl (.inl rfl) (S.move rfl (L 30 rfl rfl)) ?_
       refine U.p rfl rfl (.inl rfl) (S.move rfl (L 13 rfl rfl)) ?_
       refine U.p rfl rfl (.inl rfl) (S.move rfl (L 25 rfl rfl)) ?_
       refine U.p rfl rfl (.inl rfl) (S.add rfl (L 0 rfl rfl) K) ?_
       refine O.mapUpdate (k := 2) (w := w64 (x40 + 1)) ow104 rfl rfl rfl (.inl rfl) rfl (L 3 rfl rfl) (L 2 rfl rfl) (L 0 rfl rfl) Try.underlying33 Try.underlying3 (cell_vrel rfl) (fun _ _ => nd) (fun V106 le107 ow108 => ?_)
       refine U.done (Nat.le_of_ble_eq_true rfl) ?_
       refine blkN (sqN ?_)
       have ow109 := ow108.drop 0 rfl
       exact ⟨_, V106, rfl, ⟨v101, xs98, mS xs39 (w64 (8 * (w64 (1 + (w64 x85))))) (w64 (x40 + 1)), rfl, ((le95.trans le103).trans le107), ow109, h100⟩, (allCons (L 32 rfl rfl) (allCons (L 4 rfl rfl) (allCons (L 34 rfl rfl) (allCons (L 35 rfl rfl) (allCons (L 36 rfl rfl) (allCons (L 37 rfl rfl) allNil))))))⟩
      ·have h110 := ifF c91 h90
       refine WP.ureg rfl ?_
       refine U.p rfl rfl (.inl rfl) (S.move rfl (L 20 rfl rfl)) ?_
       refine U.p rfl rfl (.inl rfl) (S.move rfl (L 4 rfl rfl)) ?_
       refine U.p (v := .agg #[.int .i64 1, .int .i64 (w64 (8 * (w64 (1 + (w64 x85))))), .int .i64 0, .int .i64 0, .bool false, .bool false]) rfl rfl (.inl rfl) (S.build (vs := [.int .i64 1, .int .i64 (w64 (8 * (w64 (1 + (w64 x85)))))]) rfl ti29 rfl pl29 (aC K (aC (L 0 rfl rfl) aN)) (allC (by simp [topV]) (allC (by simp [topV]) allN)) rfl) ?_
       refine U.p rfl rfl (.inl rfl) (S.move rfl (L 24 rfl rfl)) ?_
       refine U.p rfl rfl (.inl rfl) (S.move rfl (L 7 rfl rfl)) ?_
       refine O.lookup1 (k := 1) 0 ow47 rfl rfl rfl (.inl rfl) rfl (L 1 rfl rfl) (L 0 rfl rfl) Try.underlying33 Try.underlying3 ti3 rfl (cell_vrel rfl) (fun b111 hlt113 => nd) (fun b111 u112 hlt113 hr114 => ?_)
       obtain rfl : u112 = .int .i64 ((mG xs39 (w64 (8 * (w64 (1 + (w64 x85)))))).getD 0) := (List.cons.inj (vrel_cell hr114)).1
       refine U.p (v := .agg #[.int .i64 0, .int .i64 1, .int .i64 (w64 (8 * (w64 (1 + (w64 x85))))), .int .i64 0, .int .i64 0, .bool false, .bool false, .int .i64 ((mG xs39 (w64 (8 * (w64 (1 + (w64 x85)))))).getD 0), .int .i64 0]) rfl rfl (.inl rfl) (S.build (vs := [.agg #[.int .i64 1, .int .i64 (w64 (8 * (w64 (1 + (w64 x85))))), .int .i64 0, .int .i64 0, .bool false, .bool false], .int .i64 ((mG xs39 (w64 (8 * (w64 (1 + (w64 x85)))))).getD 0)]) rfl ti31 rfl pl31 (aC (L 3 rfl rfl) (aC (L 0 rfl rfl) aN)) (allC (by simp [topV]) (allC (by simp [topV]) allN)) (fillA (ws := [.int .i64 1, .int .i64 (w64 (8 * (w64 (1 + (w64 x85))))), .int .i64 0, .int .i64 0, .bool false, .bool false]) rfl rfl rfl (Nat.le_of_ble_eq_true rfl) (fill1 rfl rfl (Nat.le_of_ble_eq_true rfl) rfl))) ?_
       refine O.lit (R := RT_TEvent) ow47 rfl rfl (.inl rfl) rfl Try.underlying27 ti31 rfl rfl rfl (Nat.le_of_ble_eq_true rfl) rfl (aC (L 0 rfl rfl) aN) (.cons _ _ (⟨0, (⟨1, w64 (8 * (w64 (1 + (w64 x85)))), 0, 0, false, false⟩ : TAct), (mG xs39 (w64 (8 * (w64 (1 + (w64 x85)))))).getD 0, 0⟩ : TEvent) _ (by simp [topV]) rfl .nil) (fun _ => nd) (fun v116 V117 le118 ow119 => ?_)
       obtain ⟨xs121, hx122, h123⟩ := bindS h110
       refine O.append (k := 1) ow119 rfl rfl rfl (.inl rfl) rfl (L 7 rfl rfl) (L 0 rfl rfl) Try.underlying27 ti31 rfl rfl (Nat.le_of_ble_eq_true rfl) (ow119.src (k := 0) rfl Try.underlying27) hx122 (fun _ _ => nd) (fun v124 V125 le126 ow127 => ?_)
       refine U.p rfl rfl (.inl rfl) (S.assign rfl (L 0 rfl rfl)) ?_
       refine U.done (Nat.le_of_ble_eq_true rfl) ?_
       refine blkN (sqN ?_)
       have ow129 := ow127.drop 0 rfl
       exact ⟨_, V125, rfl, ⟨v124, xs121, xs39, rfl, (le118.trans le126), ow129, h123⟩, (allCons (L 29 rfl rfl) (allCons (L 0 rfl rfl) (allCons (L 31 rfl rfl) (allCons (L 32 rfl rfl) (allCons (L 33 rfl rfl) (allCons (L 34 rfl rfl) allNil))))))⟩
    ·have h130 := ifF c53 h52
     refine WP.exit ?_
     refine sqE (sqE (blkE (sqN ?_)))
     have h131 := exitS h130 e50
     refine WP.usreg rfl ?_
     refine U.p rfl rfl (.inl rfl) (S.move rfl (L 2 rfl rfl)) ?_
     refine O.litS (RI := (RO.os RT_TEvent)) (Bs := [.os RT_TEvent v37 xs38]) (As := .om (RT.int .i64) false v31 xs39 :: Rs) (us := ([v37] : List Value)) (ys := [xs38]) ow47 rfl rfl (.inl rfl) rfl Try.underlying25 ti27 rfl rfl (Nat.le_of_ble_eq_true rfl) rfl (aC (L 0 rfl rfl) aN) (fun p hp => all1 hp) (fun _ => nd) (fun v132 V133 le134 ow135 => ?_)
     refine U.p rfl rfl (.inl rfl) (S.assign rfl (L 0 rfl rfl)) ?_
     refine U.done (Nat.le_of_ble_eq_true rfl) ?_
     refine WP.usreg rfl ?_
     refine U.p rfl rfl (.inl rfl) (S.move rfl (L 0 rfl rfl)) ?_
     obtain ⟨x137, hx138, h139⟩ := bindS h131
     refine O.call (V := V133) rfl rfl (.inl rfl) rfl en14 (aC (L 0 rfl rfl) aN) (wk_order_Run_Serial V133 _ [xs38] v132 ([v37] : List Value) ow135 _ hx138) (fun _ _ _ _ => nd) (fun v140 V141 le142 hp143 => ?_)
     obtain ⟨rfl, ow144⟩ := hp143
     refine U.p rfl rfl (.inl rfl) (S.move rfl (L 0 rfl rfl)) ?_
     obtain ⟨y145, hy146, h147⟩ := bindS h139
     refine U.joinX 6 (fun e H => ∃ (u148 u149 : Value), ∃ V' : Vw, H = V'.H ∧ V141.le V' ∧ e = [(72, .bool y145), (71, u148), (70, u149)] ∧ Ow V' (.oss (RO.os RT_TEvent) v132 ([v37] : List Value) [xs38] :: .om (RT.int .i64) false v31 xs39 :: Rs)) ?_ ?_
     ·rintro _ _ ⟨u148, u149, V150, rfl, le151, rfl, ow152⟩
      refine U.p rfl rfl (.inl rfl) (S.move rfl (L 0 rfl rfl)) ?_
      obtain ⟨y153, hy154, h155⟩ := bindS h147
      refine U.joinX 10 (fun e H => ∃ (u156 u157 : Value), ∃ V' : Vw, H = V'.H ∧ V150.le V' ∧ e = [(76, .bool y153), (75, u156), (74, u157)] ∧ Ow V' (.oss (RO.os RT_TEvent) v132 ([v37] : List Value) [xs38] :: .om (RT.int .i64) false v31 xs39 :: Rs)) ?_ ?_
      ·rintro _ _ ⟨u156, u157, V158, rfl, le159, rfl, ow160⟩
       refine U.p rfl rfl (.inl rfl) (S.move rfl (L 0 rfl rfl)) ?_
       obtain ⟨y161, hy162, h163⟩ := bindS h155
       refine U.joinX 14 (fun e H => ∃ (u164 u165 : Value), ∃ V' : Vw, H = V'.H ∧ V158.le V' ∧ e = [(80, .bool y161), (79, u164), (78, u165)] ∧ Ow V' (.oss (RO.os RT_TEvent) v132 ([v37] : List Value) [xs38] :: .om (RT.int .i64) false v31 xs39 :: Rs)) ?_ ?_
       ·rintro _ _ ⟨u164, u165, V166, rfl, le167, rfl, ow168⟩
        refine U.p rfl rfl (.inl rfl) (S.move rfl (L 0 rfl rfl)) ?_
        obtain ⟨y169, hy170, h171⟩ := bindS h163
        refine U.joinX 19 (fun e H => ∃ (u172 u173 u174 : Value), ∃ V' : Vw, H = V'.H ∧ V166.le V' ∧ e = [(85, .bool y169), (84, u172), (83, u173), (82, u174)] ∧ Ow V' (.oss (RO.os RT_TEvent) v132 ([v37] : List Value) [xs38] :: .om (RT.int .i64) false v31 xs39 :: Rs)) ?_ ?_
        ·rintro _ _ ⟨u172, u173, u174, V175, rfl, le176, rfl, ow177⟩
         refine U.p rfl rfl (.inl rfl) (S.move rfl (L 0 rfl rfl)) ?_
         obtain ⟨y178, hy179, h180⟩ := bindS h171
         refine U.joinX 23 (fun e H => ∃ (u181 u182 : Value), ∃ V' : Vw, H = V'.H ∧ V175.le V' ∧ e = [(89, .bool y178), (88, u181), (87, u182)] ∧ Ow V' (.oss (RO.os RT_TEvent) v132 ([v37] : List Value) [xs38] :: .om (RT.int .i64) false v31 xs39 :: Rs)) ?_ ?_
         ·rintro _ _ ⟨u181, u182, V183, rfl, le184, rfl, ow185⟩
          refine U.p rfl rfl (.inl rfl) (S.assign rfl (L 0 rfl rfl)) ?_
          refine U.done (Nat.le_of_ble_eq_true rfl) ?_
          refine WP.ret ?_
          refine fin.slot (.inr rfl) rfl (L 0 rfl rfl) ⟨V183, rfl, (((((((((le10.trans le33).trans le46).trans le134).trans le142).trans le151).trans le159).trans le167).trans le176).trans le184), ?_⟩
          have ow186 := ow185.drop 0 rfl
          have ow187 := ow186.drop 0 rfl
          have e188 := Option.some.inj h180
          subst e188
          exact ⟨rfl, ow187⟩
         ·intro kk
          refine bcase (b := y169) (fun g189 => ?_) (fun g189 => ?_)
          ·have h190 := ifT g189 hy179
           refine U.p rfl rfl (.inr ⟨_, _, _, rfl, rfl, ((L 0 rfl rfl).trans (congrArg Value.bool g189))⟩) (S.move rfl (L 20 rfl rfl)) ?_
           obtain ⟨x191, hx192, h193⟩ := bindS h190
           refine O.call (V := V175) rfl rfl (.inr ⟨_, _, _, rfl, rfl, ((L 1 rfl rfl).trans (congrArg Value.bool g189))⟩) rfl en19 (aC (L 0 rfl rfl) aN) (wk_order_Run_Apart V175 _ [xs38] v132 ([v37] : List Value) ow177 _ hx192) (fun _ _ _ _ => nd) (fun v194 V195 le196 hp197 => ?_)
           obtain ⟨rfl, ow198⟩ := hp197
           refine U.p rfl rfl (.inl rfl) (S.pickT rfl ((L 2 rfl rfl).trans (congrArg Value.bool g189)) (L 0 rfl rfl)) ?_
           have e199 := Option.some.inj h193
           subst e199
           exact kk [(89, .bool x191), (88, .bool x191), (87, v132)] _ ⟨.bool x191, v132, V195, rfl, le196, rfl, ow198⟩
          ·have h200 := ifF g189 hy179
           refine U.x rfl rfl rfl rfl ((L 0 rfl rfl).trans (congrArg Value.bool g189)) (by decide) ?_
           refine U.x rfl rfl rfl rfl ((L 1 rfl rfl).trans (congrArg Value.bool g189)) (by decide) ?_
           refine U.p rfl rfl (.inl rfl) (S.pickF rfl ((L 2 rfl rfl).trans (congrArg Value.bool g189)) K) ?_
           have e201 := Option.some.inj h200
           subst e201
           exact kk [(89, .bool false), (88, .tuple #[]), (87, .tuple #[])] _ ⟨.tuple #[], .tuple #[], V175, rfl, (.refl _), rfl, ow177⟩
        ·intro kk
         refine bcase (b := y161) (fun g202 => ?_) (fun g202 => ?_)
         ·have h203 := ifT g202 hy170
          refine U.p rfl rfl (.inr ⟨_, _, _, rfl, rfl, ((L 0 rfl rfl).trans (congrArg Value.bool g202))⟩) (S.move rfl (L 15 rfl rfl)) ?_
          obtain ⟨x204, hx205, h206⟩ := bindS h203
          refine O.call (V := V166) rfl rfl (.inr ⟨_, _, _, rfl, rfl, ((L 1 rfl rfl).trans (congrArg Value.bool g202))⟩) rfl en17 (aC (L 0 rfl rfl) aN) (wk_order_Run_Racy V166 _ [xs38] v132 ([v37] : List Value) ow168 _ hx205) (fun _ _ _ _ => nd) (fun v207 V208 le209 hp210 => ?_)
          obtain ⟨rfl, ow211⟩ := hp210
          refine U.p rfl rfl (.inr ⟨_, _, _, rfl, rfl, ((L 2 rfl rfl).trans (congrArg Value.bool g202))⟩) (S.not rfl (L 0 rfl rfl)) ?_
          refine U.p rfl rfl (.inl rfl) (S.pickT rfl ((L 3 rfl rfl).trans (congrArg Value.bool g202)) (L 0 rfl rfl)) ?_
          have e212 := Option.some.inj h206
          subst e212
          exact kk [(85, .bool (!x204)), (84, .bool (!x204)), (83, .bool x204), (82, v132)] _ ⟨.bool (!x204), .bool x204, v132, V208, rfl, le209, rfl, ow211⟩
         ·have h213 := ifF g202 hy170
          refine U.x rfl rfl rfl rfl ((L 0 rfl rfl).trans (congrArg Value.bool g202)) (by decide) ?_
          refine U.x rfl rfl rfl rfl ((L 1 rfl rfl).trans (congrArg Value.bool g202)) (by decide) ?_
          refine U.x rfl rfl rfl rfl ((L 2 rfl rfl).trans (congrArg Value.bool g202)) (by decide) ?_
          refine U.p rfl rfl (.inl rfl) (S.pickF rfl ((L 3 rfl rfl).trans (congrArg Value.bool g202)) K) ?_
          have e214 := Option.some.inj h213
          subst e214
          exact kk [(85, .bool false), (84, .tuple #[]), (83, .tuple #[]), (82, .tuple #[])] _ ⟨.tuple #[], .tuple #[], .tuple #[], V166, rfl, (.refl _), rfl, ow168⟩
       ·intro kk
        refine bcase (b := y153) (fun g215 => ?_) (fun g215 => ?_)
        ·have h216 := ifT g215 hy162
         refine U.p rfl rfl (.inr ⟨_, _, _, rfl, rfl, ((L 0 rfl rfl).trans (congrArg Value.bool g215))⟩) (S.move rfl (L 11 rfl rfl)) ?_
         obtain ⟨x217, hx218, h219⟩ := bindS h216
         refine O.call (V := V158) rfl rfl (.inr ⟨_, _, _, rfl, rfl, ((L 1 rfl rfl).trans (congrArg Value.bool g215))⟩) rfl en13 (aC (L 0 rfl rfl) aN) (wk_order_Run_Synced V158 _ [xs38] v132 ([v37] : List Value) ow160 _ hx218) (fun _ _ _ _ => nd) (fun v220 V221 le222 hp223 => ?_)
         obtain ⟨rfl, ow224⟩ := hp223
         refine U.p rfl rfl (.inl rfl) (S.pickT rfl ((L 2 rfl rfl).trans (congrArg Value.bool g215)) (L 0 rfl rfl)) ?_
         have e225 := Option.some.inj h219
         subst e225
         exact kk [(80, .bool x217), (79, .bool x217), (78, v132)] _ ⟨.bool x217, v132, V221, rfl, le222, rfl, ow224⟩
        ·have h226 := ifF g215 hy162
         refine U.x rfl rfl rfl rfl ((L 0 rfl rfl).trans (congrArg Value.bool g215)) (by decide) ?_
         refine U.x rfl rfl rfl rfl ((L 1 rfl rfl).trans (congrArg Value.bool g215)) (by decide) ?_
         refine U.p rfl rfl (.inl rfl) (S.pickF rfl ((L 2 rfl rfl).trans (congrArg Value.bool g215)) K) ?_
         have e227 := Option.some.inj h226
         subst e227
         exact kk [(80, .bool false), (79, .tuple #[]), (78, .tuple #[])] _ ⟨.tuple #[], .tuple #[], V158, rfl, (.refl _), rfl, ow160⟩
      ·intro kk
       refine bcase (b := y145) (fun g228 => ?_) (fun g228 => ?_)
       ·have h229 := ifT g228 hy154
        refine U.p rfl rfl (.inr ⟨_, _, _, rfl, rfl, ((L 0 rfl rfl).trans (congrArg Value.bool g228))⟩) (S.move rfl (L 7 rfl rfl)) ?_
        obtain ⟨x230, hx231, h232⟩ := bindS h229
        refine O.call (V := V150) rfl rfl (.inr ⟨_, _, _, rfl, rfl, ((L 1 rfl rfl).trans (congrArg Value.bool g228))⟩) rfl en15 (aC (L 0 rfl rfl) aN) (wk_order_Run_Consistent V150 _ [xs38] v132 ([v37] : List Value) ow152 _ hx231) (fun _ _ _ _ => nd) (fun v233 V234 le235 hp236 => ?_)
        obtain ⟨rfl, ow237⟩ := hp236
        refine U.p rfl rfl (.inl rfl) (S.pickT rfl ((L 2 rfl rfl).trans (congrArg Value.bool g228)) (L 0 rfl rfl)) ?_
        have e238 := Option.some.inj h232
        subst e238
        exact kk [(76, .bool x230), (75, .bool x230), (74, v132)] _ ⟨.bool x230, v132, V234, rfl, le235, rfl, ow237⟩
       ·have h239 := ifF g228 hy154
        refine U.x rfl rfl rfl rfl ((L 0 rfl rfl).trans (congrArg Value.bool g228)) (by decide) ?_
        refine U.x rfl rfl rfl rfl ((L 1 rfl rfl).trans (congrArg Value.bool g228)) (by decide) ?_
        refine U.p rfl rfl (.inl rfl) (S.pickF rfl ((L 2 rfl rfl).trans (congrArg Value.bool g228)) K) ?_
        have e240 := Option.some.inj h239
        subst e240
        exact kk [(76, .bool false), (75, .tuple #[]), (74, .tuple #[])] _ ⟨.tuple #[], .tuple #[], V150, rfl, (.refl _), rfl, ow152⟩
     ·intro kk
      refine bcase (b := x137) (fun g241 => ?_) (fun g241 => ?_)
      ·have h242 := ifT g241 hy146
       refine U.p rfl rfl (.inr ⟨_, _, _, rfl, rfl, ((L 0 rfl rfl).trans (congrArg Value.bool g241))⟩) (S.move rfl (L 3 rfl rfl)) ?_
       obtain ⟨x243, hx244, h245⟩ := bindS h242
       refine O.call (V := V141) rfl rfl (.inr ⟨_, _, _, rfl, rfl, ((L 1 rfl rfl).trans (congrArg Value.bool g241))⟩) rfl en11 (aC (L 0 rfl rfl) aN) (wk_order_Run_Coherent V141 _ [xs38] v132 ([v37] : List Value) ow144 _ hx244) (fun _ _ _ _ => nd) (fun v246 V247 le248 hp249 => ?_)
       obtain ⟨rfl, ow250⟩ := hp249
       refine U.p rfl rfl (.inl rfl) (S.pickT rfl ((L 2 rfl rfl).trans (congrArg Value.bool g241)) (L 0 rfl rfl)) ?_
       have e251 := Option.some.inj h245
       subst e251
       exact kk [(72, .bool x243), (71, .bool x243), (70, v132)] _ ⟨.bool x243, v132, V247, rfl, le248, rfl, ow250⟩
      ·have h252 := ifF g241 hy146
       refine U.x rfl rfl rfl rfl ((L 0 rfl rfl).trans (congrArg Value.bool g241)) (by decide) ?_
       refine U.x rfl rfl rfl rfl ((L 1 rfl rfl).trans (congrArg Value.bool g241)) (by decide) ?_
       refine U.p rfl rfl (.inl rfl) (S.pickF rfl ((L 2 rfl rfl).trans (congrArg Value.bool g241)) K) ?_
       have e253 := Option.some.inj h252
       subst e253
       exact kk [(72, .bool false), (71, .tuple #[]), (70, .tuple #[])] _ ⟨.tuple #[], .tuple #[], V141, rfl, (.refl _), rfl, ow144⟩
  ·intro kk
   refine bcase (b := decide (24 < (p0.length : Int))) (fun g254 => ?_) (fun g254 => ?_)
   ·skip
    refine U.x rfl rfl rfl rfl ((L 0 rfl rfl).trans (congrArg Value.bool g254)) (by decide) ?_
    refine U.x rfl rfl rfl rfl ((L 1 rfl rfl).trans (congrArg Value.bool g254)) (by decide) ?_
    refine U.x rfl rfl rfl rfl ((L 2 rfl rfl).trans (congrArg Value.bool g254)) (by decide) ?_
    refine U.x rfl rfl rfl rfl ((L 3 rfl rfl).trans (congrArg Value.bool g254)) (by decide) ?_
    refine U.x rfl rfl rfl rfl ((L 4 rfl rfl).trans (congrArg Value.bool g254)) (by decide) ?_
    refine U.p rfl rfl (.inl rfl) (S.pickT rfl ((L 5 rfl rfl).trans (congrArg Value.bool g254)) K) ?_
    exact kk [(22, .bool true), (21, .tuple #[]), (20, .tuple #[]), (19, .tuple #[]), (18, .tuple #[]), (17, .tuple #[])] _ ⟨.tuple #[], .tuple #[], .tuple #[], .tuple #[], .tuple #[], rfl, (by rw [g254, Bool.true_or])⟩
   ·skip
    refine U.p rfl rfl (.inr ⟨_, _, _, rfl, rfl, ((L 0 rfl rfl).trans (congrArg Value.bool g254))⟩) (S.move rfl (L 8 rfl rfl)) ?_
    refine U.p rfl rfl (.inr ⟨_, _, _, rfl, rfl, ((L 1 rfl rfl).trans (congrArg Value.bool g254))⟩) (f4.1.len rfl (L 0 rfl rfl) Try.underlying32) ?_
    refine U.p rfl rfl (.inr ⟨_, _, _, rfl, rfl, ((L 2 rfl rfl).trans (congrArg Value.bool g254))⟩) (S.move rfl (L 9 rfl rfl)) ?_
    refine U.p rfl rfl (.inr ⟨_, _, _, rfl, rfl, ((L 3 rfl rfl).trans (congrArg Value.bool g254))⟩) (f2.1.len rfl (L 0 rfl rfl) Try.underlying32) ?_
    refine U.p rfl rfl (.inr ⟨_, _, _, rfl, rfl, ((L 4 rfl rfl).trans (congrArg Value.bool g254))⟩) (S.lss rfl (L 2 rfl rfl) (L 0 rfl rfl)) ?_
    refine U.p rfl rfl (.inl rfl) (S.pickF rfl ((L 5 rfl rfl).trans (congrArg Value.bool g254)) (L 0 rfl rfl)) ?_
    exact kk [(22, .bool (decide ((p1.length : Int) < (p0.length : Int)))), (21, .bool (decide ((p1.length : Int) < (p0.length : Int)))), (20, .int .i64 (p0.length : Int)), (19, v1), (18, .int .i64 (p1.length : Int)), (17, v3)] _ ⟨.bool (decide ((p1.length : Int) < (p0.length : Int))), .int .i64 (p0.length : Int), v1, .int .i64 (p1.length : Int), v3, rfl, (by rw [g254, Bool.false_or])⟩

end Go.Vm.GO21
