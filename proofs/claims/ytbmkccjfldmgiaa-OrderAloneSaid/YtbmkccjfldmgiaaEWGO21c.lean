/-
  What the functions compute is what the plain ones say, for all inputs at which those answer.
-/
import Derived.Test.YtbmkccjfldmgiaaEWGO21b
set_option linter.unusedSimpArgs false
set_option linter.unusedVariables false
namespace Go.Vm.GO21
open Go Go.Proofs

set_option maxHeartbeats 4000000 in
set_option maxRecDepth 10000 in
theorem wk_slices_choosePivotCmpFunc (V : Vw) (Rs : List At) (p0 : List Torder_node) (p1 : Int) (p2 : Int) (v1 : Value) (ow : Ow V (.os RT_Torder_node v1 p0 :: Rs)) (r : Int × Int) (h : slices_choosePivotCmpFunc p0 p1 p2 = some r) : ∃ v V', Cl Try.prog 0 64 #[v1, .int .i64 p1, .int .i64 p2, .func (.func 50) #[] #[]] V.H v V'.H ∧ V.le V' ∧ (v = .tuple #[.int .i64 r.1, .int .i64 r.2] ∧ Ow V' (.os RT_Torder_node v1 p0 :: Rs)) := by
 refine Ct.of (Nat.zero_le _) Try.func64 rfl (Nat.le_of_ble_eq_true rfl) ?_
 unfold slices_choosePivotCmpFunc at h
 refine WP.usreg rfl ?_
 refine U.p rfl rfl (.inl rfl) (S.assign rfl K) ?_
 refine U.p rfl rfl (.inl rfl) (S.assign rfl K) ?_
 refine U.done (Nat.le_of_ble_eq_true rfl) ?_
 refine WP.usreg rfl ?_
 refine U.p rfl rfl (.inl rfl) (S.move rfl (L 4 rfl rfl)) ?_
 refine U.p rfl rfl (.inl rfl) (S.move rfl (L 4 rfl rfl)) ?_
 refine U.p rfl rfl (.inl rfl) (S.sub rfl (L 1 rfl rfl) (L 0 rfl rfl)) ?_
 refine U.p rfl rfl (.inl rfl) (S.assign rfl (L 0 rfl rfl)) ?_
 refine U.done (Nat.le_of_ble_eq_true rfl) ?_
 refine WP.usreg rfl ?_
 refine O.alloc ow rfl rfl (.inl rfl) rfl ti3 rfl rfl nd (fun b3 V4 le5 ow6 => ?_)
 refine U.done (Nat.le_of_ble_eq_true rfl) ?_
 refine WP.usreg rfl ?_
 refine U.p rfl rfl (.inl rfl) (S.move rfl (L 8 rfl rfl)) ?_
 refine U.p rfl rfl (.inl rfl) (S.move rfl (L 2 rfl rfl)) ?_
 obtain ⟨x8, hx9, h10⟩ := bindS h
 refine U.p rfl rfl (.inl rfl) (S.quo hx9 rfl (L 0 rfl rfl) K) ?_
 refine U.p rfl rfl (.inl rfl) (S.mul rfl (L 0 rfl rfl) K) ?_
 refine U.p rfl rfl (.inl rfl) (S.add rfl (L 3 rfl rfl) (L 0 rfl rfl)) ?_
 refine U.p rfl rfl (.inl rfl) (S.assign rfl (L 0 rfl rfl)) ?_
 refine U.done (Nat.le_of_ble_eq_true rfl) ?_
 refine WP.usreg rfl ?_
 refine U.p rfl rfl (.inl rfl) (S.move rfl (L 14 rfl rfl)) ?_
 refine U.p rfl rfl (.inl rfl) (S.move rfl (L 8 rfl rfl)) ?_
 obtain ⟨x11, hx12, h13⟩ := bindS h10
 refine U.p rfl rfl (.inl rfl) (S.quo hx12 rfl (L 0 rfl rfl) K) ?_
 refine U.p rfl rfl (.inl rfl) (S.mul rfl (L 0 rfl rfl) K) ?_
 refine U.p rfl rfl (.inl rfl) (S.add rfl (L 3 rfl rfl) (L 0 rfl rfl)) ?_
 refine U.p rfl rfl (.inl rfl) (S.assign rfl (L 0 rfl rfl)) ?_
 refine U.done (Nat.le_of_ble_eq_true rfl) ?_
 refine WP.usreg rfl ?_
 refine U.p rfl rfl (.inl rfl) (S.move rfl (L 20 rfl rfl)) ?_
 refine U.p rfl rfl (.inl rfl) (S.move rfl (L 14 rfl rfl)) ?_
 obtain ⟨x14, hx15, h16⟩ := bindS h13
 refine U.p rfl rfl (.inl rfl) (S.quo hx15 rfl (L 0 rfl rfl) K) ?_
 refine U.p rfl rfl (.inl rfl) (S.mul rfl (L 0 rfl rfl) K) ?_
 refine U.p rfl rfl (.inl rfl) (S.add rfl (L 3 rfl rfl) (L 0 rfl rfl)) ?_
 refine U.p rfl rfl (.inl rfl) (S.assign rfl (L 0 rfl rfl)) ?_
 refine U.done (Nat.le_of_ble_eq_true rfl) ?_
 refine WP.seqI (fun l V' => ∃ (x17 : Int) (x18 : Int), l = [(11, .pointer (some ⟨b3, 0, none⟩)), (13, .int .i64 x18)] ∧ V4.le V' ∧ Ow V' (.os RT_Torder_node v1 p0 :: .pt b3 (.cells 1 [.int .i64 x17]) :: Rs) ∧ slices_choosePivotCmpFunc_k1 x17 x18 = some r) ?_ ?_
 ·rintro _ V19 ⟨x17, x18, rfl, le20, ow21, h22⟩
  unfold slices_choosePivotCmpFunc_k1 at h22
  refine WP.usreg rfl ?_
  refine U.k rfl rfl (.inl rfl) (S.load rfl (L 0 rfl rfl) Try.underlying3 rfl ((ow21.own (k := 1) rfl).cell rfl)) nd ?_
  refine U.done (Nat.le_of_ble_eq_true rfl) ?_
  refine WP.blk ?_
  refine WP.usreg rfl ?_
  refine U.p rfl rfl (.inl rfl) (S.eqlI rfl (L 0 rfl rfl) K) ?_
  refine U.p rfl rfl (.inl rfl) (S.assign rfl (L 0 rfl rfl)) ?_
  refine U.done (Nat.le_of_ble_eq_true rfl) ?_
  refine WP.cond _ (L 0 rfl rfl) rfl (fun c23 => ?_) (fun c23 => ?_)
  ·have h24 := ifT c23 h22
   refine WP.usreg rfl ?_
   refine U.p rfl rfl (.inl rfl) (S.move rfl (L 4 rfl rfl)) ?_
   refine U.p rfl rfl (.inl rfl) (S.assign rfl (L 0 rfl rfl)) ?_
   refine U.p rfl rfl (.inl rfl) (S.assign rfl K) ?_
   refine U.done (Nat.le_of_ble_eq_true rfl) ?_
   refine WP.ret ?_
   refine blkR ?_
   refine fin.slots' (.inr rfl) (fsC (L 1 rfl rfl) (fsC (L 0 rfl rfl) fsN)) rfl ⟨V19, rfl, (le5.trans le20), ?_⟩
   have ow25 := ow21.drop 1 rfl
   have e26 := Option.some.inj h24
   subst e26
   exact ⟨rfl, ow25⟩
  ·have h27 := ifF c23 h22
   refine WP.usreg rfl ?_
   refine U.p rfl rfl (.inl rfl) (S.eqlI rfl (L 2 rfl rfl) K) ?_
   refine U.p rfl rfl (.inl rfl) (S.assign rfl (L 0 rfl rfl)) ?_
   refine U.done (Nat.le_of_ble_eq_true rfl) ?_
   refine WP.cond _ (L 0 rfl rfl) rfl (fun c28 => ?_) (fun c28 => ?_)
   ·have h29 := ifT c28 h27
    refine WP.usreg rfl ?_
    refine U.p rfl rfl (.inl rfl) (S.move rfl (L 6 rfl rfl)) ?_
    refine U.p rfl rfl (.inl rfl) (S.assign rfl (L 0 rfl rfl)) ?_
    refine U.p rfl rfl (.inl rfl) (S.assign rfl K) ?_
    refine U.done (Nat.le_of_ble_eq_true rfl) ?_
    refine WP.ret ?_
    refine blkR ?_
    refine fin.slots' (.inr rfl) (fsC (L 1 rfl rfl) (fsC (L 0 rfl rfl) fsN)) rfl ⟨V19, rfl, (le5.trans le20), ?_⟩
    have ow30 := ow21.drop 1 rfl
    have e31 := Option.some.inj h29
    subst e31
    exact ⟨rfl, ow30⟩
   ·have h32 := ifF c28 h27
    refine WP.usreg rfl ?_
    refine U.p rfl rfl (.inl rfl) (S.move rfl (L 6 rfl rfl)) ?_
    refine U.p rfl rfl (.inl rfl) (S.assign rfl (L 0 rfl rfl)) ?_
    refine U.p rfl rfl (.inl rfl) (S.assign rfl K) ?_
    refine U.done (Nat.le_of_ble_eq_true rfl) ?_
    refine WP.ret ?_
    refine blkR ?_
    refine fin.slots' (.inr rfl) (fsC (L 1 rfl rfl) (fsC (L 0 rfl rfl) fsN)) rfl ⟨V19, rfl, (le5.trans le20), ?_⟩
    have ow33 := ow21.drop 1 rfl
    have e34 := Option.some.inj h32
    subst e34
    exact ⟨rfl, ow33⟩
 ·skip
  refine WP.usreg rfl ?_
  refine U.p rfl rfl (.inl rfl) (S.move rfl (L 19 rfl rfl)) ?_
  refine U.p rfl rfl (.inl rfl) (S.geq rfl (L 0 rfl rfl) K) ?_
  refine U.done (Nat.le_of_ble_eq_true rfl) ?_
  refine WP.cond _ (L 0 rfl rfl) rfl (fun c35 => ?_) (fun c35 => ?_)
  ·have h36 := ifT c35 h16
   refine WP.seqI (fun l V' => ∃ (x37 : Int) (x38 : Int) (x39 : Int) (x40 : Int), l = [(0, v1), (3, .func (.func 50) #[] #[]), (11, .pointer (some ⟨b3, 0, none⟩)), (12, .int .i64 x38), (13, .int .i64 x39), (14, .int .i64 x40)] ∧ V4.le V' ∧ Ow V' (.os RT_Torder_node v1 p0 :: .pt b3 (.cells 1 [.int .i64 x37]) :: Rs) ∧ slices_choosePivotCmpFunc_k2 p0 x37 x38 x39 x40 = some r) ?_ ?_
   ·rintro _ V41 ⟨x37, x38, x39, x40, rfl, le42, ow43, h44⟩
    unfold slices_choosePivotCmpFunc_k2 at h44
    refine WP.ureg rfl ?_
    refine U.p rfl rfl (.inl rfl) (S.move rfl (L 0 rfl rfl)) ?_
    refine U.p rfl rfl (.inl rfl) (S.move rfl (L 4 rfl rfl)) ?_
    refine U.p rfl rfl (.inl rfl) (S.move rfl (L 6 rfl rfl)) ?_
    refine U.p rfl rfl (.inl rfl) (S.move rfl (L 8 rfl rfl)) ?_
    refine U.p rfl rfl (.inl rfl) (S.move rfl (L 5 rfl rfl)) ?_
    have ow45 := ow43.pick 1 rfl
    have ow46 := ow45.pick 1 rfl
    obtain ⟨x47, hx48, h49⟩ := bindS h44
    refine O.call (V := V41) rfl rfl (.inl rfl) rfl en75 (aC (L 4 rfl rfl) (aC (L 3 rfl rfl) (aC (L 2 rfl rfl) (aC (L 1 rfl rfl) (aC (L 7 rfl rfl) (aC (L 0 rfl rfl) aN)))))) (wk_slices_medianCmpFunc V41 _ p0 x38 x39 x40 x37 v1 b3 1 ow46 _ hx48) (fun _ _ _ _ => nd) (fun v50 V51 le52 hp53 => ?_)
    obtain ⟨rfl, ow54⟩ := hp53
    refine U.p rfl rfl (.inl rfl) (S.assign rfl (L 0 rfl rfl)) ?_
    refine U.done (Nat.le_of_ble_eq_true rfl) ?_
    refine sqN ?_
    exact ⟨_, V51, rfl, ⟨x47.2, x47.1, rfl, (le42.trans le52), ow54, h49⟩, (allCons (L 9 rfl rfl) (allCons (L 0 rfl rfl) allNil))⟩
   ·skip
    refine WP.usreg rfl ?_
    refine U.p rfl rfl (.inl rfl) (S.move rfl (L 21 rfl rfl)) ?_
    refine U.p rfl rfl (.inl rfl) (S.geq rfl (L 0 rfl rfl) K) ?_
    refine U.done (Nat.le_of_ble_eq_true rfl) ?_
    refine WP.cond _ (L 0 rfl rfl) rfl (fun c55 => ?_) (fun c55 => ?_)
    ·have h56 := ifT c55 h36
     refine WP.usreg rfl ?_
     refine U.p rfl rfl (.inl rfl) (S.move rfl (L 29 rfl rfl)) ?_
     refine U.p rfl rfl (.inl rfl) (S.move rfl (L 17 rfl rfl)) ?_
     refine U.p rfl rfl (.inl rfl) (S.move rfl (L 34 rfl rfl)) ?_
     have ow57 := ow6.pick 1 rfl
     obtain ⟨x58, hx59, h60⟩ := bindS h56
     refine O.call (V := V4) rfl rfl (.inl rfl) rfl en74 (aC (L 2 rfl rfl) (aC (L 1 rfl rfl) (aC (L 25 rfl rfl) (aC (L 0 rfl rfl) aN)))) (wk_slices_medianAdjacentCmpFunc V4 _ p0 (w64 (p1 + (w64 (x8 * 1)))) 0 v1 b3 1 ow57 _ hx59) (fun _ _ _ _ => nd) (fun v61 V62 le63 hp64 => ?_)
     obtain ⟨rfl, ow65⟩ := hp64
     refine U.p rfl rfl (.inl rfl) (S.assign rfl (L 0 rfl rfl)) ?_
     refine U.done (Nat.le_of_ble_eq_true rfl) ?_
     refine WP.usreg rfl ?_
     refine U.p rfl rfl (.inl rfl) (S.move rfl (L 34 rfl rfl)) ?_
     refine U.p rfl rfl (.inl rfl) (S.move rfl (L 16 rfl rfl)) ?_
     refine U.p rfl rfl (.inl rfl) (S.move rfl (L 39 rfl rfl)) ?_
     have ow66 := ow65.pick 1 rfl
     have ow67 := ow66.pick 1 rfl
     obtain ⟨x68, hx69, h70⟩ := bindS h60
     refine O.call (V := V62) rfl rfl (.inl rfl) rfl en74 (aC (L 2 rfl rfl) (aC (L 1 rfl rfl) (aC (L 30 rfl rfl) (aC (L 0 rfl rfl) aN)))) (wk_slices_medianAdjacentCmpFunc V62 _ p0 (w64 (p1 + (w64 (x11 * 2)))) x58.2 v1 b3 1 ow67 _ hx69) (fun _ _ _ _ => nd) (fun v71 V72 le73 hp74 => ?_)
     obtain ⟨rfl, ow75⟩ := hp74
     refine U.p rfl rfl (.inl rfl) (S.assign rfl (L 0 rfl rfl)) ?_
     refine U.done (Nat.le_of_ble_eq_true rfl) ?_
     refine WP.ureg rfl ?_
     refine U.p rfl rfl (.inl rfl) (S.move rfl (L 39 rfl rfl)) ?_
     refine U.p rfl rfl (.inl rfl) (S.move rfl (L 15 rfl rfl)) ?_
     refine U.p rfl rfl (.inl rfl) (S.move rfl (L 44 rfl rfl)) ?_
     have ow76 := ow75.pick 1 rfl
     have ow77 := ow76.pick 1 rfl
     obtain ⟨x78, hx79, h80⟩ := bindS h70
     refine O.call (V := V72) rfl rfl (.inl rfl) rfl en74 (aC (L 2 rfl rfl) (aC (L 1 rfl rfl) (aC (L 35 rfl rfl) (aC (L 0 rfl rfl) aN)))) (wk_slices_medianAdjacentCmpFunc V72 _ p0 (w64 (p1 + (w64 (x14 * 3)))) x68.2 v1 b3 1 ow77 _ hx79) (fun _ _ _ _ => nd) (fun v81 V82 le83 hp84 => ?_)
     obtain ⟨rfl, ow85⟩ := hp84
     refine U.p rfl rfl (.inl rfl) (S.assign rfl (L 0 rfl rfl)) ?_
     refine U.done (Nat.le_of_ble_eq_true rfl) ?_
     refine sqN ?_
     exact ⟨_, V82, rfl, ⟨x78.2, x58.1, x68.1, x78.1, rfl, ((le63.trans le73).trans le83), ow85, h80⟩, (allCons (L 44 rfl rfl) (allCons (L 47 rfl rfl) (allCons (L 37 rfl rfl) (allCons (L 10 rfl rfl) (allCons (L 5 rfl rfl) (allCons (L 0 rfl rfl) allNil))))))⟩
    ·have h86 := ifF c55 h36
     refine WP.skip ?_
     refine sqN ?_
     have ow87 := ow6.pick 0 rfl
     have ow88 := ow87.pick 1 rfl
     exact ⟨_, V4, rfl, ⟨0, w64 (p1 + (w64 (x8 * 1))), w64 (p1 + (w64 (x11 * 2))), w64 (p1 + (w64 (x14 * 3))), rfl, (.refl _), ow88, h86⟩, (allCons (L 29 rfl rfl) (allCons (L 32 rfl rfl) (allCons (L 22 rfl rfl) (allCons (L 16 rfl rfl) (allCons (L 10 rfl rfl) (allCons (L 4 rfl rfl) allNil))))))⟩
  ·have h89 := ifF c35 h16
   refine WP.skip ?_
   refine sqN ?_
   have ow90 := ow6.pick 0 rfl
   have ow91 := ow90.pick 1 rfl
   exact ⟨_, V4, rfl, ⟨0, w64 (p1 + (w64 (x11 * 2))), rfl, (.refl _), ow91, h89⟩, (allCons (L 20 rfl rfl) (allCons (L 8 rfl rfl) allNil))⟩

set_option maxHeartbeats 4000000 in
set_option maxRecDepth 10000 in
theorem wk_slices_reverseRangeCmpFunc (V : Vw) (Rs : List At) (p0 : List Torder_node) (p1 : Int) (p2 : Int) (v1 : Value) (ow : Ow V (.os RT_Torder_node v1 p0 :: Rs)) (r : List Torder_node) (h : slices_reverseRangeCmpFunc p0 p1 p2 = some r) : ∃ v V', Cl Try.prog 0 65 #[v1, .int .i64 p1, .int .i64 p2, .func (.func 50) #[] #[]] V.H v V'.H ∧ V.le V' ∧ (Ow V' (.os RT_Torder_node v1 r :: Rs)) := by
 refine Ct.of (Nat.zero_le _) Try.func65 rfl (Nat.le_of_ble_eq_true rfl) ?_
 unfold slices_reverseRangeCmpFunc at h
 refine WP.usreg rfl ?_
 refine U.p rfl rfl (.inl rfl) (S.move rfl (L 1 rfl rfl)) ?_
 refine U.p rfl rfl (.inl rfl) (S.assign rfl (L 0 rfl rfl)) ?_
 refine U.done (Nat.le_of_ble_eq_true rfl) ?_
 refine WP.usreg rfl ?_
 refine U.p rfl rfl (.inl rfl) (S.move rfl (L 4 rfl rfl)) ?_
 refine U.p rfl rfl (.inl rfl) (S.sub rfl (L 0 rfl rfl) K) ?_
 refine U.p rfl rfl (.inl rfl) (S.assign rfl (L 0 rfl rfl)) ?_
 refine U.done (Nat.le_of_ble_eq_true rfl) ?_
 refine WP.blk ?_
 unfold slices_reverseRangeCmpFunc_l1 at h
 obtain ⟨n7, hn6⟩ := loopO_some.1 h
 refine WP.loopI2 (fun n l V' => ∃ (xs3 : List Torder_node) (x4 : Int) (x5 : Int), l = [(0, v1), (8, .int .i64 x4), (9, .int .i64 x5)] ∧ V.le V' ∧ Ow V' (.os RT_Torder_node v1 xs3 :: Rs) ∧ itO (fun s => slices_reverseRangeCmpFunc_l1b s.1 s.2.1 s.2.2) n (xs3, x4, x5) = some r) n7 _ ⟨p0, p1, w64 (p2 - 1), rfl, .refl _, ow, hn6⟩ (allCons (L 5 rfl rfl) (allCons (L 3 rfl rfl) (allCons (L 0 rfl rfl) allNil))) ?_
 rintro _ _ V8 ⟨xs3, x4, x5, rfl, le9, ow10, h14⟩
 obtain ⟨m11, q12, rfl, h15, e13⟩ := itS h14
 replace h15 : slices_reverseRangeCmpFunc_l1b xs3 x4 x5 = some q12 := h15
 unfold slices_reverseRangeCmpFunc_l1b at h15
 refine WP.seq ?_
 refine WP.usreg rfl ?_
 refine U.p rfl rfl (.inl rfl) (S.move rfl (L 1 rfl rfl)) ?_
 refine U.p rfl rfl (.inl rfl) (S.move rfl (L 3 rfl rfl)) ?_
 refine U.p rfl rfl (.inl rfl) (S.lss rfl (L 1 rfl rfl) (L 0 rfl rfl)) ?_
 refine U.done (Nat.le_of_ble_eq_true rfl) ?_
 refine WP.cond _ (L 0 rfl rfl) rfl (fun c16 => ?_) (fun c16 => ?_)
 ·have h17 := ifT c16 h15
  refine WP.skip ?_
  refine sqN ?_
  refine WP.blk ?_
  refine WP.usdreg rfl rfl rfl ?_
  refine U.p rfl rfl (.inl rfl) (S.move rfl (L 3 rfl rfl)) ?_
  refine U.p rfl rfl (.inl rfl) (S.move rfl (L 5 rfl rfl)) ?_
  refine U.p rfl rfl (.inl rfl) (S.move rfl (L 5 rfl rfl)) ?_
  refine U.p rfl rfl (.inl rfl) (S.move rfl (L 8 rfl rfl)) ?_
  refine U.p rfl rfl (.inl rfl) (S.move rfl (L 7 rfl rfl)) ?_
  refine U.p rfl rfl (.inl rfl) (S.move rfl (L 10 rfl rfl)) ?_
  obtain ⟨x18, hx19, h20⟩ := bindS h17
  obtain ⟨b21, o22, n23, c24, hv25⟩ := ow10.ospt (k := 0) rfl hx19
  obtain ⟨_, hv26, _⟩ := ow10.osel (k := 0) rfl hv25 hx19
  refine U.p rfl rfl (.inl rfl) (S.index rfl ((L 1 rfl rfl).trans hv26) (L 0 rfl rfl) Try.underlying38 ti45 (ix_ge hx19) (ix_lt hx19)) ?_
  obtain ⟨cs27, hv28, hlt29, hr30, hc31⟩ := ow10.osel (k := 0) rfl hv25 hx19
  obtain rfl : cs27 = [.int .i64 x18.e.t, .int .i64 x18.e.act.kind, .int .i64 x18.e.act.at_, .int .i64 x18.e.act.val, .int .i64 x18.e.act.what, .bool x18.e.act.volatile, .bool x18.e.act.final, .int .i64 x18.e.rf, .int .i64 x18.e.id, .int .i64 x18.at_] := hr30
  refine U.k rfl rfl (.inl rfl) (S.loadN (cs := [.int .i64 x18.e.t, .int .i64 x18.e.act.kind, .int .i64 x18.e.act.at_, .int .i64 x18.e.act.val, .int .i64 x18.e.act.what, .bool x18.e.act.volatile, .bool x18.e.act.final, .int .i64 x18.e.rf, .int .i64 x18.e.id, .int .i64 x18.at_]) rfl (L 0 rfl rfl) Try.underlying45 rfl ti45 rfl hc31) (fun _ => (okH.nil (fun r h => by cases h; exact hlt29))) ?_
  refine U.p rfl rfl (.inl rfl) (S.move rfl (L 11 rfl rfl)) ?_
  refine U.p rfl rfl (.inl rfl) (S.move rfl (L 13 rfl rfl)) ?_
  obtain ⟨x32, hx33, h34⟩ := bindS h20
  obtain ⟨_, hv35, _⟩ := ow10.osel (k := 0) rfl hv25 hx33
  refine U.p rfl rfl (.inl rfl) (S.index rfl ((L 1 rfl rfl).trans hv35) (L 0 rfl rfl) Try.underlying38 ti45 (ix_ge hx33) (ix_lt hx33)) ?_
  obtain ⟨cs36, hv37, hlt38, hr39, hc40⟩ := ow10.osel (k := 0) rfl hv25 hx33
  obtain rfl : cs36 = [.int .i64 x32.e.t, .int .i64 x32.e.act.kind, .int .i64 x32.e.act.at_, .int .i64 x32.e.act.val, .int .i64 x32.e.act.what, .bool x32.e.act.volatile, .bool x32.e.act.final, .int .i64 x32.e.rf, .int .i64 x32.e.id, .int .i64 x32.at_] := hr39
  refine U.k rfl rfl (.inl rfl) (S.loadN (cs := [.int .i64 x32.e.t, .int .i64 x32.e.act.kind, .int .i64 x32.e.act.at_, .int .i64 x32.e.act.val, .int .i64 x32.e.act.what, .bool x32.e.act.volatile, .bool x32.e.act.final, .int .i64 x32.e.rf, .int .i64 x32.e.id, .int .i64 x32.at_]) rfl (L 0 rfl rfl) Try.underlying45 rfl ti45 rfl hc40) (fun _ => (okH.cons trivial (okH.nil (fun r h => by cases h; exact hlt38)))) ?_
  obtain ⟨x41, hx42, h43⟩ := bindS h34
  obtain ⟨_, hv44, _⟩ := ow10.osel (k := 0) rfl hv25 hx42
  refine U.p rfl rfl (.inl rfl) (S.index rfl ((L 11 rfl rfl).trans hv44) (L 10 rfl rfl) Try.underlying38 ti45 (ix_ge hx42) (ix_lt hx42)) ?_
  obtain ⟨cs45, hv46, hlt47, hr48, hc49⟩ := ow10.osel (k := 0) rfl hv25 hx42
  obtain rfl : cs45 = [.int .i64 x41.e.t, .int .i64 x41.e.act.kind, .int .i64 x41.e.act.at_, .int .i64 x41.e.act.val, .int .i64 x41.e.act.what, .bool x41.e.act.volatile, .bool x41.e.act.final, .int .i64 x41.e.rf, .int .i64 x41.e.id, .int .i64 x41.at_] := hr48
  refine O.storeE (k := 0) (R := RT_Torder_node) (j := 0) (y := x18) (cs := [.int .i64 x18.e.t, .int .i64 x18.e.act.kind, .int .i64 x18.e.act.at_, .int .i64 x18.e.act.val, .int .i64 x18.e.act.what, .bool x18.e.act.volatile, .bool x18.e.act.final, .int .i64 x18.e.rf, .int .i64 x18.e.id, .int .i64 x18.at_]) ow10 rfl hv46 rfl rfl (.inl rfl) rfl (L 0 rfl rfl) (L 5 rfl rfl) ti45 hx42 (by simp [topV]) rfl rfl rfl (full rfl) (fun H1 hs => (fun _ => (okH.cons (Or.inl rfl) (okH.cons (Or.inl rfl) (okH.nil (fun r h => nomatch h)))))) (fun V50 le51 ow52 => ?_)
  obtain ⟨x53, hx54, h55⟩ := bindS h43
  obtain ⟨_, hv56, _⟩ := ow52.osel (k := 0) rfl hv25 hx54
  refine U.p rfl rfl (.inl rfl) (S.index rfl ((L 10 rfl rfl).trans hv56) (L 9 rfl rfl) Try.underlying38 ti45 (ix_ge hx54) (ix_lt hx54)) ?_
  obtain ⟨cs57, hv58, hlt59, hr60, hc61⟩ := ow52.osel (k := 0) rfl hv25 hx54
  obtain rfl : cs57 = [.int .i64 x53.e.t, .int .i64 x53.e.act.kind, .int .i64 x53.e.act.at_, .int .i64 x53.e.act.val, .int .i64 x53.e.act.what, .bool x53.e.act.volatile, .bool x53.e.act.final, .int .i64 x53.e.rf, .int .i64 x53.e.id, .int .i64 x53.at_] := hr60
  refine O.storeE (k := 0) (R := RT_Torder_node) (j := 0) (y := x32) (cs := [.int .i64 x32.e.t, .int .i64 x32.e.act.kind, .int .i64 x32.e.act.at_, .int .i64 x32.e.act.val, .int .i64 x32.e.act.what, .bool x32.e.act.volatile, .bool x32.e.act.final, .int .i64 x32.e.rf, .int .i64 x32.e.id, .int .i64 x32.at_]) ow52 rfl hv58 rfl rfl (.inl rfl) rfl (L 0 rfl rfl) (L 2 rfl rfl) ti45 hx54 (by simp [topV]) rfl rfl rfl (full rfl) (fun H1 hs => (fun _ => (okH.cons rfl (okH.cons (Or.inl rfl) (okH.cons (Or.inl rfl) (okH.nil (fun r h => nomatch h))))))) (fun V62 le63 ow64 => ?_)
  refine U.done (Nat.le_of_ble_eq_true rfl) ?_
  refine WP.usreg rfl ?_
  refine U.p rfl rfl (.inl rfl) (S.move rfl (L 18 rfl rfl)) ?_
  refine U.p rfl rfl (.inl rfl) (S.add rfl (L 0 rfl rfl) K) ?_
  refine U.p rfl rfl (.inl rfl) (S.assign rfl (L 0 rfl rfl)) ?_
  refine U.done (Nat.le_of_ble_eq_true rfl) ?_
  refine WP.ureg rfl ?_
  refine U.p rfl rfl (.inl rfl) (S.move rfl (L 22 rfl rfl)) ?_
  refine U.p rfl rfl (.inl rfl) (S.sub rfl (L 0 rfl rfl) K) ?_
  refine U.p rfl rfl (.inl rfl) (S.assign rfl (L 0 rfl rfl)) ?_
  refine U.done (Nat.le_of_ble_eq_true rfl) ?_
  refine blkN (sqN ?_)
  exact ⟨_, V62, rfl, ⟨m11, Nat.lt_succ_self _, (xs3.set (Int.toNat x4) x18).set (Int.toNat x5) x32, w64 (x4 + 1), w64 (x5 - 1), rfl, ((le9.trans le51).trans le63), ow64, backS h55 e13⟩, (allCons (L 23 rfl rfl) (allCons (L 3 rfl rfl) (allCons (L 0 rfl rfl) allNil)))⟩
 ·have h65 := ifF c16 h15
  refine WP.exit ?_
  refine sqE (sqE (blkE ?_))
  have h66 := exitS h65 e13
  refine fin.slots' (.inl rfl) fsN rfl ⟨V8, rfl, le9, ?_⟩
  have e67 := Option.some.inj h66
  subst e67
  exact ow10

set_option maxHeartbeats 4000000 in
set_option maxRecDepth 10000 in
theorem wk_slices_partialInsertionSortCmpFunc (V : Vw) (Rs : List At) (p0 : List Torder_node) (p1 : Int) (p2 : Int) (v1 : Value) (ow : Ow V (.os RT_Torder_node v1 p0 :: Rs)) (r : Bool × (List Torder_node)) (h : slices_partialInsertionSortCmpFunc p0 p1 p2 = some r) : ∃ v V', Cl Try.prog 0 66 #[v1, .int .i64 p1, .int .i64 p2, .func (.func 50) #[] #[]] V.H v V'.H ∧ V.le V' ∧ (v = .bool r.1 ∧ Ow V' (.os RT_Torder_node v1 r.2 :: Rs)) := by
 refine Ct.of (Nat.zero_le _) Try.func66 rfl (Nat.le_of_ble_eq_true rfl) ?_
 unfold slices_partialInsertionSortCmpFunc at h
 refine WP.usreg rfl ?_
 refine U.p rfl rfl (.inl rfl) (S.assign rfl K) ?_
 refine U.done (Nat.le_of_ble_eq_true rfl) ?_
 refine WP.usreg rfl ?_
 refine U.p rfl rfl (.inl rfl) (S.move rfl (L 2 rfl rfl)) ?_
 refine U.p rfl rfl (.inl rfl) (S.add rfl (L 0 rfl rfl) K) ?_
 refine U.p rfl rfl (.inl rfl) (S.assign rfl (L 0 rfl rfl)) ?_
 refine U.done (Nat.le_of_ble_eq_true rfl) ?_
 refine WP.seq ?_
 refine WP.usreg rfl ?_
 refine U.p rfl rfl (.inl rfl) (S.assign rfl K) ?_
 refine U.done (Nat.le_of_ble_eq_true rfl) ?_
 refine WP.blk ?_
 unfold slices_partialInsertionSortCmpFunc_l1 at h
 obtain ⟨n7, hn6⟩ := loopO_some.1 h
 refine WP.loopI2 (fun n l V' => ∃ (xs3 : List Torder_node) (x4 : Int) (x5 : Int), l = [(0, v1), (1, .int .i64 p1), (2, .int .i64 p2), (3, .func (.func 50) #[] #[]), (9, .int .i64 x4), (10, .int .i64 x5)] ∧ V.le V' ∧ Ow V' (.os RT_Torder_node v1 xs3 :: Rs) ∧ itO (fun s => slices_partialInsertionSortCmpFunc_l1b p1 p2 s.1 s.2.1 s.2.2) n (xs3, x4, x5) = some r) n7 _ ⟨p0, w64 (p1 + 1), 0, rfl, .refl _, ow, hn6⟩ (allCons (L 5 rfl rfl) (allCons (L 6 rfl rfl) (allCons (L 7 rfl rfl) (allCons (L 8 rfl rfl) (allCons (L 1 rfl rfl) (allCons (L 0 rfl rfl) allNil)))))) ?_
 rintro _ _ V8 ⟨xs3, x4, x5, rfl, le9, ow10, h14⟩
 obtain ⟨m11, q12, rfl, h15, e13⟩ := itS h14
 replace h15 : slices_partialInsertionSortCmpFunc_l1b p1 p2 xs3 x4 x5 = some q12 := h15
 unfold slices_partialInsertionSortCmpFunc_l1b at h15
 refine WP.seq ?_
 refine WP.usreg rfl ?_
 refine U.p rfl rfl (.inl rfl) (S.move rfl (L 5 rfl rfl)) ?_
 refine U.p rfl rfl (.inl rfl) (S.lss rfl (L 0 rfl rfl) K) ?_
 refine U.done (Nat.le_of_ble_eq_true rfl) ?_
 refine WP.cond _ (L 0 rfl rfl) rfl (fun c16 => ?_) (fun c16 => ?_)
 ·have h17 := ifT c16 h15
  refine WP.skip ?_
  refine sqN ?_
  refine WP.seqI (fun l V' => ∃ (xs18 : List Torder_node) (x19 : Int), l = [(0, v1), (1, .int .i64 p1), (2, .int .i64 p2), (3, .func (.func 50) #[] #[]), (9, .int .i64 x19), (10, .int .i64 x5)] ∧ V8.le V' ∧ Ow V' (.os RT_Torder_node v1 xs18 :: Rs) ∧ slices_partialInsertionSortCmpFunc_k1 x5 xs18 x19 = some q12) ?_ ?_
  ·rintro _ V20 ⟨xs18, x19, rfl, le21, ow22, h23⟩
   unfold slices_partialInsertionSortCmpFunc_k1 at h23
   refine WP.ureg rfl ?_
   refine U.p rfl rfl (.inl rfl) (S.move rfl (L 5 rfl rfl)) ?_
   refine U.p rfl rfl (.inl rfl) (S.add rfl (L 0 rfl rfl) K) ?_
   refine U.p rfl rfl (.inl rfl) (S.assign rfl (L 0 rfl rfl)) ?_
   refine U.done (Nat.le_of_ble_eq_true rfl) ?_
   refine sqN ?_
   exact ⟨_, V20, rfl, ⟨m11, Nat.lt_succ_self _, xs18, x19, w64 (x5 + 1), rfl, (le9.trans le21), ow22, backS h23 e13⟩, (allCons (L 3 rfl rfl) (allCons (L 4 rfl rfl) (allCons (L 5 rfl rfl) (allCons (L 6 rfl rfl) (allCons (L 7 rfl rfl) (allCons (L 0 rfl rfl) allNil))))))⟩
  ·skip
   refine WP.blk ?_
   refine WP.seq ?_
   refine WP.blk ?_
   unfold slices_partialInsertionSortCmpFunc_l2 at h17
   obtain ⟨n26, hn25⟩ := loopO_some.1 h17
   refine WP.loopI2 (fun n l V' => ∃ (x24 : Int), l = [(0, v1), (1, .int .i64 p1), (2, .int .i64 p2), (3, .func (.func 50) #[] #[]), (9, .int .i64 x24), (10, .int .i64 x5)] ∧ V8.le V' ∧ Ow V' (.os RT_Torder_node v1 xs3 :: Rs) ∧ itO (fun s => slices_partialInsertionSortCmpFunc_l2b p1 p2 xs3 x5 s) n x24 = some q12) n26 _ ⟨x4, rfl, .refl _, ow10, hn25⟩ (allCons (L 2 rfl rfl) (allCons (L 3 rfl rfl) (allCons (L 4 rfl rfl) (allCons (L 5 rfl rfl) (allCons (L 6 rfl rfl) (allCons (L 7 rfl rfl) allNil)))))) ?_
   rintro _ _ V27 ⟨x24, rfl, le28, ow29, h33⟩
   obtain ⟨m30, q31, rfl, h34, e32⟩ := itS h33
   replace h34 : slices_partialInsertionSortCmpFunc_l2b p1 p2 xs3 x5 x24 = some q31 := h34
   unfold slices_partialInsertionSortCmpFunc_l2b at h34
   refine WP.seq ?_
   refine WP.seqI (fun l V' => ∃ (x35 : Bool), l = [(0, v1), (1, .int .i64 p1), (2, .int .i64 p2), (3, .func (.func 50) #[] #[]), (9, .int .i64 x24), (10, .int .i64 x5), (36, .bool x35)] ∧ V27.le V' ∧ Ow V' (.os RT_Torder_node v1 xs3 :: Rs) ∧ slices_partialInsertionSortCmpFunc_k2 p1 p2 xs3 x5 x24 x35 = some q31) ?_ ?_
   ·rintro _ V36 ⟨x35, rfl, le37, ow38, h39⟩
    unfold slices_partialInsertionSortCmpFunc_k2 at h39
    refine WP.cond _ (L 6 rfl rfl) rfl (fun c40 => ?_) (fun c40 => ?_)
    ·have h41 := ifT c40 h39
     refine WP.skip ?_
     refine sqN ?_
     refine WP.blk ?_
     refine WP.ureg rfl ?_
     refine U.p rfl rfl (.inl rfl) (S.move rfl (L 4 rfl rfl)) ?_
     refine U.p rfl rfl (.inl rfl) (S.add rfl (L 0 rfl rfl) K) ?_
     refine U.p rfl rfl (.inl rfl) (S.assign rfl (L 0 rfl rfl)) ?_
     refine U.done (Nat.le_of_ble_eq_true rfl) ?_
     refine blkN (sqN ?_)
     exact ⟨_, V36, rfl, ⟨m30, Nat.lt_succ_self _, w64 (x24 + 1), rfl, (le28.trans le37), ow38, backS h41 e32⟩, (allCons (L 3 rfl rfl) (allCons (L 4 rfl rfl) (allCons (L 5 rfl rfl) (allCons (L 6 rfl rfl) (allCons (L 0 rfl rfl) (allCons (L 8 rfl rfl) allNil))))))⟩
    ·have h42 := ifF c40 h39
     refine WP.exit ?_
     refine sqE (sqE (blkE (sqN ?_)))
     have h43 := exitS h42 e32
     refine WP.seq ?_
     refine WP.usreg rfl ?_
     refine U.p rfl rfl (.inl rfl) (S.move rfl (L 4 rfl rfl)) ?_
     refine U.p rfl rfl (.inl rfl) (S.move rfl (L 3 rfl rfl)) ?_
     refine U.p rfl rfl (.inl rfl) (S.eqlI rfl (L 1 rfl rfl) (L 0 rfl rfl)) ?_
     refine U.done (Nat.le_of_ble_eq_true rfl) ?_
     refine WP.cond _ (L 0 rfl rfl) rfl (fun c44 => ?_) (fun c44 => ?_)
     ·have h45 := ifT c44 h43
      refine WP.usreg rfl ?_
      refine U.p rfl rfl (.inl rfl) (S.assign rfl K) ?_
      refine U.done (Nat.le_of_ble_eq_true rfl) ?_
      refine WP.ret ?_
      refine sqR (blkR (sqR (sqR (blkR (sqR ?_)))))
      have h46 := exitS h45 e13
      refine fin.slot (.inr rfl) rfl (L 0 rfl rfl) ⟨V36, rfl, ((le9.trans le28).trans le37), ?_⟩
      have e47 := Option.some.inj h46
      subst e47
      exact ⟨rfl, ow38⟩
     ·have h48 := ifF c44 h43
      refine WP.skip ?_
      refine sqN ?_
      refine WP.seq ?_
      refine WP.usreg rfl ?_
      refine U.p rfl rfl (.inl rfl) (S.move rfl (L 5 rfl rfl)) ?_
      refine U.p rfl rfl (.inl rfl) (S.move rfl (L 5 rfl rfl)) ?_
      refine U.p rfl rfl (.inl rfl) (S.sub rfl (L 1 rfl rfl) (L 0 rfl rfl)) ?_
      refine U.p rfl rfl (.inl rfl) (S.lss rfl (L 0 rfl rfl) K) ?_
      refine U.done (Nat.le_of_ble_eq_true rfl) ?_
      refine WP.cond _ (L 0 rfl rfl) rfl (fun c49 => ?_) (fun c49 => ?_)
      ·have h50 := ifT c49 h48
       refine WP.usreg rfl ?_
       refine U.p rfl rfl (.inl rfl) (S.assign rfl K) ?_
       refine U.done (Nat.le_of_ble_eq_true rfl) ?_
       refine WP.ret ?_
       refine sqR (blkR (sqR (sqR (blkR (sqR ?_)))))
       have h51 := exitS h50 e13
       refine fin.slot (.inr rfl) rfl (L 0 rfl rfl) ⟨V36, rfl, ((le9.trans le28).trans le37), ?_⟩
       have e52 := Option.some.inj h51
       subst e52
       exact ⟨rfl, ow38⟩
      ·have h53 := ifF c49 h48
       refine WP.skip ?_
       refine sqN ?_
       refine WP.usdreg rfl rfl rfl ?_
       refine U.p rfl rfl (.inl rfl) (S.move rfl (L 7 rfl rfl)) ?_
       refine U.p rfl rfl (.inl rfl) (S.move rfl (L 12 rfl rfl)) ?_
       refine U.p rfl rfl (.inl rfl) (S.move rfl (L 9 rfl rfl)) ?_
       refine U.p rfl rfl (.inl rfl) (S.move rfl (L 14 rfl rfl)) ?_
       refine U.p rfl rfl (.inl rfl) (S.sub rfl (L 0 rfl rfl) K) ?_
       refine U.p rfl rfl (.inl rfl) (S.move rfl (L 12 rfl rfl)) ?_
       refine U.p rfl rfl (.inl rfl) (S.move rfl (L 17 rfl rfl)) ?_
       refine U.p rfl rfl (.inl rfl) (S.sub rfl (L 0 rfl rfl) K) ?_
       obtain ⟨x54, hx55, h56⟩ := bindS h53
       obtain ⟨b57, o58, n59, c60, hv61⟩ := ow38.ospt (k := 0) rfl hx55
       obtain ⟨_, hv62, _⟩ := ow38.osel (k := 0) rfl hv61 hx55
       refine U.p rfl rfl (.inl rfl) (S.index rfl ((L 2 rfl rfl).trans hv62) (L 0 rfl rfl) Try.underlying38 ti45 (ix_ge hx55) (ix_lt hx55)) ?_
       obtain ⟨cs63, hv64, hlt65, hr66, hc67⟩ := ow38.osel (k := 0) rfl hv61 hx55
       obtain rfl : cs63 = [.int .i64 x54.e.t, .int .i64 x54.e.act.kind, .int .i64 x54.e.act.at_, .int .i64 x54.e.act.val, .int .i64 x54.e.act.what, .bool x54.e.act.volatile, .bool x54.e.act.final, .int .i64 x54.e.rf, .int .i64 x54.e.id, .int .i64 x54.at_] := hr66
       refine U.k rfl rfl (.inl rfl) (S.loadN (cs := [.int .i64 x54.e.t, .int .i64 x54.e.act.kind, .int .i64 x54.e.act.at_, .int .i64 x54.e.act.val, .int .i64 x54.e.act.what, .bool x54.e.act.volatile, .bool x54.e.act.final, .int .i64 x54.e.rf, .int .i64 x54.e.id, .int .i64 x54.at_]) rfl (L 0 rfl rfl) Try.underlying45 rfl ti45 rfl hc67) (fun _ => (okH.nil (fun r h => by cases h; exact hlt65))) ?_
       refine U.p rfl rfl (.inl rfl) (S.move rfl (L 17 rfl rfl)) ?_
       refine U.p rfl rfl (.inl rfl) (S.move rfl (L 22 rfl rfl)) ?_
       obtain ⟨x68, hx69, h70⟩ := bindS h56
       obtain ⟨_, hv71, _⟩ := ow38.osel (k := 0) rfl hv61 hx69
       refine U.p rfl rfl (.inl rfl) (S.index rfl ((L 1 rfl rfl).trans hv71) (L 0 rfl rfl) Try.underlying38 ti45 (ix_ge hx69) (ix_lt hx69)) ?_
       obtain ⟨cs72, hv73, hlt74, hr75, hc76⟩ := ow38.osel (k := 0) rfl hv61 hx69
       obtain rfl : cs72 = [.int .i64 x68.e.t, .int .i64 x68.e.act.kind, .int .i64 x68.e.act.at_, .int .i64 x68.e.act.val, .int .i64 x68.e.act.what, .bool x68.e.act.volatile, .bool x68.e.act.final, .int .i64 x68.e.rf, .int .i64 x68.e.id, .int .i64 x68.at_] := hr75
       refine U.k rfl rfl (.inl rfl) (S.loadN (cs := [.int .i64 x68.e.t, .int .i64 x68.e.act.kind, .int .i64 x68.e.act.at_, .int .i64 x68.e.act.val, .int .i64 x68.e.act.what, .bool x68.e.act.volatile, .bool x68.e.act.final, .int .i64 x68.e.rf, .int .i64 x68.e.id, .int .i64 x68.at_]) rfl (L 0 rfl rfl) Try.underlying45 rfl ti45 rfl hc76) (fun _ => (okH.cons trivial (okH.nil (fun r h => by cases h; exact hlt74)))) ?_
       obtain ⟨x77, hx78, h79⟩ := bindS h70
       obtain ⟨_, hv80, _⟩ := ow38.osel (k := 0) rfl hv61 hx78
       refine U.p rfl rfl (.inl rfl) (S.index rfl ((L 13 rfl rfl).trans hv80) (L 12 rfl rfl) Try.underlying38 ti45 (ix_ge hx78) (ix_lt hx78)) ?_
       obtain ⟨cs81, hv82, hlt83, hr84, hc85⟩ := ow38.osel (k := 0) rfl hv61 hx78
       obtain rfl : cs81 = [.int .i64 x77.e.t, .int .i64 x77.e.act.kind, .int .i64 x77.e.act.at_, .int .i64 x77.e.act.val, .int .i64 x77.e.act.what, .bool x77.e.act.volatile, .bool x77.e.act.final, .int .i64 x77.e.rf, .int .i64 x77.e.id, .int .i64 x77.at_] := hr84
       refine O.storeE (k := 0) (R := RT_Torder_node) (j := 0) (y := x54) (cs := [.int .i64 x54.e.t, .int .i64 x54.e.act.kind, .int .i64 x54.e.act.at_, .int .i64 x54.e.act.val, .int .i64 x54.e.act.what, .bool x54.e.act.volatile, .bool x54.e.act.final, .int .i64 x54.e.rf, .int .i64 x54.e.id, .int .i64 x54.at_]) ow38 rfl hv82 rfl rfl (.inl rfl) rfl (L 0 rfl rfl) (L 5 rfl rfl) ti45 hx78 (by simp [topV]) rfl rfl rfl (full rfl) (fun H1 hs => (fun _ => (okH.cons (Or.inl rfl) (okH.cons (Or.inl rfl) (okH.nil (fun r h => nomatch h)))))) (fun V86 le87 ow88 => ?_)
       obtain ⟨x89, hx90, h91⟩ := bindS h79
       obtain ⟨_, hv92, _⟩ := ow88.osel (k := 0) rfl hv61 hx90
       refine U.p rfl rfl (.inl rfl) (S.index rfl ((L 12 rfl rfl).trans hv92) (L 10 rfl rfl) Try.underlying38 ti45 (ix_ge hx90) (ix_lt hx90)) ?_
       obtain ⟨cs93, hv94, hlt95, hr96, hc97⟩ := ow88.osel (k := 0) rfl hv61 hx90
       obtain rfl : cs93 = [.int .i64 x89.e.t, .int .i64 x89.e.act.kind, .int .i64 x89.e.act.at_, .int .i64 x89.e.act.val, .int .i64 x89.e.act.what, .bool x89.e.act.volatile, .bool x89.e.act.final, .int .i64 x89.e.rf, .int .i64 x89.e.id, .int .i64 x89.at_] := hr96
       refine O.storeE (k := 0) (R := RT_Torder_node) (j := 0) (y := x68) (cs := [.int .i64 x68.e.t, .int .i64 x68.e.act.kind, .int .i64 x68.e.act.at_, .int .i64 x68.e.act.val, .int .i64 x68.e.act.what, .bool x68.e.act.volatile, .bool x68.e.act.final, .int .i64 x68.e.rf, .int .i64 x68.e.id, .int .i64 x68.at_]) ow88 rfl hv94 rfl rfl (.inl rfl) rfl (L 0 rfl rfl) (L 2 rfl rfl) ti45 hx90 (by simp [topV]) rfl rfl rfl (full rfl) (fun H1 hs => (fun _ => (okH.cons rfl (okH.cons (Or.inl rfl) (okH.cons (Or.inl rfl) (okH.nil (fun r h => nomatch h))))))) (fun V98 le99 ow100 => ?_)
       refine U.done (Nat.le_of_ble_eq_true rfl) ?_
       refine WP.seqI (fun l V' => ∃ (xs101 : List Torder_node), l = [(0, v1), (1, .int .i64 p1), (2, .int .i64 p2), (3, .func (.func 50) #[] #[]), (9, .int .i64 x24), (10, .int .i64 x5)] ∧ V98.le V' ∧ Ow V' (.os RT_Torder_node v1 xs101 :: Rs) ∧ slices_partialInsertionSortCmpFunc_k3 p2 x5 x24 xs101 = some q12) ?_ ?_
       ·rintro _ V102 ⟨xs101, rfl, le103, ow104, h105⟩
        unfold slices_partialInsertionSortCmpFunc_k3 at h105
        refine WP.usreg rfl ?_
        refine U.p rfl rfl (.inl rfl) (S.move rfl (L 2 rfl rfl)) ?_
        refine U.p rfl rfl (.inl rfl) (S.move rfl (L 5 rfl rfl)) ?_
        refine U.p rfl rfl (.inl rfl) (S.sub rfl (L 1 rfl rfl) (L 0 rfl rfl)) ?_
        refine U.p rfl rfl (.inl rfl) (S.geq rfl (L 0 rfl rfl) K) ?_
        refine U.done (Nat.le_of_ble_eq_true rfl) ?_
        refine WP.cond _ (L 0 rfl rfl) rfl (fun c106 => ?_) (fun c106 => ?_)
        ·have h107 := ifT c106 h105
         refine WP.usreg rfl ?_
         refine U.p rfl rfl (.inl rfl) (S.move rfl (L 8 rfl rfl)) ?_
         refine U.p rfl rfl (.inl rfl) (S.add rfl (L 0 rfl rfl) K) ?_
         refine U.p rfl rfl (.inl rfl) (S.assign rfl (L 0 rfl rfl)) ?_
         refine U.done (Nat.le_of_ble_eq_true rfl) ?_
         refine WP.blk ?_
         unfold slices_partialInsertionSortCmpFunc_l3 at h107
         obtain ⟨n111, hn110⟩ := loopO_some.1 h107
         refine WP.loopI2 (fun n l V' => ∃ (xs108 : List Torder_node) (x109 : Int), l = [(0, v1), (1, .int .i64 p1), (2, .int .i64 p2), (3, .func (.func 50) #[] #[]), (9, .int .i64 x24), (10, .int .i64 x5), (12, .int .i64 x109)] ∧ V102.le V' ∧ Ow V' (.os RT_Torder_node v1 xs108 :: Rs) ∧ itO (fun s => slices_partialInsertionSortCmpFunc_l3b p2 x5 x24 s.1 s.2) n (xs108, x109) = some q12) n111 _ ⟨xs101, w64 (x24 + 1), rfl, .refl _, ow104, hn110⟩ (allCons (L 7 rfl rfl) (allCons (L 8 rfl rfl) (allCons (L 9 rfl rfl) (allCons (L 10 rfl rfl) (allCons (L 11 rfl rfl) (allCons (L 12 rfl rfl) (allCons (L 0 rfl rfl) allNil))))))) ?_
         rintro _ _ V112 ⟨xs108, x109, rfl, le113, ow114, h118⟩
         obtain ⟨m115, q116, rfl, h119, e117⟩ := itS h118
         replace h119 : slices_partialInsertionSortCmpFunc_l3b p2 x5 x24 xs108 x109 = some q116 := h119
         unfold slices_partialInsertionSortCmpFunc_l3b at h119
         refine WP.seq ?_
         refine WP.usreg rfl ?_
         refine U.p rfl rfl (.inl rfl) (S.move rfl (L 6 rfl rfl)) ?_
         refine U.p rfl rfl (.inl rfl) (S.move rfl (L 3 rfl rfl)) ?_
         refine U.p rfl rfl (.inl rfl) (S.lss rfl (L 1 rfl rfl) (L 0 rfl rfl)) ?_
         refine U.done (Nat.le_of_ble_eq_true rfl) ?_
         refine WP.cond _ (L 0 rfl rfl) rfl (fun c120 => ?_) (fun c120 => ?_)
         ·have h121 := ifT c120 h119
          refine WP.skip ?_
          refine sqN ?_
          refine WP.seq ?_
          refine WP.blk ?_
          refine WP.seq ?_
          refine WP.usdreg rfl rfl rfl ?_
          refine U.p rfl rfl (.inl rfl) (S.move rfl (L 6 rfl rfl)) ?_
          refine U.p rfl rfl (.inl rfl) (S.move rfl (L 4 rfl rfl)) ?_
          refine U.p rfl rfl (.inl rfl) (S.move rfl (L 11 rfl rfl)) ?_
          obtain ⟨x122, hx123, h124⟩ := bindS h121
          obtain ⟨_, hv125, _⟩ := ow114.osel (k := 0) rfl hv61 hx123
          refine U.p rfl rfl (.inl rfl) (S.index rfl ((L 1 rfl rfl).trans hv125) (L 0 rfl rfl) Try.underlying38 ti45 (ix_ge hx123) (ix_lt hx123)) ?_
          obtain ⟨cs126, hv127, hlt128, hr129, hc130⟩ := ow114.osel (k := 0) rfl hv61 hx123
          obtain rfl : cs126 = [.int .i64 x122.e.t, .int .i64 x122.e.act.kind, .int .i64 x122.e.act.at_, .int .i64 x122.e.act.val, .int .i64 x122.e.act.what, .bool x122.e.act.volatile, .bool x122.e.act.final, .int .i64 x122.e.rf, .int .i64 x122.e.id, .int .i64 x122.at_] := hr129
          refine U.k rfl rfl (.inl rfl) (S.loadN (cs := [.int .i64 x122.e.t, .int .i64 x122.e.act.kind, .int .i64 x122.e.act.at_, .int .i64 x122.e.act.val, .int .i64 x122.e.act.what, .bool x122.e.act.volatile, .bool x122.e.act.final, .int .i64 x122.e.rf, .int .i64 x122.e.id, .int .i64 x122.at_]) rfl (L 0 rfl rfl) Try.underlying45 rfl ti45 rfl hc130) (fun _ => (okH.nil (fun r h => by cases h; exact hlt128))) ?_
          refine U.p rfl rfl (.inl rfl) (S.move rfl (L 8 rfl rfl)) ?_
          refine U.p rfl rfl (.inl rfl) (S.move rfl (L 15 rfl rfl)) ?_
          refine U.p rfl rfl (.inl rfl) (S.sub rfl (L 0 rfl rfl) K) ?_
          obtain ⟨x131, hx132, h133⟩ := bindS h124
          obtain ⟨_, hv134, _⟩ := ow114.osel (k := 0) rfl hv61 hx132
          refine U.p rfl rfl (.inl rfl) (S.index rfl ((L 2 rfl rfl).trans hv134) (L 0 rfl rfl) Try.underlying38 ti45 (ix_ge hx132) (ix_lt hx132)) ?_
          obtain ⟨cs135, hv136, hlt137, hr138, hc139⟩ := ow114.osel (k := 0) rfl hv61 hx132
          obtain rfl : cs135 = [.int .i64 x131.e.t, .int .i64 x131.e.act.kind, .int .i64 x131.e.act.at_, .int .i64 x131.e.act.val, .int .i64 x131.e.act.what, .bool x131.e.act.volatile, .bool x131.e.act.final, .int .i64 x131.e.rf, .int .i64 x131.e.id, .int .i64 x131.at_] := hr138
          refine U.k rfl rfl (.inl rfl) (S.loadN (cs := [.int .i64 x131.e.t, .int .i64 x131.e.act.kind, .int .i64 x131.e.act.at_, .int .i64 x131.e.act.val, .int .i64 x131.e.act.what, .bool x131.e.act.volatile, .bool x131.e.act.final, .int .i64 x131.e.rf, .int .i64 x131.e.id, .int .i64 x131.at_]) rfl (L 0 rfl rfl) Try.underlying45 rfl ti45 rfl hc139) (fun _ => (okH.cons trivial (okH.nil (fun r h => by cases h; exact hlt137)))) ?_
          obtain ⟨x140, hx141, h142⟩ := bindS h133
          refine O.callv (V := V112) rfl rfl (.inl rfl) rfl (L 9 rfl rfl) en50 (aC (L 5 rfl rfl) (aC (L 0 rfl rfl) aN)) (wk_order_Run_Apart_c2 V112 _ x122 x131 ow114 _ hx141) (fun v143 V144 le145 hp146 => by obtain ⟨rfl, ow147⟩ := hp146; exact (fun _ => (okH.cons (Or.inl rfl) (okH.cons (Or.inl rfl) (okH.nil (fun r h => nomatch h)))))) (fun v143 V144 le145 hp146 => ?_)
          obtain ⟨rfl, ow147⟩ := hp146
          refine U.p rfl rfl (.inl rfl) (S.lss rfl (L 0 rfl rfl) K) ?_
          refine U.p rfl rfl (.inl rfl) (S.not rfl (L 0 rfl rfl)) ?_
          refine U.done (Nat.le_of_ble_eq_true rfl) ?_
          refine WP.cond _ (L 0 rfl rfl) rfl (fun c148 => ?_) (fun c148 => ?_)
          ·have h149 := ifT c148 h142
           have k150 : (decide (x140 < 0)) = false := by simpa using c148
           refine WP.exit ?_
           refine sqE (blkO rfl (sqE (sqE (blkE (blkN (sqN ?_))))))
           have h151 := exitS h149 e117
           exact ⟨_, V144, rfl, ⟨xs108, x24, rfl, ((((((le28.trans le37).trans le87).trans le99).trans le103).trans le113).trans le145), ow147, h151⟩, (allCons (L 16 rfl rfl) (allCons (L 17 rfl rfl) (allCons (L 18 rfl rfl) (allCons (L 19 rfl rfl) (allCons (L 20 rfl rfl) (allCons (L 21 rfl rfl) allNil))))))⟩
          ·have h152 := ifF c148 h142
           have k153 : (decide (x140 < 0)) = true := by simpa using c148
           refine WP.skip ?_
           refine sqN ?_
           refine WP.udreg rfl rfl rfl ?_
           refine U.p rfl rfl (.inl rfl) (S.move rfl (L 16 rfl rfl)) ?_
           refine U.p rfl rfl (.inl rfl) (S.move rfl (L 23 rfl rfl)) ?_
           refine U.p rfl rfl (.inl rfl) (S.move rfl (L 18 rfl rfl)) ?_
           refine U.p rfl rfl (.inl rfl) (S.move rfl (L 25 rfl rfl)) ?_
           refine U.p rfl rfl (.inl rfl) (S.sub rfl (L 0 rfl rfl) K) ?_
           refine U.p rfl rfl (.inl rfl) (S.move rfl (L 21 rfl rfl)) ?_
           refine U.p rfl rfl (.inl rfl) (S.move rfl (L 28 rfl rfl)) ?_
           refine U.p rfl rfl (.inl rfl) (S.sub rfl (L 0 rfl rfl) K) ?_
           obtain ⟨x154, hx155, h156⟩ := bindS h152
           obtain ⟨_, hv157, _⟩ := ow147.osel (k := 0) rfl hv61 hx155
           refine U.p rfl rfl (.inl rfl) (S.index rfl ((L 2 rfl rfl).trans hv157) (L 0 rfl rfl) Try.underlying38 ti45 (ix_ge hx155) (ix_lt hx155)) ?_
           obtain ⟨cs158, hv159, hlt160, hr161, hc162⟩ := ow147.osel (k := 0) rfl hv61 hx155
           obtain rfl : cs158 = [.int .i64 x154.e.t, .int .i64 x154.e.act.kind, .int .i64 x154.e.act.at_, .int .i64 x154.e.act.val, .int .i64 x154.e.act.what, .bool x154.e.act.volatile, .bool x154.e.act.final, .int .i64 x154.e.rf, .int .i64 x154.e.id, .int .i64 x154.at_] := hr161
           refine U.k rfl rfl (.inl rfl) (S.loadN (cs := [.int .i64 x154.e.t, .int .i64 x154.e.act.kind, .int .i64 x154.e.act.at_, .int .i64 x154.e.act.val, .int .i64 x154.e.act.what, .bool x154.e.act.volatile, .bool x154.e.act.final, .int .i64 x154.e.rf, .int .i64 x154.e.id, .int .i64 x154.at_]) rfl (L 0 rfl rfl) Try.underlying45 rfl ti45 rfl hc162) (fun _ => (okH.nil (fun r h => by cases h; exact hlt160))) ?_
           refine U.p rfl rfl (.inl rfl) (S.move rfl (L 26 rfl rfl)) ?_
           refine U.p rfl rfl (.inl rfl) (S.move rfl (L 33 rfl rfl)) ?_
           obtain ⟨x163, hx164, h165⟩ := bindS h156
           obtain ⟨_, hv166, _⟩ := ow147.osel (k := 0) rfl hv61 hx164
           refine U.p rfl rfl (.inl rfl) (S.index rfl ((L 1 rfl rfl).trans hv166) (L 0 rfl rfl) Try.underlying38 ti45 (ix_ge hx164) (ix_lt hx164)) ?_
           obtain ⟨cs167, hv168, hlt169, hr170, hc171⟩ := ow147.osel (k := 0) rfl hv61 hx164
           obtain rfl : cs167 = [.int .i64 x163.e.t, .int .i64 x163.e.act.kind, .int .i64 x163.e.act.at_, .int .i64 x163.e.act.val, .int .i64 x163.e.act.what, .bool x163.e.act.volatile, .bool x163.e.act.final, .int .i64 x163.e.rf, .int .i64 x163.e.id, .int .i64 x163.at_] := hr170
           refine U.k rfl rfl (.inl rfl) (S.loadN (cs := [.int .i64 x163.e.t, .int .i64 x163.e.act.kind, .int .i64 x163.e.act.at_, .int .i64 x163.e.act.val, .int .i64 x163.e.act.what, .bool x163.e.act.volatile, .bool x163.e.act.final, .int .i64 x163.e.rf, .int .i64 x163.e.id, .int .i64 x163.at_]) rfl (L 0 rfl rfl) Try.underlying45 rfl ti45 rfl hc171) (fun _ => (okH.cons trivial (okH.nil (fun r h => by cases h; exact hlt169)))) ?_
           obtain ⟨x172, hx173, h174⟩ := bindS h165
           obtain ⟨_, hv175, _⟩ := ow147.osel (k := 0) rfl hv61 hx173
           refine U.p rfl rfl (.inl rfl) (S.index rfl ((L 13 rfl rfl).trans hv175) (L 12 rfl rfl) Try.underlying38 ti45 (ix_ge hx173) (ix_lt hx173)) ?_
           obtain ⟨cs176, hv177, hlt178, hr179, hc180⟩ := ow147.osel (k := 0) rfl hv61 hx173
           obtain rfl : cs176 = [.int .i64 x172.e.t, .int .i64 x172.e.act.kind, .int .i64 x172.e.act.at_, .int .i64 x172.e.act.val, .int .i64 x172.e.act.what, .bool x172.e.act.volatile, .bool x172.e.act.final, .int .i64 x172.e.rf, .int .i64 x172.e.id, .int .i64 x172.at_] := hr179
           refine O.storeE (k := 0) (R := RT_Torder_node) (j := 0) (y := x154) (cs := [.int .i64 x154.e.t, .int .i64 x154.e.act.kind, .int .i64 x154.e.act.at_, .int .i64 x154.e.act.val, .int .i64 x154.e.act.what, .bool x154.e.act.volatile, .bool x154.e.act.final, .int .i64 x154.e.rf, .int .i64 x154.e.id, .int .i64 x154.at_]) ow147 rfl hv177 rfl rfl (.inl rfl) rfl (L 0 rfl rfl) (L 5 rfl rfl) ti45 hx173 (by simp [topV]) rfl rfl rfl (full rfl) (fun H1 hs => (fun _ => (okH.cons (Or.inl rfl) (okH.cons (Or.inl rfl) (okH.nil (fun r h => nomatch h)))))) (fun V181 le182 ow183 => ?_)
           obtain ⟨x184, hx185, h186⟩ := bindS h174
           obtain ⟨_, hv187, _⟩ := ow183.osel (k := 0) rfl hv61 hx185
           refine U.p rfl rfl (.inl rfl) (S.index rfl ((L 12 rfl rfl).trans hv187) (L 10 rfl rfl) Try.underlying38 ti45 (ix_ge hx185) (ix_lt hx185)) ?_
           obtain ⟨cs188, hv189, hlt190, hr191, hc192⟩ := ow183.osel (k := 0) rfl hv61 hx185
           obtain rfl : cs188 = [.int .i64 x184.e.t, .int .i64 x184.e.act.kind, .int .i64 x184.e.act.at_, .int .i64 x184.e.act.val, .int .i64 x184.e.act.what, .bool x184.e.act.volatile, .bool x184.e.act.final, .int .i64 x184.e.rf, .int .i64 x184.e.id, .int .i64 x184.at_] := hr191
           refine O.storeE (k := 0) (R := RT_Torder_node) (j := 0) (y := x163) (cs := [.int .i64 x163.e.t, .int .i64 x163.e.act.kind, .int .i64 x163.e.act.at_, .int .i64 x163.e.act.val, .int .i64 x163.e.act.what, .bool x163.e.act.volatile, .bool x163.e.act.final, .int .i64 x163.e.rf, .int .i64 x163.e.id, .int .i64 x163.at_]) ow183 rfl hv189 rfl rfl (.inl rfl) rfl (L 0 rfl rfl) (L 2 rfl rfl) ti45 hx185 (by simp [topV]) rfl rfl rfl (full rfl) (fun H1 hs => (fun _ => (okH.cons rfl (okH.cons (Or.inl rfl) (okH.cons (Or.inl rfl) (okH.nil (fun r h => nomatch h))))))) (fun V193 le194 ow195 => ?_)
           refine U.done (Nat.le_of_ble_eq_true rfl) ?_
           refine blkN (sqN ?_)
           refine WP.ureg rfl ?_
           refine U.p rfl rfl (.inl rfl) (S.move rfl (L 38 rfl rfl)) ?_
           refine U.p rfl rfl (.inl rfl) (S.add rfl (L 0 rfl rfl) K) ?_
           refine U.p rfl rfl (.inl rfl) (S.assign rfl (L 0 rfl rfl)) ?_
           refine U.done (Nat.le_of_ble_eq_true rfl) ?_
           refine sqN ?_
           exact ⟨_, V193, rfl, ⟨m115, Nat.lt_succ_self _, (xs108.set (Int.toNat x109) x154).set (Int.toNat (w64 (x109 - 1))) x163, w64 (x109 + 1), rfl, (((le113.trans le145).trans le182).trans le194), ow195, backS h186 e117⟩, (allCons (L 35 rfl rfl) (allCons (L 36 rfl rfl) (allCons (L 37 rfl rfl) (allCons (L 38 rfl rfl) (allCons (L 39 rfl rfl) (allCons (L 40 rfl rfl) (allCons (L 0 rfl rfl) allNil)))))))⟩
         ·have h196 := ifF c120 h119
          refine WP.exit ?_
          refine sqE (sqE (blkE (blkN (sqN ?_))))
          have h197 := exitS h196 e117
          exact ⟨_, V112, rfl, ⟨xs108, x24, rfl, (((((le28.trans le37).trans le87).trans le99).trans le103).trans le113), ow114, h197⟩, (allCons (L 3 rfl rfl) (allCons (L 4 rfl rfl) (allCons (L 5 rfl rfl) (allCons (L 6 rfl rfl) (allCons (L 7 rfl rfl) (allCons (L 8 rfl rfl) allNil))))))⟩
        ·have h198 := ifF c106 h105
         refine WP.skip ?_
         refine blkN (sqN ?_)
         exact ⟨_, V102, rfl, ⟨xs101, x24, rfl, ((((le28.trans le37).trans le87).trans le99).trans le103), ow104, h198⟩, (allCons (L 4 rfl rfl) (allCons (L 5 rfl rfl) (allCons (L 6 rfl rfl) (allCons (L 7 rfl rfl) (allCons (L 8 rfl rfl) (allCons (L 9 rfl rfl) allNil))))))⟩
       ·skip
        refine WP.usreg rfl ?_
        refine U.p rfl rfl (.inl rfl) (S.move rfl (L 27 rfl rfl)) ?_
        refine U.p rfl rfl (.inl rfl) (S.move rfl (L 25 rfl rfl)) ?_
        refine U.p rfl rfl (.inl rfl) (S.sub rfl (L 1 rfl rfl) (L 0 rfl rfl)) ?_
        refine U.p rfl rfl (.inl rfl) (S.geq rfl (L 0 rfl rfl) K) ?_
        refine U.done (Nat.le_of_ble_eq_true rfl) ?_
        refine WP.cond _ (L 0 rfl rfl) rfl (fun c199 => ?_) (fun c199 => ?_)
        ·have h200 := ifT c199 h91
         refine WP.usreg rfl ?_
         refine U.p rfl rfl (.inl rfl) (S.move rfl (L 31 rfl rfl)) ?_
         refine U.p rfl rfl (.inl rfl) (S.sub rfl (L 0 rfl rfl) K) ?_
         refine U.p rfl rfl (.inl rfl) (S.assign rfl (L 0 rfl rfl)) ?_
         refine U.done (Nat.le_of_ble_eq_true rfl) ?_
         refine WP.blk ?_
         unfold slices_partialInsertionSortCmpFunc_l4 at h200
         obtain ⟨n204, hn203⟩ := loopO_some.1 h200
         refine WP.loopI2 (fun n l V' => ∃ (xs201 : List Torder_node) (x202 : Int), l = [(0, v1), (1, .int .i64 p1), (2, .int .i64 p2), (3, .func (.func 50) #[] #[]), (9, .int .i64 x24), (10, .int .i64 x5), (11, .int .i64 x202)] ∧ V98.le V' ∧ Ow V' (.os RT_Torder_node v1 xs201 :: Rs) ∧ itO (fun s => slices_partialInsertionSortCmpFunc_l4b p2 x5 x24 s.1 s.2) n (xs201, x202) = some q12) n204 _ ⟨(xs3.set (Int.toNat x24) x54).set (Int.toNat (w64 (x24 - 1))) x68, w64 (x24 - 1), rfl, .refl _, ow100, hn203⟩ (allCons (L 30 rfl rfl) (allCons (L 31 rfl rfl) (allCons (L 32 rfl rfl) (allCons (L 33 rfl rfl) (allCons (L 34 rfl rfl) (allCons (L 35 rfl rfl) (allCons (L 0 rfl rfl) allNil))))))) ?_
         rintro _ _ V205 ⟨xs201, x202, rfl, le206, ow207, h211⟩
         obtain ⟨m208, q209, rfl, h212, e210⟩ := itS h211
         replace h212 : slices_partialInsertionSortCmpFunc_l4b p2 x5 x24 xs201 x202 = some q209 := h212
         unfold slices_partialInsertionSortCmpFunc_l4b at h212
         refine WP.seq ?_
         refine WP.usreg rfl ?_
         refine U.p rfl rfl (.inl rfl) (S.move rfl (L 6 rfl rfl)) ?_
         refine U.p rfl rfl (.inl rfl) (S.geq rfl (L 0 rfl rfl) K) ?_
         refine U.done (Nat.le_of_ble_eq_true rfl) ?_
         refine WP.cond _ (L 0 rfl rfl) rfl (fun c213 => ?_) (fun c213 => ?_)
         ·have h214 := ifT c213 h212
          refine WP.skip ?_
          refine sqN ?_
          refine WP.seq ?_
          refine WP.blk ?_
          refine WP.seq ?_
          refine WP.usdreg rfl rfl rfl ?_
          refine U.p rfl rfl (.inl rfl) (S.move rfl (L 5 rfl rfl)) ?_
          refine U.p rfl rfl (.inl rfl) (S.move rfl (L 3 rfl rfl)) ?_
          refine U.p rfl rfl (.inl rfl) (S.move rfl (L 10 rfl rfl)) ?_
          obtain ⟨x215, hx216, h217⟩ := bindS h214
          obtain ⟨_, hv218, _⟩ := ow207.osel (k := 0) rfl hv61 hx216
          refine U.p rfl rfl (.inl rfl) (S.index rfl ((L 1 rfl rfl).trans hv218) (L 0 rfl rfl) Try.underlying38 ti45 (ix_ge hx216) (ix_lt hx216)) ?_
          obtain ⟨cs219, hv220, hlt221, hr222, hc223⟩ := ow207.osel (k := 0) rfl hv61 hx216
          obtain rfl : cs219 = [.int .i64 x215.e.t, .int .i64 x215.e.act.kind, .int .i64 x215.e.act.at_, .int .i64 x215.e.act.val, .int .i64 x215.e.act.what, .bool x215.e.act.volatile, .bool x215.e.act.final, .int .i64 x215.e.rf, .int .i64 x215.e.id, .int .i64 x215.at_] := hr222
          refine U.k rfl rfl (.inl rfl) (S.loadN (cs := [.int .i64 x215.e.t, .int .i64 x215.e.act.kind, .int .i64 x215.e.act.at_, .int .i64 x215.e.act.val, .int .i64 x215.e.act.what, .bool x215.e.act.volatile, .bool x215.e.act.final, .int .i64 x215.e.rf, .int .i64 x215.e.id, .int .i64 x215.at_]) rfl (L 0 rfl rfl) Try.underlying45 rfl ti45 rfl hc223) (fun _ => (okH.nil (fun r h => by cases h; exact hlt221))) ?_
          refine U.p rfl rfl (.inl rfl) (S.move rfl (L 7 rfl rfl)) ?_
          refine U.p rfl rfl (.inl rfl) (S.move rfl (L 14 rfl rfl)) ?_
          refine U.p rfl rfl (.inl rfl) (S.sub rfl (L 0 rfl rfl) K) ?_
          obtain ⟨x224, hx225, h226⟩ := bindS h217
          obtain ⟨_, hv227, _⟩ := ow207.osel (k := 0) rfl hv61 hx225
          refine U.p rfl rfl (.inl rfl) (S.index rfl ((L 2 rfl rfl).trans hv227) (L 0 rfl rfl) Try.underlying38 ti45 (ix_ge hx225) (ix_lt hx225)) ?_
          obtain ⟨cs228, hv229, hlt230, hr231, hc232⟩ := ow207.osel (k := 0) rfl hv61 hx225
          obtain rfl : cs228 = [.int .i64 x224.e.t, .int .i64 x224.e.act.kind, .int .i64 x224.e.act.at_, .int .i64 x224.e.act.val, .int .i64 x224.e.act.what, .bool x224.e.act.volatile, .bool x224.e.act.final, .int .i64 x224.e.rf, .int .i64 x224.e.id, .int .i64 x224.at_] := hr231
          refine U.k rfl rfl (.inl rfl) (S.loadN (cs := [.int .i64 x224.e.t, .int .i64 x224.e.act.kind, .int .i64 x224.e.act.at_, .int .i64 x224.e.act.val, .int .i64 x224.e.act.what, .bool x224.e.act.volatile, .bool x224.e.act.final, .int .i64 x224.e.rf, .int .i64 x224.e.id, .int .i64 x224.at_]) rfl (L 0 rfl rfl) Try.underlying45 rfl ti45 rfl hc232) (fun _ => (okH.cons trivial (okH.nil (fun r h => by cases h; exact hlt230)))) ?_
          obtain ⟨x233, hx234, h235⟩ := bindS h226
          refine O.callv (V := V205) rfl rfl (.inl rfl) rfl (L 9 rfl rfl) en50 (aC (L 5 rfl rfl) (aC (L 0 rfl rfl) aN)) (wk_order_Run_Apart_c2 V205 _ x215 x224 ow207 _ hx234) (fun v236 V237 le238 hp239 => by obtain ⟨rfl, ow240⟩ := hp239; exact (fun _ => (okH.cons (Or.inl rfl) (okH.cons (Or.inl rfl) (okH.nil (fun r h => nomatch h)))))) (fun v236 V237 le238 hp239 => ?_)
          obtain ⟨rfl, ow240⟩ := hp239
          refine U.p rfl rfl (.inl rfl) (S.lss rfl (L 0 rfl rfl) K) ?_
          refine U.p rfl rfl (.inl rfl) (S.not rfl (L 0 rfl rfl)) ?_
          refine U.done (Nat.le_of_ble_eq_true rfl) ?_
          refine WP.cond _ (L 0 rfl rfl) rfl (fun c241 => ?_) (fun c241 => ?_)
          ·have h242 := ifT c241 h235
           have k243 : (decide (x233 < 0)) = false := by simpa using c241
           refine WP.exit ?_
           refine sqE (blkO rfl (sqE (sqE (blkE (sqN ?_)))))
           have h244 := exitS h242 e210
           exact ⟨_, V237, rfl, ⟨xs201, rfl, (le206.trans le238), ow240, h244⟩, (allCons (L 15 rfl rfl) (allCons (L 16 rfl rfl) (allCons (L 17 rfl rfl) (allCons (L 18 rfl rfl) (allCons (L 19 rfl rfl) (allCons (L 20 rfl rfl) allNil))))))⟩
          ·have h245 := ifF c241 h235
           have k246 : (decide (x233 < 0)) = true := by simpa using c241
           refine WP.skip ?_
           refine sqN ?_
           refine WP.udreg rfl rfl rfl ?_
           refine U.p rfl rfl (.inl rfl) (S.move rfl (L 15 rfl rfl)) ?_
           refine U.p rfl rfl (.inl rfl) (S.move rfl (L 22 rfl rfl)) ?_
           refine U.p rfl rfl (.inl rfl) (S.move rfl (L 17 rfl rfl)) ?_
           refine U.p rfl rfl (.inl rfl) (S.move rfl (L 24 rfl rfl)) ?_
           refine U.p rfl rfl (.inl rfl) (S.sub rfl (L 0 rfl rfl) K) ?_
           refine U.p rfl rfl (.inl rfl) (S.move rfl (L 20 rfl rfl)) ?_
           refine U.p rfl rfl (.inl rfl) (S.move rfl (L 27 rfl rfl)) ?_
           refine U.p rfl rfl (.inl rfl) (S.sub rfl (L 0 rfl rfl) K) ?_
           obtain ⟨x247, hx248, h249⟩ := bindS h245
           obtain ⟨_, hv250, _⟩ := ow240.osel (k := 0) rfl hv61 hx248
           refine U.p rfl rfl (.inl rfl) (S.index rfl ((L 2 rfl rfl).trans hv250) (L 0 rfl rfl) Try.underlying38 ti45 (ix_ge hx248) (ix_lt hx248)) ?_
           obtain ⟨cs251, hv252, hlt253, hr254, hc255⟩ := ow240.osel (k := 0) rfl hv61 hx248
           obtain rfl : cs251 = [.int .i64 x247.e.t, .int .i64 x247.e.act.kind, .int .i64 x247.e.act.at_, .int .i64 x247.e.act.val, .int .i64 x247.e.act.what, .bool x247.e.act.volatile, .bool x247.e.act.final, .int .i64 x247.e.rf, .int .i64 x247.e.id, .int .i64 x247.at_] := hr254
           refine U.k rfl rfl (.inl rfl) (S.loadN (cs := [.int .i64 x247.e.t, .int .i64 x247.e.act.kind, .int .i64 x247.e.act.at_, .int .i64 x247.e.act.val, .int .i64 x247.e.act.what, .bool x247.e.act.volatile, .bool x247.e.act.final, .int .i64 x247.e.rf, .int .i64 x247.e.id, .int .i64 x247.at_]) rfl (L 0 rfl rfl) Try.underlying45 rfl ti45 rfl hc255) (fun _ => (okH.nil (fun r h => by cases h; exact hlt253))) ?_
           refine U.p rfl rfl (.inl rfl) (S.move rfl (L 25 rfl rfl)) ?_
           refine U.p rfl rfl (.inl rfl) (S.move rfl (L 32 rfl rfl)) ?_
           obtain ⟨x256, hx257, h258⟩ := bindS h249
           obtain ⟨_, hv259, _⟩ := ow240.osel (k := 0) rfl hv61 hx257
           refine U.p rfl rfl (.inl rfl) (S.index rfl ((L 1 rfl rfl).trans hv259) (L 0 rfl rfl) Try.underlying38 ti45 (ix_ge hx257) (ix_lt hx257)) ?_
           obtain ⟨cs260, hv261, hlt262, hr263, hc264⟩ := ow240.osel (k := 0) rfl hv61 hx257
           obtain rfl : cs260 = [.int .i64 x256.e.t, .int .i64 x256.e.act.kind, .int .i64 x256.e.act.at_, .int .i64 x256.e.act.val, .int .i64 x256.e.act.what, .bool x256.e.act.volatile, .bool x256.e.act.final, .int .i64 x256.e.rf, .int .i64 x256.e.id, .int .i64 x256.at_] := hr263
           refine U.k rfl rfl (.inl rfl) (S.loadN (cs := [.int .i64 x256.e.t, .int .i64 x256.e.act.kind, .int .i64 x256.e.act.at_, .int .i64 x256.e.act.val, .int .i64 x256.e.act.what, .bool x256.e.act.volatile, .bool x256.e.act.final, .int .i64 x256.e.rf, .int .i64 x256.e.id, .int .i64 x256.at_]) rfl (L 0 rfl rfl) Try.underlying45 rfl ti45 rfl hc264) (fun _ => (okH.cons trivial (okH.nil (fun r h => by cases h; exact hlt262)))) ?_
           obtain ⟨x265, hx266, h267⟩ := bindS h258
           obtain ⟨_, hv268, _⟩ := ow240.osel (k := 0) rfl hv61 hx266
           refine U.p rfl rfl (.inl rfl) (S.index rfl ((L 13 rfl rfl).trans hv268) (L 12 rfl rfl) Try.underlying38 ti45 (ix_ge hx266) (ix_lt hx266)) ?_
           obtain ⟨cs269, hv270, hlt271, hr272, hc273⟩ := ow240.osel (k := 0) rfl hv61 hx266
           obtain rfl : cs269 = [.int .i64 x265.e.t, .int .i64 x265.e.act.kind, .int .i64 x265.e.act.at_, .int .i64 x265.e.act.val, .int .i64 x265.e.act.what, .bool x265.e.act.volatile, .bool x265.e.act.final, .int .i64 x265.e.rf, .int .i64 x265.e.id, .int .i64 x265.at_] := hr272
           refine O.storeE (k := 0) (R := RT_Torder_node) (j := 0) (y := x247) (cs := [.int .i64 x247.e.t, .int .i64 x247.e.act.kind, .int .i64 x247.e.act.at_, .int .i64 x247.e.act.val, .int .i64 x247.e.act.what, .bool x247.e.act.volatile, .bool x247.e.act.final, .int .i64 x247.e.rf, .int .i64 x247.e.id, .int .i64 x247.at_]) ow240 rfl hv270 rfl rfl (.inl rfl) rfl (L 0 rfl rfl) (L 5 rfl rfl) ti45 hx266 (by simp [topV]) rfl rfl rfl (full rfl) (fun H1 hs => (fun _ => (okH.cons (Or.inl rfl) (okH.cons (Or.inl rfl) (okH.nil (fun r h => nomatch h)))))) (fun V274 le275 ow276 => ?_)
           obtain ⟨x277, hx278, h279⟩ := bindS h267
           obtain ⟨_, hv280, _⟩ := ow276.osel (k := 0) rfl hv61 hx278
           refine U.p rfl rfl (.inl rfl) (S.index rfl ((L 12 rfl rfl).trans hv280) (L 10 rfl rfl) Try.underlying38 ti45 (ix_ge hx278) (ix_lt hx278)) ?_
           obtain ⟨cs281, hv282, hlt283, hr284, hc285⟩ := ow276.osel (k := 0) rfl hv61 hx278
           obtain rfl : cs281 = [.int .i64 x277.e.t, .int .i64 x277.e.act.kind, .int .i64 x277.e.act.at_, .int .i64 x277.e.act.val, .int .i64 x277.e.act.what, .bool x277.e.act.volatile, .bool x277.e.act.final, .int .i64 x277.e.rf, .int .i64 x277.e.id, .int .i64 x277.at_] := hr284
           refine O.storeE (k := 0) (R := RT_Torder_node) (j := 0) (y := x256) (cs := [.int .i64 x256.e.t, .int .i64 x256.e.act.kind, .int .i64 x256.e.act.at_, .int .i64 x256.e.act.val, .int .i64 x256.e.act.what, .bool x256.e.act.volatile, .bool x256.e.act.final, .int .i64 x256.e.rf, .int .i64 x256.e.id, .int .i64 x256.at_]) ow276 rfl hv282 rfl rfl (.inl rfl) rfl (L 0 rfl rfl) (L 2 rfl rfl) ti45 hx278 (by simp [topV]) rfl rfl rfl (full rfl) (fun H1 hs => (fun _ => (okH.cons rfl (okH.cons (Or.inl rfl) (okH.cons (Or.inl rfl) (okH.nil (fun r h => nomatch h))))))) (fun V286 le287 ow288 => ?_)
           refine U.done (Nat.le_of_ble_eq_true rfl) ?_
           refine blkN (sqN ?_)
           refine WP.ureg rfl ?_
           refine U.p rfl rfl (.inl rfl) (S.move rfl (L 37 rfl rfl)) ?_
           refine U.p rfl rfl (.inl rfl) (S.sub rfl (L 0 rfl rfl) K) ?_
           refine U.p rfl rfl (.inl rfl) (S.assign rfl (L 0 rfl rfl)) ?_
           refine U.done (Nat.le_of_ble_eq_true rfl) ?_
           refine sqN ?_
           exact ⟨_, V286, rfl, ⟨m208, Nat.lt_succ_self _, (xs201.set (Int.toNat x202) x247).set (Int.toNat (w64 (x202 - 1))) x256, w64 (x202 - 1), rfl, (((le206.trans le238).trans le275).trans le287), ow288, backS h279 e210⟩, (allCons (L 34 rfl rfl) (allCons (L 35 rfl rfl) (allCons (L 36 rfl rfl) (allCons (L 37 rfl rfl) (allCons (L 38 rfl rfl) (allCons (L 39 rfl rfl) (allCons (L 0 rfl rfl) allNil)))))))⟩
         ·have h289 := ifF c213 h212
          refine WP.exit ?_
          refine sqE (sqE (blkE (sqN ?_)))
          have h290 := exitS h289 e210
          exact ⟨_, V205, rfl, ⟨xs201, rfl, le206, ow207, h290⟩, (allCons (L 2 rfl rfl) (allCons (L 3 rfl rfl) (allCons (L 4 rfl rfl) (allCons (L 5 rfl rfl) (allCons (L 6 rfl rfl) (allCons (L 7 rfl rfl) allNil))))))⟩
        ·have h291 := ifF c199 h91
         refine WP.skip ?_
         refine sqN ?_
         exact ⟨_, V98, rfl, ⟨(xs3.set (Int.toNat x24) x54).set (Int.toNat (w64 (x24 - 1))) x68, rfl, (.refl _), ow100, h291⟩, (allCons (L 27 rfl rfl) (allCons (L 28 rfl rfl) (allCons (L 29 rfl rfl) (allCons (L 30 rfl rfl) (allCons (L 31 rfl rfl) (allCons (L 32 rfl rfl) allNil))))))⟩
   ·skip
    refine WP.udreg rfl rfl rfl ?_
    refine U.p rfl rfl (.inl rfl) (S.move rfl (L 4 rfl rfl)) ?_
    refine U.p rfl rfl (.inl rfl) (S.move rfl (L 3 rfl rfl)) ?_
    refine U.p rfl rfl (.inl rfl) (S.lss rfl (L 1 rfl rfl) (L 0 rfl rfl)) ?_
    refine U.p rfl rfl (.inl rfl) (S.move rfl (L 0 rfl rfl)) ?_
    refine bcase (b := decide (x24 < p2)) (fun g292 => ?_) (fun g292 => ?_)
    ·have h293 := ifT g292 h34
     refine U.p rfl rfl (.inr ⟨_, _, _, rfl, rfl, ((L 0 rfl rfl).trans (congrArg Value.bool g292))⟩) (S.move rfl (L 7 rfl rfl)) ?_
     refine U.p rfl rfl (.inr ⟨_, _, _, rfl, rfl, ((L 1 rfl rfl).trans (congrArg Value.bool g292))⟩) (S.move rfl (L 5 rfl rfl)) ?_
     refine U.p rfl rfl (.inr ⟨_, _, _, rfl, rfl, ((L 2 rfl rfl).trans (congrArg Value.bool g292))⟩) (S.move rfl (L 10 rfl rfl)) ?_
     obtain ⟨x294, hx295, h296⟩ := bindS h293
     obtain ⟨b297, o298, n299, c300, hv301⟩ := ow29.ospt (k := 0) rfl hx295
     obtain ⟨_, hv302, _⟩ := ow29.osel (k := 0) rfl hv301 hx295
     refine U.p rfl rfl (.inr ⟨_, _, _, rfl, rfl, ((L 3 rfl rfl).trans (congrArg Value.bool g292))⟩) (S.index rfl ((L 1 rfl rfl).trans hv302) (L 0 rfl rfl) Try.underlying38 ti45 (ix_ge hx295) (ix_lt hx295)) ?_
     obtain ⟨cs303, hv304, hlt305, hr306, hc307⟩ := ow29.osel (k := 0) rfl hv301 hx295
     obtain rfl : cs303 = [.int .i64 x294.e.t, .int .i64 x294.e.act.kind, .int .i64 x294.e.act.at_, .int .i64 x294.e.act.val, .int .i64 x294.e.act.what, .bool x294.e.act.volatile, .bool x294.e.act.final, .int .i64 x294.e.rf, .int .i64 x294.e.id, .int .i64 x294.at_] := hr306
     refine U.k rfl rfl (.inr ⟨_, _, _, rfl, rfl, ((L 4 rfl rfl).trans (congrArg Value.bool g292))⟩) (S.loadN (cs := [.int .i64 x294.e.t, .int .i64 x294.e.act.kind, .int .i64 x294.e.act.at_, .int .i64 x294.e.act.val, .int .i64 x294.e.act.what, .bool x294.e.act.volatile, .bool x294.e.act.final, .int .i64 x294.e.rf, .int .i64 x294.e.id, .int .i64 x294.at_]) rfl (L 0 rfl rfl) Try.underlying45 rfl ti45 rfl hc307) (fun _ => (okH.nil (fun r h => by cases h; exact hlt305))) ?_
     refine U.p rfl rfl (.inr ⟨_, _, _, rfl, rfl, ((L 5 rfl rfl).trans (congrArg Value.bool g292))⟩) (S.move rfl (L 9 rfl rfl)) ?_
     refine U.p rfl rfl (.inr ⟨_, _, _, rfl, rfl, ((L 6 rfl rfl).trans (congrArg Value.bool g292))⟩) (S.move rfl (L 14 rfl rfl)) ?_
     refine U.p rfl rfl (.inr ⟨_, _, _, rfl, rfl, ((L 7 rfl rfl).trans (congrArg Value.bool g292))⟩) (S.sub rfl (L 0 rfl rfl) K) ?_
     obtain ⟨x308, hx309, h310⟩ := bindS h296
     obtain ⟨_, hv311, _⟩ := ow29.osel (k := 0) rfl hv301 hx309
     refine U.p rfl rfl (.inr ⟨_, _, _, rfl, rfl, ((L 8 rfl rfl).trans (congrArg Value.bool g292))⟩) (S.index rfl ((L 2 rfl rfl).trans hv311) (L 0 rfl rfl) Try.underlying38 ti45 (ix_ge hx309) (ix_lt hx309)) ?_
     obtain ⟨cs312, hv313, hlt314, hr315, hc316⟩ := ow29.osel (k := 0) rfl hv301 hx309
     obtain rfl : cs312 = [.int .i64 x308.e.t, .int .i64 x308.e.act.kind, .int .i64 x308.e.act.at_, .int .i64 x308.e.act.val, .int .i64 x308.e.act.what, .bool x308.e.act.volatile, .bool x308.e.act.final, .int .i64 x308.e.rf, .int .i64 x308.e.id, .int .i64 x308.at_] := hr315
     refine U.k rfl rfl (.inr ⟨_, _, _, rfl, rfl, ((L 9 rfl rfl).trans (congrArg Value.bool g292))⟩) (S.loadN (cs := [.int .i64 x308.e.t, .int .i64 x308.e.act.kind, .int .i64 x308.e.act.at_, .int .i64 x308.e.act.val, .int .i64 x308.e.act.what, .bool x308.e.act.volatile, .bool x308.e.act.final, .int .i64 x308.e.rf, .int .i64 x308.e.id, .int .i64 x308.at_]) rfl (L 0 rfl rfl) Try.underlying45 rfl ti45 rfl hc316) (fun _ => (okH.cons trivial (okH.nil (fun r h => by cases h; exact hlt314)))) ?_
     obtain ⟨x317, hx318, h319⟩ := bindS h310
     refine O.callv (V := V27) rfl rfl (.inr ⟨_, _, _, rfl, rfl, ((L 10 rfl rfl).trans (congrArg Value.bool g292))⟩) rfl (L 9 rfl rfl) en50 (aC (L 5 rfl rfl) (aC (L 0 rfl rfl) aN)) (wk_order_Run_Apart_c2 V27 _ x294 x308 ow29 _ hx318) (fun v320 V321 le322 hp323 => by obtain ⟨rfl, ow324⟩ := hp323; exact (fun _ => (okH.cons (Or.inl rfl) (okH.cons (Or.inl rfl) (okH.nil (fun r h => nomatch h)))))) (fun v320 V321 le322 hp323 => ?_)
     obtain ⟨rfl, ow324⟩ := hp323
     refine U.p rfl rfl (.inr ⟨_, _, _, rfl, rfl, ((L 11 rfl rfl).trans (congrArg Value.bool g292))⟩) (S.lss rfl (L 0 rfl rfl) K) ?_
     refine U.p rfl rfl (.inr ⟨_, _, _, rfl, rfl, ((L 12 rfl rfl).trans (congrArg Value.bool g292))⟩) (S.not rfl (L 0 rfl rfl)) ?_
     refine U.p rfl rfl (.inl rfl) (S.pickT rfl ((L 13 rfl rfl).trans (congrArg Value.bool g292)) (L 0 rfl rfl)) ?_
     refine U.done (Nat.le_of_ble_eq_true rfl) ?_
     refine sqN ?_
     exact ⟨_, V321, rfl, ⟨!(decide (x317 < 0)), rfl, le322, ow324, h319⟩, (allCons (L 18 rfl rfl) (allCons (L 19 rfl rfl) (allCons (L 20 rfl rfl) (allCons (L 21 rfl rfl) (allCons (L 22 rfl rfl) (allCons (L 23 rfl rfl) (allCons (L 0 rfl rfl) allNil)))))))⟩
    ·have h325 := ifF g292 h34
     refine U.x rfl rfl rfl rfl ((L 0 rfl rfl).trans (congrArg Value.bool g292)) (by decide) ?_
     refine U.x rfl rfl rfl rfl ((L 1 rfl rfl).trans (congrArg Value.bool g292)) (by decide) ?_
     refine U.x rfl rfl rfl rfl ((L 2 rfl rfl).trans (congrArg Value.bool g292)) (by decide) ?_
     refine U.x rfl rfl rfl rfl ((L 3 rfl rfl).trans (congrArg Value.bool g292)) (by decide) ?_
     refine U.x rfl rfl rfl rfl ((L 4 rfl rfl).trans (congrArg Value.bool g292)) (by decide) ?_
     refine U.x rfl rfl rfl rfl ((L 5 rfl rfl).trans (congrArg Value.bool g292)) (by decide) ?_
     refine U.x rfl rfl rfl rfl ((L 6 rfl rfl).trans (congrArg Value.bool g292)) (by decide) ?_
     refine U.x rfl rfl rfl rfl ((L 7 rfl rfl).trans (congrArg Value.bool g292)) (by decide) ?_
     refine U.x rfl rfl rfl rfl ((L 8 rfl rfl).trans (congrArg Value.bool g292)) (by decide) ?_
     refine U.x rfl rfl rfl rfl ((L 9 rfl rfl).trans (congrArg Value.bool g292)) (by decide) ?_
     refine U.x rfl rfl rfl rfl ((L 10 rfl rfl).trans (congrArg Value.bool g292)) (by decide) ?_
     refine U.x rfl rfl rfl rfl ((L 11 rfl rfl).trans (congrArg Value.bool g292)) (by decide) ?_
     refine U.x rfl rfl rfl rfl ((L 12 rfl rfl).trans (congrArg Value.bool g292)) (by decide) ?_
     refine U.p rfl rfl (.inl rfl) (S.pickF rfl ((L 13 rfl rfl).trans (congrArg Value.bool g292)) K) ?_
     refine U.done (Nat.le_of_ble_eq_true rfl) ?_
     refine sqN ?_
     exact ⟨_, V27, rfl, ⟨false, rfl, (.refl _), ow29, h325⟩, (allCons (L 18 rfl rfl) (allCons (L 19 rfl rfl) (allCons (L 20 rfl rfl) (allCons (L 21 rfl rfl) (allCons (L 22 rfl rfl) (allCons (L 23 rfl rfl) (allCons (L 0 rfl rfl) allNil)))))))⟩
 ·have h326 := ifF c16 h15
  refine WP.exit ?_
  refine sqE (sqE (blkE (sqN ?_)))
  have h327 := exitS h326 e13
  refine WP.usreg rfl ?_
  refine U.p rfl rfl (.inl rfl) (S.assign rfl K) ?_
  refine U.done (Nat.le_of_ble_eq_true rfl) ?_
  refine WP.ret ?_
  refine fin.slot (.inr rfl) rfl (L 0 rfl rfl) ⟨V8, rfl, le9, ?_⟩
  have e328 := Option.some.inj h327
  subst e328
  exact ⟨rfl, ow10⟩

set_option maxHeartbeats 4000000 in
set_option maxRecDepth 10000 in
theorem wk_slices_partitionEqualCmpFunc (V : Vw) (Rs : List At) (p0 : List Torder_node) (p1 : Int) (p2 : Int) (p3 : Int) (v1 : Value) (ow : Ow V (.os RT_Torder_node v1 p0 :: Rs)) (r : Int × (List Torder_node)) (h : slices_partitionEqualCmpFunc p0 p1 p2 p3 = some r) : ∃ v V', Cl Try.prog 0 67 #[v1, .int .i64 p1, .int .i64 p2, .int .i64 p3, .func (.func 50) #[] #[]] V.H v V'.H ∧ V.le V' ∧ (v = .int .i64 r.1 ∧ Ow V' (.os RT_Torder_node v1 r.2 :: Rs)) := by
 refine Ct.of (Nat.zero_le _) Try.func67 rfl (Nat.le_of_ble_eq_true rfl) ?_
 unfold slices_partitionEqualCmpFunc at h
 refine WP.usreg rfl ?_
 refine U.p rfl rfl (.inl rfl) (S.assign rfl K) ?_
 refine U.done (Nat.le_of_ble_eq_true rfl) ?_
 refine WP.usdreg rfl rfl rfl ?_
 refine U.p rfl rfl (.inl rfl) (S.move rfl (L 1 rfl rfl)) ?_
 refine U.p rfl rfl (.inl rfl) (S.move rfl (L 3 rfl rfl)) ?_
 refine U.p rfl rfl (.inl rfl) (S.move rfl (L 3 rfl rfl)) ?_
 refine U.p rfl rfl (.inl rfl) (S.move rfl (L 7 rfl rfl)) ?_
 refine U.p rfl rfl (.inl rfl) (S.move rfl (L 5 rfl rfl)) ?_
 refine U.p rfl rfl (.inl rfl) (S.move rfl (L 9 rfl rfl)) ?_
 obtain ⟨x3, hx4, h5⟩ := bindS h
 obtain ⟨b6, o7, n8, c9, hv10⟩ := ow.ospt (k := 0) rfl hx4
 obtain ⟨_, hv11, _⟩ := ow.osel (k := 0) rfl hv10 hx4
 refine U.p rfl rfl (.inl rfl) (S.index rfl ((L 1 rfl rfl).trans hv11) (L 0 rfl rfl) Try.underlying38 ti45 (ix_ge hx4) (ix_lt hx4)) ?_
 obtain ⟨cs12, hv13, hlt14, hr15, hc16⟩ := ow.osel (k := 0) rfl hv10 hx4
 obtain rfl : cs12 = [.int .i64 x3.e.t, .int .i64 x3.e.act.kind, .int .i64 x3.e.act.at_, .int .i64 x3.e.act.val, .int .i64 x3.e.act.what, .bool x3.e.act.volatile, .bool x3.e.act.final, .int .i64 x3.e.rf, .int .i64 x3.e.id, .int .i64 x3.at_] := hr15
 refine U.k rfl rfl (.inl rfl) (S.loadN (cs := [.int .i64 x3.e.t, .int .i64 x3.e.act.kind, .int .i64 x3.e.act.at_, .int .i64 x3.e.act.val, .int .i64 x3.e.act.what, .bool x3.e.act.volatile, .bool x3.e.act.final, .int .i64 x3.e.rf, .int .i64 x3.e.id, .int .i64 x3.at_]) rfl (L 0 rfl rfl) Try.underlying45 rfl ti45 rfl hc16) (fun _ => (okH.nil (fun r h => by cases h; exact hlt14))) ?_
 refine U.p rfl rfl (.inl rfl) (S.move rfl (L 9 rfl rfl)) ?_
 refine U.p rfl rfl (.inl rfl) (S.move rfl (L 11 rfl rfl)) ?_
 obtain ⟨x17, hx18, h19⟩ := bindS h5
 obtain ⟨_, hv20, _⟩ := ow.osel (k := 0) rfl hv10 hx18
 refine U.p rfl rfl (.inl rfl) (S.index rfl ((L 1 rfl rfl).trans hv20) (L 0 rfl rfl) Try.underlying38 ti45 (ix_ge hx18) (ix_lt hx18)) ?_
 obtain ⟨cs21, hv22, hlt23, hr24, hc25⟩ := ow.osel (k := 0) rfl hv10 hx18
 obtain rfl : cs21 = [.int .i64 x17.e.t, .int .i64 x17.e.act.kind, .int .i64 x17.e.act.at_, .int .i64 x17.e.act.val, .int .i64 x17.e.act.what, .bool x17.e.act.volatile, .bool x17.e.act.final, .int .i64 x17.e.rf, .int .i64 x17.e.id, .int .i64 x17.at_] := hr24
 refine U.k rfl rfl (.inl rfl) (S.loadN (cs := [.int .i64 x17.e.t, .int .i64 x17.e.act.kind, .int .i64 x17.e.act.at_, .int .i64 x17.e.act.val, .int .i64 x17.e.act.what, .bool x17.e.act.volatile, .bool x17.e.act.final, .int .i64 x17.e.rf, .int .i64 x17.e.id, .int .i64 x17.at_]) rfl (L 0 rfl rfl) Try.underlying45 rfl ti45 rfl hc25) (fun _ => (okH.cons trivial (okH.nil (fun r h => by cases h; exact hlt23)))) ?_
 obtain ⟨x26, hx27, h28⟩ := bindS h19
 obtain ⟨_, hv29, _⟩ := ow.osel (k := 0) rfl hv10 hx27
 refine U.p rfl rfl (.inl rfl) (S.index rfl ((L 11 rfl rfl).trans hv29) (L 10 rfl rfl) Try.underlying38 ti45 (ix_ge hx27) (ix_lt hx27)) ?_
 obtain ⟨cs30, hv31, hlt32, hr33, hc34⟩ := ow.osel (k := 0) rfl hv10 hx27
 obtain rfl : cs30 = [.int .i64 x26.e.t, .int .i64 x26.e.act.kind, .int .i64 x26.e.act.at_, .int .i64 x26.e.act.val, .int .i64 x26.e.act.what, .bool x26.e.act.volatile, .bool x26.e.act.final, .int .i64 x26.e.rf, .int .i64 x26.e.id, .int .i64 x26.at_] := hr33
 refine O.storeE (k := 0) (R := RT_Torder_node) (j := 0) (y := x3) (cs := [.int .i64 x3.e.t, .int .i64 x3.e.act.kind, .int .i64 x3.e.act.at_, .int .i64 x3.e.act.val, .int .i64 x3.e.act.what, .bool x3.e.act.volatile, .bool x3.e.act.final, .int .i64 x3.e.rf, .int .i64 x3.e.id, .int .i64 x3.at_]) ow rfl hv31 rfl rfl (.inl rfl) rfl (L 0 rfl rfl) (L 5 rfl rfl) ti45 hx27 (by simp [topV]) rfl rfl rfl (full rfl) (fun H1 hs => (fun _ => (okH.cons (Or.inl rfl) (okH.cons (Or.inl rfl) (okH.nil (fun r h => nomatch h)))))) (fun V35 le36 ow37 => ?_)
 obtain ⟨x38, hx39, h40⟩ := bindS h28
 obtain ⟨_, hv41, _⟩ := ow37.osel (k := 0) rfl hv10 hx39
 refine U.p rfl rfl (.inl rfl) (S.index rfl ((L 10 rfl rfl).trans hv41) (L 9 rfl rfl) Try.underlying38 ti45 (ix_ge hx39) (ix_lt hx39)) ?_
 obtain ⟨cs42, hv43, hlt44, hr45, hc46⟩ := ow37.osel (k := 0) rfl hv10 hx39
 obtain rfl : cs42 = [.int .i64 x38.e.t, .int .i64 x38.e.act.kind, .int .i64 x38.e.act.at_, .int .i64 x38.e.act.val, .int .i64 x38.e.act.what, .bool x38.e.act.volatile, .bool x38.e.act.final, .int .i64 x38.e.rf, .int .i64 x38.e.id, .int .i64 x38.at_] := hr45
 refine O.storeE (k := 0) (R := RT_Torder_node) (j := 0) (y := x17) (cs := [.int .i64 x17.e.t, .int .i64 x17.e.act.kind, .int .i64 x17.e.act.at_, .int .i64 x17.e.act.val, .int .i64 x17.e.act.what, .bool x17.e.act.volatile, .bool x17.e.act.final, .int .i64 x17.e.rf, .int .i64 x17.e.id, .int .i64 x17.at_]) ow37 rfl hv43 rfl rfl (.inl rfl) rfl (L 0 rfl rfl) (L 2 rfl rfl) ti45 hx39 (by simp [topV]) rfl rfl rfl (full rfl) (fun H1 hs => (fun _ => (okH.cons rfl (okH.cons (Or.inl rfl) (okH.cons (Or.inl rfl) (okH.nil (fun r h => nomatch h))))))) (fun V47 le48 ow49 => ?_)
 refine U.done (Nat.le_of_ble_eq_true rfl) ?_
 refine WP.usreg rfl ?_
 refine U.p rfl rfl (.inl rfl) (S.move rfl (L 16 rfl rfl)) ?_
 refine U.p rfl rfl (.inl rfl) (S.add rfl (L 0 rfl rfl) K) ?_
 refine U.p rfl rfl (.inl rfl) (S.move rfl (L 19 rfl rfl)) ?_
 refine U.p rfl rfl (.inl rfl) (S.sub rfl (L 0 rfl rfl) K) ?_
 refine U.p rfl rfl (.inl rfl) (S.assign rfl (L 2 rfl rfl)) ?_
 refine U.p rfl rfl (.inl rfl) (S.assign rfl (L 1 rfl rfl)) ?_
 refine U.done (Nat.le_of_ble_eq_true rfl) ?_
 refine WP.seq ?_
 refine WP.blk ?_
 unfold slices_partitionEqualCmpFunc_l1 at h40
 obtain ⟨n54, hn53⟩ := loopO_some.1 h40
 refine WP.loopI2 (fun n l V' => ∃ (xs50 : List Torder_node) (x51 : Int) (x52 : Int), l = [(0, v1), (1, .int .i64 p1), (4, .func (.func 50) #[] #[]), (11, .int .i64 x51), (12, .int .i64 x52)] ∧ V47.le V' ∧ Ow V' (.os RT_Torder_node v1 xs50 :: Rs) ∧ itO (fun s => slices_partitionEqualCmpFunc_l1b p1 s.1 s.2.1 s.2.2) n (xs50, x51, x52) = some r) n54 _ ⟨(p0.set (Int.toNat p1) x3).set (Int.toNat p3) x17, w64 (p1 + 1), w64 (p2 - 1), rfl, .refl _, ow49, hn53⟩ (allCons (L 21 rfl rfl) (allCons (L 22 rfl rfl) (allCons (L 25 rfl rfl) (allCons (L 1 rfl rfl) (allCons (L 0 rfl rfl) allNil))))) ?_
 rintro _ _ V55 ⟨xs50, x51, x52, rfl, le56, ow57, h61⟩
 obtain ⟨m58, q59, rfl, h62, e60⟩ := itS h61
 replace h62 : slices_partitionEqualCmpFunc_l1b p1 xs50 x51 x52 = some q59 := h62
 unfold slices_partitionEqualCmpFunc_l1b at h62
 refine WP.blk ?_
 refine WP.seq ?_
 refine WP.blk ?_
 unfold slices_partitionEqualCmpFunc_l2 at h62
 obtain ⟨n65, hn64⟩ := loopO_some.1 h62
 refine WP.loopI2 (fun n l V' => ∃ (x63 : Int), l = [(0, v1), (1, .int .i64 p1), (4, .func (.func 50) #[] #[]), (11, .int .i64 x63), (12, .int .i64 x52)] ∧ V55.le V' ∧ Ow V' (.os RT_Torder_node v1 xs50 :: Rs) ∧ itO (fun s => slices_partitionEqualCmpFunc_l2b p1 xs50 x52 s) n x63 = some q59) n65 _ ⟨x51, rfl, .refl _, ow57, hn64⟩ (allCons (L 0 rfl rfl) (allCons (L 1 rfl rfl) (allCons (L 2 rfl rfl) (allCons (L 3 rfl rfl) (allCons (L 4 rfl rfl) allNil))))) ?_
 rintro _ _ V66 ⟨x63, rfl, le67, ow68, h72⟩
 obtain ⟨m69, q70, rfl, h73, e71⟩ := itS h72
 replace h73 : slices_partitionEqualCmpFunc_l2b p1 xs50 x52 x63 = some q70 := h73
 unfold slices_partitionEqualCmpFunc_l2b at h73
 refine WP.seq ?_
 refine WP.seqI (fun l V' => ∃ (x74 : Bool), l = [(0, v1), (1, .int .i64 p1), (4, .func (.func 50) #[] #[]), (11, .int .i64 x63), (12, .int .i64 x52), (47, .bool x74)] ∧ V66.le V' ∧ Ow V' (.os RT_Torder_node v1 xs50 :: Rs) ∧ slices_partitionEqualCmpFunc_k1 p1 xs50 x52 x63 x74 = some q70) ?_ ?_
 ·rintro _ V75 ⟨x74, rfl, le76, ow77, h78⟩
  unfold slices_partitionEqualCmpFunc_k1 at h78
  refine WP.cond _ (L 5 rfl rfl) rfl (fun c79 => ?_) (fun c79 => ?_)
  ·have h80 := ifT c79 h78
   refine WP.skip ?_
   refine sqN ?_
   refine WP.blk ?_
   refine WP.ureg rfl ?_
   refine U.p rfl rfl (.inl rfl) (S.move rfl (L 3 rfl rfl)) ?_
   refine U.p rfl rfl (.inl rfl) (S.add rfl (L 0 rfl rfl) K) ?_
   refine U.p rfl rfl (.inl rfl) (S.assign rfl (L 0 rfl rfl)) ?_
   refine U.done (Nat.le_of_ble_eq_true rfl) ?_
   refine blkN (sqN ?_)
   exact ⟨_, V75, rfl, ⟨m69, Nat.lt_succ_self _, w64 (x63 + 1), rfl, (le67.trans le76), ow77, backS h80 e71⟩, (allCons (L 3 rfl rfl) (allCons (L 4 rfl rfl) (allCons (L 5 rfl rfl) (allCons (L 0 rfl rfl) (allCons (L 7 rfl rfl) allNil)))))⟩
  ·have h81 := ifF c79 h78
   refine WP.exit ?_
   refine sqE (sqE (blkE (sqN ?_)))
   have h82 := exitS h81 e71
   refine WP.seq ?_
   refine WP.blk ?_
   unfold slices_partitionEqualCmpFunc_l3 at h82
   obtain ⟨n85, hn84⟩ := loopO_some.1 h82
   refine WP.loopI2 (fun n l V' => ∃ (x83 : Int), l = [(0, v1), (1, .int .i64 p1), (4, .func (.func 50) #[] #[]), (11, .int .i64 x63), (12, .int .i64 x83)] ∧ V75.le V' ∧ Ow V' (.os RT_Torder_node v1 xs50 :: Rs) ∧ itO (fun s => slices_partitionEqualCmpFunc_l3b p1 xs50 x63 s) n x83 = some q59) n85 _ ⟨x52, rfl, .refl _, ow77, hn84⟩ (allCons (L 0 rfl rfl) (allCons (L 1 rfl rfl) (allCons (L 2 rfl rfl) (allCons (L 3 rfl rfl) (allCons (L 4 rfl rfl) allNil))))) ?_
   rintro _ _ V86 ⟨x83, rfl, le87, ow88, h92⟩
   obtain ⟨m89, q90, rfl, h93, e91⟩ := itS h92
   replace h93 : slices_partitionEqualCmpFunc_l3b p1 xs50 x63 x83 = some q90 := h93
   unfold slices_partitionEqualCmpFunc_l3b at h93
   refine WP.seq ?_
   refine WP.seqI (fun l V' => ∃ (x94 : Bool), l = [(0, v1), (1, .int .i64 p1), (4, .func (.func 50) #[] #[]), (11, .int .i64 x63), (12, .int .i64 x83), (65, .bool x94)] ∧ V86.le V' ∧ Ow V' (.os RT_Torder_node v1 xs50 :: Rs) ∧ slices_partitionEqualCmpFunc_k2 xs50 x63 x83 x94 = some q90) ?_ ?_
   ·rintro _ V95 ⟨x94, rfl, le96, ow97, h98⟩
    unfold slices_partitionEqualCmpFunc_k2 at h98
    refine WP.cond _ (L 5 rfl rfl) rfl (fun c99 => ?_) (fun c99 => ?_)
    ·have h100 := ifT c99 h98
     refine WP.skip ?_
     refine sqN ?_
     refine WP.blk ?_
     refine WP.ureg rfl ?_
     refine U.p rfl rfl (.inl rfl) (S.move rfl (L 4 rfl rfl)) ?_
     refine U.p rfl rfl (.inl rfl) (S.sub rfl (L 0 rfl rfl) K) ?_
     refine U.p rfl rfl (.inl rfl) (S.assign rfl (L 0 rfl rfl)) ?_
     refine U.done (Nat.le_of_ble_eq_true rfl) ?_
     refine blkN (sqN ?_)
     exact ⟨_, V95, rfl, ⟨m89, Nat.lt_succ_self _, w64 (x83 - 1), rfl, (le87.trans le96), ow97, backS h100 e91⟩, (allCons (L 3 rfl rfl) (allCons (L 4 rfl rfl) (allCons (L 5 rfl rfl) (allCons (L 6 rfl rfl) (allCons (L 0 rfl rfl) allNil)))))⟩
    ·have h101 := ifF c99 h98
     refine WP.exit ?_
     refine sqE (sqE (blkE (sqN ?_)))
     have h102 := exitS h101 e91
     refine WP.seq ?_
     refine WP.usreg rfl ?_
     refine U.p rfl rfl (.inl rfl) (S.move rfl (L 3 rfl rfl)) ?_
     refine U.p rfl rfl (.inl rfl) (S.move rfl (L 5 rfl rfl)) ?_
     refine U.p rfl rfl (.inl rfl) (S.gtr rfl (L 1 rfl rfl) (L 0 rfl rfl)) ?_
     refine U.done (Nat.le_of_ble_eq_true rfl) ?_
     refine WP.cond _ (L 0 rfl rfl) rfl (fun c103 => ?_) (fun c103 => ?_)
     ·have h104 := ifT c103 h102
      refine WP.exit ?_
      refine sqE (blkO rfl (sqE (blkE (sqN ?_))))
      have h105 := exitS h104 e60
      refine WP.usreg rfl ?_
      refine U.p rfl rfl (.inl rfl) (S.move rfl (L 6 rfl rfl)) ?_
      refine U.p rfl rfl (.inl rfl) (S.assign rfl (L 0 rfl rfl)) ?_
      refine U.done (Nat.le_of_ble_eq_true rfl) ?_
      refine WP.ret ?_
      refine fin.slot (.inr rfl) rfl (L 0 rfl rfl) ⟨V95, rfl, ((((((le36.trans le48).trans le56).trans le67).trans le76).trans le87).trans le96), ?_⟩
      have e106 := Option.some.inj h105
      subst e106
      exact ⟨rfl, ow97⟩
     ·have h107 := ifF c103 h102
      refine WP.skip ?_
      refine sqN ?_
      refine WP.usdreg rfl rfl rfl ?_
      refine U.p rfl rfl (.inl rfl) (S.move rfl (L 3 rfl rfl)) ?_
      refine U.p rfl rfl (.inl rfl) (S.move rfl (L 7 rfl rfl)) ?_
      refine U.p rfl rfl (.inl rfl) (S.move rfl (L 5 rfl rfl)) ?_
      refine U.p rfl rfl (.inl rfl) (S.move rfl (L 10 rfl rfl)) ?_
      refine U.p rfl rfl (.inl rfl) (S.move rfl (L 7 rfl rfl)) ?_
      refine U.p rfl rfl (.inl rfl) (S.move rfl (L 12 rfl rfl)) ?_
      obtain ⟨x108, hx109, h110⟩ := bindS h107
      obtain ⟨_, hv111, _⟩ := ow97.osel (k := 0) rfl hv10 hx109
      refine U.p rfl rfl (.inl rfl) (S.index rfl ((L 1 rfl rfl).trans hv111) (L 0 rfl rfl) Try.underlying38 ti45 (ix_ge hx109) (ix_lt hx109)) ?_
      obtain ⟨cs112, hv113, hlt114, hr115, hc116⟩ := ow97.osel (k := 0) rfl hv10 hx109
      obtain rfl : cs112 = [.int .i64 x108.e.t, .int .i64 x108.e.act.kind, .int .i64 x108.e.act.at_, .int .i64 x108.e.act.val, .int .i64 x108.e.act.what, .bool x108.e.act.volatile, .bool x108.e.act.final, .int .i64 x108.e.rf, .int .i64 x108.e.id, .int .i64 x108.at_] := hr115
      refine U.k rfl rfl (.inl rfl) (S.loadN (cs := [.int .i64 x108.e.t, .int .i64 x108.e.act.kind, .int .i64 x108.e.act.at_, .int .i64 x108.e.act.val, .int .i64 x108.e.act.what, .bool x108.e.act.volatile, .bool x108.e.act.final, .int .i64 x108.e.rf, .int .i64 x108.e.id, .int .i64 x108.at_]) rfl (L 0 rfl rfl) Try.underlying45 rfl ti45 rfl hc116) (fun _ => (okH.nil (fun r h => by cases h; exact hlt114))) ?_
      refine U.p rfl rfl (.inl rfl) (S.move rfl (L 11 rfl rfl)) ?_
      refine U.p rfl rfl (.inl rfl) (S.move rfl (L 15 rfl rfl)) ?_
      obtain ⟨x117, hx118, h119⟩ := bindS h110
      obtain ⟨_, hv120, _⟩ := ow97.osel (k := 0) rfl hv10 hx118
      refine U.p rfl rfl (.inl rfl) (S.index rfl ((L 1 rfl rfl).trans hv120) (L 0 rfl rfl) Try.underlying38 ti45 (ix_ge hx118) (ix_lt hx118)) ?_
      obtain ⟨cs121, hv122, hlt123, hr124, hc125⟩ := ow97.osel (k := 0) rfl hv10 hx118
      obtain rfl : cs121 = [.int .i64 x117.e.t, .int .i64 x117.e.act.kind, .int .i64 x117.e.act.at_, .int .i64 x117.e.act.val, .int .i64 x117.e.act.what, .bool x117.e.act.volatile, .bool x117.e.act.final, .int .i64 x117.e.rf, .int .i64 x117.e.id, .int .i64 x117.at_] := hr124
      refine U.k rfl rfl (.inl rfl) (S.loadN (cs := [.int .i64 x117.e.t, .int .i64 x117.e.act.kind, .int .i64 x117.e.act.at_, .int .i64 x117.e.act.val, .int .i64 x117.e.act.what, .bool x117.e.act.volatile, .bool x117.e.act.final, .int .i64 x117.e.rf, .int .i64 x117.e.id, .int .i64 x117.at_]) rfl (L 0 rfl rfl) Try.underlying45 rfl ti45 rfl hc125) (fun _ => (okH.cons trivial (okH.nil (fun r h => by cases h; exact hlt123)))) ?_
      obtain ⟨x126, hx127, h128⟩ := bindS h119
      obtain ⟨_, hv129, _⟩ := ow97.osel (k := 0) rfl hv10 hx127
      refine U.p rfl rfl (.inl rfl) (S.index rfl ((L 11 rfl rfl).trans hv129) (L 10 rfl rfl) Try.underlying38 ti45 (ix_ge hx127) (ix_lt hx127)) ?_
      obtain ⟨cs130, hv131, hlt132, hr133, hc134⟩ := ow97.osel (k := 0) rfl hv10 hx127
      obtain rfl : cs130 = [.int .i64 x126.e.t, .int .i64 x126.e.act.kind, .int .i64 x126.e.act.at_, .int .i64 x126.e.act.val, .int .i64 x126.e.act.what, .bool x126.e.act.volatile, .bool x126.e.act.final, .int .i64 x126.e.rf, .int .i64 x126.e.id, .int .i64 x126.at_] := hr133
      refine O.storeE (k := 0) (R := RT_Torder_node) (j := 0) (y := x108) (cs := [.int .i64 x108.e.t, .int .i64 x108.e.act.kind, .int .i64 x108.e.act.at_, .int .i64 x108.e.act.val, .int .i64 x108.e.act.what, .bool x108.e.act.volatile, .bool x108.e.act.final, .int .i64 x108.e.rf, .int .i64 x108.e.id, .int .i64 x108.at_]) ow97 rfl hv131 rfl rfl (.inl rfl) rfl (L 0 rfl rfl) (L 5 rfl rfl) ti45 hx127 (by simp [topV]) rfl rfl rfl (full rfl) (fun H1 hs => (fun _ => (okH.cons (Or.inl rfl) (okH.cons (Or.inl rfl) (okH.nil (fun r h => nomatch h)))))) (fun V135 le136 ow137 => ?_)
      obtain ⟨x138, hx139, h140⟩ := bindS h128
      obtain ⟨_, hv141, _⟩ := ow137.osel (k := 0) rfl hv10 hx139
      refine U.p rfl rfl (.inl rfl) (S.index rfl ((L 10 rfl rfl).trans hv141) (L 9 rfl rfl) Try.underlying38 ti45 (ix_ge hx139) (ix_lt hx139)) ?_
      obtain ⟨cs142, hv143, hlt144, hr145, hc146⟩ := ow137.osel (k := 0) rfl hv10 hx139
      obtain rfl : cs142 = [.int .i64 x138.e.t, .int .i64 x138.e.act.kind, .int .i64 x138.e.act.at_, .int .i64 x138.e.act.val, .int .i64 x138.e.act.what, .bool x138.e.act.volatile, .bool x138.e.act.final, .int .i64 x138.e.rf, .int .i64 x138.e.id, .int .i64 x138.at_] := hr145
      refine O.storeE (k := 0) (R := RT_Torder_node) (j := 0) (y := x117) (cs := [.int .i64 x117.e.t, .int .i64 x117.e.act.kind, .int .i64 x117.e.act.at_, .int .i64 x117.e.act.val, .int .i64 x117.e.act.what, .bool x117.e.act.volatile, .bool x117.e.act.final, .int .i64 x117.e.rf, .int .i64 x117.e.id, .int .i64 x117.at_]) ow137 rfl hv143 rfl rfl (.inl rfl) rfl (L 0 rfl rfl) (L 2 rfl rfl) ti45 hx139 (by simp [topV]) rfl rfl rfl (full rfl) (fun H1 hs => (fun _ => (okH.cons rfl (okH.cons (Or.inl rfl) (okH.cons (Or.inl rfl) (okH.nil (fun r h => nomatch h))))))) (fun V147 le148 ow149 => ?_)
      refine U.done (Nat.le_of_ble_eq_true rfl) ?_
      refine WP.usreg rfl ?_
      refine U.p rfl rfl (.inl rfl) (S.move rfl (L 20 rfl rfl)) ?_
      refine U.p rfl rfl (.inl rfl) (S.add rfl (L 0 rfl rfl) K) ?_
      refine U.p rfl rfl (.inl rfl) (S.assign rfl (L 0 rfl rfl)) ?_
      refine U.done (Nat.le_of_ble_eq_true rfl) ?_
      refine WP.ureg rfl ?_
      refine U.p rfl rfl (.inl rfl) (S.move rfl (L 24 rfl rfl)) ?_
      refine U.p rfl rfl (.inl rfl) (S.sub rfl (L 0 rfl rfl) K) ?_
      refine U.p rfl rfl (.inl rfl) (S.assign rfl (L 0 rfl rfl)) ?_
      refine U.done (Nat.le_of_ble_eq_true rfl) ?_
      refine blkN (sqN ?_)
      exact ⟨_, V147, rfl, ⟨m58, Nat.lt_succ_self _, (xs50.set (Int.toNat x63) x108).set (Int.toNat x83) x117, w64 (x63 + 1), w64 (x83 - 1), rfl, ((((((le56.trans le67).trans le76).trans le87).trans le96).trans le136).trans le148), ow149, backS h140 e60⟩, (allCons (L 23 rfl rfl) (allCons (L 24 rfl rfl) (allCons (L 25 rfl rfl) (allCons (L 3 rfl rfl) (allCons (L 0 rfl rfl) allNil)))))⟩
   ·skip
    refine WP.udreg rfl rfl rfl ?_
    refine U.p rfl rfl (.inl rfl) (S.move rfl (L 3 rfl rfl)) ?_
    refine U.p rfl rfl (.inl rfl) (S.move rfl (L 5 rfl rfl)) ?_
    refine U.p rfl rfl (.inl rfl) (S.leq rfl (L 1 rfl rfl) (L 0 rfl rfl)) ?_
    refine U.p rfl rfl (.inl rfl) (S.move rfl (L 0 rfl rfl)) ?_
    refine bcase (b := decide (x63 ≤ x83)) (fun g150 => ?_) (fun g150 => ?_)
    ·have h151 := ifT g150 h93
     refine U.p rfl rfl (.inr ⟨_, _, _, rfl, rfl, ((L 0 rfl rfl).trans (congrArg Value.bool g150))⟩) (S.move rfl (L 6 rfl rfl)) ?_
     refine U.p rfl rfl (.inr ⟨_, _, _, rfl, rfl, ((L 1 rfl rfl).trans (congrArg Value.bool g150))⟩) (S.move rfl (L 5 rfl rfl)) ?_
     refine U.p rfl rfl (.inr ⟨_, _, _, rfl, rfl, ((L 2 rfl rfl).trans (congrArg Value.bool g150))⟩) (S.move rfl (L 7 rfl rfl)) ?_
     obtain ⟨x152, hx153, h154⟩ := bindS h151
     obtain ⟨_, hv155, _⟩ := ow88.osel (k := 0) rfl hv10 hx153
     refine U.p rfl rfl (.inr ⟨_, _, _, rfl, rfl, ((L 3 rfl rfl).trans (congrArg Value.bool g150))⟩) (S.index rfl ((L 1 rfl rfl).trans hv155) (L 0 rfl rfl) Try.underlying38 ti45 (ix_ge hx153) (ix_lt hx153)) ?_
     obtain ⟨cs156, hv157, hlt158, hr159, hc160⟩ := ow88.osel (k := 0) rfl hv10 hx153
     obtain rfl : cs156 = [.int .i64 x152.e.t, .int .i64 x152.e.act.kind, .int .i64 x152.e.act.at_, .int .i64 x152.e.act.val, .int .i64 x152.e.act.what, .bool x152.e.act.volatile, .bool x152.e.act.final, .int .i64 x152.e.rf, .int .i64 x152.e.id, .int .i64 x152.at_] := hr159
     refine U.k rfl rfl (.inr ⟨_, _, _, rfl, rfl, ((L 4 rfl rfl).trans (congrArg Value.bool g150))⟩) (S.loadN (cs := [.int .i64 x152.e.t, .int .i64 x152.e.act.kind, .int .i64 x152.e.act.at_, .int .i64 x152.e.act.val, .int .i64 x152.e.act.what, .bool x152.e.act.volatile, .bool x152.e.act.final, .int .i64 x152.e.rf, .int .i64 x152.e.id, .int .i64 x152.at_]) rfl (L 0 rfl rfl) Try.underlying45 rfl ti45 rfl hc160) (fun _ => (okH.nil (fun r h => by cases h; exact hlt158))) ?_
     refine U.p rfl rfl (.inr ⟨_, _, _, rfl, rfl, ((L 5 rfl rfl).trans (congrArg Value.bool g150))⟩) (S.move rfl (L 9 rfl rfl)) ?_
     refine U.p rfl rfl (.inr ⟨_, _, _, rfl, rfl, ((L 6 rfl rfl).trans (congrArg Value.bool g150))⟩) (S.move rfl (L 14 rfl rfl)) ?_
     obtain ⟨x161, hx162, h163⟩ := bindS h154
     obtain ⟨_, hv164, _⟩ := ow88.osel (k := 0) rfl hv10 hx162
     refine U.p rfl rfl (.inr ⟨_, _, _, rfl, rfl, ((L 7 rfl rfl).trans (congrArg Value.bool g150))⟩) (S.index rfl ((L 1 rfl rfl).trans hv164) (L 0 rfl rfl) Try.underlying38 ti45 (ix_ge hx162) (ix_lt hx162)) ?_
     obtain ⟨cs165, hv166, hlt167, hr168, hc169⟩ := ow88.osel (k := 0) rfl hv10 hx162
     obtain rfl : cs165 = [.int .i64 x161.e.t, .int .i64 x161.e.act.kind, .int .i64 x161.e.act.at_, .int .i64 x161.e.act.val, .int .i64 x161.e.act.what, .bool x161.e.act.volatile, .bool x161.e.act.final, .int .i64 x161.e.rf, .int .i64 x161.e.id, .int .i64 x161.at_] := hr168
     refine U.k rfl rfl (.inr ⟨_, _, _, rfl, rfl, ((L 8 rfl rfl).trans (congrArg Value.bool g150))⟩) (S.loadN (cs := [.int .i64 x161.e.t, .int .i64 x161.e.act.kind, .int .i64 x161.e.act.at_, .int .i64 x161.e.act.val, .int .i64 x161.e.act.what, .bool x161.e.act.volatile, .bool x161.e.act.final, .int .i64 x161.e.rf, .int .i64 x161.e.id, .int .i64 x161.at_]) rfl (L 0 rfl rfl) Try.underlying45 rfl ti45 rfl hc169) (fun _ => (okH.cons trivial (okH.nil (fun r h => by cases h; exact hlt167)))) ?_
     obtain ⟨x170, hx171, h172⟩ := bindS h163
     refine O.callv (V := V86) rfl rfl (.inr ⟨_, _, _, rfl, rfl, ((L 9 rfl rfl).trans (congrArg Value.bool g150))⟩) rfl (L 8 rfl rfl) en50 (aC (L 4 rfl rfl) (aC (L 0 rfl rfl) aN)) (wk_order_Run_Apart_c2 V86 _ x152 x161 ow88 _ hx171) (fun v173 V174 le175 hp176 => by obtain ⟨rfl, ow177⟩ := hp176; exact (fun _ => (okH.cons (Or.inl rfl) (okH.cons (Or.inl rfl) (okH.nil (fun r h => nomatch h)))))) (fun v173 V174 le175 hp176 => ?_)
     obtain ⟨rfl, ow177⟩ := hp176
     refine U.p rfl rfl (.inr ⟨_, _, _, rfl, rfl, ((L 10 rfl rfl).trans (congrArg Value.bool g150))⟩) (S.lss rfl (L 0 rfl rfl) K) ?_
     refine U.p rfl rfl (.inl rfl) (S.pickT rfl ((L 11 rfl rfl).trans (congrArg Value.bool g150)) (L 0 rfl rfl)) ?_
     refine U.done (Nat.le_of_ble_eq_true rfl) ?_
     refine sqN ?_
     exact ⟨_, V174, rfl, ⟨decide (x170 < 0), rfl, le175, ow177, h172⟩, (allCons (L 16 rfl rfl) (allCons (L 17 rfl rfl) (allCons (L 18 rfl rfl) (allCons (L 19 rfl rfl) (allCons (L 20 rfl rfl) (allCons (L 0 rfl rfl) allNil))))))⟩
    ·have h178 := ifF g150 h93
     refine U.x rfl rfl rfl rfl ((L 0 rfl rfl).trans (congrArg Value.bool g150)) (by decide) ?_
     refine U.x rfl rfl rfl rfl ((L 1 rfl rfl).trans (congrArg Value.bool g150)) (by decide) ?_
     refine U.x rfl rfl rfl rfl ((L 2 rfl rfl).trans (congrArg Value.bool g150)) (by decide) ?_
     refine U.x rfl rfl rfl rfl ((L 3 rfl rfl).trans (congrArg Value.bool g150)) (by decide) ?_
     refine U.x rfl rfl rfl rfl ((L 4 rfl rfl).trans (congrArg Value.bool g150)) (by decide) ?_
     refine U.x rfl rfl rfl rfl ((L 5 rfl rfl).trans (congrArg Value.bool g150)) (by decide) ?_
     refine U.x rfl rfl rfl rfl ((L 6 rfl rfl).trans (congrArg Value.bool g150)) (by decide) ?_
     refine U.x rfl rfl rfl rfl ((L 7 rfl rfl).trans (congrArg Value.bool g150)) (by decide) ?_
     refine U.x rfl rfl rfl rfl ((L 8 rfl rfl).trans (congrArg Value.bool g150)) (by decide) ?_
     refine U.x rfl rfl rfl rfl ((L 9 rfl rfl).trans (congrArg Value.bool g150)) (by decide) ?_
     refine U.x rfl rfl rfl rfl ((L 10 rfl rfl).trans (congrArg Value.bool g150)) (by decide) ?_
     refine U.p rfl rfl (.inl rfl) (S.pickF rfl ((L 11 rfl rfl).trans (congrArg Value.bool g150)) K) ?_
     refine U.done (Nat.le_of_ble_eq_true rfl) ?_
     refine sqN ?_
     exact ⟨_, V86, rfl, ⟨false, rfl, (.refl _), ow88, h178⟩, (allCons (L 16 rfl rfl) (allCons (L 17 rfl rfl) (allCons (L 18 rfl rfl) (allCons (L 19 rfl rfl) (allCons (L 20 rfl rfl) (allCons (L 0 rfl rfl) allNil))))))⟩
 ·skip
  refine WP.udreg rfl rfl rfl ?_
  refine U.p rfl rfl (.inl rfl) (S.move rfl (L 3 rfl rfl)) ?_
  refine U.p rfl rfl (.inl rfl) (S.move rfl (L 5 rfl rfl)) ?_
  refine U.p rfl rfl (.inl rfl) (S.leq rfl (L 1 rfl rfl) (L 0 rfl rfl)) ?_
  refine U.p rfl rfl (.inl rfl) (S.move rfl (L 0 rfl rfl)) ?_
  refine bcase (b := decide (x63 ≤ x52)) (fun g179 => ?_) (fun g179 => ?_)
  ·have h180 := ifT g179 h73
   refine U.p rfl rfl (.inr ⟨_, _, _, rfl, rfl, ((L 0 rfl rfl).trans (congrArg Value.bool g179))⟩) (S.move rfl (L 6 rfl rfl)) ?_
   refine U.p rfl rfl (.inr ⟨_, _, _, rfl, rfl, ((L 1 rfl rfl).trans (congrArg Value.bool g179))⟩) (S.move rfl (L 5 rfl rfl)) ?_
   refine U.p rfl rfl (.inr ⟨_, _, _, rfl, rfl, ((L 2 rfl rfl).trans (congrArg Value.bool g179))⟩) (S.move rfl (L 7 rfl rfl)) ?_
   obtain ⟨x181, hx182, h183⟩ := bindS h180
   obtain ⟨_, hv184, _⟩ := ow68.osel (k := 0) rfl hv10 hx182
   refine U.p rfl rfl (.inr ⟨_, _, _, rfl, rfl, ((L 3 rfl rfl).trans (congrArg Value.bool g179))⟩) (S.index rfl ((L 1 rfl rfl).trans hv184) (L 0 rfl rfl) Try.underlying38 ti45 (ix_ge hx182) (ix_lt hx182)) ?_
   obtain ⟨cs185, hv186, hlt187, hr188, hc189⟩ := ow68.osel (k := 0) rfl hv10 hx182
   obtain rfl : cs185 = [.int .i64 x181.e.t, .int .i64 x181.e.act.kind, .int .i64 x181.e.act.at_, .int .i64 x181.e.act.val, .int .i64 x181.e.act.what, .bool x181.e.act.volatile, .bool x181.e.act.final, .int .i64 x181.e.rf, .int .i64 x181.e.id, .int .i64 x181.at_] := hr188
   refine U.k rfl rfl (.inr ⟨_, _, _, rfl, rfl, ((L 4 rfl rfl).trans (congrArg Value.bool g179))⟩) (S.loadN (cs := [.int .i64 x181.e.t, .int .i64 x181.e.act.kind, .int .i64 x181.e.act.at_, .int .i64 x181.e.act.val, .int .i64 x181.e.act.what, .bool x181.e.act.volatile, .bool x181.e.act.final, .int .i64 x181.e.rf, .int .i64 x181.e.id, .int .i64 x181.at_]) rfl (L 0 rfl rfl) Try.underlying45 rfl ti45 rfl hc189) (fun _ => (okH.nil (fun r h => by cases h; exact hlt187))) ?_
   refine U.p rfl rfl (.inr ⟨_, _, _, rfl, rfl, ((L 5 rfl rfl).trans (congrArg Value.bool g179))⟩) (S.move rfl (L 9 rfl rfl)) ?_
   refine U.p rfl rfl (.inr ⟨_, _, _, rfl, rfl, ((L 6 rfl rfl).trans (congrArg Value.bool g179))⟩) (S.move rfl (L 13 rfl rfl)) ?_
   obtain ⟨x190, hx191, h192⟩ := bindS h183
   obtain ⟨_, hv193, _⟩ := ow68.osel (k := 0) rfl hv10 hx191
   refine U.p rfl rfl (.inr ⟨_, _, _, rfl, rfl, ((L 7 rfl rfl).trans (congrArg Value.bool g179))⟩) (S.index rfl ((L 1 rfl rfl).trans hv193) (L 0 rfl rfl) Try.underlying38 ti45 (ix_ge hx191) (ix_lt hx191)) ?_
   obtain ⟨cs194, hv195, hlt196, hr197, hc198⟩ := ow68.osel (k := 0) rfl hv10 hx191
   obtain rfl : cs194 = [.int .i64 x190.e.t, .int .i64 x190.e.act.kind, .int .i64 x190.e.act.at_, .int .i64 x190.e.act.val, .int .i64 x190.e.act.what, .bool x190.e.act.volatile, .bool x190.e.act.final, .int .i64 x190.e.rf, .int .i64 x190.e.id, .int .i64 x190.at_] := hr197
   refine U.k rfl rfl (.inr ⟨_, _, _, rfl, rfl, ((L 8 rfl rfl).trans (congrArg Value.bool g179))⟩) (S.loadN (cs := [.int .i64 x190.e.t, .int .i64 x190.e.act.kind, .int .i64 x190.e.act.at_, .int .i64 x190.e.act.val, .int .i64 x190.e.act.what, .bool x190.e.act.volatile, .bool x190.e.act.final, .int .i64 x190.e.rf, .int .i64 x190.e.id, .int .i64 x190.at_]) rfl (L 0 rfl rfl) Try.underlying45 rfl ti45 rfl hc198) (fun _ => (okH.cons trivial (okH.nil (fun r h => by cases h; exact hlt196)))) ?_
   obtain ⟨x199, hx200, h201⟩ := bindS h192
   refine O.callv (V := V66) rfl rfl (.inr ⟨_, _, _, rfl, rfl, ((L 9 rfl rfl).trans (congrArg Value.bool g179))⟩) rfl (L 8 rfl rfl) en50 (aC (L 4 rfl rfl) (aC (L 0 rfl rfl) aN)) (wk_order_Run_Apart_c2 V66 _ x181 x190 ow68 _ hx200) (fun v202 V203 le204 hp205 => by obtain ⟨rfl, ow206⟩ := hp205; exact (fun _ => (okH.cons (Or.inl rfl) (okH.cons (Or.inl rfl) (okH.nil (fun r h => nomatch h)))))) (fun v202 V203 le204 hp205 => ?_)
   obtain ⟨rfl, ow206⟩ := hp205
   refine U.p rfl rfl (.inr ⟨_, _, _, rfl, rfl, ((L 10 rfl rfl).trans (congrArg Value.bool g179))⟩) (S.lss rfl (L 0 rfl rfl) K) ?_
   refine U.p rfl rfl (.inr ⟨_, _, _, rfl, rfl, ((L 11 rfl rfl).trans (congrArg Value.bool g179))⟩) (S.not rfl (L 0 rfl rfl)) ?_
   refine U.p rfl rfl (.inl rfl) (S.pickT rfl ((L 12 rfl rfl).trans (congrArg Value.bool g179)) (L 0 rfl rfl)) ?_
   refine U.done (Nat.le_of_ble_eq_true rfl) ?_
   refine sqN ?_
   exact ⟨_, V203, rfl, ⟨!(decide (x199 < 0)), rfl, le204, ow206, h201⟩, (allCons (L 17 rfl rfl) (allCons (L 18 rfl rfl) (allCons (L 19 rfl rfl) (allCons (L 20 rfl rfl) (allCons (L 21 rfl rfl) (allCons (L 0 rfl rfl) allNil))))))⟩
  ·have h207 := ifF g179 h73
   refine U.x rfl rfl rfl rfl ((L 0 rfl rfl).trans (congrArg Value.bool g179)) (by decide) ?_
   refine U.x rfl rfl rfl rfl ((L 1 rfl rfl).trans (congrArg Value.bool g179)) (by decide) ?_
   refine U.x rfl rfl rfl rfl ((L 2 rfl rfl).trans (congrArg Value.bool g179)) (by decide) ?_
   refine U.x rfl rfl rfl rfl ((L 3 rfl rfl).trans (congrArg Value.bool g179)) (by decide) ?_
   refine U.x rfl rfl rfl rfl ((L 4 rfl rfl).trans (congrArg Value.bool g179)) (by decide) ?_
   refine U.x rfl rfl rfl rfl ((L 5 rfl rfl).trans (congrArg Value.bool g179)) (by decide) ?_
   refine U.x rfl rfl rfl rfl ((L 6 rfl rfl).trans (congrArg Value.bool g179)) (by decide) ?_
   refine U.x rfl rfl rfl rfl ((L 7 rfl rfl).trans (congrArg Value.bool g179)) (by decide) ?_
   refine U.x rfl rfl rfl rfl ((L 8 rfl rfl).trans (congrArg Value.bool g179)) (by decide) ?_
   refine U.x rfl rfl rfl rfl ((L 9 rfl rfl).trans (congrArg Value.bool g179)) (by decide) ?_
   refine U.x rfl rfl rfl rfl ((L 10 rfl rfl).trans (congrArg Value.bool g179)) (by decide) ?_
   refine U.x rfl rfl rfl rfl ((L 11 rfl rfl).trans (congrArg Value.bool g179)) (by decide) ?_
   refine U.p rfl rfl (.inl rfl) (S.pickF rfl ((L 12 rfl rfl).trans (congrArg Value.bool g179)) K) ?_
   refine U.done (Nat.le_of_ble_eq_true rfl) ?_
   refine sqN ?_
   exact ⟨_, V66, rfl, ⟨false, rfl, (.refl _), ow68, h207⟩, (allCons (L 17 rfl rfl) (allCons (L 18 rfl rfl) (allCons (L 19 rfl rfl) (allCons (L 20 rfl rfl) (allCons (L 21 rfl rfl) (allCons (L 0 rfl rfl) allNil))))))⟩

set_option maxHeartbeats 4000000 in
set_option maxRecDepth 10000 in
theorem wk_slices_partitionCmpFunc (V : Vw) (Rs : List At) (p0 : List Torder_node) (p1 : Int) (p2 : Int) (p3 : Int) (v1 : Value) (ow : Ow V (.os RT_Torder_node v1 p0 :: Rs)) (r : Int × Bool × (List Torder_node)) (h : slices_partitionCmpFunc p0 p1 p2 p3 = some r) : ∃ v V', Cl Try.prog 0 68 #[v1, .int .i64 p1, .int .i64 p2, .int .i64 p3, .func (.func 50) #[] #[]] V.H v V'.H ∧ V.le V' ∧ (v = .tuple #[.int .i64 r.1, .bool r.2.1] ∧ Ow V' (.os RT_Torder_node v1 r.2.2 :: Rs)) := by
 refine Ct.of (Nat.zero_le _) Try.func68 rfl (Nat.le_of_ble_eq_true rfl) ?_
 unfold slices_partitionCmpFunc at h
 refine WP.usreg rfl ?_
 refine U.p rfl rfl (.inl rfl) (S.assign rfl K) ?_
 refine U.p rfl rfl (.inl rfl) (S.assign rfl K) ?_
 refine U.done (Nat.le_of_ble_eq_true rfl) ?_
 refine WP.usdreg rfl rfl rfl ?_
 refine U.p rfl rfl (.inl rfl) (S.move rfl (L 2 rfl rfl)) ?_
 refine U.p rfl rfl (.inl rfl) (S.move rfl (L 4 rfl rfl)) ?_
 refine U.p rfl rfl (.inl rfl) (S.move rfl (L 4 rfl rfl)) ?_
 refine U.p rfl rfl (.inl rfl) (S.move rfl (L 8 rfl rfl)) ?_
 refine U.p rfl rfl (.inl rfl) (S.move rfl (L 6 rfl rfl)) ?_
 refine U.p rfl rfl (.inl rfl) (S.move rfl (L 10 rfl rfl)) ?_
 obtain ⟨x3, hx4, h5⟩ := bindS h
 obtain ⟨b6, o7, n8, c9, hv10⟩ := ow.ospt (k := 0) rfl hx4
 obtain ⟨_, hv11, _⟩ := ow.osel (k := 0) rfl hv10 hx4
 refine U.p rfl rfl (.inl rfl) (S.index rfl ((L 1 rfl rfl).trans hv11) (L 0 rfl rfl) Try.underlying38 ti45 (ix_ge hx4) (ix_lt hx4)) ?_
 obtain ⟨cs12, hv13, hlt14, hr15, hc16⟩ := ow.osel (k := 0) rfl hv10 hx4
 obtain rfl : cs12 = [.int .i64 x3.e.t, .int .i64 x3.e.act.kind, .int .i64 x3.e.act.at_, .int .i64 x3.e.act.val, .int .i64 x3.e.act.what, .bool x3.e.act.volatile, .bool x3.e.act.final, .int .i64 x3.e.rf, .int .i64 x3.e.id, .int .i64 x3.at_] := hr15
 refine U.k rfl rfl (.inl rfl) (S.loadN (cs := [.int .i64 x3.e.t, .int .i64 x3.e.act.kind, .int .i64 x3.e.act.at_, .int .i64 x3.e.act.val, .int .i64 x3.e.act.what, .bool x3.e.act.volatile, .bool x3.e.act.final, .int .i64 x3.e.rf, .int .i64 x3.e.id, .int .i64 x3.at_]) rfl (L 0 rfl rfl) Try.underlying45 rfl ti45 rfl hc16) (fun _ => (okH.nil (fun r h => by cases h; exact hlt14))) ?_
 refine U.p rfl rfl (.inl rfl) (S.move rfl (L 10 rfl rfl)) ?_
 refine U.p rfl rfl (.inl rfl) (S.move rfl (L 12 rfl rfl)) ?_
 obtain ⟨x17, hx18, h19⟩ := bindS h5
 obtain ⟨_, hv20, _⟩ := ow.osel (k := 0) rfl hv10 hx18
 refine U.p rfl rfl (.inl rfl) (S.index rfl ((L 1 rfl rfl).trans hv20) (L 0 rfl rfl) Try.underlying38 ti45 (ix_ge hx18) (ix_lt hx18)) ?_
 obtain ⟨cs21, hv22, hlt23, hr24, hc25⟩ := ow.osel (k := 0) rfl hv10 hx18
 obtain rfl : cs21 = [.int .i64 x17.e.t, .int .i64 x17.e.act.kind, .int .i64 x17.e.act.at_, .int .i64 x17.e.act.val, .int .i64 x17.e.act.what, .bool x17.e.act.volatile, .bool x17.e.act.final, .int .i64 x17.e.rf, .int .i64 x17.e.id, .int .i64 x17.at_] := hr24
 refine U.k rfl rfl (.inl rfl) (S.loadN (cs := [.int .i64 x17.e.t, .int .i64 x17.e.act.kind, .int .i64 x17.e.act.at_, .int .i64 x17.e.act.val, .int .i64 x17.e.act.what, .bool x17.e.act.volatile, .bool x17.e.act.final, .int .i64 x17.e.rf, .int .i64 x17.e.id, .int .i64 x17.at_]) rfl (L 0 rfl rfl) Try.underlying45 rfl ti45 rfl hc25) (fun _ => (okH.cons trivial (okH.nil (fun r h => by cases h; exact hlt23)))) ?_
 obtain ⟨x26, hx27, h28⟩ := bindS h19
 obtain ⟨_, hv29, _⟩ := ow.osel (k := 0) rfl hv10 hx27
 refine U.p rfl rfl (.inl rfl) (S.index rfl ((L 11 rfl rfl).trans hv29) (L 10 rfl rfl) Try.underlying38 ti45 (ix_ge hx27) (ix_lt hx27)) ?_
 obtain ⟨cs30, hv31, hlt32, hr33, hc34⟩ := ow.osel (k := 0) rfl hv10 hx27
 obtain rfl : cs30 = [.int .i64 x26.e.t, .int .i64 x26.e.act.kind, .int .i64 x26.e.act.at_, .int .i64 x26.e.act.val, .int .i64 x26.e.act.what, .bool x26.e.act.volatile, .bool x26.e.act.final, .int .i64 x26.e.rf, .int .i64 x26.e.id, .int .i64 x26.at_] := hr33
 refine O.storeE (k := 0) (R := RT_Torder_node) (j := 0) (y := x3) (cs := [.int .i64 x3.e.t, .int .i64 x3.e.act.kind, .int .i64 x3.e.act.at_, .int .i64 x3.e.act.val, .int .i64 x3.e.act.what, .bool x3.e.act.volatile, .bool x3.e.act.final, .int .i64 x3.e.rf, .int .i64 x3.e.id, .int .i64 x3.at_]) ow rfl hv31 rfl rfl (.inl rfl) rfl (L 0 rfl rfl) (L 5 rfl rfl) ti45 hx27 (by simp [topV]) rfl rfl rfl (full rfl) (fun H1 hs => (fun _ => (okH.cons (Or.inl rfl) (okH.cons (Or.inl rfl) (okH.nil (fun r h => nomatch h)))))) (fun V35 le36 ow37 => ?_)
 obtain ⟨x38, hx39, h40⟩ := bindS h28
 obtain ⟨_, hv41, _⟩ := ow37.osel (k := 0) rfl hv10 hx39
 refine U.p rfl rfl (.inl rfl) (S.index rfl ((L 10 rfl rfl).trans hv41) (L 9 rfl rfl) Try.underlying38 ti45 (ix_ge hx39) (ix_lt hx39)) ?_
 obtain ⟨cs42, hv43, hlt44, hr45, hc46⟩ := ow37.osel (k := 0) rfl hv10 hx39
 obtain rfl : cs42 = [.int .i64 x38.e.t, .int .i64 x38.e.act.kind, .int .i64 x38.e.act.at_, .int .i64 x38.e.act.val, .int .i64 x38.e.act.what, .bool x38.e.act.volatile, .bool x38.e.act.final, .int .i64 x38.e.rf, .int .i64 x38.e.id, .int .i64 x38.at_] := hr45
 refine O.storeE (k := 0) (R := RT_Torder_node) (j := 0) (y := x17) (cs := [.int .i64 x17.e.t, .int .i64 x17.e.act.kind, .int .i64 x17.e.act.at_, .int .i64 x17.e.act.val, .int .i64 x17.e.act.what, .bool x17.e.act.volatile, .bool x17.e.act.final, .int .i64 x17.e.rf, .int .i64 x17.e.id, .int .i64 x17.at_]) ow37 rfl hv43 rfl rfl (.inl rfl) rfl (L 0 rfl rfl) (L 2 rfl rfl) ti45 hx39 (by simp [topV]) rfl rfl rfl (full rfl) (fun H1 hs => (fun _ => (okH.cons rfl (okH.cons (Or.inl rfl) (okH.cons (Or.inl rfl) (okH.nil (fun r h => nomatch h))))))) (fun V47 le48 ow49 => ?_)
 refine U.done (Nat.le_of_ble_eq_true rfl) ?_
 refine WP.usreg rfl ?_
 refine U.p rfl rfl (.inl rfl) (S.move rfl (L 17 rfl rfl)) ?_
 refine U.p rfl rfl (.inl rfl) (S.add rfl (L 0 rfl rfl) K) ?_
 refine U.p rfl rfl (.inl rfl) (S.move rfl (L 20 rfl rfl)) ?_
 refine U.p rfl rfl (.inl rfl) (S.sub rfl (L 0 rfl rfl) K) ?_
 refine U.p rfl rfl (.inl rfl) (S.assign rfl (L 2 rfl rfl)) ?_
 refine U.p rfl rfl (.inl rfl) (S.assign rfl (L 1 rfl rfl)) ?_
 refine U.done (Nat.le_of_ble_eq_true rfl) ?_
 refine WP.seq ?_
 refine WP.blk ?_
 unfold slices_partitionCmpFunc_l1 at h40
 obtain ⟨n52, hn51⟩ := loopO_some.1 h40
 refine WP.loopI2 (fun n l V' => ∃ (x50 : Int), l = [(0, v1), (1, .int .i64 p1), (4, .func (.func 50) #[] #[]), (12, .int .i64 x50), (13, .int .i64 (w64 (p2 - 1)))] ∧ V47.le V' ∧ Ow V' (.os RT_Torder_node v1 ((p0.set (Int.toNat p1) x3).set (Int.toNat p3) x17) :: Rs) ∧ itO (fun s => slices_partitionCmpFunc_l1b p0 p1 p2 p3 x3 x17 s) n x50 = some r) n52 _ ⟨w64 (p1 + 1), rfl, .refl _, ow49, hn51⟩ (allCons (L 22 rfl rfl) (allCons (L 23 rfl rfl) (allCons (L 26 rfl rfl) (allCons (L 1 rfl rfl) (allCons (L 0 rfl rfl) allNil))))) ?_
 rintro _ _ V53 ⟨x50, rfl, le54, ow55, h59⟩
 obtain ⟨m56, q57, rfl, h60, e58⟩ := itS h59
 replace h60 : slices_partitionCmpFunc_l1b p0 p1 p2 p3 x3 x17 x50 = some q57 := h60
 unfold slices_partitionCmpFunc_l1b at h60
 refine WP.seq ?_
 refine WP.seqI (fun l V' => ∃ (x61 : Bool), l = [(0, v1), (1, .int .i64 p1), (4, .func (.func 50) #[] #[]), (12, .int .i64 x50), (13, .int .i64 (w64 (p2 - 1))), (47, .bool x61)] ∧ V53.le V' ∧ Ow V' (.os RT_Torder_node v1 ((p0.set (Int.toNat p1) x3).set (Int.toNat p3) x17) :: Rs) ∧ slices_partitionCmpFunc_k1 p0 p1 p2 p3 x3 x17 x50 x61 = some q57) ?_ ?_
 ·rintro _ V62 ⟨x61, rfl, le63, ow64, h65⟩
  unfold slices_partitionCmpFunc_k1 at h65
  refine WP.cond _ (L 5 rfl rfl) rfl (fun c66 => ?_) (fun c66 => ?_)
  ·have h67 := ifT c66 h65
   refine WP.skip ?_
   refine sqN ?_
   refine WP.blk ?_
   refine WP.ureg rfl ?_
   refine U.p rfl rfl (.inl rfl) (S.move rfl (L 3 rfl rfl)) ?_
   refine U.p rfl rfl (.inl rfl) (S.add rfl (L 0 rfl rfl) K) ?_
   refine U.p rfl rfl (.inl rfl) (S.assign rfl (L 0 rfl rfl)) ?_
   refine U.done (Nat.le_of_ble_eq_true rfl) ?_
   refine blkN (sqN ?_)
   exact ⟨_, V62, rfl, ⟨m56, Nat.lt_succ_self _, w64 (x50 + 1), rfl, (le54.trans le63), ow64, backS h67 e58⟩, (allCons (L 3 rfl rfl) (allCons (L 4 rfl rfl) (allCons (L 5 rfl rfl) (allCons (L 0 rfl rfl) (allCons (L 7 rfl rfl) allNil)))))⟩
  ·have h68 := ifF c66 h65
   refine WP.exit ?_
   refine sqE (sqE (blkE (sqN ?_)))
   have h69 := exitS h68 e58
   refine WP.seq ?_
   refine WP.blk ?_
   unfold slices_partitionCmpFunc_l2 at h69
   obtain ⟨n72, hn71⟩ := loopO_some.1 h69
   refine WP.loopI2 (fun n l V' => ∃ (x70 : Int), l = [(0, v1), (1, .int .i64 p1), (4, .func (.func 50) #[] #[]), (12, .int .i64 x50), (13, .int .i64 x70)] ∧ V62.le V' ∧ Ow V' (.os RT_Torder_node v1 ((p0.set (Int.toNat p1) x3).set (Int.toNat p3) x17) :: Rs) ∧ itO (fun s => slices_partitionCmpFunc_l2b p0 p1 p3 x3 x17 x50 s) n x70 = some r) n72 _ ⟨w64 (p2 - 1), rfl, .refl _, ow64, hn71⟩ (allCons (L 0 rfl rfl) (allCons (L 1 rfl rfl) (allCons (L 2 rfl rfl) (allCons (L 3 rfl rfl) (allCons (L 4 rfl rfl) allNil))))) ?_
   rintro _ _ V73 ⟨x70, rfl, le74, ow75, h79⟩
   obtain ⟨m76, q77, rfl, h80, e78⟩ := itS h79
   replace h80 : slices_partitionCmpFunc_l2b p0 p1 p3 x3 x17 x50 x70 = some q77 := h80
   unfold slices_partitionCmpFunc_l2b at h80
   refine WP.seq ?_
   refine WP.seqI (fun l V' => ∃ (x81 : Bool), l = [(0, v1), (1, .int .i64 p1), (4, .func (.func 50) #[] #[]), (12, .int .i64 x50), (13, .int .i64 x70), (66, .bool x81)] ∧ V73.le V' ∧ Ow V' (.os RT_Torder_node v1 ((p0.set (Int.toNat p1) x3).set (Int.toNat p3) x17) :: Rs) ∧ slices_partitionCmpFunc_k2 p0 p1 p3 x3 x17 x50 x70 x81 = some q77) ?_ ?_
   ·rintro _ V82 ⟨x81, rfl, le83, ow84, h85⟩
    unfold slices_partitionCmpFunc_k2 at h85
    refine WP.cond _ (L 5 rfl rfl) rfl (fun c86 => ?_) (fun c86 => ?_)
    ·have h87 := ifT c86 h85
     refine WP.skip ?_
     refine sqN ?_
     refine WP.blk ?_
     refine WP.ureg rfl ?_
     refine U.p rfl rfl (.inl rfl) (S.move rfl (L 4 rfl rfl)) ?_
     refine U.p rfl rfl (.inl rfl) (S.sub rfl (L 0 rfl rfl) K) ?_
     refine U.p rfl rfl (.inl rfl) (S.assign rfl (L 0 rfl rfl)) ?_
     refine U.done (Nat.le_of_ble_eq_true rfl) ?_
     refine blkN (sqN ?_)
     exact ⟨_, V82, rfl, ⟨m76, Nat.lt_succ_self _, w64 (x70 - 1), rfl, (le74.trans le83), ow84, backS h87 e78⟩, (allCons (L 3 rfl rfl) (allCons (L 4 rfl rfl) (allCons (L 5 rfl rfl) (allCons (L 6 rfl rfl) (allCons (L 0 rfl rfl) allNil)))))⟩
    ·have h88 := ifF c86 h85
     refine WP.exit ?_
     refine sqE (sqE (blkE (sqN ?_)))
     have h89 := exitS h88 e78
     refine WP.seq ?_
     refine WP.usreg rfl ?_
     refine U.p rfl rfl (.inl rfl) (S.move rfl (L 3 rfl rfl)) ?_
     refine U.p rfl rfl (.inl rfl) (S.move rfl (L 5 rfl rfl)) ?_
     refine U.p rfl rfl (.inl rfl) (S.gtr rfl (L 1 rfl rfl) (L 0 rfl rfl)) ?_
     refine U.done (Nat.le_of_ble_eq_true rfl) ?_
     refine WP.cond _ (L 0 rfl rfl) rfl (fun c90 => ?_) (fun c90 => ?_)
     ·have h91 := ifT c90 h89
      refine WP.usdreg rfl rfl rfl ?_
      refine U.p rfl rfl (.inl rfl) (S.move rfl (L 3 rfl rfl)) ?_
      refine U.p rfl rfl (.inl rfl) (S.move rfl (L 8 rfl rfl)) ?_
      refine U.p rfl rfl (.inl rfl) (S.move rfl (L 5 rfl rfl)) ?_
      refine U.p rfl rfl (.inl rfl) (S.move rfl (L 7 rfl rfl)) ?_
      refine U.p rfl rfl (.inl rfl) (S.move rfl (L 7 rfl rfl)) ?_
      refine U.p rfl rfl (.inl rfl) (S.move rfl (L 9 rfl rfl)) ?_
      obtain ⟨x92, hx93, h94⟩ := bindS h91
      obtain ⟨_, hv95, _⟩ := ow84.osel (k := 0) rfl hv10 hx93
      refine U.p rfl rfl (.inl rfl) (S.index rfl ((L 1 rfl rfl).trans hv95) (L 0 rfl rfl) Try.underlying38 ti45 (ix_ge hx93) (ix_lt hx93)) ?_
      obtain ⟨cs96, hv97, hlt98, hr99, hc100⟩ := ow84.osel (k := 0) rfl hv10 hx93
      obtain rfl : cs96 = [.int .i64 x92.e.t, .int .i64 x92.e.act.kind, .int .i64 x92.e.act.at_, .int .i64 x92.e.act.val, .int .i64 x92.e.act.what, .bool x92.e.act.volatile, .bool x92.e.act.final, .int .i64 x92.e.rf, .int .i64 x92.e.id, .int .i64 x92.at_] := hr99
      refine U.k rfl rfl (.inl rfl) (S.loadN (cs := [.int .i64 x92.e.t, .int .i64 x92.e.act.kind, .int .i64 x92.e.act.at_, .int .i64 x92.e.act.val, .int .i64 x92.e.act.what, .bool x92.e.act.volatile, .bool x92.e.act.final, .int .i64 x92.e.rf, .int .i64 x92.e.id, .int .i64 x92.at_]) rfl (L 0 rfl rfl) Try.underlying45 rfl ti45 rfl hc100) (fun _ => (okH.nil (fun r h => by cases h; exact hlt98))) ?_
      refine U.p rfl rfl (.inl rfl) (S.move rfl (L 11 rfl rfl)) ?_
      refine U.p rfl rfl (.inl rfl) (S.move rfl (L 16 rfl rfl)) ?_
      obtain ⟨x101, hx102, h103⟩ := bindS h94
      obtain ⟨_, hv104, _⟩ := ow84.osel (k := 0) rfl hv10 hx102
      refine U.p rfl rfl (.inl rfl) (S.index rfl ((L 1 rfl rfl).trans hv104) (L 0 rfl rfl) Try.underlying38 ti45 (ix_ge hx102) (ix_lt hx102)) ?_
      obtain ⟨cs105, hv106, hlt107, hr108, hc109⟩ := ow84.osel (k := 0) rfl hv10 hx102
      obtain rfl : cs105 = [.int .i64 x101.e.t, .int .i64 x101.e.act.kind, .int .i64 x101.e.act.at_, .int .i64 x101.e.act.val, .int .i64 x101.e.act.what, .bool x101.e.act.volatile, .bool x101.e.act.final, .int .i64 x101.e.rf, .int .i64 x101.e.id, .int .i64 x101.at_] := hr108
      refine U.k rfl rfl (.inl rfl) (S.loadN (cs := [.int .i64 x101.e.t, .int .i64 x101.e.act.kind, .int .i64 x101.e.act.at_, .int .i64 x101.e.act.val, .int .i64 x101.e.act.what, .bool x101.e.act.volatile, .bool x101.e.act.final, .int .i64 x101.e.rf, .int .i64 x101.e.id, .int .i64 x101.at_]) rfl (L 0 rfl rfl) Try.underlying45 rfl ti45 rfl hc109) (fun _ => (okH.cons trivial (okH.nil (fun r h => by cases h; exact hlt107)))) ?_
      obtain ⟨x110, hx111, h112⟩ := bindS h103
      obtain ⟨_, hv113, _⟩ := ow84.osel (k := 0) rfl hv10 hx111
      refine U.p rfl rfl (.inl rfl) (S.index rfl ((L 11 rfl rfl).trans hv113) (L 10 rfl rfl) Try.underlying38 ti45 (ix_ge hx111) (ix_lt hx111)) ?_
      obtain ⟨cs114, hv115, hlt116, hr117, hc118⟩ := ow84.osel (k := 0) rfl hv10 hx111
      obtain rfl : cs114 = [.int .i64 x110.e.t, .int .i64 x110.e.act.kind, .int .i64 x110.e.act.at_, .int .i64 x110.e.act.val, .int .i64 x110.e.act.what, .bool x110.e.act.volatile, .bool x110.e.act.final, .int .i64 x110.e.rf, .int .i64 x110.e.id, .int .i64 x110.at_] := hr117
      refine O.storeE (k := 0) (R := RT_Torder_node) (j := 0) (y := x92) (cs := [.int .i64 x92.e.t, .int .i64 x92.e.act.kind, .int .i64 x92.e.act.at_, .int .i64 x92.e.act.val, .int .i64 x92.e.act.what, .bool x92.e.act.volatile, .bool x92.e.act.final, .int .i64 x92.e.rf, .int .i64 x92.e.id, .int .i64 x92.at_]) ow84 rfl hv115 rfl rfl (.inl rfl) rfl (L 0 rfl rfl) (L 5 rfl rfl) ti45 hx111 (by simp [topV]) rfl rfl rfl (full rfl) (fun H1 hs => (fun _ => (okH.cons (Or.inl rfl) (okH.cons (Or.inl rfl) (okH.nil (fun r h => nomatch h)))))) (fun V119 le120 ow121 => ?_)
      obtain ⟨x122, hx123, h124⟩ := bindS h112
      obtain ⟨_, hv125, _⟩ := ow121.osel (k := 0) rfl hv10 hx123
      refine U.p rfl rfl (.inl rfl) (S.index rfl ((L 10 rfl rfl).trans hv125) (L 9 rfl rfl) Try.underlying38 ti45 (ix_ge hx123) (ix_lt hx123)) ?_
      obtain ⟨cs126, hv127, hlt128, hr129, hc130⟩ := ow121.osel (k := 0) rfl hv10 hx123
      obtain rfl : cs126 = [.int .i64 x122.e.t, .int .i64 x122.e.act.kind, .int .i64 x122.e.act.at_, .int .i64 x122.e.act.val, .int .i64 x122.e.act.what, .bool x122.e.act.volatile, .bool x122.e.act.final, .int .i64 x122.e.rf, .int .i64 x122.e.id, .int .i64 x122.at_] := hr129
      refine O.storeE (k := 0) (R := RT_Torder_node) (j := 0) (y := x101) (cs := [.int .i64 x101.e.t, .int .i64 x101.e.act.kind, .int .i64 x101.e.act.at_, .int .i64 x101.e.act.val, .int .i64 x101.e.act.what, .bool x101.e.act.volatile, .bool x101.e.act.final, .int .i64 x101.e.rf, .int .i64 x101.e.id, .int .i64 x101.at_]) ow121 rfl hv127 rfl rfl (.inl rfl) rfl (L 0 rfl rfl) (L 2 rfl rfl) ti45 hx123 (by simp [topV]) rfl rfl rfl (full rfl) (fun H1 hs => (fun _ => (okH.cons rfl (okH.cons (Or.inl rfl) (okH.cons (Or.inl rfl) (okH.nil (fun r h => nomatch h))))))) (fun V131 le132 ow133 => ?_)
      refine U.done (Nat.le_of_ble_eq_true rfl) ?_
      refine WP.usreg rfl ?_
      refine U.p rfl rfl (.inl rfl) (S.move rfl (L 21 rfl rfl)) ?_
      refine U.p rfl rfl (.inl rfl) (S.assign rfl (L 0 rfl rfl)) ?_
      refine U.p rfl rfl (.inl rfl) (S.assign rfl K) ?_
      refine U.done (Nat.le_of_ble_eq_true rfl) ?_
      refine WP.ret ?_
      refine sqR ?_
      refine fin.slots' (.inr rfl) (fsC (L 1 rfl rfl) (fsC (L 0 rfl rfl) fsN)) rfl ⟨V131, rfl, (((((((le36.trans le48).trans le54).trans le63).trans le74).trans le83).trans le120).trans le132), ?_⟩
      have e134 := Option.some.inj h124
      subst e134
      exact ⟨rfl, ow133⟩
     ·have h135 := ifF c90 h89
      refine WP.skip ?_
      refine sqN ?_
      refine WP.usdreg rfl rfl rfl ?_
      refine U.p rfl rfl (.inl rfl) (S.move rfl (L 3 rfl rfl)) ?_
      refine U.p rfl rfl (.inl rfl) (S.move rfl (L 7 rfl rfl)) ?_
      refine U.p rfl rfl (.inl rfl) (S.move rfl (L 5 rfl rfl)) ?_
      refine U.p rfl rfl (.inl rfl) (S.move rfl (L 10 rfl rfl)) ?_
      refine U.p rfl rfl (.inl rfl) (S.move rfl (L 7 rfl rfl)) ?_
      refine U.p rfl rfl (.inl rfl) (S.move rfl (L 12 rfl rfl)) ?_
      obtain ⟨x136, hx137, h138⟩ := bindS h135
      obtain ⟨_, hv139, _⟩ := ow84.osel (k := 0) rfl hv10 hx137
      refine U.p rfl rfl (.inl rfl) (S.index rfl ((L 1 rfl rfl).trans hv139) (L 0 rfl rfl) Try.underlying38 ti45 (ix_ge hx137) (ix_lt hx137)) ?_
      obtain ⟨cs140, hv141, hlt142, hr143, hc144⟩ := ow84.osel (k := 0) rfl hv10 hx137
      obtain rfl : cs140 = [.int .i64 x136.e.t, .int .i64 x136.e.act.kind, .int .i64 x136.e.act.at_, .int .i64 x136.e.act.val, .int .i64 x136.e.act.what, .bool x136.e.act.volatile, .bool x136.e.act.final, .int .i64 x136.e.rf, .int .i64 x136.e.id, .int .i64 x136.at_] := hr143
      refine U.k rfl rfl (.inl rfl) (S.loadN (cs := [.int .i64 x136.e.t, .int .i64 x136.e.act.kind, .int .i64 x136.e.act.at_, .int .i64 x136.e.act.val, .int .i64 x136.e.act.what, .bool x136.e.act.volatile, .bool x136.e.act.final, .int .i64 x136.e.rf, .int .i64 x136.e.id, .int .i64 x136.at_]) rfl (L 0 rfl rfl) Try.underlying45 rfl ti45 rfl hc144) (fun _ => (okH.nil (fun r h => by cases h; exact hlt142))) ?_
      refine U.p rfl rfl (.inl rfl) (S.move rfl (L 11 rfl rfl)) ?_
      refine U.p rfl rfl (.inl rfl) (S.move rfl (L 15 rfl rfl)) ?_
      obtain ⟨x145, hx146, h147⟩ := bindS h138
      obtain ⟨_, hv148, _⟩ := ow84.osel (k := 0) rfl hv10 hx146
      refine U.p rfl rfl (.inl rfl) (S.index rfl ((L 1 rfl rfl).trans hv148) (L 0 rfl rfl) Try.underlying38 ti45 (ix_ge hx146) (ix_lt hx146)) ?_
      obtain ⟨cs149, hv150, hlt151, hr152, hc153⟩ := ow84.osel (k := 0) rfl hv10 hx146
      obtain rfl : cs149 = [.int .i64 x145.e.t, .int .i64 x145.e.act.kind, .int .i64 x145.e.act.at_, .int .i64 x145.e.act.val, .int .i64 x145.e.act.what, .bool x145.e.act.volatile, .bool x145.e.act.final, .int .i64 x145.e.rf, .int .i64 x145.e.id, .int .i64 x145.at_] := hr152
      refine U.k rfl rfl (.inl rfl) (S.loadN (cs := [.int .i64 x145.e.t, .int .i64 x145.e.act.kind, .int .i64 x145.e.act.at_, .int .i64 x145.e.act.val, .int .i64 x145.e.act.what, .bool x145.e.act.volatile, .bool x145.e.act.final, .int .i64 x145.e.rf, .int .i64 x145.e.id, .int .i64 x145.at_]) rfl (L 0 rfl rfl) Try.underlying45 rfl ti45 rfl hc153) (fun _ => (okH.cons trivial (okH.nil (fun r h => by cases h; exact hlt151)))) ?_
      obtain ⟨x154, hx155, h156⟩ := bindS h147
      obtain ⟨_, hv157, _⟩ := ow84.osel (k := 0) rfl hv10 hx155
      refine U.p rfl rfl (.inl rfl) (S.index rfl ((L 11 rfl rfl).trans hv157) (L 10 rfl rfl) Try.underlying38 ti45 (ix_ge hx155) (ix_lt hx155)) ?_
      obtain ⟨cs158, hv159, hlt160, hr161, hc162⟩ := ow84.osel (k := 0) rfl hv10 hx155
      obtain rfl : cs158 = [.int .i64 x154.e.t, .int .i64 x154.e.act.kind, .int .i64 x154.e.act.at_, .int .i64 x154.e.act.val, .int .i64 x154.e.act.what, .bool x154.e.act.volatile, .bool x154.e.act.final, .int .i64 x154.e.rf, .int .i64 x154.e.id, .int .i64 x154.at_] := hr161
      refine O.storeE (k := 0) (R := RT_Torder_node) (j := 0) (y := x136) (cs := [.int .i64 x136.e.t, .int .i64 x136.e.act.kind, .int .i64 x136.e.act.at_, .int .i64 x136.e.act.val, .int .i64 x136.e.act.what, .bool x136.e.act.volatile, .bool x136.e.act.final, .int .i64 x136.e.rf, .int .i64 x136.e.id, .int .i64 x136.at_]) ow84 rfl hv159 rfl rfl (.inl rfl) rfl (L 0 rfl rfl) (L 5 rfl rfl) ti45 hx155 (by simp [topV]) rfl rfl rfl (full rfl) (fun H1 hs => (fun _ => (okH.cons (Or.inl rfl) (okH.cons (Or.inl rfl) (okH.nil (fun r h => nomatch h)))))) (fun V163 le164 ow165 => ?_)
      obtain ⟨x166, hx167, h168⟩ := bindS h156
      obtain ⟨_, hv169, _⟩ := ow165.osel (k := 0) rfl hv10 hx167
      refine U.p rfl rfl (.inl rfl) (S.index rfl ((L 10 rfl rfl).trans hv169) (L 9 rfl rfl) Try.underlying38 ti45 (ix_ge hx167) (ix_lt hx167)) ?_
      obtain ⟨cs170, hv171, hlt172, hr173, hc174⟩ := ow165.osel (k := 0) rfl hv10 hx167
      obtain rfl : cs170 = [.int .i64 x166.e.t, .int .i64 x166.e.act.kind, .int .i64 x166.e.act.at_, .int .i64 x166.e.act.val, .int .i64 x166.e.act.what, .bool x166.e.act.volatile, .bool x166.e.act.final, .int .i64 x166.e.rf, .int .i64 x166.e.id, .int .i64 x166.at_] := hr173
      refine O.storeE (k := 0) (R := RT_Torder_node) (j := 0) (y := x145) (cs := [.int .i64 x145.e.t, .int .i64 x145.e.act.kind, .int .i64 x145.e.act.at_, .int .i64 x145.e.act.val, .int .i64 x145.e.act.what, .bool x145.e.act.volatile, .bool x145.e.act.final, .int .i64 x145.e.rf, .int .i64 x145.e.id, .int .i64 x145.at_]) ow165 rfl hv171 rfl rfl (.inl rfl) rfl (L 0 rfl rfl) (L 2 rfl rfl) ti45 hx167 (by simp [topV]) rfl rfl rfl (full rfl) (fun H1 hs => (fun _ => (okH.cons rfl (okH.cons (Or.inl rfl) (okH.cons (Or.inl rfl) (okH.nil (fun r h => nomatch h))))))) (fun V175 le176 ow177 => ?_)
      refine U.done (Nat.le_of_ble_eq_true rfl) ?_
      refine WP.usreg rfl ?_
      refine U.p rfl rfl (.inl rfl) (S.move rfl (L 20 rfl rfl)) ?_
      refine U.p rfl rfl (.inl rfl) (S.add rfl (L 0 rfl rfl) K) ?_
      refine U.p rfl rfl (.inl rfl) (S.assign rfl (L 0 rfl rfl)) ?_
      refine U.done (Nat.le_of_ble_eq_true rfl) ?_
      refine WP.usreg rfl ?_
      refine U.p rfl rfl (.inl rfl) (S.move rfl (L 24 rfl rfl)) ?_
      refine U.p rfl rfl (.inl rfl) (S.sub rfl (L 0 rfl rfl) K) ?_
      refine U.p rfl rfl (.inl rfl) (S.assign rfl (L 0 rfl rfl)) ?_
      refine U.done (Nat.le_of_ble_eq_true rfl) ?_
      refine WP.seq ?_
      refine WP.blk ?_
      unfold slices_partitionCmpFunc_l3 at h168
      obtain ⟨n182, hn181⟩ := loopO_some.1 h168
      refine WP.loopI2 (fun n l V' => ∃ (xs178 : List Torder_node) (x179 : Int) (x180 : Int), l = [(0, v1), (1, .int .i64 p1), (4, .func (.func 50) #[] #[]), (12, .int .i64 x179), (13, .int .i64 x180)] ∧ V175.le V' ∧ Ow V' (.os RT_Torder_node v1 xs178 :: Rs) ∧ itO (fun s => slices_partitionCmpFunc_l3b p1 s.1 s.2.1 s.2.2) n (xs178, x179, x180) = some r) n182 _ ⟨(((p0.set (Int.toNat p1) x3).set (Int.toNat p3) x17).set (Int.toNat x50) x136).set (Int.toNat x70) x145, w64 (x50 + 1), w64 (x70 - 1), rfl, .refl _, ow177, hn181⟩ (allCons (L 23 rfl rfl) (allCons (L 24 rfl rfl) (allCons (L 25 rfl rfl) (allCons (L 3 rfl rfl) (allCons (L 0 rfl rfl) allNil))))) ?_
      rintro _ _ V183 ⟨xs178, x179, x180, rfl, le184, ow185, h189⟩
      obtain ⟨m186, q187, rfl, h190, e188⟩ := itS h189
      replace h190 : slices_partitionCmpFunc_l3b p1 xs178 x179 x180 = some q187 := h190
      unfold slices_partitionCmpFunc_l3b at h190
      refine WP.blk ?_
      refine WP.seq ?_
      refine WP.blk ?_
      unfold slices_partitionCmpFunc_l4 at h190
      obtain ⟨n193, hn192⟩ := loopO_some.1 h190
      refine WP.loopI2 (fun n l V' => ∃ (x191 : Int), l = [(0, v1), (1, .int .i64 p1), (4, .func (.func 50) #[] #[]), (12, .int .i64 x191), (13, .int .i64 x180)] ∧ V183.le V' ∧ Ow V' (.os RT_Torder_node v1 xs178 :: Rs) ∧ itO (fun s => slices_partitionCmpFunc_l4b p1 xs178 x180 s) n x191 = some q187) n193 _ ⟨x179, rfl, .refl _, ow185, hn192⟩ (allCons (L 0 rfl rfl) (allCons (L 1 rfl rfl) (allCons (L 2 rfl rfl) (allCons (L 3 rfl rfl) (allCons (L 4 rfl rfl) allNil))))) ?_
      rintro _ _ V194 ⟨x191, rfl, le195, ow196, h200⟩
      obtain ⟨m197, q198, rfl, h201, e199⟩ := itS h200
      replace h201 : slices_partitionCmpFunc_l4b p1 xs178 x180 x191 = some q198 := h201
      unfold slices_partitionCmpFunc_l4b at h201
      refine WP.seq ?_
      refine WP.seqI (fun l V' => ∃ (x202 : Bool), l = [(0, v1), (1, .int .i64 p1), (4, .func (.func 50) #[] #[]), (12, .int .i64 x191), (13, .int .i64 x180), (120, .bool x202)] ∧ V194.le V' ∧ Ow V' (.os RT_Torder_node v1 xs178 :: Rs) ∧ slices_partitionCmpFunc_k3 p1 xs178 x180 x191 x202 = some q198) ?_ ?_
      ·rintro _ V203 ⟨x202, rfl, le204, ow205, h206⟩
       unfold slices_partitionCmpFunc_k3 at h206
       refine WP.cond _ (L 5 rfl rfl) rfl (fun c207 => ?_) (fun c207 => ?_)
       ·have h208 := ifT c207 h206
        refine WP.skip ?_
        refine sqN ?_
        refine WP.blk ?_
        refine WP.ureg rfl ?_
        refine U.p rfl rfl (.inl rfl) (S.move rfl (L 3 rfl rfl)) ?_
        refine U.p rfl rfl (.inl rfl) (S.add rfl (L 0 rfl rfl) K) ?_
        refine U.p rfl rfl (.inl rfl) (S.assign rfl (L 0 rfl rfl)) ?_
        refine U.done (Nat.le_of_ble_eq_true rfl) ?_
        refine blkN (sqN ?_)
        exact ⟨_, V203, rfl, ⟨m197, Nat.lt_succ_self _, w64 (x191 + 1), rfl, (le195.trans le204), ow205, backS h208 e199⟩, (allCons (L 3 rfl rfl) (allCons (L 4 rfl rfl) (allCons (L 5 rfl rfl) (allCons (L 0 rfl rfl) (allCons (L 7 rfl rfl) allNil)))))⟩
       ·have h209 := ifF c207 h206
        refine WP.exit ?_
        refine sqE (sqE (blkE (sqN ?_)))
        have h210 := exitS h209 e199
        refine WP.seq ?_
        refine WP.blk ?_
        unfold slices_partitionCmpFunc_l5 at h210
        obtain ⟨n213, hn212⟩ := loopO_some.1 h210
        refine WP.loopI2 (fun n l V' => ∃ (x211 : Int), l = [(0, v1), (1, .int .i64 p1), (4, .func (.func 50) #[] #[]), (12, .int .i64 x191), (13, .int .i64 x211)] ∧ V203.le V' ∧ Ow V' (.os RT_Torder_node v1 xs178 :: Rs) ∧ itO (fun s => slices_partitionCmpFunc_l5b p1 xs178 x191 s) n x211 = some q187) n213 _ ⟨x180, rfl, .refl _, ow205, hn212⟩ (allCons (L 0 rfl rfl) (allCons (L 1 rfl rfl) (allCons (L 2 rfl rfl) (allCons (L 3 rfl rfl) (allCons (L 4 rfl rfl) allNil))))) ?_
        rintro _ _ V214 ⟨x211, rfl, le215, ow216, h220⟩
        obtain ⟨m217, q218, rfl, h221, e219⟩ := itS h220
        replace h221 : slices_partitionCmpFunc_l5b p1 xs178 x191 x211 = some q218 := h221
        unfold slices_partitionCmpFunc_l5b at h221
        refine WP.seq ?_
        refine WP.seqI (fun l V' => ∃ (x222 : Bool), l = [(0, v1), (1, .int .i64 p1), (4, .func (.func 50) #[] #[]), (12, .int .i64 x191), (13, .int .i64 x211), (139, .bool x222)] ∧ V214.le V' ∧ Ow V' (.os RT_Torder_node v1 xs178 :: Rs) ∧ slices_partitionCmpFunc_k4 p1 xs178 x191 x211 x222 = some q218) ?_ ?_
        ·rintro _ V223 ⟨x222, rfl, le224, ow225, h226⟩
         unfold slices_partitionCmpFunc_k4 at h226
         refine WP.cond _ (L 5 rfl rfl) rfl (fun c227 => ?_) (fun c227 => ?_)
         ·have h228 := ifT c227 h226
          refine WP.skip ?_
          refine sqN ?_
          refine WP.blk ?_
          refine WP.ureg rfl ?_
          refine U.p rfl rfl (.inl rfl) (S.move rfl (L 4 rfl rfl)) ?_
          refine U.p rfl rfl (.inl rfl) (S.sub rfl (L 0 rfl rfl) K) ?_
          refine U.p rfl rfl (.inl rfl) (S.assign rfl (L 0 rfl rfl)) ?_
          refine U.done (Nat.le_of_ble_eq_true rfl) ?_
          refine blkN (sqN ?_)
          exact ⟨_, V223, rfl, ⟨m217, Nat.lt_succ_self _, w64 (x211 - 1), rfl, (le215.trans le224), ow225, backS h228 e219⟩, (allCons (L 3 rfl rfl) (allCons (L 4 rfl rfl) (allCons (L 5 rfl rfl) (allCons (L 6 rfl rfl) (allCons (L 0 rfl rfl) allNil)))))⟩
         ·have h229 := ifF c227 h226
          refine WP.exit ?_
          refine sqE (sqE (blkE (sqN ?_)))
          have h230 := exitS h229 e219
          refine WP.seq ?_
          refine WP.usreg rfl ?_
          refine U.p rfl rfl (.inl rfl) (S.move rfl (L 3 rfl rfl)) ?_
          refine U.p rfl rfl (.inl rfl) (S.move rfl (L 5 rfl rfl)) ?_
          refine U.p rfl rfl (.inl rfl) (S.gtr rfl (L 1 rfl rfl) (L 0 rfl rfl)) ?_
          refine U.done (Nat.le_of_ble_eq_true rfl) ?_
          refine WP.cond _ (L 0 rfl rfl) rfl (fun c231 => ?_) (fun c231 => ?_)
          ·have h232 := ifT c231 h230
           refine WP.exit ?_
           refine sqE (blkO rfl (sqE (blkE (sqN ?_))))
           have h233 := exitS h232 e188
           refine WP.usdreg rfl rfl rfl ?_
           refine U.p rfl rfl (.inl rfl) (S.move rfl (L 3 rfl rfl)) ?_
           refine U.p rfl rfl (.inl rfl) (S.move rfl (L 8 rfl rfl)) ?_
           refine U.p rfl rfl (.inl rfl) (S.move rfl (L 5 rfl rfl)) ?_
           refine U.p rfl rfl (.inl rfl) (S.move rfl (L 7 rfl rfl)) ?_
           refine U.p rfl rfl (.inl rfl) (S.move rfl (L 7 rfl rfl)) ?_
           refine U.p rfl rfl (.inl rfl) (S.move rfl (L 9 rfl rfl)) ?_
           obtain ⟨x234, hx235, h236⟩ := bindS h233
           obtain ⟨_, hv237, _⟩ := ow225.osel (k := 0) rfl hv10 hx235
           refine U.p rfl rfl (.inl rfl) (S.index rfl ((L 1 rfl rfl).trans hv237) (L 0 rfl rfl) Try.underlying38 ti45 (ix_ge hx235) (ix_lt hx235)) ?_
           obtain ⟨cs238, hv239, hlt240, hr241, hc242⟩ := ow225.osel (k := 0) rfl hv10 hx235
           obtain rfl : cs238 = [.int .i64 x234.e.t, .int .i64 x234.e.act.kind, .int .i64 x234.e.act.at_, .int .i64 x234.e.act.val, .int .i64 x234.e.act.what, .bool x234.e.act.volatile, .bool x234.e.act.final, .int .i64 x234.e.rf, .int .i64 x234.e.id, .int .i64 x234.at_] := hr241
           refine U.k rfl rfl (.inl rfl) (S.loadN (cs := [.int .i64 x234.e.t, .int .i64 x234.e.act.kind, .int .i64 x234.e.act.at_, .int .i64 x234.e.act.val, .int .i64 x234.e.act.what, .bool x234.e.act.volatile, .bool x234.e.act.final, .int .i64 x234.e.rf, .int .i64 x234.e.id, .int .i64 x234.at_]) rfl (L 0 rfl rfl) Try.underlying45 rfl ti45 rfl hc242) (fun _ => (okH.nil (fun r h => by cases h; exact hlt240))) ?_
           refine U.p rfl rfl (.inl rfl) (S.move rfl (L 11 rfl rfl)) ?_
           refine U.p rfl rfl (.inl rfl) (S.move rfl (L 16 rfl rfl)) ?_
           obtain ⟨x243, hx244, h245⟩ := bindS h236
           obtain ⟨_, hv246, _⟩ := ow225.osel (k := 0) rfl hv10 hx244
           refine U.p rfl rfl (.inl rfl) (S.index rfl ((L 1 rfl rfl).trans hv246) (L 0 rfl rfl) Try.underlying38 ti45 (ix_ge hx244) (ix_lt hx244)) ?_
           obtain ⟨cs247, hv248, hlt249, hr250, hc251⟩ := ow225.osel (k := 0) rfl hv10 hx244
           obtain rfl : cs247 = [.int .i64 x243.e.t, .int .i64 x243.e.act.kind, .int .i64 x243.e.act.at_, .int .i64 x243.e.act.val, .int .i64 x243.e.act.what, .bool x243.e.act.volatile, .bool x243.e.act.final, .int .i64 x243.e.rf, .int .i64 x243.e.id, .int .i64 x243.at_] := hr250
           refine U.k rfl rfl (.inl rfl) (S.loadN (cs := [.int .i64 x243.e.t, .int .i64 x243.e.act.kind, .int .i64 x243.e.act.at_, .int .i64 x243.e.act.val, .int .i64 x243.e.act.what, .bool x243.e.act.volatile, .bool x243.e.act.final, .int .i64 x243.e.rf, .int .i64 x243.e.id, .int .i64 x243.at_]) rfl (L 0 rfl rfl) Try.underlying45 rfl ti45 rfl hc251) (fun _ => (okH.cons trivial (okH.nil (fun r h => by cases h; exact hlt249)))) ?_
           obtain ⟨x252, hx253, h254⟩ := bindS h245
           obtain ⟨_, hv255, _⟩ := ow225.osel (k := 0) rfl hv10 hx253
           refine U.p rfl rfl (.inl rfl) (S.index rfl ((L 11 rfl rfl).trans hv255) (L 10 rfl rfl) Try.underlying38 ti45 (ix_ge hx253) (ix_lt hx253)) ?_
           obtain ⟨cs256, hv257, hlt258, hr259, hc260⟩ := ow225.osel (k := 0) rfl hv10 hx253
           obtain rfl : cs256 = [.int .i64 x252.e.t, .int .i64 x252.e.act.kind, .int .i64 x252.e.act.at_, .int .i64 x252.e.act.val, .int .i64 x252.e.act.what, .bool x252.e.act.volatile, .bool x252.e.act.final, .int .i64 x252.e.rf, .int .i64 x252.e.id, .int .i64 x252.at_] := hr259
           refine O.storeE (k := 0) (R := RT_Torder_node) (j := 0) (y := x234) (cs := [.int .i64 x234.e.t, .int .i64 x234.e.act.kind, .int .i64 x234.e.act.at_, .int .i64 x234.e.act.val, .int .i64 x234.e.act.what, .bool x234.e.act.volatile, .bool x234.e.act.final, .int .i64 x234.e.rf, .int .i64 x234.e.id, .int .i64 x234.at_]) ow225 rfl hv257 rfl rfl (.inl rfl) rfl (L 0 rfl rfl) (L 5 rfl rfl) ti45 hx253 (by simp [topV]) rfl rfl rfl (full rfl) (fun H1 hs => (fun _ => (okH.cons (Or.inl rfl) (okH.cons (Or.inl rfl) (okH.nil (fun r h => nomatch h)))))) (fun V261 le262 ow263 => ?_)
           obtain ⟨x264, hx265, h266⟩ := bindS h254
           obtain ⟨_, hv267, _⟩ := ow263.osel (k := 0) rfl hv10 hx265
           refine U.p rfl rfl (.inl rfl) (S.index rfl ((L 10 rfl rfl).trans hv267) (L 9 rfl rfl) Try.underlying38 ti45 (ix_ge hx265) (ix_lt hx265)) ?_
           obtain ⟨cs268, hv269, hlt270, hr271, hc272⟩ := ow263.osel (k := 0) rfl hv10 hx265
           obtain rfl : cs268 = [.int .i64 x264.e.t, .int .i64 x264.e.act.kind, .int .i64 x264.e.act.at_, .int .i64 x264.e.act.val, .int .i64 x264.e.act.what, .bool x264.e.act.volatile, .bool x264.e.act.final, .int .i64 x264.e.rf, .int .i64 x264.e.id, .int .i64 x264.at_] := hr271
           refine O.storeE (k := 0) (R := RT_Torder_node) (j := 0) (y := x243) (cs := [.int .i64 x243.e.t, .int .i64 x243.e.act.kind, .int .i64 x243.e.act.at_, .int .i64 x243.e.act.val, .int .i64 x243.e.act.what, .bool x243.e.act.volatile, .bool x243.e.act.final, .int .i64 x243.e.rf, .int .i64 x243.e.id, .int .i64 x243.at_]) ow263 rfl hv269 rfl rfl (.inl rfl) rfl (L 0 rfl rfl) (L 2 rfl rfl) ti45 hx265 (by simp [topV]) rfl rfl rfl (full rfl) (fun H1 hs => (fun _ => (okH.cons rfl (okH.cons (Or.inl rfl) (okH.cons (Or.inl rfl) (okH.nil (fun r h => nomatch h))))))) (fun V273 le274 ow275 => ?_)
           refine U.done (Nat.le_of_ble_eq_true rfl) ?_
           refine WP.usreg rfl ?_
           refine U.p rfl rfl (.inl rfl) (S.move rfl (L 21 rfl rfl)) ?_
           refine U.p rfl rfl (.inl rfl) (S.assign rfl (L 0 rfl rfl)) ?_
           refine U.p rfl rfl (.inl rfl) (S.assign rfl K) ?_
           refine U.done (Nat.le_of_ble_eq_true rfl) ?_
           refine WP.ret ?_
           refine fin.slots' (.inr rfl) (fsC (L 1 rfl rfl) (fsC (L 0 rfl rfl) fsN)) rfl ⟨V273, rfl, ((((((((((((((le36.trans le48).trans le54).trans le63).trans le74).trans le83).trans le164).trans le176).trans le184).trans le195).trans le204).trans le215).trans le224).trans le262).trans le274), ?_⟩
           have e276 := Option.some.inj h266
           subst e276
           exact ⟨rfl, ow275⟩
          ·have h277 := ifF c231 h230
           refine WP.skip ?_
           refine sqN ?_
           refine WP.usdreg rfl rfl rfl ?_
           refine U.p rfl rfl (.inl rfl) (S.move rfl (L 3 rfl rfl)) ?_
           refine U.p rfl rfl (.inl rfl) (S.move rfl (L 7 rfl rfl)) ?_
           refine U.p rfl rfl (.inl rfl) (S.move rfl (L 5 rfl rfl)) ?_
           refine U.p rfl rfl (.inl rfl) (S.move rfl (L 10 rfl rfl)) ?_
           refine U.p rfl rfl (.inl rfl) (S.move rfl (L 7 rfl rfl)) ?_
           refine U.p rfl rfl (.inl rfl) (S.move rfl (L 12 rfl rfl)) ?_
           obtain ⟨x278, hx279, h280⟩ := bindS h277
           obtain ⟨_, hv281, _⟩ := ow225.osel (k := 0) rfl hv10 hx279
           refine U.p rfl rfl (.inl rfl) (S.index rfl ((L 1 rfl rfl).trans hv281) (L 0 rfl rfl) Try.underlying38 ti45 (ix_ge hx279) (ix_lt hx279)) ?_
           obtain ⟨cs282, hv283, hlt284, hr285, hc286⟩ := ow225.osel (k := 0) rfl hv10 hx279
           obtain rfl : cs282 = [.int .i64 x278.e.t, .int .i64 x278.e.act.kind, .int .i64 x278.e.act.at_, .int .i64 x278.e.act.val, .int .i64 x278.e.act.what, .bool x278.e.act.volatile, .bool x278.e.act.final, .int .i64 x278.e.rf, .int .i64 x278.e.id, .int .i64 x278.at_] := hr285
           refine U.k rfl rfl (.inl rfl) (S.loadN (cs := [.int .i64 x278.e.t, .int .i64 x278.e.act.kind, .int .i64 x278.e.act.at_, .int .i64 x278.e.act.val, .int .i64 x278.e.act.what, .bool x278.e.act.volatile, .bool x278.e.act.final, .int .i64 x278.e.rf, .int .i64 x278.e.id, .int .i64 x278.at_]) rfl (L 0 rfl rfl) Try.underlying45 rfl ti45 rfl hc286) (fun _ => (okH.nil (fun r h => by cases h; exact hlt284))) ?_
           refine U.p rfl rfl (.inl rfl) (S.move rfl (L 11 rfl rfl)) ?_
           refine U.p rfl rfl (.inl rfl) (S.move rfl (L 15 rfl rfl)) ?_
           obtain ⟨x287, hx288, h289⟩ := bindS h280
           obtain ⟨_, hv290, _⟩ := ow225.osel (k := 0) rfl hv10 hx288
           refine U.p rfl rfl (.inl rfl) (S.index rfl ((L 1 rfl rfl).trans hv290) (L 0 rfl rfl) Try.underlying38 ti45 (ix_ge hx288) (ix_lt hx288)) ?_
           obtain ⟨cs291, hv292, hlt293, hr294, hc295⟩ := ow225.osel (k := 0) rfl hv10 hx288
           obtain rfl : cs291 = [.int .i64 x287.e.t, .int .i64 x287.e.act.kind, .int .i64 x287.e.act.at_, .int .i64 x287.e.act.val, .int .i64 x287.e.act.what, .bool x287.e.act.volatile, .bool x287.e.act.final, .int .i64 x287.e.rf, .int .i64 x287.e.id, .int .i64 x287.at_] := hr294
           refine U.k rfl rfl (.inl rfl) (S.loadN (cs := [.int .i64 x287.e.t, .int .i64 x287.e.act.kind, .int .i64 x287.e.act.at_, .int .i64 x287.e.act.val, .int .i64 x287.e.act.what, .bool x287.e.act.volatile, .bool x287.e.act.final, .int .i64 x287.e.rf, .int .i64 x287.e.id, .int .i64 x287.at_]) rfl (L 0 rfl rfl) Try.underlying45 rfl ti45 rfl hc295) (fun _ => (okH.cons trivial (okH.nil (fun r h => by cases h; exact hlt293)))) ?_
           obtain ⟨x296, hx297, h298⟩ := bindS h289
           obtain ⟨_, hv299, _⟩ := ow225.osel (k := 0) rfl hv10 hx297
           refine U.p rfl rfl (.inl rfl) (S.index rfl ((L 11 rfl rfl).trans hv299) (L 10 rfl rfl) Try.underlying38 ti45 (ix_ge hx297) (ix_lt hx297)) ?_
           obtain ⟨cs300, hv301, hlt302, hr303, hc304⟩ := ow225.osel (k := 0) rfl hv10 hx297
           obtain rfl : cs300 = [.int .i64 x296.e.t, .int .i64 x296.e.act.kind, .int .i64 x296.e.act.at_, .int .i64 x296.e.act.val, .int .i64 x296.e.act.what, .bool x296.e.act.volatile, .bool x296.e.act.final, .int .i64 x296.e.rf, .int .i64 x296.e.id, .int .i64 x296.at_] := hr303
           refine O.storeE (k := 0) (R := RT_Torder_node) (j := 0) (y := x278) (cs := [.int .i64 x278.e.t, .int .i64 x278.e.act.kind, .int .i64 x278.e.act.at_, .int .i64 x278.e.act.val, .int .i64 x278.e.act.what, .bool x278.e.act.volatile, .bool x278.e.act.final, .int .i64 x278.e.rf, .int .i64 x278.e.id, .int .i64 x278.at_]) ow225 rfl hv301 rfl rfl (.inl rfl) rfl (L 0 rfl rfl) (L 5 rfl rfl) ti45 hx297 (by simp [topV]) rfl rfl rfl (full rfl) (fun H1 hs => (fun _ => (okH.cons (Or.inl rfl) (okH.cons (Or.inl rfl) (okH.nil (fun r h => nomatch h)))))) (fun V305 le306 ow307 => ?_)
           obtain ⟨x308, hx309, h310⟩ := bindS h298
           obtain ⟨_, hv311, _⟩ := ow307.osel (k := 0) rfl hv10 hx309
           refine U.p rfl rfl (.inl rfl) (S.index rfl ((L 10 rfl rfl).trans hv311) (L 9 rfl rfl) Try.underlying38 ti45 (ix_ge hx309) (ix_lt hx309)) ?_
           obtain ⟨cs312, hv313, hlt314, hr315, hc316⟩ := ow307.osel (k := 0) rfl hv10 hx309
           obtain rfl : cs312 = [.int .i64 x308.e.t, .int .i64 x308.e.act.kind, .int .i64 x308.e.act.at_, .int .i64 x308.e.act.val, .int .i64 x308.e.act.what, .bool x308.e.act.volatile, .bool x308.e.act.final, .int .i64 x308.e.rf, .int .i64 x308.e.id, .int .i64 x308.at_] := hr315
           refine O.storeE (k := 0) (R := RT_Torder_node) (j := 0) (y := x287) (cs := [.int .i64 x287.e.t, .int .i64 x287.e.act.kind, .int .i64 x287.e.act.at_, .int .i64 x287.e.act.val, .int .i64 x287.e.act.what, .bool x287.e.act.volatile, .bool x287.e.act.final, .int .i64 x287.e.rf, .int .i64 x287.e.id, .int .i64 x287.at_]) ow307 rfl hv313 rfl rfl (.inl rfl) rfl (L 0 rfl rfl) (L 2 rfl rfl) ti45 hx309 (by simp [topV]) rfl rfl rfl (full rfl) (fun H1 hs => (fun _ => (okH.cons rfl (okH.cons (Or.inl rfl) (okH.cons (Or.inl rfl) (okH.nil (fun r h => nomatch h))))))) (fun V317 le318 ow319 => ?_)
           refine U.done (Nat.le_of_ble_eq_true rfl) ?_
           refine WP.usreg rfl ?_
           refine U.p rfl rfl (.inl rfl) (S.move rfl (L 20 rfl rfl)) ?_
           refine U.p rfl rfl (.inl rfl) (S.add rfl (L 0 rfl rfl) K) ?_
           refine U.p rfl rfl (.inl rfl) (S.assign rfl (L 0 rfl rfl)) ?_
           refine U.done (Nat.le_of_ble_eq_true rfl) ?_
           refine WP.ureg rfl ?_
           refine U.p rfl rfl (.inl rfl) (S.move rfl (L 24 rfl rfl)) ?_
           refine U.p rfl rfl (.inl rfl) (S.sub rfl (L 0 rfl rfl) K) ?_
           refine U.p rfl rfl (.inl rfl) (S.assign rfl (L 0 rfl rfl)) ?_
           refine U.done (Nat.le_of_ble_eq_true rfl) ?_
           refine blkN (sqN ?_)
           exact ⟨_, V317, rfl, ⟨m186, Nat.lt_succ_self _, (xs178.set (Int.toNat x191) x278).set (Int.toNat x211) x287, w64 (x191 + 1), w64 (x211 - 1), rfl, ((((((le184.trans le195).trans le204).trans le215).trans le224).trans le306).trans le318), ow319, backS h310 e188⟩, (allCons (L 23 rfl rfl) (allCons (L 24 rfl rfl) (allCons (L 25 rfl rfl) (allCons (L 3 rfl rfl) (allCons (L 0 rfl rfl) allNil)))))⟩
        ·skip
         refine WP.udreg rfl rfl rfl ?_
         refine U.p rfl rfl (.inl rfl) (S.move rfl (L 3 rfl rfl)) ?_
         refine U.p rfl rfl (.inl rfl) (S.move rfl (L 5 rfl rfl)) ?_
         refine U.p rfl rfl (.inl rfl) (S.leq rfl (L 1 rfl rfl) (L 0 rfl rfl)) ?_
         refine U.p rfl rfl (.inl rfl) (S.move rfl (L 0 rfl rfl)) ?_
         refine bcase (b := decide (x191 ≤ x211)) (fun g320 => ?_) (fun g320 => ?_)
         ·have h321 := ifT g320 h221
          refine U.p rfl rfl (.inr ⟨_, _, _, rfl, rfl, ((L 0 rfl rfl).trans (congrArg Value.bool g320))⟩) (S.move rfl (L 6 rfl rfl)) ?_
          refine U.p rfl rfl (.inr ⟨_, _, _, rfl, rfl, ((L 1 rfl rfl).trans (congrArg Value.bool g320))⟩) (S.move rfl (L 5 rfl rfl)) ?_
          refine U.p rfl rfl (.inr ⟨_, _, _, rfl, rfl, ((L 2 rfl rfl).trans (congrArg Value.bool g320))⟩) (S.move rfl (L 10 rfl rfl)) ?_
          obtain ⟨x322, hx323, h324⟩ := bindS h321
          obtain ⟨_, hv325, _⟩ := ow216.osel (k := 0) rfl hv10 hx323
          refine U.p rfl rfl (.inr ⟨_, _, _, rfl, rfl, ((L 3 rfl rfl).trans (congrArg Value.bool g320))⟩) (S.index rfl ((L 1 rfl rfl).trans hv325) (L 0 rfl rfl) Try.underlying38 ti45 (ix_ge hx323) (ix_lt hx323)) ?_
          obtain ⟨cs326, hv327, hlt328, hr329, hc330⟩ := ow216.osel (k := 0) rfl hv10 hx323
          obtain rfl : cs326 = [.int .i64 x322.e.t, .int .i64 x322.e.act.kind, .int .i64 x322.e.act.at_, .int .i64 x322.e.act.val, .int .i64 x322.e.act.what, .bool x322.e.act.volatile, .bool x322.e.act.final, .int .i64 x322.e.rf, .int .i64 x322.e.id, .int .i64 x322.at_] := hr329
          refine U.k rfl rfl (.inr ⟨_, _, _, rfl, rfl, ((L 4 rfl rfl).trans (congrArg Value.bool g320))⟩) (S.loadN (cs := [.int .i64 x322.e.t, .int .i64 x322.e.act.kind, .int .i64 x322.e.act.at_, .int .i64 x322.e.act.val, .int .i64 x322.e.act.what, .bool x322.e.act.volatile, .bool x322.e.act.final, .int .i64 x322.e.rf, .int .i64 x322.e.id, .int .i64 x322.at_]) rfl (L 0 rfl rfl) Try.underlying45 rfl ti45 rfl hc330) (fun _ => (okH.nil (fun r h => by cases h; exact hlt328))) ?_
          refine U.p rfl rfl (.inr ⟨_, _, _, rfl, rfl, ((L 5 rfl rfl).trans (congrArg Value.bool g320))⟩) (S.move rfl (L 9 rfl rfl)) ?_
          refine U.p rfl rfl (.inr ⟨_, _, _, rfl, rfl, ((L 6 rfl rfl).trans (congrArg Value.bool g320))⟩) (S.move rfl (L 11 rfl rfl)) ?_
          obtain ⟨x331, hx332, h333⟩ := bindS h324
          obtain ⟨_, hv334, _⟩ := ow216.osel (k := 0) rfl hv10 hx332
          refine U.p rfl rfl (.inr ⟨_, _, _, rfl, rfl, ((L 7 rfl rfl).trans (congrArg Value.bool g320))⟩) (S.index rfl ((L 1 rfl rfl).trans hv334) (L 0 rfl rfl) Try.underlying38 ti45 (ix_ge hx332) (ix_lt hx332)) ?_
          obtain ⟨cs335, hv336, hlt337, hr338, hc339⟩ := ow216.osel (k := 0) rfl hv10 hx332
          obtain rfl : cs335 = [.int .i64 x331.e.t, .int .i64 x331.e.act.kind, .int .i64 x331.e.act.at_, .int .i64 x331.e.act.val, .int .i64 x331.e.act.what, .bool x331.e.act.volatile, .bool x331.e.act.final, .int .i64 x331.e.rf, .int .i64 x331.e.id, .int .i64 x331.at_] := hr338
          refine U.k rfl rfl (.inr ⟨_, _, _, rfl, rfl, ((L 8 rfl rfl).trans (congrArg Value.bool g320))⟩) (S.loadN (cs := [.int .i64 x331.e.t, .int .i64 x331.e.act.kind, .int .i64 x331.e.act.at_, .int .i64 x331.e.act.val, .int .i64 x331.e.act.what, .bool x331.e.act.volatile, .bool x331.e.act.final, .int .i64 x331.e.rf, .int .i64 x331.e.id, .int .i64 x331.at_]) rfl (L 0 rfl rfl) Try.underlying45 rfl ti45 rfl hc339) (fun _ => (okH.cons trivial (okH.nil (fun r h => by cases h; exact hlt337)))) ?_
          obtain ⟨x340, hx341, h342⟩ := bindS h333
          refine O.callv (V := V214) rfl rfl (.inr ⟨_, _, _, rfl, rfl, ((L 9 rfl rfl).trans (congrArg Value.bool g320))⟩) rfl (L 8 rfl rfl) en50 (aC (L 4 rfl rfl) (aC (L 0 rfl rfl) aN)) (wk_order_Run_Apart_c2 V214 _ x322 x331 ow216 _ hx341) (fun v343 V344 le345 hp346 => by obtain ⟨rfl, ow347⟩ := hp346; exact (fun _ => (okH.cons (Or.inl rfl) (okH.cons (Or.inl rfl) (okH.nil (fun r h => nomatch h)))))) (fun v343 V344 le345 hp346 => ?_)
          obtain ⟨rfl, ow347⟩ := hp346
          refine U.p rfl rfl (.inr ⟨_, _, _, rfl, rfl, ((L 10 rfl rfl).trans (congrArg Value.bool g320))⟩) (S.lss rfl (L 0 rfl rfl) K) ?_
          refine U.p rfl rfl (.inr ⟨_, _, _, rfl, rfl, ((L 11 rfl rfl).trans (congrArg Value.bool g320))⟩) (S.not rfl (L 0 rfl rfl)) ?_
          refine U.p rfl rfl (.inl rfl) (S.pickT rfl ((L 12 rfl rfl).trans (congrArg Value.bool g320)) (L 0 rfl rfl)) ?_
          refine U.done (Nat.le_of_ble_eq_true rfl) ?_
          refine sqN ?_
          exact ⟨_, V344, rfl, ⟨!(decide (x340 < 0)), rfl, le345, ow347, h342⟩, (allCons (L 17 rfl rfl) (allCons (L 18 rfl rfl) (allCons (L 19 rfl rfl) (allCons (L 20 rfl rfl) (allCons (L 21 rfl rfl) (allCons (L 0 rfl rfl) allNil))))))⟩
         ·have h348 := ifF g320 h221
          refine U.x rfl rfl rfl rfl ((L 0 rfl rfl).trans (congrArg Value.bool g320)) (by decide) ?_
          refine U.x rfl rfl rfl rfl ((L 1 rfl rfl).trans (congrArg Value.bool g320)) (by decide) ?_
          refine U.x rfl rfl rfl rfl ((L 2 rfl rfl).trans (congrArg Value.bool g320)) (by decide) ?_
          refine U.x rfl rfl rfl rfl ((L 3 rfl rfl).trans (congrArg Value.bool g320)) (by decide) ?_
          refine U.x rfl rfl rfl rfl ((L 4 rfl rfl).trans (congrArg Value.bool g320)) (by decide) ?_
          refine U.x rfl rfl rfl rfl ((L 5 rfl rfl).trans (congrArg Value.bool g320)) (by decide) ?_
          refine U.x rfl rfl rfl rfl ((L 6 rfl rfl).trans (congrArg Value.bool g320)) (by decide) ?_
          refine U.x rfl rfl rfl rfl ((L 7 rfl rfl).trans (congrArg Value.bool g320)) (by decide) ?_
          refine U.x rfl rfl rfl rfl ((L 8 rfl rfl).trans (congrArg Value.bool g320)) (by decide) ?_
          refine U.x rfl rfl rfl rfl ((L 9 rfl rfl).trans (congrArg Value.bool g320)) (by decide) ?_
          refine U.x rfl rfl rfl rfl ((L 10 rfl rfl).trans (congrArg Value.bool g320)) (by decide) ?_
          refine U.x rfl rfl rfl rfl ((L 11 rfl rfl).trans (congrArg Value.bool g320)) (by decide) ?_
          refine U.p rfl rfl (.inl rfl) (S.pickF rfl ((L 12 rfl rfl).trans (congrArg Value.bool g320)) K) ?_
          refine U.done (Nat.le_of_ble_eq_true rfl) ?_
          refine sqN ?_
          exact ⟨_, V214, rfl, ⟨false, rfl, (.refl _), ow216, h348⟩, (allCons (L 17 rfl rfl) (allCons (L 18 rfl rfl) (allCons (L 19 rfl rfl) (allCons (L 20 rfl rfl) (allCons (L 21 rfl rfl) (allCons (L 0 rfl rfl) allNil))))))⟩
      ·skip
       refine WP.udreg rfl rfl rfl ?_
       refine U.p rfl rfl (.inl rfl) (S.move rfl (L 3 rfl rfl)) ?_
       refine U.p rfl rfl (.inl rfl) (S.move rfl (L 5 rfl rfl)) ?_
       refine U.p rfl rfl (.inl rfl) (S.leq rfl (L 1 rfl rfl) (L 0 rfl rfl)) ?_
       refine U.p rfl rfl (.inl rfl) (S.move rfl (L 0 rfl rfl)) ?_
       refine bcase (b := decide (x191 ≤ x180)) (fun g349 => ?_) (fun g349 => ?_)
       ·have h350 := ifT g349 h201
        refine U.p rfl rfl (.inr ⟨_, _, _, rfl, rfl, ((L 0 rfl rfl).trans (congrArg Value.bool g349))⟩) (S.move rfl (L 6 rfl rfl)) ?_
        refine U.p rfl rfl (.inr ⟨_, _, _, rfl, rfl, ((L 1 rfl rfl).trans (congrArg Value.bool g349))⟩) (S.move rfl (L 5 rfl rfl)) ?_
        refine U.p rfl rfl (.inr ⟨_, _, _, rfl, rfl, ((L 2 rfl rfl).trans (congrArg Value.bool g349))⟩) (S.move rfl (L 9 rfl rfl)) ?_
        obtain ⟨x351, hx352, h353⟩ := bindS h350
        obtain ⟨_, hv354, _⟩ := ow196.osel (k := 0) rfl hv10 hx352
        refine U.p rfl rfl (.inr ⟨_, _, _, rfl, rfl, ((L 3 rfl rfl).trans (congrArg Value.bool g349))⟩) (S.index rfl ((L 1 rfl rfl).trans hv354) (L 0 rfl rfl) Try.underlying38 ti45 (ix_ge hx352) (ix_lt hx352)) ?_
        obtain ⟨cs355, hv356, hlt357, hr358, hc359⟩ := ow196.osel (k := 0) rfl hv10 hx352
        obtain rfl : cs355 = [.int .i64 x351.e.t, .int .i64 x351.e.act.kind, .int .i64 x351.e.act.at_, .int .i64 x351.e.act.val, .int .i64 x351.e.act.what, .bool x351.e.act.volatile, .bool x351.e.act.final, .int .i64 x351.e.rf, .int .i64 x351.e.id, .int .i64 x351.at_] := hr358
        refine U.k rfl rfl (.inr ⟨_, _, _, rfl, rfl, ((L 4 rfl rfl).trans (congrArg Value.bool g349))⟩) (S.loadN (cs := [.int .i64 x351.e.t, .int .i64 x351.e.act.kind, .int .i64 x351.e.act.at_, .int .i64 x351.e.act.val, .int .i64 x351.e.act.what, .bool x351.e.act.volatile, .bool x351.e.act.final, .int .i64 x351.e.rf, .int .i64 x351.e.id, .int .i64 x351.at_]) rfl (L 0 rfl rfl) Try.underlying45 rfl ti45 rfl hc359) (fun _ => (okH.nil (fun r h => by cases h; exact hlt357))) ?_
        refine U.p rfl rfl (.inr ⟨_, _, _, rfl, rfl, ((L 5 rfl rfl).trans (congrArg Value.bool g349))⟩) (S.move rfl (L 9 rfl rfl)) ?_
        refine U.p rfl rfl (.inr ⟨_, _, _, rfl, rfl, ((L 6 rfl rfl).trans (congrArg Value.bool g349))⟩) (S.move rfl (L 11 rfl rfl)) ?_
        obtain ⟨x360, hx361, h362⟩ := bindS h353
        obtain ⟨_, hv363, _⟩ := ow196.osel (k := 0) rfl hv10 hx361
        refine U.p rfl rfl (.inr ⟨_, _, _, rfl, rfl, ((L 7 rfl rfl).trans (congrArg Value.bool g349))⟩) (S.index rfl ((L 1 rfl rfl).trans hv363) (L 0 rfl rfl) Try.underlying38 ti45 (ix_ge hx361) (ix_lt hx361)) ?_
        obtain ⟨cs364, hv365, hlt366, hr367, hc368⟩ := ow196.osel (k := 0) rfl hv10 hx361
        obtain rfl : cs364 = [.int .i64 x360.e.t, .int .i64 x360.e.act.kind, .int .i64 x360.e.act.at_, .int .i64 x360.e.act.val, .int .i64 x360.e.act.what, .bool x360.e.act.volatile, .bool x360.e.act.final, .int .i64 x360.e.rf, .int .i64 x360.e.id, .int .i64 x360.at_] := hr367
        refine U.k rfl rfl (.inr ⟨_, _, _, rfl, rfl, ((L 8 rfl rfl).trans (congrArg Value.bool g349))⟩) (S.loadN (cs := [.int .i64 x360.e.t, .int .i64 x360.e.act.kind, .int .i64 x360.e.act.at_, .int .i64 x360.e.act.val, .int .i64 x360.e.act.what, .bool x360.e.act.volatile, .bool x360.e.act.final, .int .i64 x360.e.rf, .int .i64 x360.e.id, .int .i64 x360.at_]) rfl (L 0 rfl rfl) Try.underlying45 rfl ti45 rfl hc368) (fun _ => (okH.cons trivial (okH.nil (fun r h => by cases h; exact hlt366)))) ?_
        obtain ⟨x369, hx370, h371⟩ := bindS h362
        refine O.callv (V := V194) rfl rfl (.inr ⟨_, _, _, rfl, rfl, ((L 9 rfl rfl).trans (congrArg Value.bool g349))⟩) rfl (L 8 rfl rfl) en50 (aC (L 4 rfl rfl) (aC (L 0 rfl rfl) aN)) (wk_order_Run_Apart_c2 V194 _ x351 x360 ow196 _ hx370) (fun v372 V373 le374 hp375 => by obtain ⟨rfl, ow376⟩ := hp375; exact (fun _ => (okH.cons (Or.inl rfl) (okH.cons (Or.inl rfl) (okH.nil (fun r h => nomatch h)))))) (fun v372 V373 le374 hp375 => ?_)
        obtain ⟨rfl, ow376⟩ := hp375
        refine U.p rfl rfl (.inr ⟨_, _, _, rfl, rfl, ((L 10 rfl rfl).trans (congrArg Value.bool g349))⟩) (S.lss rfl (L 0 rfl rfl) K) ?_
        refine U.p rfl rfl (.inl rfl) (S.pickT rfl ((L 11 rfl rfl).trans (congrArg Value.bool g349)) (L 0 rfl rfl)) ?_
        refine U.done (Nat.le_of_ble_eq_true rfl) ?_
        refine sqN ?_
        exact ⟨_, V373, rfl, ⟨decide (x369 < 0), rfl, le374, ow376, h371⟩, (allCons (L 16 rfl rfl) (allCons (L 17 rfl rfl) (allCons (L 18 rfl rfl) (allCons (L 19 rfl rfl) (allCons (L 20 rfl rfl) (allCons (L 0 rfl rfl) allNil))))))⟩
       ·have h377 := ifF g349 h201
        refine U.x rfl rfl rfl rfl ((L 0 rfl rfl).trans (congrArg Value.bool g349)) (by decide) ?_
        refine U.x rfl rfl rfl rfl ((L 1 rfl rfl).trans (congrArg Value.bool g349)) (by decide) ?_
        refine U.x rfl rfl rfl rfl ((L 2 rfl rfl).trans (congrArg Value.bool g349)) (by decide) ?_
        refine U.x rfl rfl rfl rfl ((L 3 rfl rfl).trans (congrArg Value.bool g349)) (by decide) ?_
        refine U.x rfl rfl rfl rfl ((L 4 rfl rfl).trans (congrArg Value.bool g349)) (by decide) ?_
        refine U.x rfl rfl rfl rfl ((L 5 rfl rfl).trans (congrArg Value.bool g349)) (by decide) ?_
        refine U.x rfl rfl rfl rfl ((L 6 rfl rfl).trans (congrArg Value.bool g349)) (by decide) ?_
        refine U.x rfl rfl rfl rfl ((L 7 rfl rfl).trans (congrArg Value.bool g349)) (by decide) ?_
        refine U.x rfl rfl rfl rfl ((L 8 rfl rfl).trans (congrArg Value.bool g349)) (by decide) ?_
        refine U.x rfl rfl rfl rfl ((L 9 rfl rfl).trans (congrArg Value.bool g349)) (by decide) ?_
        refine U.x rfl rfl rfl rfl ((L 10 rfl rfl).trans (congrArg Value.bool g349)) (by decide) ?_
        refine U.p rfl rfl (.inl rfl) (S.pickF rfl ((L 11 rfl rfl).trans (congrArg Value.bool g349)) K) ?_
        refine U.done (Nat.le_of_ble_eq_true rfl) ?_
        refine sqN ?_
        exact ⟨_, V194, rfl, ⟨false, rfl, (.refl _), ow196, h377⟩, (allCons (L 16 rfl rfl) (allCons (L 17 rfl rfl) (allCons (L 18 rfl rfl) (allCons (L 19 rfl rfl) (allCons (L 20 rfl rfl) (allCons (L 0 rfl rfl) allNil))))))⟩
   ·skip
    refine WP.udreg rfl rfl rfl ?_
    refine U.p rfl rfl (.inl rfl) (S.move rfl (L 3 rfl rfl)) ?_
    refine U.p rfl rfl (.inl rfl) (S.move rfl (L 5 rfl rfl)) ?_
    refine U.p rfl rfl (.inl rfl) (S.leq rfl (L 1 rfl rfl) (L 0 rfl rfl)) ?_
    refine U.p rfl rfl (.inl rfl) (S.move rfl (L 0 rfl rfl)) ?_
    refine bcase (b := decide (x50 ≤ x70)) (fun g378 => ?_) (fun g378 => ?_)
    ·have h379 := ifT g378 h80
     refine U.p rfl rfl (.inr ⟨_, _, _, rfl, rfl, ((L 0 rfl rfl).trans (congrArg Value.bool g378))⟩) (S.move rfl (L 6 rfl rfl)) ?_
     refine U.p rfl rfl (.inr ⟨_, _, _, rfl, rfl, ((L 1 rfl rfl).trans (congrArg Value.bool g378))⟩) (S.move rfl (L 5 rfl rfl)) ?_
     refine U.p rfl rfl (.inr ⟨_, _, _, rfl, rfl, ((L 2 rfl rfl).trans (congrArg Value.bool g378))⟩) (S.move rfl (L 10 rfl rfl)) ?_
     obtain ⟨x380, hx381, h382⟩ := bindS h379
     obtain ⟨_, hv383, _⟩ := ow75.osel (k := 0) rfl hv10 hx381
     refine U.p rfl rfl (.inr ⟨_, _, _, rfl, rfl, ((L 3 rfl rfl).trans (congrArg Value.bool g378))⟩) (S.index rfl ((L 1 rfl rfl).trans hv383) (L 0 rfl rfl) Try.underlying38 ti45 (ix_ge hx381) (ix_lt hx381)) ?_
     obtain ⟨cs384, hv385, hlt386, hr387, hc388⟩ := ow75.osel (k := 0) rfl hv10 hx381
     obtain rfl : cs384 = [.int .i64 x380.e.t, .int .i64 x380.e.act.kind, .int .i64 x380.e.act.at_, .int .i64 x380.e.act.val, .int .i64 x380.e.act.what, .bool x380.e.act.volatile, .bool x380.e.act.final, .int .i64 x380.e.rf, .int .i64 x380.e.id, .int .i64 x380.at_] := hr387
     refine U.k rfl rfl (.inr ⟨_, _, _, rfl, rfl, ((L 4 rfl rfl).trans (congrArg Value.bool g378))⟩) (S.loadN (cs := [.int .i64 x380.e.t, .int .i64 x380.e.act.kind, .int .i64 x380.e.act.at_, .int .i64 x380.e.act.val, .int .i64 x380.e.act.what, .bool x380.e.act.volatile, .bool x380.e.act.final, .int .i64 x380.e.rf, .int .i64 x380.e.id, .int .i64 x380.at_]) rfl (L 0 rfl rfl) Try.underlying45 rfl ti45 rfl hc388) (fun _ => (okH.nil (fun r h => by cases h; exact hlt386))) ?_
     refine U.p rfl rfl (.inr ⟨_, _, _, rfl, rfl, ((L 5 rfl rfl).trans (congrArg Value.bool g378))⟩) (S.move rfl (L 9 rfl rfl)) ?_
     refine U.p rfl rfl (.inr ⟨_, _, _, rfl, rfl, ((L 6 rfl rfl).trans (congrArg Value.bool g378))⟩) (S.move rfl (L 11 rfl rfl)) ?_
     obtain ⟨x389, hx390, h391⟩ := bindS h382
     obtain ⟨_, hv392, _⟩ := ow75.osel (k := 0) rfl hv10 hx390
     refine U.p rfl rfl (.inr ⟨_, _, _, rfl, rfl, ((L 7 rfl rfl).trans (congrArg Value.bool g378))⟩) (S.index rfl ((L 1 rfl rfl).trans hv392) (L 0 rfl rfl) Try.underlying38 ti45 (ix_ge hx390) (ix_lt hx390)) ?_
     obtain ⟨cs393, hv394, hlt395, hr396, hc397⟩ := ow75.osel (k := 0) rfl hv10 hx390
     obtain rfl : cs393 = [.int .i64 x389.e.t, .int .i64 x389.e.act.kind, .int .i64 x389.e.act.at_, .int .i64 x389.e.act.val, .int .i64 x389.e.act.what, .bool x389.e.act.volatile, .bool x389.e.act.final, .int .i64 x389.e.rf, .int .i64 x389.e.id, .int .i64 x389.at_] := hr396
     refine U.k rfl rfl (.inr ⟨_, _, _, rfl, rfl, ((L 8 rfl rfl).trans (congrArg Value.bool g378))⟩) (S.loadN (cs := [.int .i64 x389.e.t, .int .i64 x389.e.act.kind, .int .i64 x389.e.act.at_, .int .i64 x389.e.act.val, .int .i64 x389.e.act.what, .bool x389.e.act.volatile, .bool x389.e.act.final, .int .i64 x389.e.rf, .int .i64 x389.e.id, .int .i64 x389.at_]) rfl (L 0 rfl rfl) Try.underlying45 rfl ti45 rfl hc397) (fun _ => (okH.cons trivial (okH.nil (fun r h => by cases h; exact hlt395)))) ?_
     obtain ⟨x398, hx399, h400⟩ := bindS h391
     refine O.callv (V := V73) rfl rfl (.inr ⟨_, _, _, rfl, rfl, ((L 9 rfl rfl).trans (congrArg Value.bool g378))⟩) rfl (L 8 rfl rfl) en50 (aC (L 4 rfl rfl) (aC (L 0 rfl rfl) aN)) (wk_order_Run_Apart_c2 V73 _ x380 x389 ow75 _ hx399) (fun v401 V402 le403 hp404 => by obtain ⟨rfl, ow405⟩ := hp404; exact (fun _ => (okH.cons (Or.inl rfl) (okH.cons (Or.inl rfl) (okH.nil (fun r h => nomatch h)))))) (fun v401 V402 le403 hp404 => ?_)
     obtain ⟨rfl, ow405⟩ := hp404
     refine U.p rfl rfl (.inr ⟨_, _, _, rfl, rfl, ((L 10 rfl rfl).trans (congrArg Value.bool g378))⟩) (S.lss rfl (L 0 rfl rfl) K) ?_
     refine U.p rfl rfl (.inr ⟨_, _, _, rfl, rfl, ((L 11 rfl rfl).trans (congrArg Value.bool g378))⟩) (S.not rfl (L 0 rfl rfl)) ?_
     refine U.p rfl rfl (.inl rfl) (S.pickT rfl ((L 12 rfl rfl).trans (congrArg Value.bool g378)) (L 0 rfl rfl)) ?_
     refine U.done (Nat.le_of_ble_eq_true rfl) ?_
     refine sqN ?_
     exact ⟨_, V402, rfl, ⟨!(decide (x398 < 0)), rfl, le403, ow405, h400⟩, (allCons (L 17 rfl rfl) (allCons (L 18 rfl rfl) (allCons (L 19 rfl rfl) (allCons (L 20 rfl rfl) (allCons (L 21 rfl rfl) (allCons (L 0 rfl rfl) allNil))))))⟩
    ·have h406 := ifF g378 h80
     refine U.x rfl rfl rfl rfl ((L 0 rfl rfl).trans (congrArg Value.bool g378)) (by decide) ?_
     refine U.x rfl rfl rfl rfl ((L 1 rfl rfl).trans (congrArg Value.bool g378)) (by decide) ?_
     refine U.x rfl rfl rfl rfl ((L 2 rfl rfl).trans (congrArg Value.bool g378)) (by decide) ?_
     refine U.x rfl rfl rfl rfl ((L 3 rfl rfl).trans (congrArg Value.bool g378)) (by decide) ?_
     refine U.x rfl rfl rfl rfl ((L 4 rfl rfl).trans (congrArg Value.bool g378)) (by decide) ?_
     refine U.x rfl rfl rfl rfl ((L 5 rfl rfl).trans (congrArg Value.bool g378)) (by decide) ?_
     refine U.x rfl rfl rfl rfl ((L 6 rfl rfl).trans (congrArg Value.bool g378)) (by decide) ?_
     refine U.x rfl rfl rfl rfl ((L 7 rfl rfl).trans (congrArg Value.bool g378)) (by decide) ?_
     refine U.x rfl rfl rfl rfl ((L 8 rfl rfl).trans (congrArg Value.bool g378)) (by decide) ?_
     refine U.x rfl rfl rfl rfl ((L 9 rfl rfl).trans (congrArg Value.bool g378)) (by decide) ?_
     refine U.x rfl rfl rfl rfl ((L 10 rfl rfl).trans (congrArg Value.bool g378)) (by decide) ?_
     refine U.x rfl rfl rfl rfl ((L 11 rfl rfl).trans (congrArg Value.bool g378)) (by decide) ?_
     refine U.p rfl rfl (.inl rfl) (S.pickF rfl ((L 12 rfl rfl).trans (congrArg Value.bool g378)) K) ?_
     refine U.done (Nat.le_of_ble_eq_true rfl) ?_
     refine sqN ?_
     exact ⟨_, V73, rfl, ⟨false, rfl, (.refl _), ow75, h406⟩, (allCons (L 17 rfl rfl) (allCons (L 18 rfl rfl) (allCons (L 19 rfl rfl) (allCons (L 20 rfl rfl) (allCons (L 21 rfl rfl) (allCons (L 0 rfl rfl) allNil))))))⟩
 ·skip
  refine WP.udreg rfl rfl rfl ?_
  refine U.p rfl rfl (.inl rfl) (S.move rfl (L 3 rfl rfl)) ?_
  refine U.p rfl rfl (.inl rfl) (S.move rfl (L 5 rfl rfl)) ?_
  refine U.p rfl rfl (.inl rfl) (S.leq rfl (L 1 rfl rfl) (L 0 rfl rfl)) ?_
  refine U.p rfl rfl (.inl rfl) (S.move rfl (L 0 rfl rfl)) ?_
  refine bcase (b := decide (x50 ≤ (w64 (p2 - 1)))) (fun g407 => ?_) (fun g407 => ?_)
  ·have h408 := ifT g407 h60
   refine U.p rfl rfl (.inr ⟨_, _, _, rfl, rfl, ((L 0 rfl rfl).trans (congrArg Value.bool g407))⟩) (S.move rfl (L 6 rfl rfl)) ?_
   refine U.p rfl rfl (.inr ⟨_, _, _, rfl, rfl, ((L 1 rfl rfl).trans (congrArg Value.bool g407))⟩) (S.move rfl (L 5 rfl rfl)) ?_
   refine U.p rfl rfl (.inr ⟨_, _, _, rfl, rfl, ((L 2 rfl rfl).trans (congrArg Value.bool g407))⟩) (S.move rfl (L 9 rfl rfl)) ?_
   obtain ⟨x409, hx410, h411⟩ := bindS h408
   obtain ⟨_, hv412, _⟩ := ow55.osel (k := 0) rfl hv10 hx410
   refine U.p rfl rfl (.inr ⟨_, _, _, rfl, rfl, ((L 3 rfl rfl).trans (congrArg Value.bool g407))⟩) (S.index rfl ((L 1 rfl rfl).trans hv412) (L 0 rfl rfl) Try.underlying38 ti45 (ix_ge hx410) (ix_lt hx410)) ?_
   obtain ⟨cs413, hv414, hlt415, hr416, hc417⟩ := ow55.osel (k := 0) rfl hv10 hx410
   obtain rfl : cs413 = [.int .i64 x409.e.t, .int .i64 x409.e.act.kind, .int .i64 x409.e.act.at_, .int .i64 x409.e.act.val, .int .i64 x409.e.act.what, .bool x409.e.act.volatile, .bool x409.e.act.final, .int .i64 x409.e.rf, .int .i64 x409.e.id, .int .i64 x409.at_] := hr416
   refine U.k rfl rfl (.inr ⟨_, _, _, rfl, rfl, ((L 4 rfl rfl).trans (congrArg Value.bool g407))⟩) (S.loadN (cs := [.int .i64 x409.e.t, .int .i64 x409.e.act.kind, .int .i64 x409.e.act.at_, .int .i64 x409.e.act.val, .int .i64 x409.e.act.what, .bool x409.e.act.volatile, .bool x409.e.act.final, .int .i64 x409.e.rf, .int .i64 x409.e.id, .int .i64 x409.at_]) rfl (L 0 rfl rfl) Try.underlying45 rfl ti45 rfl hc417) (fun _ => (okH.nil (fun r h => by cases h; exact hlt415))) ?_
   refine U.p rfl rfl (.inr ⟨_, _, _, rfl, rfl, ((L 5 rfl rfl).trans (congrArg Value.bool g407))⟩) (S.move rfl (L 9 rfl rfl)) ?_
   refine U.p rfl rfl (.inr ⟨_, _, _, rfl, rfl, ((L 6 rfl rfl).trans (congrArg Value.bool g407))⟩) (S.move rfl (L 11 rfl rfl)) ?_
   obtain ⟨x418, hx419, h420⟩ := bindS h411
   obtain ⟨_, hv421, _⟩ := ow55.osel (k := 0) rfl hv10 hx419
   refine U.p rfl rfl (.inr ⟨_, _, _, rfl, rfl, ((L 7 rfl rfl).trans (congrArg Value.bool g407))⟩) (S.index rfl ((L 1 rfl rfl).trans hv421) (L 0 rfl rfl) Try.underlying38 ti45 (ix_ge hx419) (ix_lt hx419)) ?_
   obtain ⟨cs422, hv423, hlt424, hr425, hc426⟩ := ow55.osel (k := 0) rfl hv10 hx419
   obtain rfl : cs422 = [.int .i64 x418.e.t, .int .i64 x418.e.act.kind, .int .i64 x418.e.act.at_, .int .i64 x418.e.act.val, .int .i64 x418.e.act.what, .bool x418.e.act.volatile, .bool x418.e.act.final, .int .i64 x418.e.rf, .int .i64 x418.e.id, .int .i64 x418.at_] := hr425
   refine U.k rfl rfl (.inr ⟨_, _, _, rfl, rfl, ((L 8 rfl rfl).trans (congrArg Value.bool g407))⟩) (S.loadN (cs := [.int .i64 x418.e.t, .int .i64 x418.e.act.kind, .int .i64 x418.e.act.at_, .int .i64 x418.e.act.val, .int .i64 x418.e.act.what, .bool x418.e.act.volatile, .bool x418.e.act.final, .int .i64 x418.e.rf, .int .i64 x418.e.id, .int .i64 x418.at_]) rfl (L 0 rfl rfl) Try.underlying45 rfl ti45 rfl hc426) (fun _ => (okH.cons trivial (okH.nil (fun r h => by cases h; exact hlt424)))) ?_
   obtain ⟨x427, hx428, h429⟩ := bindS h420
   refine O.callv (V := V53) rfl rfl (.inr ⟨_, _, _, rfl, rfl, ((L 9 rfl rfl).trans (congrArg Value.bool g407))⟩) rfl (L 8 rfl rfl) en50 (aC (L 4 rfl rfl) (aC (L 0 rfl rfl) aN)) (wk_order_Run_Apart_c2 V53 _ x409 x418 ow55 _ hx428) (fun v430 V431 le432 hp433 => by obtain ⟨rfl, ow434⟩ := hp433; exact (fun _ => (okH.cons (Or.inl rfl) (okH.cons (Or.inl rfl) (okH.nil (fun r h => nomatch h)))))) (fun v430 V431 le432 hp433 => ?_)
   obtain ⟨rfl, ow434⟩ := hp433
   refine U.p rfl rfl (.inr ⟨_, _, _, rfl, rfl, ((L 10 rfl rfl).trans (congrArg Value.bool g407))⟩) (S.lss rfl (L 0 rfl rfl) K) ?_
   refine U.p rfl rfl (.inl rfl) (S.pickT rfl ((L 11 rfl rfl).trans (congrArg Value.bool g407)) (L 0 rfl rfl)) ?_
   refine U.done (Nat.le_of_ble_eq_true rfl) ?_
   refine sqN ?_
   exact ⟨_, V431, rfl, ⟨decide (x427 < 0), rfl, le432, ow434, h429⟩, (allCons (L 16 rfl rfl) (allCons (L 17 rfl rfl) (allCons (L 18 rfl rfl) (allCons (L 19 rfl rfl) (allCons (L 20 rfl rfl) (allCons (L 0 rfl rfl) allNil))))))⟩
  ·have h435 := ifF g407 h60
   refine U.x rfl rfl rfl rfl ((L 0 rfl rfl).trans (congrArg Value.bool g407)) (by decide) ?_
   refine U.x rfl rfl rfl rfl ((L 1 rfl rfl).trans (congrArg Value.bool g407)) (by decide) ?_
   refine U.x rfl rfl rfl rfl ((L 2 rfl rfl).trans (congrArg Value.bool g407)) (by decide) ?_
   refine U.x rfl rfl rfl rfl ((L 3 rfl rfl).trans (congrArg Value.bool g407)) (by decide) ?_
   refine U.x rfl rfl rfl rfl ((L 4 rfl rfl).trans (congrArg Value.bool g407)) (by decide) ?_
   refine U.x rfl rfl rfl rfl ((L 5 rfl rfl).trans (congrArg Value.bool g407)) (by decide) ?_
   refine U.x rfl rfl rfl rfl ((L 6 rfl rfl).trans (congrArg Value.bool g407)) (by decide) ?_
   refine U.x rfl rfl rfl rfl ((L 7 rfl rfl).trans (congrArg Value.bool g407)) (by decide) ?_
   refine U.x rfl rfl rfl rfl ((L 8 rfl rfl).trans (congrArg Value.bool g407)) (by decide) ?_
   refine U.x rfl rfl rfl rfl ((L 9 rfl rfl).trans (congrArg Value.bool g407)) (by decide) ?_
   refine U.x rfl rfl rfl rfl ((L 10 rfl rfl).trans (congrArg Value.bool g407)) (by decide) ?_
   refine U.p rfl rfl (.inl rfl) (S.pickF rfl ((L 11 rfl rfl).trans (congrArg Value.bool g407)) K) ?_
   refine U.done (Nat.le_of_ble_eq_true rfl) ?_
   refine sqN ?_
   exact ⟨_, V53, rfl, ⟨false, rfl, (.refl _), ow55, h435⟩, (allCons (L 16 rfl rfl) (allCons (L 17 rfl rfl) (allCons (L 18 rfl rfl) (allCons (L 19 rfl rfl) (allCons (L 20 rfl rfl) (allCons (L 0 rfl rfl) allNil))))))⟩

set_option maxHeartbeats 4000000 in
set_option maxRecDepth 10000 in
theorem wk_slices_nextPowerOfTwo (V : Vw) (Rs : List At) (p0 : Int) (ow : Ow V (Rs)) (r : Int) (h : slices_nextPowerOfTwo p0 = some r) : ∃ v V', Cl Try.prog 0 72 #[.int .i64 p0] V.H v V'.H ∧ V.le V' ∧ (v = .int .u64 r ∧ Ow V' (Rs)) := by
 refine Ct.of (Nat.zero_le _) Try.func72 rfl (Nat.le_of_ble_eq_true rfl) ?_
 unfold slices_nextPowerOfTwo at h
 refine WP.usreg rfl ?_
 refine U.p rfl rfl (.inl rfl) (S.assign rfl K) ?_
 refine U.done (Nat.le_of_ble_eq_true rfl) ?_
 refine WP.usreg rfl ?_
 refine U.p rfl rfl (.inl rfl) (S.move rfl (L 1 rfl rfl)) ?_
 refine U.p rfl rfl (.inl rfl) (S.conv rfl (L 0 rfl rfl) Try.underlying3 Try.underlying34) ?_
 obtain ⟨x1, hx2, h3⟩ := bindS h
 refine O.call (V := V) rfl rfl (.inl rfl) rfl en59 (aC (L 0 rfl rfl) aN) (wk_math_bits_Len V _ (IntKind.wrap .u64 p0) ow _ hx2) (fun _ _ _ _ => nd) (fun v4 V5 le6 hp7 => ?_)
 obtain ⟨rfl, ow8⟩ := hp7
 obtain ⟨x9, hx10, h11⟩ := bindS h3
 refine U.p rfl rfl (.inl rfl) (S.shl hx10 rfl K (L 0 rfl rfl)) ?_
 refine U.p rfl rfl (.inl rfl) (S.assign rfl (L 0 rfl rfl)) ?_
 refine U.done (Nat.le_of_ble_eq_true rfl) ?_
 refine WP.ret ?_
 refine fin.slot (.inr rfl) rfl (L 0 rfl rfl) ⟨V5, rfl, le6, ?_⟩
 have e12 := Option.some.inj h11
 subst e12
 exact ⟨rfl, ow8⟩

set_option maxHeartbeats 4000000 in
set_option maxRecDepth 10000 in
theorem wk_slices_xorshift_Next (V : Vw) (Rs : List At) (p0 : Int) (b1 : Nat) (z2 : Nat) (ow : Ow V (.pt b1 (.cells z2 [.int .u64 p0]) :: Rs)) (r : Int × Int) (h : slices_xorshift_Next p0 = some r) : ∃ v V', Cl Try.prog 0 73 #[.pointer (some ⟨b1, 0, none⟩)] V.H v V'.H ∧ V.le V' ∧ (v = .int .u64 r.1 ∧ Ow V' (.pt b1 (.cells z2 [.int .u64 r.2]) :: Rs)) := by
 refine Ct.of (Nat.zero_le _) Try.func73 rfl (Nat.le_of_ble_eq_true rfl) ?_
 unfold slices_xorshift_Next at h
 refine WP.usreg rfl ?_
 refine U.p rfl rfl (.inl rfl) (S.assign rfl K) ?_
 refine U.done (Nat.le_of_ble_eq_true rfl) ?_
 refine WP.usdreg rfl rfl rfl ?_
 refine U.p rfl rfl (.inl rfl) (S.move rfl (L 1 rfl rfl)) ?_
 refine U.p rfl rfl (.inl rfl) (S.nilCheck rfl (L 0 rfl rfl)) ?_
 refine U.k rfl rfl (.inl rfl) (S.load rfl (L 0 rfl rfl) Try.underlying88 rfl ((ow.own (k := 0) rfl).cell rfl)) (fun _ => (okH.nil (fun r h => by cases h; exact (ow.own (k := 0) rfl).lt))) ?_
 refine U.p rfl rfl (.inl rfl) (S.move rfl (L 4 rfl rfl)) ?_
 refine U.p rfl rfl (.inl rfl) (S.nilCheck rfl (L 0 rfl rfl)) ?_
 refine U.k rfl rfl (.inl rfl) (S.load rfl (L 0 rfl rfl) Try.underlying88 rfl ((ow.own (k := 0) rfl).cell rfl)) (fun _ => (okH.cons trivial (okH.nil (fun r h => by cases h; exact (ow.own (k := 0) rfl).lt)))) ?_
 obtain ⟨x4, hx5, h6⟩ := bindS h
 refine U.p rfl rfl (.inl rfl) (S.shl hx5 rfl (L 0 rfl rfl) K) ?_
 refine U.p rfl rfl (.inl rfl) (S.xorI rfl (L 4 rfl rfl) (L 0 rfl rfl)) ?_
 refine U.p rfl rfl (.inl rfl) (S.nilCheck rfl (L 7 rfl rfl)) ?_
 refine O.store (k := 0) (cs := [.int .u64 (xorB .u64 p0 x4)]) (c' := [.int .u64 (xorB .u64 p0 x4)]) ow rfl rfl rfl (.inl rfl) rfl (L 0 rfl rfl) (L 1 rfl rfl) ti88 (by simp [topV]) rfl rfl (Nat.le_of_ble_eq_true rfl) rfl rfl (fun _ => (okH.cons (Or.inl rfl) (okH.cons (Or.inl rfl) (okH.nil (fun r h => nomatch h))))) (fun V7 le8 ow9 => ?_)
 refine U.done (Nat.le_of_ble_eq_true rfl) ?_
 refine WP.usdreg rfl rfl rfl ?_
 refine U.p rfl rfl (.inl rfl) (S.move rfl (L 10 rfl rfl)) ?_
 refine U.p rfl rfl (.inl rfl) (S.nilCheck rfl (L 0 rfl rfl)) ?_
 refine U.k rfl rfl (.inl rfl) (S.load rfl (L 0 rfl rfl) Try.underlying88 rfl ((ow9.own (k := 0) rfl).cell rfl)) (fun _ => (okH.nil (fun r h => by cases h; exact (ow9.own (k := 0) rfl).lt))) ?_
 refine U.p rfl rfl (.inl rfl) (S.move rfl (L 13 rfl rfl)) ?_
 refine U.p rfl rfl (.inl rfl) (S.nilCheck rfl (L 0 rfl rfl)) ?_
 refine U.k rfl rfl (.inl rfl) (S.load rfl (L 0 rfl rfl) Try.underlying88 rfl ((ow9.own (k := 0) rfl).cell rfl)) (fun _ => (okH.cons trivial (okH.nil (fun r h => by cases h; exact (ow9.own (k := 0) rfl).lt)))) ?_
 obtain ⟨x10, hx11, h12⟩ := bindS h6
 refine U.p rfl rfl (.inl rfl) (S.shr hx11 rfl (L 0 rfl rfl) K) ?_
 refine U.p rfl rfl (.inl rfl) (S.xorI rfl (L 4 rfl rfl) (L 0 rfl rfl)) ?_
 refine U.p rfl rfl (.inl rfl) (S.nilCheck rfl (L 7 rfl rfl)) ?_
 refine O.store (k := 0) (cs := [.int .u64 (xorB .u64 (xorB .u64 p0 x4) x10)]) (c' := [.int .u64 (xorB .u64 (xorB .u64 p0 x4) x10)]) ow9 rfl rfl rfl (.inl rfl) rfl (L 0 rfl rfl) (L 1 rfl rfl) ti88 (by simp [topV]) rfl rfl (Nat.le_of_ble_eq_true rfl) rfl rfl (fun _ => (okH.cons (Or.inl rfl) (okH.cons (Or.inl rfl) (okH.nil (fun r h => nomatch h))))) (fun V13 le14 ow15 => ?_)
 refine U.done (Nat.le_of_ble_eq_true rfl) ?_
 refine WP.usdreg rfl rfl rfl ?_
 refine U.p rfl rfl (.inl rfl) (S.move rfl (L 19 rfl rfl)) ?_
 refine U.p rfl rfl (.inl rfl) (S.nilCheck rfl (L 0 rfl rfl)) ?_
 refine U.k rfl rfl (.inl rfl) (S.load rfl (L 0 rfl rfl) Try.underlying88 rfl ((ow15.own (k := 0) rfl).cell rfl)) (fun _ => (okH.nil (fun r h => by cases h; exact (ow15.own (k := 0) rfl).lt))) ?_
 refine U.p rfl rfl (.inl rfl) (S.move rfl (L 22 rfl rfl)) ?_
 refine U.p rfl rfl (.inl rfl) (S.nilCheck rfl (L 0 rfl rfl)) ?_
 refine U.k rfl rfl (.inl rfl) (S.load rfl (L 0 rfl rfl) Try.underlying88 rfl ((ow15.own (k := 0) rfl).cell rfl)) (fun _ => (okH.cons trivial (okH.nil (fun r h => by cases h; exact (ow15.own (k := 0) rfl).lt)))) ?_
 obtain ⟨x16, hx17, h18⟩ := bindS h12
 refine U.p rfl rfl (.inl rfl) (S.shl hx17 rfl (L 0 rfl rfl) K) ?_
 refine U.p rfl rfl (.inl rfl) (S.xorI rfl (L 4 rfl rfl) (L 0 rfl rfl)) ?_
 refine U.p rfl rfl (.inl rfl) (S.nilCheck rfl (L 7 rfl rfl)) ?_
 refine O.store (k := 0) (cs := [.int .u64 (xorB .u64 (xorB .u64 (xorB .u64 p0 x4) x10) x16)]) (c' := [.int .u64 (xorB .u64 (xorB .u64 (xorB .u64 p0 x4) x10) x16)]) ow15 rfl rfl rfl (.inl rfl) rfl (L 0 rfl rfl) (L 1 rfl rfl) ti88 (by simp [topV]) rfl rfl (Nat.le_of_ble_eq_true rfl) rfl rfl (fun _ => (okH.cons (Or.inl rfl) (okH.cons (Or.inl rfl) (okH.nil (fun r h => nomatch h))))) (fun V19 le20 ow21 => ?_)
 refine U.done (Nat.le_of_ble_eq_true rfl) ?_
 refine WP.usreg rfl ?_
 refine U.p rfl rfl (.inl rfl) (S.move rfl (L 28 rfl rfl)) ?_
 refine U.p rfl rfl (.inl rfl) (S.nilCheck rfl (L 0 rfl rfl)) ?_
 refine U.k rfl rfl (.inl rfl) (S.load rfl (L 0 rfl rfl) Try.underlying88 rfl ((ow21.own (k := 0) rfl).cell rfl)) nd ?_
 refine U.p rfl rfl (.inl rfl) (S.assign rfl (L 0 rfl rfl)) ?_
 refine U.done (Nat.le_of_ble_eq_true rfl) ?_
 refine WP.ret ?_
 refine fin.slot (.inr rfl) rfl (L 0 rfl rfl) ⟨V19, rfl, ((le8.trans le14).trans le20), ?_⟩
 have e22 := Option.some.inj h18
 subst e22
 exact ⟨rfl, ow21⟩

set_option maxHeartbeats 4000000 in
set_option maxRecDepth 10000 in
theorem wk_slices_breakPatternsCmpFunc (V : Vw) (Rs : List At) (p0 : List Torder_node) (p1 : Int) (p2 : Int) (v1 : Value) (ow : Ow V (.os RT_Torder_node v1 p0 :: Rs)) (r : List Torder_node) (h : slices_breakPatternsCmpFunc p0 p1 p2 = some r) : ∃ v V', Cl Try.prog 0 63 #[v1, .int .i64 p1, .int .i64 p2, .func (.func 50) #[] #[]] V.H v V'.H ∧ V.le V' ∧ (Ow V' (.os RT_Torder_node v1 r :: Rs)) := by
 refine Ct.of (Nat.zero_le _) Try.func63 rfl (Nat.le_of_ble_eq_true rfl) ?_
 unfold slices_breakPatternsCmpFunc at h
 refine WP.usreg rfl ?_
 refine U.p rfl rfl (.inl rfl) (S.move rfl (L 2 rfl rfl)) ?_
 refine U.p rfl rfl (.inl rfl) (S.move rfl (L 2 rfl rfl)) ?_
 refine U.p rfl rfl (.inl rfl) (S.sub rfl (L 1 rfl rfl) (L 0 rfl rfl)) ?_
 refine U.p rfl rfl (.inl rfl) (S.assign rfl (L 0 rfl rfl)) ?_
 refine U.done (Nat.le_of_ble_eq_true rfl) ?_
 refine WP.usreg rfl ?_
 refine U.p rfl rfl (.inl rfl) (S.move rfl (L 0 rfl rfl)) ?_
 refine U.p rfl rfl (.inl rfl) (S.geq rfl (L 0 rfl rfl) K) ?_
 refine U.done (Nat.le_of_ble_eq_true rfl) ?_
 refine WP.cond _ (L 0 rfl rfl) rfl (fun c3 => ?_) (fun c3 => ?_)
 ·have h4 := ifT c3 h
  refine WP.usreg rfl ?_
  refine U.p rfl rfl (.inl rfl) (S.move rfl (L 2 rfl rfl)) ?_
  refine U.p rfl rfl (.inl rfl) (S.conv rfl (L 0 rfl rfl) Try.underlying3 Try.underlying88) ?_
  refine O.alloc ow rfl rfl (.inl rfl) rfl ti88 rfl rfl nd (fun b5 V6 le7 ow8 => ?_)
  refine O.store (k := 0) (cs := [.int .u64 (IntKind.wrap .u64 (w64 (p2 - p1)))]) (c' := [.int .u64 (IntKind.wrap .u64 (w64 (p2 - p1)))]) ow8 rfl rfl rfl (.inl rfl) rfl (L 0 rfl rfl) (L 1 rfl rfl) ti88 (by simp [topV]) rfl rfl (Nat.le_of_ble_eq_true rfl) rfl rfl nd (fun V10 le11 ow12 => ?_)
  refine U.done (Nat.le_of_ble_eq_true rfl) ?_
  refine WP.usreg rfl ?_
  refine U.p rfl rfl (.inl rfl) (S.move rfl (L 5 rfl rfl)) ?_
  obtain ⟨x13, hx14, h15⟩ := bindS h4
  refine O.call (V := V10) rfl rfl (.inl rfl) rfl en72 (aC (L 0 rfl rfl) aN) (wk_slices_nextPowerOfTwo V10 _ (w64 (p2 - p1)) ow12 _ hx14) (fun _ _ _ _ => nd) (fun v16 V17 le18 hp19 => ?_)
  obtain ⟨rfl, ow20⟩ := hp19
  refine U.p rfl rfl (.inl rfl) (S.assign rfl (L 0 rfl rfl)) ?_
  refine U.done (Nat.le_of_ble_eq_true rfl) ?_
  refine WP.usreg rfl ?_
  refine U.p rfl rfl (.inl rfl) (S.move rfl (L 13 rfl rfl)) ?_
  refine U.p rfl rfl (.inl rfl) (S.move rfl (L 9 rfl rfl)) ?_
  obtain ⟨x21, hx22, h23⟩ := bindS h15
  refine U.p rfl rfl (.inl rfl) (S.quo hx22 rfl (L 0 rfl rfl) K) ?_
  refine U.p rfl rfl (.inl rfl) (S.mul rfl (L 0 rfl rfl) K) ?_
  refine U.p rfl rfl (.inl rfl) (S.add rfl (L 3 rfl rfl) (L 0 rfl rfl)) ?_
  refine U.p rfl rfl (.inl rfl) (S.sub rfl (L 0 rfl rfl) K) ?_
  refine U.p rfl rfl (.inl rfl) (S.assign rfl (L 0 rfl rfl)) ?_
  refine U.done (Nat.le_of_ble_eq_true rfl) ?_
  refine WP.blk ?_
  have ow27 := ow20.pick 0 rfl
  have ow28 := ow27.pick 1 rfl
  unfold slices_breakPatternsCmpFunc_l1 at h23
  obtain ⟨n30, hn29⟩ := loopO_some.1 h23
  refine WP.loopI2 (fun n l V' => ∃ (xs24 : List Torder_node) (x25 : Int) (x26 : Int), l = [(0, v1), (1, .int .i64 p1), (8, .int .i64 (w64 (p2 - p1))), (9, .pointer (some ⟨b5, 0, none⟩)), (10, .int .u64 x13), (11, .int .i64 x26)] ∧ V17.le V' ∧ Ow V' (.os RT_Torder_node v1 xs24 :: .pt b5 (.cells 1 [.int .u64 x25]) :: Rs) ∧ itO (fun s => slices_breakPatternsCmpFunc_l1b p1 p2 x13 s.1 s.2.1 s.2.2) n (xs24, x25, x26) = some r) n30 _ ⟨p0, IntKind.wrap .u64 (w64 (p2 - p1)), w64 ((w64 (p1 + (w64 (x21 * 2)))) - 1), rfl, .refl _, ow28, hn29⟩ (allCons (L 19 rfl rfl) (allCons (L 20 rfl rfl) (allCons (L 15 rfl rfl) (allCons (L 10 rfl rfl) (allCons (L 7 rfl rfl) (allCons (L 0 rfl rfl) allNil)))))) ?_
  rintro _ _ V31 ⟨xs24, x25, x26, rfl, le32, ow33, h37⟩
  obtain ⟨m34, q35, rfl, h38, e36⟩ := itS h37
  replace h38 : slices_breakPatternsCmpFunc_l1b p1 p2 x13 xs24 x25 x26 = some q35 := h38
  unfold slices_breakPatternsCmpFunc_l1b at h38
  refine WP.seq ?_
  refine WP.usreg rfl ?_
  refine U.p rfl rfl (.inl rfl) (S.move rfl (L 5 rfl rfl)) ?_
  refine U.p rfl rfl (.inl rfl) (S.move rfl (L 2 rfl rfl)) ?_
  refine U.p rfl rfl (.inl rfl) (S.move rfl (L 4 rfl rfl)) ?_
  obtain ⟨x39, hx40, h41⟩ := bindS h38
  refine U.p rfl rfl (.inl rfl) (S.quo hx40 rfl (L 0 rfl rfl) K) ?_
  refine U.p rfl rfl (.inl rfl) (S.mul rfl (L 0 rfl rfl) K) ?_
  refine U.p rfl rfl (.inl rfl) (S.add rfl (L 3 rfl rfl) (L 0 rfl rfl)) ?_
  refine U.p rfl rfl (.inl rfl) (S.add rfl (L 0 rfl rfl) K) ?_
  refine U.p rfl rfl (.inl rfl) (S.leq rfl (L 6 rfl rfl) (L 0 rfl rfl)) ?_
  refine U.done (Nat.le_of_ble_eq_true rfl) ?_
  refine WP.cond _ (L 0 rfl rfl) rfl (fun c42 => ?_) (fun c42 => ?_)
  ·have h43 := ifT c42 h41
   refine WP.skip ?_
   refine sqN ?_
   refine WP.seq ?_
   refine WP.blk ?_
   refine WP.usreg rfl ?_
   have ow44 := ow33.pick 1 rfl
   obtain ⟨x45, hx46, h47⟩ := bindS h43
   refine O.call (V := V31) rfl rfl (.inl rfl) rfl en73 (aC (L 11 rfl rfl) aN) (wk_slices_xorshift_Next V31 _ x25 b5 1 ow44 _ hx46) (fun _ _ _ _ => nd) (fun v48 V49 le50 hp51 => ?_)
   obtain ⟨rfl, ow52⟩ := hp51
   refine U.p rfl rfl (.inl rfl) (S.move rfl (L 13 rfl rfl)) ?_
   refine U.p rfl rfl (.inl rfl) (S.sub rfl (L 0 rfl rfl) K) ?_
   refine U.p rfl rfl (.inl rfl) (S.andI rfl (L 2 rfl rfl) (L 0 rfl rfl)) ?_
   refine U.p rfl rfl (.inl rfl) (S.conv rfl (L 0 rfl rfl) Try.underlying34 Try.underlying3) ?_
   refine U.p rfl rfl (.inl rfl) (S.assign rfl (L 0 rfl rfl)) ?_
   refine U.done (Nat.le_of_ble_eq_true rfl) ?_
   refine WP.seqI (fun l V' => ∃ (x53 : Int), l = [(0, v1), (1, .int .i64 p1), (8, .int .i64 (w64 (p2 - p1))), (9, .pointer (some ⟨b5, 0, none⟩)), (10, .int .u64 x13), (11, .int .i64 x26), (12, .int .i64 x53)] ∧ V49.le V' ∧ Ow V' (.os RT_Torder_node v1 xs24 :: .pt b5 (.cells 1 [.int .u64 x45.2]) :: Rs) ∧ slices_breakPatternsCmpFunc_k1 p1 xs24 x26 x45 x53 = some q35) ?_ ?_
   ·rintro _ V54 ⟨x53, rfl, le55, ow56, h57⟩
    unfold slices_breakPatternsCmpFunc_k1 at h57
    refine WP.udreg rfl rfl rfl ?_
    refine U.p rfl rfl (.inl rfl) (S.move rfl (L 0 rfl rfl)) ?_
    refine U.p rfl rfl (.inl rfl) (S.move rfl (L 6 rfl rfl)) ?_
    refine U.p rfl rfl (.inl rfl) (S.move rfl (L 2 rfl rfl)) ?_
    refine U.p rfl rfl (.inl rfl) (S.move rfl (L 4 rfl rfl)) ?_
    refine U.p rfl rfl (.inl rfl) (S.move rfl (L 10 rfl rfl)) ?_
    refine U.p rfl rfl (.inl rfl) (S.add rfl (L 1 rfl rfl) (L 0 rfl rfl)) ?_
    refine U.p rfl rfl (.inl rfl) (S.move rfl (L 6 rfl rfl)) ?_
    refine U.p rfl rfl (.inl rfl) (S.move rfl (L 8 rfl rfl)) ?_
    refine U.p rfl rfl (.inl rfl) (S.move rfl (L 14 rfl rfl)) ?_
    refine U.p rfl rfl (.inl rfl) (S.add rfl (L 1 rfl rfl) (L 0 rfl rfl)) ?_
    obtain ⟨x58, hx59, h60⟩ := bindS h57
    obtain ⟨b61, o62, n63, c64, hv65⟩ := ow56.ospt (k := 0) rfl hx59
    obtain ⟨_, hv66, _⟩ := ow56.osel (k := 0) rfl hv65 hx59
    refine U.p rfl rfl (.inl rfl) (S.index rfl ((L 3 rfl rfl).trans hv66) (L 0 rfl rfl) Try.underlying38 ti45 (ix_ge hx59) (ix_lt hx59)) ?_
    obtain ⟨cs67, hv68, hlt69, hr70, hc71⟩ := ow56.osel (k := 0) rfl hv65 hx59
    obtain rfl : cs67 = [.int .i64 x58.e.t, .int .i64 x58.e.act.kind, .int .i64 x58.e.act.at_, .int .i64 x58.e.act.val, .int .i64 x58.e.act.what, .bool x58.e.act.volatile, .bool x58.e.act.final, .int .i64 x58.e.rf, .int .i64 x58.e.id, .int .i64 x58.at_] := hr70
    refine U.k rfl rfl (.inl rfl) (S.loadN (cs := [.int .i64 x58.e.t, .int .i64 x58.e.act.kind, .int .i64 x58.e.act.at_, .int .i64 x58.e.act.val, .int .i64 x58.e.act.what, .bool x58.e.act.volatile, .bool x58.e.act.final, .int .i64 x58.e.rf, .int .i64 x58.e.id, .int .i64 x58.at_]) rfl (L 0 rfl rfl) Try.underlying45 rfl ti45 rfl hc71) (fun _ => (okH.nil (fun r h => by cases h; exact hlt69))) ?_
    refine U.p rfl rfl (.inl rfl) (S.move rfl (L 12 rfl rfl)) ?_
    refine U.p rfl rfl (.inl rfl) (S.move rfl (L 18 rfl rfl)) ?_
    obtain ⟨x72, hx73, h74⟩ := bindS h60
    obtain ⟨_, hv75, _⟩ := ow56.osel (k := 0) rfl hv65 hx73
    refine U.p rfl rfl (.inl rfl) (S.index rfl ((L 1 rfl rfl).trans hv75) (L 0 rfl rfl) Try.underlying38 ti45 (ix_ge hx73) (ix_lt hx73)) ?_
    obtain ⟨cs76, hv77, hlt78, hr79, hc80⟩ := ow56.osel (k := 0) rfl hv65 hx73
    obtain rfl : cs76 = [.int .i64 x72.e.t, .int .i64 x72.e.act.kind, .int .i64 x72.e.act.at_, .int .i64 x72.e.act.val, .int .i64 x72.e.act.what, .bool x72.e.act.volatile, .bool x72.e.act.final, .int .i64 x72.e.rf, .int .i64 x72.e.id, .int .i64 x72.at_] := hr79
    refine U.k rfl rfl (.inl rfl) (S.loadN (cs := [.int .i64 x72.e.t, .int .i64 x72.e.act.kind, .int .i64 x72.e.act.at_, .int .i64 x72.e.act.val, .int .i64 x72.e.act.what, .bool x72.e.act.volatile, .bool x72.e.act.final, .int .i64 x72.e.rf, .int .i64 x72.e.id, .int .i64 x72.at_]) rfl (L 0 rfl rfl) Try.underlying45 rfl ti45 rfl hc80) (fun _ => (okH.cons trivial (okH.nil (fun r h => by cases h; exact hlt78)))) ?_
    obtain ⟨x81, hx82, h83⟩ := bindS h74
    obtain ⟨_, hv84, _⟩ := ow56.osel (k := 0) rfl hv65 hx82
    refine U.p rfl rfl (.inl rfl) (S.index rfl ((L 15 rfl rfl).trans hv84) (L 14 rfl rfl) Try.underlying38 ti45 (ix_ge hx82) (ix_lt hx82)) ?_
    obtain ⟨cs85, hv86, hlt87, hr88, hc89⟩ := ow56.osel (k := 0) rfl hv65 hx82
    obtain rfl : cs85 = [.int .i64 x81.e.t, .int .i64 x81.e.act.kind, .int .i64 x81.e.act.at_, .int .i64 x81.e.act.val, .int .i64 x81.e.act.what, .bool x81.e.act.volatile, .bool x81.e.act.final, .int .i64 x81.e.rf, .int .i64 x81.e.id, .int .i64 x81.at_] := hr88
    refine O.storeE (k := 0) (R := RT_Torder_node) (j := 0) (y := x58) (cs := [.int .i64 x58.e.t, .int .i64 x58.e.act.kind, .int .i64 x58.e.act.at_, .int .i64 x58.e.act.val, .int .i64 x58.e.act.what, .bool x58.e.act.volatile, .bool x58.e.act.final, .int .i64 x58.e.rf, .int .i64 x58.e.id, .int .i64 x58.at_]) ow56 rfl hv86 rfl rfl (.inl rfl) rfl (L 0 rfl rfl) (L 5 rfl rfl) ti45 hx82 (by simp [topV]) rfl rfl rfl (full rfl) (fun H1 hs => (fun _ => (okH.cons (Or.inl rfl) (okH.cons (Or.inl rfl) (okH.nil (fun r h => nomatch h)))))) (fun V90 le91 ow92 => ?_)
    obtain ⟨x93, hx94, h95⟩ := bindS h83
    obtain ⟨_, hv96, _⟩ := ow92.osel (k := 0) rfl hv65 hx94
    refine U.p rfl rfl (.inl rfl) (S.index rfl ((L 14 rfl rfl).trans hv96) (L 11 rfl rfl) Try.underlying38 ti45 (ix_ge hx94) (ix_lt hx94)) ?_
    obtain ⟨cs97, hv98, hlt99, hr100, hc101⟩ := ow92.osel (k := 0) rfl hv65 hx94
    obtain rfl : cs97 = [.int .i64 x93.e.t, .int .i64 x93.e.act.kind, .int .i64 x93.e.act.at_, .int .i64 x93.e.act.val, .int .i64 x93.e.act.what, .bool x93.e.act.volatile, .bool x93.e.act.final, .int .i64 x93.e.rf, .int .i64 x93.e.id, .int .i64 x93.at_] := hr100
    refine O.storeE (k := 0) (R := RT_Torder_node) (j := 0) (y := x72) (cs := [.int .i64 x72.e.t, .int .i64 x72.e.act.kind, .int .i64 x72.e.act.at_, .int .i64 x72.e.act.val, .int .i64 x72.e.act.what, .bool x72.e.act.volatile, .bool x72.e.act.final, .int .i64 x72.e.rf, .int .i64 x72.e.id, .int .i64 x72.at_]) ow92 rfl hv98 rfl rfl (.inl rfl) rfl (L 0 rfl rfl) (L 2 rfl rfl) ti45 hx94 (by simp [topV]) rfl rfl rfl (full rfl) (fun H1 hs => (fun _ => (okH.cons rfl (okH.cons (Or.inl rfl) (okH.cons (Or.inl rfl) (okH.nil (fun r h => nomatch h))))))) (fun V102 le103 ow104 => ?_)
    refine U.done (Nat.le_of_ble_eq_true rfl) ?_
    refine blkN (sqN ?_)
    refine WP.ureg rfl ?_
    refine U.p rfl rfl (.inl rfl) (S.move rfl (L 23 rfl rfl)) ?_
    refine U.p rfl rfl (.inl rfl) (S.add rfl (L 0 rfl rfl) K) ?_
    refine U.p rfl rfl (.inl rfl) (S.assign rfl (L 0 rfl rfl)) ?_
    refine U.done (Nat.le_of_ble_eq_true rfl) ?_
    refine sqN ?_
    exact ⟨_, V102, rfl, ⟨m34, Nat.lt_succ_self _, (xs24.set (Int.toNat x26) x58).set (Int.toNat (w64 (p1 + x53))) x72, x45.2, w64 (x26 + 1), rfl, ((((le32.trans le50).trans le55).trans le91).trans le103), ow104, backS h95 e36⟩, (allCons (L 21 rfl rfl) (allCons (L 22 rfl rfl) (allCons (L 23 rfl rfl) (allCons (L 24 rfl rfl) (allCons (L 25 rfl rfl) (allCons (L 0 rfl rfl) allNil))))))⟩
   ·skip
    refine WP.usreg rfl ?_
    refine U.p rfl rfl (.inl rfl) (S.move rfl (L 0 rfl rfl)) ?_
    refine U.p rfl rfl (.inl rfl) (S.move rfl (L 17 rfl rfl)) ?_
    refine U.p rfl rfl (.inl rfl) (S.geq rfl (L 1 rfl rfl) (L 0 rfl rfl)) ?_
    refine U.done (Nat.le_of_ble_eq_true rfl) ?_
    refine WP.cond _ (L 0 rfl rfl) rfl (fun c105 => ?_) (fun c105 => ?_)
    ·have h106 := ifT c105 h47
     refine WP.ureg rfl ?_
     refine U.p rfl rfl (.inl rfl) (S.move rfl (L 3 rfl rfl)) ?_
     refine U.p rfl rfl (.inl rfl) (S.move rfl (L 20 rfl rfl)) ?_
     refine U.p rfl rfl (.inl rfl) (S.sub rfl (L 1 rfl rfl) (L 0 rfl rfl)) ?_
     refine U.p rfl rfl (.inl rfl) (S.assign rfl (L 0 rfl rfl)) ?_
     refine U.done (Nat.le_of_ble_eq_true rfl) ?_
     refine sqN ?_
     have ow107 := ow52.pick 0 rfl
     have ow108 := ow107.pick 1 rfl
     exact ⟨_, V49, rfl, ⟨w64 ((w64 (andB .u64 x45.1 (IntKind.wrap .u64 (x13 - 1)))) - (w64 (p2 - p1))), rfl, (.refl _), ow108, h106⟩, (allCons (L 21 rfl rfl) (allCons (L 22 rfl rfl) (allCons (L 23 rfl rfl) (allCons (L 24 rfl rfl) (allCons (L 25 rfl rfl) (allCons (L 26 rfl rfl) (allCons (L 0 rfl rfl) allNil)))))))⟩
    ·have h109 := ifF c105 h47
     refine WP.skip ?_
     refine sqN ?_
     have ow110 := ow52.pick 0 rfl
     have ow111 := ow110.pick 1 rfl
     exact ⟨_, V49, rfl, ⟨w64 (andB .u64 x45.1 (IntKind.wrap .u64 (x13 - 1))), rfl, (.refl _), ow111, h109⟩, (allCons (L 17 rfl rfl) (allCons (L 18 rfl rfl) (allCons (L 19 rfl rfl) (allCons (L 20 rfl rfl) (allCons (L 21 rfl rfl) (allCons (L 22 rfl rfl) (allCons (L 3 rfl rfl) allNil)))))))⟩
  ·have h112 := ifF c42 h41
   refine WP.exit ?_
   refine sqE (sqE (blkE ?_))
   have h113 := exitS h112 e36
   refine fin.slots' (.inl rfl) fsN rfl ⟨V31, rfl, (((le7.trans le11).trans le18).trans le32), ?_⟩
   have ow114 := ow33.drop 1 rfl
   have e115 := Option.some.inj h113
   subst e115
   exact ow114
 ·have h116 := ifF c3 h
  refine WP.skip ?_
  refine fin.slots' (.inl rfl) fsN rfl ⟨V, rfl, (.refl _), ?_⟩
  have e117 := Option.some.inj h116
  subst e117
  exact ow

set_option maxHeartbeats 4000000 in
set_option maxRecDepth 10000 in
theorem wks_slices_pdqsortCmpFunc (rec_ : (List Torder_node) → Int → Int → Int → Option (List Torder_node)) (IH : ∀ (V : Vw) (Rs : List At) (p0 : List Torder_node) (p1 : Int) (p2 : Int) (p3 : Int) (v1 : Value) (ow : Ow V (.os RT_Torder_node v1 p0 :: Rs)) (r : List Torder_node) (h : rec_ p0 p1 p2 p3 = some r), ∃ v V', Cl Try.prog 0 58 #[v1, .int .i64 p1, .int .i64 p2, .int .i64 p3, .func (.func 50) #[] #[]] V.H v V'.H ∧ V.le V' ∧ (Ow V' (.os RT_Torder_node v1 r :: Rs))) (V : Vw) (Rs : List At) (p0 : List Torder_node) (p1 : Int) (p2 : Int) (p3 : Int) (v1 : Value) (ow : Ow V (.os RT_Torder_node v1 p0 :: Rs)) (r : List Torder_node) (h : slices_pdqsortCmpFunc_F rec_ p0 p1 p2 p3 = some r) : ∃ v V', Cl Try.prog 0 58 #[v1, .int .i64 p1, .int .i64 p2, .int .i64 p3, .func (.func 50) #[] #[]] V.H v V'.H ∧ V.le V' ∧ (Ow V' (.os RT_Torder_node v1 r :: Rs)) := by
 refine Ct.of (Nat.zero_le _) Try.func58 rfl (Nat.le_of_ble_eq_true rfl) ?_
 unfold slices_pdqsortCmpFunc_F at h
 refine WP.usreg rfl ?_
 refine U.p rfl rfl (.inl rfl) (S.assign rfl K) ?_
 refine U.done (Nat.le_of_ble_eq_true rfl) ?_
 refine WP.usreg rfl ?_
 refine U.p rfl rfl (.inl rfl) (S.assign rfl K) ?_
 refine U.done (Nat.le_of_ble_eq_true rfl) ?_
 refine WP.blk ?_
 unfold slices_pdqsortCmpFunc_l1 at h
 obtain ⟨n10, hn9⟩ := loopO_some.1 h
 refine WP.loopI2 (fun n l V' => ∃ (xs3 : List Torder_node) (x4 : Int) (x5 : Int) (x6 : Int) (x7 : Bool) (x8 : Bool), l = [(0, v1), (1, .int .i64 x4), (2, .int .i64 x5), (3, .int .i64 x6), (4, .func (.func 50) #[] #[]), (10, .bool x7), (11, .bool x8)] ∧ V.le V' ∧ Ow V' (.os RT_Torder_node v1 xs3 :: Rs) ∧ itO (fun s => slices_pdqsortCmpFunc_l1b rec_ s.1 s.2.1 s.2.2.1 s.2.2.2.1 s.2.2.2.2.1 s.2.2.2.2.2) n (xs3, x4, x5, x6, x7, x8) = some r) n10 _ ⟨p0, p1, p2, p3, true, true, rfl, .refl _, ow, hn9⟩ (allCons (L 2 rfl rfl) (allCons (L 3 rfl rfl) (allCons (L 4 rfl rfl) (allCons (L 5 rfl rfl) (allCons (L 6 rfl rfl) (allCons (L 1 rfl rfl) (allCons (L 0 rfl rfl) allNil))))))) ?_
 rintro _ _ V11 ⟨xs3, x4, x5, x6, x7, x8, rfl, le12, ow13, h17⟩
 obtain ⟨m14, q15, rfl, h18, e16⟩ := itS h17
 replace h18 : slices_pdqsortCmpFunc_l1b rec_ xs3 x4 x5 x6 x7 x8 = some q15 := h18
 unfold slices_pdqsortCmpFunc_l1b at h18
 refine WP.blk ?_
 refine WP.usreg rfl ?_
 refine U.p rfl rfl (.inl rfl) (S.move rfl (L 2 rfl rfl)) ?_
 refine U.p rfl rfl (.inl rfl) (S.move rfl (L 2 rfl rfl)) ?_
 refine U.p rfl rfl (.inl rfl) (S.sub rfl (L 1 rfl rfl) (L 0 rfl rfl)) ?_
 refine U.p rfl rfl (.inl rfl) (S.assign rfl (L 0 rfl rfl)) ?_
 refine U.done (Nat.le_of_ble_eq_true rfl) ?_
 refine WP.seq ?_
 refine WP.usreg rfl ?_
 refine U.p rfl rfl (.inl rfl) (S.move rfl (L 0 rfl rfl)) ?_
 refine U.p rfl rfl (.inl rfl) (S.leq rfl (L 0 rfl rfl) K) ?_
 refine U.done (Nat.le_of_ble_eq_true rfl) ?_
 refine WP.cond _ (L 0 rfl rfl) rfl (fun c19 => ?_) (fun c19 => ?_)
 ·have h20 := ifT c19 h18
  refine WP.usreg rfl ?_
  refine U.p rfl rfl (.inl rfl) (S.move rfl (L 6 rfl rfl)) ?_
  refine U.p rfl rfl (.inl rfl) (S.move rfl (L 8 rfl rfl)) ?_
  refine U.p rfl rfl (.inl rfl) (S.move rfl (L 10 rfl rfl)) ?_
  refine U.p rfl rfl (.inl rfl) (S.move rfl (L 13 rfl rfl)) ?_
  obtain ⟨x21, hx22, h23⟩ := bindS h20
  refine O.call (V := V11) rfl rfl (.inl rfl) rfl en61 (aC (L 3 rfl rfl) (aC (L 2 rfl rfl) (aC (L 1 rfl rfl) (aC (L 0 rfl rfl) aN)))) (wk_slices_insertionSortCmpFunc V11 _ xs3 x4 x5 v1 ow13 _ hx22) (fun _ _ _ _ => nd) (fun v24 V25 le26 hp27 => ?_)
  have ow28 := hp27
  refine U.done (Nat.le_of_ble_eq_true rfl) ?_
  refine WP.ret ?_
  refine sqR (blkR (sqR (blkR ?_)))
  have h29 := exitS h23 e16
  refine fin.slots' (.inr rfl) fsN rfl ⟨V25, rfl, (le12.trans le26), ?_⟩
  have e30 := Option.some.inj h29
  subst e30
  exact ow28
 ·have h31 := ifF c19 h18
  refine WP.skip ?_
  refine sqN ?_
  refine WP.seq ?_
  refine WP.usreg rfl ?_
  refine U.p rfl rfl (.inl rfl) (S.move rfl (L 9 rfl rfl)) ?_
  refine U.p rfl rfl (.inl rfl) (S.eqlI rfl (L 0 rfl rfl) K) ?_
  refine U.done (Nat.le_of_ble_eq_true rfl) ?_
  refine WP.cond _ (L 0 rfl rfl) rfl (fun c32 => ?_) (fun c32 => ?_)
  ·have h33 := ifT c32 h31
   refine WP.usreg rfl ?_
   refine U.p rfl rfl (.inl rfl) (S.move rfl (L 8 rfl rfl)) ?_
   refine U.p rfl rfl (.inl rfl) (S.move rfl (L 10 rfl rfl)) ?_
   refine U.p rfl rfl (.inl rfl) (S.move rfl (L 12 rfl rfl)) ?_
   refine U.p rfl rfl (.inl rfl) (S.move rfl (L 15 rfl rfl)) ?_
   obtain ⟨x34, hx35, h36⟩ := bindS h33
   refine O.call (V := V11) rfl rfl (.inl rfl) rfl en62 (aC (L 3 rfl rfl) (aC (L 2 rfl rfl) (aC (L 1 rfl rfl) (aC (L 0 rfl rfl) aN)))) (wk_slices_heapSortCmpFunc V11 _ xs3 x4 x5 v1 ow13 _ hx35) (fun _ _ _ _ => nd) (fun v37 V38 le39 hp40 => ?_)
   have ow41 := hp40
   refine U.done (Nat.le_of_ble_eq_true rfl) ?_
   refine WP.ret ?_
   refine sqR (blkR (sqR (blkR ?_)))
   have h42 := exitS h36 e16
   refine fin.slots' (.inr rfl) fsN rfl ⟨V38, rfl, (le12.trans le39), ?_⟩
   have e43 := Option.some.inj h42
   subst e43
   exact ow41
  ·have h44 := ifF c32 h31
   refine WP.skip ?_
   refine sqN ?_
   refine WP.seqI (fun l V' => ∃ (xs45 : List Torder_node) (x46 : Int), l = [(0, v1), (1, .int .i64 x4), (2, .int .i64 x5), (3, .int .i64 x46), (4, .func (.func 50) #[] #[]), (10, .bool x7), (11, .bool x8), (12, .int .i64 (w64 (x5 - x4)))] ∧ V11.le V' ∧ Ow V' (.os RT_Torder_node v1 xs45 :: Rs) ∧ slices_pdqsortCmpFunc_k1 rec_ x4 x5 x7 x8 xs45 x46 = some q15) ?_ ?_
   ·rintro _ V47 ⟨xs45, x46, rfl, le48, ow49, h50⟩
    unfold slices_pdqsortCmpFunc_k1 at h50
    refine WP.usreg rfl ?_
    refine U.p rfl rfl (.inl rfl) (S.move rfl (L 0 rfl rfl)) ?_
    refine U.p rfl rfl (.inl rfl) (S.move rfl (L 2 rfl rfl)) ?_
    refine U.p rfl rfl (.inl rfl) (S.move rfl (L 4 rfl rfl)) ?_
    refine U.p rfl rfl (.inl rfl) (S.move rfl (L 7 rfl rfl)) ?_
    obtain ⟨x51, hx52, h53⟩ := bindS h50
    refine O.call (V := V47) rfl rfl (.inl rfl) rfl en64 (aC (L 3 rfl rfl) (aC (L 2 rfl rfl) (aC (L 1 rfl rfl) (aC (L 0 rfl rfl) aN)))) (wk_slices_choosePivotCmpFunc V47 _ xs45 x4 x5 v1 ow49 _ hx52) (fun _ _ _ _ => nd) (fun v54 V55 le56 hp57 => ?_)
    obtain ⟨rfl, ow58⟩ := hp57
    refine U.p rfl rfl (.inl rfl) (S.move rfl (L 0 rfl rfl)) ?_
    refine U.p rfl rfl (.inl rfl) (S.extract rfl (L 0 rfl rfl) rfl (Nat.le_of_ble_eq_true rfl)) ?_
    refine U.p rfl rfl (.inl rfl) (S.extract rfl (L 1 rfl rfl) rfl (Nat.le_of_ble_eq_true rfl)) ?_
    refine U.p rfl rfl (.inl rfl) (S.assign rfl (L 1 rfl rfl)) ?_
    refine U.p rfl rfl (.inl rfl) (S.assign rfl (L 1 rfl rfl)) ?_
    refine U.done (Nat.le_of_ble_eq_true rfl) ?_
    refine WP.seqI (fun l V' => ∃ (xs59 : List Torder_node) (x60 : Int) (x61 : Int), l = [(0, v1), (1, .int .i64 x4), (2, .int .i64 x5), (3, .int .i64 x46), (4, .func (.func 50) #[] #[]), (10, .bool x7), (11, .bool x8), (12, .int .i64 (w64 (x5 - x4))), (13, .int .i64 x60), (14, .int .i64 x61)] ∧ V55.le V' ∧ Ow V' (.os RT_Torder_node v1 xs59 :: Rs) ∧ slices_pdqsortCmpFunc_k2 rec_ x4 x5 x7 x8 x46 xs59 x60 x61 = some q15) ?_ ?_
    ·rintro _ V62 ⟨xs59, x60, x61, rfl, le63, ow64, h65⟩
     unfold slices_pdqsortCmpFunc_k2 at h65
     refine WP.seqI (fun l V' => ∃ (xs66 : List Torder_node), l = [(0, v1), (1, .int .i64 x4), (2, .int .i64 x5), (3, .int .i64 x46), (4, .func (.func 50) #[] #[]), (10, .bool x7), (11, .bool x8), (12, .int .i64 (w64 (x5 - x4))), (13, .int .i64 x60)] ∧ V62.le V' ∧ Ow V' (.os RT_Torder_node v1 xs66 :: Rs) ∧ slices_pdqsortCmpFunc_k3 rec_ x4 x5 x7 x8 x46 x60 xs66 = some q15) ?_ ?_
     ·rintro _ V67 ⟨xs66, rfl, le68, ow69, h70⟩
      unfold slices_pdqsortCmpFunc_k3 at h70
      refine WP.seq ?_
      refine WP.seqI (fun l V' => ∃ (x71 : Bool), l = [(0, v1), (1, .int .i64 x4), (2, .int .i64 x5), (3, .int .i64 x46), (4, .func (.func 50) #[] #[]), (10, .bool x7), (11, .bool x8), (12, .int .i64 (w64 (x5 - x4))), (13, .int .i64 x60), (97, .bool x71)] ∧ V67.le V' ∧ Ow V' (.os RT_Torder_node v1 xs66 :: Rs) ∧ slices_pdqsortCmpFunc_k4 rec_ x4 x5 x7 x8 x46 x60 xs66 x71 = some q15) ?_ ?_
      ·rintro _ V72 ⟨x71, rfl, le73, ow74, h75⟩
       unfold slices_pdqsortCmpFunc_k4 at h75
       refine WP.cond _ (L 9 rfl rfl) rfl (fun c76 => ?_) (fun c76 => ?_)
       ·have h77 := ifT c76 h75
        refine WP.usreg rfl ?_
        refine U.p rfl rfl (.inl rfl) (S.move rfl (L 0 rfl rfl)) ?_
        refine U.p rfl rfl (.inl rfl) (S.move rfl (L 2 rfl rfl)) ?_
        refine U.p rfl rfl (.inl rfl) (S.move rfl (L 4 rfl rfl)) ?_
        refine U.p rfl rfl (.inl rfl) (S.move rfl (L 11 rfl rfl)) ?_
        refine U.p rfl rfl (.inl rfl) (S.move rfl (L 8 rfl rfl)) ?_
        obtain ⟨x78, hx79, h80⟩ := bindS h77
        refine O.call (V := V72) rfl rfl (.inl rfl) rfl en67 (aC (L 4 rfl rfl) (aC (L 3 rfl rfl) (aC (L 2 rfl rfl) (aC (L 1 rfl rfl) (aC (L 0 rfl rfl) aN))))) (wk_slices_partitionEqualCmpFunc V72 _ xs66 x4 x5 x60 v1 ow74 _ hx79) (fun _ _ _ _ => nd) (fun v81 V82 le83 hp84 => ?_)
        obtain ⟨rfl, ow85⟩ := hp84
        refine U.p rfl rfl (.inl rfl) (S.assign rfl (L 0 rfl rfl)) ?_
        refine U.done (Nat.le_of_ble_eq_true rfl) ?_
        refine WP.usreg rfl ?_
        refine U.p rfl rfl (.inl rfl) (S.move rfl (L 0 rfl rfl)) ?_
        refine U.p rfl rfl (.inl rfl) (S.assign rfl (L 0 rfl rfl)) ?_
        refine U.done (Nat.le_of_ble_eq_true rfl) ?_
        refine WP.exit ?_
        refine sqE (blkE (sqN ?_))
        exact ⟨_, V82, rfl, ⟨m14, Nat.lt_succ_self _, x78.2, x78.1, x5, x46, x7, x8, rfl, ((((((le12.trans le48).trans le56).trans le63).trans le68).trans le73).trans le83), ow85, backS h80 e16⟩, (allCons (L 9 rfl rfl) (allCons (L 0 rfl rfl) (allCons (L 11 rfl rfl) (allCons (L 12 rfl rfl) (allCons (L 13 rfl rfl) (allCons (L 14 rfl rfl) (allCons (L 15 rfl rfl) allNil)))))))⟩
       ·have h86 := ifF c76 h75
        refine WP.skip ?_
        refine sqN ?_
        refine WP.usreg rfl ?_
        refine U.p rfl rfl (.inl rfl) (S.move rfl (L 0 rfl rfl)) ?_
        refine U.p rfl rfl (.inl rfl) (S.move rfl (L 2 rfl rfl)) ?_
        refine U.p rfl rfl (.inl rfl) (S.move rfl (L 4 rfl rfl)) ?_
        refine U.p rfl rfl (.inl rfl) (S.move rfl (L 11 rfl rfl)) ?_
        refine U.p rfl rfl (.inl rfl) (S.move rfl (L 8 rfl rfl)) ?_
        obtain ⟨x87, hx88, h89⟩ := bindS h86
        refine O.call (V := V72) rfl rfl (.inl rfl) rfl en68 (aC (L 4 rfl rfl) (aC (L 3 rfl rfl) (aC (L 2 rfl rfl) (aC (L 1 rfl rfl) (aC (L 0 rfl rfl) aN))))) (wk_slices_partitionCmpFunc V72 _ xs66 x4 x5 x60 v1 ow74 _ hx88) (fun _ _ _ _ => nd) (fun v90 V91 le92 hp93 => ?_)
        obtain ⟨rfl, ow94⟩ := hp93
        refine U.p rfl rfl (.inl rfl) (S.move rfl (L 0 rfl rfl)) ?_
        refine U.p rfl rfl (.inl rfl) (S.extract rfl (L 0 rfl rfl) rfl (Nat.le_of_ble_eq_true rfl)) ?_
        refine U.p rfl rfl (.inl rfl) (S.extract rfl (L 1 rfl rfl) rfl (Nat.le_of_ble_eq_true rfl)) ?_
        refine U.p rfl rfl (.inl rfl) (S.assign rfl (L 1 rfl rfl)) ?_
        refine U.p rfl rfl (.inl rfl) (S.assign rfl (L 1 rfl rfl)) ?_
        refine U.done (Nat.le_of_ble_eq_true rfl) ?_
        refine WP.usreg rfl ?_
        refine U.p rfl rfl (.inl rfl) (S.move rfl (L 0 rfl rfl)) ?_
        refine U.p rfl rfl (.inl rfl) (S.assign rfl (L 0 rfl rfl)) ?_
        refine U.done (Nat.le_of_ble_eq_true rfl) ?_
        refine WP.usreg rfl ?_
        refine U.p rfl rfl (.inl rfl) (S.move rfl (L 3 rfl rfl)) ?_
        refine U.p rfl rfl (.inl rfl) (S.move rfl (L 15 rfl rfl)) ?_
        refine U.p rfl rfl (.inl rfl) (S.sub rfl (L 1 rfl rfl) (L 0 rfl rfl)) ?_
        refine U.p rfl rfl (.inl rfl) (S.move rfl (L 18 rfl rfl)) ?_
        refine U.p rfl rfl (.inl rfl) (S.move rfl (L 7 rfl rfl)) ?_
        refine U.p rfl rfl (.inl rfl) (S.sub rfl (L 1 rfl rfl) (L 0 rfl rfl)) ?_
        refine U.p rfl rfl (.inl rfl) (S.assign rfl (L 3 rfl rfl)) ?_
        refine U.p rfl rfl (.inl rfl) (S.assign rfl (L 1 rfl rfl)) ?_
        refine U.done (Nat.le_of_ble_eq_true rfl) ?_
        refine WP.usreg rfl ?_
        refine U.p rfl rfl (.inl rfl) (S.move rfl (L 28 rfl rfl)) ?_
        obtain ⟨x95, hx96, h97⟩ := bindS h89
        refine U.p rfl rfl (.inl rfl) (S.quo hx96 rfl (L 0 rfl rfl) K) ?_
        refine U.p rfl rfl (.inl rfl) (S.assign rfl (L 0 rfl rfl)) ?_
        refine U.done (Nat.le_of_ble_eq_true rfl) ?_
        refine WP.usreg rfl ?_
        refine U.p rfl rfl (.inl rfl) (S.move rfl (L 4 rfl rfl)) ?_
        refine U.p rfl rfl (.inl rfl) (S.move rfl (L 4 rfl rfl)) ?_
        refine U.p rfl rfl (.inl rfl) (S.lss rfl (L 1 rfl rfl) (L 0 rfl rfl)) ?_
        refine U.done (Nat.le_of_ble_eq_true rfl) ?_
        refine WP.cond _ (L 0 rfl rfl) rfl (fun c98 => ?_) (fun c98 => ?_)
        ·have h99 := ifT c98 h97
         refine WP.usreg rfl ?_
         refine U.p rfl rfl (.inl rfl) (S.move rfl (L 7 rfl rfl)) ?_
         refine U.p rfl rfl (.inl rfl) (S.move rfl (L 4 rfl rfl)) ?_
         refine U.p rfl rfl (.inl rfl) (S.geq rfl (L 1 rfl rfl) (L 0 rfl rfl)) ?_
         refine U.p rfl rfl (.inl rfl) (S.assign rfl (L 0 rfl rfl)) ?_
         refine U.done (Nat.le_of_ble_eq_true rfl) ?_
         refine WP.usreg rfl ?_
         refine U.p rfl rfl (.inl rfl) (S.move rfl (L 31 rfl rfl)) ?_
         refine U.p rfl rfl (.inl rfl) (S.move rfl (L 33 rfl rfl)) ?_
         refine U.p rfl rfl (.inl rfl) (S.move rfl (L 23 rfl rfl)) ?_
         refine U.p rfl rfl (.inl rfl) (S.move rfl (L 37 rfl rfl)) ?_
         refine U.p rfl rfl (.inl rfl) (S.move rfl (L 39 rfl rfl)) ?_
         obtain ⟨x100, hx101, h102⟩ := bindS h99
         refine O.call (V := V91) rfl rfl (.inl rfl) rfl en58 (aC (L 4 rfl rfl) (aC (L 3 rfl rfl) (aC (L 2 rfl rfl) (aC (L 1 rfl rfl) (aC (L 0 rfl rfl) aN))))) (IH V91 _ x87.2.2 x4 x87.1 x46 v1 ow94 _ hx101) (fun _ _ _ _ => nd) (fun v103 V104 le105 hp106 => ?_)
         have ow107 := hp106
         refine U.done (Nat.le_of_ble_eq_true rfl) ?_
         refine WP.ureg rfl ?_
         refine U.p rfl rfl (.inl rfl) (S.move rfl (L 27 rfl rfl)) ?_
         refine U.p rfl rfl (.inl rfl) (S.add rfl (L 0 rfl rfl) K) ?_
         refine U.p rfl rfl (.inl rfl) (S.assign rfl (L 0 rfl rfl)) ?_
         refine U.done (Nat.le_of_ble_eq_true rfl) ?_
         refine blkN (sqN ?_)
         exact ⟨_, V104, rfl, ⟨m14, Nat.lt_succ_self _, x100, w64 (x87.1 + 1), x5, x46, decide (x95 ≤ (w64 (x87.1 - x4))), x87.2.1, rfl, (((((((le12.trans le48).trans le56).trans le63).trans le68).trans le73).trans le92).trans le105), ow107, backS h102 e16⟩, (allCons (L 40 rfl rfl) (allCons (L 0 rfl rfl) (allCons (L 42 rfl rfl) (allCons (L 43 rfl rfl) (allCons (L 44 rfl rfl) (allCons (L 9 rfl rfl) (allCons (L 27 rfl rfl) allNil)))))))⟩
        ·have h108 := ifF c98 h97
         refine WP.usreg rfl ?_
         refine U.p rfl rfl (.inl rfl) (S.move rfl (L 6 rfl rfl)) ?_
         refine U.p rfl rfl (.inl rfl) (S.move rfl (L 4 rfl rfl)) ?_
         refine U.p rfl rfl (.inl rfl) (S.geq rfl (L 1 rfl rfl) (L 0 rfl rfl)) ?_
         refine U.p rfl rfl (.inl rfl) (S.assign rfl (L 0 rfl rfl)) ?_
         refine U.done (Nat.le_of_ble_eq_true rfl) ?_
         refine WP.usreg rfl ?_
         refine U.p rfl rfl (.inl rfl) (S.move rfl (L 31 rfl rfl)) ?_
         refine U.p rfl rfl (.inl rfl) (S.move rfl (L 22 rfl rfl)) ?_
         refine U.p rfl rfl (.inl rfl) (S.add rfl (L 0 rfl rfl) K) ?_
         refine U.p rfl rfl (.inl rfl) (S.move rfl (L 36 rfl rfl)) ?_
         refine U.p rfl rfl (.inl rfl) (S.move rfl (L 38 rfl rfl)) ?_
         refine U.p rfl rfl (.inl rfl) (S.move rfl (L 40 rfl rfl)) ?_
         obtain ⟨x109, hx110, h111⟩ := bindS h108
         refine O.call (V := V91) rfl rfl (.inl rfl) rfl en58 (aC (L 5 rfl rfl) (aC (L 3 rfl rfl) (aC (L 2 rfl rfl) (aC (L 1 rfl rfl) (aC (L 0 rfl rfl) aN))))) (IH V91 _ x87.2.2 (w64 (x87.1 + 1)) x5 x46 v1 ow94 _ hx110) (fun _ _ _ _ => nd) (fun v112 V113 le114 hp115 => ?_)
         have ow116 := hp115
         refine U.done (Nat.le_of_ble_eq_true rfl) ?_
         refine WP.ureg rfl ?_
         refine U.p rfl rfl (.inl rfl) (S.move rfl (L 28 rfl rfl)) ?_
         refine U.p rfl rfl (.inl rfl) (S.assign rfl (L 0 rfl rfl)) ?_
         refine U.done (Nat.le_of_ble_eq_true rfl) ?_
         refine blkN (sqN ?_)
         exact ⟨_, V113, rfl, ⟨m14, Nat.lt_succ_self _, x109, x4, x87.1, x46, decide (x95 ≤ (w64 (x5 - x87.1))), x87.2.1, rfl, (((((((le12.trans le48).trans le56).trans le63).trans le68).trans le73).trans le92).trans le114), ow116, backS h111 e16⟩, (allCons (L 40 rfl rfl) (allCons (L 41 rfl rfl) (allCons (L 0 rfl rfl) (allCons (L 43 rfl rfl) (allCons (L 44 rfl rfl) (allCons (L 9 rfl rfl) (allCons (L 27 rfl rfl) allNil)))))))⟩
      ·skip
       refine WP.udreg rfl rfl rfl ?_
       refine U.p rfl rfl (.inl rfl) (S.move rfl (L 1 rfl rfl)) ?_
       refine U.p rfl rfl (.inl rfl) (S.gtr rfl (L 0 rfl rfl) K) ?_
       refine U.p rfl rfl (.inl rfl) (S.move rfl (L 0 rfl rfl)) ?_
       refine bcase (b := decide (0 < x4)) (fun g117 => ?_) (fun g117 => ?_)
       ·have h118 := ifT g117 h70
        refine U.p rfl rfl (.inr ⟨_, _, _, rfl, rfl, ((L 0 rfl rfl).trans (congrArg Value.bool g117))⟩) (S.move rfl (L 7 rfl rfl)) ?_
        refine U.p rfl rfl (.inr ⟨_, _, _, rfl, rfl, ((L 1 rfl rfl).trans (congrArg Value.bool g117))⟩) (S.move rfl (L 4 rfl rfl)) ?_
        refine U.p rfl rfl (.inr ⟨_, _, _, rfl, rfl, ((L 2 rfl rfl).trans (congrArg Value.bool g117))⟩) (S.move rfl (L 6 rfl rfl)) ?_
        refine U.p rfl rfl (.inr ⟨_, _, _, rfl, rfl, ((L 3 rfl rfl).trans (congrArg Value.bool g117))⟩) (S.sub rfl (L 0 rfl rfl) K) ?_
        obtain ⟨x119, hx120, h121⟩ := bindS h118
        obtain ⟨b122, o123, n124, c125, hv126⟩ := ow69.ospt (k := 0) rfl hx120
        obtain ⟨_, hv127, _⟩ := ow69.osel (k := 0) rfl hv126 hx120
        refine U.p rfl rfl (.inr ⟨_, _, _, rfl, rfl, ((L 4 rfl rfl).trans (congrArg Value.bool g117))⟩) (S.index rfl ((L 2 rfl rfl).trans hv127) (L 0 rfl rfl) Try.underlying38 ti45 (ix_ge hx120) (ix_lt hx120)) ?_
        obtain ⟨cs128, hv129, hlt130, hr131, hc132⟩ := ow69.osel (k := 0) rfl hv126 hx120
        obtain rfl : cs128 = [.int .i64 x119.e.t, .int .i64 x119.e.act.kind, .int .i64 x119.e.act.at_, .int .i64 x119.e.act.val, .int .i64 x119.e.act.what, .bool x119.e.act.volatile, .bool x119.e.act.final, .int .i64 x119.e.rf, .int .i64 x119.e.id, .int .i64 x119.at_] := hr131
        refine U.k rfl rfl (.inr ⟨_, _, _, rfl, rfl, ((L 5 rfl rfl).trans (congrArg Value.bool g117))⟩) (S.loadN (cs := [.int .i64 x119.e.t, .int .i64 x119.e.act.kind, .int .i64 x119.e.act.at_, .int .i64 x119.e.act.val, .int .i64 x119.e.act.what, .bool x119.e.act.volatile, .bool x119.e.act.final, .int .i64 x119.e.rf, .int .i64 x119.e.id, .int .i64 x119.at_]) rfl (L 0 rfl rfl) Try.underlying45 rfl ti45 rfl hc132) (fun _ => (okH.nil (fun r h => by cases h; exact hlt130))) ?_
        refine U.p rfl rfl (.inr ⟨_, _, _, rfl, rfl, ((L 6 rfl rfl).trans (congrArg Value.bool g117))⟩) (S.move rfl (L 9 rfl rfl)) ?_
        refine U.p rfl rfl (.inr ⟨_, _, _, rfl, rfl, ((L 7 rfl rfl).trans (congrArg Value.bool g117))⟩) (S.move rfl (L 18 rfl rfl)) ?_
        obtain ⟨x133, hx134, h135⟩ := bindS h121
        obtain ⟨_, hv136, _⟩ := ow69.osel (k := 0) rfl hv126 hx134
        refine U.p rfl rfl (.inr ⟨_, _, _, rfl, rfl, ((L 8 rfl rfl).trans (congrArg Value.bool g117))⟩) (S.index rfl ((L 1 rfl rfl).trans hv136) (L 0 rfl rfl) Try.underlying38 ti45 (ix_ge hx134) (ix_lt hx134)) ?_
        obtain ⟨cs137, hv138, hlt139, hr140, hc141⟩ := ow69.osel (k := 0) rfl hv126 hx134
        obtain rfl : cs137 = [.int .i64 x133.e.t, .int .i64 x133.e.act.kind, .int .i64 x133.e.act.at_, .int .i64 x133.e.act.val, .int .i64 x133.e.act.what, .bool x133.e.act.volatile, .bool x133.e.act.final, .int .i64 x133.e.rf, .int .i64 x133.e.id, .int .i64 x133.at_] := hr140
        refine U.k rfl rfl (.inr ⟨_, _, _, rfl, rfl, ((L 9 rfl rfl).trans (congrArg Value.bool g117))⟩) (S.loadN (cs := [.int .i64 x133.e.t, .int .i64 x133.e.act.kind, .int .i64 x133.e.act.at_, .int .i64 x133.e.act.val, .int .i64 x133.e.act.what, .bool x133.e.act.volatile, .bool x133.e.act.final, .int .i64 x133.e.rf, .int .i64 x133.e.id, .int .i64 x133.at_]) rfl (L 0 rfl rfl) Try.underlying45 rfl ti45 rfl hc141) (fun _ => (okH.cons trivial (okH.nil (fun r h => by cases h; exact hlt139)))) ?_
        obtain ⟨x142, hx143, h144⟩ := bindS h135
        refine O.callv (V := V67) rfl rfl (.inr ⟨_, _, _, rfl, rfl, ((L 10 rfl rfl).trans (congrArg Value.bool g117))⟩) rfl (L 9 rfl rfl) en50 (aC (L 4 rfl rfl) (aC (L 0 rfl rfl) aN)) (wk_order_Run_Apart_c2 V67 _ x119 x133 ow69 _ hx143) (fun v145 V146 le147 hp148 => by obtain ⟨rfl, ow149⟩ := hp148; exact (fun _ => (okH.cons (Or.inl rfl) (okH.cons (Or.inl rfl) (okH.nil (fun r h => nomatch h)))))) (fun v145 V146 le147 hp148 => ?_)
        obtain ⟨rfl, ow149⟩ := hp148
        refine U.p rfl rfl (.inr ⟨_, _, _, rfl, rfl, ((L 11 rfl rfl).trans (congrArg Value.bool g117))⟩) (S.lss rfl (L 0 rfl rfl) K) ?_
        refine U.p rfl rfl (.inr ⟨_, _, _, rfl, rfl, ((L 12 rfl rfl).trans (congrArg Value.bool g117))⟩) (S.not rfl (L 0 rfl rfl)) ?_
        refine U.p rfl rfl (.inl rfl) (S.pickT rfl ((L 13 rfl rfl).trans (congrArg Value.bool g117)) (L 0 rfl rfl)) ?_
        refine U.done (Nat.le_of_ble_eq_true rfl) ?_
        refine sqN ?_
        exact ⟨_, V146, rfl, ⟨!(decide (x142 < 0)), rfl, le147, ow149, h144⟩, (allCons (L 17 rfl rfl) (allCons (L 18 rfl rfl) (allCons (L 19 rfl rfl) (allCons (L 20 rfl rfl) (allCons (L 21 rfl rfl) (allCons (L 22 rfl rfl) (allCons (L 23 rfl rfl) (allCons (L 24 rfl rfl) (allCons (L 25 rfl rfl) (allCons (L 0 rfl rfl) allNil))))))))))⟩
       ·have h150 := ifF g117 h70
        refine U.x rfl rfl rfl rfl ((L 0 rfl rfl).trans (congrArg Value.bool g117)) (by decide) ?_
        refine U.x rfl rfl rfl rfl ((L 1 rfl rfl).trans (congrArg Value.bool g117)) (by decide) ?_
        refine U.x rfl rfl rfl rfl ((L 2 rfl rfl).trans (congrArg Value.bool g117)) (by decide) ?_
        refine U.x rfl rfl rfl rfl ((L 3 rfl rfl).trans (congrArg Value.bool g117)) (by decide) ?_
        refine U.x rfl rfl rfl rfl ((L 4 rfl rfl).trans (congrArg Value.bool g117)) (by decide) ?_
        refine U.x rfl rfl rfl rfl ((L 5 rfl rfl).trans (congrArg Value.bool g117)) (by decide) ?_
        refine U.x rfl rfl rfl rfl ((L 6 rfl rfl).trans (congrArg Value.bool g117)) (by decide) ?_
        refine U.x rfl rfl rfl rfl ((L 7 rfl rfl).trans (congrArg Value.bool g117)) (by decide) ?_
        refine U.x rfl rfl rfl rfl ((L 8 rfl rfl).trans (congrArg Value.bool g117)) (by decide) ?_
        refine U.x rfl rfl rfl rfl ((L 9 rfl rfl).trans (congrArg Value.bool g117)) (by decide) ?_
        refine U.x rfl rfl rfl rfl ((L 10 rfl rfl).trans (congrArg Value.bool g117)) (by decide) ?_
        refine U.x rfl rfl rfl rfl ((L 11 rfl rfl).trans (congrArg Value.bool g117)) (by decide) ?_
        refine U.x rfl rfl rfl rfl ((L 12 rfl rfl).trans (congrArg Value.bool g117)) (by decide) ?_
        refine U.p rfl rfl (.inl rfl) (S.pickF rfl ((L 13 rfl rfl).trans (congrArg Value.bool g117)) K) ?_
        refine U.done (Nat.le_of_ble_eq_true rfl) ?_
        refine sqN ?_
        exact ⟨_, V67, rfl, ⟨false, rfl, (.refl _), ow69, h150⟩, (allCons (L 17 rfl rfl) (allCons (L 18 rfl rfl) (allCons (L 19 rfl rfl) (allCons (L 20 rfl rfl) (allCons (L 21 rfl rfl) (allCons (L 22 rfl rfl) (allCons (L 23 rfl rfl) (allCons (L 24 rfl rfl) (allCons (L 25 rfl rfl) (allCons (L 0 rfl rfl) allNil))))))))))⟩
     ·skip
      refine WP.usreg rfl ?_
      refine U.p rfl rfl (.inl rfl) (S.move rfl (L 5 rfl rfl)) ?_
      refine U.p rfl rfl (.inl rfl) (S.move rfl (L 0 rfl rfl)) ?_
      refine U.joinX 4 (fun e H => ∃ (u151 : Value), H = V62.H ∧ e = [(71, .bool (x7 && x8)), (70, u151)]) ?_ ?_
      ·rintro _ _ ⟨u151, rfl, rfl⟩
       refine U.p rfl rfl (.inl rfl) (S.move rfl (L 0 rfl rfl)) ?_
       refine U.joinX 8 (fun e H => ∃ (u155 u156 : Value), H = V62.H ∧ e = [(75, .bool ((x7 && x8) && (decide (x61 = 1)))), (74, u155), (73, u156)]) ?_ ?_
       ·rintro _ _ ⟨u155, u156, rfl, rfl⟩
        refine U.done (Nat.le_of_ble_eq_true rfl) ?_
        refine WP.cond _ (L 0 rfl rfl) rfl (fun c160 => ?_) (fun c160 => ?_)
        ·have h161 := ifT c160 h65
         refine WP.usreg rfl ?_
         refine U.p rfl rfl (.inl rfl) (S.move rfl (L 8 rfl rfl)) ?_
         refine U.p rfl rfl (.inl rfl) (S.move rfl (L 10 rfl rfl)) ?_
         refine U.p rfl rfl (.inl rfl) (S.move rfl (L 12 rfl rfl)) ?_
         refine U.p rfl rfl (.inl rfl) (S.move rfl (L 15 rfl rfl)) ?_
         obtain ⟨x162, hx163, h164⟩ := bindS h161
         refine O.call (V := V62) rfl rfl (.inl rfl) rfl en66 (aC (L 3 rfl rfl) (aC (L 2 rfl rfl) (aC (L 1 rfl rfl) (aC (L 0 rfl rfl) aN)))) (wk_slices_partialInsertionSortCmpFunc V62 _ xs59 x4 x5 v1 ow64 _ hx163) (fun _ _ _ _ => nd) (fun v165 V166 le167 hp168 => ?_)
         obtain ⟨rfl, ow169⟩ := hp168
         refine U.done (Nat.le_of_ble_eq_true rfl) ?_
         refine WP.cond _ (L 0 rfl rfl) rfl (fun c170 => ?_) (fun c170 => ?_)
         ·have h171 := ifT c170 h164
          refine WP.ret ?_
          refine sqR (blkR (sqR (blkR ?_)))
          have h172 := exitS h171 e16
          refine fin.slots' (.inr rfl) fsN rfl ⟨V166, rfl, ((((le12.trans le48).trans le56).trans le63).trans le167), ?_⟩
          have e173 := Option.some.inj h172
          subst e173
          exact ow169
         ·have h174 := ifF c170 h164
          refine WP.skip ?_
          refine sqN ?_
          exact ⟨_, V166, rfl, ⟨x162.2, rfl, le167, ow169, h174⟩, (allCons (L 13 rfl rfl) (allCons (L 14 rfl rfl) (allCons (L 15 rfl rfl) (allCons (L 16 rfl rfl) (allCons (L 17 rfl rfl) (allCons (L 18 rfl rfl) (allCons (L 19 rfl rfl) (allCons (L 20 rfl rfl) (allCons (L 21 rfl rfl) allNil)))))))))⟩
        ·have h175 := ifF c160 h65
         refine WP.skip ?_
         refine sqN ?_
         exact ⟨_, V62, rfl, ⟨xs59, rfl, (.refl _), ow64, h175⟩, (allCons (L 8 rfl rfl) (allCons (L 9 rfl rfl) (allCons (L 10 rfl rfl) (allCons (L 11 rfl rfl) (allCons (L 12 rfl rfl) (allCons (L 13 rfl rfl) (allCons (L 14 rfl rfl) (allCons (L 15 rfl rfl) (allCons (L 16 rfl rfl) allNil)))))))))⟩
       ·intro kk
        refine bcase (b := x7 && x8) (fun g176 => ?_) (fun g176 => ?_)
        ·skip
         refine U.p rfl rfl (.inr ⟨_, _, _, rfl, rfl, ((L 0 rfl rfl).trans (congrArg Value.bool g176))⟩) (S.move rfl (L 14 rfl rfl)) ?_
         refine U.p rfl rfl (.inr ⟨_, _, _, rfl, rfl, ((L 1 rfl rfl).trans (congrArg Value.bool g176))⟩) (S.eqlI rfl (L 0 rfl rfl) K) ?_
         refine U.p rfl rfl (.inl rfl) (S.pickT rfl ((L 2 rfl rfl).trans (congrArg Value.bool g176)) (L 0 rfl rfl)) ?_
         exact kk [(75, .bool (decide (x61 = 1))), (74, .bool (decide (x61 = 1))), (73, .int .i64 x61)] _ ⟨.bool (decide (x61 = 1)), .int .i64 x61, rfl, (by rw [g176, Bool.true_and])⟩
        ·skip
         refine U.x rfl rfl rfl rfl ((L 0 rfl rfl).trans (congrArg Value.bool g176)) (by decide) ?_
         refine U.x rfl rfl rfl rfl ((L 1 rfl rfl).trans (congrArg Value.bool g176)) (by decide) ?_
         refine U.p rfl rfl (.inl rfl) (S.pickF rfl ((L 2 rfl rfl).trans (congrArg Value.bool g176)) K) ?_
         exact kk [(75, .bool false), (74, .tuple #[]), (73, .tuple #[])] _ ⟨.tuple #[], .tuple #[], rfl, (by rw [g176, Bool.false_and])⟩
      ·intro kk
       refine bcase (b := x7) (fun g177 => ?_) (fun g177 => ?_)
       ·skip
        refine U.p rfl rfl (.inr ⟨_, _, _, rfl, rfl, ((L 0 rfl rfl).trans (congrArg Value.bool g177))⟩) (S.move rfl (L 8 rfl rfl)) ?_
        refine U.p rfl rfl (.inl rfl) (S.pickT rfl ((L 1 rfl rfl).trans (congrArg Value.bool g177)) (L 0 rfl rfl)) ?_
        exact kk [(71, .bool x8), (70, .bool x8)] _ ⟨.bool x8, rfl, (by rw [g177, Bool.true_and])⟩
       ·skip
        refine U.x rfl rfl rfl rfl ((L 0 rfl rfl).trans (congrArg Value.bool g177)) (by decide) ?_
        refine U.p rfl rfl (.inl rfl) (S.pickF rfl ((L 1 rfl rfl).trans (congrArg Value.bool g177)) K) ?_
        exact kk [(71, .bool false), (70, .tuple #[])] _ ⟨.tuple #[], rfl, (by rw [g177, Bool.false_and])⟩
    ·skip
     refine WP.usreg rfl ?_
     refine U.p rfl rfl (.inl rfl) (S.move rfl (L 0 rfl rfl)) ?_
     refine U.p rfl rfl (.inl rfl) (S.eqlI rfl (L 0 rfl rfl) K) ?_
     refine U.done (Nat.le_of_ble_eq_true rfl) ?_
     refine WP.cond _ (L 0 rfl rfl) rfl (fun c178 => ?_) (fun c178 => ?_)
     ·have h179 := ifT c178 h53
      refine WP.usreg rfl ?_
      refine U.p rfl rfl (.inl rfl) (S.move rfl (L 12 rfl rfl)) ?_
      refine U.p rfl rfl (.inl rfl) (S.move rfl (L 14 rfl rfl)) ?_
      refine U.p rfl rfl (.inl rfl) (S.move rfl (L 16 rfl rfl)) ?_
      refine U.p rfl rfl (.inl rfl) (S.move rfl (L 19 rfl rfl)) ?_
      obtain ⟨x180, hx181, h182⟩ := bindS h179
      refine O.call (V := V55) rfl rfl (.inl rfl) rfl en65 (aC (L 3 rfl rfl) (aC (L 2 rfl rfl) (aC (L 1 rfl rfl) (aC (L 0 rfl rfl) aN)))) (wk_slices_reverseRangeCmpFunc V55 _ xs45 x4 x5 v1 ow58 _ hx181) (fun _ _ _ _ => nd) (fun v183 V184 le185 hp186 => ?_)
      have ow187 := hp186
      refine U.done (Nat.le_of_ble_eq_true rfl) ?_
      refine WP.usreg rfl ?_
      refine U.p rfl rfl (.inl rfl) (S.move rfl (L 19 rfl rfl)) ?_
      refine U.p rfl rfl (.inl rfl) (S.sub rfl (L 0 rfl rfl) K) ?_
      refine U.p rfl rfl (.inl rfl) (S.move rfl (L 10 rfl rfl)) ?_
      refine U.p rfl rfl (.inl rfl) (S.move rfl (L 21 rfl rfl)) ?_
      refine U.p rfl rfl (.inl rfl) (S.sub rfl (L 1 rfl rfl) (L 0 rfl rfl)) ?_
      refine U.p rfl rfl (.inl rfl) (S.sub rfl (L 3 rfl rfl) (L 0 rfl rfl)) ?_
      refine U.p rfl rfl (.inl rfl) (S.assign rfl (L 0 rfl rfl)) ?_
      refine U.done (Nat.le_of_ble_eq_true rfl) ?_
      refine WP.ureg rfl ?_
      refine U.p rfl rfl (.inl rfl) (S.assign rfl K) ?_
      refine U.done (Nat.le_of_ble_eq_true rfl) ?_
      refine sqN ?_
      exact ⟨_, V184, rfl, ⟨x180, w64 ((w64 (x5 - 1)) - (w64 (x51.1 - x4))), 1, rfl, le185, ow187, h182⟩, (allCons (L 25 rfl rfl) (allCons (L 26 rfl rfl) (allCons (L 27 rfl rfl) (allCons (L 28 rfl rfl) (allCons (L 29 rfl rfl) (allCons (L 30 rfl rfl) (allCons (L 31 rfl rfl) (allCons (L 32 rfl rfl) (allCons (L 1 rfl rfl) (allCons (L 0 rfl rfl) allNil))))))))))⟩
     ·have h188 := ifF c178 h53
      refine WP.skip ?_
      refine sqN ?_
      exact ⟨_, V55, rfl, ⟨xs45, x51.1, x51.2, rfl, (.refl _), ow58, h188⟩, (allCons (L 12 rfl rfl) (allCons (L 13 rfl rfl) (allCons (L 14 rfl rfl) (allCons (L 15 rfl rfl) (allCons (L 16 rfl rfl) (allCons (L 17 rfl rfl) (allCons (L 18 rfl rfl) (allCons (L 19 rfl rfl) (allCons (L 3 rfl rfl) (allCons (L 2 rfl rfl) allNil))))))))))⟩
   ·skip
    refine WP.usreg rfl ?_
    refine U.p rfl rfl (.inl rfl) (S.move rfl (L 13 rfl rfl)) ?_
    refine U.p rfl rfl (.inl rfl) (S.not rfl (L 0 rfl rfl)) ?_
    refine U.done (Nat.le_of_ble_eq_true rfl) ?_
    refine WP.cond _ (L 0 rfl rfl) rfl (fun c189 => ?_) (fun c189 => ?_)
    ·have h190 := ifT c189 h44
     have k191 : x7 = false := by simpa using c189
     refine WP.usreg rfl ?_
     refine U.p rfl rfl (.inl rfl) (S.move rfl (L 10 rfl rfl)) ?_
     refine U.p rfl rfl (.inl rfl) (S.move rfl (L 12 rfl rfl)) ?_
     refine U.p rfl rfl (.inl rfl) (S.move rfl (L 14 rfl rfl)) ?_
     refine U.p rfl rfl (.inl rfl) (S.move rfl (L 17 rfl rfl)) ?_
     obtain ⟨x192, hx193, h194⟩ := bindS h190
     refine O.call (V := V11) rfl rfl (.inl rfl) rfl en63 (aC (L 3 rfl rfl) (aC (L 2 rfl rfl) (aC (L 1 rfl rfl) (aC (L 0 rfl rfl) aN)))) (wk_slices_breakPatternsCmpFunc V11 _ xs3 x4 x5 v1 ow13 _ hx193) (fun _ _ _ _ => nd) (fun v195 V196 le197 hp198 => ?_)
     have ow199 := hp198
     refine U.done (Nat.le_of_ble_eq_true rfl) ?_
     refine WP.ureg rfl ?_
     refine U.p rfl rfl (.inl rfl) (S.move rfl (L 18 rfl rfl)) ?_
     refine U.p rfl rfl (.inl rfl) (S.sub rfl (L 0 rfl rfl) K) ?_
     refine U.p rfl rfl (.inl rfl) (S.assign rfl (L 0 rfl rfl)) ?_
     refine U.done (Nat.le_of_ble_eq_true rfl) ?_
     refine sqN ?_
     exact ⟨_, V196, rfl, ⟨x192, w64 (x6 - 1), rfl, le197, ow199, h194⟩, (allCons (L 18 rfl rfl) (allCons (L 19 rfl rfl) (allCons (L 20 rfl rfl) (allCons (L 0 rfl rfl) (allCons (L 22 rfl rfl) (allCons (L 23 rfl rfl) (allCons (L 24 rfl rfl) (allCons (L 14 rfl rfl) allNil))))))))⟩
    ·have h200 := ifF c189 h44
     have k201 : x7 = true := by simpa using c189
     refine WP.skip ?_
     refine sqN ?_
     exact ⟨_, V11, rfl, ⟨xs3, x6, rfl, (.refl _), ow13, h200⟩, (allCons (L 10 rfl rfl) (allCons (L 11 rfl rfl) (allCons (L 12 rfl rfl) (allCons (L 13 rfl rfl) (allCons (L 14 rfl rfl) (allCons (L 15 rfl rfl) (allCons (L 16 rfl rfl) (allCons (L 6 rfl rfl) allNil))))))))⟩
theorem wk_slices_pdqsortCmpFunc (V : Vw) (Rs : List At) (p0 : List Torder_node) (p1 : Int) (p2 : Int) (p3 : Int) (v1 : Value) (ow : Ow V (.os RT_Torder_node v1 p0 :: Rs)) (r : List Torder_node) (h : slices_pdqsortCmpFunc p0 p1 p2 p3 = some r) : ∃ v V', Cl Try.prog 0 58 #[v1, .int .i64 p1, .int .i64 p2, .int .i64 p3, .func (.func 50) #[] #[]] V.H v V'.H ∧ V.le V' ∧ (Ow V' (.os RT_Torder_node v1 r :: Rs)) := by
 have key : ∀ n, ∀ (V : Vw) (Rs : List At) (p0 : List Torder_node) (p1 : Int) (p2 : Int) (p3 : Int) (v1 : Value) (ow : Ow V (.os RT_Torder_node v1 p0 :: Rs)) (r : List Torder_node) (h : itF (fun rec_ a => slices_pdqsortCmpFunc_F (fun p0 p1 p2 p3 => rec_ (p0, p1, p2, p3)) a.1 a.2.1 a.2.2.1 a.2.2.2) n (p0, p1, p2, p3) = some r), ∃ v V', Cl Try.prog 0 58 #[v1, .int .i64 p1, .int .i64 p2, .int .i64 p3, .func (.func 50) #[] #[]] V.H v V'.H ∧ V.le V' ∧ (Ow V' (.os RT_Torder_node v1 r :: Rs)) := by
  intro n
  induction n with
  | zero => intro V Rs p0 p1 p2 p3 v1 ow r h; have h0 : (none : Option (List Torder_node)) = some r := h; cases h0
  | succ n ih => exact fun V Rs p0 p1 p2 p3 v1 ow r h => wks_slices_pdqsortCmpFunc (fun p0 p1 p2 p3 => itF (fun rec_ a => slices_pdqsortCmpFunc_F (fun p0 p1 p2 p3 => rec_ (p0, p1, p2, p3)) a.1 a.2.1 a.2.2.1 a.2.2.2) n (p0, p1, p2, p3)) ih V Rs p0 p1 p2 p3 v1 ow r h
 obtain ⟨n, hn⟩ := recO_some h
 exact key n V Rs p0 p1 p2 p3 v1 ow r hn

set_option maxHeartbeats 4000000 in
set_option maxRecDepth 10000 in
theorem wk_slices_SortFunc (V : Vw) (Rs : List At) (p0 : List Torder_node) (v1 : Value) (ow : Ow V (.os RT_Torder_node v1 p0 :: Rs)) (r : List Torder_node) (h : slices_SortFunc p0 = some r) : ∃ v V', Cl Try.prog 0 49 #[v1, .func (.func 50) #[] #[]] V.H v V'.H ∧ V.le V' ∧ (Ow V' (.os RT_Torder_node v1 r :: Rs)) := by
 refine Ct.of (Nat.zero_le _) Try.func49 rfl (Nat.le_of_ble_eq_true rfl) ?_
 unfold slices_SortFunc at h
 refine WP.usreg rfl ?_
 refine U.p rfl rfl (.inl rfl) (S.move rfl (L 0 rfl rfl)) ?_
 refine U.p rfl rfl (.inl rfl) (ow.oslen (k := 0) rfl rfl (L 0 rfl rfl) Try.underlying38) ?_
 refine U.p rfl rfl (.inl rfl) (S.assign rfl (L 0 rfl rfl)) ?_
 refine U.done (Nat.le_of_ble_eq_true rfl) ?_
 refine WP.ureg rfl ?_
 refine U.p rfl rfl (.inl rfl) (S.move rfl (L 3 rfl rfl)) ?_
 refine U.p rfl rfl (.inl rfl) (S.move rfl (L 1 rfl rfl)) ?_
 refine U.p rfl rfl (.inl rfl) (S.move rfl (L 2 rfl rfl)) ?_
 refine U.p rfl rfl (.inl rfl) (S.conv rfl (L 0 rfl rfl) Try.underlying3 Try.underlying34) ?_
 obtain ⟨x3, hx4, h5⟩ := bindS h
 refine O.call (V := V) rfl rfl (.inl rfl) rfl en59 (aC (L 0 rfl rfl) aN) (wk_math_bits_Len V _ (IntKind.wrap .u64 (p0.length : Int)) ow _ hx4) (fun _ _ _ _ => nd) (fun v6 V7 le8 hp9 => ?_)
 obtain ⟨rfl, ow10⟩ := hp9
 refine U.p rfl rfl (.inl rfl) (S.move rfl (L 9 rfl rfl)) ?_
 obtain ⟨x11, hx12, h13⟩ := bindS h5
 refine O.call (V := V7) rfl rfl (.inl rfl) rfl en58 (aC (L 5 rfl rfl) (aC K (aC (L 4 rfl rfl) (aC (L 1 rfl rfl) (aC (L 0 rfl rfl) aN))))) (wk_slices_pdqsortCmpFunc V7 _ p0 0 (p0.length : Int) x3 v1 ow10 _ hx12) (fun _ _ _ _ => nd) (fun v14 V15 le16 hp17 => ?_)
 have ow18 := hp17
 refine U.done (Nat.le_of_ble_eq_true rfl) ?_
 refine fin.slots' (.inl rfl) fsN rfl ⟨V15, rfl, (le8.trans le16), ?_⟩
 have e19 := Option.some.inj h13
 subst e19
 exact ow18

set_option maxHeartbeats 4000000 in
set_option maxRecDepth 10000 in
theorem wk_order_Run_Apart (V : Vw) (Rs : List At) (p0 : List (List TEvent)) (v1 : Value) (hs2 : List Value) (ow : Ow V (.oss (RO.os RT_TEvent) v1 hs2 p0 :: Rs)) (r : Bool) (h : order_Run_Apart p0 = some r) : ∃ v V', Cl Try.prog 0 19 #[v1] V.H v V'.H ∧ V.le V' ∧ (v = .bool r ∧ Ow V' (.oss (RO.os RT_TEvent) v1 hs2 p0 :: Rs)) := by
 refine Ct.of (Nat.zero_le _) Try.func19 rfl (Nat.le_of_ble_eq_true rfl) ?_
 unfold order_Run_Apart at h
 refine WP.usreg rfl ?_
 refine U.p rfl rfl (.inl rfl) (S.assign rfl K) ?_
 refine U.done (Nat.le_of_ble_eq_true rfl) ?_
 refine WP.usreg rfl ?_
 refine O.makeMap RT_TEvent true ow rfl rfl (.inl rfl) rfl (fun _ => nd) (fun v4 V5 le6 ow7 => ?_)
 refine U.p rfl rfl (.inl rfl) (S.assign rfl (L 0 rfl rfl)) ?_
 refine U.done (Nat.le_of_ble_eq_true rfl) ?_
 refine WP.usreg rfl ?_
 refine U.p rfl rfl (.inl rfl) (S.move rfl (L 3 rfl rfl)) ?_
 have ow9 := ow7.pick 1 rfl
 obtain ⟨x10, hx11, h12⟩ := bindS h
 refine O.call (V := V5) rfl rfl (.inl rfl) rfl en23 (aC (L 0 rfl rfl) (aC Fu aN)) (wk_order_Run_nodes_3 V5 _ p0 v1 hs2 ow9 _ hx11) (fun _ _ _ _ => nd) (fun v13 V14 le15 hp16 => ?_)
 obtain ⟨_, rfl, ow17⟩ := hp16
 refine U.p rfl rfl (.inl rfl) (S.assign rfl (L 0 rfl rfl)) ?_
 refine U.done (Nat.le_of_ble_eq_true rfl) ?_
 refine WP.usreg rfl ?_
 refine U.p rfl rfl (.inl rfl) (S.move rfl (L 0 rfl rfl)) ?_
 obtain ⟨x20, hx21, h22⟩ := bindS h12
 refine O.call (V := V14) rfl rfl (.inl rfl) rfl en49 (aC (L 0 rfl rfl) (aC Fu aN)) (wk_slices_SortFunc V14 _ x10 v13 ow17 _ hx21) (fun _ _ _ _ => nd) (fun v23 V24 le25 hp26 => ?_)
 have ow27 := hp26
 refine U.done (Nat.le_of_ble_eq_true rfl) ?_
 refine WP.seq ?_
 refine WP.usreg rfl ?_
 refine U.p rfl rfl (.inl rfl) (S.move rfl (L 2 rfl rfl)) ?_
 refine U.p rfl rfl (.inl rfl) (ow27.oslen (k := 0) rfl rfl (L 0 rfl rfl) Try.underlying38) ?_
 refine U.p rfl rfl (.inl rfl) (S.move rfl K) ?_
 refine U.done (Nat.le_of_ble_eq_true rfl) ?_
 refine WP.blk ?_
 have ow30 := ow27.pick 0 rfl
 have ow31 := ow30.pick 2 rfl
 have ow32 := ow31.pick 2 rfl
 unfold order_Run_Apart_l1 at h22
 obtain ⟨n34, hn33⟩ := loopO_some.1 h22
 refine WP.loopI2 (fun n l V' => ∃ (xs28 : List (Int × TEvent)) (x29 : Int), l = [(3, v4), (14, v13), (15, .int .i64 (x20.length : Int)), (16, .int .i64 x29)] ∧ V24.le V' ∧ Ow V' (.oss (RO.os RT_TEvent) v1 hs2 p0 :: .om RT_TEvent true v4 xs28 :: .os RT_Torder_node v13 x20 :: Rs) ∧ itO (fun s => order_Run_Apart_l1b x20 s.1 s.2) n (xs28, x29) = some r) n34 _ ⟨[], 0, rfl, .refl _, ow32, hn33⟩ (allCons (L 8 rfl rfl) (allCons (L 2 rfl rfl) (allCons (L 1 rfl rfl) (allCons (L 0 rfl rfl) allNil)))) ?_
 rintro _ _ V35 ⟨xs28, x29, rfl, le36, ow37, h41⟩
 obtain ⟨m38, q39, rfl, h42, e40⟩ := itS h41
 replace h42 : order_Run_Apart_l1b x20 xs28 x29 = some q39 := h42
 unfold order_Run_Apart_l1b at h42
 refine WP.usreg rfl ?_
 refine U.p rfl rfl (.inl rfl) (S.lss rfl (L 3 rfl rfl) (L 2 rfl rfl)) ?_
 refine U.done (Nat.le_of_ble_eq_true rfl) ?_
 refine WP.seq ?_
 refine WP.cond _ (L 0 rfl rfl) rfl (fun c43 => ?_) (fun c43 => ?_)
 ·have h44 := ifT c43 h42
  refine WP.skip ?_
  refine sqN ?_
  refine WP.seq ?_
  refine WP.blk ?_
  refine WP.usreg rfl ?_
  obtain ⟨x45, hx46, h47⟩ := bindS h44
  obtain ⟨b48, o49, n50, c51, hv52⟩ := ow37.ospt (k := 2) rfl hx46
  obtain ⟨_, hv53, _⟩ := ow37.osel (k := 2) rfl hv52 hx46
  refine U.p rfl rfl (.inl rfl) (S.index rfl ((L 2 rfl rfl).trans hv53) (L 4 rfl rfl) Try.underlying38 ti45 (ix_ge hx46) (ix_lt hx46)) ?_
  obtain ⟨cs54, hv55, hlt56, hr57, hc58⟩ := ow37.osel (k := 2) rfl hv52 hx46
  obtain rfl : cs54 = [.int .i64 x45.e.t, .int .i64 x45.e.act.kind, .int .i64 x45.e.act.at_, .int .i64 x45.e.act.val, .int .i64 x45.e.act.what, .bool x45.e.act.volatile, .bool x45.e.act.final, .int .i64 x45.e.rf, .int .i64 x45.e.id, .int .i64 x45.at_] := hr57
  refine U.k rfl rfl (.inl rfl) (S.loadN (cs := [.int .i64 x45.e.t, .int .i64 x45.e.act.kind, .int .i64 x45.e.act.at_, .int .i64 x45.e.act.val, .int .i64 x45.e.act.what, .bool x45.e.act.volatile, .bool x45.e.act.final, .int .i64 x45.e.rf, .int .i64 x45.e.id, .int .i64 x45.at_]) rfl (L 0 rfl rfl) Try.underlying45 rfl ti45 rfl hc58) nd ?_
  refine O.alloc ow37 rfl rfl (.inl rfl) rfl ti45 rfl rfl nd (fun b59 V60 le61 ow62 => ?_)
  refine O.store (k := 0) (cs := [.int .i64 x45.e.t, .int .i64 x45.e.act.kind, .int .i64 x45.e.act.at_, .int .i64 x45.e.act.val, .int .i64 x45.e.act.what, .bool x45.e.act.volatile, .bool x45.e.act.final, .int .i64 x45.e.rf, .int .i64 x45.e.id, .int .i64 x45.at_]) (c' := [.int .i64 x45.e.t, .int .i64 x45.e.act.kind, .int .i64 x45.e.act.at_, .int .i64 x45.e.act.val, .int .i64 x45.e.act.what, .bool x45.e.act.volatile, .bool x45.e.act.final, .int .i64 x45.e.rf, .int .i64 x45.e.id, .int .i64 x45.at_]) ow62 rfl rfl rfl (.inl rfl) rfl (L 0 rfl rfl) (L 1 rfl rfl) ti45 (by simp [topV]) rfl rfl (Nat.le_of_ble_eq_true rfl) rfl rfl nd (fun V64 le65 ow66 => ?_)
  refine U.done (Nat.le_of_ble_eq_true rfl) ?_
  refine WP.usreg rfl ?_
  refine U.p rfl rfl (.inl rfl) (S.move rfl (L 4 rfl rfl)) ?_
  refine U.p (v := .pointer (some ⟨b59, 0, none⟩)) rfl rfl (.inl rfl) (S.fieldAddr rfl (L 1 rfl rfl) Try.underlying45 rfl ti31 rfl rfl) ?_
  refine U.p (v := .pointer (some ⟨b59, 1, none⟩)) rfl rfl (.inl rfl) (S.fieldAddr rfl (L 0 rfl rfl) Try.underlying31 rfl ti29 rfl rfl) ?_
  refine U.p (v := .pointer (some ⟨b59, 2, none⟩)) rfl rfl (.inl rfl) (S.fieldAddr rfl (L 0 rfl rfl) Try.underlying29 rfl ti3 rfl rfl) ?_
  refine U.k rfl rfl (.inl rfl) (S.load rfl (L 0 rfl rfl) Try.underlying3 rfl ((ow66.own (k := 0) rfl).cell rfl)) nd ?_
  refine O.lookup2 (k := 2) (⟨0, (⟨0, 0, 0, 0, false, false⟩ : TAct), 0, 0⟩ : TEvent) ow66 rfl rfl rfl (.inl rfl) rfl (L 4 rfl rfl) (L 0 rfl rfl) Try.underlying62 Try.underlying3 ti31 rfl (agg_vrel rfl) (fun b67 hlt69 => nd) (fun b67 u68 hlt69 hr70 => ?_)
  obtain ⟨x72, hx73, h74⟩ := bindS h47
  rw [Option.some.inj hx73] at hr70
  obtain ⟨cs75, rfl, hc76⟩ := vrel_agg hr70
  obtain rfl : cs75 = #[.int .i64 x72.t, .int .i64 x72.act.kind, .int .i64 x72.act.at_, .int .i64 x72.act.val, .int .i64 x72.act.what, .bool x72.act.volatile, .bool x72.act.final, .int .i64 x72.rf, .int .i64 x72.id] := Array.ext' (show cs75.toList = [.int .i64 x72.t, .int .i64 x72.act.kind, .int .i64 x72.act.at_, .int .i64 x72.act.val, .int .i64 x72.act.what, .bool x72.act.volatile, .bool x72.act.final, .int .i64 x72.rf, .int .i64 x72.id] from hc76)
  refine U.p rfl rfl (.inl rfl) (S.move rfl (L 0 rfl rfl)) ?_
  refine U.p rfl rfl (.inl rfl) (S.extract rfl (L 0 rfl rfl) rfl (Nat.le_of_ble_eq_true rfl)) ?_
  refine U.p rfl rfl (.inl rfl) (S.extract rfl (L 1 rfl rfl) rfl (Nat.le_of_ble_eq_true rfl)) ?_
  refine O.alloc ow66 rfl rfl (.inl rfl) rfl ti31 rfl rfl nd (fun b77 V78 le79 ow80 => ?_)
  refine O.store (k := 0) (cs := [.int .i64 x72.t, .int .i64 x72.act.kind, .int .i64 x72.act.at_, .int .i64 x72.act.val, .int .i64 x72.act.what, .bool x72.act.volatile, .bool x72.act.final, .int .i64 x72.rf, .int .i64 x72.id]) (c' := [.int .i64 x72.t, .int .i64 x72.act.kind, .int .i64 x72.act.at_, .int .i64 x72.act.val, .int .i64 x72.act.what, .bool x72.act.volatile, .bool x72.act.final, .int .i64 x72.rf, .int .i64 x72.id]) ow80 rfl rfl rfl (.inl rfl) rfl (L 0 rfl rfl) (L 2 rfl rfl) ti31 (by simp [topV]) rfl rfl (Nat.le_of_ble_eq_true rfl) rfl rfl nd (fun V82 le83 ow84 => ?_)
  refine U.p rfl rfl (.inl rfl) (S.assign rfl (L 1 rfl rfl)) ?_
  refine U.done (Nat.le_of_ble_eq_true rfl) ?_
  refine WP.seq ?_
  refine WP.usreg rfl ?_
  refine U.p rfl rfl (.inl rfl) (S.move rfl (L 0 rfl rfl)) ?_
  refine U.p rfl rfl (.inl rfl) (S.move rfl (L 0 rfl rfl)) ?_
  refine U.joinX 7 (fun e H => ∃ (u85 u86 u87 u88 : Value), H = V82.H ∧ e = [(35, .bool (((mG xs28 x45.e.act.at_).isSome) && (decide (x72.act.val ≠ 0)))), (34, u85), (33, u86), (32, u87), (31, u88)]) ?_ ?_
  ·rintro _ _ ⟨u85, u86, u87, u88, rfl, rfl⟩
   refine U.p rfl rfl (.inl rfl) (S.move rfl (L 0 rfl rfl)) ?_
   refine U.joinX 15 (fun e H => ∃ (u92 u93 u94 u95 u96 u97 : Value), H = V82.H ∧ e = [(43, .bool ((((mG xs28 x45.e.act.at_).isSome) && (decide (x72.act.val ≠ 0))) && (decide (x72.t ≠ x45.e.t)))), (42, u92), (41, u93), (40, u94), (39, u95), (38, u96), (37, u97)]) ?_ ?_
   ·rintro _ _ ⟨u92, u93, u94, u95, u96, u97, rfl, rfl⟩
    refine U.p rfl rfl (.inl rfl) (S.move rfl (L 0 rfl rfl)) ?_
    refine U.joinX 34 (fun e H => ∃ (u101 u102 u103 u104 u105 u106 u107 u108 u109 u110 u111 u112 u113 u114 u115 u116 u117 : Value), H = V82.H ∧ e = [(62, .bool (((((mG xs28 x45.e.act.at_).isSome) && (decide (x72.act.val ≠ 0))) && (decide (x72.t ≠ x45.e.t))) || ((decide (x45.e.act.kind = 6)) && ((!((mG xs28 x45.e.act.at_).isSome)) || (decide (x72.t ≠ x45.e.t)))))), (61, u101), (60, u102), (59, u103), (58, u104), (57, u105), (56, u106), (55, u107), (54, u108), (53, u109), (52, u110), (51, u111), (50, u112), (49, u113), (48, u114), (47, u115), (46, u116), (45, u117)]) ?_ ?_
    ·rintro _ _ ⟨u101, u102, u103, u104, u105, u106, u107, u108, u109, u110, u111, u112, u113, u114, u115, u116, u117, rfl, rfl⟩
     refine U.done (Nat.le_of_ble_eq_true rfl) ?_
     refine WP.cond _ (L 0 rfl rfl) rfl (fun c121 => ?_) (fun c121 => ?_)
     ·have h122 := ifT c121 h74
      refine WP.usreg rfl ?_
      refine U.p rfl rfl (.inl rfl) (S.assign rfl K) ?_
      refine U.done (Nat.le_of_ble_eq_true rfl) ?_
      refine WP.ret ?_
      refine sqR (blkR (sqR (sqR (blkR (sqR ?_)))))
      have h123 := exitS h122 e40
      refine fin.slot (.inr rfl) rfl (L 0 rfl rfl) ⟨V82, rfl, (((((((le6.trans le15).trans le25).trans le36).trans le61).trans le65).trans le79).trans le83), ?_⟩
      have ow124 := ow84.drop 0 rfl
      have ow125 := ow124.drop 0 rfl
      have ow126 := ow125.drop 1 rfl
      have ow127 := ow126.drop 1 rfl
      have e128 := Option.some.inj h123
      subst e128
      exact ⟨rfl, ow127⟩
     ·have h129 := ifF c121 h74
      refine WP.skip ?_
      refine sqN ?_
      refine WP.ureg rfl ?_
      refine U.p rfl rfl (.inl rfl) (S.move rfl (L 49 rfl rfl)) ?_
      refine U.p (v := .pointer (some ⟨b59, 0, none⟩)) rfl rfl (.inl rfl) (S.fieldAddr rfl (L 46 rfl rfl) Try.underlying45 rfl ti31 rfl rfl) ?_
      refine U.p (v := .pointer (some ⟨b59, 1, none⟩)) rfl rfl (.inl rfl) (S.fieldAddr rfl (L 0 rfl rfl) Try.underlying31 rfl ti29 rfl rfl) ?_
      refine U.p (v := .pointer (some ⟨b59, 2, none⟩)) rfl rfl (.inl rfl) (S.fieldAddr rfl (L 0 rfl rfl) Try.underlying29 rfl ti3 rfl rfl) ?_
      refine U.k rfl rfl (.inl rfl) (S.load rfl (L 0 rfl rfl) Try.underlying3 rfl ((ow84.own (k := 1) rfl).cell rfl)) nd ?_
      refine U.p (v := .pointer (some ⟨b59, 0, none⟩)) rfl rfl (.inl rfl) (S.fieldAddr rfl (L 50 rfl rfl) Try.underlying45 rfl ti31 rfl rfl) ?_
      refine U.k rfl rfl (.inl rfl) (S.loadN (cs := [.int .i64 x45.e.t, .int .i64 x45.e.act.kind, .int .i64 x45.e.act.at_, .int .i64 x45.e.act.val, .int .i64 x45.e.act.what, .bool x45.e.act.volatile, .bool x45.e.act.final, .int .i64 x45.e.rf, .int .i64 x45.e.id]) rfl (L 0 rfl rfl) Try.underlying31 rfl ti31 rfl (cellsOfOwn (ow84.own (k := 1) rfl) 0 rfl)) nd ?_
      refine O.mapUpdate (k := 3) (w := x45.e) ow84 rfl rfl rfl (.inl rfl) rfl (L 6 rfl rfl) (L 2 rfl rfl) (L 0 rfl rfl) Try.underlying62 Try.underlying3 (agg_vrel rfl) (fun _ _ => nd) (fun V130 le131 ow132 => ?_)
      refine U.done (Nat.le_of_ble_eq_true rfl) ?_
      refine blkN (sqN ?_)
      refine WP.ureg rfl ?_
      refine U.p rfl rfl (.inl rfl) (S.add rfl (L 59 rfl rfl) K) ?_
      refine U.p rfl rfl (.inl rfl) (S.move rfl (L 0 rfl rfl)) ?_
      refine U.done (Nat.le_of_ble_eq_true rfl) ?_
      refine sqN ?_
      have ow133 := ow132.drop 0 rfl
      have ow134 := ow133.drop 0 rfl
      exact ⟨_, V130, rfl, ⟨m38, Nat.lt_succ_self _, mS xs28 x45.e.act.at_ x45.e, w64 (x29 + 1), rfl, (((((le36.trans le61).trans le65).trans le79).trans le83).trans le131), ow134, backS h129 e40⟩, (allCons (L 58 rfl rfl) (allCons (L 59 rfl rfl) (allCons (L 60 rfl rfl) (allCons (L 0 rfl rfl) allNil))))⟩
    ·intro kk
     refine bcase (b := (((mG xs28 x45.e.act.at_).isSome) && (decide (x72.act.val ≠ 0))) && (decide (x72.t ≠ x45.e.t))) (fun g135 => ?_) (fun g135 => ?_)
     ·skip
      refine U.x rfl rfl rfl rfl ((L 0 rfl rfl).trans (congrArg Value.bool g135)) (by decide) ?_
      refine U.x rfl rfl rfl rfl ((L 1 rfl rfl).trans (congrArg Value.bool g135)) (by decide) ?_
      refine U.x rfl rfl rfl rfl ((L 2 rfl rfl).trans (congrArg Value.bool g135)) (by decide) ?_
      refine U.x rfl rfl rfl rfl ((L 3 rfl rfl).trans (congrArg Value.bool g135)) (by decide) ?_
      refine U.x rfl rfl rfl rfl ((L 4 rfl rfl).trans (congrArg Value.bool g135)) (by decide) ?_
      refine U.x rfl rfl rfl rfl ((L 5 rfl rfl).trans (congrArg Value.bool g135)) (by decide) ?_
      refine U.z rfl rfl rfl rfl (L 0 rfl rfl) ?_
      refine U.z rfl rfl rfl rfl (L 1 rfl rfl) ?_
      refine U.z rfl rfl rfl rfl (L 2 rfl rfl) ?_
      refine U.z rfl rfl rfl rfl (L 0 rfl rfl) ?_
      refine U.z rfl rfl rfl rfl (L 1 rfl rfl) ?_
      refine U.z rfl rfl rfl rfl (L 2 rfl rfl) ?_
      refine U.z rfl rfl rfl rfl (L 3 rfl rfl) ?_
      refine U.z rfl rfl rfl rfl (L 4 rfl rfl) ?_
      refine U.z rfl rfl rfl rfl (L 5 rfl rfl) ?_
      refine U.z rfl rfl rfl rfl (L 9 rfl rfl) ?_
      refine U.x rfl rfl rfl rfl ((L 16 rfl rfl).trans (congrArg Value.bool g135)) (by decide) ?_
      refine U.p rfl rfl (.inl rfl) (S.pickT rfl ((L 17 rfl rfl).trans (congrArg Value.bool g135)) K) ?_
      exact kk [(62, .bool true), (61, .tuple #[]), (60, .tuple #[]), (59, .tuple #[]), (58, .tuple #[]), (57, .tuple #[]), (56, .tuple #[]), (55, .tuple #[]), (54, .tuple #[]), (53, .tuple #[]), (52, .tuple #[]), (51, .tuple #[]), (50, .tuple #[]), (49, .tuple #[]), (48, .tuple #[]), (47, .tuple #[]), (46, .tuple #[]), (45, .tuple #[])] _ ⟨.tuple #[], .tuple #[], .tuple #[], .tuple #[], .tuple #[], .tuple #[], .tuple #[], .tuple #[], .tuple #[], .tuple #[], .tuple #[], .tuple #[], .tuple #[], .tuple #[], .tuple #[], .tuple #[], .tuple #[], rfl, (by rw [g135, Bool.true_or])⟩
     ·skip
      refine U.p (v := .pointer (some ⟨b59, 0, none⟩)) rfl rfl (.inr ⟨_, _, _, rfl, rfl, ((L 0 rfl rfl).trans (congrArg Value.bool g135))⟩) (S.fieldAddr rfl (L 27 rfl rfl) Try.underlying45 rfl ti31 rfl rfl) ?_
      refine U.p (v := .pointer (some ⟨b59, 1, none⟩)) rfl rfl (.inr ⟨_, _, _, rfl, rfl, ((L 1 rfl rfl).trans (congrArg Value.bool g135))⟩) (S.fieldAddr rfl (L 0 rfl rfl) Try.underlying31 rfl ti29 rfl rfl) ?_
      refine U.p (v := .pointer (some ⟨b59, 1, none⟩)) rfl rfl (.inr ⟨_, _, _, rfl, rfl, ((L 2 rfl rfl).trans (congrArg Value.bool g135))⟩) (S.fieldAddr rfl (L 0 rfl rfl) Try.underlying29 rfl ti3 rfl rfl) ?_
      refine U.k rfl rfl (.inr ⟨_, _, _, rfl, rfl, ((L 3 rfl rfl).trans (congrArg Value.bool g135))⟩) (S.load rfl (L 0 rfl rfl) Try.underlying3 rfl ((ow84.own (k := 1) rfl).cell rfl)) nd ?_
      refine U.p rfl rfl (.inr ⟨_, _, _, rfl, rfl, ((L 4 rfl rfl).trans (congrArg Value.bool g135))⟩) (S.eqlI rfl (L 0 rfl rfl) K) ?_
      refine U.p rfl rfl (.inr ⟨_, _, _, rfl, rfl, ((L 5 rfl rfl).trans (congrArg Value.bool g135))⟩) (S.move rfl (L 0 rfl rfl)) ?_
      refine U.joinX 33 (fun e H => ∃ (u136 u137 u138 u139 u140 u141 u142 u143 u144 u145 : Value), H = V82.H ∧ e = [(61, .bool ((decide (x45.e.act.kind = 6)) && ((!((mG xs28 x45.e.act.at_).isSome)) || (decide (x72.t ≠ x45.e.t))))), (60, u136), (59, u137), (58, u138), (57, u139), (56, u140), (55, u141), (54, u142), (53, u143), (52, u144), (51, u145)]) ?_ ?_
      ·rintro _ _ ⟨u136, u137, u138, u139, u140, u141, u142, u143, u144, u145, rfl, rfl⟩
       refine U.p rfl rfl (.inl rfl) (S.pickF rfl ((L 17 rfl rfl).trans (congrArg Value.bool g135)) (L 0 rfl rfl)) ?_
       exact kk [(62, .bool ((decide (x45.e.act.kind = 6)) && ((!((mG xs28 x45.e.act.at_).isSome)) || (decide (x72.t ≠ x45.e.t))))), (61, .bool ((decide (x45.e.act.kind = 6)) && ((!((mG xs28 x45.e.act.at_).isSome)) || (decide (x72.t ≠ x45.e.t))))), (60, u136), (59, u137), (58, u138), (57, u139), (56, u140), (55, u141), (54, u142), (53, u143), (52, u144), (51, u145), (50, .bool (decide (x45.e.act.kind = 6))), (49, .bool (decide (x45.e.act.kind = 6))), (48, .int .i64 x45.e.act.kind), (47, .pointer (some ⟨b59, 1, none⟩)), (46, .pointer (some ⟨b59, 1, none⟩)), (45, .pointer (some ⟨b59, 0, none⟩))] _ ⟨.bool ((decide (x45.e.act.kind = 6)) && ((!((mG xs28 x45.e.act.at_).isSome)) || (decide (x72.t ≠ x45.e.t)))), u136, u137, u138, u139, u140, u141, u142, u143, u144, u145, .bool (decide (x45.e.act.kind = 6)), .bool (decide (x45.e.act.kind = 6)), .int .i64 x45.e.act.kind, .pointer (some ⟨b59, 1, none⟩), .pointer (some ⟨b59, 1, none⟩), .pointer (some ⟨b59, 0, none⟩), rfl, (by rw [g135, Bool.false_or])⟩
      ·intro kk
       refine bcase (b := decide (x45.e.act.kind = 6)) (fun g149 => ?_) (fun g149 => ?_)
       ·skip
        refine U.p rfl rfl (.inr ⟨_, _, _, rfl, rfl, ((L 0 rfl rfl).trans (congrArg Value.bool g149))⟩) (S.move rfl (L 22 rfl rfl)) ?_
        refine U.p rfl rfl (.inr ⟨_, _, _, rfl, rfl, ((L 1 rfl rfl).trans (congrArg Value.bool g149))⟩) (S.not rfl (L 0 rfl rfl)) ?_
        refine U.p rfl rfl (.inr ⟨_, _, _, rfl, rfl, ((L 2 rfl rfl).trans (congrArg Value.bool g149))⟩) (S.move rfl (L 0 rfl rfl)) ?_
        refine U.joinX 32 (fun e H => ∃ (u150 u151 u152 u153 u154 u155 : Value), H = V82.H ∧ e = [(60, .bool ((!((mG xs28 x45.e.act.at_).isSome)) || (decide (x72.t ≠ x45.e.t)))), (59, u150), (58, u151), (57, u152), (56, u153), (55, u154), (54, u155)]) ?_ ?_
        ·rintro _ _ ⟨u150, u151, u152, u153, u154, u155, rfl, rfl⟩
         refine U.p rfl rfl (.inr ⟨_, _, _, rfl, rfl, ((L 16 rfl rfl).trans (congrArg Value.bool g135))⟩) (S.pickT rfl ((L 10 rfl rfl).trans (congrArg Value.bool g149)) (L 0 rfl rfl)) ?_
         exact kk [(61, .bool ((!((mG xs28 x45.e.act.at_).isSome)) || (decide (x72.t ≠ x45.e.t)))), (60, .bool ((!((mG xs28 x45.e.act.at_).isSome)) || (decide (x72.t ≠ x45.e.t)))), (59, u150), (58, u151), (57, u152), (56, u153), (55, u154), (54, u155), (53, .bool (!((mG xs28 x45.e.act.at_).isSome))), (52, .bool (!((mG xs28 x45.e.act.at_).isSome))), (51, .bool ((mG xs28 x45.e.act.at_).isSome))] _ ⟨.bool ((!((mG xs28 x45.e.act.at_).isSome)) || (decide (x72.t ≠ x45.e.t))), u150, u151, u152, u153, u154, u155, .bool (!((mG xs28 x45.e.act.at_).isSome)), .bool (!((mG xs28 x45.e.act.at_).isSome)), .bool ((mG xs28 x45.e.act.at_).isSome), rfl, (by rw [g149, Bool.true_and])⟩
        ·intro kk
         refine bcase (b := !((mG xs28 x45.e.act.at_).isSome)) (fun g159 => ?_) (fun g159 => ?_)
         ·skip
          have k160 : ((mG xs28 x45.e.act.at_).isSome) = false := by simpa using g159
          refine U.x rfl rfl rfl rfl ((L 0 rfl rfl).trans (congrArg Value.bool g159)) (by decide) ?_
          refine U.x rfl rfl rfl rfl ((L 1 rfl rfl).trans (congrArg Value.bool g159)) (by decide) ?_
          refine U.x rfl rfl rfl rfl ((L 2 rfl rfl).trans (congrArg Value.bool g159)) (by decide) ?_
          refine U.x rfl rfl rfl rfl ((L 3 rfl rfl).trans (congrArg Value.bool g159)) (by decide) ?_
          refine U.x rfl rfl rfl rfl ((L 4 rfl rfl).trans (congrArg Value.bool g159)) (by decide) ?_
          refine U.x rfl rfl rfl rfl ((L 5 rfl rfl).trans (congrArg Value.bool g159)) (by decide) ?_
          refine U.p rfl rfl (.inr ⟨_, _, _, rfl, rfl, ((L 9 rfl rfl).trans (congrArg Value.bool g149))⟩) (S.pickT rfl ((L 6 rfl rfl).trans (congrArg Value.bool g159)) K) ?_
          exact kk [(60, .bool true), (59, .tuple #[]), (58, .tuple #[]), (57, .tuple #[]), (56, .tuple #[]), (55, .tuple #[]), (54, .tuple #[])] _ ⟨.tuple #[], .tuple #[], .tuple #[], .tuple #[], .tuple #[], .tuple #[], rfl, (by rw [g159, Bool.true_or])⟩
         ·skip
          have k161 : ((mG xs28 x45.e.act.at_).isSome) = true := by simpa using g159
          refine U.p (v := .pointer (some ⟨b77, 0, none⟩)) rfl rfl (.inr ⟨_, _, _, rfl, rfl, ((L 0 rfl rfl).trans (congrArg Value.bool g159))⟩) (S.fieldAddr rfl (L 26 rfl rfl) Try.underlying31 rfl ti3 rfl rfl) ?_
          refine U.k rfl rfl (.inr ⟨_, _, _, rfl, rfl, ((L 1 rfl rfl).trans (congrArg Value.bool g159))⟩) (S.load rfl (L 0 rfl rfl) Try.underlying3 rfl ((ow84.own (k := 0) rfl).cell rfl)) nd ?_
          refine U.p (v := .pointer (some ⟨b59, 0, none⟩)) rfl rfl (.inr ⟨_, _, _, rfl, rfl, ((L 2 rfl rfl).trans (congrArg Value.bool g159))⟩) (S.fieldAddr rfl (L 38 rfl rfl) Try.underlying45 rfl ti31 rfl rfl) ?_
          refine U.p (v := .pointer (some ⟨b59, 0, none⟩)) rfl rfl (.inr ⟨_, _, _, rfl, rfl, ((L 3 rfl rfl).trans (congrArg Value.bool g159))⟩) (S.fieldAddr rfl (L 0 rfl rfl) Try.underlying31 rfl ti3 rfl rfl) ?_
          refine U.k rfl rfl (.inr ⟨_, _, _, rfl, rfl, ((L 4 rfl rfl).trans (congrArg Value.bool g159))⟩) (S.load rfl (L 0 rfl rfl) Try.underlying3 rfl ((ow84.own (k := 1) rfl).cell rfl)) nd ?_
          refine U.p rfl rfl (.inr ⟨_, _, _, rfl, rfl, ((L 5 rfl rfl).trans (congrArg Value.bool g159))⟩) (S.neqI rfl (L 3 rfl rfl) (L 0 rfl rfl)) ?_
          refine U.p rfl rfl (.inr ⟨_, _, _, rfl, rfl, ((L 9 rfl rfl).trans (congrArg Value.bool g149))⟩) (S.pickF rfl ((L 6 rfl rfl).trans (congrArg Value.bool g159)) (L 0 rfl rfl)) ?_
          exact kk [(60, .bool (decide (x72.t ≠ x45.e.t))), (59, .bool (decide (x72.t ≠ x45.e.t))), (58, .int .i64 x45.e.t), (57, .pointer (some ⟨b59, 0, none⟩)), (56, .pointer (some ⟨b59, 0, none⟩)), (55, .int .i64 x72.t), (54, .pointer (some ⟨b77, 0, none⟩))] _ ⟨.bool (decide (x72.t ≠ x45.e.t)), .int .i64 x45.e.t, .pointer (some ⟨b59, 0, none⟩), .pointer (some ⟨b59, 0, none⟩), .int .i64 x72.t, .pointer (some ⟨b77, 0, none⟩), rfl, (by rw [g159, Bool.false_or])⟩
       ·skip
        refine U.x rfl rfl rfl rfl ((L 0 rfl rfl).trans (congrArg Value.bool g149)) (by decide) ?_
        refine U.x rfl rfl rfl rfl ((L 1 rfl rfl).trans (congrArg Value.bool g149)) (by decide) ?_
        refine U.x rfl rfl rfl rfl ((L 2 rfl rfl).trans (congrArg Value.bool g149)) (by decide) ?_
        refine U.z rfl rfl rfl rfl (L 0 rfl rfl) ?_
        refine U.z rfl rfl rfl rfl (L 1 rfl rfl) ?_
        refine U.z rfl rfl rfl rfl (L 2 rfl rfl) ?_
        refine U.z rfl rfl rfl rfl (L 3 rfl rfl) ?_
        refine U.z rfl rfl rfl rfl (L 4 rfl rfl) ?_
        refine U.z rfl rfl rfl rfl (L 5 rfl rfl) ?_
        refine U.x rfl rfl rfl rfl ((L 9 rfl rfl).trans (congrArg Value.bool g149)) (by decide) ?_
        refine U.p rfl rfl (.inr ⟨_, _, _, rfl, rfl, ((L 16 rfl rfl).trans (congrArg Value.bool g135))⟩) (S.pickF rfl ((L 10 rfl rfl).trans (congrArg Value.bool g149)) K) ?_
        exact kk [(61, .bool false), (60, .tuple #[]), (59, .tuple #[]), (58, .tuple #[]), (57, .tuple #[]), (56, .tuple #[]), (55, .tuple #[]), (54, .tuple #[]), (53, .tuple #[]), (52, .tuple #[]), (51, .tuple #[])] _ ⟨.tuple #[], .tuple #[], .tuple #[], .tuple #[], .tuple #[], .tuple #[], .tuple #[], .tuple #[], .tuple #[], .tuple #[], rfl, (by rw [g149, Bool.false_and])⟩
   ·intro kk
    refine bcase (b := ((mG xs28 x45.e.act.at_).isSome) && (decide (x72.act.val ≠ 0))) (fun g162 => ?_) (fun g162 => ?_)
    ·skip
     refine U.p (v := .pointer (some ⟨b77, 0, none⟩)) rfl rfl (.inr ⟨_, _, _, rfl, rfl, ((L 0 rfl rfl).trans (congrArg Value.bool g162))⟩) (S.fieldAddr rfl (L 9 rfl rfl) Try.underlying31 rfl ti3 rfl rfl) ?_
     refine U.k rfl rfl (.inr ⟨_, _, _, rfl, rfl, ((L 1 rfl rfl).trans (congrArg Value.bool g162))⟩) (S.load rfl (L 0 rfl rfl) Try.underlying3 rfl ((ow84.own (k := 0) rfl).cell rfl)) nd ?_
     refine U.p (v := .pointer (some ⟨b59, 0, none⟩)) rfl rfl (.inr ⟨_, _, _, rfl, rfl, ((L 2 rfl rfl).trans (congrArg Value.bool g162))⟩) (S.fieldAddr rfl (L 21 rfl rfl) Try.underlying45 rfl ti31 rfl rfl) ?_
     refine U.p (v := .pointer (some ⟨b59, 0, none⟩)) rfl rfl (.inr ⟨_, _, _, rfl, rfl, ((L 3 rfl rfl).trans (congrArg Value.bool g162))⟩) (S.fieldAddr rfl (L 0 rfl rfl) Try.underlying31 rfl ti3 rfl rfl) ?_
     refine U.k rfl rfl (.inr ⟨_, _, _, rfl, rfl, ((L 4 rfl rfl).trans (congrArg Value.bool g162))⟩) (S.load rfl (L 0 rfl rfl) Try.underlying3 rfl ((ow84.own (k := 1) rfl).cell rfl)) nd ?_
     refine U.p rfl rfl (.inr ⟨_, _, _, rfl, rfl, ((L 5 rfl rfl).trans (congrArg Value.bool g162))⟩) (S.neqI rfl (L 3 rfl rfl) (L 0 rfl rfl)) ?_
     refine U.p rfl rfl (.inl rfl) (S.pickT rfl ((L 6 rfl rfl).trans (congrArg Value.bool g162)) (L 0 rfl rfl)) ?_
     exact kk [(43, .bool (decide (x72.t ≠ x45.e.t))), (42, .bool (decide (x72.t ≠ x45.e.t))), (41, .int .i64 x45.e.t), (40, .pointer (some ⟨b59, 0, none⟩)), (39, .pointer (some ⟨b59, 0, none⟩)), (38, .int .i64 x72.t), (37, .pointer (some ⟨b77, 0, none⟩))] _ ⟨.bool (decide (x72.t ≠ x45.e.t)), .int .i64 x45.e.t, .pointer (some ⟨b59, 0, none⟩), .pointer (some ⟨b59, 0, none⟩), .int .i64 x72.t, .pointer (some ⟨b77, 0, none⟩), rfl, (by rw [g162, Bool.true_and])⟩
    ·skip
     refine U.x rfl rfl rfl rfl ((L 0 rfl rfl).trans (congrArg Value.bool g162)) (by decide) ?_
     refine U.x rfl rfl rfl rfl ((L 1 rfl rfl).trans (congrArg Value.bool g162)) (by decide) ?_
     refine U.x rfl rfl rfl rfl ((L 2 rfl rfl).trans (congrArg Value.bool g162)) (by decide) ?_
     refine U.x rfl rfl rfl rfl ((L 3 rfl rfl).trans (congrArg Value.bool g162)) (by decide) ?_
     refine U.x rfl rfl rfl rfl ((L 4 rfl rfl).trans (congrArg Value.bool g162)) (by decide) ?_
     refine U.x rfl rfl rfl rfl ((L 5 rfl rfl).trans (congrArg Value.bool g162)) (by decide) ?_
     refine U.p rfl rfl (.inl rfl) (S.pickF rfl ((L 6 rfl rfl).trans (congrArg Value.bool g162)) K) ?_
     exact kk [(43, .bool false), (42, .tuple #[]), (41, .tuple #[]), (40, .tuple #[]), (39, .tuple #[]), (38, .tuple #[]), (37, .tuple #[])] _ ⟨.tuple #[], .tuple #[], .tuple #[], .tuple #[], .tuple #[], .tuple #[], rfl, (by rw [g162, Bool.false_and])⟩
  ·intro kk
   refine bcase (b := (mG xs28 x45.e.act.at_).isSome) (fun g163 => ?_) (fun g163 => ?_)
   ·skip
    refine U.p (v := .pointer (some ⟨b77, 1, none⟩)) rfl rfl (.inr ⟨_, _, _, rfl, rfl, ((L 0 rfl rfl).trans (congrArg Value.bool g163))⟩) (S.fieldAddr rfl (L 3 rfl rfl) Try.underlying31 rfl ti29 rfl rfl) ?_
    refine U.p (v := .pointer (some ⟨b77, 3, none⟩)) rfl rfl (.inr ⟨_, _, _, rfl, rfl, ((L 1 rfl rfl).trans (congrArg Value.bool g163))⟩) (S.fieldAddr rfl (L 0 rfl rfl) Try.underlying29 rfl ti3 rfl rfl) ?_
    refine U.k rfl rfl (.inr ⟨_, _, _, rfl, rfl, ((L 2 rfl rfl).trans (congrArg Value.bool g163))⟩) (S.load rfl (L 0 rfl rfl) Try.underlying3 rfl ((ow84.own (k := 0) rfl).cell rfl)) nd ?_
    refine U.p rfl rfl (.inr ⟨_, _, _, rfl, rfl, ((L 3 rfl rfl).trans (congrArg Value.bool g163))⟩) (S.neqI rfl (L 0 rfl rfl) K) ?_
    refine U.p rfl rfl (.inl rfl) (S.pickT rfl ((L 4 rfl rfl).trans (congrArg Value.bool g163)) (L 0 rfl rfl)) ?_
    exact kk [(35, .bool (decide (x72.act.val ≠ 0))), (34, .bool (decide (x72.act.val ≠ 0))), (33, .int .i64 x72.act.val), (32, .pointer (some ⟨b77, 3, none⟩)), (31, .pointer (some ⟨b77, 1, none⟩))] _ ⟨.bool (decide (x72.act.val ≠ 0)), .int .i64 x72.act.val, .pointer (some ⟨b77, 3, none⟩), .pointer (some ⟨b77, 1, none⟩), rfl, (by rw [g163, Bool.true_and])⟩
   ·skip
    refine U.x rfl rfl rfl rfl ((L 0 rfl rfl).trans (congrArg Value.bool g163)) (by decide) ?_
    refine U.x rfl rfl rfl rfl ((L 1 rfl rfl).trans (congrArg Value.bool g163)) (by decide) ?_
    refine U.x rfl rfl rfl rfl ((L 2 rfl rfl).trans (congrArg Value.bool g163)) (by decide) ?_
    refine U.x rfl rfl rfl rfl ((L 3 rfl rfl).trans (congrArg Value.bool g163)) (by decide) ?_
    refine U.p rfl rfl (.inl rfl) (S.pickF rfl ((L 4 rfl rfl).trans (congrArg Value.bool g163)) K) ?_
    exact kk [(35, .bool false), (34, .tuple #[]), (33, .tuple #[]), (32, .tuple #[]), (31, .tuple #[])] _ ⟨.tuple #[], .tuple #[], .tuple #[], .tuple #[], rfl, (by rw [g163, Bool.false_and])⟩
 ·have h164 := ifF c43 h42
  refine WP.exit ?_
  refine sqE (sqE (blkE (sqN ?_)))
  have h165 := exitS h164 e40
  refine WP.usreg rfl ?_
  refine U.p rfl rfl (.inl rfl) (S.assign rfl K) ?_
  refine U.done (Nat.le_of_ble_eq_true rfl) ?_
  refine WP.ret ?_
  refine fin.slot (.inr rfl) rfl (L 0 rfl rfl) ⟨V35, rfl, (((le6.trans le15).trans le25).trans le36), ?_⟩
  have ow166 := ow37.drop 1 rfl
  have ow167 := ow166.drop 1 rfl
  have e168 := Option.some.inj h165
  subst e168
  exact ⟨rfl, ow167⟩

end Go.Vm.GO21
