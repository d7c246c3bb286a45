/-
  What the functions compute is what the plain ones say, for all inputs at which those answer.
-/
import Derived.Test.YtbmkccjfldmgiaaEWGA21b
set_option linter.unusedSimpArgs false
set_option linter.unusedVariables false
namespace Go.Vm.GA21
open Go Go.Proofs
set_option maxHeartbeats 4000000 in
set_option maxRecDepth 10000 in
theorem wk_s_partition (V : Vw) (Rs : List At) (p0 : List Tnd) (p1 : Int) (p2 : Int) (p3 : Int) (v1 : Value) (ow : Ow V (.os RT_Tnd v1 p0 :: Rs)) (r : Int × Bool × (List Tnd)) (h : s_partition p0 p1 p2 p3 = some r) : ∃ v V', Cl Try.prog 0 68 #[v1, .int .i64 p1, .int .i64 p2, .int .i64 p3, .func (.func 50) #[] #[]] V.H v V'.H ∧ V.le V' ∧ (v = .tuple #[.int .i64 r.1, .bool r.2.1] ∧ Ow V' (.os RT_Tnd v1 r.2.2 :: Rs)) := by
 refine Ct.of (Nat.zero_le _) Try.func68 rfl (nr rfl) ?_
 unfold s_partition at h
 refine WP.usreg rfl ?_
 refine U.p rfl rfl (.inl rfl) (S.assign rfl K) ?_
 refine U.p rfl rfl (.inl rfl) (S.assign rfl K) ?_
 refine U.done (nr rfl) ?_
 refine WP.usdreg rfl rfl rfl ?_
 refine U.p rfl rfl (.inl rfl) (S.move rfl (L 2 rfl rfl)) ?_
 refine U.p rfl rfl (.inl rfl) (S.move rfl (L 4 rfl rfl)) ?_
 refine U.p rfl rfl (.inl rfl) (S.move rfl (L 4 rfl rfl)) ?_
 refine U.p rfl rfl (.inl rfl) (S.move rfl (L 8 rfl rfl)) ?_
 refine U.p rfl rfl (.inl rfl) (S.move rfl (L 6 rfl rfl)) ?_
 refine U.p rfl rfl (.inl rfl) (S.move rfl (L 10 rfl rfl)) ?_
 obtain ⟨x3, hx4, h5⟩ := bindS h
 obtain ⟨b6, o7, n8, c9, hv10⟩ := ow.ospt (k := 0) rfl hx4
 obtain ⟨_, hv11, _⟩ := ow.osel (k := 0) rfl hv10 hx4
 refine U.p rfl rfl (.inl rfl) (S.index rfl ((L 1 rfl rfl).trans hv11) (L 0 rfl rfl) Try.underlying38 ti45 (ix_ge hx4) (ix_lt hx4)) ?_
 obtain ⟨cs12, hv13, hlt14, hr15, hc16⟩ := ow.osel (k := 0) rfl hv10 hx4
 obtain rfl : cs12 = [.int .i64 x3.e.t, .int .i64 x3.e.act.kind, .int .i64 x3.e.act.at_, .int .i64 x3.e.act.val, .int .i64 x3.e.act.what, .bool x3.e.act.volatile, .bool x3.e.act.final, .int .i64 x3.e.rf, .int .i64 x3.e.id, .int .i64 x3.at_] := hr15
 refine U.k rfl rfl (.inl rfl) (S.loadN (cs := [.int .i64 x3.e.t, .int .i64 x3.e.act.kind, .int .i64 x3.e.act.at_, .int .i64 x3.e.act.val, .int .i64 x3.e.act.what, .bool x3.e.act.volatile, .bool x3.e.act.final, .int .i64 x3.e.rf, .int .i64 x3.e.id, .int .i64 x3.at_]) rfl (L 0 rfl rfl) Try.underlying45 rfl ti45 rfl hc16) (fun _ => (okH.nil (fun r h => by cases h; exact hlt14))) ?_
 refine U.p rfl rfl (.inl rfl) (S.move rfl (L 10 rfl rfl)) ?_
 refine U.p rfl rfl (.inl rfl) (S.move rfl (L 12 rfl rfl)) ?_
 obtain ⟨x17, hx18, h19⟩ := bindS h5
 obtain ⟨_, hv20, _⟩ := ow.osel (k := 0) rfl hv10 hx18
 refine U.p rfl rfl (.inl rfl) (S.index rfl ((L 1 rfl rfl).trans hv20) (L 0 rfl rfl) Try.underlying38 ti45 (ix_ge hx18) (ix_lt hx18)) ?_
 obtain ⟨cs21, hv22, hlt23, hr24, hc25⟩ := ow.osel (k := 0) rfl hv10 hx18
 obtain rfl : cs21 = [.int .i64 x17.e.t, .int .i64 x17.e.act.kind, .int .i64 x17.e.act.at_, .int .i64 x17.e.act.val, .int .i64 x17.e.act.what, .bool x17.e.act.volatile, .bool x17.e.act.final, .int .i64 x17.e.rf, .int .i64 x17.e.id, .int .i64 x17.at_] := hr24
 refine U.k rfl rfl (.inl rfl) (S.loadN (cs := [.int .i64 x17.e.t, .int .i64 x17.e.act.kind, .int .i64 x17.e.act.at_, .int .i64 x17.e.act.val, .int .i64 x17.e.act.what, .bool x17.e.act.volatile, .bool x17.e.act.final, .int .i64 x17.e.rf, .int .i64 x17.e.id, .int .i64 x17.at_]) rfl (L 0 rfl rfl) Try.underlying45 rfl ti45 rfl hc25) (fun _ => (okH.cons trivial (okH.nil (fun r h => by cases h; exact hlt23)))) ?_
 obtain ⟨x26, hx27, h28⟩ := bindS h19
 obtain ⟨_, hv29, _⟩ := ow.osel (k := 0) rfl hv10 hx27
 refine U.p rfl rfl (.inl rfl) (S.index rfl ((L 11 rfl rfl).trans hv29) (L 10 rfl rfl) Try.underlying38 ti45 (ix_ge hx27) (ix_lt hx27)) ?_
 obtain ⟨cs30, hv31, hlt32, hr33, hc34⟩ := ow.osel (k := 0) rfl hv10 hx27
 obtain rfl : cs30 = [.int .i64 x26.e.t, .int .i64 x26.e.act.kind, .int .i64 x26.e.act.at_, .int .i64 x26.e.act.val, .int .i64 x26.e.act.what, .bool x26.e.act.volatile, .bool x26.e.act.final, .int .i64 x26.e.rf, .int .i64 x26.e.id, .int .i64 x26.at_] := hr33
 refine O.storeE (k := 0) (R := RT_Tnd) (j := 0) (y := x3) (cs := [.int .i64 x3.e.t, .int .i64 x3.e.act.kind, .int .i64 x3.e.act.at_, .int .i64 x3.e.act.val, .int .i64 x3.e.act.what, .bool x3.e.act.volatile, .bool x3.e.act.final, .int .i64 x3.e.rf, .int .i64 x3.e.id, .int .i64 x3.at_]) ow rfl hv31 rfl rfl (.inl rfl) rfl (L 0 rfl rfl) (L 5 rfl rfl) ti45 hx27 (by simp [topV]) rfl rfl rfl (full rfl) (fun H1 hs => (fun _ => (okH.cons (Or.inl rfl) (okH.cons (Or.inl rfl) (okH.nil (fun r h => nomatch h)))))) (fun V35 le36 ow37 => ?_)
 obtain ⟨x38, hx39, h40⟩ := bindS h28
 obtain ⟨_, hv41, _⟩ := ow37.osel (k := 0) rfl hv10 hx39
 refine U.p rfl rfl (.inl rfl) (S.index rfl ((L 10 rfl rfl).trans hv41) (L 9 rfl rfl) Try.underlying38 ti45 (ix_ge hx39) (ix_lt hx39)) ?_
 obtain ⟨cs42, hv43, hlt44, hr45, hc46⟩ := ow37.osel (k := 0) rfl hv10 hx39
 obtain rfl : cs42 = [.int .i64 x38.e.t, .int .i64 x38.e.act.kind, .int .i64 x38.e.act.at_, .int .i64 x38.e.act.val, .int .i64 x38.e.act.what, .bool x38.e.act.volatile, .bool x38.e.act.final, .int .i64 x38.e.rf, .int .i64 x38.e.id, .int .i64 x38.at_] := hr45
 refine O.storeE (k := 0) (R := RT_Tnd) (j := 0) (y := x17) (cs := [.int .i64 x17.e.t, .int .i64 x17.e.act.kind, .int .i64 x17.e.act.at_, .int .i64 x17.e.act.val, .int .i64 x17.e.act.what, .bool x17.e.act.volatile, .bool x17.e.act.final, .int .i64 x17.e.rf, .int .i64 x17.e.id, .int .i64 x17.at_]) ow37 rfl hv43 rfl rfl (.inl rfl) rfl (L 0 rfl rfl) (L 2 rfl rfl) ti45 hx39 (by simp [topV]) rfl rfl rfl (full rfl) (fun H1 hs => (fun _ => (okH.cons rfl (okH.cons (Or.inl rfl) (okH.cons (Or.inl rfl) (okH.nil (fun r h => nomatch h))))))) (fun V47 le48 ow49 => ?_)
 refine U.done (nr rfl) ?_
 refine WP.usreg rfl ?_
 refine U.p rfl rfl (.inl rfl) (S.move rfl (L 17 rfl rfl)) ?_
 refine U.p rfl rfl (.inl rfl) (S.add rfl (L 0 rfl rfl) K) ?_
 refine U.p rfl rfl (.inl rfl) (S.move rfl (L 20 rfl rfl)) ?_
 refine U.p rfl rfl (.inl rfl) (S.sub rfl (L 0 rfl rfl) K) ?_
 refine U.p rfl rfl (.inl rfl) (S.assign rfl (L 2 rfl rfl)) ?_
 refine U.p rfl rfl (.inl rfl) (S.assign rfl (L 1 rfl rfl)) ?_
 refine U.done (nr rfl) ?_
 refine WP.seq ?_
 refine WP.blk ?_
 unfold s_partition_l1 at h40
 obtain ⟨n52, hn51⟩ := loopO_some.1 h40
 refine WP.loopI2 (fun n l V' => ∃ (x50 : Int), l = [(0, v1), (1, .int .i64 p1), (4, .func (.func 50) #[] #[]), (12, .int .i64 x50), (13, .int .i64 (w64 (p2 - 1)))] ∧ V47.le V' ∧ Ow V' (.os RT_Tnd v1 ((p0.set (Int.toNat p1) x3).set (Int.toNat p3) x17) :: Rs) ∧ itO (fun s => s_partition_l1b p0 p1 p2 p3 x3 x17 s) n x50 = some r) n52 _ ⟨w64 (p1 + 1), rfl, .refl _, ow49, hn51⟩ (allCons (L 22 rfl rfl) (allCons (L 23 rfl rfl) (allCons (L 26 rfl rfl) (allCons (L 1 rfl rfl) (allCons (L 0 rfl rfl) allNil))))) ?_
 rintro _ _ V53 ⟨x50, rfl, le54, ow55, h59⟩
 obtain ⟨m56, q57, rfl, h60, e58⟩ := itS h59
 replace h60 : s_partition_l1b p0 p1 p2 p3 x3 x17 x50 = some q57 := h60
 unfold s_partition_l1b at h60
 refine WP.seq ?_
 refine WP.seqI (fun l V' => ∃ (x61 : Bool), l = [(0, v1), (1, .int .i64 p1), (4, .func (.func 50) #[] #[]), (12, .int .i64 x50), (13, .int .i64 (w64 (p2 - 1))), (47, .bool x61)] ∧ V53.le V' ∧ Ow V' (.os RT_Tnd v1 ((p0.set (Int.toNat p1) x3).set (Int.toNat p3) x17) :: Rs) ∧ s_partition_k1 p0 p1 p2 p3 x3 x17 x50 x61 = some q57) ?_ ?_
 ·rintro _ V62 ⟨x61, rfl, le63, ow64, h65⟩
  unfold s_partition_k1 at h65
  refine WP.cond _ (L 5 rfl rfl) rfl (fun c66 => ?_) (fun c66 => ?_)
  ·have h67 := ifT c66 h65
   refine WP.skip ?_
   refine sqN ?_
   refine WP.blk ?_
   refine WP.ureg rfl ?_
   refine U.p rfl rfl (.inl rfl) (S.move rfl (L 3 rfl rfl)) ?_
   refine U.p rfl rfl (.inl rfl) (S.add rfl (L 0 rfl rfl) K) ?_
   refine U.p rfl rfl (.inl rfl) (S.assign rfl (L 0 rfl rfl)) ?_
   refine U.done (nr rfl) ?_
   refine blkN (sqN ?_)
   exact ⟨_, V62, rfl, ⟨m56, Nat.lt_succ_self _, w64 (x50 + 1), rfl, (le54.trans le63), ow64, backS h67 e58⟩, (allCons (L 3 rfl rfl) (allCons (L 4 rfl rfl) (allCons (L 5 rfl rfl) (allCons (L 0 rfl rfl) (allCons (L 7 rfl rfl) allNil)))))⟩
  ·have h68 := ifF c66 h65
   refine WP.exit ?_
   refine sqE (sqE (blkE (sqN ?_)))
   have h69 := exitS h68 e58
   refine WP.seq ?_
   refine WP.blk ?_
   unfold s_partition_l2 at h69
   obtain ⟨n72, hn71⟩ := loopO_some.1 h69
   refine WP.loopI2 (fun n l V' => ∃ (x70 : Int), l = [(0, v1), (1, .int .i64 p1), (4, .func (.func 50) #[] #[]), (12, .int .i64 x50), (13, .int .i64 x70)] ∧ V62.le V' ∧ Ow V' (.os RT_Tnd v1 ((p0.set (Int.toNat p1) x3).set (Int.toNat p3) x17) :: Rs) ∧ itO (fun s => s_partition_l2b p0 p1 p3 x3 x17 x50 s) n x70 = some r) n72 _ ⟨w64 (p2 - 1), rfl, .refl _, ow64, hn71⟩ (allCons (L 0 rfl rfl) (allCons (L 1 rfl rfl) (allCons (L 2 rfl rfl) (allCons (L 3 rfl rfl) (allCons (L 4 rfl rfl) allNil))))) ?_
   rintro _ _ V73 ⟨x70, rfl, le74, ow75, h79⟩
   obtain ⟨m76, q77, rfl, h80, e78⟩ := itS h79
   replace h80 : s_partition_l2b p0 p1 p3 x3 x17 x50 x70 = some q77 := h80
   unfold s_partition_l2b at h80
   refine WP.seq ?_
   refine WP.seqI (fun l V' => ∃ (x81 : Bool), l = [(0, v1), (1, .int .i64 p1), (4, .func (.func 50) #[] #[]), (12, .int .i64 x50), (13, .int .i64 x70), (66, .bool x81)] ∧ V73.le V' ∧ Ow V' (.os RT_Tnd v1 ((p0.set (Int.toNat p1) x3).set (Int.toNat p3) x17) :: Rs) ∧ s_partition_k2 p0 p1 p3 x3 x17 x50 x70 x81 = some q77) ?_ ?_
   ·rintro _ V82 ⟨x81, rfl, le83, ow84, h85⟩
    unfold s_partition_k2 at h85
    refine WP.cond _ (L 5 rfl rfl) rfl (fun c86 => ?_) (fun c86 => ?_)
    ·have h87 := ifT c86 h85
     refine WP.skip ?_
     refine sqN ?_
     refine WP.blk ?_
     refine WP.ureg rfl ?_
     refine U.p rfl rfl (.inl rfl) (S.move rfl (L 4 rfl rfl)) ?_
     refine U.p rfl rfl (.inl rfl) (S.sub rfl (L 0 rfl rfl) K) ?_
     refine U.p rfl rfl (.inl rfl) (S.assign rfl (L 0 rfl rfl)) ?_
     refine U.done (nr rfl) ?_
     refine blkN (sqN ?_)
     exact ⟨_, V82, rfl, ⟨m76, Nat.lt_succ_self _, w64 (x70 - 1), rfl, (le74.trans le83), ow84, backS h87 e78⟩, (allCons (L 3 rfl rfl) (allCons (L 4 rfl rfl) (allCons (L 5 rfl rfl) (allCons (L 6 rfl rfl) (allCons (L 0 rfl rfl) allNil)))))⟩
    ·have h88 := ifF c86 h85
     refine WP.exit ?_
     refine sqE (sqE (blkE (sqN ?_)))
     have h89 := exitS h88 e78
     refine WP.seq ?_
     refine WP.usreg rfl ?_
     refine U.p rfl rfl (.inl rfl) (S.move rfl (L 3 rfl rfl)) ?_
     refine U.p rfl rfl (.inl rfl) (S.move rfl (L 5 rfl rfl)) ?_
     refine U.p rfl rfl (.inl rfl) (S.gtr rfl (L 1 rfl rfl) (L 0 rfl rfl)) ?_
     refine U.done (nr rfl) ?_
     refine WP.cond _ (L 0 rfl rfl) rfl (fun c90 => ?_) (fun c90 => ?_)
     ·have h91 := ifT c90 h89
      refine WP.usdreg rfl rfl rfl ?_
      refine U.p rfl rfl (.inl rfl) (S.move rfl (L 3 rfl rfl)) ?_
      refine U.p rfl rfl (.inl rfl) (S.move rfl (L 8 rfl rfl)) ?_
      refine U.p rfl rfl (.inl rfl) (S.move rfl (L 5 rfl rfl)) ?_
      refine U.p rfl rfl (.inl rfl) (S.move rfl (L 7 rfl rfl)) ?_
      refine U.p rfl rfl (.inl rfl) (S.move rfl (L 7 rfl rfl)) ?_
      refine U.p rfl rfl (.inl rfl) (S.move rfl (L 9 rfl rfl)) ?_
      obtain ⟨x92, hx93, h94⟩ := bindS h91
      obtain ⟨_, hv95, _⟩ := ow84.osel (k := 0) rfl hv10 hx93
      refine U.p rfl rfl (.inl rfl) (S.index rfl ((L 1 rfl rfl).trans hv95) (L 0 rfl rfl) Try.underlying38 ti45 (ix_ge hx93) (ix_lt hx93)) ?_
      obtain ⟨cs96, hv97, hlt98, hr99, hc100⟩ := ow84.osel (k := 0) rfl hv10 hx93
      obtain rfl : cs96 = [.int .i64 x92.e.t, .int .i64 x92.e.act.kind, .int .i64 x92.e.act.at_, .int .i64 x92.e.act.val, .int .i64 x92.e.act.what, .bool x92.e.act.volatile, .bool x92.e.act.final, .int .i64 x92.e.rf, .int .i64 x92.e.id, .int .i64 x92.at_] := hr99
      refine U.k rfl rfl (.inl rfl) (S.loadN (cs := [.int .i64 x92.e.t, .int .i64 x92.e.act.kind, .int .i64 x92.e.act.at_, .int .i64 x92.e.act.val, .int .i64 x92.e.act.what, .bool x92.e.act.volatile, .bool x92.e.act.final, .int .i64 x92.e.rf, .int .i64 x92.e.id, .int .i64 x92.at_]) rfl (L 0 rfl rfl) Try.underlying45 rfl ti45 rfl hc100) (fun _ => (okH.nil (fun r h => by cases h; exact hlt98))) ?_
      refine U.p rfl rfl (.inl rfl) (S.move rfl (L 11 rfl rfl)) ?_
      refine U.p rfl rfl (.inl rfl) (S.move rfl (L 16 rfl rfl)) ?_
      obtain ⟨x101, hx102, h103⟩ := bindS h94
      obtain ⟨_, hv104, _⟩ := ow84.osel (k := 0) rfl hv10 hx102
      refine U.p rfl rfl (.inl rfl) (S.index rfl ((L 1 rfl rfl).trans hv104) (L 0 rfl rfl) Try.underlying38 ti45 (ix_ge hx102) (ix_lt hx102)) ?_
      obtain ⟨cs105, hv106, hlt107, hr108, hc109⟩ := ow84.osel (k := 0) rfl hv10 hx102
      obtain rfl : cs105 = [.int .i64 x101.e.t, .int .i64 x101.e.act.kind, .int .i64 x101.e.act.at_, .int .i64 x101.e.act.val, .int .i64 x101.e.act.what, .bool x101.e.act.volatile, .bool x101.e.act.final, .int .i64 x101.e.rf, .int .i64 x101.e.id, .int .i64 x101.at_] := hr108
      refine U.k rfl rfl (.inl rfl) (S.loadN (cs := [.int .i64 x101.e.t, .int .i64 x101.e.act.kind, .int .i64 x101.e.act.at_, .int .i64 x101.e.act.val, .int .i64 x101.e.act.what, .bool x101.e.act.volatile, .bool x101.e.act.final, .int .i64 x101.e.rf, .int .i64 x101.e.id, .int .i64 x101.at_]) rfl (L 0 rfl rfl) Try.underlying45 rfl ti45 rfl hc109) (fun _ => (okH.cons trivial (okH.nil (fun r h => by cases h; exact hlt107)))) ?_
      obtain ⟨x110, hx111, h112⟩ := bindS h103
      obtain ⟨_, hv113, _⟩ := ow84.osel (k := 0) rfl hv10 hx111
      refine U.p rfl rfl (.inl rfl) (S.index rfl ((L 11 rfl rfl).trans hv113) (L 10 rfl rfl) Try.underlying38 ti45 (ix_ge hx111) (ix_lt hx111)) ?_
      obtain ⟨cs114, hv115, hlt116, hr117, hc118⟩ := ow84.osel (k := 0) rfl hv10 hx111
      obtain rfl : cs114 = [.int .i64 x110.e.t, .int .i64 x110.e.act.kind, .int .i64 x110.e.act.at_, .int .i64 x110.e.act.val, .int .i64 x110.e.act.what, .bool x110.e.act.volatile, .bool x110.e.act.final, .int .i64 x110.e.rf, .int .i64 x110.e.id, .int .i64 x110.at_] := hr117
      refine O.storeE (k := 0) (R := RT_Tnd) (j := 0) (y := x92) (cs := [.int .i64 x92.e.t, .int .i64 x92.e.act.kind, .int .i64 x92.e.act.at_, .int .i64 x92.e.act.val, .int .i64 x92.e.act.what, .bool x92.e.act.volatile, .bool x92.e.act.final, .int .i64 x92.e.rf, .int .i64 x92.e.id, .int .i64 x92.at_]) ow84 rfl hv115 rfl rfl (.inl rfl) rfl (L 0 rfl rfl) (L 5 rfl rfl) ti45 hx111 (by simp [topV]) rfl rfl rfl (full rfl) (fun H1 hs => (fun _ => (okH.cons (Or.inl rfl) (okH.cons (Or.inl rfl) (okH.nil (fun r h => nomatch h)))))) (fun V119 le120 ow121 => ?_)
      obtain ⟨x122, hx123, h124⟩ := bindS h112
      obtain ⟨_, hv125, _⟩ := ow121.osel (k := 0) rfl hv10 hx123
      refine U.p rfl rfl (.inl rfl) (S.index rfl ((L 10 rfl rfl).trans hv125) (L 9 rfl rfl) Try.underlying38 ti45 (ix_ge hx123) (ix_lt hx123)) ?_
      obtain ⟨cs126, hv127, hlt128, hr129, hc130⟩ := ow121.osel (k := 0) rfl hv10 hx123
      obtain rfl : cs126 = [.int .i64 x122.e.t, .int .i64 x122.e.act.kind, .int .i64 x122.e.act.at_, .int .i64 x122.e.act.val, .int .i64 x122.e.act.what, .bool x122.e.act.volatile, .bool x122.e.act.final, .int .i64 x122.e.rf, .int .i64 x122.e.id, .int .i64 x122.at_] := hr129
      refine O.storeE (k := 0) (R := RT_Tnd) (j := 0) (y := x101) (cs := [.int .i64 x101.e.t, .int .i64 x101.e.act.kind, .int .i64 x101.e.act.at_, .int .i64 x101.e.act.val, .int .i64 x101.e.act.what, .bool x101.e.act.volatile, .bool x101.e.act.final, .int .i64 x101.e.rf, .int .i64 x101.e.id, .int .i64 x101.at_]) ow121 rfl hv127 rfl rfl (.inl rfl) rfl (L 0 rfl rfl) (L 2 rfl rfl) ti45 hx123 (by simp [topV]) rfl rfl rfl (full rfl) (fun H1 hs => (fun _ => (okH.cons rfl (okH.cons (Or.inl rfl) (okH.cons (Or.inl rfl) (okH.nil (fun r h => nomatch h))))))) (fun V131 le132 ow133 => ?_)
      refine U.done (nr rfl) ?_
      refine WP.usreg rfl ?_
      refine U.p rfl rfl (.inl rfl) (S.move rfl (L 21 rfl rfl)) ?_
      refine U.p rfl rfl (.inl rfl) (S.assign rfl (L 0 rfl rfl)) ?_
      refine U.p rfl rfl (.inl rfl) (S.assign rfl K) ?_
      refine U.done (nr rfl) ?_
      refine WP.ret ?_
      refine sqR ?_
      refine fin.slots' (.inr rfl) (fsC (L 1 rfl rfl) (fsC (L 0 rfl rfl) fsN)) rfl ⟨V131, rfl, (((((((le36.trans le48).trans le54).trans le63).trans le74).trans le83).trans le120).trans le132), ?_⟩
      have e134 := Option.some.inj h124
      subst e134
      exact ⟨rfl, ow133⟩
     ·have h135 := ifF c90 h89
      refine WP.skip ?_
      refine sqN ?_
      refine WP.usdreg rfl rfl rfl ?_
      refine U.p rfl rfl (.inl rfl) (S.move rfl (L 3 rfl rfl)) ?_
      refine U.p rfl rfl (.inl rfl) (S.move rfl (L 7 rfl rfl)) ?_
      refine U.p rfl rfl (.inl rfl) (S.move rfl (L 5 rfl rfl)) ?_
      refine U.p rfl rfl (.inl rfl) (S.move rfl (L 10 rfl rfl)) ?_
      refine U.p rfl rfl (.inl rfl) (S.move rfl (L 7 rfl rfl)) ?_
      refine U.p rfl rfl (.inl rfl) (S.move rfl (L 12 rfl rfl)) ?_
      obtain ⟨x136, hx137, h138⟩ := bindS h135
      obtain ⟨_, hv139, _⟩ := ow84.osel (k := 0) rfl hv10 hx137
      refine U.p rfl rfl (.inl rfl) (S.index rfl ((L 1 rfl rfl).trans hv139) (L 0 rfl rfl) Try.underlying38 ti45 (ix_ge hx137) (ix_lt hx137)) ?_
      obtain ⟨cs140, hv141, hlt142, hr143, hc144⟩ := ow84.osel (k := 0) rfl hv10 hx137
      obtain rfl : cs140 = [.int .i64 x136.e.t, .int .i64 x136.e.act.kind, .int .i64 x136.e.act.at_, .int .i64 x136.e.act.val, .int .i64 x136.e.act.what, .bool x136.e.act.volatile, .bool x136.e.act.final, .int .i64 x136.e.rf, .int .i64 x136.e.id, .int .i64 x136.at_] := hr143
      refine U.k rfl rfl (.inl rfl) (S.loadN (cs := [.int .i64 x136.e.t, .int .i64 x136.e.act.kind, .int .i64 x136.e.act.at_, .int .i64 x136.e.act.val, .int .i64 x136.e.act.what, .bool x136.e.act.volatile, .bool x136.e.act.final, .int .i64 x136.e.rf, .int .i64 x136.e.id, .int .i64 x136.at_]) rfl (L 0 rfl rfl) Try.underlying45 rfl ti45 rfl hc144) (fun _ => (okH.nil (fun r h => by cases h; exact hlt142))) ?_
      refine U.p rfl rfl (.inl rfl) (S.move rfl (L 11 rfl rfl)) ?_
      refine U.p rfl rfl (.inl rfl) (S.move rfl (L 15 rfl rfl)) ?_
      obtain ⟨x145, hx146, h147⟩ := bindS h138
      obtain ⟨_, hv148, _⟩ := ow84.osel (k := 0) rfl hv10 hx146
      refine U.p rfl rfl (.inl rfl) (S.index rfl ((L 1 rfl rfl).trans hv148) (L 0 rfl rfl) Try.underlying38 ti45 (ix_ge hx146) (ix_lt hx146)) ?_
      obtain ⟨cs149, hv150, hlt151, hr152, hc153⟩ := ow84.osel (k := 0) rfl hv10 hx146
      obtain rfl : cs149 = [.int .i64 x145.e.t, .int .i64 x145.e.act.kind, .int .i64 x145.e.act.at_, .int .i64 x145.e.act.val, .int .i64 x145.e.act.what, .bool x145.e.act.volatile, .bool x145.e.act.final, .int .i64 x145.e.rf, .int .i64 x145.e.id, .int .i64 x145.at_] := hr152
      refine U.k rfl rfl (.inl rfl) (S.loadN (cs := [.int .i64 x145.e.t, .int .i64 x145.e.act.kind, .int .i64 x145.e.act.at_, .int .i64 x145.e.act.val, .int .i64 x145.e.act.what, .bool x145.e.act.volatile, .bool x145.e.act.final, .int .i64 x145.e.rf, .int .i64 x145.e.id, .int .i64 x145.at_]) rfl (L 0 rfl rfl) Try.underlying45 rfl ti45 rfl hc153) (fun _ => (okH.cons trivial (okH.nil (fun r h => by cases h; exact hlt151)))) ?_
      obtain ⟨x154, hx155, h156⟩ := bindS h147
      obtain ⟨_, hv157, _⟩ := ow84.osel (k := 0) rfl hv10 hx155
      refine U.p rfl rfl (.inl rfl) (S.index rfl ((L 11 rfl rfl).trans hv157) (L 10 rfl rfl) Try.underlying38 ti45 (ix_ge hx155) (ix_lt hx155)) ?_
      obtain ⟨cs158, hv159, hlt160, hr161, hc162⟩ := ow84.osel (k := 0) rfl hv10 hx155
      obtain rfl : cs158 = [.int .i64 x154.e.t, .int .i64 x154.e.act.kind, .int .i64 x154.e.act.at_, .int .i64 x154.e.act.val, .int .i64 x154.e.act.what, .bool x154.e.act.volatile, .bool x154.e.act.final, .int .i64 x154.e.rf, .int .i64 x154.e.id, .int .i64 x154.at_] := hr161
      refine O.storeE (k := 0) (R := RT_Tnd) (j := 0) (y := x136) (cs := [.int .i64 x136.e.t, .int .i64 x136.e.act.kind, .int .i64 x136.e.act.at_, .int .i64 x136.e.act.val, .int .i64 x136.e.act.what, .bool x136.e.act.volatile, .bool x136.e.act.final, .int .i64 x136.e.rf, .int .i64 x136.e.id, .int .i64 x136.at_]) ow84 rfl hv159 rfl rfl (.inl rfl) rfl (L 0 rfl rfl) (L 5 rfl rfl) ti45 hx155 (by simp [topV]) rfl rfl rfl (full rfl) (fun H1 hs => (fun _ => (okH.cons (Or.inl rfl) (okH.cons (Or.inl rfl) (okH.nil (fun r h => nomatch h)))))) (fun V163 le164 ow165 => ?_)
      obtain ⟨x166, hx167, h168⟩ := bindS h156
      obtain ⟨_, hv169, _⟩ := ow165.osel (k := 0) rfl hv10 hx167
      refine U.p rfl rfl (.inl rfl) (S.index rfl ((L 10 rfl rfl).trans hv169) (L 9 rfl rfl) Try.underlying38 ti45 (ix_ge hx167) (ix_lt hx167)) ?_
      obtain ⟨cs170, hv171, hlt172, hr173, hc174⟩ := ow165.osel (k := 0) rfl hv10 hx167
      obtain rfl : cs170 = [.int .i64 x166.e.t, .int .i64 x166.e.act.kind, .int .i64 x166.e.act.at_, .int .i64 x166.e.act.val, .int .i64 x166.e.act.what, .bool x166.e.act.volatile, .bool x166.e.act.final, .int .i64 x166.e.rf, .int .i64 x166.e.id, .int .i64 x166.at_] := hr173
      refine O.storeE (k := 0) (R := RT_Tnd) (j := 0) (y := x145) (cs := [.int .i64 x145.e.t, .int .i64 x145.e.act.kind, .int .i64 x145.e.act.at_, .int .i64 x145.e.act.val, .int .i64 x145.e.act.what, .bool x145.e.act.volatile, .bool x145.e.act.final, .int .i64 x145.e.rf, .int .i64 x145.e.id, .int .i64 x145.at_]) ow165 rfl hv171 rfl rfl (.inl rfl) rfl (L 0 rfl rfl) (L 2 rfl rfl) ti45 hx167 (by simp [topV]) rfl rfl rfl (full rfl) (fun H1 hs => (fun _ => (okH.cons rfl (okH.cons (Or.inl rfl) (okH.cons (Or.inl rfl) (okH.nil (fun r h => nomatch h))))))) (fun V175 le176 ow177 => ?_)
      refine U.done (nr rfl) ?_
      refine WP.usreg rfl ?_
      refine U.p rfl rfl (.inl rfl) (S.move rfl (L 20 rfl rfl)) ?_
      refine U.p rfl rfl (.inl rfl) (S.add rfl (L 0 rfl rfl) K) ?_
      refine U.p rfl rfl (.inl rfl) (S.assign rfl (L 0 rfl rfl)) ?_
      refine U.done (nr rfl) ?_
      refine WP.usreg rfl ?_
      refine U.p rfl rfl (.inl rfl) (S.move rfl (L 24 rfl rfl)) ?_
      refine U.p rfl rfl (.inl rfl) (S.sub rfl (L 0 rfl rfl) K) ?_
      refine U.p rfl rfl (.inl rfl) (S.assign rfl (L 0 rfl rfl)) ?_
      refine U.done (nr rfl) ?_
      refine WP.seq ?_
      refine WP.blk ?_
      unfold s_partition_l3 at h168
      obtain ⟨n182, hn181⟩ := loopO_some.1 h168
      refine WP.loopI2 (fun n l V' => ∃ (xs178 : List Tnd) (x179 : Int) (x180 : Int), l = [(0, v1), (1, .int .i64 p1), (4, .func (.func 50) #[] #[]), (12, .int .i64 x179), (13, .int .i64 x180)] ∧ V175.le V' ∧ Ow V' (.os RT_Tnd v1 xs178 :: Rs) ∧ itO (fun s => s_partition_l3b p1 s.1 s.2.1 s.2.2) n (xs178, x179, x180) = some r) n182 _ ⟨(((p0.set (Int.toNat p1) x3).set (Int.toNat p3) x17).set (Int.toNat x50) x136).set (Int.toNat x70) x145, w64 (x50 + 1), w64 (x70 - 1), rfl, .refl _, ow177, hn181⟩ (allCons (L 23 rfl rfl) (allCons (L 24 rfl rfl) (allCons (L 25 rfl rfl) (allCons (L 3 rfl rfl) (allCons (L 0 rfl rfl) allNil))))) ?_
      rintro _ _ V183 ⟨xs178, x179, x180, rfl, le184, ow185, h189⟩
      obtain ⟨m186, q187, rfl, h190, e188⟩ := itS h189
      replace h190 : s_partition_l3b p1 xs178 x179 x180 = some q187 := h190
      unfold s_partition_l3b at h190
      refine WP.blk ?_
      refine WP.seq ?_
      refine WP.blk ?_
      unfold s_partition_l4 at h190
      obtain ⟨n193, hn192⟩ := loopO_some.1 h190
      refine WP.loopI2 (fun n l V' => ∃ (x191 : Int), l = [(0, v1), (1, .int .i64 p1), (4, .func (.func 50) #[] #[]), (12, .int .i64 x191), (13, .int .i64 x180)] ∧ V183.le V' ∧ Ow V' (.os RT_Tnd v1 xs178 :: Rs) ∧ itO (fun s => s_partition_l4b p1 xs178 x180 s) n x191 = some q187) n193 _ ⟨x179, rfl, .refl _, ow185, hn192⟩ (allCons (L 0 rfl rfl) (allCons (L 1 rfl rfl) (allCons (L 2 rfl rfl) (allCons (L 3 rfl rfl) (allCons (L 4 rfl rfl) allNil))))) ?_
      rintro _ _ V194 ⟨x191, rfl, le195, ow196, h200⟩
      obtain ⟨m197, q198, rfl, h201, e199⟩ := itS h200
      replace h201 : s_partition_l4b p1 xs178 x180 x191 = some q198 := h201
      unfold s_partition_l4b at h201
      refine WP.seq ?_
      refine WP.seqI (fun l V' => ∃ (x202 : Bool), l = [(0, v1), (1, .int .i64 p1), (4, .func (.func 50) #[] #[]), (12, .int .i64 x191), (13, .int .i64 x180), (120, .bool x202)] ∧ V194.le V' ∧ Ow V' (.os RT_Tnd v1 xs178 :: Rs) ∧ s_partition_k3 p1 xs178 x180 x191 x202 = some q198) ?_ ?_
      ·rintro _ V203 ⟨x202, rfl, le204, ow205, h206⟩
       unfold s_partition_k3 at h206
       refine WP.cond _ (L 5 rfl rfl) rfl (fun c207 => ?_) (fun c207 => ?_)
       ·have h208 := ifT c207 h206
        refine WP.skip ?_
        refine sqN ?_
        refine WP.blk ?_
        refine WP.ureg rfl ?_
        refine U.p rfl rfl (.inl rfl) (S.move rfl (L 3 rfl rfl)) ?_
        refine U.p rfl rfl (.inl rfl) (S.add rfl (L 0 rfl rfl) K) ?_
        refine U.p rfl rfl (.inl rfl) (S.assign rfl (L 0 rfl rfl)) ?_
        refine U.done (nr rfl) ?_
        refine blkN (sqN ?_)
        exact ⟨_, V203, rfl, ⟨m197, Nat.lt_succ_self _, w64 (x191 + 1), rfl, (le195.trans le204), ow205, backS h208 e199⟩, (allCons (L 3 rfl rfl) (allCons (L 4 rfl rfl) (allCons (L 5 rfl rfl) (allCons (L 0 rfl rfl) (allCons (L 7 rfl rfl) allNil)))))⟩
       ·have h209 := ifF c207 h206
        refine WP.exit ?_
        refine sqE (sqE (blkE (sqN ?_)))
        have h210 := exitS h209 e199
        refine WP.seq ?_
        refine WP.blk ?_
        unfold s_partition_l5 at h210
        obtain ⟨n213, hn212⟩ := loopO_some.1 h210
        refine WP.loopI2 (fun n l V' => ∃ (x211 : Int), l = [(0, v1), (1, .int .i64 p1), (4, .func (.func 50) #[] #[]), (12, .int .i64 x191), (13, .int .i64 x211)] ∧ V203.le V' ∧ Ow V' (.os RT_Tnd v1 xs178 :: Rs) ∧ itO (fun s => s_partition_l5b p1 xs178 x191 s) n x211 = some q187) n213 _ ⟨x180, rfl, .refl _, ow205, hn212⟩ (allCons (L 0 rfl rfl) (allCons (L 1 rfl rfl) (allCons (L 2 rfl rfl) (allCons (L 3 rfl rfl) (allCons (L 4 rfl rfl) allNil))))) ?_
        rintro _ _ V214 ⟨x211, rfl, le215, ow216, h220⟩
        obtain ⟨m217, q218, rfl, h221, e219⟩ := itS h220
        replace h221 : s_partition_l5b p1 xs178 x191 x211 = some q218 := h221
        unfold s_partition_l5b at h221
        refine WP.seq ?_
        refine WP.seqI (fun l V' => ∃ (x222 : Bool), l = [(0, v1), (1, .int .i64 p1), (4, .func (.func 50) #[] #[]), (12, .int .i64 x191), (13, .int .i64 x211), (139, .bool x222)] ∧ V214.le V' ∧ Ow V' (.os RT_Tnd v1 xs178 :: Rs) ∧ s_partition_k4 p1 xs178 x191 x211 x222 = some q218) ?_ ?_
        ·rintro _ V223 ⟨x222, rfl, le224, ow225, h226⟩
         unfold s_partition_k4 at h226
         refine WP.cond _ (L 5 rfl rfl) rfl (fun c227 => ?_) (fun c227 => ?_)
         ·have h228 := ifT c227 h226
          refine WP.skip ?_
          refine sqN ?_
          refine WP.blk ?_
          refine WP.ureg rfl ?_
          refine U.p rfl rfl (.inl rfl) (S.move rfl (L 4 rfl rfl)) ?_
          refine U.p rfl rfl (.inl rfl) (S.sub rfl (L 0 rfl rfl) K) ?_
          refine U.p rfl rfl (.inl rfl) (S.assign rfl (L 0 rfl rfl)) ?_
          refine U.done (nr rfl) ?_
          refine blkN (sqN ?_)
          exact ⟨_, V223, rfl, ⟨m217, Nat.lt_succ_self _, w64 (x211 - 1), rfl, (le215.trans le224), ow225, backS h228 e219⟩, (allCons (L 3 rfl rfl) (allCons (L 4 rfl rfl) (allCons (L 5 rfl rfl) (allCons (L 6 rfl rfl) (allCons (L 0 rfl rfl) allNil)))))⟩
         ·have h229 := ifF c227 h226
          refine WP.exit ?_
          refine sqE (sqE (blkE (sqN ?_)))
          have h230 := exitS h229 e219
          refine WP.seq ?_
          refine WP.usreg rfl ?_
          refine U.p rfl rfl (.inl rfl) (S.move rfl (L 3 rfl rfl)) ?_
          refine U.p rfl rfl (.inl rfl) (S.move rfl (L 5 rfl rfl)) ?_
          refine U.p rfl rfl (.inl rfl) (S.gtr rfl (L 1 rfl rfl) (L 0 rfl rfl)) ?_
          refine U.done (nr rfl) ?_
          refine WP.cond _ (L 0 rfl rfl) rfl (fun c231 => ?_) (fun c231 => ?_)
          ·have h232 := ifT c231 h230
           refine WP.exit ?_
           refine sqE (blkO rfl (sqE (blkE (sqN ?_))))
           have h233 := exitS h232 e188
           refine WP.usdreg rfl rfl rfl ?_
           refine U.p rfl rfl (.inl rfl) (S.move rfl (L 3 rfl rfl)) ?_
           refine U.p rfl rfl (.inl rfl) (S.move rfl (L 8 rfl rfl)) ?_
           refine U.p rfl rfl (.inl rfl) (S.move rfl (L 5 rfl rfl)) ?_
           refine U.p rfl rfl (.inl rfl) (S.move rfl (L 7 rfl rfl)) ?_
           refine U.p rfl rfl (.inl rfl) (S.move rfl (L 7 rfl rfl)) ?_
           refine U.p rfl rfl (.inl rfl) (S.move rfl (L 9 rfl rfl)) ?_
           obtain ⟨x234, hx235, h236⟩ := bindS h233
           obtain ⟨_, hv237, _⟩ := ow225.osel (k := 0) rfl hv10 hx235
           refine U.p rfl rfl (.inl rfl) (S.index rfl ((L 1 rfl rfl).trans hv237) (L 0 rfl rfl) Try.underlying38 ti45 (ix_ge hx235) (ix_lt hx235)) ?_
           obtain ⟨cs238, hv239, hlt240, hr241, hc242⟩ := ow225.osel (k := 0) rfl hv10 hx235
           obtain rfl : cs238 = [.int .i64 x234.e.t, .int .i64 x234.e.act.kind, .int .i64 x234.e.act.at_, .int .i64 x234.e.act.val, .int .i64 x234.e.act.what, .bool x234.e.act.volatile, .bool x234.e.act.final, .int .i64 x234.e.rf, .int .i64 x234.e.id, .int .i64 x234.at_] := hr241
           refine U.k rfl rfl (.inl rfl) (S.loadN (cs := [.int .i64 x234.e.t, .int .i64 x234.e.act.kind, .int .i64 x234.e.act.at_, .int .i64 x234.e.act.val, .int .i64 x234.e.act.what, .bool x234.e.act.volatile, .bool x234.e.act.final, .int .i64 x234.e.rf, .int .i64 x234.e.id, .int .i64 x234.at_]) rfl (L 0 rfl rfl) Try.underlying45 rfl ti45 rfl hc242) (fun _ => (okH.nil (fun r h => by cases h; exact hlt240))) ?_
           refine U.p rfl rfl (.inl rfl) (S.move rfl (L 11 rfl rfl)) ?_
           refine U.p rfl rfl (.inl rfl) (S.move rfl (L 16 rfl rfl)) ?_
           obtain ⟨x243, hx244, h245⟩ := bindS h236
           obtain ⟨_, hv246, _⟩ := ow225.osel (k := 0) rfl hv10 hx244
           refine U.p rfl rfl (.inl rfl) (S.index rfl ((L 1 rfl rfl).trans hv246) (L 0 rfl rfl) Try.underlying38 ti45 (ix_ge hx244) (ix_lt hx244)) ?_
           obtain ⟨cs247, hv248, hlt249, hr250, hc251⟩ := ow225.osel (k := 0) rfl hv10 hx244
           obtain rfl : cs247 = [.int .i64 x243.e.t, .int .i64 x243.e.act.kind, .int .i64 x243.e.act.at_, .int .i64 x243.e.act.val, .int .i64 x243.e.act.what, .bool x243.e.act.volatile, .bool x243.e.act.final, .int .i64 x243.e.rf, .int .i64 x243.e.id, .int .i64 x243.at_] := hr250
           refine U.k rfl rfl (.inl rfl) (S.loadN (cs := [.int .i64 x243.e.t, .int .i64 x243.e.act.kind, .int .i64 x243.e.act.at_, .int .i64 x243.e.act.val, .int .i64 x243.e.act.what, .bool x243.e.act.volatile, .bool x243.e.act.final, .int .i64 x243.e.rf, .int .i64 x243.e.id, .int .i64 x243.at_]) rfl (L 0 rfl rfl) Try.underlying45 rfl ti45 rfl hc251) (fun _ => (okH.cons trivial (okH.nil (fun r h => by cases h; exact hlt249)))) ?_
           obtain ⟨x252, hx253, h254⟩ := bindS h245
           obtain ⟨_, hv255, _⟩ := ow225.osel (k := 0) rfl hv10 hx253
           refine U.p rfl rfl (.inl rfl) (S.index rfl ((L 11 rfl rfl).trans hv255) (L 10 rfl rfl) Try.underlying38 ti45 (ix_ge hx253) (ix_lt hx253)) ?_
           obtain ⟨cs256, hv257, hlt258, hr259, hc260⟩ := ow225.osel (k := 0) rfl hv10 hx253
           obtain rfl : cs256 = [.int .i64 x252.e.t, .int .i64 x252.e.act.kind, .int .i64 x252.e.act.at_, .int .i64 x252.e.act.val, .int .i64 x252.e.act.what, .bool x252.e.act.volatile, .bool x252.e.act.final, .int .i64 x252.e.rf, .int .i64 x252.e.id, .int .i64 x252.at_] := hr259
           refine O.storeE (k := 0) (R := RT_Tnd) (j := 0) (y := x234) (cs := [.int .i64 x234.e.t, .int .i64 x234.e.act.kind, .int .i64 x234.e.act.at_, .int .i64 x234.e.act.val, .int .i64 x234.e.act.what, .bool x234.e.act.volatile, .bool x234.e.act.final, .int .i64 x234.e.rf, .int .i64 x234.e.id, .int .i64 x234.at_]) ow225 rfl hv257 rfl rfl (.inl rfl) rfl (L 0 rfl rfl) (L 5 rfl rfl) ti45 hx253 (by simp [topV]) rfl rfl rfl (full rfl) (fun H1 hs => (fun _ => (okH.cons (Or.inl rfl) (okH.cons (Or.inl rfl) (okH.nil (fun r h => nomatch h)))))) (fun V261 le262 ow263 => ?_)
           obtain ⟨x264, hx265, h266⟩ := bindS h254
           obtain ⟨_, hv267, _⟩ := ow263.osel (k := 0) rfl hv10 hx265
           refine U.p rfl rfl (.inl rfl) (S.index rfl ((L 10 rfl rfl).trans hv267) (L 9 rfl rfl) Try.underlying38 ti45 (ix_ge hx265) (ix_lt hx265)) ?_
           obtain ⟨cs268, hv269, hlt270, hr271, hc272⟩ := ow263.osel (k := 0) rfl hv10 hx265
           obtain rfl : cs268 = [.int .i64 x264.e.t, .int .i64 x264.e.act.kind, .int .i64 x264.e.act.at_, .int .i64 x264.e.act.val, .int .i64 x264.e.act.what, .bool x264.e.act.volatile, .bool x264.e.act.final, .int .i64 x264.e.rf, .int .i64 x264.e.id, .int .i64 x264.at_] := hr271
           refine O.storeE (k := 0) (R := RT_Tnd) (j := 0) (y := x243) (cs := [.int .i64 x243.e.t, .int .i64 x243.e.act.kind, .int .i64 x243.e.act.at_, .int .i64 x243.e.act.val, .int .i64 x243.e.act.what, .bool x243.e.act.volatile, .bool x243.e.act.final, .int .i64 x243.e.rf, .int .i64 x243.e.id, .int .i64 x243.at_]) ow263 rfl hv269 rfl rfl (.inl rfl) rfl (L 0 rfl rfl) (L 2 rfl rfl) ti45 hx265 (by simp [topV]) rfl rfl rfl (full rfl) (fun H1 hs => (fun _ => (okH.cons rfl (okH.cons (Or.inl rfl) (okH.cons (Or.inl rfl) (okH.nil (fun r h => nomatch h))))))) (fun V273 le274 ow275 => ?_)
           refine U.done (nr rfl) ?_
           refine WP.usreg rfl ?_
           refine U.p rfl rfl (.inl rfl) (S.move rfl (L 21 rfl rfl)) ?_
           refine U.p rfl rfl (.inl rfl) (S.assign rfl (L 0 rfl rfl)) ?_
           refine U.p rfl rfl (.inl rfl) (S.assign rfl K) ?_
           refine U.done (nr rfl) ?_
           refine WP.ret ?_
           refine fin.slots' (.inr rfl) (fsC (L 1 rfl rfl) (fsC (L 0 rfl rfl) fsN)) rfl ⟨V273, rfl, ((((((((((((((le36.trans le48).trans le54).trans le63).trans le74).trans le83).trans le164).trans le176).trans le184).trans le195).trans le204).trans le215).trans le224).trans le262).trans le274), ?_⟩
           have e276 := Option.some.inj h266
           subst e276
           exact ⟨rfl, ow275⟩
          ·have h277 := ifF c231 h230
           refine WP.skip ?_
           refine sqN ?_
           refine WP.usdreg rfl rfl rfl ?_
           refine U.p rfl rfl (.inl rfl) (S.move rfl (L 3 rfl rfl)) ?_
           refine U.p rfl rfl (.inl rfl) (S.move rfl (L 7 rfl rfl)) ?_
           refine U.p rfl rfl (.inl rfl) (S.move rfl (L 5 rfl rfl)) ?_
           refine U.p rfl rfl (.inl rfl) (S.move rfl (L 10 rfl rfl)) ?_
           refine U.p rfl rfl (.inl rfl) (S.move rfl (L 7 rfl rfl)) ?_
           refine U.p rfl rfl (.inl rfl) (S.move rfl (L 12 rfl rfl)) ?_
           obtain ⟨x278, hx279, h280⟩ := bindS h277
           obtain ⟨_, hv281, _⟩ := ow225.osel (k := 0) rfl hv10 hx279
           refine U.p rfl rfl (.inl rfl) (S.index rfl ((L 1 rfl rfl).trans hv281) (L 0 rfl rfl) Try.underlying38 ti45 (ix_ge hx279) (ix_lt hx279)) ?_
           obtain ⟨cs282, hv283, hlt284, hr285, hc286⟩ := ow225.osel (k := 0) rfl hv10 hx279
           obtain rfl : cs282 = [.int .i64 x278.e.t, .int .i64 x278.e.act.kind, .int .i64 x278.e.act.at_, .int .i64 x278.e.act.val, .int .i64 x278.e.act.what, .bool x278.e.act.volatile, .bool x278.e.act.final, .int .i64 x278.e.rf, .int .i64 x278.e.id, .int .i64 x278.at_] := hr285
           refine U.k rfl rfl (.inl rfl) (S.loadN (cs := [.int .i64 x278.e.t, .int .i64 x278.e.act.kind, .int .i64 x278.e.act.at_, .int .i64 x278.e.act.val, .int .i64 x278.e.act.what, .bool x278.e.act.volatile, .bool x278.e.act.final, .int .i64 x278.e.rf, .int .i64 x278.e.id, .int .i64 x278.at_]) rfl (L 0 rfl rfl) Try.underlying45 rfl ti45 rfl hc286) (fun _ => (okH.nil (fun r h => by cases h; exact hlt284))) ?_
           refine U.p rfl rfl (.inl rfl) (S.move rfl (L 11 rfl rfl)) ?_
           refine U.p rfl rfl (.inl rfl) (S.move rfl (L 15 rfl rfl)) ?_
           obtain ⟨x287, hx288, h289⟩ := bindS h280
           obtain ⟨_, hv290, _⟩ := ow225.osel (k := 0) rfl hv10 hx288
           refine U.p rfl rfl (.inl rfl) (S.index rfl ((L 1 rfl rfl).trans hv290) (L 0 rfl rfl) Try.underlying38 ti45 (ix_ge hx288) (ix_lt hx288)) ?_
           obtain ⟨cs291, hv292, hlt293, hr294, hc295⟩ := ow225.osel (k := 0) rfl hv10 hx288
           obtain rfl : cs291 = [.int .i64 x287.e.t, .int .i64 x287.e.act.kind, .int .i64 x287.e.act.at_, .int .i64 x287.e.act.val, .int .i64 x287.e.act.what, .bool x287.e.act.volatile, .bool x287.e.act.final, .int .i64 x287.e.rf, .int .i64 x287.e.id, .int .i64 x287.at_] := hr294
           refine U.k rfl rfl (.inl rfl) (S.loadN (cs := [.int .i64 x287.e.t, .int .i64 x287.e.act.kind, .int .i64 x287.e.act.at_, .int .i64 x287.e.act.val, .int .i64 x287.e.act.what, .bool x287.e.act.volatile, .bool x287.e.act.final, .int .i64 x287.e.rf, .int .i64 x287.e.id, .int .i64 x287.at_]) rfl (L 0 rfl rfl) Try.underlying45 rfl ti45 rfl hc295) (fun _ => (okH.cons trivial (okH.nil (fun r h => by cases h; exact hlt293)))) ?_
           obtain ⟨x296, hx297, h298⟩ := bindS h289
           obtain ⟨_, hv299, _⟩ := ow225.osel (k := 0) rfl hv10 hx297
           refine U.p rfl rfl (.inl rfl) (S.index rfl ((L 11 rfl rfl).trans hv299) (L 10 rfl rfl) Try.underlying38 ti45 (ix_ge hx297) (ix_lt hx297)) ?_
           obtain ⟨cs300, hv301, hlt302, hr303, hc304⟩ := ow225.osel (k := 0) rfl hv10 hx297
           obtain rfl : cs300 = [.int .i64 x296.e.t, .int .i64 x296.e.act.kind, .int .i64 x296.e.act.at_, .int .i64 x296.e.act.val, .int .i64 x296.e.act.what, .bool x296.e.act.volatile, .bool x296.e.act.final, .int .i64 x296.e.rf, .int .i64 x296.e.id, .int .i64 x296.at_] := hr303
           refine O.storeE (k := 0) (R := RT_Tnd) (j := 0) (y := x278) (cs := [.int .i64 x278.e.t, .int .i64 x278.e.act.kind, .int .i64 x278.e.act.at_, .int .i64 x278.e.act.val, .int .i64 x278.e.act.what, .bool x278.e.act.volatile, .bool x278.e.act.final, .int .i64 x278.e.rf, .int .i64 x278.e.id, .int .i64 x278.at_]) ow225 rfl hv301 rfl rfl (.inl rfl) rfl (L 0 rfl rfl) (L 5 rfl rfl) ti45 hx297 (by simp [topV]) rfl rfl rfl (full rfl) (fun H1 hs => (fun _ => (okH.cons (Or.inl rfl) (okH.cons (Or.inl rfl) (okH.nil (fun r h => nomatch h)))))) (fun V305 le306 ow307 => ?_)
           obtain ⟨x308, hx309, h310⟩ := bindS h298
           obtain ⟨_, hv311, _⟩ := ow307.osel (k := 0) rfl hv10 hx309
           refine U.p rfl rfl (.inl rfl) (S.index rfl ((L 10 rfl rfl).trans hv311) (L 9 rfl rfl) Try.underlying38 ti45 (ix_ge hx309) (ix_lt hx309)) ?_
           obtain ⟨cs312, hv313, hlt314, hr315, hc316⟩ := ow307.osel (k := 0) rfl hv10 hx309
           obtain rfl : cs312 = [.int .i64 x308.e.t, .int .i64 x308.e.act.kind, .int .i64 x308.e.act.at_, .int .i64 x308.e.act.val, .int .i64 x308.e.act.what, .bool x308.e.act.volatile, .bool x308.e.act.final, .int .i64 x308.e.rf, .int .i64 x308.e.id, .int .i64 x308.at_] := hr315
           refine O.storeE (k := 0) (R := RT_Tnd) (j := 0) (y := x287) (cs := [.int .i64 x287.e.t, .int .i64 x287.e.act.kind, .int .i64 x287.e.act.at_, .int .i64 x287.e.act.val, .int .i64 x287.e.act.what, .bool x287.e.act.volatile, .bool x287.e.act.final, .int .i64 x287.e.rf, .int .i64 x287.e.id, .int .i64 x287.at_]) ow307 rfl hv313 rfl rfl (.inl rfl) rfl (L 0 rfl rfl) (L 2 rfl rfl) ti45 hx309 (by simp [topV]) rfl rfl rfl (full rfl) (fun H1 hs => (fun _ => (okH.cons rfl (okH.cons (Or.inl rfl) (okH.cons (Or.inl rfl) (okH.nil (fun r h => nomatch h))))))) (fun V317 le318 ow319 => ?_)
           refine U.done (nr rfl) ?_
           refine WP.usreg rfl ?_
           refine U.p rfl rfl (.inl rfl) (S.move rfl (L 20 rfl rfl)) ?_
           refine U.p rfl rfl (.inl rfl) (S.add rfl (L 0 rfl rfl) K) ?_
           refine U.p rfl rfl (.inl rfl) (S.assign rfl (L 0 rfl rfl)) ?_
           refine U.done (nr rfl) ?_
           refine WP.ureg rfl ?_
           refine U.p rfl rfl (.inl rfl) (S.move rfl (L 24 rfl rfl)) ?_
           refine U.p rfl rfl (.inl rfl) (S.sub rfl (L 0 rfl rfl) K) ?_
           refine U.p rfl rfl (.inl rfl) (S.assign rfl (L 0 rfl rfl)) ?_
           refine U.done (nr rfl) ?_
           refine blkN (sqN ?_)
           exact ⟨_, V317, rfl, ⟨m186, Nat.lt_succ_self _, (xs178.set (Int.toNat x191) x278).set (Int.toNat x211) x287, w64 (x191 + 1), w64 (x211 - 1), rfl, ((((((le184.trans le195).trans le204).trans le215).trans le224).trans le306).trans le318), ow319, backS h310 e188⟩, (allCons (L 23 rfl rfl) (allCons (L 24 rfl rfl) (allCons (L 25 rfl rfl) (allCons (L 3 rfl rfl) (allCons (L 0 rfl rfl) allNil)))))⟩
        ·skip
         refine WP.udreg rfl rfl rfl ?_
         refine U.p rfl rfl (.inl rfl) (S.move rfl (L 3 rfl rfl)) ?_
         refine U.p rfl rfl (.inl rfl) (S.move rfl (L 5 rfl rfl)) ?_
         refine U.p rfl rfl (.inl rfl) (S.leq rfl (L 1 rfl rfl) (L 0 rfl rfl)) ?_
         refine U.p rfl rfl (.inl rfl) (S.move rfl (L 0 rfl rfl)) ?_
         refine bcase (b := decide (x191 ≤ x211)) (fun g320 => ?_) (fun g320 => ?_)
         ·have h321 := ifT g320 h221
          refine U.p rfl rfl (.inr ⟨_, _, _, rfl, rfl, ((L 0 rfl rfl).trans (congrArg Value.bool g320))⟩) (S.move rfl (L 6 rfl rfl)) ?_
          refine U.p rfl rfl (.inr ⟨_, _, _, rfl, rfl, ((L 1 rfl rfl).trans (congrArg Value.bool g320))⟩) (S.move rfl (L 5 rfl rfl)) ?_
          refine U.p rfl rfl (.inr ⟨_, _, _, rfl, rfl, ((L 2 rfl rfl).trans (congrArg Value.bool g320))⟩) (S.move rfl (L 10 rfl rfl)) ?_
          obtain ⟨x322, hx323, h324⟩ := bindS h321
          obtain ⟨_, hv325, _⟩ := ow216.osel (k := 0) rfl hv10 hx323
          refine U.p rfl rfl (.inr ⟨_, _, _, rfl, rfl, ((L 3 rfl rfl).trans (congrArg Value.bool g320))⟩) (S.index rfl ((L 1 rfl rfl).trans hv325) (L 0 rfl rfl) Try.underlying38 ti45 (ix_ge hx323) (ix_lt hx323)) ?_
          obtain ⟨cs326, hv327, hlt328, hr329, hc330⟩ := ow216.osel (k := 0) rfl hv10 hx323
          obtain rfl : cs326 = [.int .i64 x322.e.t, .int .i64 x322.e.act.kind, .int .i64 x322.e.act.at_, .int .i64 x322.e.act.val, .int .i64 x322.e.act.what, .bool x322.e.act.volatile, .bool x322.e.act.final, .int .i64 x322.e.rf, .int .i64 x322.e.id, .int .i64 x322.at_] := hr329
          refine U.k rfl rfl (.inr ⟨_, _, _, rfl, rfl, ((L 4 rfl rfl).trans (congrArg Value.bool g320))⟩) (S.loadN (cs := [.int .i64 x322.e.t, .int .i64 x322.e.act.kind, .int .i64 x322.e.act.at_, .int .i64 x322.e.act.val, .int .i64 x322.e.act.what, .bool x322.e.act.volatile, .bool x322.e.act.final, .int .i64 x322.e.rf, .int .i64 x322.e.id, .int .i64 x322.at_]) rfl (L 0 rfl rfl) Try.underlying45 rfl ti45 rfl hc330) (fun _ => (okH.nil (fun r h => by cases h; exact hlt328))) ?_
          refine U.p rfl rfl (.inr ⟨_, _, _, rfl, rfl, ((L 5 rfl rfl).trans (congrArg Value.bool g320))⟩) (S.move rfl (L 9 rfl rfl)) ?_
          refine U.p rfl rfl (.inr ⟨_, _, _, rfl, rfl, ((L 6 rfl rfl).trans (congrArg Value.bool g320))⟩) (S.move rfl (L 11 rfl rfl)) ?_
          obtain ⟨x331, hx332, h333⟩ := bindS h324
          obtain ⟨_, hv334, _⟩ := ow216.osel (k := 0) rfl hv10 hx332
          refine U.p rfl rfl (.inr ⟨_, _, _, rfl, rfl, ((L 7 rfl rfl).trans (congrArg Value.bool g320))⟩) (S.index rfl ((L 1 rfl rfl).trans hv334) (L 0 rfl rfl) Try.underlying38 ti45 (ix_ge hx332) (ix_lt hx332)) ?_
          obtain ⟨cs335, hv336, hlt337, hr338, hc339⟩ := ow216.osel (k := 0) rfl hv10 hx332
          obtain rfl : cs335 = [.int .i64 x331.e.t, .int .i64 x331.e.act.kind, .int .i64 x331.e.act.at_, .int .i64 x331.e.act.val, .int .i64 x331.e.act.what, .bool x331.e.act.volatile, .bool x331.e.act.final, .int .i64 x331.e.rf, .int .i64 x331.e.id, .int .i64 x331.at_] := hr338
          refine U.k rfl rfl (.inr ⟨_, _, _, rfl, rfl, ((L 8 rfl rfl).trans (congrArg Value.bool g320))⟩) (S.loadN (cs := [.int .i64 x331.e.t, .int .i64 x331.e.act.kind, .int .i64 x331.e.act.at_, .int .i64 x331.e.act.val, .int .i64 x331.e.act.what, .bool x331.e.act.volatile, .bool x331.e.act.final, .int .i64 x331.e.rf, .int .i64 x331.e.id, .int .i64 x331.at_]) rfl (L 0 rfl rfl) Try.underlying45 rfl ti45 rfl hc339) (fun _ => (okH.cons trivial (okH.nil (fun r h => by cases h; exact hlt337)))) ?_
          obtain ⟨x340, hx341, h342⟩ := bindS h333
          refine O.callv (V := V214) rfl rfl (.inr ⟨_, _, _, rfl, rfl, ((L 9 rfl rfl).trans (congrArg Value.bool g320))⟩) rfl (L 8 rfl rfl) en50 (aC (L 4 rfl rfl) (aC (L 0 rfl rfl) aN)) (wk_order_Run_Apart_c2 V214 _ x322 x331 ow216 _ hx341) (fun v343 V344 le345 hp346 => by obtain ⟨rfl, ow347⟩ := hp346; exact (fun _ => (okH.cons (Or.inl rfl) (okH.cons (Or.inl rfl) (okH.nil (fun r h => nomatch h)))))) (fun v343 V344 le345 hp346 => ?_)
          obtain ⟨rfl, ow347⟩ := hp346
          refine U.p rfl rfl (.inr ⟨_, _, _, rfl, rfl, ((L 10 rfl rfl).trans (congrArg Value.bool g320))⟩) (S.lss rfl (L 0 rfl rfl) K) ?_
          refine U.p rfl rfl (.inr ⟨_, _, _, rfl, rfl, ((L 11 rfl rfl).trans (congrArg Value.bool g320))⟩) (S.not rfl (L 0 rfl rfl)) ?_
          refine U.p rfl rfl (.inl rfl) (S.pickT rfl ((L 12 rfl rfl).trans (congrArg Value.bool g320)) (L 0 rfl rfl)) ?_
          refine U.done (nr rfl) ?_
          refine sqN ?_
          exact ⟨_, V344, rfl, ⟨!(decide (x340 < 0)), rfl, le345, ow347, h342⟩, (allCons (L 17 rfl rfl) (allCons (L 18 rfl rfl) (allCons (L 19 rfl rfl) (allCons (L 20 rfl rfl) (allCons (L 21 rfl rfl) (allCons (L 0 rfl rfl) allNil))))))⟩
         ·have h348 := ifF g320 h221
          refine U.x rfl rfl rfl rfl ((L 0 rfl rfl).trans (congrArg Value.bool g320)) (by decide) ?_
          refine U.x rfl rfl rfl rfl ((L 1 rfl rfl).trans (congrArg Value.bool g320)) (by decide) ?_
          refine U.x rfl rfl rfl rfl ((L 2 rfl rfl).trans (congrArg Value.bool g320)) (by decide) ?_
          refine U.x rfl rfl rfl rfl ((L 3 rfl rfl).trans (congrArg Value.bool g320)) (by decide) ?_
          refine U.x rfl rfl rfl rfl ((L 4 rfl rfl).trans (congrArg Value.bool g320)) (by decide) ?_
          refine U.x rfl rfl rfl rfl ((L 5 rfl rfl).trans (congrArg Value.bool g320)) (by decide) ?_
          refine U.x rfl rfl rfl rfl ((L 6 rfl rfl).trans (congrArg Value.bool g320)) (by decide) ?_
          refine U.x rfl rfl rfl rfl ((L 7 rfl rfl).trans (congrArg Value.bool g320)) (by decide) ?_
          refine U.x rfl rfl rfl rfl ((L 8 rfl rfl).trans (congrArg Value.bool g320)) (by decide) ?_
          refine U.x rfl rfl rfl rfl ((L 9 rfl rfl).trans (congrArg Value.bool g320)) (by decide) ?_
          refine U.x rfl rfl rfl rfl ((L 10 rfl rfl).trans (congrArg Value.bool g320)) (by decide) ?_
          refine U.x rfl rfl rfl rfl ((L 11 rfl rfl).trans (congrArg Value.bool g320)) (by decide) ?_
          refine U.p rfl rfl (.inl rfl) (S.pickF rfl ((L 12 rfl rfl).trans (congrArg Value.bool g320)) K) ?_
          refine U.done (nr rfl) ?_
          refine sqN ?_
          exact ⟨_, V214, rfl, ⟨false, rfl, (.refl _), ow216, h348⟩, (allCons (L 17 rfl rfl) (allCons (L 18 rfl rfl) (allCons (L 19 rfl rfl) (allCons (L 20 rfl rfl) (allCons (L 21 rfl rfl) (allCons (L 0 rfl rfl) allNil))))))⟩
      ·skip
       refine WP.udreg rfl rfl rfl ?_
       refine U.p rfl rfl (.inl rfl) (S.move rfl (L 3 rfl rfl)) ?_
       refine U.p rfl rfl (.inl rfl) (S.move rfl (L 5 rfl rfl)) ?_
       refine U.p rfl rfl (.inl rfl) (S.leq rfl (L 1 rfl rfl) (L 0 rfl rfl)) ?_
       refine U.p rfl rfl (.inl rfl) (S.move rfl (L 0 rfl rfl)) ?_
       refine bcase (b := decide (x191 ≤ x180)) (fun g349 => ?_) (fun g349 => ?_)
       ·have h350 := ifT g349 h201
        refine U.p rfl rfl (.inr ⟨_, _, _, rfl, rfl, ((L 0 rfl rfl).trans (congrArg Value.bool g349))⟩) (S.move rfl (L 6 rfl rfl)) ?_
        refine U.p rfl rfl (.inr ⟨_, _, _, rfl, rfl, ((L 1 rfl rfl).trans (congrArg Value.bool g349))⟩) (S.move rfl (L 5 rfl rfl)) ?_
        refine U.p rfl rfl (.inr ⟨_, _, _, rfl, rfl, ((L 2 rfl rfl).trans (congrArg Value.bool g349))⟩) (S.move rfl (L 9 rfl rfl)) ?_
        obtain ⟨x351, hx352, h353⟩ := bindS h350
        obtain ⟨_, hv354, _⟩ := ow196.osel (k := 0) rfl hv10 hx352
        refine U.p rfl rfl (.inr ⟨_, _, _, rfl, rfl, ((L 3 rfl rfl).trans (congrArg Value.bool g349))⟩) (S.index rfl ((L 1 rfl rfl).trans hv354) (L 0 rfl rfl) Try.underlying38 ti45 (ix_ge hx352) (ix_lt hx352)) ?_
        obtain ⟨cs355, hv356, hlt357, hr358, hc359⟩ := ow196.osel (k := 0) rfl hv10 hx352
        obtain rfl : cs355 = [.int .i64 x351.e.t, .int .i64 x351.e.act.kind, .int .i64 x351.e.act.at_, .int .i64 x351.e.act.val, .int .i64 x351.e.act.what, .bool x351.e.act.volatile, .bool x351.e.act.final, .int .i64 x351.e.rf, .int .i64 x351.e.id, .int .i64 x351.at_] := hr358
        refine U.k rfl rfl (.inr ⟨_, _, _, rfl, rfl, ((L 4 rfl rfl).trans (congrArg Value.bool g349))⟩) (S.loadN (cs := [.int .i64 x351.e.t, .int .i64 x351.e.act.kind, .int .i64 x351.e.act.at_, .int .i64 x351.e.act.val, .int .i64 x351.e.act.what, .bool x351.e.act.volatile, .bool x351.e.act.final, .int .i64 x351.e.rf, .int .i64 x351.e.id, .int .i64 x351.at_]) rfl (L 0 rfl rfl) Try.underlying45 rfl ti45 rfl hc359) (fun _ => (okH.nil (fun r h => by cases h; exact hlt357))) ?_
        refine U.p rfl rfl (.inr ⟨_, _, _, rfl, rfl, ((L 5 rfl rfl).trans (congrArg Value.bool g349))⟩) (S.move rfl (L 9 rfl rfl)) ?_
        refine U.p rfl rfl (.inr ⟨_, _, _, rfl, rfl, ((L 6 rfl rfl).trans (congrArg Value.bool g349))⟩) (S.move rfl (L 11 rfl rfl)) ?_
        obtain ⟨x360, hx361, h362⟩ := bindS h353
        obtain ⟨_, hv363, _⟩ := ow196.osel (k := 0) rfl hv10 hx361
        refine U.p rfl rfl (.inr ⟨_, _, _, rfl, rfl, ((L 7 rfl rfl).trans (congrArg Value.bool g349))⟩) (S.index rfl ((L 1 rfl rfl).trans hv363) (L 0 rfl rfl) Try.underlying38 ti45 (ix_ge hx361) (ix_lt hx361)) ?_
        obtain ⟨cs364, hv365, hlt366, hr367, hc368⟩ := ow196.osel (k := 0) rfl hv10 hx361
        obtain rfl : cs364 = [.int .i64 x360.e.t, .int .i64 x360.e.act.kind, .int .i64 x360.e.act.at_, .int .i64 x360.e.act.val, .int .i64 x360.e.act.what, .bool x360.e.act.volatile, .bool x360.e.act.final, .int .i64 x360.e.rf, .int .i64 x360.e.id, .int .i64 x360.at_] := hr367
        refine U.k rfl rfl (.inr ⟨_, _, _, rfl, rfl, ((L 8 rfl rfl).trans (congrArg Value.bool g349))⟩) (S.loadN (cs := [.int .i64 x360.e.t, .int .i64 x360.e.act.kind, .int .i64 x360.e.act.at_, .int .i64 x360.e.act.val, .int .i64 x360.e.act.what, .bool x360.e.act.volatile, .bool x360.e.act.final, .int .i64 x360.e.rf, .int .i64 x360.e.id, .int .i64 x360.at_]) rfl (L 0 rfl rfl) Try.underlying45 rfl ti45 rfl hc368) (fun _ => (okH.cons trivial (okH.nil (fun r h => by cases h; exact hlt366)))) ?_
        obtain ⟨x369, hx370, h371⟩ := bindS h362
        refine O.callv (V := V194) rfl rfl (.inr ⟨_, _, _, rfl, rfl, ((L 9 rfl rfl).trans (congrArg Value.bool g349))⟩) rfl (L 8 rfl rfl) en50 (aC (L 4 rfl rfl) (aC (L 0 rfl rfl) aN)) (wk_order_Run_Apart_c2 V194 _ x351 x360 ow196 _ hx370) (fun v372 V373 le374 hp375 => by obtain ⟨rfl, ow376⟩ := hp375; exact (fun _ => (okH.cons (Or.inl rfl) (okH.cons (Or.inl rfl) (okH.nil (fun r h => nomatch h)))))) (fun v372 V373 le374 hp375 => ?_)
        obtain ⟨rfl, ow376⟩ := hp375
        refine U.p rfl rfl (.inr ⟨_, _, _, rfl, rfl, ((L 10 rfl rfl).trans (congrArg Value.bool g349))⟩) (S.lss rfl (L 0 rfl rfl) K) ?_
        refine U.p rfl rfl (.inl rfl) (S.pickT rfl ((L 11 rfl rfl).trans (congrArg Value.bool g349)) (L 0 rfl rfl)) ?_
        refine U.done (nr rfl) ?_
        refine sqN ?_
        exact ⟨_, V373, rfl, ⟨decide (x369 < 0), rfl, le374, ow376, h371⟩, (allCons (L 16 rfl rfl) (allCons (L 17 rfl rfl) (allCons (L 18 rfl rfl) (allCons (L 19 rfl rfl) (allCons (L 20 rfl rfl) (allCons (L 0 rfl rfl) allNil))))))⟩
       ·have h377 := ifF g349 h201
        refine U.x rfl rfl rfl rfl ((L 0 rfl rfl).trans (congrArg Value.bool g349)) (by decide) ?_
        refine U.x rfl rfl rfl rfl ((L 1 rfl rfl).trans (congrArg Value.bool g349)) (by decide) ?_
        refine U.x rfl rfl rfl rfl ((L 2 rfl rfl).trans (congrArg Value.bool g349)) (by decide) ?_
        refine U.x rfl rfl rfl rfl ((L 3 rfl rfl).trans (congrArg Value.bool g349)) (by decide) ?_
        refine U.x rfl rfl rfl rfl ((L 4 rfl rfl).trans (congrArg Value.bool g349)) (by decide) ?_
        refine U.x rfl rfl rfl rfl ((L 5 rfl rfl).trans (congrArg Value.bool g349)) (by decide) ?_
        refine U.x rfl rfl rfl rfl ((L 6 rfl rfl).trans (congrArg Value.bool g349)) (by decide) ?_
        refine U.x rfl rfl rfl rfl ((L 7 rfl rfl).trans (congrArg Value.bool g349)) (by decide) ?_
        refine U.x rfl rfl rfl rfl ((L 8 rfl rfl).trans (congrArg Value.bool g349)) (by decide) ?_
        refine U.x rfl rfl rfl rfl ((L 9 rfl rfl).trans (congrArg Value.bool g349)) (by decide) ?_
        refine U.x rfl rfl rfl rfl ((L 10 rfl rfl).trans (congrArg Value.bool g349)) (by decide) ?_
        refine U.p rfl rfl (.inl rfl) (S.pickF rfl ((L 11 rfl rfl).trans (congrArg Value.bool g349)) K) ?_
        refine U.done (nr rfl) ?_
        refine sqN ?_
        exact ⟨_, V194, rfl, ⟨false, rfl, (.refl _), ow196, h377⟩, (allCons (L 16 rfl rfl) (allCons (L 17 rfl rfl) (allCons (L 18 rfl rfl) (allCons (L 19 rfl rfl) (allCons (L 20 rfl rfl) (allCons (L 0 rfl rfl) allNil))))))⟩
   ·skip
    refine WP.udreg rfl rfl rfl ?_
    refine U.p rfl rfl (.inl rfl) (S.move rfl (L 3 rfl rfl)) ?_
    refine U.p rfl rfl (.inl rfl) (S.move rfl (L 5 rfl rfl)) ?_
    refine U.p rfl rfl (.inl rfl) (S.leq rfl (L 1 rfl rfl) (L 0 rfl rfl)) ?_
    refine U.p rfl rfl (.inl rfl) (S.move rfl (L 0 rfl rfl)) ?_
    refine bcase (b := decide (x50 ≤ x70)) (fun g378 => ?_) (fun g378 => ?_)
    ·have h379 := ifT g378 h80
     refine U.p rfl rfl (.inr ⟨_, _, _, rfl, rfl, ((L 0 rfl rfl).trans (congrArg Value.bool g378))⟩) (S.move rfl (L 6 rfl rfl)) ?_
     refine U.p rfl rfl (.inr ⟨_, _, _, rfl, rfl, ((L 1 rfl rfl).trans (congrArg Value.bool g378))⟩) (S.move rfl (L 5 rfl rfl)) ?_
     refine U.p rfl rfl (.inr ⟨_, _, _, rfl, rfl, ((L 2 rfl rfl).trans (congrArg Value.bool g378))⟩) (S.move rfl (L 10 rfl rfl)) ?_
     obtain ⟨x380, hx381, h382⟩ := bindS h379
     obtain ⟨_, hv383, _⟩ := ow75.osel (k := 0) rfl hv10 hx381
     refine U.p rfl rfl (.inr ⟨_, _, _, rfl, rfl, ((L 3 rfl rfl).trans (congrArg Value.bool g378))⟩) (S.index rfl ((L 1 rfl rfl).trans hv383) (L 0 rfl rfl) Try.underlying38 ti45 (ix_ge hx381) (ix_lt hx381)) ?_
     obtain ⟨cs384, hv385, hlt386, hr387, hc388⟩ := ow75.osel (k := 0) rfl hv10 hx381
     obtain rfl : cs384 = [.int .i64 x380.e.t, .int .i64 x380.e.act.kind, .int .i64 x380.e.act.at_, .int .i64 x380.e.act.val, .int .i64 x380.e.act.what, .bool x380.e.act.volatile, .bool x380.e.act.final, .int .i64 x380.e.rf, .int .i64 x380.e.id, .int .i64 x380.at_] := hr387
     refine U.k rfl rfl (.inr ⟨_, _, _, rfl, rfl, ((L 4 rfl rfl).trans (congrArg Value.bool g378))⟩) (S.loadN (cs := [.int .i64 x380.e.t, .int .i64 x380.e.act.kind, .int .i64 x380.e.act.at_, .int .i64 x380.e.act.val, .int .i64 x380.e.act.what, .bool x380.e.act.volatile, .bool x380.e.act.final, .int .i64 x380.e.rf, .int .i64 x380.e.id, .int .i64 x380.at_]) rfl (L 0 rfl rfl) Try.underlying45 rfl ti45 rfl hc388) (fun _ => (okH.nil (fun r h => by cases h; exact hlt386))) ?_
     refine U.p rfl rfl (.inr ⟨_, _, _, rfl, rfl, ((L 5 rfl rfl).trans (congrArg Value.bool g378))⟩) (S.move rfl (L 9 rfl rfl)) ?_
     refine U.p rfl rfl (.inr ⟨_, _, _, rfl, rfl, ((L 6 rfl rfl).trans (congrArg Value.bool g378))⟩) (S.move rfl (L 11 rfl rfl)) ?_
     obtain ⟨x389, hx390, h391⟩ := bindS h382
     obtain ⟨_, hv392, _⟩ := ow75.osel (k := 0) rfl hv10 hx390
     refine U.p rfl rfl (.inr ⟨_, _, _, rfl, rfl, ((L 7 rfl rfl).trans (congrArg Value.bool g378))⟩) (S.index rfl ((L 1 rfl rfl).trans hv392) (L 0 rfl rfl) Try.underlying38 ti45 (ix_ge hx390) (ix_lt hx390)) ?_
     obtain ⟨cs393, hv394, hlt395, hr396, hc397⟩ := ow75.osel (k := 0) rfl hv10 hx390
     obtain rfl : cs393 = [.int .i64 x389.e.t, .int .i64 x389.e.act.kind, .int .i64 x389.e.act.at_, .int .i64 x389.e.act.val, .int .i64 x389.e.act.what, .bool x389.e.act.volatile, .bool x389.e.act.final, .int .i64 x389.e.rf, .int .i64 x389.e.id, .int .i64 x389.at_] := hr396
     refine U.k rfl rfl (.inr ⟨_, _, _, rfl, rfl, ((L 8 rfl rfl).trans (congrArg Value.bool g378))⟩) (S.loadN (cs := [.int .i64 x389.e.t, .int .i64 x389.e.act.kind, .int .i64 x389.e.act.at_, .int .i64 x389.e.act.val, .int .i64 x389.e.act.what, .bool x389.e.act.volatile, .bool x389.e.act.final, .int .i64 x389.e.rf, .int .i64 x389.e.id, .int .i64 x389.at_]) rfl (L 0 rfl rfl) Try.underlying45 rfl ti45 rfl hc397) (fun _ => (okH.cons trivial (okH.nil (fun r h => by cases h; exact hlt395)))) ?_
     obtain ⟨x398, hx399, h400⟩ := bindS h391
     refine O.callv (V := V73) rfl rfl (.inr ⟨_, _, _, rfl, rfl, ((L 9 rfl rfl).trans (congrArg Value.bool g378))⟩) rfl (L 8 rfl rfl) en50 (aC (L 4 rfl rfl) (aC (L 0 rfl rfl) aN)) (wk_order_Run_Apart_c2 V73 _ x380 x389 ow75 _ hx399) (fun v401 V402 le403 hp404 => by obtain ⟨rfl, ow405⟩ := hp404; exact (fun _ => (okH.cons (Or.inl rfl) (okH.cons (Or.inl rfl) (okH.nil (fun r h => nomatch h)))))) (fun v401 V402 le403 hp404 => ?_)
     obtain ⟨rfl, ow405⟩ := hp404
     refine U.p rfl rfl (.inr ⟨_, _, _, rfl, rfl, ((L 10 rfl rfl).trans (congrArg Value.bool g378))⟩) (S.lss rfl (L 0 rfl rfl) K) ?_
     refine U.p rfl rfl (.inr ⟨_, _, _, rfl, rfl, ((L 11 rfl rfl).trans (congrArg Value.bool g378))⟩) (S.not rfl (L 0 rfl rfl)) ?_
     refine U.p rfl rfl (.inl rfl) (S.pickT rfl ((L 12 rfl rfl).trans (congrArg Value.bool g378)) (L 0 rfl rfl)) ?_
     refine U.done (nr rfl) ?_
     refine sqN ?_
     exact ⟨_, V402, rfl, ⟨!(decide (x398 < 0)), rfl, le403, ow405, h400⟩, (allCons (L 17 rfl rfl) (allCons (L 18 rfl rfl) (allCons (L 19 rfl rfl) (allCons (L 20 rfl rfl) (allCons (L 21 rfl rfl) (allCons (L 0 rfl rfl) allNil))))))⟩
    ·have h406 := ifF g378 h80
     refine U.x rfl rfl rfl rfl ((L 0 rfl rfl).trans (congrArg Value.bool g378)) (by decide) ?_
     refine U.x rfl rfl rfl rfl ((L 1 rfl rfl).trans (congrArg Value.bool g378)) (by decide) ?_
     refine U.x rfl rfl rfl rfl ((L 2 rfl rfl).trans (congrArg Value.bool g378)) (by decide) ?_
     refine U.x rfl rfl rfl rfl ((L 3 rfl rfl).trans (congrArg Value.bool g378)) (by decide) ?_
     refine U.x rfl rfl rfl rfl ((L 4 rfl rfl).trans (congrArg Value.bool g378)) (by decide) ?_
     refine U.x rfl rfl rfl rfl ((L 5 rfl rfl).trans (congrArg Value.bool g378)) (by decide) ?_
     refine U.x rfl rfl rfl rfl ((L 6 rfl rfl).trans (congrArg Value.bool g378)) (by decide) ?_
     refine U.x rfl rfl rfl rfl ((L 7 rfl rfl).trans (congrArg Value.bool g378)) (by decide) ?_
     refine U.x rfl rfl rfl rfl ((L 8 rfl rfl).trans (congrArg Value.bool g378)) (by decide) ?_
     refine U.x rfl rfl rfl rfl ((L 9 rfl rfl).trans (congrArg Value.bool g378)) (by decide) ?_
     refine U.x rfl rfl rfl rfl ((L 10 rfl rfl).trans (congrArg Value.bool g378)) (by decide) ?_
     refine U.x rfl rfl rfl rfl ((L 11 rfl rfl).trans (congrArg Value.bool g378)) (by decide) ?_
     refine U.p rfl rfl (.inl rfl) (S.pickF rfl ((L 12 rfl rfl).trans (congrArg Value.bool g378)) K) ?_
     refine U.done (nr rfl) ?_
     refine sqN ?_
     exact ⟨_, V73, rfl, ⟨false, rfl, (.refl _), ow75, h406⟩, (allCons (L 17 rfl rfl) (allCons (L 18 rfl rfl) (allCons (L 19 rfl rfl) (allCons (L 20 rfl rfl) (allCons (L 21 rfl rfl) (allCons (L 0 rfl rfl) allNil))))))⟩
 ·skip
  refine WP.udreg rfl rfl rfl ?_
  refine U.p rfl rfl (.inl rfl) (S.move rfl (L 3 rfl rfl)) ?_
  refine U.p rfl rfl (.inl rfl) (S.move rfl (L 5 rfl rfl)) ?_
  refine U.p rfl rfl (.inl rfl) (S.leq rfl (L 1 rfl rfl) (L 0 rfl rfl)) ?_
  refine U.p rfl rfl (.inl rfl) (S.move rfl (L 0 rfl rfl)) ?_
  refine bcase (b := decide (x50 ≤ (w64 (p2 - 1)))) (fun g407 => ?_) (fun g407 => ?_)
  ·have h408 := ifT g407 h60
   refine U.p rfl rfl (.inr ⟨_, _, _, rfl, rfl, ((L 0 rfl rfl).trans (congrArg Value.bool g407))⟩) (S.move rfl (L 6 rfl rfl)) ?_
   refine U.p rfl rfl (.inr ⟨_, _, _, rfl, rfl, ((L 1 rfl rfl).trans (congrArg Value.bool g407))⟩) (S.move rfl (L 5 rfl rfl)) ?_
   refine U.p rfl rfl (.inr ⟨_, _, _, rfl, rfl, ((L 2 rfl rfl).trans (congrArg Value.bool g407))⟩) (S.move rfl (L 9 rfl rfl)) ?_
   obtain ⟨x409, hx410, h411⟩ := bindS h408
   obtain ⟨_, hv412, _⟩ := ow55.osel (k := 0) rfl hv10 hx410
   refine U.p rfl rfl (.inr ⟨_, _, _, rfl, rfl, ((L 3 rfl rfl).trans (congrArg Value.bool g407))⟩) (S.index rfl ((L 1 rfl rfl).trans hv412) (L 0 rfl rfl) Try.underlying38 ti45 (ix_ge hx410) (ix_lt hx410)) ?_
   obtain ⟨cs413, hv414, hlt415, hr416, hc417⟩ := ow55.osel (k := 0) rfl hv10 hx410
   obtain rfl : cs413 = [.int .i64 x409.e.t, .int .i64 x409.e.act.kind, .int .i64 x409.e.act.at_, .int .i64 x409.e.act.val, .int .i64 x409.e.act.what, .bool x409.e.act.volatile, .bool x409.e.act.final, .int .i64 x409.e.rf, .int .i64 x409.e.id, .int .i64 x409.at_] := hr416
   refine U.k rfl rfl (.inr ⟨_, _, _, rfl, rfl, ((L 4 rfl rfl).trans (congrArg Value.bool g407))⟩) (S.loadN (cs := [.int .i64 x409.e.t, .int .i64 x409.e.act.kind, .int .i64 x409.e.act.at_, .int .i64 x409.e.act.val, .int .i64 x409.e.act.what, .bool x409.e.act.volatile, .bool x409.e.act.final, .int .i64 x409.e.rf, .int .i64 x409.e.id, .int .i64 x409.at_]) rfl (L 0 rfl rfl) Try.underlying45 rfl ti45 rfl hc417) (fun _ => (okH.nil (fun r h => by cases h; exact hlt415))) ?_
   refine U.p rfl rfl (.inr ⟨_, _, _, rfl, rfl, ((L 5 rfl rfl).trans (congrArg Value.bool g407))⟩) (S.move rfl (L 9 rfl rfl)) ?_
   refine U.p rfl rfl (.inr ⟨_, _, _, rfl, rfl, ((L 6 rfl rfl).trans (congrArg Value.bool g407))⟩) (S.move rfl (L 11 rfl rfl)) ?_
   obtain ⟨x418, hx419, h420⟩ := bindS h411
   obtain ⟨_, hv421, _⟩ := ow55.osel (k := 0) rfl hv10 hx419
   refine U.p rfl rfl (.inr ⟨_, _, _, rfl, rfl, ((L 7 rfl rfl).trans (congrArg Value.bool g407))⟩) (S.index rfl ((L 1 rfl rfl).trans hv421) (L 0 rfl rfl) Try.underlying38 ti45 (ix_ge hx419) (ix_lt hx419)) ?_
   obtain ⟨cs422, hv423, hlt424, hr425, hc426⟩ := ow55.osel (k := 0) rfl hv10 hx419
   obtain rfl : cs422 = [.int .i64 x418.e.t, .int .i64 x418.e.act.kind, .int .i64 x418.e.act.at_, .int .i64 x418.e.act.val, .int .i64 x418.e.act.what, .bool x418.e.act.volatile, .bool x418.e.act.final, .int .i64 x418.e.rf, .int .i64 x418.e.id, .int .i64 x418.at_] := hr425
   refine U.k rfl rfl (.inr ⟨_, _, _, rfl, rfl, ((L 8 rfl rfl).trans (congrArg Value.bool g407))⟩) (S.loadN (cs := [.int .i64 x418.e.t, .int .i64 x418.e.act.kind, .int .i64 x418.e.act.at_, .int .i64 x418.e.act.val, .int .i64 x418.e.act.what, .bool x418.e.act.volatile, .bool x418.e.act.final, .int .i64 x418.e.rf, .int .i64 x418.e.id, .int .i64 x418.at_]) rfl (L 0 rfl rfl) Try.underlying45 rfl ti45 rfl hc426) (fun _ => (okH.cons trivial (okH.nil (fun r h => by cases h; exact hlt424)))) ?_
   obtain ⟨x427, hx428, h429⟩ := bindS h420
   refine O.callv (V := V53) rfl rfl (.inr ⟨_, _, _, rfl, rfl, ((L 9 rfl rfl).trans (congrArg Value.bool g407))⟩) rfl (L 8 rfl rfl) en50 (aC (L 4 rfl rfl) (aC (L 0 rfl rfl) aN)) (wk_order_Run_Apart_c2 V53 _ x409 x418 ow55 _ hx428) (fun v430 V431 le432 hp433 => by obtain ⟨rfl, ow434⟩ := hp433; exact (fun _ => (okH.cons (Or.inl rfl) (okH.cons (Or.inl rfl) (okH.nil (fun r h => nomatch h)))))) (fun v430 V431 le432 hp433 => ?_)
   obtain ⟨rfl, ow434⟩ := hp433
   refine U.p rfl rfl (.inr ⟨_, _, _, rfl, rfl, ((L 10 rfl rfl).trans (congrArg Value.bool g407))⟩) (S.lss rfl (L 0 rfl rfl) K) ?_
   refine U.p rfl rfl (.inl rfl) (S.pickT rfl ((L 11 rfl rfl).trans (congrArg Value.bool g407)) (L 0 rfl rfl)) ?_
   refine U.done (nr rfl) ?_
   refine sqN ?_
   exact ⟨_, V431, rfl, ⟨decide (x427 < 0), rfl, le432, ow434, h429⟩, (allCons (L 16 rfl rfl) (allCons (L 17 rfl rfl) (allCons (L 18 rfl rfl) (allCons (L 19 rfl rfl) (allCons (L 20 rfl rfl) (allCons (L 0 rfl rfl) allNil))))))⟩
  ·have h435 := ifF g407 h60
   refine U.x rfl rfl rfl rfl ((L 0 rfl rfl).trans (congrArg Value.bool g407)) (by decide) ?_
   refine U.x rfl rfl rfl rfl ((L 1 rfl rfl).trans (congrArg Value.bool g407)) (by decide) ?_
   refine U.x rfl rfl rfl rfl ((L 2 rfl rfl).trans (congrArg Value.bool g407)) (by decide) ?_
   refine U.x rfl rfl rfl rfl ((L 3 rfl rfl).trans (congrArg Value.bool g407)) (by decide) ?_
   refine U.x rfl rfl rfl rfl ((L 4 rfl rfl).trans (congrArg Value.bool g407)) (by decide) ?_
   refine U.x rfl rfl rfl rfl ((L 5 rfl rfl).trans (congrArg Value.bool g407)) (by decide) ?_
   refine U.x rfl rfl rfl rfl ((L 6 rfl rfl).trans (congrArg Value.bool g407)) (by decide) ?_
   refine U.x rfl rfl rfl rfl ((L 7 rfl rfl).trans (congrArg Value.bool g407)) (by decide) ?_
   refine U.x rfl rfl rfl rfl ((L 8 rfl rfl).trans (congrArg Value.bool g407)) (by decide) ?_
   refine U.x rfl rfl rfl rfl ((L 9 rfl rfl).trans (congrArg Value.bool g407)) (by decide) ?_
   refine U.x rfl rfl rfl rfl ((L 10 rfl rfl).trans (congrArg Value.bool g407)) (by decide) ?_
   refine U.p rfl rfl (.inl rfl) (S.pickF rfl ((L 11 rfl rfl).trans (congrArg Value.bool g407)) K) ?_
   refine U.done (nr rfl) ?_
   refine sqN ?_
   exact ⟨_, V53, rfl, ⟨false, rfl, (.refl _), ow55, h435⟩, (allCons (L 16 rfl rfl) (allCons (L 17 rfl rfl) (allCons (L 18 rfl rfl) (allCons (L 19 rfl rfl) (allCons (L 20 rfl rfl) (allCons (L 0 rfl rfl) allNil))))))⟩
set_option maxHeartbeats 4000000 in
set_option maxRecDepth 10000 in
theorem wk_slices_nextPowerOfTwo (V : Vw) (Rs : List At) (p0 : Int) (ow : Ow V (Rs)) (r : Int) (h : slices_nextPowerOfTwo p0 = some r) : ∃ v V', Cl Try.prog 0 72 #[.int .i64 p0] V.H v V'.H ∧ V.le V' ∧ (v = .int .u64 r ∧ Ow V' (Rs)) := by
 refine Ct.of (Nat.zero_le _) Try.func72 rfl (nr rfl) ?_
 unfold slices_nextPowerOfTwo at h
 refine WP.usreg rfl ?_
 refine U.p rfl rfl (.inl rfl) (S.assign rfl K) ?_
 refine U.done (nr rfl) ?_
 refine WP.usreg rfl ?_
 refine U.p rfl rfl (.inl rfl) (S.move rfl (L 1 rfl rfl)) ?_
 refine U.p rfl rfl (.inl rfl) (S.conv rfl (L 0 rfl rfl) Try.underlying3 Try.underlying34) ?_
 obtain ⟨x1, hx2, h3⟩ := bindS h
 refine O.call (V := V) rfl rfl (.inl rfl) rfl en59 (aC (L 0 rfl rfl) aN) (wk_math_bits_Len V _ (IntKind.wrap .u64 p0) ow _ hx2) (fun _ _ _ _ => nd) (fun v4 V5 le6 hp7 => ?_)
 obtain ⟨rfl, ow8⟩ := hp7
 obtain ⟨x9, hx10, h11⟩ := bindS h3
 refine U.p rfl rfl (.inl rfl) (S.shl hx10 rfl K (L 0 rfl rfl)) ?_
 refine U.p rfl rfl (.inl rfl) (S.assign rfl (L 0 rfl rfl)) ?_
 refine U.done (nr rfl) ?_
 refine WP.ret ?_
 refine fin.slot (.inr rfl) rfl (L 0 rfl rfl) ⟨V5, rfl, le6, ?_⟩
 have e12 := Option.some.inj h11
 subst e12
 exact ⟨rfl, ow8⟩
set_option maxHeartbeats 4000000 in
set_option maxRecDepth 10000 in
theorem wk_slices_xorshift_Next (V : Vw) (Rs : List At) (p0 : Int) (b1 : Nat) (z2 : Nat) (ow : Ow V (.pt b1 (.cells z2 [.int .u64 p0]) :: Rs)) (r : Int × Int) (h : slices_xorshift_Next p0 = some r) : ∃ v V', Cl Try.prog 0 73 #[.pointer (some ⟨b1, 0, none⟩)] V.H v V'.H ∧ V.le V' ∧ (v = .int .u64 r.1 ∧ Ow V' (.pt b1 (.cells z2 [.int .u64 r.2]) :: Rs)) := by
 refine Ct.of (Nat.zero_le _) Try.func73 rfl (nr rfl) ?_
 unfold slices_xorshift_Next at h
 refine WP.usreg rfl ?_
 refine U.p rfl rfl (.inl rfl) (S.assign rfl K) ?_
 refine U.done (nr rfl) ?_
 refine WP.usdreg rfl rfl rfl ?_
 refine U.p rfl rfl (.inl rfl) (S.move rfl (L 1 rfl rfl)) ?_
 refine U.p rfl rfl (.inl rfl) (S.nilCheck rfl (L 0 rfl rfl)) ?_
 refine U.k rfl rfl (.inl rfl) (S.load rfl (L 0 rfl rfl) Try.underlying88 rfl ((ow.own (k := 0) rfl).cell rfl)) (fun _ => (okH.nil (fun r h => by cases h; exact (ow.own (k := 0) rfl).lt))) ?_
 refine U.p rfl rfl (.inl rfl) (S.move rfl (L 4 rfl rfl)) ?_
 refine U.p rfl rfl (.inl rfl) (S.nilCheck rfl (L 0 rfl rfl)) ?_
 refine U.k rfl rfl (.inl rfl) (S.load rfl (L 0 rfl rfl) Try.underlying88 rfl ((ow.own (k := 0) rfl).cell rfl)) (fun _ => (okH.cons trivial (okH.nil (fun r h => by cases h; exact (ow.own (k := 0) rfl).lt)))) ?_
 obtain ⟨x4, hx5, h6⟩ := bindS h
 refine U.p rfl rfl (.inl rfl) (S.shl hx5 rfl (L 0 rfl rfl) K) ?_
 refine U.p rfl rfl (.inl rfl) (S.xorI rfl (L 4 rfl rfl) (L 0 rfl rfl)) ?_
 refine U.p rfl rfl (.inl rfl) (S.nilCheck rfl (L 7 rfl rfl)) ?_
 refine O.store (k := 0) (cs := [.int .u64 (xorB .u64 p0 x4)]) (c' := [.int .u64 (xorB .u64 p0 x4)]) ow rfl rfl rfl (.inl rfl) rfl (L 0 rfl rfl) (L 1 rfl rfl) ti88 (by simp [topV]) rfl rfl (nr rfl) rfl rfl (fun _ => (okH.cons (Or.inl rfl) (okH.cons (Or.inl rfl) (okH.nil (fun r h => nomatch h))))) (fun V7 le8 ow9 => ?_)
 refine U.done (nr rfl) ?_
 refine WP.usdreg rfl rfl rfl ?_
 refine U.p rfl rfl (.inl rfl) (S.move rfl (L 10 rfl rfl)) ?_
 refine U.p rfl rfl (.inl rfl) (S.nilCheck rfl (L 0 rfl rfl)) ?_
 refine U.k rfl rfl (.inl rfl) (S.load rfl (L 0 rfl rfl) Try.underlying88 rfl ((ow9.own (k := 0) rfl).cell rfl)) (fun _ => (okH.nil (fun r h => by cases h; exact (ow9.own (k := 0) rfl).lt))) ?_
 refine U.p rfl rfl (.inl rfl) (S.move rfl (L 13 rfl rfl)) ?_
 refine U.p rfl rfl (.inl rfl) (S.nilCheck rfl (L 0 rfl rfl)) ?_
 refine U.k rfl rfl (.inl rfl) (S.load rfl (L 0 rfl rfl) Try.underlying88 rfl ((ow9.own (k := 0) rfl).cell rfl)) (fun _ => (okH.cons trivial (okH.nil (fun r h => by cases h; exact (ow9.own (k := 0) rfl).lt)))) ?_
 obtain ⟨x10, hx11, h12⟩ := bindS h6
 refine U.p rfl rfl (.inl rfl) (S.shr hx11 rfl (L 0 rfl rfl) K) ?_
 refine U.p rfl rfl (.inl rfl) (S.xorI rfl (L 4 rfl rfl) (L 0 rfl rfl)) ?_
 refine U.p rfl rfl (.inl rfl) (S.nilCheck rfl (L 7 rfl rfl)) ?_
 refine O.store (k := 0) (cs := [.int .u64 (xorB .u64 (xorB .u64 p0 x4) x10)]) (c' := [.int .u64 (xorB .u64 (xorB .u64 p0 x4) x10)]) ow9 rfl rfl rfl (.inl rfl) rfl (L 0 rfl rfl) (L 1 rfl rfl) ti88 (by simp [topV]) rfl rfl (nr rfl) rfl rfl (fun _ => (okH.cons (Or.inl rfl) (okH.cons (Or.inl rfl) (okH.nil (fun r h => nomatch h))))) (fun V13 le14 ow15 => ?_)
 refine U.done (nr rfl) ?_
 refine WP.usdreg rfl rfl rfl ?_
 refine U.p rfl rfl (.inl rfl) (S.move rfl (L 19 rfl rfl)) ?_
 refine U.p rfl rfl (.inl rfl) (S.nilCheck rfl (L 0 rfl rfl)) ?_
 refine U.k rfl rfl (.inl rfl) (S.load rfl (L 0 rfl rfl) Try.underlying88 rfl ((ow15.own (k := 0) rfl).cell rfl)) (fun _ => (okH.nil (fun r h => by cases h; exact (ow15.own (k := 0) rfl).lt))) ?_
 refine U.p rfl rfl (.inl rfl) (S.move rfl (L 22 rfl rfl)) ?_
 refine U.p rfl rfl (.inl rfl) (S.nilCheck rfl (L 0 rfl rfl)) ?_
 refine U.k rfl rfl (.inl rfl) (S.load rfl (L 0 rfl rfl) Try.underlying88 rfl ((ow15.own (k := 0) rfl).cell rfl)) (fun _ => (okH.cons trivial (okH.nil (fun r h => by cases h; exact (ow15.own (k := 0) rfl).lt)))) ?_
 obtain ⟨x16, hx17, h18⟩ := bindS h12
 refine U.p rfl rfl (.inl rfl) (S.shl hx17 rfl (L 0 rfl rfl) K) ?_
 refine U.p rfl rfl (.inl rfl) (S.xorI rfl (L 4 rfl rfl) (L 0 rfl rfl)) ?_
 refine U.p rfl rfl (.inl rfl) (S.nilCheck rfl (L 7 rfl rfl)) ?_
 refine O.store (k := 0) (cs := [.int .u64 (xorB .u64 (xorB .u64 (xorB .u64 p0 x4) x10) x16)]) (c' := [.int .u64 (xorB .u64 (xorB .u64 (xorB .u64 p0 x4) x10) x16)]) ow15 rfl rfl rfl (.inl rfl) rfl (L 0 rfl rfl) (L 1 rfl rfl) ti88 (by simp [topV]) rfl rfl (nr rfl) rfl rfl (fun _ => (okH.cons (Or.inl rfl) (okH.cons (Or.inl rfl) (okH.nil (fun r h => nomatch h))))) (fun V19 le20 ow21 => ?_)
 refine U.done (nr rfl) ?_
 refine WP.usreg rfl ?_
 refine U.p rfl rfl (.inl rfl) (S.move rfl (L 28 rfl rfl)) ?_
 refine U.p rfl rfl (.inl rfl) (S.nilCheck rfl (L 0 rfl rfl)) ?_
 refine U.k rfl rfl (.inl rfl) (S.load rfl (L 0 rfl rfl) Try.underlying88 rfl ((ow21.own (k := 0) rfl).cell rfl)) nd ?_
 refine U.p rfl rfl (.inl rfl) (S.assign rfl (L 0 rfl rfl)) ?_
 refine U.done (nr rfl) ?_
 refine WP.ret ?_
 refine fin.slot (.inr rfl) rfl (L 0 rfl rfl) ⟨V19, rfl, ((le8.trans le14).trans le20), ?_⟩
 have e22 := Option.some.inj h18
 subst e22
 exact ⟨rfl, ow21⟩
set_option maxHeartbeats 4000000 in
set_option maxRecDepth 10000 in
theorem wk_s_breakPatterns (V : Vw) (Rs : List At) (p0 : List Tnd) (p1 : Int) (p2 : Int) (v1 : Value) (ow : Ow V (.os RT_Tnd v1 p0 :: Rs)) (r : List Tnd) (h : s_breakPatterns p0 p1 p2 = some r) : ∃ v V', Cl Try.prog 0 63 #[v1, .int .i64 p1, .int .i64 p2, .func (.func 50) #[] #[]] V.H v V'.H ∧ V.le V' ∧ (Ow V' (.os RT_Tnd v1 r :: Rs)) := by
 refine Ct.of (Nat.zero_le _) Try.func63 rfl (nr rfl) ?_
 unfold s_breakPatterns at h
 refine WP.usreg rfl ?_
 refine U.p rfl rfl (.inl rfl) (S.move rfl (L 2 rfl rfl)) ?_
 refine U.p rfl rfl (.inl rfl) (S.move rfl (L 2 rfl rfl)) ?_
 refine U.p rfl rfl (.inl rfl) (S.sub rfl (L 1 rfl rfl) (L 0 rfl rfl)) ?_
 refine U.p rfl rfl (.inl rfl) (S.assign rfl (L 0 rfl rfl)) ?_
 refine U.done (nr rfl) ?_
 refine WP.usreg rfl ?_
 refine U.p rfl rfl (.inl rfl) (S.move rfl (L 0 rfl rfl)) ?_
 refine U.p rfl rfl (.inl rfl) (S.geq rfl (L 0 rfl rfl) K) ?_
 refine U.done (nr rfl) ?_
 refine WP.cond _ (L 0 rfl rfl) rfl (fun c3 => ?_) (fun c3 => ?_)
 ·have h4 := ifT c3 h
  refine WP.usreg rfl ?_
  refine U.p rfl rfl (.inl rfl) (S.move rfl (L 2 rfl rfl)) ?_
  refine U.p rfl rfl (.inl rfl) (S.conv rfl (L 0 rfl rfl) Try.underlying3 Try.underlying88) ?_
  refine O.alloc ow rfl rfl (.inl rfl) rfl ti88 rfl rfl nd (fun b5 V6 le7 ow8 => ?_)
  refine O.store (k := 0) (cs := [.int .u64 (IntKind.wrap .u64 (w64 (p2 - p1)))]) (c' := [.int .u64 (IntKind.wrap .u64 (w64 (p2 - p1)))]) ow8 rfl rfl rfl (.inl rfl) rfl (L 0 rfl rfl) (L 1 rfl rfl) ti88 (by simp [topV]) rfl rfl (nr rfl) rfl rfl nd (fun V10 le11 ow12 => ?_)
  refine U.done (nr rfl) ?_
  refine WP.usreg rfl ?_
  refine U.p rfl rfl (.inl rfl) (S.move rfl (L 5 rfl rfl)) ?_
  obtain ⟨x13, hx14, h15⟩ := bindS h4
  refine O.call (V := V10) rfl rfl (.inl rfl) rfl en72 (aC (L 0 rfl rfl) aN) (wk_slices_nextPowerOfTwo V10 _ (w64 (p2 - p1)) ow12 _ hx14) (fun _ _ _ _ => nd) (fun v16 V17 le18 hp19 => ?_)
  obtain ⟨rfl, ow20⟩ := hp19
  refine U.p rfl rfl (.inl rfl) (S.assign rfl (L 0 rfl rfl)) ?_
  refine U.done (nr rfl) ?_
  refine WP.usreg rfl ?_
  refine U.p rfl rfl (.inl rfl) (S.move rfl (L 13 rfl rfl)) ?_
  refine U.p rfl rfl (.inl rfl) (S.move rfl (L 9 rfl rfl)) ?_
  obtain ⟨x21, hx22, h23⟩ := bindS h15
  refine U.p rfl rfl (.inl rfl) (S.quo hx22 rfl (L 0 rfl rfl) K) ?_
  refine U.p rfl rfl (.inl rfl) (S.mul rfl (L 0 rfl rfl) K) ?_
  refine U.p rfl rfl (.inl rfl) (S.add rfl (L 3 rfl rfl) (L 0 rfl rfl)) ?_
  refine U.p rfl rfl (.inl rfl) (S.sub rfl (L 0 rfl rfl) K) ?_
  refine U.p rfl rfl (.inl rfl) (S.assign rfl (L 0 rfl rfl)) ?_
  refine U.done (nr rfl) ?_
  refine WP.blk ?_
  have ow27 := ow20.pick 0 rfl
  have ow28 := ow27.pick 1 rfl
  unfold s_breakPatterns_l1 at h23
  obtain ⟨n30, hn29⟩ := loopO_some.1 h23
  refine WP.loopI2 (fun n l V' => ∃ (xs24 : List Tnd) (x25 : Int) (x26 : Int), l = [(0, v1), (1, .int .i64 p1), (8, .int .i64 (w64 (p2 - p1))), (9, .pointer (some ⟨b5, 0, none⟩)), (10, .int .u64 x13), (11, .int .i64 x26)] ∧ V17.le V' ∧ Ow V' (.os RT_Tnd v1 xs24 :: .pt b5 (.cells 1 [.int .u64 x25]) :: Rs) ∧ itO (fun s => s_breakPatterns_l1b p1 p2 x13 s.1 s.2.1 s.2.2) n (xs24, x25, x26) = some r) n30 _ ⟨p0, IntKind.wrap .u64 (w64 (p2 - p1)), w64 ((w64 (p1 + (w64 (x21 * 2)))) - 1), rfl, .refl _, ow28, hn29⟩ (allCons (L 19 rfl rfl) (allCons (L 20 rfl rfl) (allCons (L 15 rfl rfl) (allCons (L 10 rfl rfl) (allCons (L 7 rfl rfl) (allCons (L 0 rfl rfl) allNil)))))) ?_
  rintro _ _ V31 ⟨xs24, x25, x26, rfl, le32, ow33, h37⟩
  obtain ⟨m34, q35, rfl, h38, e36⟩ := itS h37
  replace h38 : s_breakPatterns_l1b p1 p2 x13 xs24 x25 x26 = some q35 := h38
  unfold s_breakPatterns_l1b at h38
  refine WP.seq ?_
  refine WP.usreg rfl ?_
  refine U.p rfl rfl (.inl rfl) (S.move rfl (L 5 rfl rfl)) ?_
  refine U.p rfl rfl (.inl rfl) (S.move rfl (L 2 rfl rfl)) ?_
  refine U.p rfl rfl (.inl rfl) (S.move rfl (L 4 rfl rfl)) ?_
  obtain ⟨x39, hx40, h41⟩ := bindS h38
  refine U.p rfl rfl (.inl rfl) (S.quo hx40 rfl (L 0 rfl rfl) K) ?_
  refine U.p rfl rfl (.inl rfl) (S.mul rfl (L 0 rfl rfl) K) ?_
  refine U.p rfl rfl (.inl rfl) (S.add rfl (L 3 rfl rfl) (L 0 rfl rfl)) ?_
  refine U.p rfl rfl (.inl rfl) (S.add rfl (L 0 rfl rfl) K) ?_
  refine U.p rfl rfl (.inl rfl) (S.leq rfl (L 6 rfl rfl) (L 0 rfl rfl)) ?_
  refine U.done (nr rfl) ?_
  refine WP.cond _ (L 0 rfl rfl) rfl (fun c42 => ?_) (fun c42 => ?_)
  ·have h43 := ifT c42 h41
   refine WP.skip ?_
   refine sqN ?_
   refine WP.seq ?_
   refine WP.blk ?_
   refine WP.usreg rfl ?_
   have ow44 := ow33.pick 1 rfl
   obtain ⟨x45, hx46, h47⟩ := bindS h43
   refine O.call (V := V31) rfl rfl (.inl rfl) rfl en73 (aC (L 11 rfl rfl) aN) (wk_slices_xorshift_Next V31 _ x25 b5 1 ow44 _ hx46) (fun _ _ _ _ => nd) (fun v48 V49 le50 hp51 => ?_)
   obtain ⟨rfl, ow52⟩ := hp51
   refine U.p rfl rfl (.inl rfl) (S.move rfl (L 13 rfl rfl)) ?_
   refine U.p rfl rfl (.inl rfl) (S.sub rfl (L 0 rfl rfl) K) ?_
   refine U.p rfl rfl (.inl rfl) (S.andI rfl (L 2 rfl rfl) (L 0 rfl rfl)) ?_
   refine U.p rfl rfl (.inl rfl) (S.conv rfl (L 0 rfl rfl) Try.underlying34 Try.underlying3) ?_
   refine U.p rfl rfl (.inl rfl) (S.assign rfl (L 0 rfl rfl)) ?_
   refine U.done (nr rfl) ?_
   refine WP.seqI (fun l V' => ∃ (x53 : Int), l = [(0, v1), (1, .int .i64 p1), (8, .int .i64 (w64 (p2 - p1))), (9, .pointer (some ⟨b5, 0, none⟩)), (10, .int .u64 x13), (11, .int .i64 x26), (12, .int .i64 x53)] ∧ V49.le V' ∧ Ow V' (.os RT_Tnd v1 xs24 :: .pt b5 (.cells 1 [.int .u64 x45.2]) :: Rs) ∧ s_breakPatterns_k1 p1 xs24 x26 x45 x53 = some q35) ?_ ?_
   ·rintro _ V54 ⟨x53, rfl, le55, ow56, h57⟩
    unfold s_breakPatterns_k1 at h57
    refine WP.udreg rfl rfl rfl ?_
    refine U.p rfl rfl (.inl rfl) (S.move rfl (L 0 rfl rfl)) ?_
    refine U.p rfl rfl (.inl rfl) (S.move rfl (L 6 rfl rfl)) ?_
    refine U.p rfl rfl (.inl rfl) (S.move rfl (L 2 rfl rfl)) ?_
    refine U.p rfl rfl (.inl rfl) (S.move rfl (L 4 rfl rfl)) ?_
    refine U.p rfl rfl (.inl rfl) (S.move rfl (L 10 rfl rfl)) ?_
    refine U.p rfl rfl (.inl rfl) (S.add rfl (L 1 rfl rfl) (L 0 rfl rfl)) ?_
    refine U.p rfl rfl (.inl rfl) (S.move rfl (L 6 rfl rfl)) ?_
    refine U.p rfl rfl (.inl rfl) (S.move rfl (L 8 rfl rfl)) ?_
    refine U.p rfl rfl (.inl rfl) (S.move rfl (L 14 rfl rfl)) ?_
    refine U.p rfl rfl (.inl rfl) (S.add rfl (L 1 rfl rfl) (L 0 rfl rfl)) ?_
    obtain ⟨x58, hx59, h60⟩ := bindS h57
    obtain ⟨b61, o62, n63, c64, hv65⟩ := ow56.ospt (k := 0) rfl hx59
    obtain ⟨_, hv66, _⟩ := ow56.osel (k := 0) rfl hv65 hx59
    refine U.p rfl rfl (.inl rfl) (S.index rfl ((L 3 rfl rfl).trans hv66) (L 0 rfl rfl) Try.underlying38 ti45 (ix_ge hx59) (ix_lt hx59)) ?_
    obtain ⟨cs67, hv68, hlt69, hr70, hc71⟩ := ow56.osel (k := 0) rfl hv65 hx59
    obtain rfl : cs67 = [.int .i64 x58.e.t, .int .i64 x58.e.act.kind, .int .i64 x58.e.act.at_, .int .i64 x58.e.act.val, .int .i64 x58.e.act.what, .bool x58.e.act.volatile, .bool x58.e.act.final, .int .i64 x58.e.rf, .int .i64 x58.e.id, .int .i64 x58.at_] := hr70
    refine U.k rfl rfl (.inl rfl) (S.loadN (cs := [.int .i64 x58.e.t, .int .i64 x58.e.act.kind, .int .i64 x58.e.act.at_, .int .i64 x58.e.act.val, .int .i64 x58.e.act.what, .bool x58.e.act.volatile, .bool x58.e.act.final, .int .i64 x58.e.rf, .int .i64 x58.e.id, .int .i64 x58.at_]) rfl (L 0 rfl rfl) Try.underlying45 rfl ti45 rfl hc71) (fun _ => (okH.nil (fun r h => by cases h; exact hlt69))) ?_
    refine U.p rfl rfl (.inl rfl) (S.move rfl (L 12 rfl rfl)) ?_
    refine U.p rfl rfl (.inl rfl) (S.move rfl (L 18 rfl rfl)) ?_
    obtain ⟨x72, hx73, h74⟩ := bindS h60
    obtain ⟨_, hv75, _⟩ := ow56.osel (k := 0) rfl hv65 hx73
    refine U.p rfl rfl (.inl rfl) (S.index rfl ((L 1 rfl rfl).trans hv75) (L 0 rfl rfl) Try.underlying38 ti45 (ix_ge hx73) (ix_lt hx73)) ?_
    obtain ⟨cs76, hv77, hlt78, hr79, hc80⟩ := ow56.osel (k := 0) rfl hv65 hx73
    obtain rfl : cs76 = [.int .i64 x72.e.t, .int .i64 x72.e.act.kind, .int .i64 x72.e.act.at_, .int .i64 x72.e.act.val, .int .i64 x72.e.act.what, .bool x72.e.act.volatile, .bool x72.e.act.final, .int .i64 x72.e.rf, .int .i64 x72.e.id, .int .i64 x72.at_] := hr79
    refine U.k rfl rfl (.inl rfl) (S.loadN (cs := [.int .i64 x72.e.t, .int .i64 x72.e.act.kind, .int .i64 x72.e.act.at_, .int .i64 x72.e.act.val, .int .i64 x72.e.act.what, .bool x72.e.act.volatile, .bool x72.e.act.final, .int .i64 x72.e.rf, .int .i64 x72.e.id, .int .i64 x72.at_]) rfl (L 0 rfl rfl) Try.underlying45 rfl ti45 rfl hc80) (fun _ => (okH.cons trivial (okH.nil (fun r h => by cases h; exact hlt78)))) ?_
    obtain ⟨x81, hx82, h83⟩ := bindS h74
    obtain ⟨_, hv84, _⟩ := ow56.osel (k := 0) rfl hv65 hx82
    refine U.p rfl rfl (.inl rfl) (S.index rfl ((L 15 rfl rfl).trans hv84) (L 14 rfl rfl) Try.underlying38 ti45 (ix_ge hx82) (ix_lt hx82)) ?_
    obtain ⟨cs85, hv86, hlt87, hr88, hc89⟩ := ow56.osel (k := 0) rfl hv65 hx82
    obtain rfl : cs85 = [.int .i64 x81.e.t, .int .i64 x81.e.act.kind, .int .i64 x81.e.act.at_, .int .i64 x81.e.act.val, .int .i64 x81.e.act.what, .bool x81.e.act.volatile, .bool x81.e.act.final, .int .i64 x81.e.rf, .int .i64 x81.e.id, .int .i64 x81.at_] := hr88
    refine O.storeE (k := 0) (R := RT_Tnd) (j := 0) (y := x58) (cs := [.int .i64 x58.e.t, .int .i64 x58.e.act.kind, .int .i64 x58.e.act.at_, .int .i64 x58.e.act.val, .int .i64 x58.e.act.what, .bool x58.e.act.volatile, .bool x58.e.act.final, .int .i64 x58.e.rf, .int .i64 x58.e.id, .int .i64 x58.at_]) ow56 rfl hv86 rfl rfl (.inl rfl) rfl (L 0 rfl rfl) (L 5 rfl rfl) ti45 hx82 (by simp [topV]) rfl rfl rfl (full rfl) (fun H1 hs => (fun _ => (okH.cons (Or.inl rfl) (okH.cons (Or.inl rfl) (okH.nil (fun r h => nomatch h)))))) (fun V90 le91 ow92 => ?_)
    obtain ⟨x93, hx94, h95⟩ := bindS h83
    obtain ⟨_, hv96, _⟩ := ow92.osel (k := 0) rfl hv65 hx94
    refine U.p rfl rfl (.inl rfl) (S.index rfl ((L 14 rfl rfl).trans hv96) (L 11 rfl rfl) Try.underlying38 ti45 (ix_ge hx94) (ix_lt hx94)) ?_
    obtain ⟨cs97, hv98, hlt99, hr100, hc101⟩ := ow92.osel (k := 0) rfl hv65 hx94
    obtain rfl : cs97 = [.int .i64 x93.e.t, .int .i64 x93.e.act.kind, .int .i64 x93.e.act.at_, .int .i64 x93.e.act.val, .int .i64 x93.e.act.what, .bool x93.e.act.volatile, .bool x93.e.act.final, .int .i64 x93.e.rf, .int .i64 x93.e.id, .int .i64 x93.at_] := hr100
    refine O.storeE (k := 0) (R := RT_Tnd) (j := 0) (y := x72) (cs := [.int .i64 x72.e.t, .int .i64 x72.e.act.kind, .int .i64 x72.e.act.at_, .int .i64 x72.e.act.val, .int .i64 x72.e.act.what, .bool x72.e.act.volatile, .bool x72.e.act.final, .int .i64 x72.e.rf, .int .i64 x72.e.id, .int .i64 x72.at_]) ow92 rfl hv98 rfl rfl (.inl rfl) rfl (L 0 rfl rfl) (L 2 rfl rfl) ti45 hx94 (by simp [topV]) rfl rfl rfl (full rfl) (fun H1 hs => (fun _ => (okH.cons rfl (okH.cons (Or.inl rfl) (okH.cons (Or.inl rfl) (okH.nil (fun r h => nomatch h))))))) (fun V102 le103 ow104 => ?_)
    refine U.done (nr rfl) ?_
    refine blkN (sqN ?_)
    refine WP.ureg rfl ?_
    refine U.p rfl rfl (.inl rfl) (S.move rfl (L 23 rfl rfl)) ?_
    refine U.p rfl rfl (.inl rfl) (S.add rfl (L 0 rfl rfl) K) ?_
    refine U.p rfl rfl (.inl rfl) (S.assign rfl (L 0 rfl rfl)) ?_
    refine U.done (nr rfl) ?_
    refine sqN ?_
    exact ⟨_, V102, rfl, ⟨m34, Nat.lt_succ_self _, (xs24.set (Int.toNat x26) x58).set (Int.toNat (w64 (p1 + x53))) x72, x45.2, w64 (x26 + 1), rfl, ((((le32.trans le50).trans le55).trans le91).trans le103), ow104, backS h95 e36⟩, (allCons (L 21 rfl rfl) (allCons (L 22 rfl rfl) (allCons (L 23 rfl rfl) (allCons (L 24 rfl rfl) (allCons (L 25 rfl rfl) (allCons (L 0 rfl rfl) allNil))))))⟩
   ·skip
    refine WP.usreg rfl ?_
    refine U.p rfl rfl (.inl rfl) (S.move rfl (L 0 rfl rfl)) ?_
    refine U.p rfl rfl (.inl rfl) (S.move rfl (L 17 rfl rfl)) ?_
    refine U.p rfl rfl (.inl rfl) (S.geq rfl (L 1 rfl rfl) (L 0 rfl rfl)) ?_
    refine U.done (nr rfl) ?_
    refine WP.cond _ (L 0 rfl rfl) rfl (fun c105 => ?_) (fun c105 => ?_)
    ·have h106 := ifT c105 h47
     refine WP.ureg rfl ?_
     refine U.p rfl rfl (.inl rfl) (S.move rfl (L 3 rfl rfl)) ?_
     refine U.p rfl rfl (.inl rfl) (S.move rfl (L 20 rfl rfl)) ?_
     refine U.p rfl rfl (.inl rfl) (S.sub rfl (L 1 rfl rfl) (L 0 rfl rfl)) ?_
     refine U.p rfl rfl (.inl rfl) (S.assign rfl (L 0 rfl rfl)) ?_
     refine U.done (nr rfl) ?_
     refine sqN ?_
     have ow107 := ow52.pick 0 rfl
     have ow108 := ow107.pick 1 rfl
     exact ⟨_, V49, rfl, ⟨w64 ((w64 (andB .u64 x45.1 (IntKind.wrap .u64 (x13 - 1)))) - (w64 (p2 - p1))), rfl, (.refl _), ow108, h106⟩, (allCons (L 21 rfl rfl) (allCons (L 22 rfl rfl) (allCons (L 23 rfl rfl) (allCons (L 24 rfl rfl) (allCons (L 25 rfl rfl) (allCons (L 26 rfl rfl) (allCons (L 0 rfl rfl) allNil)))))))⟩
    ·have h109 := ifF c105 h47
     refine WP.skip ?_
     refine sqN ?_
     have ow110 := ow52.pick 0 rfl
     have ow111 := ow110.pick 1 rfl
     exact ⟨_, V49, rfl, ⟨w64 (andB .u64 x45.1 (IntKind.wrap .u64 (x13 - 1))), rfl, (.refl _), ow111, h109⟩, (allCons (L 17 rfl rfl) (allCons (L 18 rfl rfl) (allCons (L 19 rfl rfl) (allCons (L 20 rfl rfl) (allCons (L 21 rfl rfl) (allCons (L 22 rfl rfl) (allCons (L 3 rfl rfl) allNil)))))))⟩
  ·have h112 := ifF c42 h41
   refine WP.exit ?_
   refine sqE (sqE (blkE ?_))
   have h113 := exitS h112 e36
   refine fin.slots' (.inl rfl) fsN rfl ⟨V31, rfl, (((le7.trans le11).trans le18).trans le32), ?_⟩
   have ow114 := ow33.drop 1 rfl
   have e115 := Option.some.inj h113
   subst e115
   exact ow114
 ·have h116 := ifF c3 h
  refine WP.skip ?_
  refine fin.slots' (.inl rfl) fsN rfl ⟨V, rfl, (.refl _), ?_⟩
  have e117 := Option.some.inj h116
  subst e117
  exact ow
set_option maxHeartbeats 4000000 in
set_option maxRecDepth 10000 in
theorem wks_s_pdqsort (rec_ : (List Tnd) → Int → Int → Int → Option (List Tnd)) (IH : ∀ (V : Vw) (Rs : List At) (p0 : List Tnd) (p1 : Int) (p2 : Int) (p3 : Int) (v1 : Value) (ow : Ow V (.os RT_Tnd v1 p0 :: Rs)) (r : List Tnd) (h : rec_ p0 p1 p2 p3 = some r), ∃ v V', Cl Try.prog 0 58 #[v1, .int .i64 p1, .int .i64 p2, .int .i64 p3, .func (.func 50) #[] #[]] V.H v V'.H ∧ V.le V' ∧ (Ow V' (.os RT_Tnd v1 r :: Rs))) (V : Vw) (Rs : List At) (p0 : List Tnd) (p1 : Int) (p2 : Int) (p3 : Int) (v1 : Value) (ow : Ow V (.os RT_Tnd v1 p0 :: Rs)) (r : List Tnd) (h : s_pdqsort_F rec_ p0 p1 p2 p3 = some r) : ∃ v V', Cl Try.prog 0 58 #[v1, .int .i64 p1, .int .i64 p2, .int .i64 p3, .func (.func 50) #[] #[]] V.H v V'.H ∧ V.le V' ∧ (Ow V' (.os RT_Tnd v1 r :: Rs)) := by
 refine Ct.of (Nat.zero_le _) Try.func58 rfl (nr rfl) ?_
 unfold s_pdqsort_F at h
 refine WP.usreg rfl ?_
 refine U.p rfl rfl (.inl rfl) (S.assign rfl K) ?_
 refine U.done (nr rfl) ?_
 refine WP.usreg rfl ?_
 refine U.p rfl rfl (.inl rfl) (S.assign rfl K) ?_
 refine U.done (nr rfl) ?_
 refine WP.blk ?_
 unfold s_pdqsort_l1 at h
 obtain ⟨n10, hn9⟩ := loopO_some.1 h
 refine WP.loopI2 (fun n l V' => ∃ (xs3 : List Tnd) (x4 : Int) (x5 : Int) (x6 : Int) (x7 : Bool) (x8 : Bool), l = [(0, v1), (1, .int .i64 x4), (2, .int .i64 x5), (3, .int .i64 x6), (4, .func (.func 50) #[] #[]), (10, .bool x7), (11, .bool x8)] ∧ V.le V' ∧ Ow V' (.os RT_Tnd v1 xs3 :: Rs) ∧ itO (fun s => s_pdqsort_l1b rec_ s.1 s.2.1 s.2.2.1 s.2.2.2.1 s.2.2.2.2.1 s.2.2.2.2.2) n (xs3, x4, x5, x6, x7, x8) = some r) n10 _ ⟨p0, p1, p2, p3, true, true, rfl, .refl _, ow, hn9⟩ (allCons (L 2 rfl rfl) (allCons (L 3 rfl rfl) (allCons (L 4 rfl rfl) (allCons (L 5 rfl rfl) (allCons (L 6 rfl rfl) (allCons (L 1 rfl rfl) (allCons (L 0 rfl rfl) allNil))))))) ?_
 rintro _ _ V11 ⟨xs3, x4, x5, x6, x7, x8, rfl, le12, ow13, h17⟩
 obtain ⟨m14, q15, rfl, h18, e16⟩ := itS h17
 replace h18 : s_pdqsort_l1b rec_ xs3 x4 x5 x6 x7 x8 = some q15 := h18
 unfold s_pdqsort_l1b at h18
 refine WP.blk ?_
 refine WP.usreg rfl ?_
 refine U.p rfl rfl (.inl rfl) (S.move rfl (L 2 rfl rfl)) ?_
 refine U.p rfl rfl (.inl rfl) (S.move rfl (L 2 rfl rfl)) ?_
 refine U.p rfl rfl (.inl rfl) (S.sub rfl (L 1 rfl rfl) (L 0 rfl rfl)) ?_
 refine U.p rfl rfl (.inl rfl) (S.assign rfl (L 0 rfl rfl)) ?_
 refine U.done (nr rfl) ?_
 refine WP.seq ?_
 refine WP.usreg rfl ?_
 refine U.p rfl rfl (.inl rfl) (S.move rfl (L 0 rfl rfl)) ?_
 refine U.p rfl rfl (.inl rfl) (S.leq rfl (L 0 rfl rfl) K) ?_
 refine U.done (nr rfl) ?_
 refine WP.cond _ (L 0 rfl rfl) rfl (fun c19 => ?_) (fun c19 => ?_)
 ·have h20 := ifT c19 h18
  refine WP.usreg rfl ?_
  refine U.p rfl rfl (.inl rfl) (S.move rfl (L 6 rfl rfl)) ?_
  refine U.p rfl rfl (.inl rfl) (S.move rfl (L 8 rfl rfl)) ?_
  refine U.p rfl rfl (.inl rfl) (S.move rfl (L 10 rfl rfl)) ?_
  refine U.p rfl rfl (.inl rfl) (S.move rfl (L 13 rfl rfl)) ?_
  obtain ⟨x21, hx22, h23⟩ := bindS h20
  refine O.call (V := V11) rfl rfl (.inl rfl) rfl en61 (aC (L 3 rfl rfl) (aC (L 2 rfl rfl) (aC (L 1 rfl rfl) (aC (L 0 rfl rfl) aN)))) (wk_s_insertionSort V11 _ xs3 x4 x5 v1 ow13 _ hx22) (fun _ _ _ _ => nd) (fun v24 V25 le26 hp27 => ?_)
  have ow28 := hp27
  refine U.done (nr rfl) ?_
  refine WP.ret ?_
  refine sqR (blkR (sqR (blkR ?_)))
  have h29 := exitS h23 e16
  refine fin.slots' (.inr rfl) fsN rfl ⟨V25, rfl, (le12.trans le26), ?_⟩
  have e30 := Option.some.inj h29
  subst e30
  exact ow28
 ·have h31 := ifF c19 h18
  refine WP.skip ?_
  refine sqN ?_
  refine WP.seq ?_
  refine WP.usreg rfl ?_
  refine U.p rfl rfl (.inl rfl) (S.move rfl (L 9 rfl rfl)) ?_
  refine U.p rfl rfl (.inl rfl) (S.eqlI rfl (L 0 rfl rfl) K) ?_
  refine U.done (nr rfl) ?_
  refine WP.cond _ (L 0 rfl rfl) rfl (fun c32 => ?_) (fun c32 => ?_)
  ·have h33 := ifT c32 h31
   refine WP.usreg rfl ?_
   refine U.p rfl rfl (.inl rfl) (S.move rfl (L 8 rfl rfl)) ?_
   refine U.p rfl rfl (.inl rfl) (S.move rfl (L 10 rfl rfl)) ?_
   refine U.p rfl rfl (.inl rfl) (S.move rfl (L 12 rfl rfl)) ?_
   refine U.p rfl rfl (.inl rfl) (S.move rfl (L 15 rfl rfl)) ?_
   obtain ⟨x34, hx35, h36⟩ := bindS h33
   refine O.call (V := V11) rfl rfl (.inl rfl) rfl en62 (aC (L 3 rfl rfl) (aC (L 2 rfl rfl) (aC (L 1 rfl rfl) (aC (L 0 rfl rfl) aN)))) (wk_s_heapSort V11 _ xs3 x4 x5 v1 ow13 _ hx35) (fun _ _ _ _ => nd) (fun v37 V38 le39 hp40 => ?_)
   have ow41 := hp40
   refine U.done (nr rfl) ?_
   refine WP.ret ?_
   refine sqR (blkR (sqR (blkR ?_)))
   have h42 := exitS h36 e16
   refine fin.slots' (.inr rfl) fsN rfl ⟨V38, rfl, (le12.trans le39), ?_⟩
   have e43 := Option.some.inj h42
   subst e43
   exact ow41
  ·have h44 := ifF c32 h31
   refine WP.skip ?_
   refine sqN ?_
   refine WP.seqI (fun l V' => ∃ (xs45 : List Tnd) (x46 : Int), l = [(0, v1), (1, .int .i64 x4), (2, .int .i64 x5), (3, .int .i64 x46), (4, .func (.func 50) #[] #[]), (10, .bool x7), (11, .bool x8), (12, .int .i64 (w64 (x5 - x4)))] ∧ V11.le V' ∧ Ow V' (.os RT_Tnd v1 xs45 :: Rs) ∧ s_pdqsort_k1 rec_ x4 x5 x7 x8 xs45 x46 = some q15) ?_ ?_
   ·rintro _ V47 ⟨xs45, x46, rfl, le48, ow49, h50⟩
    unfold s_pdqsort_k1 at h50
    refine WP.usreg rfl ?_
    refine U.p rfl rfl (.inl rfl) (S.move rfl (L 0 rfl rfl)) ?_
    refine U.p rfl rfl (.inl rfl) (S.move rfl (L 2 rfl rfl)) ?_
    refine U.p rfl rfl (.inl rfl) (S.move rfl (L 4 rfl rfl)) ?_
    refine U.p rfl rfl (.inl rfl) (S.move rfl (L 7 rfl rfl)) ?_
    obtain ⟨x51, hx52, h53⟩ := bindS h50
    refine O.call (V := V47) rfl rfl (.inl rfl) rfl en64 (aC (L 3 rfl rfl) (aC (L 2 rfl rfl) (aC (L 1 rfl rfl) (aC (L 0 rfl rfl) aN)))) (wk_s_choosePivot V47 _ xs45 x4 x5 v1 ow49 _ hx52) (fun _ _ _ _ => nd) (fun v54 V55 le56 hp57 => ?_)
    obtain ⟨rfl, ow58⟩ := hp57
    refine U.p rfl rfl (.inl rfl) (S.move rfl (L 0 rfl rfl)) ?_
    refine U.p rfl rfl (.inl rfl) (S.extract rfl (L 0 rfl rfl) rfl (nr rfl)) ?_
    refine U.p rfl rfl (.inl rfl) (S.extract rfl (L 1 rfl rfl) rfl (nr rfl)) ?_
    refine U.p rfl rfl (.inl rfl) (S.assign rfl (L 1 rfl rfl)) ?_
    refine U.p rfl rfl (.inl rfl) (S.assign rfl (L 1 rfl rfl)) ?_
    refine U.done (nr rfl) ?_
    refine WP.seqI (fun l V' => ∃ (xs59 : List Tnd) (x60 : Int) (x61 : Int), l = [(0, v1), (1, .int .i64 x4), (2, .int .i64 x5), (3, .int .i64 x46), (4, .func (.func 50) #[] #[]), (10, .bool x7), (11, .bool x8), (12, .int .i64 (w64 (x5 - x4))), (13, .int .i64 x60), (14, .int .i64 x61)] ∧ V55.le V' ∧ Ow V' (.os RT_Tnd v1 xs59 :: Rs) ∧ s_pdqsort_k2 rec_ x4 x5 x7 x8 x46 xs59 x60 x61 = some q15) ?_ ?_
    ·rintro _ V62 ⟨xs59, x60, x61, rfl, le63, ow64, h65⟩
     unfold s_pdqsort_k2 at h65
     refine WP.seqI (fun l V' => ∃ (xs66 : List Tnd), l = [(0, v1), (1, .int .i64 x4), (2, .int .i64 x5), (3, .int .i64 x46), (4, .func (.func 50) #[] #[]), (10, .bool x7), (11, .bool x8), (12, .int .i64 (w64 (x5 - x4))), (13, .int .i64 x60)] ∧ V62.le V' ∧ Ow V' (.os RT_Tnd v1 xs66 :: Rs) ∧ s_pdqsort_k3 rec_ x4 x5 x7 x8 x46 x60 xs66 = some q15) ?_ ?_
     ·rintro _ V67 ⟨xs66, rfl, le68, ow69, h70⟩
      unfold s_pdqsort_k3 at h70
      refine WP.seq ?_
      refine WP.seqI (fun l V' => ∃ (x71 : Bool), l = [(0, v1), (1, .int .i64 x4), (2, .int .i64 x5), (3, .int .i64 x46), (4, .func (.func 50) #[] #[]), (10, .bool x7), (11, .bool x8), (12, .int .i64 (w64 (x5 - x4))), (13, .int .i64 x60), (97, .bool x71)] ∧ V67.le V' ∧ Ow V' (.os RT_Tnd v1 xs66 :: Rs) ∧ s_pdqsort_k4 rec_ x4 x5 x7 x8 x46 x60 xs66 x71 = some q15) ?_ ?_
      ·rintro _ V72 ⟨x71, rfl, le73, ow74, h75⟩
       unfold s_pdqsort_k4 at h75
       refine WP.cond _ (L 9 rfl rfl) rfl (fun c76 => ?_) (fun c76 => ?_)
       ·have h77 := ifT c76 h75
        refine WP.usreg rfl ?_
        refine U.p rfl rfl (.inl rfl) (S.move rfl (L 0 rfl rfl)) ?_
        refine U.p rfl rfl (.inl rfl) (S.move rfl (L 2 rfl rfl)) ?_
        refine U.p rfl rfl (.inl rfl) (S.move rfl (L 4 rfl rfl)) ?_
        refine U.p rfl rfl (.inl rfl) (S.move rfl (L 11 rfl rfl)) ?_
        refine U.p rfl rfl (.inl rfl) (S.move rfl (L 8 rfl rfl)) ?_
        obtain ⟨x78, hx79, h80⟩ := bindS h77
        refine O.call (V := V72) rfl rfl (.inl rfl) rfl en67 (aC (L 4 rfl rfl) (aC (L 3 rfl rfl) (aC (L 2 rfl rfl) (aC (L 1 rfl rfl) (aC (L 0 rfl rfl) aN))))) (wk_s_partitionEqual V72 _ xs66 x4 x5 x60 v1 ow74 _ hx79) (fun _ _ _ _ => nd) (fun v81 V82 le83 hp84 => ?_)
        obtain ⟨rfl, ow85⟩ := hp84
        refine U.p rfl rfl (.inl rfl) (S.assign rfl (L 0 rfl rfl)) ?_
        refine U.done (nr rfl) ?_
        refine WP.usreg rfl ?_
        refine U.p rfl rfl (.inl rfl) (S.move rfl (L 0 rfl rfl)) ?_
        refine U.p rfl rfl (.inl rfl) (S.assign rfl (L 0 rfl rfl)) ?_
        refine U.done (nr rfl) ?_
        refine WP.exit ?_
        refine sqE (blkE (sqN ?_))
        exact ⟨_, V82, rfl, ⟨m14, Nat.lt_succ_self _, x78.2, x78.1, x5, x46, x7, x8, rfl, ((((((le12.trans le48).trans le56).trans le63).trans le68).trans le73).trans le83), ow85, backS h80 e16⟩, (allCons (L 9 rfl rfl) (allCons (L 0 rfl rfl) (allCons (L 11 rfl rfl) (allCons (L 12 rfl rfl) (allCons (L 13 rfl rfl) (allCons (L 14 rfl rfl) (allCons (L 15 rfl rfl) allNil)))))))⟩
       ·have h86 := ifF c76 h75
        refine WP.skip ?_
        refine sqN ?_
        refine WP.usreg rfl ?_
        refine U.p rfl rfl (.inl rfl) (S.move rfl (L 0 rfl rfl)) ?_
        refine U.p rfl rfl (.inl rfl) (S.move rfl (L 2 rfl rfl)) ?_
        refine U.p rfl rfl (.inl rfl) (S.move rfl (L 4 rfl rfl)) ?_
        refine U.p rfl rfl (.inl rfl) (S.move rfl (L 11 rfl rfl)) ?_
        refine U.p rfl rfl (.inl rfl) (S.move rfl (L 8 rfl rfl)) ?_
        obtain ⟨x87, hx88, h89⟩ := bindS h86
        refine O.call (V := V72) rfl rfl (.inl rfl) rfl en68 (aC (L 4 rfl rfl) (aC (L 3 rfl rfl) (aC (L 2 rfl rfl) (aC (L 1 rfl rfl) (aC (L 0 rfl rfl) aN))))) (wk_s_partition V72 _ xs66 x4 x5 x60 v1 ow74 _ hx88) (fun _ _ _ _ => nd) (fun v90 V91 le92 hp93 => ?_)
        obtain ⟨rfl, ow94⟩ := hp93
        refine U.p rfl rfl (.inl rfl) (S.move rfl (L 0 rfl rfl)) ?_
        refine U.p rfl rfl (.inl rfl) (S.extract rfl (L 0 rfl rfl) rfl (nr rfl)) ?_
        refine U.p rfl rfl (.inl rfl) (S.extract rfl (L 1 rfl rfl) rfl (nr rfl)) ?_
        refine U.p rfl rfl (.inl rfl) (S.assign rfl (L 1 rfl rfl)) ?_
        refine U.p rfl rfl (.inl rfl) (S.assign rfl (L 1 rfl rfl)) ?_
        refine U.done (nr rfl) ?_
        refine WP.usreg rfl ?_
        refine U.p rfl rfl (.inl rfl) (S.move rfl (L 0 rfl rfl)) ?_
        refine U.p rfl rfl (.inl rfl) (S.assign rfl (L 0 rfl rfl)) ?_
        refine U.done (nr rfl) ?_
        refine WP.usreg rfl ?_
        refine U.p rfl rfl (.inl rfl) (S.move rfl (L 3 rfl rfl)) ?_
        refine U.p rfl rfl (.inl rfl) (S.move rfl (L 15 rfl rfl)) ?_
        refine U.p rfl rfl (.inl rfl) (S.sub rfl (L 1 rfl rfl) (L 0 rfl rfl)) ?_
        refine U.p rfl rfl (.inl rfl) (S.move rfl (L 18 rfl rfl)) ?_
        refine U.p rfl rfl (.inl rfl) (S.move rfl (L 7 rfl rfl)) ?_
        refine U.p rfl rfl (.inl rfl) (S.sub rfl (L 1 rfl rfl) (L 0 rfl rfl)) ?_
        refine U.p rfl rfl (.inl rfl) (S.assign rfl (L 3 rfl rfl)) ?_
        refine U.p rfl rfl (.inl rfl) (S.assign rfl (L 1 rfl rfl)) ?_
        refine U.done (nr rfl) ?_
        refine WP.usreg rfl ?_
        refine U.p rfl rfl (.inl rfl) (S.move rfl (L 28 rfl rfl)) ?_
        obtain ⟨x95, hx96, h97⟩ := bindS h89
        refine U.p rfl rfl (.inl rfl) (S.quo hx96 rfl (L 0 rfl rfl) K) ?_
        refine U.p rfl rfl (.inl rfl) (S.assign rfl (L 0 rfl rfl)) ?_
        refine U.done (nr rfl) ?_
        refine WP.usreg rfl ?_
        refine U.p rfl rfl (.inl rfl) (S.move rfl (L 4 rfl rfl)) ?_
        refine U.p rfl rfl (.inl rfl) (S.move rfl (L 4 rfl rfl)) ?_
        refine U.p rfl rfl (.inl rfl) (S.lss rfl (L 1 rfl rfl) (L 0 rfl rfl)) ?_
        refine U.done (nr rfl) ?_
        refine WP.cond _ (L 0 rfl rfl) rfl (fun c98 => ?_) (fun c98 => ?_)
        ·have h99 := ifT c98 h97
         refine WP.usreg rfl ?_
         refine U.p rfl rfl (.inl rfl) (S.move rfl (L 7 rfl rfl)) ?_
         refine U.p rfl rfl (.inl rfl) (S.move rfl (L 4 rfl rfl)) ?_
         refine U.p rfl rfl (.inl rfl) (S.geq rfl (L 1 rfl rfl) (L 0 rfl rfl)) ?_
         refine U.p rfl rfl (.inl rfl) (S.assign rfl (L 0 rfl rfl)) ?_
         refine U.done (nr rfl) ?_
         refine WP.usreg rfl ?_
         refine U.p rfl rfl (.inl rfl) (S.move rfl (L 31 rfl rfl)) ?_
         refine U.p rfl rfl (.inl rfl) (S.move rfl (L 33 rfl rfl)) ?_
         refine U.p rfl rfl (.inl rfl) (S.move rfl (L 23 rfl rfl)) ?_
         refine U.p rfl rfl (.inl rfl) (S.move rfl (L 37 rfl rfl)) ?_
         refine U.p rfl rfl (.inl rfl) (S.move rfl (L 39 rfl rfl)) ?_
         obtain ⟨x100, hx101, h102⟩ := bindS h99
         refine O.call (V := V91) rfl rfl (.inl rfl) rfl en58 (aC (L 4 rfl rfl) (aC (L 3 rfl rfl) (aC (L 2 rfl rfl) (aC (L 1 rfl rfl) (aC (L 0 rfl rfl) aN))))) (IH V91 _ x87.2.2 x4 x87.1 x46 v1 ow94 _ hx101) (fun _ _ _ _ => nd) (fun v103 V104 le105 hp106 => ?_)
         have ow107 := hp106
         refine U.done (nr rfl) ?_
         refine WP.ureg rfl ?_
         refine U.p rfl rfl (.inl rfl) (S.move rfl (L 27 rfl rfl)) ?_
         refine U.p rfl rfl (.inl rfl) (S.add rfl (L 0 rfl rfl) K) ?_
         refine U.p rfl rfl (.inl rfl) (S.assign rfl (L 0 rfl rfl)) ?_
         refine U.done (nr rfl) ?_
         refine blkN (sqN ?_)
         exact ⟨_, V104, rfl, ⟨m14, Nat.lt_succ_self _, x100, w64 (x87.1 + 1), x5, x46, decide (x95 ≤ (w64 (x87.1 - x4))), x87.2.1, rfl, (((((((le12.trans le48).trans le56).trans le63).trans le68).trans le73).trans le92).trans le105), ow107, backS h102 e16⟩, (allCons (L 40 rfl rfl) (allCons (L 0 rfl rfl) (allCons (L 42 rfl rfl) (allCons (L 43 rfl rfl) (allCons (L 44 rfl rfl) (allCons (L 9 rfl rfl) (allCons (L 27 rfl rfl) allNil)))))))⟩
        ·have h108 := ifF c98 h97
         refine WP.usreg rfl ?_
         refine U.p rfl rfl (.inl rfl) (S.move rfl (L 6 rfl rfl)) ?_
         refine U.p rfl rfl (.inl rfl) (S.move rfl (L 4 rfl rfl)) ?_
         refine U.p rfl rfl (.inl rfl) (S.geq rfl (L 1 rfl rfl) (L 0 rfl rfl)) ?_
         refine U.p rfl rfl (.inl rfl) (S.assign rfl (L 0 rfl rfl)) ?_
         refine U.done (nr rfl) ?_
         refine WP.usreg rfl ?_
         refine U.p rfl rfl (.inl rfl) (S.move rfl (L 31 rfl rfl)) ?_
         refine U.p rfl rfl (.inl rfl) (S.move rfl (L 22 rfl rfl)) ?_
         refine U.p rfl rfl (.inl rfl) (S.add rfl (L 0 rfl rfl) K) ?_
         refine U.p rfl rfl (.inl rfl) (S.move rfl (L 36 rfl rfl)) ?_
         refine U.p rfl rfl (.inl rfl) (S.move rfl (L 38 rfl rfl)) ?_
         refine U.p rfl rfl (.inl rfl) (S.move rfl (L 40 rfl rfl)) ?_
         obtain ⟨x109, hx110, h111⟩ := bindS h108
         refine O.call (V := V91) rfl rfl (.inl rfl) rfl en58 (aC (L 5 rfl rfl) (aC (L 3 rfl rfl) (aC (L 2 rfl rfl) (aC (L 1 rfl rfl) (aC (L 0 rfl rfl) aN))))) (IH V91 _ x87.2.2 (w64 (x87.1 + 1)) x5 x46 v1 ow94 _ hx110) (fun _ _ _ _ => nd) (fun v112 V113 le114 hp115 => ?_)
         have ow116 := hp115
         refine U.done (nr rfl) ?_
         refine WP.ureg rfl ?_
         refine U.p rfl rfl (.inl rfl) (S.move rfl (L 28 rfl rfl)) ?_
         refine U.p rfl rfl (.inl rfl) (S.assign rfl (L 0 rfl rfl)) ?_
         refine U.done (nr rfl) ?_
         refine blkN (sqN ?_)
         exact ⟨_, V113, rfl, ⟨m14, Nat.lt_succ_self _, x109, x4, x87.1, x46, decide (x95 ≤ (w64 (x5 - x87.1))), x87.2.1, rfl, (((((((le12.trans le48).trans le56).trans le63).trans le68).trans le73).trans le92).trans le114), ow116, backS h111 e16⟩, (allCons (L 40 rfl rfl) (allCons (L 41 rfl rfl) (allCons (L 0 rfl rfl) (allCons (L 43 rfl rfl) (allCons (L 44 rfl rfl) (allCons (L 9 rfl rfl) (allCons (L 27 rfl rfl) allNil)))))))⟩
      ·skip
       refine WP.udreg rfl rfl rfl ?_
       refine U.p rfl rfl (.inl rfl) (S.move rfl (L 1 rfl rfl)) ?_
       refine U.p rfl rfl (.inl rfl) (S.gtr rfl (L 0 rfl rfl) K) ?_
       refine U.p rfl rfl (.inl rfl) (S.move rfl (L 0 rfl rfl)) ?_
       refine bcase (b := decide (0 < x4)) (fun g117 => ?_) (fun g117 => ?_)
       ·have h118 := ifT g117 h70
        refine U.p rfl rfl (.inr ⟨_, _, _, rfl, rfl, ((L 0 rfl rfl).trans (congrArg Value.bool g117))⟩) (S.move rfl (L 7 rfl rfl)) ?_
        refine U.p rfl rfl (.inr ⟨_, _, _, rfl, rfl, ((L 1 rfl rfl).trans (congrArg Value.bool g117))⟩) (S.move rfl (L 4 rfl rfl)) ?_
        refine U.p rfl rfl (.inr ⟨_, _, _, rfl, rfl, ((L 2 rfl rfl).trans (congrArg Value.bool g117))⟩) (S.move rfl (L 6 rfl rfl)) ?_
        refine U.p rfl rfl (.inr ⟨_, _, _, rfl, rfl, ((L 3 rfl rfl).trans (congrArg Value.bool g117))⟩) (S.sub rfl (L 0 rfl rfl) K) ?_
        obtain ⟨x119, hx120, h121⟩ := bindS h118
        obtain ⟨b122, o123, n124, c125, hv126⟩ := ow69.ospt (k := 0) rfl hx120
        obtain ⟨_, hv127, _⟩ := ow69.osel (k := 0) rfl hv126 hx120
        refine U.p rfl rfl (.inr ⟨_, _, _, rfl, rfl, ((L 4 rfl rfl).trans (congrArg Value.bool g117))⟩) (S.index rfl ((L 2 rfl rfl).trans hv127) (L 0 rfl rfl) Try.underlying38 ti45 (ix_ge hx120) (ix_lt hx120)) ?_
        obtain ⟨cs128, hv129, hlt130, hr131, hc132⟩ := ow69.osel (k := 0) rfl hv126 hx120
        obtain rfl : cs128 = [.int .i64 x119.e.t, .int .i64 x119.e.act.kind, .int .i64 x119.e.act.at_, .int .i64 x119.e.act.val, .int .i64 x119.e.act.what, .bool x119.e.act.volatile, .bool x119.e.act.final, .int .i64 x119.e.rf, .int .i64 x119.e.id, .int .i64 x119.at_] := hr131
        refine U.k rfl rfl (.inr ⟨_, _, _, rfl, rfl, ((L 5 rfl rfl).trans (congrArg Value.bool g117))⟩) (S.loadN (cs := [.int .i64 x119.e.t, .int .i64 x119.e.act.kind, .int .i64 x119.e.act.at_, .int .i64 x119.e.act.val, .int .i64 x119.e.act.what, .bool x119.e.act.volatile, .bool x119.e.act.final, .int .i64 x119.e.rf, .int .i64 x119.e.id, .int .i64 x119.at_]) rfl (L 0 rfl rfl) Try.underlying45 rfl ti45 rfl hc132) (fun _ => (okH.nil (fun r h => by cases h; exact hlt130))) ?_
        refine U.p rfl rfl (.inr ⟨_, _, _, rfl, rfl, ((L 6 rfl rfl).trans (congrArg Value.bool g117))⟩) (S.move rfl (L 9 rfl rfl)) ?_
        refine U.p rfl rfl (.inr ⟨_, _, _, rfl, rfl, ((L 7 rfl rfl).trans (congrArg Value.bool g117))⟩) (S.move rfl (L 18 rfl rfl)) ?_
        obtain ⟨x133, hx134, h135⟩ := bindS h121
        obtain ⟨_, hv136, _⟩ := ow69.osel (k := 0) rfl hv126 hx134
        refine U.p rfl rfl (.inr ⟨_, _, _, rfl, rfl, ((L 8 rfl rfl).trans (congrArg Value.bool g117))⟩) (S.index rfl ((L 1 rfl rfl).trans hv136) (L 0 rfl rfl) Try.underlying38 ti45 (ix_ge hx134) (ix_lt hx134)) ?_
        obtain ⟨cs137, hv138, hlt139, hr140, hc141⟩ := ow69.osel (k := 0) rfl hv126 hx134
        obtain rfl : cs137 = [.int .i64 x133.e.t, .int .i64 x133.e.act.kind, .int .i64 x133.e.act.at_, .int .i64 x133.e.act.val, .int .i64 x133.e.act.what, .bool x133.e.act.volatile, .bool x133.e.act.final, .int .i64 x133.e.rf, .int .i64 x133.e.id, .int .i64 x133.at_] := hr140
        refine U.k rfl rfl (.inr ⟨_, _, _, rfl, rfl, ((L 9 rfl rfl).trans (congrArg Value.bool g117))⟩) (S.loadN (cs := [.int .i64 x133.e.t, .int .i64 x133.e.act.kind, .int .i64 x133.e.act.at_, .int .i64 x133.e.act.val, .int .i64 x133.e.act.what, .bool x133.e.act.volatile, .bool x133.e.act.final, .int .i64 x133.e.rf, .int .i64 x133.e.id, .int .i64 x133.at_]) rfl (L 0 rfl rfl) Try.underlying45 rfl ti45 rfl hc141) (fun _ => (okH.cons trivial (okH.nil (fun r h => by cases h; exact hlt139)))) ?_
        obtain ⟨x142, hx143, h144⟩ := bindS h135
        refine O.callv (V := V67) rfl rfl (.inr ⟨_, _, _, rfl, rfl, ((L 10 rfl rfl).trans (congrArg Value.bool g117))⟩) rfl (L 9 rfl rfl) en50 (aC (L 4 rfl rfl) (aC (L 0 rfl rfl) aN)) (wk_order_Run_Apart_c2 V67 _ x119 x133 ow69 _ hx143) (fun v145 V146 le147 hp148 => by obtain ⟨rfl, ow149⟩ := hp148; exact (fun _ => (okH.cons (Or.inl rfl) (okH.cons (Or.inl rfl) (okH.nil (fun r h => nomatch h)))))) (fun v145 V146 le147 hp148 => ?_)
        obtain ⟨rfl, ow149⟩ := hp148
        refine U.p rfl rfl (.inr ⟨_, _, _, rfl, rfl, ((L 11 rfl rfl).trans (congrArg Value.bool g117))⟩) (S.lss rfl (L 0 rfl rfl) K) ?_
        refine U.p rfl rfl (.inr ⟨_, _, _, rfl, rfl, ((L 12 rfl rfl).trans (congrArg Value.bool g117))⟩) (S.not rfl (L 0 rfl rfl)) ?_
        refine U.p rfl rfl (.inl rfl) (S.pickT rfl ((L 13 rfl rfl).trans (congrArg Value.bool g117)) (L 0 rfl rfl)) ?_
        refine U.done (nr rfl) ?_
        refine sqN ?_
        exact ⟨_, V146, rfl, ⟨!(decide (x142 < 0)), rfl, le147, ow149, h144⟩, (allCons (L 17 rfl rfl) (allCons (L 18 rfl rfl) (allCons (L 19 rfl rfl) (allCons (L 20 rfl rfl) (allCons (L 21 rfl rfl) (allCons (L 22 rfl rfl) (allCons (L 23 rfl rfl) (allCons (L 24 rfl rfl) (allCons (L 25 rfl rfl) (allCons (L 0 rfl rfl) allNil))))))))))⟩
       ·have h150 := ifF g117 h70
        refine U.x rfl rfl rfl rfl ((L 0 rfl rfl).trans (congrArg Value.bool g117)) (by decide) ?_
        refine U.x rfl rfl rfl rfl ((L 1 rfl rfl).trans (congrArg Value.bool g117)) (by decide) ?_
        refine U.x rfl rfl rfl rfl ((L 2 rfl rfl).trans (congrArg Value.bool g117)) (by decide) ?_
        refine U.x rfl rfl rfl rfl ((L 3 rfl rfl).trans (congrArg Value.bool g117)) (by decide) ?_
        refine U.x rfl rfl rfl rfl ((L 4 rfl rfl).trans (congrArg Value.bool g117)) (by decide) ?_
        refine U.x rfl rfl rfl rfl ((L 5 rfl rfl).trans (congrArg Value.bool g117)) (by decide) ?_
        refine U.x rfl rfl rfl rfl ((L 6 rfl rfl).trans (congrArg Value.bool g117)) (by decide) ?_
        refine U.x rfl rfl rfl rfl ((L 7 rfl rfl).trans (congrArg Value.bool g117)) (by decide) ?_
        refine U.x rfl rfl rfl rfl ((L 8 rfl rfl).trans (congrArg Value.bool g117)) (by decide) ?_
        refine U.x rfl rfl rfl rfl ((L 9 rfl rfl).trans (congrArg Value.bool g117)) (by decide) ?_
        refine U.x rfl rfl rfl rfl ((L 10 rfl rfl).trans (congrArg Value.bool g117)) (by decide) ?_
        refine U.x rfl rfl rfl rfl ((L 11 rfl rfl).trans (congrArg Value.bool g117)) (by decide) ?_
        refine U.x rfl rfl rfl rfl ((L 12 rfl rfl).trans (congrArg Value.bool g117)) (by decide) ?_
        refine U.p rfl rfl (.inl rfl) (S.pickF rfl ((L 13 rfl rfl).trans (congrArg Value.bool g117)) K) ?_
        refine U.done (nr rfl) ?_
        refine sqN ?_
        exact ⟨_, V67, rfl, ⟨false, rfl, (.refl _), ow69, h150⟩, (allCons (L 17 rfl rfl) (allCons (L 18 rfl rfl) (allCons (L 19 rfl rfl) (allCons (L 20 rfl rfl) (allCons (L 21 rfl rfl) (allCons (L 22 rfl rfl) (allCons (L 23 rfl rfl) (allCons (L 24 rfl rfl) (allCons (L 25 rfl rfl) (allCons (L 0 rfl rfl) allNil))))))))))⟩
     ·skip
      refine WP.usreg rfl ?_
      refine U.p rfl rfl (.inl rfl) (S.move rfl (L 5 rfl rfl)) ?_
      refine U.p rfl rfl (.inl rfl) (S.move rfl (L 0 rfl rfl)) ?_
      refine U.joinX 4 (fun e H => ∃ (u151 : Value), H = V62.H ∧ e = [(71, .bool (x7 && x8)), (70, u151)]) ?_ ?_
      ·rintro _ _ ⟨u151, rfl, rfl⟩
       refine U.p rfl rfl (.inl rfl) (S.move rfl (L 0 rfl rfl)) ?_
       refine U.joinX 8 (fun e H => ∃ (u155 u156 : Value), H = V62.H ∧ e = [(75, .bool ((x7 && x8) && (decide (x61 = 1)))), (74, u155), (73, u156)]) ?_ ?_
       ·rintro _ _ ⟨u155, u156, rfl, rfl⟩
        refine U.done (nr rfl) ?_
        refine WP.cond _ (L 0 rfl rfl) rfl (fun c160 => ?_) (fun c160 => ?_)
        ·have h161 := ifT c160 h65
         refine WP.usreg rfl ?_
         refine U.p rfl rfl (.inl rfl) (S.move rfl (L 8 rfl rfl)) ?_
         refine U.p rfl rfl (.inl rfl) (S.move rfl (L 10 rfl rfl)) ?_
         refine U.p rfl rfl (.inl rfl) (S.move rfl (L 12 rfl rfl)) ?_
         refine U.p rfl rfl (.inl rfl) (S.move rfl (L 15 rfl rfl)) ?_
         obtain ⟨x162, hx163, h164⟩ := bindS h161
         refine O.call (V := V62) rfl rfl (.inl rfl) rfl en66 (aC (L 3 rfl rfl) (aC (L 2 rfl rfl) (aC (L 1 rfl rfl) (aC (L 0 rfl rfl) aN)))) (wk_s_partialInsertionSort V62 _ xs59 x4 x5 v1 ow64 _ hx163) (fun _ _ _ _ => nd) (fun v165 V166 le167 hp168 => ?_)
         obtain ⟨rfl, ow169⟩ := hp168
         refine U.done (nr rfl) ?_
         refine WP.cond _ (L 0 rfl rfl) rfl (fun c170 => ?_) (fun c170 => ?_)
         ·have h171 := ifT c170 h164
          refine WP.ret ?_
          refine sqR (blkR (sqR (blkR ?_)))
          have h172 := exitS h171 e16
          refine fin.slots' (.inr rfl) fsN rfl ⟨V166, rfl, ((((le12.trans le48).trans le56).trans le63).trans le167), ?_⟩
          have e173 := Option.some.inj h172
          subst e173
          exact ow169
         ·have h174 := ifF c170 h164
          refine WP.skip ?_
          refine sqN ?_
          exact ⟨_, V166, rfl, ⟨x162.2, rfl, le167, ow169, h174⟩, (allCons (L 13 rfl rfl) (allCons (L 14 rfl rfl) (allCons (L 15 rfl rfl) (allCons (L 16 rfl rfl) (allCons (L 17 rfl rfl) (allCons (L 18 rfl rfl) (allCons (L 19 rfl rfl) (allCons (L 20 rfl rfl) (allCons (L 21 rfl rfl) allNil)))))))))⟩
        ·have h175 := ifF c160 h65
         refine WP.skip ?_
         refine sqN ?_
         exact ⟨_, V62, rfl, ⟨xs59, rfl, (.refl _), ow64, h175⟩, (allCons (L 8 rfl rfl) (allCons (L 9 rfl rfl) (allCons (L 10 rfl rfl) (allCons (L 11 rfl rfl) (allCons (L 12 rfl rfl) (allCons (L 13 rfl rfl) (allCons (L 14 rfl rfl) (allCons (L 15 rfl rfl) (allCons (L 16 rfl rfl) allNil)))))))))⟩
       ·intro kk
        refine bcase (b := x7 && x8) (fun g176 => ?_) (fun g176 => ?_)
        ·skip
         refine U.p rfl rfl (.inr ⟨_, _, _, rfl, rfl, ((L 0 rfl rfl).trans (congrArg Value.bool g176))⟩) (S.move rfl (L 14 rfl rfl)) ?_
         refine U.p rfl rfl (.inr ⟨_, _, _, rfl, rfl, ((L 1 rfl rfl).trans (congrArg Value.bool g176))⟩) (S.eqlI rfl (L 0 rfl rfl) K) ?_
         refine U.p rfl rfl (.inl rfl) (S.pickT rfl ((L 2 rfl rfl).trans (congrArg Value.bool g176)) (L 0 rfl rfl)) ?_
         exact kk [(75, .bool (decide (x61 = 1))), (74, .bool (decide (x61 = 1))), (73, .int .i64 x61)] _ ⟨.bool (decide (x61 = 1)), .int .i64 x61, rfl, (by rw [g176, Bool.true_and])⟩
        ·skip
         refine U.x rfl rfl rfl rfl ((L 0 rfl rfl).trans (congrArg Value.bool g176)) (by decide) ?_
         refine U.x rfl rfl rfl rfl ((L 1 rfl rfl).trans (congrArg Value.bool g176)) (by decide) ?_
         refine U.p rfl rfl (.inl rfl) (S.pickF rfl ((L 2 rfl rfl).trans (congrArg Value.bool g176)) K) ?_
         exact kk [(75, .bool false), (74, .tuple #[]), (73, .tuple #[])] _ ⟨.tuple #[], .tuple #[], rfl, (by rw [g176, Bool.false_and])⟩
      ·intro kk
       refine bcase (b := x7) (fun g177 => ?_) (fun g177 => ?_)
       ·skip
        refine U.p rfl rfl (.inr ⟨_, _, _, rfl, rfl, ((L 0 rfl rfl).trans (congrArg Value.bool g177))⟩) (S.move rfl (L 8 rfl rfl)) ?_
        refine U.p rfl rfl (.inl rfl) (S.pickT rfl ((L 1 rfl rfl).trans (congrArg Value.bool g177)) (L 0 rfl rfl)) ?_
        exact kk [(71, .bool x8), (70, .bool x8)] _ ⟨.bool x8, rfl, (by rw [g177, Bool.true_and])⟩
       ·skip
        refine U.x rfl rfl rfl rfl ((L 0 rfl rfl).trans (congrArg Value.bool g177)) (by decide) ?_
        refine U.p rfl rfl (.inl rfl) (S.pickF rfl ((L 1 rfl rfl).trans (congrArg Value.bool g177)) K) ?_
        exact kk [(71, .bool false), (70, .tuple #[])] _ ⟨.tuple #[], rfl, (by rw [g177, Bool.false_and])⟩
    ·skip
     refine WP.usreg rfl ?_
     refine U.p rfl rfl (.inl rfl) (S.move rfl (L 0 rfl rfl)) ?_
     refine U.p rfl rfl (.inl rfl) (S.eqlI rfl (L 0 rfl rfl) K) ?_
     refine U.done (nr rfl) ?_
     refine WP.cond _ (L 0 rfl rfl) rfl (fun c178 => ?_) (fun c178 => ?_)
     ·have h179 := ifT c178 h53
      refine WP.usreg rfl ?_
      refine U.p rfl rfl (.inl rfl) (S.move rfl (L 12 rfl rfl)) ?_
      refine U.p rfl rfl (.inl rfl) (S.move rfl (L 14 rfl rfl)) ?_
      refine U.p rfl rfl (.inl rfl) (S.move rfl (L 16 rfl rfl)) ?_
      refine U.p rfl rfl (.inl rfl) (S.move rfl (L 19 rfl rfl)) ?_
      obtain ⟨x180, hx181, h182⟩ := bindS h179
      refine O.call (V := V55) rfl rfl (.inl rfl) rfl en65 (aC (L 3 rfl rfl) (aC (L 2 rfl rfl) (aC (L 1 rfl rfl) (aC (L 0 rfl rfl) aN)))) (wk_s_reverseRange V55 _ xs45 x4 x5 v1 ow58 _ hx181) (fun _ _ _ _ => nd) (fun v183 V184 le185 hp186 => ?_)
      have ow187 := hp186
      refine U.done (nr rfl) ?_
      refine WP.usreg rfl ?_
      refine U.p rfl rfl (.inl rfl) (S.move rfl (L 19 rfl rfl)) ?_
      refine U.p rfl rfl (.inl rfl) (S.sub rfl (L 0 rfl rfl) K) ?_
      refine U.p rfl rfl (.inl rfl) (S.move rfl (L 10 rfl rfl)) ?_
      refine U.p rfl rfl (.inl rfl) (S.move rfl (L 21 rfl rfl)) ?_
      refine U.p rfl rfl (.inl rfl) (S.sub rfl (L 1 rfl rfl) (L 0 rfl rfl)) ?_
      refine U.p rfl rfl (.inl rfl) (S.sub rfl (L 3 rfl rfl) (L 0 rfl rfl)) ?_
      refine U.p rfl rfl (.inl rfl) (S.assign rfl (L 0 rfl rfl)) ?_
      refine U.done (nr rfl) ?_
      refine WP.ureg rfl ?_
      refine U.p rfl rfl (.inl rfl) (S.assign rfl K) ?_
      refine U.done (nr rfl) ?_
      refine sqN ?_
      exact ⟨_, V184, rfl, ⟨x180, w64 ((w64 (x5 - 1)) - (w64 (x51.1 - x4))), 1, rfl, le185, ow187, h182⟩, (allCons (L 25 rfl rfl) (allCons (L 26 rfl rfl) (allCons (L 27 rfl rfl) (allCons (L 28 rfl rfl) (allCons (L 29 rfl rfl) (allCons (L 30 rfl rfl) (allCons (L 31 rfl rfl) (allCons (L 32 rfl rfl) (allCons (L 1 rfl rfl) (allCons (L 0 rfl rfl) allNil))))))))))⟩
     ·have h188 := ifF c178 h53
      refine WP.skip ?_
      refine sqN ?_
      exact ⟨_, V55, rfl, ⟨xs45, x51.1, x51.2, rfl, (.refl _), ow58, h188⟩, (allCons (L 12 rfl rfl) (allCons (L 13 rfl rfl) (allCons (L 14 rfl rfl) (allCons (L 15 rfl rfl) (allCons (L 16 rfl rfl) (allCons (L 17 rfl rfl) (allCons (L 18 rfl rfl) (allCons (L 19 rfl rfl) (allCons (L 3 rfl rfl) (allCons (L 2 rfl rfl) allNil))))))))))⟩
   ·skip
    refine WP.usreg rfl ?_
    refine U.p rfl rfl (.inl rfl) (S.move rfl (L 13 rfl rfl)) ?_
    refine U.p rfl rfl (.inl rfl) (S.not rfl (L 0 rfl rfl)) ?_
    refine U.done (nr rfl) ?_
    refine WP.cond _ (L 0 rfl rfl) rfl (fun c189 => ?_) (fun c189 => ?_)
    ·have h190 := ifT c189 h44
     have k191 : x7 = false := by simpa using c189
     refine WP.usreg rfl ?_
     refine U.p rfl rfl (.inl rfl) (S.move rfl (L 10 rfl rfl)) ?_
     refine U.p rfl rfl (.inl rfl) (S.move rfl (L 12 rfl rfl)) ?_
     refine U.p rfl rfl (.inl rfl) (S.move rfl (L 14 rfl rfl)) ?_
     refine U.p rfl rfl (.inl rfl) (S.move rfl (L 17 rfl rfl)) ?_
     obtain ⟨x192, hx193, h194⟩ := bindS h190
     refine O.call (V := V11) rfl rfl (.inl rfl) rfl en63 (aC (L 3 rfl rfl) (aC (L 2 rfl rfl) (aC (L 1 rfl rfl) (aC (L 0 rfl rfl) aN)))) (wk_s_breakPatterns V11 _ xs3 x4 x5 v1 ow13 _ hx193) (fun _ _ _ _ => nd) (fun v195 V196 le197 hp198 => ?_)
     have ow199 := hp198
     refine U.done (nr rfl) ?_
     refine WP.ureg rfl ?_
     refine U.p rfl rfl (.inl rfl) (S.move rfl (L 18 rfl rfl)) ?_
     refine U.p rfl rfl (.inl rfl) (S.sub rfl (L 0 rfl rfl) K) ?_
     refine U.p rfl rfl (.inl rfl) (S.assign rfl (L 0 rfl rfl)) ?_
     refine U.done (nr rfl) ?_
     refine sqN ?_
     exact ⟨_, V196, rfl, ⟨x192, w64 (x6 - 1), rfl, le197, ow199, h194⟩, (allCons (L 18 rfl rfl) (allCons (L 19 rfl rfl) (allCons (L 20 rfl rfl) (allCons (L 0 rfl rfl) (allCons (L 22 rfl rfl) (allCons (L 23 rfl rfl) (allCons (L 24 rfl rfl) (allCons (L 14 rfl rfl) allNil))))))))⟩
    ·have h200 := ifF c189 h44
     have k201 : x7 = true := by simpa using c189
     refine WP.skip ?_
     refine sqN ?_
     exact ⟨_, V11, rfl, ⟨xs3, x6, rfl, (.refl _), ow13, h200⟩, (allCons (L 10 rfl rfl) (allCons (L 11 rfl rfl) (allCons (L 12 rfl rfl) (allCons (L 13 rfl rfl) (allCons (L 14 rfl rfl) (allCons (L 15 rfl rfl) (allCons (L 16 rfl rfl) (allCons (L 6 rfl rfl) allNil))))))))⟩
theorem wk_s_pdqsort (V : Vw) (Rs : List At) (p0 : List Tnd) (p1 : Int) (p2 : Int) (p3 : Int) (v1 : Value) (ow : Ow V (.os RT_Tnd v1 p0 :: Rs)) (r : List Tnd) (h : s_pdqsort p0 p1 p2 p3 = some r) : ∃ v V', Cl Try.prog 0 58 #[v1, .int .i64 p1, .int .i64 p2, .int .i64 p3, .func (.func 50) #[] #[]] V.H v V'.H ∧ V.le V' ∧ (Ow V' (.os RT_Tnd v1 r :: Rs)) := by
 have key : ∀ n, ∀ (V : Vw) (Rs : List At) (p0 : List Tnd) (p1 : Int) (p2 : Int) (p3 : Int) (v1 : Value) (ow : Ow V (.os RT_Tnd v1 p0 :: Rs)) (r : List Tnd) (h : itF (fun rec_ a => s_pdqsort_F (fun p0 p1 p2 p3 => rec_ (p0, p1, p2, p3)) a.1 a.2.1 a.2.2.1 a.2.2.2) n (p0, p1, p2, p3) = some r), ∃ v V', Cl Try.prog 0 58 #[v1, .int .i64 p1, .int .i64 p2, .int .i64 p3, .func (.func 50) #[] #[]] V.H v V'.H ∧ V.le V' ∧ (Ow V' (.os RT_Tnd v1 r :: Rs)) := by
  intro n
  induction n with
  | zero => intro V Rs p0 p1 p2 p3 v1 ow r h; have h0 : (none : Option (List Tnd)) = some r := h; cases h0
  | succ n ih => exact fun V Rs p0 p1 p2 p3 v1 ow r h => wks_s_pdqsort (fun p0 p1 p2 p3 => itF (fun rec_ a => s_pdqsort_F (fun p0 p1 p2 p3 => rec_ (p0, p1, p2, p3)) a.1 a.2.1 a.2.2.1 a.2.2.2) n (p0, p1, p2, p3)) ih V Rs p0 p1 p2 p3 v1 ow r h
 obtain ⟨n, hn⟩ := recO_some h
 exact key n V Rs p0 p1 p2 p3 v1 ow r hn
set_option maxHeartbeats 4000000 in
set_option maxRecDepth 10000 in
theorem wk_slices_SortFunc (V : Vw) (Rs : List At) (p0 : List Tnd) (v1 : Value) (ow : Ow V (.os RT_Tnd v1 p0 :: Rs)) (r : List Tnd) (h : slices_SortFunc p0 = some r) : ∃ v V', Cl Try.prog 0 49 #[v1, .func (.func 50) #[] #[]] V.H v V'.H ∧ V.le V' ∧ (Ow V' (.os RT_Tnd v1 r :: Rs)) := by
 refine Ct.of (Nat.zero_le _) Try.func49 rfl (nr rfl) ?_
 unfold slices_SortFunc at h
 refine WP.usreg rfl ?_
 refine U.p rfl rfl (.inl rfl) (S.move rfl (L 0 rfl rfl)) ?_
 refine U.p rfl rfl (.inl rfl) (ow.oslen (k := 0) rfl rfl (L 0 rfl rfl) Try.underlying38) ?_
 refine U.p rfl rfl (.inl rfl) (S.assign rfl (L 0 rfl rfl)) ?_
 refine U.done (nr rfl) ?_
 refine WP.ureg rfl ?_
 refine U.p rfl rfl (.inl rfl) (S.move rfl (L 3 rfl rfl)) ?_
 refine U.p rfl rfl (.inl rfl) (S.move rfl (L 1 rfl rfl)) ?_
 refine U.p rfl rfl (.inl rfl) (S.move rfl (L 2 rfl rfl)) ?_
 refine U.p rfl rfl (.inl rfl) (S.conv rfl (L 0 rfl rfl) Try.underlying3 Try.underlying34) ?_
 obtain ⟨x3, hx4, h5⟩ := bindS h
 refine O.call (V := V) rfl rfl (.inl rfl) rfl en59 (aC (L 0 rfl rfl) aN) (wk_math_bits_Len V _ (IntKind.wrap .u64 (p0.length : Int)) ow _ hx4) (fun _ _ _ _ => nd) (fun v6 V7 le8 hp9 => ?_)
 obtain ⟨rfl, ow10⟩ := hp9
 refine U.p rfl rfl (.inl rfl) (S.move rfl (L 9 rfl rfl)) ?_
 obtain ⟨x11, hx12, h13⟩ := bindS h5
 refine O.call (V := V7) rfl rfl (.inl rfl) rfl en58 (aC (L 5 rfl rfl) (aC K (aC (L 4 rfl rfl) (aC (L 1 rfl rfl) (aC (L 0 rfl rfl) aN))))) (wk_s_pdqsort V7 _ p0 0 (p0.length : Int) x3 v1 ow10 _ hx12) (fun _ _ _ _ => nd) (fun v14 V15 le16 hp17 => ?_)
 have ow18 := hp17
 refine U.done (nr rfl) ?_
 refine fin.slots' (.inl rfl) fsN rfl ⟨V15, rfl, (le8.trans le16), ?_⟩
 have e19 := Option.some.inj h13
 subst e19
 exact ow18
set_option maxHeartbeats 4000000 in
set_option maxRecDepth 10000 in
theorem wk_order_Run_Apart (V : Vw) (Rs : List At) (p0 : List (List TEvent)) (v1 : Value) (f2 : Fz (RT.sl RT_TEvent) V v1 p0) (ow : Ow V (Rs)) (r : Bool) (h : order_Run_Apart p0 = some r) : ∃ v V', Cl Try.prog 0 19 #[v1] V.H v V'.H ∧ V.le V' ∧ (v = .bool r ∧ Ow V' (Rs)) := by
 refine Ct.of (Nat.zero_le _) Try.func19 rfl (nr rfl) ?_
 unfold order_Run_Apart at h
 refine WP.usreg rfl ?_
 refine U.p rfl rfl (.inl rfl) (S.assign rfl K) ?_
 refine U.done (nr rfl) ?_
 refine WP.usreg rfl ?_
 refine O.makeMap RT_TEvent true ow rfl rfl (.inl rfl) rfl (fun _ => nd) (fun v3 V4 le5 ow6 => ?_)
 refine U.p rfl rfl (.inl rfl) (S.assign rfl (L 0 rfl rfl)) ?_
 refine U.done (nr rfl) ?_
 refine WP.usreg rfl ?_
 refine U.p rfl rfl (.inl rfl) (S.move rfl (L 3 rfl rfl)) ?_
 have f8 := f2.up le5
 obtain ⟨x9, hx10, h11⟩ := bindS h
 refine O.call (V := V4) rfl rfl (.inl rfl) rfl en23 (aC (L 0 rfl rfl) (aC Fu aN)) (wk_order_Run_nodes_2 V4 _ p0 v1 f8 ow6 _ hx10) (fun _ _ _ _ => nd) (fun v12 V13 le14 hp15 => ?_)
 obtain ⟨_, rfl, ow16⟩ := hp15
 refine U.p rfl rfl (.inl rfl) (S.assign rfl (L 0 rfl rfl)) ?_
 refine U.done (nr rfl) ?_
 refine WP.usreg rfl ?_
 refine U.p rfl rfl (.inl rfl) (S.move rfl (L 0 rfl rfl)) ?_
 obtain ⟨x19, hx20, h21⟩ := bindS h11
 refine O.call (V := V13) rfl rfl (.inl rfl) rfl en49 (aC (L 0 rfl rfl) (aC Fu aN)) (wk_slices_SortFunc V13 _ x9 v12 ow16 _ hx20) (fun _ _ _ _ => nd) (fun v22 V23 le24 hp25 => ?_)
 have ow26 := hp25
 refine U.done (nr rfl) ?_
 refine WP.seq ?_
 refine WP.usreg rfl ?_
 refine U.p rfl rfl (.inl rfl) (S.move rfl (L 2 rfl rfl)) ?_
 refine U.p rfl rfl (.inl rfl) (ow26.oslen (k := 0) rfl rfl (L 0 rfl rfl) Try.underlying38) ?_
 refine U.p rfl rfl (.inl rfl) (S.move rfl K) ?_
 refine U.done (nr rfl) ?_
 refine WP.blk ?_
 have ow29 := ow26.pick 0 rfl
 have ow30 := ow29.pick 1 rfl
 unfold order_Run_Apart_l1 at h21
 obtain ⟨n32, hn31⟩ := loopO_some.1 h21
 refine WP.loopI2 (fun n l V' => ∃ (xs27 : List (Int × TEvent)) (x28 : Int), l = [(3, v3), (14, v12), (15, .int .i64 (x19.length : Int)), (16, .int .i64 x28)] ∧ V23.le V' ∧ Ow V' (.om RT_TEvent true v3 xs27 :: .os RT_Tnd v12 x19 :: Rs) ∧ itO (fun s => order_Run_Apart_l1b x19 s.1 s.2) n (xs27, x28) = some r) n32 _ ⟨[], 0, rfl, .refl _, ow30, hn31⟩ (allCons (L 8 rfl rfl) (allCons (L 2 rfl rfl) (allCons (L 1 rfl rfl) (allCons (L 0 rfl rfl) allNil)))) ?_
 rintro _ _ V33 ⟨xs27, x28, rfl, le34, ow35, h39⟩
 obtain ⟨m36, q37, rfl, h40, e38⟩ := itS h39
 replace h40 : order_Run_Apart_l1b x19 xs27 x28 = some q37 := h40
 unfold order_Run_Apart_l1b at h40
 refine WP.usreg rfl ?_
 refine U.p rfl rfl (.inl rfl) (S.lss rfl (L 3 rfl rfl) (L 2 rfl rfl)) ?_
 refine U.done (nr rfl) ?_
 refine WP.seq ?_
 refine WP.cond _ (L 0 rfl rfl) rfl (fun c41 => ?_) (fun c41 => ?_)
 ·have h42 := ifT c41 h40
  refine WP.skip ?_
  refine sqN ?_
  refine WP.seq ?_
  refine WP.blk ?_
  refine WP.usreg rfl ?_
  obtain ⟨x43, hx44, h45⟩ := bindS h42
  obtain ⟨b46, o47, n48, c49, hv50⟩ := ow35.ospt (k := 1) rfl hx44
  obtain ⟨_, hv51, _⟩ := ow35.osel (k := 1) rfl hv50 hx44
  refine U.p rfl rfl (.inl rfl) (S.index rfl ((L 2 rfl rfl).trans hv51) (L 4 rfl rfl) Try.underlying38 ti45 (ix_ge hx44) (ix_lt hx44)) ?_
  obtain ⟨cs52, hv53, hlt54, hr55, hc56⟩ := ow35.osel (k := 1) rfl hv50 hx44
  obtain rfl : cs52 = [.int .i64 x43.e.t, .int .i64 x43.e.act.kind, .int .i64 x43.e.act.at_, .int .i64 x43.e.act.val, .int .i64 x43.e.act.what, .bool x43.e.act.volatile, .bool x43.e.act.final, .int .i64 x43.e.rf, .int .i64 x43.e.id, .int .i64 x43.at_] := hr55
  refine U.k rfl rfl (.inl rfl) (S.loadN (cs := [.int .i64 x43.e.t, .int .i64 x43.e.act.kind, .int .i64 x43.e.act.at_, .int .i64 x43.e.act.val, .int .i64 x43.e.act.what, .bool x43.e.act.volatile, .bool x43.e.act.final, .int .i64 x43.e.rf, .int .i64 x43.e.id, .int .i64 x43.at_]) rfl (L 0 rfl rfl) Try.underlying45 rfl ti45 rfl hc56) nd ?_
  refine O.alloc ow35 rfl rfl (.inl rfl) rfl ti45 rfl rfl nd (fun b57 V58 le59 ow60 => ?_)
  refine O.store (k := 0) (cs := [.int .i64 x43.e.t, .int .i64 x43.e.act.kind, .int .i64 x43.e.act.at_, .int .i64 x43.e.act.val, .int .i64 x43.e.act.what, .bool x43.e.act.volatile, .bool x43.e.act.final, .int .i64 x43.e.rf, .int .i64 x43.e.id, .int .i64 x43.at_]) (c' := [.int .i64 x43.e.t, .int .i64 x43.e.act.kind, .int .i64 x43.e.act.at_, .int .i64 x43.e.act.val, .int .i64 x43.e.act.what, .bool x43.e.act.volatile, .bool x43.e.act.final, .int .i64 x43.e.rf, .int .i64 x43.e.id, .int .i64 x43.at_]) ow60 rfl rfl rfl (.inl rfl) rfl (L 0 rfl rfl) (L 1 rfl rfl) ti45 (by simp [topV]) rfl rfl (nr rfl) rfl rfl nd (fun V62 le63 ow64 => ?_)
  refine U.done (nr rfl) ?_
  refine WP.usreg rfl ?_
  refine U.p rfl rfl (.inl rfl) (S.move rfl (L 4 rfl rfl)) ?_
  refine U.p (v := .pointer (some ⟨b57, 0, none⟩)) rfl rfl (.inl rfl) (S.fieldAddr rfl (L 1 rfl rfl) Try.underlying45 rfl ti31 rfl rfl) ?_
  refine U.p (v := .pointer (some ⟨b57, 1, none⟩)) rfl rfl (.inl rfl) (S.fieldAddr rfl (L 0 rfl rfl) Try.underlying31 rfl ti29 rfl rfl) ?_
  refine U.p (v := .pointer (some ⟨b57, 2, none⟩)) rfl rfl (.inl rfl) (S.fieldAddr rfl (L 0 rfl rfl) Try.underlying29 rfl ti3 rfl rfl) ?_
  refine U.k rfl rfl (.inl rfl) (S.load rfl (L 0 rfl rfl) Try.underlying3 rfl ((ow64.own (k := 0) rfl).cell rfl)) nd ?_
  refine O.lookup2 (k := 1) (⟨0, (⟨0, 0, 0, 0, false, false⟩ : TAct), 0, 0⟩ : TEvent) ow64 rfl rfl rfl (.inl rfl) rfl (L 4 rfl rfl) (L 0 rfl rfl) Try.underlying62 Try.underlying3 ti31 rfl (agg_vrel rfl) (fun b65 hlt67 => nd) (fun b65 u66 hlt67 hr68 => ?_)
  obtain ⟨x70, hx71, h72⟩ := bindS h45
  rw [Option.some.inj hx71] at hr68
  obtain ⟨cs73, rfl, hc74⟩ := vrel_agg hr68
  obtain rfl : cs73 = #[.int .i64 x70.t, .int .i64 x70.act.kind, .int .i64 x70.act.at_, .int .i64 x70.act.val, .int .i64 x70.act.what, .bool x70.act.volatile, .bool x70.act.final, .int .i64 x70.rf, .int .i64 x70.id] := Array.ext' (show cs73.toList = [.int .i64 x70.t, .int .i64 x70.act.kind, .int .i64 x70.act.at_, .int .i64 x70.act.val, .int .i64 x70.act.what, .bool x70.act.volatile, .bool x70.act.final, .int .i64 x70.rf, .int .i64 x70.id] from hc74)
  refine U.p rfl rfl (.inl rfl) (S.move rfl (L 0 rfl rfl)) ?_
  refine U.p rfl rfl (.inl rfl) (S.extract rfl (L 0 rfl rfl) rfl (nr rfl)) ?_
  refine U.p rfl rfl (.inl rfl) (S.extract rfl (L 1 rfl rfl) rfl (nr rfl)) ?_
  refine O.alloc ow64 rfl rfl (.inl rfl) rfl ti31 rfl rfl nd (fun b75 V76 le77 ow78 => ?_)
  refine O.store (k := 0) (cs := [.int .i64 x70.t, .int .i64 x70.act.kind, .int .i64 x70.act.at_, .int .i64 x70.act.val, .int .i64 x70.act.what, .bool x70.act.volatile, .bool x70.act.final, .int .i64 x70.rf, .int .i64 x70.id]) (c' := [.int .i64 x70.t, .int .i64 x70.act.kind, .int .i64 x70.act.at_, .int .i64 x70.act.val, .int .i64 x70.act.what, .bool x70.act.volatile, .bool x70.act.final, .int .i64 x70.rf, .int .i64 x70.id]) ow78 rfl rfl rfl (.inl rfl) rfl (L 0 rfl rfl) (L 2 rfl rfl) ti31 (by simp [topV]) rfl rfl (nr rfl) rfl rfl nd (fun V80 le81 ow82 => ?_)
  refine U.p rfl rfl (.inl rfl) (S.assign rfl (L 1 rfl rfl)) ?_
  refine U.done (nr rfl) ?_
  refine WP.seq ?_
  refine WP.usreg rfl ?_
  refine U.p rfl rfl (.inl rfl) (S.move rfl (L 0 rfl rfl)) ?_
  refine U.p rfl rfl (.inl rfl) (S.move rfl (L 0 rfl rfl)) ?_
  refine U.joinX 7 (fun e H => ∃ (u83 u84 u85 u86 : Value), H = V80.H ∧ e = [(35, .bool (((mG xs27 x43.e.act.at_).isSome) && (decide (x70.act.val ≠ 0)))), (34, u83), (33, u84), (32, u85), (31, u86)]) ?_ ?_
  ·rintro _ _ ⟨u83, u84, u85, u86, rfl, rfl⟩
   refine U.p rfl rfl (.inl rfl) (S.move rfl (L 0 rfl rfl)) ?_
   refine U.joinX 15 (fun e H => ∃ (u90 u91 u92 u93 u94 u95 : Value), H = V80.H ∧ e = [(43, .bool ((((mG xs27 x43.e.act.at_).isSome) && (decide (x70.act.val ≠ 0))) && (decide (x70.t ≠ x43.e.t)))), (42, u90), (41, u91), (40, u92), (39, u93), (38, u94), (37, u95)]) ?_ ?_
   ·rintro _ _ ⟨u90, u91, u92, u93, u94, u95, rfl, rfl⟩
    refine U.p rfl rfl (.inl rfl) (S.move rfl (L 0 rfl rfl)) ?_
    refine U.joinX 34 (fun e H => ∃ (u99 u100 u101 u102 u103 u104 u105 u106 u107 u108 u109 u110 u111 u112 u113 u114 u115 : Value), H = V80.H ∧ e = [(62, .bool (((((mG xs27 x43.e.act.at_).isSome) && (decide (x70.act.val ≠ 0))) && (decide (x70.t ≠ x43.e.t))) || ((decide (x43.e.act.kind = 6)) && ((!((mG xs27 x43.e.act.at_).isSome)) || (decide (x70.t ≠ x43.e.t)))))), (61, u99), (60, u100), (59, u101), (58, u102), (57, u103), (56, u104), (55, u105), (54, u106), (53, u107), (52, u108), (51, u109), (50, u110), (49, u111), (48, u112), (47, u113), (46, u114), (45, u115)]) ?_ ?_
    ·rintro _ _ ⟨u99, u100, u101, u102, u103, u104, u105, u106, u107, u108, u109, u110, u111, u112, u113, u114, u115, rfl, rfl⟩
     refine U.done (nr rfl) ?_
     refine WP.cond _ (L 0 rfl rfl) rfl (fun c119 => ?_) (fun c119 => ?_)
     ·have h120 := ifT c119 h72
      refine WP.usreg rfl ?_
      refine U.p rfl rfl (.inl rfl) (S.assign rfl K) ?_
      refine U.done (nr rfl) ?_
      refine WP.ret ?_
      refine sqR (blkR (sqR (sqR (blkR (sqR ?_)))))
      have h121 := exitS h120 e38
      refine fin.slot (.inr rfl) rfl (L 0 rfl rfl) ⟨V80, rfl, (((((((le5.trans le14).trans le24).trans le34).trans le59).trans le63).trans le77).trans le81), ?_⟩
      have ow122 := ow82.drop 0 rfl
      have ow123 := ow122.drop 0 rfl
      have ow124 := ow123.drop 0 rfl
      have ow125 := ow124.drop 0 rfl
      have e126 := Option.some.inj h121
      subst e126
      exact ⟨rfl, ow125⟩
     ·have h127 := ifF c119 h72
      refine WP.skip ?_
      refine sqN ?_
      refine WP.ureg rfl ?_
      refine U.p rfl rfl (.inl rfl) (S.move rfl (L 49 rfl rfl)) ?_
      refine U.p (v := .pointer (some ⟨b57, 0, none⟩)) rfl rfl (.inl rfl) (S.fieldAddr rfl (L 46 rfl rfl) Try.underlying45 rfl ti31 rfl rfl) ?_
      refine U.p (v := .pointer (some ⟨b57, 1, none⟩)) rfl rfl (.inl rfl) (S.fieldAddr rfl (L 0 rfl rfl) Try.underlying31 rfl ti29 rfl rfl) ?_
      refine U.p (v := .pointer (some ⟨b57, 2, none⟩)) rfl rfl (.inl rfl) (S.fieldAddr rfl (L 0 rfl rfl) Try.underlying29 rfl ti3 rfl rfl) ?_
      refine U.k rfl rfl (.inl rfl) (S.load rfl (L 0 rfl rfl) Try.underlying3 rfl ((ow82.own (k := 1) rfl).cell rfl)) nd ?_
      refine U.p (v := .pointer (some ⟨b57, 0, none⟩)) rfl rfl (.inl rfl) (S.fieldAddr rfl (L 50 rfl rfl) Try.underlying45 rfl ti31 rfl rfl) ?_
      refine U.k rfl rfl (.inl rfl) (S.loadN (cs := [.int .i64 x43.e.t, .int .i64 x43.e.act.kind, .int .i64 x43.e.act.at_, .int .i64 x43.e.act.val, .int .i64 x43.e.act.what, .bool x43.e.act.volatile, .bool x43.e.act.final, .int .i64 x43.e.rf, .int .i64 x43.e.id]) rfl (L 0 rfl rfl) Try.underlying31 rfl ti31 rfl (cellsOfOwn (ow82.own (k := 1) rfl) 0 rfl)) nd ?_
      refine O.mapUpdate (k := 2) (w := x43.e) ow82 rfl rfl rfl (.inl rfl) rfl (L 6 rfl rfl) (L 2 rfl rfl) (L 0 rfl rfl) Try.underlying62 Try.underlying3 (agg_vrel rfl) (fun _ _ => nd) (fun V128 le129 ow130 => ?_)
      refine U.done (nr rfl) ?_
      refine blkN (sqN ?_)
      refine WP.ureg rfl ?_
      refine U.p rfl rfl (.inl rfl) (S.add rfl (L 59 rfl rfl) K) ?_
      refine U.p rfl rfl (.inl rfl) (S.move rfl (L 0 rfl rfl)) ?_
      refine U.done (nr rfl) ?_
      refine sqN ?_
      have ow131 := ow130.drop 0 rfl
      have ow132 := ow131.drop 0 rfl
      exact ⟨_, V128, rfl, ⟨m36, Nat.lt_succ_self _, mS xs27 x43.e.act.at_ x43.e, w64 (x28 + 1), rfl, (((((le34.trans le59).trans le63).trans le77).trans le81).trans le129), ow132, backS h127 e38⟩, (allCons (L 58 rfl rfl) (allCons (L 59 rfl rfl) (allCons (L 60 rfl rfl) (allCons (L 0 rfl rfl) allNil))))⟩
    ·intro kk
     refine bcase (b := (((mG xs27 x43.e.act.at_).isSome) && (decide (x70.act.val ≠ 0))) && (decide (x70.t ≠ x43.e.t))) (fun g133 => ?_) (fun g133 => ?_)
     ·skip
      refine U.x rfl rfl rfl rfl ((L 0 rfl rfl).trans (congrArg Value.bool g133)) (by decide) ?_
      refine U.x rfl rfl rfl rfl ((L 1 rfl rfl).trans (congrArg Value.bool g133)) (by decide) ?_
      refine U.x rfl rfl rfl rfl ((L 2 rfl rfl).trans (congrArg Value.bool g133)) (by decide) ?_
      refine U.x rfl rfl rfl rfl ((L 3 rfl rfl).trans (congrArg Value.bool g133)) (by decide) ?_
      refine U.x rfl rfl rfl rfl ((L 4 rfl rfl).trans (congrArg Value.bool g133)) (by decide) ?_
      refine U.x rfl rfl rfl rfl ((L 5 rfl rfl).trans (congrArg Value.bool g133)) (by decide) ?_
      refine U.z rfl rfl rfl rfl (L 0 rfl rfl) ?_
      refine U.z rfl rfl rfl rfl (L 1 rfl rfl) ?_
      refine U.z rfl rfl rfl rfl (L 2 rfl rfl) ?_
      refine U.z rfl rfl rfl rfl (L 0 rfl rfl) ?_
      refine U.z rfl rfl rfl rfl (L 1 rfl rfl) ?_
      refine U.z rfl rfl rfl rfl (L 2 rfl rfl) ?_
      refine U.z rfl rfl rfl rfl (L 3 rfl rfl) ?_
      refine U.z rfl rfl rfl rfl (L 4 rfl rfl) ?_
      refine U.z rfl rfl rfl rfl (L 5 rfl rfl) ?_
      refine U.z rfl rfl rfl rfl (L 9 rfl rfl) ?_
      refine U.x rfl rfl rfl rfl ((L 16 rfl rfl).trans (congrArg Value.bool g133)) (by decide) ?_
      refine U.p rfl rfl (.inl rfl) (S.pickT rfl ((L 17 rfl rfl).trans (congrArg Value.bool g133)) K) ?_
      exact kk [(62, .bool true), (61, .tuple #[]), (60, .tuple #[]), (59, .tuple #[]), (58, .tuple #[]), (57, .tuple #[]), (56, .tuple #[]), (55, .tuple #[]), (54, .tuple #[]), (53, .tuple #[]), (52, .tuple #[]), (51, .tuple #[]), (50, .tuple #[]), (49, .tuple #[]), (48, .tuple #[]), (47, .tuple #[]), (46, .tuple #[]), (45, .tuple #[])] _ ⟨.tuple #[], .tuple #[], .tuple #[], .tuple #[], .tuple #[], .tuple #[], .tuple #[], .tuple #[], .tuple #[], .tuple #[], .tuple #[], .tuple #[], .tuple #[], .tuple #[], .tuple #[], .tuple #[], .tuple #[], rfl, (by rw [g133, Bool.true_or])⟩
     ·skip
      refine U.p (v := .pointer (some ⟨b57, 0, none⟩)) rfl rfl (.inr ⟨_, _, _, rfl, rfl, ((L 0 rfl rfl).trans (congrArg Value.bool g133))⟩) (S.fieldAddr rfl (L 27 rfl rfl) Try.underlying45 rfl ti31 rfl rfl) ?_
      refine U.p (v := .pointer (some ⟨b57, 1, none⟩)) rfl rfl (.inr ⟨_, _, _, rfl, rfl, ((L 1 rfl rfl).trans (congrArg Value.bool g133))⟩) (S.fieldAddr rfl (L 0 rfl rfl) Try.underlying31 rfl ti29 rfl rfl) ?_
      refine U.p (v := .pointer (some ⟨b57, 1, none⟩)) rfl rfl (.inr ⟨_, _, _, rfl, rfl, ((L 2 rfl rfl).trans (congrArg Value.bool g133))⟩) (S.fieldAddr rfl (L 0 rfl rfl) Try.underlying29 rfl ti3 rfl rfl) ?_
      refine U.k rfl rfl (.inr ⟨_, _, _, rfl, rfl, ((L 3 rfl rfl).trans (congrArg Value.bool g133))⟩) (S.load rfl (L 0 rfl rfl) Try.underlying3 rfl ((ow82.own (k := 1) rfl).cell rfl)) nd ?_
      refine U.p rfl rfl (.inr ⟨_, _, _, rfl, rfl, ((L 4 rfl rfl).trans (congrArg Value.bool g133))⟩) (S.eqlI rfl (L 0 rfl rfl) K) ?_
      refine U.p rfl rfl (.inr ⟨_, _, _, rfl, rfl, ((L 5 rfl rfl).trans (congrArg Value.bool g133))⟩) (S.move rfl (L 0 rfl rfl)) ?_
      refine U.joinX 33 (fun e H => ∃ (u134 u135 u136 u137 u138 u139 u140 u141 u142 u143 : Value), H = V80.H ∧ e = [(61, .bool ((decide (x43.e.act.kind = 6)) && ((!((mG xs27 x43.e.act.at_).isSome)) || (decide (x70.t ≠ x43.e.t))))), (60, u134), (59, u135), (58, u136), (57, u137), (56, u138), (55, u139), (54, u140), (53, u141), (52, u142), (51, u143)]) ?_ ?_
      ·rintro _ _ ⟨u134, u135, u136, u137, u138, u139, u140, u141, u142, u143, rfl, rfl⟩
       refine U.p rfl rfl (.inl rfl) (S.pickF rfl ((L 17 rfl rfl).trans (congrArg Value.bool g133)) (L 0 rfl rfl)) ?_
       exact kk [(62, .bool ((decide (x43.e.act.kind = 6)) && ((!((mG xs27 x43.e.act.at_).isSome)) || (decide (x70.t ≠ x43.e.t))))), (61, .bool ((decide (x43.e.act.kind = 6)) && ((!((mG xs27 x43.e.act.at_).isSome)) || (decide (x70.t ≠ x43.e.t))))), (60, u134), (59, u135), (58, u136), (57, u137), (56, u138), (55, u139), (54, u140), (53, u141), (52, u142), (51, u143), (50, .bool (decide (x43.e.act.kind = 6))), (49, .bool (decide (x43.e.act.kind = 6))), (48, .int .i64 x43.e.act.kind), (47, .pointer (some ⟨b57, 1, none⟩)), (46, .pointer (some ⟨b57, 1, none⟩)), (45, .pointer (some ⟨b57, 0, none⟩))] _ ⟨.bool ((decide (x43.e.act.kind = 6)) && ((!((mG xs27 x43.e.act.at_).isSome)) || (decide (x70.t ≠ x43.e.t)))), u134, u135, u136, u137, u138, u139, u140, u141, u142, u143, .bool (decide (x43.e.act.kind = 6)), .bool (decide (x43.e.act.kind = 6)), .int .i64 x43.e.act.kind, .pointer (some ⟨b57, 1, none⟩), .pointer (some ⟨b57, 1, none⟩), .pointer (some ⟨b57, 0, none⟩), rfl, (by rw [g133, Bool.false_or])⟩
      ·intro kk
       refine bcase (b := decide (x43.e.act.kind = 6)) (fun g147 => ?_) (fun g147 => ?_)
       ·skip
        refine U.p rfl rfl (.inr ⟨_, _, _, rfl, rfl, ((L 0 rfl rfl).trans (congrArg Value.bool g147))⟩) (S.move rfl (L 22 rfl rfl)) ?_
        refine U.p rfl rfl (.inr ⟨_, _, _, rfl, rfl, ((L 1 rfl rfl).trans (congrArg Value.bool g147))⟩) (S.not rfl (L 0 rfl rfl)) ?_
        refine U.p rfl rfl (.inr ⟨_, _, _, rfl, rfl, ((L 2 rfl rfl).trans (congrArg Value.bool g147))⟩) (S.move rfl (L 0 rfl rfl)) ?_
        refine U.joinX 32 (fun e H => ∃ (u148 u149 u150 u151 u152 u153 : Value), H = V80.H ∧ e = [(60, .bool ((!((mG xs27 x43.e.act.at_).isSome)) || (decide (x70.t ≠ x43.e.t)))), (59, u148), (58, u149), (57, u150), (56, u151), (55, u152), (54, u153)]) ?_ ?_
        ·rintro _ _ ⟨u148, u149, u150, u151, u152, u153, rfl, rfl⟩
         refine U.p rfl rfl (.inr ⟨_, _, _, rfl, rfl, ((L 16 rfl rfl).trans (congrArg Value.bool g133))⟩) (S.pickT rfl ((L 10 rfl rfl).trans (congrArg Value.bool g147)) (L 0 rfl rfl)) ?_
         exact kk [(61, .bool ((!((mG xs27 x43.e.act.at_).isSome)) || (decide (x70.t ≠ x43.e.t)))), (60, .bool ((!((mG xs27 x43.e.act.at_).isSome)) || (decide (x70.t ≠ x43.e.t)))), (59, u148), (58, u149), (57, u150), (56, u151), (55, u152), (54, u153), (53, .bool (!((mG xs27 x43.e.act.at_).isSome))), (52, .bool (!((mG xs27 x43.e.act.at_).isSome))), (51, .bool ((mG xs27 x43.e.act.at_).isSome))] _ ⟨.bool ((!((mG xs27 x43.e.act.at_).isSome)) || (decide (x70.t ≠ x43.e.t))), u148, u149, u150, u151, u152, u153, .bool (!((mG xs27 x43.e.act.at_).isSome)), .bool (!((mG xs27 x43.e.act.at_).isSome)), .bool ((mG xs27 x43.e.act.at_).isSome), rfl, (by rw [g147, Bool.true_and])⟩
        ·intro kk
         refine bcase (b := !((mG xs27 x43.e.act.at_).isSome)) (fun g157 => ?_) (fun g157 => ?_)
         ·skip
          have k158 : ((mG xs27 x43.e.act.at_).isSome) = false := by simpa using g157
          refine U.x rfl rfl rfl rfl ((L 0 rfl rfl).trans (congrArg Value.bool g157)) (by decide) ?_
          refine U.x rfl rfl rfl rfl ((L 1 rfl rfl).trans (congrArg Value.bool g157)) (by decide) ?_
          refine U.x rfl rfl rfl rfl ((L 2 rfl rfl).trans (congrArg Value.bool g157)) (by decide) ?_
          refine U.x rfl rfl rfl rfl ((L 3 rfl rfl).trans (congrArg Value.bool g157)) (by decide) ?_
          refine U.x rfl rfl rfl rfl ((L 4 rfl rfl).trans (congrArg Value.bool g157)) (by decide) ?_
          refine U.x rfl rfl rfl rfl ((L 5 rfl rfl).trans (congrArg Value.bool g157)) (by decide) ?_
          refine U.p rfl rfl (.inr ⟨_, _, _, rfl, rfl, ((L 9 rfl rfl).trans (congrArg Value.bool g147))⟩) (S.pickT rfl ((L 6 rfl rfl).trans (congrArg Value.bool g157)) K) ?_
          exact kk [(60, .bool true), (59, .tuple #[]), (58, .tuple #[]), (57, .tuple #[]), (56, .tuple #[]), (55, .tuple #[]), (54, .tuple #[])] _ ⟨.tuple #[], .tuple #[], .tuple #[], .tuple #[], .tuple #[], .tuple #[], rfl, (by rw [g157, Bool.true_or])⟩
         ·skip
          have k159 : ((mG xs27 x43.e.act.at_).isSome) = true := by simpa using g157
          refine U.p (v := .pointer (some ⟨b75, 0, none⟩)) rfl rfl (.inr ⟨_, _, _, rfl, rfl, ((L 0 rfl rfl).trans (congrArg Value.bool g157))⟩) (S.fieldAddr rfl (L 26 rfl rfl) Try.underlying31 rfl ti3 rfl rfl) ?_
          refine U.k rfl rfl (.inr ⟨_, _, _, rfl, rfl, ((L 1 rfl rfl).trans (congrArg Value.bool g157))⟩) (S.load rfl (L 0 rfl rfl) Try.underlying3 rfl ((ow82.own (k := 0) rfl).cell rfl)) nd ?_
          refine U.p (v := .pointer (some ⟨b57, 0, none⟩)) rfl rfl (.inr ⟨_, _, _, rfl, rfl, ((L 2 rfl rfl).trans (congrArg Value.bool g157))⟩) (S.fieldAddr rfl (L 38 rfl rfl) Try.underlying45 rfl ti31 rfl rfl) ?_
          refine U.p (v := .pointer (some ⟨b57, 0, none⟩)) rfl rfl (.inr ⟨_, _, _, rfl, rfl, ((L 3 rfl rfl).trans (congrArg Value.bool g157))⟩) (S.fieldAddr rfl (L 0 rfl rfl) Try.underlying31 rfl ti3 rfl rfl) ?_
          refine U.k rfl rfl (.inr ⟨_, _, _, rfl, rfl, ((L 4 rfl rfl).trans (congrArg Value.bool g157))⟩) (S.load rfl (L 0 rfl rfl) Try.underlying3 rfl ((ow82.own (k := 1) rfl).cell rfl)) nd ?_
          refine U.p rfl rfl (.inr ⟨_, _, _, rfl, rfl, ((L 5 rfl rfl).trans (congrArg Value.bool g157))⟩) (S.neqI rfl (L 3 rfl rfl) (L 0 rfl rfl)) ?_
          refine U.p rfl rfl (.inr ⟨_, _, _, rfl, rfl, ((L 9 rfl rfl).trans (congrArg Value.bool g147))⟩) (S.pickF rfl ((L 6 rfl rfl).trans (congrArg Value.bool g157)) (L 0 rfl rfl)) ?_
          exact kk [(60, .bool (decide (x70.t ≠ x43.e.t))), (59, .bool (decide (x70.t ≠ x43.e.t))), (58, .int .i64 x43.e.t), (57, .pointer (some ⟨b57, 0, none⟩)), (56, .pointer (some ⟨b57, 0, none⟩)), (55, .int .i64 x70.t), (54, .pointer (some ⟨b75, 0, none⟩))] _ ⟨.bool (decide (x70.t ≠ x43.e.t)), .int .i64 x43.e.t, .pointer (some ⟨b57, 0, none⟩), .pointer (some ⟨b57, 0, none⟩), .int .i64 x70.t, .pointer (some ⟨b75, 0, none⟩), rfl, (by rw [g157, Bool.false_or])⟩
       ·skip
        refine U.x rfl rfl rfl rfl ((L 0 rfl rfl).trans (congrArg Value.bool g147)) (by decide) ?_
        refine U.x rfl rfl rfl rfl ((L 1 rfl rfl).trans (congrArg Value.bool g147)) (by decide) ?_
        refine U.x rfl rfl rfl rfl ((L 2 rfl rfl).trans (congrArg Value.bool g147)) (by decide) ?_
        refine U.z rfl rfl rfl rfl (L 0 rfl rfl) ?_
        refine U.z rfl rfl rfl rfl (L 1 rfl rfl) ?_
        refine U.z rfl rfl rfl rfl (L 2 rfl rfl) ?_
        refine U.z rfl rfl rfl rfl (L 3 rfl rfl) ?_
        refine U.z rfl rfl rfl rfl (L 4 rfl rfl) ?_
        refine U.z rfl rfl rfl rfl (L 5 rfl rfl) ?_
        refine U.x rfl rfl rfl rfl ((L 9 rfl rfl).trans (congrArg Value.bool g147)) (by decide) ?_
        refine U.p rfl rfl (.inr ⟨_, _, _, rfl, rfl, ((L 16 rfl rfl).trans (congrArg Value.bool g133))⟩) (S.pickF rfl ((L 10 rfl rfl).trans (congrArg Value.bool g147)) K) ?_
        exact kk [(61, .bool false), (60, .tuple #[]), (59, .tuple #[]), (58, .tuple #[]), (57, .tuple #[]), (56, .tuple #[]), (55, .tuple #[]), (54, .tuple #[]), (53, .tuple #[]), (52, .tuple #[]), (51, .tuple #[])] _ ⟨.tuple #[], .tuple #[], .tuple #[], .tuple #[], .tuple #[], .tuple #[], .tuple #[], .tuple #[], .tuple #[], .tuple #[], rfl, (by rw [g147, Bool.false_and])⟩
   ·intro kk
    refine bcase (b := ((mG xs27 x43.e.act.at_).isSome) && (decide (x70.act.val ≠ 0))) (fun g160 => ?_) (fun g160 => ?_)
    ·skip
     refine U.p (v := .pointer (some ⟨b75, 0, none⟩)) rfl rfl (.inr ⟨_, _, _, rfl, rfl, ((L 0 rfl rfl).trans (congrArg Value.bool g160))⟩) (S.fieldAddr rfl (L 9 rfl rfl) Try.underlying31 rfl ti3 rfl rfl) ?_
     refine U.k rfl rfl (.inr ⟨_, _, _, rfl, rfl, ((L 1 rfl rfl).trans (congrArg Value.bool g160))⟩) (S.load rfl (L 0 rfl rfl) Try.underlying3 rfl ((ow82.own (k := 0) rfl).cell rfl)) nd ?_
     refine U.p (v := .pointer (some ⟨b57, 0, none⟩)) rfl rfl (.inr ⟨_, _, _, rfl, rfl, ((L 2 rfl rfl).trans (congrArg Value.bool g160))⟩) (S.fieldAddr rfl (L 21 rfl rfl) Try.underlying45 rfl ti31 rfl rfl) ?_
     refine U.p (v := .pointer (some ⟨b57, 0, none⟩)) rfl rfl (.inr ⟨_, _, _, rfl, rfl, ((L 3 rfl rfl).trans (congrArg Value.bool g160))⟩) (S.fieldAddr rfl (L 0 rfl rfl) Try.underlying31 rfl ti3 rfl rfl) ?_
     refine U.k rfl rfl (.inr ⟨_, _, _, rfl, rfl, ((L 4 rfl rfl).trans (congrArg Value.bool g160))⟩) (S.load rfl (L 0 rfl rfl) Try.underlying3 rfl ((ow82.own (k := 1) rfl).cell rfl)) nd ?_
     refine U.p rfl rfl (.inr ⟨_, _, _, rfl, rfl, ((L 5 rfl rfl).trans (congrArg Value.bool g160))⟩) (S.neqI rfl (L 3 rfl rfl) (L 0 rfl rfl)) ?_
     refine U.p rfl rfl (.inl rfl) (S.pickT rfl ((L 6 rfl rfl).trans (congrArg Value.bool g160)) (L 0 rfl rfl)) ?_
     exact kk [(43, .bool (decide (x70.t ≠ x43.e.t))), (42, .bool (decide (x70.t ≠ x43.e.t))), (41, .int .i64 x43.e.t), (40, .pointer (some ⟨b57, 0, none⟩)), (39, .pointer (some ⟨b57, 0, none⟩)), (38, .int .i64 x70.t), (37, .pointer (some ⟨b75, 0, none⟩))] _ ⟨.bool (decide (x70.t ≠ x43.e.t)), .int .i64 x43.e.t, .pointer (some ⟨b57, 0, none⟩), .pointer (some ⟨b57, 0, none⟩), .int .i64 x70.t, .pointer (some ⟨b75, 0, none⟩), rfl, (by rw [g160, Bool.true_and])⟩
    ·skip
     refine U.x rfl rfl rfl rfl ((L 0 rfl rfl).trans (congrArg Value.bool g160)) (by decide) ?_
     refine U.x rfl rfl rfl rfl ((L 1 rfl rfl).trans (congrArg Value.bool g160)) (by decide) ?_
     refine U.x rfl rfl rfl rfl ((L 2 rfl rfl).trans (congrArg Value.bool g160)) (by decide) ?_
     refine U.x rfl rfl rfl rfl ((L 3 rfl rfl).trans (congrArg Value.bool g160)) (by decide) ?_
     refine U.x rfl rfl rfl rfl ((L 4 rfl rfl).trans (congrArg Value.bool g160)) (by decide) ?_
     refine U.x rfl rfl rfl rfl ((L 5 rfl rfl).trans (congrArg Value.bool g160)) (by decide) ?_
     refine U.p rfl rfl (.inl rfl) (S.pickF rfl ((L 6 rfl rfl).trans (congrArg Value.bool g160)) K) ?_
     exact kk [(43, .bool false), (42, .tuple #[]), (41, .tuple #[]), (40, .tuple #[]), (39, .tuple #[]), (38, .tuple #[]), (37, .tuple #[])] _ ⟨.tuple #[], .tuple #[], .tuple #[], .tuple #[], .tuple #[], .tuple #[], rfl, (by rw [g160, Bool.false_and])⟩
  ·intro kk
   refine bcase (b := (mG xs27 x43.e.act.at_).isSome) (fun g161 => ?_) (fun g161 => ?_)
   ·skip
    refine U.p (v := .pointer (some ⟨b75, 1, none⟩)) rfl rfl (.inr ⟨_, _, _, rfl, rfl, ((L 0 rfl rfl).trans (congrArg Value.bool g161))⟩) (S.fieldAddr rfl (L 3 rfl rfl) Try.underlying31 rfl ti29 rfl rfl) ?_
    refine U.p (v := .pointer (some ⟨b75, 3, none⟩)) rfl rfl (.inr ⟨_, _, _, rfl, rfl, ((L 1 rfl rfl).trans (congrArg Value.bool g161))⟩) (S.fieldAddr rfl (L 0 rfl rfl) Try.underlying29 rfl ti3 rfl rfl) ?_
    refine U.k rfl rfl (.inr ⟨_, _, _, rfl, rfl, ((L 2 rfl rfl).trans (congrArg Value.bool g161))⟩) (S.load rfl (L 0 rfl rfl) Try.underlying3 rfl ((ow82.own (k := 0) rfl).cell rfl)) nd ?_
    refine U.p rfl rfl (.inr ⟨_, _, _, rfl, rfl, ((L 3 rfl rfl).trans (congrArg Value.bool g161))⟩) (S.neqI rfl (L 0 rfl rfl) K) ?_
    refine U.p rfl rfl (.inl rfl) (S.pickT rfl ((L 4 rfl rfl).trans (congrArg Value.bool g161)) (L 0 rfl rfl)) ?_
    exact kk [(35, .bool (decide (x70.act.val ≠ 0))), (34, .bool (decide (x70.act.val ≠ 0))), (33, .int .i64 x70.act.val), (32, .pointer (some ⟨b75, 3, none⟩)), (31, .pointer (some ⟨b75, 1, none⟩))] _ ⟨.bool (decide (x70.act.val ≠ 0)), .int .i64 x70.act.val, .pointer (some ⟨b75, 3, none⟩), .pointer (some ⟨b75, 1, none⟩), rfl, (by rw [g161, Bool.true_and])⟩
   ·skip
    refine U.x rfl rfl rfl rfl ((L 0 rfl rfl).trans (congrArg Value.bool g161)) (by decide) ?_
    refine U.x rfl rfl rfl rfl ((L 1 rfl rfl).trans (congrArg Value.bool g161)) (by decide) ?_
    refine U.x rfl rfl rfl rfl ((L 2 rfl rfl).trans (congrArg Value.bool g161)) (by decide) ?_
    refine U.x rfl rfl rfl rfl ((L 3 rfl rfl).trans (congrArg Value.bool g161)) (by decide) ?_
    refine U.p rfl rfl (.inl rfl) (S.pickF rfl ((L 4 rfl rfl).trans (congrArg Value.bool g161)) K) ?_
    exact kk [(35, .bool false), (34, .tuple #[]), (33, .tuple #[]), (32, .tuple #[]), (31, .tuple #[])] _ ⟨.tuple #[], .tuple #[], .tuple #[], .tuple #[], rfl, (by rw [g161, Bool.false_and])⟩
 ·have h162 := ifF c41 h40
  refine WP.exit ?_
  refine sqE (sqE (blkE (sqN ?_)))
  have h163 := exitS h162 e38
  refine WP.usreg rfl ?_
  refine U.p rfl rfl (.inl rfl) (S.assign rfl K) ?_
  refine U.done (nr rfl) ?_
  refine WP.ret ?_
  refine fin.slot (.inr rfl) rfl (L 0 rfl rfl) ⟨V33, rfl, (((le5.trans le14).trans le24).trans le34), ?_⟩
  have ow164 := ow35.drop 0 rfl
  have ow165 := ow164.drop 0 rfl
  have e166 := Option.some.inj h163
  subst e166
  exact ⟨rfl, ow165⟩
set_option maxHeartbeats 4000000 in
set_option maxRecDepth 10000 in
theorem wk_ref21_Reads (V : Vw) (Rs : List At) (p0 : Tref21_Node) (ow : Ow V (Rs)) (r : Bool) (h : ref21_Reads p0 = some r) : ∃ v V', Cl Try.prog 0 44 #[.agg #[.int .i64 p0.e.t, .int .i64 p0.e.act.kind, .int .i64 p0.e.act.at_, .int .i64 p0.e.act.val, .int .i64 p0.e.act.what, .bool p0.e.act.volatile, .bool p0.e.act.final, .int .i64 p0.e.rf, .int .i64 p0.e.id, .int .i64 p0.at_]] V.H v V'.H ∧ V.le V' ∧ (v = .bool r ∧ Ow V' (Rs)) := by
 refine Ct.of (Nat.zero_le _) Try.func44 rfl (nr rfl) ?_
 unfold ref21_Reads at h
 refine WP.usreg rfl ?_
 refine O.box ow rfl rfl (.inl rfl) rfl (L 0 rfl rfl) (by simp [topV]) rfl nd (fun b1 V2 le3 ow4 => ?_)
 refine U.p rfl rfl (.inl rfl) (S.assign rfl K) ?_
 refine U.done (nr rfl) ?_
 refine WP.usreg rfl ?_
 refine U.p (v := .pointer (some ⟨b1, 0, none⟩)) rfl rfl (.inl rfl) (S.fieldAddr rfl (L 1 rfl rfl) Try.underlying52 rfl ti31 rfl rfl) ?_
 refine U.p (v := .pointer (some ⟨b1, 1, none⟩)) rfl rfl (.inl rfl) (S.fieldAddr rfl (L 0 rfl rfl) Try.underlying31 rfl ti29 rfl rfl) ?_
 refine U.p (v := .pointer (some ⟨b1, 1, none⟩)) rfl rfl (.inl rfl) (S.fieldAddr rfl (L 0 rfl rfl) Try.underlying29 rfl ti3 rfl rfl) ?_
 refine U.k rfl rfl (.inl rfl) (S.load rfl (L 0 rfl rfl) Try.underlying3 rfl ((ow4.own (k := 0) rfl).cell rfl)) nd ?_
 refine U.p rfl rfl (.inl rfl) (S.eqlI rfl (L 0 rfl rfl) K) ?_
 refine U.p rfl rfl (.inl rfl) (S.move rfl (L 0 rfl rfl)) ?_
 refine U.joinX 12 (fun e H => ∃ (u6 u7 u8 u9 u10 : Value), H = V2.H ∧ e = [(14, .bool ((decide (p0.e.act.kind = 1)) || (decide (p0.e.act.kind = 5)))), (13, u6), (12, u7), (11, u8), (10, u9), (9, u10)]) ?_ ?_
 ·rintro _ _ ⟨u6, u7, u8, u9, u10, rfl, rfl⟩
  refine U.p rfl rfl (.inl rfl) (S.assign rfl (L 0 rfl rfl)) ?_
  refine U.done (nr rfl) ?_
  refine WP.ret ?_
  refine fin.slot (.inr rfl) rfl (L 0 rfl rfl) ⟨V2, rfl, le3, ?_⟩
  have ow14 := ow4.drop 0 rfl
  have e15 := Option.some.inj h
  subst e15
  exact ⟨rfl, ow14⟩
 ·intro kk
  refine bcase (b := decide (p0.e.act.kind = 1)) (fun g16 => ?_) (fun g16 => ?_)
  ·skip
   refine U.x rfl rfl rfl rfl ((L 0 rfl rfl).trans (congrArg Value.bool g16)) (by decide) ?_
   refine U.x rfl rfl rfl rfl ((L 1 rfl rfl).trans (congrArg Value.bool g16)) (by decide) ?_
   refine U.x rfl rfl rfl rfl ((L 2 rfl rfl).trans (congrArg Value.bool g16)) (by decide) ?_
   refine U.x rfl rfl rfl rfl ((L 3 rfl rfl).trans (congrArg Value.bool g16)) (by decide) ?_
   refine U.x rfl rfl rfl rfl ((L 4 rfl rfl).trans (congrArg Value.bool g16)) (by decide) ?_
   refine U.p rfl rfl (.inl rfl) (S.pickT rfl ((L 5 rfl rfl).trans (congrArg Value.bool g16)) K) ?_
   exact kk [(14, .bool true), (13, .tuple #[]), (12, .tuple #[]), (11, .tuple #[]), (10, .tuple #[]), (9, .tuple #[])] _ ⟨.tuple #[], .tuple #[], .tuple #[], .tuple #[], .tuple #[], rfl, (by rw [g16, Bool.true_or])⟩
  ·skip
   refine U.p (v := .pointer (some ⟨b1, 0, none⟩)) rfl rfl (.inr ⟨_, _, _, rfl, rfl, ((L 0 rfl rfl).trans (congrArg Value.bool g16))⟩) (S.fieldAddr rfl (L 7 rfl rfl) Try.underlying52 rfl ti31 rfl rfl) ?_
   refine U.p (v := .pointer (some ⟨b1, 1, none⟩)) rfl rfl (.inr ⟨_, _, _, rfl, rfl, ((L 1 rfl rfl).trans (congrArg Value.bool g16))⟩) (S.fieldAddr rfl (L 0 rfl rfl) Try.underlying31 rfl ti29 rfl rfl) ?_
   refine U.p (v := .pointer (some ⟨b1, 1, none⟩)) rfl rfl (.inr ⟨_, _, _, rfl, rfl, ((L 2 rfl rfl).trans (congrArg Value.bool g16))⟩) (S.fieldAddr rfl (L 0 rfl rfl) Try.underlying29 rfl ti3 rfl rfl) ?_
   refine U.k rfl rfl (.inr ⟨_, _, _, rfl, rfl, ((L 3 rfl rfl).trans (congrArg Value.bool g16))⟩) (S.load rfl (L 0 rfl rfl) Try.underlying3 rfl ((ow4.own (k := 0) rfl).cell rfl)) nd ?_
   refine U.p rfl rfl (.inr ⟨_, _, _, rfl, rfl, ((L 4 rfl rfl).trans (congrArg Value.bool g16))⟩) (S.eqlI rfl (L 0 rfl rfl) K) ?_
   refine U.p rfl rfl (.inl rfl) (S.pickF rfl ((L 5 rfl rfl).trans (congrArg Value.bool g16)) (L 0 rfl rfl)) ?_
   exact kk [(14, .bool (decide (p0.e.act.kind = 5))), (13, .bool (decide (p0.e.act.kind = 5))), (12, .int .i64 p0.e.act.kind), (11, .pointer (some ⟨b1, 1, none⟩)), (10, .pointer (some ⟨b1, 1, none⟩)), (9, .pointer (some ⟨b1, 0, none⟩))] _ ⟨.bool (decide (p0.e.act.kind = 5)), .int .i64 p0.e.act.kind, .pointer (some ⟨b1, 1, none⟩), .pointer (some ⟨b1, 1, none⟩), .pointer (some ⟨b1, 0, none⟩), rfl, (by rw [g16, Bool.false_or])⟩
set_option maxHeartbeats 4000000 in
set_option maxRecDepth 10000 in
theorem wk_ref21_Writes (V : Vw) (Rs : List At) (p0 : Tref21_Node) (ow : Ow V (Rs)) (r : Bool) (h : ref21_Writes p0 = some r) : ∃ v V', Cl Try.prog 0 45 #[.agg #[.int .i64 p0.e.t, .int .i64 p0.e.act.kind, .int .i64 p0.e.act.at_, .int .i64 p0.e.act.val, .int .i64 p0.e.act.what, .bool p0.e.act.volatile, .bool p0.e.act.final, .int .i64 p0.e.rf, .int .i64 p0.e.id, .int .i64 p0.at_]] V.H v V'.H ∧ V.le V' ∧ (v = .bool r ∧ Ow V' (Rs)) := by
 refine Ct.of (Nat.zero_le _) Try.func45 rfl (nr rfl) ?_
 unfold ref21_Writes at h
 refine WP.usreg rfl ?_
 refine O.box ow rfl rfl (.inl rfl) rfl (L 0 rfl rfl) (by simp [topV]) rfl nd (fun b1 V2 le3 ow4 => ?_)
 refine U.p rfl rfl (.inl rfl) (S.assign rfl K) ?_
 refine U.done (nr rfl) ?_
 refine WP.usreg rfl ?_
 refine U.p (v := .pointer (some ⟨b1, 0, none⟩)) rfl rfl (.inl rfl) (S.fieldAddr rfl (L 1 rfl rfl) Try.underlying52 rfl ti31 rfl rfl) ?_
 refine U.p (v := .pointer (some ⟨b1, 1, none⟩)) rfl rfl (.inl rfl) (S.fieldAddr rfl (L 0 rfl rfl) Try.underlying31 rfl ti29 rfl rfl) ?_
 refine U.p (v := .pointer (some ⟨b1, 1, none⟩)) rfl rfl (.inl rfl) (S.fieldAddr rfl (L 0 rfl rfl) Try.underlying29 rfl ti3 rfl rfl) ?_
 refine U.k rfl rfl (.inl rfl) (S.load rfl (L 0 rfl rfl) Try.underlying3 rfl ((ow4.own (k := 0) rfl).cell rfl)) nd ?_
 refine U.p rfl rfl (.inl rfl) (S.eqlI rfl (L 0 rfl rfl) K) ?_
 refine U.p rfl rfl (.inl rfl) (S.move rfl (L 0 rfl rfl)) ?_
 refine U.joinX 12 (fun e H => ∃ (u6 u7 u8 u9 u10 : Value), H = V2.H ∧ e = [(14, .bool ((decide (p0.e.act.kind = 2)) || (decide (p0.e.act.kind = 5)))), (13, u6), (12, u7), (11, u8), (10, u9), (9, u10)]) ?_ ?_
 ·rintro _ _ ⟨u6, u7, u8, u9, u10, rfl, rfl⟩
  refine U.p rfl rfl (.inl rfl) (S.move rfl (L 0 rfl rfl)) ?_
  refine U.joinX 19 (fun e H => ∃ (u14 u15 u16 u17 u18 : Value), H = V2.H ∧ e = [(21, .bool (((decide (p0.e.act.kind = 2)) || (decide (p0.e.act.kind = 5))) || (decide (p0.e.act.kind = 6)))), (20, u14), (19, u15), (18, u16), (17, u17), (16, u18)]) ?_ ?_
  ·rintro _ _ ⟨u14, u15, u16, u17, u18, rfl, rfl⟩
   refine U.p rfl rfl (.inl rfl) (S.assign rfl (L 0 rfl rfl)) ?_
   refine U.done (nr rfl) ?_
   refine WP.ret ?_
   refine fin.slot (.inr rfl) rfl (L 0 rfl rfl) ⟨V2, rfl, le3, ?_⟩
   have ow22 := ow4.drop 0 rfl
   have e23 := Option.some.inj h
   subst e23
   exact ⟨rfl, ow22⟩
  ·intro kk
   refine bcase (b := (decide (p0.e.act.kind = 2)) || (decide (p0.e.act.kind = 5))) (fun g24 => ?_) (fun g24 => ?_)
   ·skip
    refine U.x rfl rfl rfl rfl ((L 0 rfl rfl).trans (congrArg Value.bool g24)) (by decide) ?_
    refine U.x rfl rfl rfl rfl ((L 1 rfl rfl).trans (congrArg Value.bool g24)) (by decide) ?_
    refine U.x rfl rfl rfl rfl ((L 2 rfl rfl).trans (congrArg Value.bool g24)) (by decide) ?_
    refine U.x rfl rfl rfl rfl ((L 3 rfl rfl).trans (congrArg Value.bool g24)) (by decide) ?_
    refine U.x rfl rfl rfl rfl ((L 4 rfl rfl).trans (congrArg Value.bool g24)) (by decide) ?_
    refine U.p rfl rfl (.inl rfl) (S.pickT rfl ((L 5 rfl rfl).trans (congrArg Value.bool g24)) K) ?_
    exact kk [(21, .bool true), (20, .tuple #[]), (19, .tuple #[]), (18, .tuple #[]), (17, .tuple #[]), (16, .tuple #[])] _ ⟨.tuple #[], .tuple #[], .tuple #[], .tuple #[], .tuple #[], rfl, (by rw [g24, Bool.true_or])⟩
   ·skip
    refine U.p (v := .pointer (some ⟨b1, 0, none⟩)) rfl rfl (.inr ⟨_, _, _, rfl, rfl, ((L 0 rfl rfl).trans (congrArg Value.bool g24))⟩) (S.fieldAddr rfl (L 14 rfl rfl) Try.underlying52 rfl ti31 rfl rfl) ?_
    refine U.p (v := .pointer (some ⟨b1, 1, none⟩)) rfl rfl (.inr ⟨_, _, _, rfl, rfl, ((L 1 rfl rfl).trans (congrArg Value.bool g24))⟩) (S.fieldAddr rfl (L 0 rfl rfl) Try.underlying31 rfl ti29 rfl rfl) ?_
    refine U.p (v := .pointer (some ⟨b1, 1, none⟩)) rfl rfl (.inr ⟨_, _, _, rfl, rfl, ((L 2 rfl rfl).trans (congrArg Value.bool g24))⟩) (S.fieldAddr rfl (L 0 rfl rfl) Try.underlying29 rfl ti3 rfl rfl) ?_
    refine U.k rfl rfl (.inr ⟨_, _, _, rfl, rfl, ((L 3 rfl rfl).trans (congrArg Value.bool g24))⟩) (S.load rfl (L 0 rfl rfl) Try.underlying3 rfl ((ow4.own (k := 0) rfl).cell rfl)) nd ?_
    refine U.p rfl rfl (.inr ⟨_, _, _, rfl, rfl, ((L 4 rfl rfl).trans (congrArg Value.bool g24))⟩) (S.eqlI rfl (L 0 rfl rfl) K) ?_
    refine U.p rfl rfl (.inl rfl) (S.pickF rfl ((L 5 rfl rfl).trans (congrArg Value.bool g24)) (L 0 rfl rfl)) ?_
    exact kk [(21, .bool (decide (p0.e.act.kind = 6))), (20, .bool (decide (p0.e.act.kind = 6))), (19, .int .i64 p0.e.act.kind), (18, .pointer (some ⟨b1, 1, none⟩)), (17, .pointer (some ⟨b1, 1, none⟩)), (16, .pointer (some ⟨b1, 0, none⟩))] _ ⟨.bool (decide (p0.e.act.kind = 6)), .int .i64 p0.e.act.kind, .pointer (some ⟨b1, 1, none⟩), .pointer (some ⟨b1, 1, none⟩), .pointer (some ⟨b1, 0, none⟩), rfl, (by rw [g24, Bool.false_or])⟩
 ·intro kk
  refine bcase (b := decide (p0.e.act.kind = 2)) (fun g25 => ?_) (fun g25 => ?_)
  ·skip
   refine U.x rfl rfl rfl rfl ((L 0 rfl rfl).trans (congrArg Value.bool g25)) (by decide) ?_
   refine U.x rfl rfl rfl rfl ((L 1 rfl rfl).trans (congrArg Value.bool g25)) (by decide) ?_
   refine U.x rfl rfl rfl rfl ((L 2 rfl rfl).trans (congrArg Value.bool g25)) (by decide) ?_
   refine U.x rfl rfl rfl rfl ((L 3 rfl rfl).trans (congrArg Value.bool g25)) (by decide) ?_
   refine U.x rfl rfl rfl rfl ((L 4 rfl rfl).trans (congrArg Value.bool g25)) (by decide) ?_
   refine U.p rfl rfl (.inl rfl) (S.pickT rfl ((L 5 rfl rfl).trans (congrArg Value.bool g25)) K) ?_
   exact kk [(14, .bool true), (13, .tuple #[]), (12, .tuple #[]), (11, .tuple #[]), (10, .tuple #[]), (9, .tuple #[])] _ ⟨.tuple #[], .tuple #[], .tuple #[], .tuple #[], .tuple #[], rfl, (by rw [g25, Bool.true_or])⟩
  ·skip
   refine U.p (v := .pointer (some ⟨b1, 0, none⟩)) rfl rfl (.inr ⟨_, _, _, rfl, rfl, ((L 0 rfl rfl).trans (congrArg Value.bool g25))⟩) (S.fieldAddr rfl (L 7 rfl rfl) Try.underlying52 rfl ti31 rfl rfl) ?_
   refine U.p (v := .pointer (some ⟨b1, 1, none⟩)) rfl rfl (.inr ⟨_, _, _, rfl, rfl, ((L 1 rfl rfl).trans (congrArg Value.bool g25))⟩) (S.fieldAddr rfl (L 0 rfl rfl) Try.underlying31 rfl ti29 rfl rfl) ?_
   refine U.p (v := .pointer (some ⟨b1, 1, none⟩)) rfl rfl (.inr ⟨_, _, _, rfl, rfl, ((L 2 rfl rfl).trans (congrArg Value.bool g25))⟩) (S.fieldAddr rfl (L 0 rfl rfl) Try.underlying29 rfl ti3 rfl rfl) ?_
   refine U.k rfl rfl (.inr ⟨_, _, _, rfl, rfl, ((L 3 rfl rfl).trans (congrArg Value.bool g25))⟩) (S.load rfl (L 0 rfl rfl) Try.underlying3 rfl ((ow4.own (k := 0) rfl).cell rfl)) nd ?_
   refine U.p rfl rfl (.inr ⟨_, _, _, rfl, rfl, ((L 4 rfl rfl).trans (congrArg Value.bool g25))⟩) (S.eqlI rfl (L 0 rfl rfl) K) ?_
   refine U.p rfl rfl (.inl rfl) (S.pickF rfl ((L 5 rfl rfl).trans (congrArg Value.bool g25)) (L 0 rfl rfl)) ?_
   exact kk [(14, .bool (decide (p0.e.act.kind = 5))), (13, .bool (decide (p0.e.act.kind = 5))), (12, .int .i64 p0.e.act.kind), (11, .pointer (some ⟨b1, 1, none⟩)), (10, .pointer (some ⟨b1, 1, none⟩)), (9, .pointer (some ⟨b1, 0, none⟩))] _ ⟨.bool (decide (p0.e.act.kind = 5)), .int .i64 p0.e.act.kind, .pointer (some ⟨b1, 1, none⟩), .pointer (some ⟨b1, 1, none⟩), .pointer (some ⟨b1, 0, none⟩), rfl, (by rw [g25, Bool.false_or])⟩
set_option maxHeartbeats 4000000 in
set_option maxRecDepth 10000 in
theorem wk_ref21_Synced (V : Vw) (Rs : List At) (p0 : Tref21_Node) (ow : Ow V (Rs)) (r : Bool) (h : ref21_Synced p0 = some r) : ∃ v V', Cl Try.prog 0 47 #[.agg #[.int .i64 p0.e.t, .int .i64 p0.e.act.kind, .int .i64 p0.e.act.at_, .int .i64 p0.e.act.val, .int .i64 p0.e.act.what, .bool p0.e.act.volatile, .bool p0.e.act.final, .int .i64 p0.e.rf, .int .i64 p0.e.id, .int .i64 p0.at_]] V.H v V'.H ∧ V.le V' ∧ (v = .bool r ∧ Ow V' (Rs)) := by
 refine Ct.of (Nat.zero_le _) Try.func47 rfl (nr rfl) ?_
 unfold ref21_Synced at h
 refine WP.usreg rfl ?_
 refine O.box ow rfl rfl (.inl rfl) rfl (L 0 rfl rfl) (by simp [topV]) rfl nd (fun b1 V2 le3 ow4 => ?_)
 refine U.p rfl rfl (.inl rfl) (S.assign rfl K) ?_
 refine U.done (nr rfl) ?_
 refine WP.usreg rfl ?_
 refine U.p (v := .pointer (some ⟨b1, 0, none⟩)) rfl rfl (.inl rfl) (S.fieldAddr rfl (L 1 rfl rfl) Try.underlying52 rfl ti31 rfl rfl) ?_
 refine U.p (v := .pointer (some ⟨b1, 1, none⟩)) rfl rfl (.inl rfl) (S.fieldAddr rfl (L 0 rfl rfl) Try.underlying31 rfl ti29 rfl rfl) ?_
 refine U.p (v := .pointer (some ⟨b1, 1, none⟩)) rfl rfl (.inl rfl) (S.fieldAddr rfl (L 0 rfl rfl) Try.underlying29 rfl ti3 rfl rfl) ?_
 refine U.k rfl rfl (.inl rfl) (S.load rfl (L 0 rfl rfl) Try.underlying3 rfl ((ow4.own (k := 0) rfl).cell rfl)) nd ?_
 refine U.p rfl rfl (.inl rfl) (S.assign rfl (L 0 rfl rfl)) ?_
 refine U.done (nr rfl) ?_
 refine WP.usreg rfl ?_
 refine U.p rfl rfl (.inl rfl) (S.move rfl (L 0 rfl rfl)) ?_
 refine U.p rfl rfl (.inl rfl) (S.eqlI rfl (L 0 rfl rfl) K) ?_
 refine U.p rfl rfl (.inl rfl) (S.move rfl (L 0 rfl rfl)) ?_
 refine U.joinX 6 (fun e H => ∃ (u6 u7 : Value), H = V2.H ∧ e = [(13, .bool ((decide (p0.e.act.kind = 5)) || (decide (p0.e.act.kind = 6)))), (12, u6), (11, u7)]) ?_ ?_
 ·rintro _ _ ⟨u6, u7, rfl, rfl⟩
  refine U.p rfl rfl (.inl rfl) (S.move rfl (L 0 rfl rfl)) ?_
  refine U.joinX 20 (fun e H => ∃ (u11 u12 u13 u14 u15 u16 u17 u18 u19 u20 u21 u22 : Value), H = V2.H ∧ e = [(27, .bool (((decide (p0.e.act.kind = 5)) || (decide (p0.e.act.kind = 6))) || (p0.e.act.volatile && ((decide (p0.e.act.kind = 1)) || (decide (p0.e.act.kind = 2)))))), (26, u11), (25, u12), (24, u13), (23, u14), (22, u15), (21, u16), (20, u17), (19, u18), (18, u19), (17, u20), (16, u21), (15, u22)]) ?_ ?_
  ·rintro _ _ ⟨u11, u12, u13, u14, u15, u16, u17, u18, u19, u20, u21, u22, rfl, rfl⟩
   refine U.p rfl rfl (.inl rfl) (S.assign rfl (L 0 rfl rfl)) ?_
   refine U.done (nr rfl) ?_
   refine WP.ret ?_
   refine fin.slot (.inr rfl) rfl (L 0 rfl rfl) ⟨V2, rfl, le3, ?_⟩
   have ow26 := ow4.drop 0 rfl
   have e27 := Option.some.inj h
   subst e27
   exact ⟨rfl, ow26⟩
  ·intro kk
   refine bcase (b := (decide (p0.e.act.kind = 5)) || (decide (p0.e.act.kind = 6))) (fun g28 => ?_) (fun g28 => ?_)
   ·skip
    refine U.x rfl rfl rfl rfl ((L 0 rfl rfl).trans (congrArg Value.bool g28)) (by decide) ?_
    refine U.x rfl rfl rfl rfl ((L 1 rfl rfl).trans (congrArg Value.bool g28)) (by decide) ?_
    refine U.x rfl rfl rfl rfl ((L 2 rfl rfl).trans (congrArg Value.bool g28)) (by decide) ?_
    refine U.x rfl rfl rfl rfl ((L 3 rfl rfl).trans (congrArg Value.bool g28)) (by decide) ?_
    refine U.x rfl rfl rfl rfl ((L 4 rfl rfl).trans (congrArg Value.bool g28)) (by decide) ?_
    refine U.z rfl rfl rfl rfl (L 0 rfl rfl) ?_
    refine U.z rfl rfl rfl rfl (L 1 rfl rfl) ?_
    refine U.z rfl rfl rfl rfl (L 2 rfl rfl) ?_
    refine U.z rfl rfl rfl rfl (L 0 rfl rfl) ?_
    refine U.z rfl rfl rfl rfl (L 1 rfl rfl) ?_
    refine U.z rfl rfl rfl rfl (L 5 rfl rfl) ?_
    refine U.x rfl rfl rfl rfl ((L 11 rfl rfl).trans (congrArg Value.bool g28)) (by decide) ?_
    refine U.p rfl rfl (.inl rfl) (S.pickT rfl ((L 12 rfl rfl).trans (congrArg Value.bool g28)) K) ?_
    exact kk [(27, .bool true), (26, .tuple #[]), (25, .tuple #[]), (24, .tuple #[]), (23, .tuple #[]), (22, .tuple #[]), (21, .tuple #[]), (20, .tuple #[]), (19, .tuple #[]), (18, .tuple #[]), (17, .tuple #[]), (16, .tuple #[]), (15, .tuple #[])] _ ⟨.tuple #[], .tuple #[], .tuple #[], .tuple #[], .tuple #[], .tuple #[], .tuple #[], .tuple #[], .tuple #[], .tuple #[], .tuple #[], .tuple #[], rfl, (by rw [g28, Bool.true_or])⟩
   ·skip
    refine U.p (v := .pointer (some ⟨b1, 0, none⟩)) rfl rfl (.inr ⟨_, _, _, rfl, rfl, ((L 0 rfl rfl).trans (congrArg Value.bool g28))⟩) (S.fieldAddr rfl (L 13 rfl rfl) Try.underlying52 rfl ti31 rfl rfl) ?_
    refine U.p (v := .pointer (some ⟨b1, 1, none⟩)) rfl rfl (.inr ⟨_, _, _, rfl, rfl, ((L 1 rfl rfl).trans (congrArg Value.bool g28))⟩) (S.fieldAddr rfl (L 0 rfl rfl) Try.underlying31 rfl ti29 rfl rfl) ?_
    refine U.p (v := .pointer (some ⟨b1, 5, none⟩)) rfl rfl (.inr ⟨_, _, _, rfl, rfl, ((L 2 rfl rfl).trans (congrArg Value.bool g28))⟩) (S.fieldAddr rfl (L 0 rfl rfl) Try.underlying29 rfl ti4 rfl rfl) ?_
    refine U.k rfl rfl (.inr ⟨_, _, _, rfl, rfl, ((L 3 rfl rfl).trans (congrArg Value.bool g28))⟩) (S.load rfl (L 0 rfl rfl) Try.underlying4 rfl ((ow4.own (k := 0) rfl).cell rfl)) nd ?_
    refine U.p rfl rfl (.inr ⟨_, _, _, rfl, rfl, ((L 4 rfl rfl).trans (congrArg Value.bool g28))⟩) (S.move rfl (L 0 rfl rfl)) ?_
    refine U.joinX 19 (fun e H => ∃ (u29 u30 u31 u32 u33 u34 : Value), H = V2.H ∧ e = [(26, .bool (p0.e.act.volatile && ((decide (p0.e.act.kind = 1)) || (decide (p0.e.act.kind = 2))))), (25, u29), (24, u30), (23, u31), (22, u32), (21, u33), (20, u34)]) ?_ ?_
    ·rintro _ _ ⟨u29, u30, u31, u32, u33, u34, rfl, rfl⟩
     refine U.p rfl rfl (.inl rfl) (S.pickF rfl ((L 12 rfl rfl).trans (congrArg Value.bool g28)) (L 0 rfl rfl)) ?_
     exact kk [(27, .bool (p0.e.act.volatile && ((decide (p0.e.act.kind = 1)) || (decide (p0.e.act.kind = 2))))), (26, .bool (p0.e.act.volatile && ((decide (p0.e.act.kind = 1)) || (decide (p0.e.act.kind = 2))))), (25, u29), (24, u30), (23, u31), (22, u32), (21, u33), (20, u34), (19, .bool p0.e.act.volatile), (18, .bool p0.e.act.volatile), (17, .pointer (some ⟨b1, 5, none⟩)), (16, .pointer (some ⟨b1, 1, none⟩)), (15, .pointer (some ⟨b1, 0, none⟩))] _ ⟨.bool (p0.e.act.volatile && ((decide (p0.e.act.kind = 1)) || (decide (p0.e.act.kind = 2)))), u29, u30, u31, u32, u33, u34, .bool p0.e.act.volatile, .bool p0.e.act.volatile, .pointer (some ⟨b1, 5, none⟩), .pointer (some ⟨b1, 1, none⟩), .pointer (some ⟨b1, 0, none⟩), rfl, (by rw [g28, Bool.false_or])⟩
    ·intro kk
     refine bcase (b := p0.e.act.volatile) (fun g38 => ?_) (fun g38 => ?_)
     ·skip
      refine U.p rfl rfl (.inr ⟨_, _, _, rfl, rfl, ((L 0 rfl rfl).trans (congrArg Value.bool g38))⟩) (S.move rfl (L 12 rfl rfl)) ?_
      refine U.p rfl rfl (.inr ⟨_, _, _, rfl, rfl, ((L 1 rfl rfl).trans (congrArg Value.bool g38))⟩) (S.eqlI rfl (L 0 rfl rfl) K) ?_
      refine U.p rfl rfl (.inr ⟨_, _, _, rfl, rfl, ((L 2 rfl rfl).trans (congrArg Value.bool g38))⟩) (S.move rfl (L 0 rfl rfl)) ?_
      refine U.joinX 18 (fun e H => ∃ (u39 u40 : Value), H = V2.H ∧ e = [(25, .bool ((decide (p0.e.act.kind = 1)) || (decide (p0.e.act.kind = 2)))), (24, u39), (23, u40)]) ?_ ?_
      ·rintro _ _ ⟨u39, u40, rfl, rfl⟩
       refine U.p rfl rfl (.inr ⟨_, _, _, rfl, rfl, ((L 11 rfl rfl).trans (congrArg Value.bool g28))⟩) (S.pickT rfl ((L 6 rfl rfl).trans (congrArg Value.bool g38)) (L 0 rfl rfl)) ?_
       exact kk [(26, .bool ((decide (p0.e.act.kind = 1)) || (decide (p0.e.act.kind = 2)))), (25, .bool ((decide (p0.e.act.kind = 1)) || (decide (p0.e.act.kind = 2)))), (24, u39), (23, u40), (22, .bool (decide (p0.e.act.kind = 1))), (21, .bool (decide (p0.e.act.kind = 1))), (20, .int .i64 p0.e.act.kind)] _ ⟨.bool ((decide (p0.e.act.kind = 1)) || (decide (p0.e.act.kind = 2))), u39, u40, .bool (decide (p0.e.act.kind = 1)), .bool (decide (p0.e.act.kind = 1)), .int .i64 p0.e.act.kind, rfl, (by rw [g38, Bool.true_and])⟩
      ·intro kk
       refine bcase (b := decide (p0.e.act.kind = 1)) (fun g44 => ?_) (fun g44 => ?_)
       ·skip
        refine U.x rfl rfl rfl rfl ((L 0 rfl rfl).trans (congrArg Value.bool g44)) (by decide) ?_
        refine U.x rfl rfl rfl rfl ((L 1 rfl rfl).trans (congrArg Value.bool g44)) (by decide) ?_
        refine U.p rfl rfl (.inr ⟨_, _, _, rfl, rfl, ((L 5 rfl rfl).trans (congrArg Value.bool g38))⟩) (S.pickT rfl ((L 2 rfl rfl).trans (congrArg Value.bool g44)) K) ?_
        exact kk [(25, .bool true), (24, .tuple #[]), (23, .tuple #[])] _ ⟨.tuple #[], .tuple #[], rfl, (by rw [g44, Bool.true_or])⟩
       ·skip
        refine U.p rfl rfl (.inr ⟨_, _, _, rfl, rfl, ((L 0 rfl rfl).trans (congrArg Value.bool g44))⟩) (S.move rfl (L 15 rfl rfl)) ?_
        refine U.p rfl rfl (.inr ⟨_, _, _, rfl, rfl, ((L 1 rfl rfl).trans (congrArg Value.bool g44))⟩) (S.eqlI rfl (L 0 rfl rfl) K) ?_
        refine U.p rfl rfl (.inr ⟨_, _, _, rfl, rfl, ((L 5 rfl rfl).trans (congrArg Value.bool g38))⟩) (S.pickF rfl ((L 2 rfl rfl).trans (congrArg Value.bool g44)) (L 0 rfl rfl)) ?_
        exact kk [(25, .bool (decide (p0.e.act.kind = 2))), (24, .bool (decide (p0.e.act.kind = 2))), (23, .int .i64 p0.e.act.kind)] _ ⟨.bool (decide (p0.e.act.kind = 2)), .int .i64 p0.e.act.kind, rfl, (by rw [g44, Bool.false_or])⟩
     ·skip
      refine U.x rfl rfl rfl rfl ((L 0 rfl rfl).trans (congrArg Value.bool g38)) (by decide) ?_
      refine U.x rfl rfl rfl rfl ((L 1 rfl rfl).trans (congrArg Value.bool g38)) (by decide) ?_
      refine U.x rfl rfl rfl rfl ((L 2 rfl rfl).trans (congrArg Value.bool g38)) (by decide) ?_
      refine U.z rfl rfl rfl rfl (L 0 rfl rfl) ?_
      refine U.z rfl rfl rfl rfl (L 1 rfl rfl) ?_
      refine U.x rfl rfl rfl rfl ((L 5 rfl rfl).trans (congrArg Value.bool g38)) (by decide) ?_
      refine U.p rfl rfl (.inr ⟨_, _, _, rfl, rfl, ((L 11 rfl rfl).trans (congrArg Value.bool g28))⟩) (S.pickF rfl ((L 6 rfl rfl).trans (congrArg Value.bool g38)) K) ?_
      exact kk [(26, .bool false), (25, .tuple #[]), (24, .tuple #[]), (23, .tuple #[]), (22, .tuple #[]), (21, .tuple #[]), (20, .tuple #[])] _ ⟨.tuple #[], .tuple #[], .tuple #[], .tuple #[], .tuple #[], .tuple #[], rfl, (by rw [g38, Bool.false_and])⟩
 ·intro kk
  refine bcase (b := decide (p0.e.act.kind = 5)) (fun g45 => ?_) (fun g45 => ?_)
  ·skip
   refine U.x rfl rfl rfl rfl ((L 0 rfl rfl).trans (congrArg Value.bool g45)) (by decide) ?_
   refine U.x rfl rfl rfl rfl ((L 1 rfl rfl).trans (congrArg Value.bool g45)) (by decide) ?_
   refine U.p rfl rfl (.inl rfl) (S.pickT rfl ((L 2 rfl rfl).trans (congrArg Value.bool g45)) K) ?_
   exact kk [(13, .bool true), (12, .tuple #[]), (11, .tuple #[])] _ ⟨.tuple #[], .tuple #[], rfl, (by rw [g45, Bool.true_or])⟩
  ·skip
   refine U.p rfl rfl (.inr ⟨_, _, _, rfl, rfl, ((L 0 rfl rfl).trans (congrArg Value.bool g45))⟩) (S.move rfl (L 3 rfl rfl)) ?_
   refine U.p rfl rfl (.inr ⟨_, _, _, rfl, rfl, ((L 1 rfl rfl).trans (congrArg Value.bool g45))⟩) (S.eqlI rfl (L 0 rfl rfl) K) ?_
   refine U.p rfl rfl (.inl rfl) (S.pickF rfl ((L 2 rfl rfl).trans (congrArg Value.bool g45)) (L 0 rfl rfl)) ?_
   exact kk [(13, .bool (decide (p0.e.act.kind = 6))), (12, .bool (decide (p0.e.act.kind = 6))), (11, .int .i64 p0.e.act.kind)] _ ⟨.bool (decide (p0.e.act.kind = 6)), .int .i64 p0.e.act.kind, rfl, (by rw [g45, Bool.false_or])⟩
set_option maxHeartbeats 4000000 in
set_option maxRecDepth 10000 in
theorem wk_ref21_Nodes (V : Vw) (Rs : List At) (p0 : List (List TEvent)) (p1 : Bool) (v1 : Value) (f2 : Fz (RT.sl RT_TEvent) V v1 p0) (ow : Ow V (Rs)) (r : List Tref21_Node) (h : ref21_Nodes p0 p1 = some r) : ∃ v V', Cl Try.prog 0 32 #[v1, .bool p1] V.H v V'.H ∧ V.le V' ∧ (∃ (v3 : Value), v = v3 ∧ Ow V' (.os RT_Tref21_Node v3 r :: Rs)) := by
 refine Ct.of (Nat.zero_le _) Try.func32 rfl (nr rfl) ?_
 unfold ref21_Nodes at h
 refine WP.usreg rfl ?_
 refine U.p rfl rfl (.inl rfl) (S.assign rfl K) ?_
 refine U.done (nr rfl) ?_
 refine WP.usreg rfl ?_
 refine U.p rfl rfl (.inl rfl) (S.assign rfl K) ?_
 refine U.done (nr rfl) ?_
 refine WP.seq ?_
 refine WP.usreg rfl ?_
 refine U.p rfl rfl (.inl rfl) (S.move rfl (L 2 rfl rfl)) ?_
 refine U.p rfl rfl (.inl rfl) (f2.1.len rfl (L 0 rfl rfl) Try.underlying22) ?_
 refine U.p rfl rfl (.inl rfl) (S.move rfl K) ?_
 refine U.done (nr rfl) ?_
 refine WP.blk ?_
 have ow9 := ow.nil RT_Tref21_Node
 unfold ref21_Nodes_l1 at h
 obtain ⟨n12, hn11⟩ := loopO_some.1 h
 refine WP.loopI2 (fun n l V' => ∃ (v6 : Value) (xs7 : List Tref21_Node) (x8 : Int), l = [(1, .bool p1), (5, v6), (11, v1), (12, .int .i64 (p0.length : Int)), (13, .int .i64 x8)] ∧ V.le V' ∧ Ow V' (.os RT_Tref21_Node v6 xs7 :: Rs) ∧ itO (fun s => ref21_Nodes_l1b p0 p1 s.1 s.2) n (xs7, x8) = some r) n12 _ ⟨(.slice none 0 0), [], 0, rfl, .refl _, ow9, hn11⟩ (allCons (L 6 rfl rfl) (allCons (L 3 rfl rfl) (allCons (L 2 rfl rfl) (allCons (L 1 rfl rfl) (allCons (L 0 rfl rfl) allNil))))) ?_
 rintro _ _ V13 ⟨v6, xs7, x8, rfl, le14, ow15, h19⟩
 obtain ⟨m16, q17, rfl, h20, e18⟩ := itS h19
 replace h20 : ref21_Nodes_l1b p0 p1 xs7 x8 = some q17 := h20
 unfold ref21_Nodes_l1b at h20
 refine WP.usreg rfl ?_
 refine U.p rfl rfl (.inl rfl) (S.lss rfl (L 4 rfl rfl) (L 3 rfl rfl)) ?_
 refine U.done (nr rfl) ?_
 refine WP.seq ?_
 refine WP.cond _ (L 0 rfl rfl) rfl (fun c21 => ?_) (fun c21 => ?_)
 ·have h22 := ifT c21 h20
  refine WP.skip ?_
  refine sqN ?_
  refine WP.seq ?_
  refine WP.blk ?_
  refine WP.usreg rfl ?_
  obtain ⟨x23, hx24, h25⟩ := bindS h22
  obtain ⟨b26, o27, c28, cs29, hv30, hf31, hr32, hc33⟩ := f2.at hx24
  obtain ⟨v34, rfl, f35⟩ := hr32
  refine U.p rfl rfl (.inl rfl) (S.index rfl ((L 3 rfl rfl).trans hv30) (L 5 rfl rfl) Try.underlying22 ti27 (ix_ge hx24) (ix_lt hx24)) ?_
  refine U.k rfl rfl (.inl rfl) (S.load rfl (L 0 rfl rfl) Try.underlying27 rfl (le14.cell hf31 (hc33 0 _ rfl))) nd ?_
  refine U.p rfl rfl (.inl rfl) (S.assign rfl (L 0 rfl rfl)) ?_
  refine U.done (nr rfl) ?_
  refine WP.usreg rfl ?_
  refine U.p rfl rfl (.inl rfl) (S.move rfl (L 0 rfl rfl)) ?_
  refine U.p rfl rfl (.inl rfl) (f35.1.len rfl (L 0 rfl rfl) Try.underlying27) ?_
  refine U.p rfl rfl (.inl rfl) (S.move rfl K) ?_
  refine U.done (nr rfl) ?_
  refine WP.blk ?_
  unfold ref21_Nodes_l2 at h25
  obtain ⟨n41, hn40⟩ := loopO_some.1 h25
  refine WP.loopI2 (fun n l V' => ∃ (v37 : Value) (xs38 : List Tref21_Node) (x39 : Int), l = [(1, .bool p1), (5, v37), (11, v1), (12, .int .i64 (p0.length : Int)), (13, .int .i64 x8), (17, v34), (18, .int .i64 (x23.length : Int)), (19, .int .i64 x39)] ∧ V13.le V' ∧ Ow V' (.os RT_Tref21_Node v37 xs38 :: Rs) ∧ itO (fun s => ref21_Nodes_l2b p1 x8 x23 s.1 s.2) n (xs38, x39) = some q17) n41 _ ⟨v6, xs7, 0, rfl, .refl _, ow15, hn40⟩ (allCons (L 7 rfl rfl) (allCons (L 8 rfl rfl) (allCons (L 9 rfl rfl) (allCons (L 10 rfl rfl) (allCons (L 11 rfl rfl) (allCons (L 2 rfl rfl) (allCons (L 1 rfl rfl) (allCons (L 0 rfl rfl) allNil)))))))) ?_
  rintro _ _ V42 ⟨v37, xs38, x39, rfl, le43, ow44, h48⟩
  obtain ⟨m45, q46, rfl, h49, e47⟩ := itS h48
  replace h49 : ref21_Nodes_l2b p1 x8 x23 xs38 x39 = some q46 := h49
  unfold ref21_Nodes_l2b at h49
  refine WP.usreg rfl ?_
  refine U.p rfl rfl (.inl rfl) (S.lss rfl (L 7 rfl rfl) (L 6 rfl rfl)) ?_
  refine U.done (nr rfl) ?_
  refine WP.seq ?_
  refine WP.cond _ (L 0 rfl rfl) rfl (fun c50 => ?_) (fun c50 => ?_)
  ·have h51 := ifT c50 h49
   refine WP.skip ?_
   refine sqN ?_
   refine WP.seqI (fun l V' => ∃ (v53 : Value) (xs54 : List Tref21_Node), l = [(1, .bool p1), (5, v53), (11, v1), (12, .int .i64 (p0.length : Int)), (13, .int .i64 x8), (17, v34), (18, .int .i64 (x23.length : Int)), (19, .int .i64 x39)] ∧ V42.le V' ∧ Ow V' (.os RT_Tref21_Node v53 xs54 :: Rs) ∧ ref21_Nodes_k1 x39 xs54 = some q46) ?_ ?_
   ·rintro _ V55 ⟨v53, xs54, rfl, le56, ow57, h58⟩
    unfold ref21_Nodes_k1 at h58
    refine WP.ureg rfl ?_
    refine U.p rfl rfl (.inl rfl) (S.add rfl (L 7 rfl rfl) K) ?_
    refine U.p rfl rfl (.inl rfl) (S.move rfl (L 0 rfl rfl)) ?_
    refine U.done (nr rfl) ?_
    refine sqN ?_
    exact ⟨_, V55, rfl, ⟨m45, Nat.lt_succ_self _, v53, xs54, w64 (x39 + 1), rfl, (le43.trans le56), ow57, backS h58 e47⟩, (allCons (L 2 rfl rfl) (allCons (L 3 rfl rfl) (allCons (L 4 rfl rfl) (allCons (L 5 rfl rfl) (allCons (L 6 rfl rfl) (allCons (L 7 rfl rfl) (allCons (L 8 rfl rfl) (allCons (L 0 rfl rfl) allNil))))))))⟩
   ·skip
    refine WP.blk ?_
    refine WP.usreg rfl ?_
    refine U.p rfl rfl (.inl rfl) (S.move rfl (L 8 rfl rfl)) ?_
    obtain ⟨x59, hx60, h61⟩ := bindS h51
    obtain ⟨b62, o63, c64, cs65, hv66, hf67, hr68, hc69⟩ := f35.at hx60
    obtain rfl : cs65 = [.int .i64 x59.t, .int .i64 x59.act.kind, .int .i64 x59.act.at_, .int .i64 x59.act.val, .int .i64 x59.act.what, .bool x59.act.volatile, .bool x59.act.final, .int .i64 x59.rf, .int .i64 x59.id] := hr68
    refine U.p rfl rfl (.inl rfl) (S.index rfl ((L 7 rfl rfl).trans hv66) (L 9 rfl rfl) Try.underlying27 ti31 (ix_ge hx60) (ix_lt hx60)) ?_
    refine U.k rfl rfl (.inl rfl) (S.loadN (cs := [.int .i64 x59.t, .int .i64 x59.act.kind, .int .i64 x59.act.at_, .int .i64 x59.act.val, .int .i64 x59.act.what, .bool x59.act.volatile, .bool x59.act.final, .int .i64 x59.rf, .int .i64 x59.id]) rfl (L 0 rfl rfl) Try.underlying31 rfl ti31 rfl (fun j v hj => (le14.trans le43).cell hf67 (hc69 j v hj))) nd ?_
    refine O.alloc ow44 rfl rfl (.inl rfl) rfl ti31 rfl rfl nd (fun b70 V71 le72 ow73 => ?_)
    refine U.p rfl rfl (.inl rfl) (S.assign rfl (L 3 rfl rfl)) ?_
    refine O.store (k := 0) (cs := [.int .i64 x59.t, .int .i64 x59.act.kind, .int .i64 x59.act.at_, .int .i64 x59.act.val, .int .i64 x59.act.what, .bool x59.act.volatile, .bool x59.act.final, .int .i64 x59.rf, .int .i64 x59.id]) (c' := [.int .i64 x59.t, .int .i64 x59.act.kind, .int .i64 x59.act.at_, .int .i64 x59.act.val, .int .i64 x59.act.what, .bool x59.act.volatile, .bool x59.act.final, .int .i64 x59.rf, .int .i64 x59.id]) ow73 rfl rfl rfl (.inl rfl) rfl (L 1 rfl rfl) (L 2 rfl rfl) ti31 (by simp [topV]) rfl rfl (nr rfl) rfl rfl nd (fun V75 le76 ow77 => ?_)
    refine U.done (nr rfl) ?_
    refine WP.usreg rfl ?_
    refine U.k rfl rfl (.inl rfl) (S.loadB rfl (L 1 rfl rfl) Try.underlying31 rfl ti31 (ow77.own (k := 0) rfl).get rfl) nd ?_
    refine U.p rfl rfl (.inl rfl) (S.move rfl (L 1 rfl rfl)) ?_
    refine U.p (v := .agg #[.int .i64 x59.t, .int .i64 x59.act.kind, .int .i64 x59.act.at_, .int .i64 x59.act.val, .int .i64 x59.act.what, .bool x59.act.volatile, .bool x59.act.final, .int .i64 x59.rf, .int .i64 x59.id, .int .i64 x39]) rfl rfl (.inl rfl) (S.build (vs := [.agg #[.int .i64 x59.t, .int .i64 x59.act.kind, .int .i64 x59.act.at_, .int .i64 x59.act.val, .int .i64 x59.act.what, .bool x59.act.volatile, .bool x59.act.final, .int .i64 x59.rf, .int .i64 x59.id], .int .i64 x39]) rfl ti52 rfl pl52 (aC (L 1 rfl rfl) (aC (L 0 rfl rfl) aN)) (allC (by simp [topV]) (allC (by simp [topV]) allN)) (fillA (ws := [.int .i64 x59.t, .int .i64 x59.act.kind, .int .i64 x59.act.at_, .int .i64 x59.act.val, .int .i64 x59.act.what, .bool x59.act.volatile, .bool x59.act.final, .int .i64 x59.rf, .int .i64 x59.id]) rfl rfl rfl (nr rfl) (fill1 rfl rfl (nr rfl) rfl))) ?_
    refine O.alloc ow77 rfl rfl (.inl rfl) rfl ti52 rfl rfl nd (fun b78 V79 le80 ow81 => ?_)
    refine O.store (k := 0) (cs := [.int .i64 x59.t, .int .i64 x59.act.kind, .int .i64 x59.act.at_, .int .i64 x59.act.val, .int .i64 x59.act.what, .bool x59.act.volatile, .bool x59.act.final, .int .i64 x59.rf, .int .i64 x59.id, .int .i64 x39]) (c' := [.int .i64 x59.t, .int .i64 x59.act.kind, .int .i64 x59.act.at_, .int .i64 x59.act.val, .int .i64 x59.act.what, .bool x59.act.volatile, .bool x59.act.final, .int .i64 x59.rf, .int .i64 x59.id, .int .i64 x39]) ow81 rfl rfl rfl (.inl rfl) rfl (L 0 rfl rfl) (L 1 rfl rfl) ti52 (by simp [topV]) rfl rfl (nr rfl) rfl rfl nd (fun V83 le84 ow85 => ?_)
    refine U.done (nr rfl) ?_
    refine WP.usreg rfl ?_
    refine U.k rfl rfl (.inl rfl) (S.loadB rfl (L 0 rfl rfl) Try.underlying52 rfl ti52 (ow85.own (k := 0) rfl).get rfl) nd ?_
    obtain ⟨x86, hx87, h88⟩ := bindS h61
    refine O.call (V := V83) rfl rfl (.inl rfl) rfl en44 (aC (L 0 rfl rfl) aN) (wk_ref21_Reads V83 _ (⟨x59, x39⟩ : Tref21_Node) ow85 _ hx87) (fun _ _ _ _ => nd) (fun v89 V90 le91 hp92 => ?_)
    obtain ⟨rfl, ow93⟩ := hp92
    refine U.p rfl rfl (.inl rfl) (S.move rfl (L 0 rfl rfl)) ?_
    obtain ⟨y94, hy95, h96⟩ := bindS h88
    refine U.joinX 6 (fun e H => ∃ (u97 u98 : Value), ∃ V' : Vw, H = V'.H ∧ V90.le V' ∧ e = [(32, .bool y94), (31, u97), (30, u98)] ∧ Ow V' (.pt b78 (.cells 10 [.int .i64 x59.t, .int .i64 x59.act.kind, .int .i64 x59.act.at_, .int .i64 x59.act.val, .int .i64 x59.act.what, .bool x59.act.volatile, .bool x59.act.final, .int .i64 x59.rf, .int .i64 x59.id, .int .i64 x39]) :: .pt b70 (.cells 9 [.int .i64 x59.t, .int .i64 x59.act.kind, .int .i64 x59.act.at_, .int .i64 x59.act.val, .int .i64 x59.act.what, .bool x59.act.volatile, .bool x59.act.final, .int .i64 x59.rf, .int .i64 x59.id]) :: .os RT_Tref21_Node v37 xs38 :: Rs)) ?_ ?_
    ·rintro _ _ ⟨u97, u98, V99, rfl, le100, rfl, ow101⟩
     refine U.p rfl rfl (.inl rfl) (S.move rfl (L 0 rfl rfl)) ?_
     obtain ⟨y102, hy103, h104⟩ := bindS h96
     refine U.joinX 14 (fun e H => ∃ (u105 u106 u107 u108 u109 u110 : Value), ∃ V' : Vw, H = V'.H ∧ V99.le V' ∧ e = [(40, .bool y102), (39, u105), (38, u106), (37, u107), (36, u108), (35, u109), (34, u110)] ∧ Ow V' (.pt b78 (.cells 10 [.int .i64 x59.t, .int .i64 x59.act.kind, .int .i64 x59.act.at_, .int .i64 x59.act.val, .int .i64 x59.act.what, .bool x59.act.volatile, .bool x59.act.final, .int .i64 x59.rf, .int .i64 x59.id, .int .i64 x39]) :: .pt b70 (.cells 9 [.int .i64 x59.t, .int .i64 x59.act.kind, .int .i64 x59.act.at_, .int .i64 x59.act.val, .int .i64 x59.act.what, .bool x59.act.volatile, .bool x59.act.final, .int .i64 x59.rf, .int .i64 x59.id]) :: .os RT_Tref21_Node v37 xs38 :: Rs)) ?_ ?_
     ·rintro _ _ ⟨u105, u106, u107, u108, u109, u110, V111, rfl, le112, rfl, ow113⟩
      refine U.done (nr rfl) ?_
      refine WP.cond _ (L 0 rfl rfl) rfl (fun c114 => ?_) (fun c114 => ?_)
      ·have h115 := ifT c114 h104
       refine WP.ureg rfl ?_
       refine U.p rfl rfl (.inl rfl) (S.move rfl (L 25 rfl rfl)) ?_
       refine U.k rfl rfl (.inl rfl) (S.loadB rfl (L 15 rfl rfl) Try.underlying52 rfl ti52 (ow113.own (k := 0) rfl).get rfl) nd ?_
       refine O.lit (R := RT_Tref21_Node) ow113 rfl rfl (.inl rfl) rfl Try.underlying47 ti52 rfl rfl rfl (nr rfl) rfl (aC (L 0 rfl rfl) aN) (.cons _ _ (⟨x59, x39⟩ : Tref21_Node) _ (by simp [topV]) rfl .nil) (fun _ => nd) (fun v116 V117 le118 ow119 => ?_)
       obtain ⟨xs121, hx122, h123⟩ := bindS h115
       refine O.append (k := 3) ow119 rfl rfl rfl (.inl rfl) rfl (L 2 rfl rfl) (L 0 rfl rfl) Try.underlying47 ti52 rfl rfl (nr rfl) (ow119.src (k := 0) rfl Try.underlying47) hx122 (fun _ _ => nd) (fun v124 V125 le126 ow127 => ?_)
       refine U.p rfl rfl (.inl rfl) (S.assign rfl (L 0 rfl rfl)) ?_
       refine U.done (nr rfl) ?_
       refine blkN (sqN ?_)
       have ow129 := ow127.drop 0 rfl
       have ow130 := ow129.drop 0 rfl
       have ow131 := ow130.drop 0 rfl
       exact ⟨_, V125, rfl, ⟨v124, xs121, rfl, ((((((((le72.trans le76).trans le80).trans le84).trans le91).trans le100).trans le112).trans le118).trans le126), ow131, h123⟩, (allCons (L 29 rfl rfl) (allCons (L 0 rfl rfl) (allCons (L 31 rfl rfl) (allCons (L 32 rfl rfl) (allCons (L 33 rfl rfl) (allCons (L 34 rfl rfl) (allCons (L 35 rfl rfl) (allCons (L 36 rfl rfl) allNil))))))))⟩
      ·have h132 := ifF c114 h104
       refine WP.skip ?_
       refine blkN (sqN ?_)
       have ow133 := ow113.drop 0 rfl
       have ow134 := ow133.drop 0 rfl
       exact ⟨_, V111, rfl, ⟨v37, xs38, rfl, ((((((le72.trans le76).trans le80).trans le84).trans le91).trans le100).trans le112), ow134, h132⟩, (allCons (L 24 rfl rfl) (allCons (L 25 rfl rfl) (allCons (L 26 rfl rfl) (allCons (L 27 rfl rfl) (allCons (L 28 rfl rfl) (allCons (L 29 rfl rfl) (allCons (L 30 rfl rfl) (allCons (L 31 rfl rfl) allNil))))))))⟩
     ·intro kk
      refine bcase (b := y94) (fun g135 => ?_) (fun g135 => ?_)
      ·have h136 := ifT g135 hy103
       refine U.p rfl rfl (.inr ⟨_, _, _, rfl, rfl, ((L 0 rfl rfl).trans (congrArg Value.bool g135))⟩) (S.move rfl (L 17 rfl rfl)) ?_
       refine U.p rfl rfl (.inr ⟨_, _, _, rfl, rfl, ((L 1 rfl rfl).trans (congrArg Value.bool g135))⟩) (S.not rfl (L 0 rfl rfl)) ?_
       refine U.p rfl rfl (.inr ⟨_, _, _, rfl, rfl, ((L 2 rfl rfl).trans (congrArg Value.bool g135))⟩) (S.move rfl (L 0 rfl rfl)) ?_
       obtain ⟨y137, hy138, h139⟩ := bindS h136
       refine U.joinX 13 (fun e H => ∃ (u140 u141 : Value), ∃ V' : Vw, H = V'.H ∧ V99.le V' ∧ e = [(39, .bool y137), (38, u140), (37, u141)] ∧ Ow V' (.pt b78 (.cells 10 [.int .i64 x59.t, .int .i64 x59.act.kind, .int .i64 x59.act.at_, .int .i64 x59.act.val, .int .i64 x59.act.what, .bool x59.act.volatile, .bool x59.act.final, .int .i64 x59.rf, .int .i64 x59.id, .int .i64 x39]) :: .pt b70 (.cells 9 [.int .i64 x59.t, .int .i64 x59.act.kind, .int .i64 x59.act.at_, .int .i64 x59.act.val, .int .i64 x59.act.what, .bool x59.act.volatile, .bool x59.act.final, .int .i64 x59.rf, .int .i64 x59.id]) :: .os RT_Tref21_Node v37 xs38 :: Rs)) ?_ ?_
       ·rintro _ _ ⟨u140, u141, V142, rfl, le143, rfl, ow144⟩
        refine U.p rfl rfl (.inl rfl) (S.pickT rfl ((L 6 rfl rfl).trans (congrArg Value.bool g135)) (L 0 rfl rfl)) ?_
        have e145 := Option.some.inj h139
        subst e145
        exact kk [(40, .bool y137), (39, .bool y137), (38, u140), (37, u141), (36, .bool (!p1)), (35, .bool (!p1)), (34, .bool p1)] _ ⟨.bool y137, u140, u141, .bool (!p1), .bool (!p1), .bool p1, V142, rfl, le143, rfl, ow144⟩
       ·intro kk
        refine bcase (b := !p1) (fun g146 => ?_) (fun g146 => ?_)
        ·have h147 := ifT g146 hy138
         have k148 : p1 = false := by simpa using g146
         refine U.x rfl rfl rfl rfl ((L 0 rfl rfl).trans (congrArg Value.bool g146)) (by decide) ?_
         refine U.x rfl rfl rfl rfl ((L 1 rfl rfl).trans (congrArg Value.bool g146)) (by decide) ?_
         refine U.p rfl rfl (.inr ⟨_, _, _, rfl, rfl, ((L 5 rfl rfl).trans (congrArg Value.bool g135))⟩) (S.pickT rfl ((L 2 rfl rfl).trans (congrArg Value.bool g146)) K) ?_
         have e149 := Option.some.inj h147
         subst e149
         exact kk [(39, .bool true), (38, .tuple #[]), (37, .tuple #[])] _ ⟨.tuple #[], .tuple #[], V99, rfl, (.refl _), rfl, ow101⟩
        ·have h150 := ifF g146 hy138
         have k151 : p1 = true := by simpa using g146
         refine U.k rfl rfl (.inr ⟨_, _, _, rfl, rfl, ((L 0 rfl rfl).trans (congrArg Value.bool g146))⟩) (S.loadB rfl (L 10 rfl rfl) Try.underlying52 rfl ti52 (ow101.own (k := 0) rfl).get rfl) nd ?_
         obtain ⟨x152, hx153, h154⟩ := bindS h150
         refine O.call (V := V99) rfl rfl (.inr ⟨_, _, _, rfl, rfl, ((L 1 rfl rfl).trans (congrArg Value.bool g146))⟩) rfl en47 (aC (L 0 rfl rfl) aN) (wk_ref21_Synced V99 _ (⟨x59, x39⟩ : Tref21_Node) ow101 _ hx153) (fun _ _ _ _ => nd) (fun v155 V156 le157 hp158 => ?_)
         obtain ⟨rfl, ow159⟩ := hp158
         refine U.p rfl rfl (.inr ⟨_, _, _, rfl, rfl, ((L 5 rfl rfl).trans (congrArg Value.bool g135))⟩) (S.pickF rfl ((L 2 rfl rfl).trans (congrArg Value.bool g146)) (L 0 rfl rfl)) ?_
         have e160 := Option.some.inj h154
         subst e160
         exact kk [(39, .bool x152), (38, .bool x152), (37, .agg #[.int .i64 x59.t, .int .i64 x59.act.kind, .int .i64 x59.act.at_, .int .i64 x59.act.val, .int .i64 x59.act.what, .bool x59.act.volatile, .bool x59.act.final, .int .i64 x59.rf, .int .i64 x59.id, .int .i64 x39])] _ ⟨.bool x152, .agg #[.int .i64 x59.t, .int .i64 x59.act.kind, .int .i64 x59.act.at_, .int .i64 x59.act.val, .int .i64 x59.act.what, .bool x59.act.volatile, .bool x59.act.final, .int .i64 x59.rf, .int .i64 x59.id, .int .i64 x39], V156, rfl, le157, rfl, ow159⟩
      ·have h161 := ifF g135 hy103
       refine U.x rfl rfl rfl rfl ((L 0 rfl rfl).trans (congrArg Value.bool g135)) (by decide) ?_
       refine U.x rfl rfl rfl rfl ((L 1 rfl rfl).trans (congrArg Value.bool g135)) (by decide) ?_
       refine U.x rfl rfl rfl rfl ((L 2 rfl rfl).trans (congrArg Value.bool g135)) (by decide) ?_
       refine U.z rfl rfl rfl rfl (L 0 rfl rfl) ?_
       refine U.z rfl rfl rfl rfl (L 1 rfl rfl) ?_
       refine U.x rfl rfl rfl rfl ((L 5 rfl rfl).trans (congrArg Value.bool g135)) (by decide) ?_
       refine U.p rfl rfl (.inl rfl) (S.pickF rfl ((L 6 rfl rfl).trans (congrArg Value.bool g135)) K) ?_
       have e162 := Option.some.inj h161
       subst e162
       exact kk [(40, .bool false), (39, .tuple #[]), (38, .tuple #[]), (37, .tuple #[]), (36, .tuple #[]), (35, .tuple #[]), (34, .tuple #[])] _ ⟨.tuple #[], .tuple #[], .tuple #[], .tuple #[], .tuple #[], .tuple #[], V99, rfl, (.refl _), rfl, ow101⟩
    ·intro kk
     refine bcase (b := x86) (fun g163 => ?_) (fun g163 => ?_)
     ·have h164 := ifT g163 hy95
      refine U.x rfl rfl rfl rfl ((L 0 rfl rfl).trans (congrArg Value.bool g163)) (by decide) ?_
      refine U.x rfl rfl rfl rfl ((L 1 rfl rfl).trans (congrArg Value.bool g163)) (by decide) ?_
      refine U.p rfl rfl (.inl rfl) (S.pickT rfl ((L 2 rfl rfl).trans (congrArg Value.bool g163)) K) ?_
      have e165 := Option.some.inj h164
      subst e165
      exact kk [(32, .bool true), (31, .tuple #[]), (30, .tuple #[])] _ ⟨.tuple #[], .tuple #[], V90, rfl, (.refl _), rfl, ow93⟩
     ·have h166 := ifF g163 hy95
      refine U.k rfl rfl (.inr ⟨_, _, _, rfl, rfl, ((L 0 rfl rfl).trans (congrArg Value.bool g163))⟩) (S.loadB rfl (L 3 rfl rfl) Try.underlying52 rfl ti52 (ow93.own (k := 0) rfl).get rfl) nd ?_
      obtain ⟨x167, hx168, h169⟩ := bindS h166
      refine O.call (V := V90) rfl rfl (.inr ⟨_, _, _, rfl, rfl, ((L 1 rfl rfl).trans (congrArg Value.bool g163))⟩) rfl en45 (aC (L 0 rfl rfl) aN) (wk_ref21_Writes V90 _ (⟨x59, x39⟩ : Tref21_Node) ow93 _ hx168) (fun _ _ _ _ => nd) (fun v170 V171 le172 hp173 => ?_)
      obtain ⟨rfl, ow174⟩ := hp173
      refine U.p rfl rfl (.inl rfl) (S.pickF rfl ((L 2 rfl rfl).trans (congrArg Value.bool g163)) (L 0 rfl rfl)) ?_
      have e175 := Option.some.inj h169
      subst e175
      exact kk [(32, .bool x167), (31, .bool x167), (30, .agg #[.int .i64 x59.t, .int .i64 x59.act.kind, .int .i64 x59.act.at_, .int .i64 x59.act.val, .int .i64 x59.act.what, .bool x59.act.volatile, .bool x59.act.final, .int .i64 x59.rf, .int .i64 x59.id, .int .i64 x39])] _ ⟨.bool x167, .agg #[.int .i64 x59.t, .int .i64 x59.act.kind, .int .i64 x59.act.at_, .int .i64 x59.act.val, .int .i64 x59.act.what, .bool x59.act.volatile, .bool x59.act.final, .int .i64 x59.rf, .int .i64 x59.id, .int .i64 x39], V171, rfl, le172, rfl, ow174⟩
  ·have h176 := ifF c50 h49
   refine WP.exit ?_
   refine sqE (sqE (blkE (blkN (sqN ?_))))
   have h177 := exitS h176 e47
   refine WP.ureg rfl ?_
   refine U.p rfl rfl (.inl rfl) (S.add rfl (L 5 rfl rfl) K) ?_
   refine U.p rfl rfl (.inl rfl) (S.move rfl (L 0 rfl rfl)) ?_
   refine U.done (nr rfl) ?_
   refine sqN ?_
   exact ⟨_, V42, rfl, ⟨m16, Nat.lt_succ_self _, v37, xs38, w64 (x8 + 1), rfl, (le14.trans le43), ow44, backS h177 e18⟩, (allCons (L 3 rfl rfl) (allCons (L 4 rfl rfl) (allCons (L 5 rfl rfl) (allCons (L 6 rfl rfl) (allCons (L 0 rfl rfl) allNil)))))⟩
 ·have h178 := ifF c21 h20
  refine WP.exit ?_
  refine sqE (sqE (blkE (sqN ?_)))
  have h179 := exitS h178 e18
  refine WP.usreg rfl ?_
  refine U.p rfl rfl (.inl rfl) (S.move rfl (L 2 rfl rfl)) ?_
  refine U.p rfl rfl (.inl rfl) (S.assign rfl (L 0 rfl rfl)) ?_
  refine U.done (nr rfl) ?_
  refine WP.ret ?_
  refine fin.slot (.inr rfl) rfl (L 0 rfl rfl) ⟨V13, rfl, le14, ?_⟩
  have e180 := Option.some.inj h179
  subst e180
  exact ⟨v6, rfl, ow15⟩
set_option maxHeartbeats 4000000 in
set_option maxRecDepth 10000 in
theorem wk_ref21_Apart (V : Vw) (Rs : List At) (p0 : List (List TEvent)) (v1 : Value) (f2 : Fz (RT.sl RT_TEvent) V v1 p0) (ow : Ow V (Rs)) (r : Bool) (h : ref21_Apart p0 = some r) : ∃ v V', Cl Try.prog 0 20 #[v1] V.H v V'.H ∧ V.le V' ∧ (v = .bool r ∧ Ow V' (Rs)) := by
 refine Ct.of (Nat.zero_le _) Try.func20 rfl (nr rfl) ?_
 unfold ref21_Apart at h
 refine WP.usreg rfl ?_
 refine U.p rfl rfl (.inl rfl) (S.assign rfl K) ?_
 refine U.done (nr rfl) ?_
 refine WP.usreg rfl ?_
 refine U.p rfl rfl (.inl rfl) (S.assign rfl K) ?_
 refine U.done (nr rfl) ?_
 refine WP.seq ?_
 refine WP.usreg rfl ?_
 refine U.p rfl rfl (.inl rfl) (S.move rfl (L 2 rfl rfl)) ?_
 obtain ⟨x3, hx4, h5⟩ := bindS h
 refine O.call (V := V) rfl rfl (.inl rfl) rfl en32 (aC (L 0 rfl rfl) (aC K aN)) (wk_ref21_Nodes V _ p0 true v1 f2 ow _ hx4) (fun _ _ _ _ => nd) (fun v6 V7 le8 hp9 => ?_)
 obtain ⟨_, rfl, ow10⟩ := hp9
 refine U.p rfl rfl (.inl rfl) (ow10.oslen (k := 0) rfl rfl (L 0 rfl rfl) Try.underlying47) ?_
 refine U.p rfl rfl (.inl rfl) (S.move rfl K) ?_
 refine U.done (nr rfl) ?_
 refine WP.blk ?_
 have ow17 := ow10.nil RT_Tref21_Node
 unfold ref21_Apart_l1 at h5
 obtain ⟨n20, hn19⟩ := loopO_some.1 h5
 refine WP.loopI2 (fun n l V' => ∃ (v14 : Value) (xs15 : List Tref21_Node) (x16 : Int), l = [(3, v14), (12, v6), (13, .int .i64 (x3.length : Int)), (14, .int .i64 x16)] ∧ V7.le V' ∧ Ow V' (.os RT_Tref21_Node v14 xs15 :: .os RT_Tref21_Node v6 x3 :: Rs) ∧ itO (fun s => ref21_Apart_l1b x3 s.1 s.2) n (xs15, x16) = some r) n20 _ ⟨(.slice none 0 0), [], 0, rfl, .refl _, ow17, hn19⟩ (allCons (L 4 rfl rfl) (allCons (L 2 rfl rfl) (allCons (L 1 rfl rfl) (allCons (L 0 rfl rfl) allNil)))) ?_
 rintro _ _ V21 ⟨v14, xs15, x16, rfl, le22, ow23, h27⟩
 obtain ⟨m24, q25, rfl, h28, e26⟩ := itS h27
 replace h28 : ref21_Apart_l1b x3 xs15 x16 = some q25 := h28
 unfold ref21_Apart_l1b at h28
 refine WP.usreg rfl ?_
 refine U.p rfl rfl (.inl rfl) (S.lss rfl (L 3 rfl rfl) (L 2 rfl rfl)) ?_
 refine U.done (nr rfl) ?_
 refine WP.seq ?_
 refine WP.cond _ (L 0 rfl rfl) rfl (fun c29 => ?_) (fun c29 => ?_)
 ·have h30 := ifT c29 h28
  refine WP.skip ?_
  refine sqN ?_
  refine WP.seqI (fun l V' => ∃ (v32 : Value) (xs33 : List Tref21_Node), l = [(3, v32), (12, v6), (13, .int .i64 (x3.length : Int)), (14, .int .i64 x16)] ∧ V21.le V' ∧ Ow V' (.os RT_Tref21_Node v32 xs33 :: .os RT_Tref21_Node v6 x3 :: Rs) ∧ ref21_Apart_k1 x16 xs33 = some q25) ?_ ?_
  ·rintro _ V34 ⟨v32, xs33, rfl, le35, ow36, h37⟩
   unfold ref21_Apart_k1 at h37
   refine WP.ureg rfl ?_
   refine U.p rfl rfl (.inl rfl) (S.add rfl (L 3 rfl rfl) K) ?_
   refine U.p rfl rfl (.inl rfl) (S.move rfl (L 0 rfl rfl)) ?_
   refine U.done (nr rfl) ?_
   refine sqN ?_
   exact ⟨_, V34, rfl, ⟨m24, Nat.lt_succ_self _, v32, xs33, w64 (x16 + 1), rfl, (le22.trans le35), ow36, backS h37 e26⟩, (allCons (L 2 rfl rfl) (allCons (L 3 rfl rfl) (allCons (L 4 rfl rfl) (allCons (L 0 rfl rfl) allNil))))⟩
  ·skip
   refine WP.blk ?_
   refine WP.usreg rfl ?_
   obtain ⟨x38, hx39, h40⟩ := bindS h30
   obtain ⟨b41, o42, n43, c44, hv45⟩ := ow23.ospt (k := 1) rfl hx39
   obtain ⟨_, hv46, _⟩ := ow23.osel (k := 1) rfl hv45 hx39
   refine U.p rfl rfl (.inl rfl) (S.index rfl ((L 2 rfl rfl).trans hv46) (L 4 rfl rfl) Try.underlying47 ti52 (ix_ge hx39) (ix_lt hx39)) ?_
   obtain ⟨cs47, hv48, hlt49, hr50, hc51⟩ := ow23.osel (k := 1) rfl hv45 hx39
   obtain rfl : cs47 = [.int .i64 x38.e.t, .int .i64 x38.e.act.kind, .int .i64 x38.e.act.at_, .int .i64 x38.e.act.val, .int .i64 x38.e.act.what, .bool x38.e.act.volatile, .bool x38.e.act.final, .int .i64 x38.e.rf, .int .i64 x38.e.id, .int .i64 x38.at_] := hr50
   refine U.k rfl rfl (.inl rfl) (S.loadN (cs := [.int .i64 x38.e.t, .int .i64 x38.e.act.kind, .int .i64 x38.e.act.at_, .int .i64 x38.e.act.val, .int .i64 x38.e.act.what, .bool x38.e.act.volatile, .bool x38.e.act.final, .int .i64 x38.e.rf, .int .i64 x38.e.id, .int .i64 x38.at_]) rfl (L 0 rfl rfl) Try.underlying52 rfl ti52 rfl hc51) nd ?_
   refine O.alloc ow23 rfl rfl (.inl rfl) rfl ti52 rfl rfl nd (fun b52 V53 le54 ow55 => ?_)
   refine O.store (k := 0) (cs := [.int .i64 x38.e.t, .int .i64 x38.e.act.kind, .int .i64 x38.e.act.at_, .int .i64 x38.e.act.val, .int .i64 x38.e.act.what, .bool x38.e.act.volatile, .bool x38.e.act.final, .int .i64 x38.e.rf, .int .i64 x38.e.id, .int .i64 x38.at_]) (c' := [.int .i64 x38.e.t, .int .i64 x38.e.act.kind, .int .i64 x38.e.act.at_, .int .i64 x38.e.act.val, .int .i64 x38.e.act.what, .bool x38.e.act.volatile, .bool x38.e.act.final, .int .i64 x38.e.rf, .int .i64 x38.e.id, .int .i64 x38.at_]) ow55 rfl rfl rfl (.inl rfl) rfl (L 0 rfl rfl) (L 1 rfl rfl) ti52 (by simp [topV]) rfl rfl (nr rfl) rfl rfl nd (fun V57 le58 ow59 => ?_)
   refine U.done (nr rfl) ?_
   refine WP.usreg rfl ?_
   refine U.p (v := .pointer (some ⟨b52, 0, none⟩)) rfl rfl (.inl rfl) (S.fieldAddr rfl (L 0 rfl rfl) Try.underlying52 rfl ti31 rfl rfl) ?_
   refine U.p (v := .pointer (some ⟨b52, 1, none⟩)) rfl rfl (.inl rfl) (S.fieldAddr rfl (L 0 rfl rfl) Try.underlying31 rfl ti29 rfl rfl) ?_
   refine U.p (v := .pointer (some ⟨b52, 1, none⟩)) rfl rfl (.inl rfl) (S.fieldAddr rfl (L 0 rfl rfl) Try.underlying29 rfl ti3 rfl rfl) ?_
   refine U.k rfl rfl (.inl rfl) (S.load rfl (L 0 rfl rfl) Try.underlying3 rfl ((ow59.own (k := 0) rfl).cell rfl)) nd ?_
   refine U.p rfl rfl (.inl rfl) (S.eqlI rfl (L 0 rfl rfl) K) ?_
   refine U.p rfl rfl (.inl rfl) (S.move rfl (L 0 rfl rfl)) ?_
   refine U.joinX 12 (fun e H => ∃ (u60 u61 u62 u63 u64 : Value), H = V57.H ∧ e = [(29, .bool ((decide (x38.e.act.kind = 5)) || (decide (x38.e.act.kind = 6)))), (28, u60), (27, u61), (26, u62), (25, u63), (24, u64)]) ?_ ?_
   ·rintro _ _ ⟨u60, u61, u62, u63, u64, rfl, rfl⟩
    refine U.done (nr rfl) ?_
    refine WP.cond _ (L 0 rfl rfl) rfl (fun c68 => ?_) (fun c68 => ?_)
    ·have h69 := ifT c68 h40
     refine WP.ureg rfl ?_
     refine U.p rfl rfl (.inl rfl) (S.move rfl (L 16 rfl rfl)) ?_
     refine U.k rfl rfl (.inl rfl) (S.loadB rfl (L 13 rfl rfl) Try.underlying52 rfl ti52 (ow59.own (k := 0) rfl).get rfl) nd ?_
     refine O.lit (R := RT_Tref21_Node) ow59 rfl rfl (.inl rfl) rfl Try.underlying47 ti52 rfl rfl rfl (nr rfl) rfl (aC (L 0 rfl rfl) aN) (.cons _ _ x38 _ (by simp [topV]) rfl .nil) (fun _ => nd) (fun v70 V71 le72 ow73 => ?_)
     obtain ⟨xs75, hx76, h77⟩ := bindS h69
     refine O.append (k := 2) ow73 rfl rfl rfl (.inl rfl) rfl (L 2 rfl rfl) (L 0 rfl rfl) Try.underlying47 ti52 rfl rfl (nr rfl) (ow73.src (k := 0) rfl Try.underlying47) hx76 (fun _ _ => nd) (fun v78 V79 le80 ow81 => ?_)
     refine U.p rfl rfl (.inl rfl) (S.assign rfl (L 0 rfl rfl)) ?_
     refine U.done (nr rfl) ?_
     refine blkN (sqN ?_)
     have ow83 := ow81.drop 0 rfl
     have ow84 := ow83.drop 0 rfl
     exact ⟨_, V79, rfl, ⟨v78, xs75, rfl, (((le54.trans le58).trans le72).trans le80), ow84, h77⟩, (allCons (L 0 rfl rfl) (allCons (L 22 rfl rfl) (allCons (L 23 rfl rfl) (allCons (L 24 rfl rfl) allNil))))⟩
    ·have h85 := ifF c68 h40
     refine WP.skip ?_
     refine blkN (sqN ?_)
     have ow86 := ow59.drop 0 rfl
     exact ⟨_, V57, rfl, ⟨v14, xs15, rfl, (le54.trans le58), ow86, h85⟩, (allCons (L 16 rfl rfl) (allCons (L 17 rfl rfl) (allCons (L 18 rfl rfl) (allCons (L 19 rfl rfl) allNil))))⟩
   ·intro kk
    refine bcase (b := decide (x38.e.act.kind = 5)) (fun g87 => ?_) (fun g87 => ?_)
    ·skip
     refine U.x rfl rfl rfl rfl ((L 0 rfl rfl).trans (congrArg Value.bool g87)) (by decide) ?_
     refine U.x rfl rfl rfl rfl ((L 1 rfl rfl).trans (congrArg Value.bool g87)) (by decide) ?_
     refine U.x rfl rfl rfl rfl ((L 2 rfl rfl).trans (congrArg Value.bool g87)) (by decide) ?_
     refine U.x rfl rfl rfl rfl ((L 3 rfl rfl).trans (congrArg Value.bool g87)) (by decide) ?_
     refine U.x rfl rfl rfl rfl ((L 4 rfl rfl).trans (congrArg Value.bool g87)) (by decide) ?_
     refine U.p rfl rfl (.inl rfl) (S.pickT rfl ((L 5 rfl rfl).trans (congrArg Value.bool g87)) K) ?_
     exact kk [(29, .bool true), (28, .tuple #[]), (27, .tuple #[]), (26, .tuple #[]), (25, .tuple #[]), (24, .tuple #[])] _ ⟨.tuple #[], .tuple #[], .tuple #[], .tuple #[], .tuple #[], rfl, (by rw [g87, Bool.true_or])⟩
    ·skip
     refine U.p (v := .pointer (some ⟨b52, 0, none⟩)) rfl rfl (.inr ⟨_, _, _, rfl, rfl, ((L 0 rfl rfl).trans (congrArg Value.bool g87))⟩) (S.fieldAddr rfl (L 6 rfl rfl) Try.underlying52 rfl ti31 rfl rfl) ?_
     refine U.p (v := .pointer (some ⟨b52, 1, none⟩)) rfl rfl (.inr ⟨_, _, _, rfl, rfl, ((L 1 rfl rfl).trans (congrArg Value.bool g87))⟩) (S.fieldAddr rfl (L 0 rfl rfl) Try.underlying31 rfl ti29 rfl rfl) ?_
     refine U.p (v := .pointer (some ⟨b52, 1, none⟩)) rfl rfl (.inr ⟨_, _, _, rfl, rfl, ((L 2 rfl rfl).trans (congrArg Value.bool g87))⟩) (S.fieldAddr rfl (L 0 rfl rfl) Try.underlying29 rfl ti3 rfl rfl) ?_
     refine U.k rfl rfl (.inr ⟨_, _, _, rfl, rfl, ((L 3 rfl rfl).trans (congrArg Value.bool g87))⟩) (S.load rfl (L 0 rfl rfl) Try.underlying3 rfl ((ow59.own (k := 0) rfl).cell rfl)) nd ?_
     refine U.p rfl rfl (.inr ⟨_, _, _, rfl, rfl, ((L 4 rfl rfl).trans (congrArg Value.bool g87))⟩) (S.eqlI rfl (L 0 rfl rfl) K) ?_
     refine U.p rfl rfl (.inl rfl) (S.pickF rfl ((L 5 rfl rfl).trans (congrArg Value.bool g87)) (L 0 rfl rfl)) ?_
     exact kk [(29, .bool (decide (x38.e.act.kind = 6))), (28, .bool (decide (x38.e.act.kind = 6))), (27, .int .i64 x38.e.act.kind), (26, .pointer (some ⟨b52, 1, none⟩)), (25, .pointer (some ⟨b52, 1, none⟩)), (24, .pointer (some ⟨b52, 0, none⟩))] _ ⟨.bool (decide (x38.e.act.kind = 6)), .int .i64 x38.e.act.kind, .pointer (some ⟨b52, 1, none⟩), .pointer (some ⟨b52, 1, none⟩), .pointer (some ⟨b52, 0, none⟩), rfl, (by rw [g87, Bool.false_or])⟩
 ·have h88 := ifF c29 h28
  refine WP.exit ?_
  refine sqE (sqE (blkE (sqN ?_)))
  have h89 := exitS h88 e26
  refine WP.seq ?_
  refine WP.usreg rfl ?_
  refine U.p rfl rfl (.inl rfl) (S.move rfl (L 1 rfl rfl)) ?_
  refine U.p rfl rfl (.inl rfl) (ow23.oslen (k := 0) rfl rfl (L 0 rfl rfl) Try.underlying47) ?_
  refine U.p rfl rfl (.inl rfl) (S.move rfl K) ?_
  refine U.done (nr rfl) ?_
  refine WP.blk ?_
  have ow91 := ow23.drop 1 rfl
  unfold ref21_Apart_l2 at h89
  obtain ⟨n93, hn92⟩ := loopO_some.1 h89
  refine WP.loopI2 (fun n l V' => ∃ (x90 : Int), l = [(3, v14), (35, v14), (36, .int .i64 (xs15.length : Int)), (37, .int .i64 x90)] ∧ V21.le V' ∧ Ow V' (.os RT_Tref21_Node v14 xs15 :: Rs) ∧ itO (fun s => ref21_Apart_l2b xs15 s) n x90 = some r) n93 _ ⟨0, rfl, .refl _, ow91, hn92⟩ (allCons (L 4 rfl rfl) (allCons (L 2 rfl rfl) (allCons (L 1 rfl rfl) (allCons (L 0 rfl rfl) allNil)))) ?_
  rintro _ _ V94 ⟨x90, rfl, le95, ow96, h100⟩
  obtain ⟨m97, q98, rfl, h101, e99⟩ := itS h100
  replace h101 : ref21_Apart_l2b xs15 x90 = some q98 := h101
  unfold ref21_Apart_l2b at h101
  refine WP.usreg rfl ?_
  refine U.p rfl rfl (.inl rfl) (S.lss rfl (L 3 rfl rfl) (L 2 rfl rfl)) ?_
  refine U.done (nr rfl) ?_
  refine WP.seq ?_
  refine WP.cond _ (L 0 rfl rfl) rfl (fun c102 => ?_) (fun c102 => ?_)
  ·have h103 := ifT c102 h101
   refine WP.skip ?_
   refine sqN ?_
   refine WP.seqI (fun l V' => l = [(3, v14), (35, v14), (36, .int .i64 (xs15.length : Int)), (37, .int .i64 x90)] ∧ V94.le V' ∧ Ow V' (.os RT_Tref21_Node v14 xs15 :: Rs) ∧ ref21_Apart_k2 x90  = some q98) ?_ ?_
   ·rintro _ V104 ⟨rfl, le105, ow106, h107⟩
    unfold ref21_Apart_k2 at h107
    refine WP.ureg rfl ?_
    refine U.p rfl rfl (.inl rfl) (S.add rfl (L 3 rfl rfl) K) ?_
    refine U.p rfl rfl (.inl rfl) (S.move rfl (L 0 rfl rfl)) ?_
    refine U.done (nr rfl) ?_
    refine sqN ?_
    exact ⟨_, V104, rfl, ⟨m97, Nat.lt_succ_self _, w64 (x90 + 1), rfl, (le95.trans le105), ow106, backS h107 e99⟩, (allCons (L 2 rfl rfl) (allCons (L 3 rfl rfl) (allCons (L 4 rfl rfl) (allCons (L 0 rfl rfl) allNil))))⟩
   ·skip
    refine WP.blk ?_
    refine WP.usreg rfl ?_
    refine U.p rfl rfl (.inl rfl) (S.move rfl (L 4 rfl rfl)) ?_
    obtain ⟨x108, hx109, h110⟩ := bindS h103
    obtain ⟨b111, o112, n113, c114, hv115⟩ := ow96.ospt (k := 0) rfl hx109
    obtain ⟨_, hv116, _⟩ := ow96.osel (k := 0) rfl hv115 hx109
    refine U.p rfl rfl (.inl rfl) (S.index rfl ((L 3 rfl rfl).trans hv116) (L 5 rfl rfl) Try.underlying47 ti52 (ix_ge hx109) (ix_lt hx109)) ?_
    obtain ⟨cs117, hv118, hlt119, hr120, hc121⟩ := ow96.osel (k := 0) rfl hv115 hx109
    obtain rfl : cs117 = [.int .i64 x108.e.t, .int .i64 x108.e.act.kind, .int .i64 x108.e.act.at_, .int .i64 x108.e.act.val, .int .i64 x108.e.act.what, .bool x108.e.act.volatile, .bool x108.e.act.final, .int .i64 x108.e.rf, .int .i64 x108.e.id, .int .i64 x108.at_] := hr120
    refine U.k rfl rfl (.inl rfl) (S.loadN (cs := [.int .i64 x108.e.t, .int .i64 x108.e.act.kind, .int .i64 x108.e.act.at_, .int .i64 x108.e.act.val, .int .i64 x108.e.act.what, .bool x108.e.act.volatile, .bool x108.e.act.final, .int .i64 x108.e.rf, .int .i64 x108.e.id, .int .i64 x108.at_]) rfl (L 0 rfl rfl) Try.underlying52 rfl ti52 rfl hc121) nd ?_
    refine O.alloc ow96 rfl rfl (.inl rfl) rfl ti52 rfl rfl nd (fun b122 V123 le124 ow125 => ?_)
    refine U.p rfl rfl (.inl rfl) (S.assign rfl (L 3 rfl rfl)) ?_
    refine O.store (k := 0) (cs := [.int .i64 x108.e.t, .int .i64 x108.e.act.kind, .int .i64 x108.e.act.at_, .int .i64 x108.e.act.val, .int .i64 x108.e.act.what, .bool x108.e.act.volatile, .bool x108.e.act.final, .int .i64 x108.e.rf, .int .i64 x108.e.id, .int .i64 x108.at_]) (c' := [.int .i64 x108.e.t, .int .i64 x108.e.act.kind, .int .i64 x108.e.act.at_, .int .i64 x108.e.act.val, .int .i64 x108.e.act.what, .bool x108.e.act.volatile, .bool x108.e.act.final, .int .i64 x108.e.rf, .int .i64 x108.e.id, .int .i64 x108.at_]) ow125 rfl rfl rfl (.inl rfl) rfl (L 1 rfl rfl) (L 2 rfl rfl) ti52 (by simp [topV]) rfl rfl (nr rfl) rfl rfl nd (fun V127 le128 ow129 => ?_)
    refine U.done (nr rfl) ?_
    refine WP.usreg rfl ?_
    refine U.p rfl rfl (.inl rfl) (S.assign rfl K) ?_
    refine U.done (nr rfl) ?_
    refine WP.seq ?_
    refine WP.usreg rfl ?_
    refine U.p rfl rfl (.inl rfl) (S.move rfl (L 7 rfl rfl)) ?_
    refine U.p rfl rfl (.inl rfl) (ow129.oslen (k := 1) rfl rfl (L 0 rfl rfl) Try.underlying47) ?_
    refine U.p rfl rfl (.inl rfl) (S.move rfl K) ?_
    refine U.done (nr rfl) ?_
    refine WP.blk ?_
    have ow132 := ow129.pick 0 rfl
    have ow133 := ow132.pick 1 rfl
    unfold ref21_Apart_l3 at h110
    obtain ⟨n135, hn134⟩ := loopO_some.1 h110
    refine WP.loopI2 (fun n l V' => ∃ (x130 : Int) (x131 : Int), l = [(3, v14), (6, .int .i64 x90), (7, .pointer (some ⟨b122, 0, none⟩)), (8, .int .i64 x130), (35, v14), (36, .int .i64 (xs15.length : Int)), (37, .int .i64 x90), (42, v14), (43, .int .i64 (xs15.length : Int)), (44, .int .i64 x131)] ∧ V127.le V' ∧ Ow V' (.os RT_Tref21_Node v14 xs15 :: .pt b122 (.cells 10 [.int .i64 x108.e.t, .int .i64 x108.e.act.kind, .int .i64 x108.e.act.at_, .int .i64 x108.e.act.val, .int .i64 x108.e.act.what, .bool x108.e.act.volatile, .bool x108.e.act.final, .int .i64 x108.e.rf, .int .i64 x108.e.id, .int .i64 x108.at_]) :: Rs) ∧ itO (fun s => ref21_Apart_l3b xs15 x90 x108 s.1 s.2) n (x130, x131) = some q98) n135 _ ⟨(-1), 0, rfl, .refl _, ow133, hn134⟩ (allCons (L 10 rfl rfl) (allCons (L 4 rfl rfl) (allCons (L 5 rfl rfl) (allCons (L 3 rfl rfl) (allCons (L 11 rfl rfl) (allCons (L 12 rfl rfl) (allCons (L 13 rfl rfl) (allCons (L 2 rfl rfl) (allCons (L 1 rfl rfl) (allCons (L 0 rfl rfl) allNil)))))))))) ?_
    rintro _ _ V136 ⟨x130, x131, rfl, le137, ow138, h142⟩
    obtain ⟨m139, q140, rfl, h143, e141⟩ := itS h142
    replace h143 : ref21_Apart_l3b xs15 x90 x108 x130 x131 = some q140 := h143
    unfold ref21_Apart_l3b at h143
    refine WP.usreg rfl ?_
    refine U.p rfl rfl (.inl rfl) (S.lss rfl (L 9 rfl rfl) (L 8 rfl rfl)) ?_
    refine U.done (nr rfl) ?_
    refine WP.seq ?_
    refine WP.cond _ (L 0 rfl rfl) rfl (fun c144 => ?_) (fun c144 => ?_)
    ·have h145 := ifT c144 h143
     refine WP.skip ?_
     refine sqN ?_
     refine WP.seqI (fun l V' => ∃ (x146 : Int), l = [(3, v14), (6, .int .i64 x90), (7, .pointer (some ⟨b122, 0, none⟩)), (8, .int .i64 x146), (35, v14), (36, .int .i64 (xs15.length : Int)), (37, .int .i64 x90), (42, v14), (43, .int .i64 (xs15.length : Int)), (44, .int .i64 x131)] ∧ V136.le V' ∧ Ow V' (.os RT_Tref21_Node v14 xs15 :: .pt b122 (.cells 10 [.int .i64 x108.e.t, .int .i64 x108.e.act.kind, .int .i64 x108.e.act.at_, .int .i64 x108.e.act.val, .int .i64 x108.e.act.what, .bool x108.e.act.volatile, .bool x108.e.act.final, .int .i64 x108.e.rf, .int .i64 x108.e.id, .int .i64 x108.at_]) :: Rs) ∧ ref21_Apart_k3 x131 x146 = some q140) ?_ ?_
     ·rintro _ V147 ⟨x146, rfl, le148, ow149, h150⟩
      unfold ref21_Apart_k3 at h150
      refine WP.ureg rfl ?_
      refine U.p rfl rfl (.inl rfl) (S.add rfl (L 9 rfl rfl) K) ?_
      refine U.p rfl rfl (.inl rfl) (S.move rfl (L 0 rfl rfl)) ?_
      refine U.done (nr rfl) ?_
      refine sqN ?_
      exact ⟨_, V147, rfl, ⟨m139, Nat.lt_succ_self _, x146, w64 (x131 + 1), rfl, (le137.trans le148), ow149, backS h150 e141⟩, (allCons (L 2 rfl rfl) (allCons (L 3 rfl rfl) (allCons (L 4 rfl rfl) (allCons (L 5 rfl rfl) (allCons (L 6 rfl rfl) (allCons (L 7 rfl rfl) (allCons (L 8 rfl rfl) (allCons (L 9 rfl rfl) (allCons (L 10 rfl rfl) (allCons (L 0 rfl rfl) allNil))))))))))⟩
     ·skip
      refine WP.blk ?_
      refine WP.usreg rfl ?_
      refine U.p rfl rfl (.inl rfl) (S.move rfl (L 10 rfl rfl)) ?_
      obtain ⟨x151, hx152, h153⟩ := bindS h145
      obtain ⟨_, hv154, _⟩ := ow138.osel (k := 0) rfl hv115 hx152
      refine U.p rfl rfl (.inl rfl) (S.index rfl ((L 9 rfl rfl).trans hv154) (L 11 rfl rfl) Try.underlying47 ti52 (ix_ge hx152) (ix_lt hx152)) ?_
      obtain ⟨cs155, hv156, hlt157, hr158, hc159⟩ := ow138.osel (k := 0) rfl hv115 hx152
      obtain rfl : cs155 = [.int .i64 x151.e.t, .int .i64 x151.e.act.kind, .int .i64 x151.e.act.at_, .int .i64 x151.e.act.val, .int .i64 x151.e.act.what, .bool x151.e.act.volatile, .bool x151.e.act.final, .int .i64 x151.e.rf, .int .i64 x151.e.id, .int .i64 x151.at_] := hr158
      refine U.k rfl rfl (.inl rfl) (S.loadN (cs := [.int .i64 x151.e.t, .int .i64 x151.e.act.kind, .int .i64 x151.e.act.at_, .int .i64 x151.e.act.val, .int .i64 x151.e.act.what, .bool x151.e.act.volatile, .bool x151.e.act.final, .int .i64 x151.e.rf, .int .i64 x151.e.id, .int .i64 x151.at_]) rfl (L 0 rfl rfl) Try.underlying52 rfl ti52 rfl hc159) nd ?_
      refine O.alloc ow138 rfl rfl (.inl rfl) rfl ti52 rfl rfl nd (fun b160 V161 le162 ow163 => ?_)
      refine U.p rfl rfl (.inl rfl) (S.assign rfl (L 3 rfl rfl)) ?_
      refine O.store (k := 0) (cs := [.int .i64 x151.e.t, .int .i64 x151.e.act.kind, .int .i64 x151.e.act.at_, .int .i64 x151.e.act.val, .int .i64 x151.e.act.what, .bool x151.e.act.volatile, .bool x151.e.act.final, .int .i64 x151.e.rf, .int .i64 x151.e.id, .int .i64 x151.at_]) (c' := [.int .i64 x151.e.t, .int .i64 x151.e.act.kind, .int .i64 x151.e.act.at_, .int .i64 x151.e.act.val, .int .i64 x151.e.act.what, .bool x151.e.act.volatile, .bool x151.e.act.final, .int .i64 x151.e.rf, .int .i64 x151.e.id, .int .i64 x151.at_]) ow163 rfl rfl rfl (.inl rfl) rfl (L 1 rfl rfl) (L 2 rfl rfl) ti52 (by simp [topV]) rfl rfl (nr rfl) rfl rfl nd (fun V165 le166 ow167 => ?_)
      refine U.done (nr rfl) ?_
      refine WP.seqI (fun l V' => ∃ (x168 : Bool), l = [(3, v14), (6, .int .i64 x90), (7, .pointer (some ⟨b122, 0, none⟩)), (8, .int .i64 x130), (9, .int .i64 x131), (35, v14), (36, .int .i64 (xs15.length : Int)), (37, .int .i64 x90), (42, v14), (43, .int .i64 (xs15.length : Int)), (44, .int .i64 x131), (82, .bool x168)] ∧ V165.le V' ∧ Ow V' (.os RT_Tref21_Node v14 xs15 :: .pt b122 (.cells 10 [.int .i64 x108.e.t, .int .i64 x108.e.act.kind, .int .i64 x108.e.act.at_, .int .i64 x108.e.act.val, .int .i64 x108.e.act.what, .bool x108.e.act.volatile, .bool x108.e.act.final, .int .i64 x108.e.rf, .int .i64 x108.e.id, .int .i64 x108.at_]) :: Rs) ∧ ref21_Apart_k4 x130 x131 x168 = some q140) ?_ ?_
      ·rintro _ V169 ⟨x168, rfl, le170, ow171, h172⟩
       unfold ref21_Apart_k4 at h172
       refine WP.cond _ (L 11 rfl rfl) rfl (fun c173 => ?_) (fun c173 => ?_)
       ·have h174 := ifT c173 h172
        refine WP.ureg rfl ?_
        refine U.p rfl rfl (.inl rfl) (S.move rfl (L 4 rfl rfl)) ?_
        refine U.p rfl rfl (.inl rfl) (S.assign rfl (L 0 rfl rfl)) ?_
        refine U.done (nr rfl) ?_
        refine blkN (sqN ?_)
        exact ⟨_, V169, rfl, ⟨x131, rfl, ((le162.trans le166).trans le170), ow171, h174⟩, (allCons (L 2 rfl rfl) (allCons (L 3 rfl rfl) (allCons (L 4 rfl rfl) (allCons (L 0 rfl rfl) (allCons (L 7 rfl rfl) (allCons (L 8 rfl rfl) (allCons (L 9 rfl rfl) (allCons (L 10 rfl rfl) (allCons (L 11 rfl rfl) (allCons (L 12 rfl rfl) allNil))))))))))⟩
       ·have h175 := ifF c173 h172
        refine WP.skip ?_
        refine blkN (sqN ?_)
        exact ⟨_, V169, rfl, ⟨x130, rfl, ((le162.trans le166).trans le170), ow171, h175⟩, (allCons (L 0 rfl rfl) (allCons (L 1 rfl rfl) (allCons (L 2 rfl rfl) (allCons (L 3 rfl rfl) (allCons (L 5 rfl rfl) (allCons (L 6 rfl rfl) (allCons (L 7 rfl rfl) (allCons (L 8 rfl rfl) (allCons (L 9 rfl rfl) (allCons (L 10 rfl rfl) allNil))))))))))⟩
      ·skip
       refine WP.udreg rfl rfl rfl ?_
       refine U.p (v := .pointer (some ⟨b160, 0, none⟩)) rfl rfl (.inl rfl) (S.fieldAddr rfl (L 1 rfl rfl) Try.underlying52 rfl ti31 rfl rfl) ?_
       refine U.p (v := .pointer (some ⟨b160, 1, none⟩)) rfl rfl (.inl rfl) (S.fieldAddr rfl (L 0 rfl rfl) Try.underlying31 rfl ti29 rfl rfl) ?_
       refine U.p (v := .pointer (some ⟨b160, 2, none⟩)) rfl rfl (.inl rfl) (S.fieldAddr rfl (L 0 rfl rfl) Try.underlying29 rfl ti3 rfl rfl) ?_
       refine U.k rfl rfl (.inl rfl) (S.load rfl (L 0 rfl rfl) Try.underlying3 rfl ((ow167.own (k := 0) rfl).cell rfl)) (fun _ => (okH.nil (fun r h => by cases h; exact (ow167.own (k := 0) rfl).lt))) ?_
       refine U.p (v := .pointer (some ⟨b122, 0, none⟩)) rfl rfl (.inl rfl) (S.fieldAddr rfl (L 12 rfl rfl) Try.underlying52 rfl ti31 rfl rfl) ?_
       refine U.p (v := .pointer (some ⟨b122, 1, none⟩)) rfl rfl (.inl rfl) (S.fieldAddr rfl (L 0 rfl rfl) Try.underlying31 rfl ti29 rfl rfl) ?_
       refine U.p (v := .pointer (some ⟨b122, 2, none⟩)) rfl rfl (.inl rfl) (S.fieldAddr rfl (L 0 rfl rfl) Try.underlying29 rfl ti3 rfl rfl) ?_
       refine U.k rfl rfl (.inl rfl) (S.load rfl (L 0 rfl rfl) Try.underlying3 rfl ((ow167.own (k := 2) rfl).cell rfl)) (fun _ => (okH.cons trivial (okH.nil (fun r h => by cases h; exact (ow167.own (k := 2) rfl).lt)))) ?_
       refine U.p rfl rfl (.inl rfl) (S.eqlI rfl (L 4 rfl rfl) (L 0 rfl rfl)) ?_
       refine U.p rfl rfl (.inl rfl) (S.move rfl (L 0 rfl rfl)) ?_
       refine bcase (b := decide (x151.e.act.at_ = x108.e.act.at_)) (fun g176 => ?_) (fun g176 => ?_)
       ·have h177 := ifT g176 h153
        refine U.p (v := .pointer (some ⟨b160, 0, none⟩)) rfl rfl (.inr ⟨_, _, _, rfl, rfl, ((L 0 rfl rfl).trans (congrArg Value.bool g176))⟩) (S.fieldAddr rfl (L 11 rfl rfl) Try.underlying52 rfl ti31 rfl rfl) ?_
        refine U.p (v := .pointer (some ⟨b160, 8, none⟩)) rfl rfl (.inr ⟨_, _, _, rfl, rfl, ((L 1 rfl rfl).trans (congrArg Value.bool g176))⟩) (S.fieldAddr rfl (L 0 rfl rfl) Try.underlying31 rfl ti3 rfl rfl) ?_
        refine U.k rfl rfl (.inr ⟨_, _, _, rfl, rfl, ((L 2 rfl rfl).trans (congrArg Value.bool g176))⟩) (S.load rfl (L 0 rfl rfl) Try.underlying3 rfl ((ow167.own (k := 0) rfl).cell rfl)) (fun _ => (okH.cons trivial (okH.cons trivial (okH.nil (fun r h => by cases h; exact (ow167.own (k := 0) rfl).lt))))) ?_
        refine U.p (v := .pointer (some ⟨b122, 0, none⟩)) rfl rfl (.inr ⟨_, _, _, rfl, rfl, ((L 3 rfl rfl).trans (congrArg Value.bool g176))⟩) (S.fieldAddr rfl (L 21 rfl rfl) Try.underlying52 rfl ti31 rfl rfl) ?_
        refine U.p (v := .pointer (some ⟨b122, 8, none⟩)) rfl rfl (.inr ⟨_, _, _, rfl, rfl, ((L 4 rfl rfl).trans (congrArg Value.bool g176))⟩) (S.fieldAddr rfl (L 0 rfl rfl) Try.underlying31 rfl ti3 rfl rfl) ?_
        refine U.k rfl rfl (.inr ⟨_, _, _, rfl, rfl, ((L 5 rfl rfl).trans (congrArg Value.bool g176))⟩) (S.load rfl (L 0 rfl rfl) Try.underlying3 rfl ((ow167.own (k := 2) rfl).cell rfl)) (fun _ => (okH.cons trivial (okH.cons trivial (okH.cons trivial (okH.nil (fun r h => by cases h; exact (ow167.own (k := 2) rfl).lt)))))) ?_
        refine U.p rfl rfl (.inr ⟨_, _, _, rfl, rfl, ((L 6 rfl rfl).trans (congrArg Value.bool g176))⟩) (S.lss rfl (L 3 rfl rfl) (L 0 rfl rfl)) ?_
        refine U.p rfl rfl (.inl rfl) (S.pickT rfl ((L 7 rfl rfl).trans (congrArg Value.bool g176)) (L 0 rfl rfl)) ?_
        refine U.p rfl rfl (.inl rfl) (S.move rfl (L 0 rfl rfl)) ?_
        refine bcase (b := decide (x151.e.id < x108.e.id)) (fun g178 => ?_) (fun g178 => ?_)
        ·have h179 := ifT g178 h177
         refine U.p rfl rfl (.inr ⟨_, _, _, rfl, rfl, ((L 0 rfl rfl).trans (congrArg Value.bool g178))⟩) (S.move rfl (L 28 rfl rfl)) ?_
         refine U.p rfl rfl (.inr ⟨_, _, _, rfl, rfl, ((L 1 rfl rfl).trans (congrArg Value.bool g178))⟩) (S.lss rfl (L 0 rfl rfl) K) ?_
         refine U.p rfl rfl (.inr ⟨_, _, _, rfl, rfl, ((L 2 rfl rfl).trans (congrArg Value.bool g178))⟩) (S.move rfl (L 0 rfl rfl)) ?_
         refine bcase (b := decide (x130 < 0)) (fun g180 => ?_) (fun g180 => ?_)
         ·have h181 := ifT g180 h179
          refine U.x rfl rfl rfl rfl ((L 0 rfl rfl).trans (congrArg Value.bool g180)) (by decide) ?_
          refine U.x rfl rfl rfl rfl ((L 1 rfl rfl).trans (congrArg Value.bool g180)) (by decide) ?_
          refine U.x rfl rfl rfl rfl ((L 2 rfl rfl).trans (congrArg Value.bool g180)) (by decide) ?_
          refine U.x rfl rfl rfl rfl ((L 3 rfl rfl).trans (congrArg Value.bool g180)) (by decide) ?_
          refine U.x rfl rfl rfl rfl ((L 4 rfl rfl).trans (congrArg Value.bool g180)) (by decide) ?_
          refine U.x rfl rfl rfl rfl ((L 5 rfl rfl).trans (congrArg Value.bool g180)) (by decide) ?_
          refine U.x rfl rfl rfl rfl ((L 6 rfl rfl).trans (congrArg Value.bool g180)) (by decide) ?_
          refine U.x rfl rfl rfl rfl ((L 7 rfl rfl).trans (congrArg Value.bool g180)) (by decide) ?_
          refine U.x rfl rfl rfl rfl ((L 8 rfl rfl).trans (congrArg Value.bool g180)) (by decide) ?_
          refine U.x rfl rfl rfl rfl ((L 9 rfl rfl).trans (congrArg Value.bool g180)) (by decide) ?_
          refine U.p rfl rfl (.inr ⟨_, _, _, rfl, rfl, ((L 13 rfl rfl).trans (congrArg Value.bool g178))⟩) (S.pickT rfl ((L 10 rfl rfl).trans (congrArg Value.bool g180)) K) ?_
          refine U.p rfl rfl (.inl rfl) (S.pickT rfl ((L 14 rfl rfl).trans (congrArg Value.bool g178)) (L 0 rfl rfl)) ?_
          refine U.done (nr rfl) ?_
          refine sqN ?_
          have ow182 := ow167.drop 0 rfl
          exact ⟨_, V165, rfl, ⟨true, rfl, (.refl _), ow182, h181⟩, (allCons (L 40 rfl rfl) (allCons (L 41 rfl rfl) (allCons (L 42 rfl rfl) (allCons (L 43 rfl rfl) (allCons (L 34 rfl rfl) (allCons (L 44 rfl rfl) (allCons (L 45 rfl rfl) (allCons (L 46 rfl rfl) (allCons (L 47 rfl rfl) (allCons (L 48 rfl rfl) (allCons (L 49 rfl rfl) (allCons (L 0 rfl rfl) allNil))))))))))))⟩
         ·have h183 := ifF g180 h179
          refine U.p (v := .pointer (some ⟨b160, 0, none⟩)) rfl rfl (.inr ⟨_, _, _, rfl, rfl, ((L 0 rfl rfl).trans (congrArg Value.bool g180))⟩) (S.fieldAddr rfl (L 23 rfl rfl) Try.underlying52 rfl ti31 rfl rfl) ?_
          refine U.p (v := .pointer (some ⟨b160, 8, none⟩)) rfl rfl (.inr ⟨_, _, _, rfl, rfl, ((L 1 rfl rfl).trans (congrArg Value.bool g180))⟩) (S.fieldAddr rfl (L 0 rfl rfl) Try.underlying31 rfl ti3 rfl rfl) ?_
          refine U.k rfl rfl (.inr ⟨_, _, _, rfl, rfl, ((L 2 rfl rfl).trans (congrArg Value.bool g180))⟩) (S.load rfl (L 0 rfl rfl) Try.underlying3 rfl ((ow167.own (k := 0) rfl).cell rfl)) (fun _ => (okH.cons trivial (okH.cons trivial (okH.cons trivial (okH.cons trivial (okH.nil (fun r h => by cases h; exact (ow167.own (k := 0) rfl).lt))))))) ?_
          refine U.p rfl rfl (.inr ⟨_, _, _, rfl, rfl, ((L 3 rfl rfl).trans (congrArg Value.bool g180))⟩) (S.move rfl (L 31 rfl rfl)) ?_
          refine U.p rfl rfl (.inr ⟨_, _, _, rfl, rfl, ((L 4 rfl rfl).trans (congrArg Value.bool g180))⟩) (S.move rfl (L 35 rfl rfl)) ?_
          obtain ⟨x184, hx185, h186⟩ := bindS h183
          obtain ⟨_, hv187, _⟩ := ow167.osel (k := 1) rfl hv115 hx185
          refine U.p rfl rfl (.inr ⟨_, _, _, rfl, rfl, ((L 5 rfl rfl).trans (congrArg Value.bool g180))⟩) (S.index rfl ((L 1 rfl rfl).trans hv187) (L 0 rfl rfl) Try.underlying47 ti52 (ix_ge hx185) (ix_lt hx185)) ?_
          refine U.p (v := .pointer (some ⟨b111, o112 + Int.toNat x130 * 10, none⟩)) rfl rfl (.inr ⟨_, _, _, rfl, rfl, ((L 6 rfl rfl).trans (congrArg Value.bool g180))⟩) (S.fieldAddr rfl (L 0 rfl rfl) Try.underlying52 rfl ti31 rfl rfl) ?_
          refine U.p (v := .pointer (some ⟨b111, o112 + Int.toNat x130 * 10 + 8, none⟩)) rfl rfl (.inr ⟨_, _, _, rfl, rfl, ((L 7 rfl rfl).trans (congrArg Value.bool g180))⟩) (S.fieldAddr rfl (L 0 rfl rfl) Try.underlying31 rfl ti3 rfl rfl) ?_
          obtain ⟨cs188, hv189, hlt190, hr191, hc192⟩ := ow167.osel (k := 1) rfl hv115 hx185
          obtain rfl : cs188 = [.int .i64 x184.e.t, .int .i64 x184.e.act.kind, .int .i64 x184.e.act.at_, .int .i64 x184.e.act.val, .int .i64 x184.e.act.what, .bool x184.e.act.volatile, .bool x184.e.act.final, .int .i64 x184.e.rf, .int .i64 x184.e.id, .int .i64 x184.at_] := hr191
          refine U.k rfl rfl (.inr ⟨_, _, _, rfl, rfl, ((L 8 rfl rfl).trans (congrArg Value.bool g180))⟩) (S.load rfl (L 0 rfl rfl) Try.underlying3 rfl (hc192 8 _ rfl)) (fun _ => (okH.cons trivial (okH.cons trivial (okH.cons trivial (okH.cons trivial (okH.cons trivial (okH.nil (fun r h => by cases h; exact hlt190)))))))) ?_
          refine U.p rfl rfl (.inr ⟨_, _, _, rfl, rfl, ((L 9 rfl rfl).trans (congrArg Value.bool g180))⟩) (S.gtr rfl (L 6 rfl rfl) (L 0 rfl rfl)) ?_
          refine U.p rfl rfl (.inr ⟨_, _, _, rfl, rfl, ((L 13 rfl rfl).trans (congrArg Value.bool g178))⟩) (S.pickF rfl ((L 10 rfl rfl).trans (congrArg Value.bool g180)) (L 0 rfl rfl)) ?_
          refine U.p rfl rfl (.inl rfl) (S.pickT rfl ((L 14 rfl rfl).trans (congrArg Value.bool g178)) (L 0 rfl rfl)) ?_
          refine U.done (nr rfl) ?_
          refine sqN ?_
          have ow193 := ow167.drop 0 rfl
          exact ⟨_, V165, rfl, ⟨decide (x184.e.id < x151.e.id), rfl, (.refl _), ow193, h186⟩, (allCons (L 40 rfl rfl) (allCons (L 41 rfl rfl) (allCons (L 42 rfl rfl) (allCons (L 43 rfl rfl) (allCons (L 34 rfl rfl) (allCons (L 44 rfl rfl) (allCons (L 45 rfl rfl) (allCons (L 46 rfl rfl) (allCons (L 47 rfl rfl) (allCons (L 48 rfl rfl) (allCons (L 49 rfl rfl) (allCons (L 0 rfl rfl) allNil))))))))))))⟩
        ·have h194 := ifF g178 h177
         refine U.x rfl rfl rfl rfl ((L 0 rfl rfl).trans (congrArg Value.bool g178)) (by decide) ?_
         refine U.x rfl rfl rfl rfl ((L 1 rfl rfl).trans (congrArg Value.bool g178)) (by decide) ?_
         refine U.x rfl rfl rfl rfl ((L 2 rfl rfl).trans (congrArg Value.bool g178)) (by decide) ?_
         refine U.z rfl rfl rfl rfl (L 0 rfl rfl) ?_
         refine U.z rfl rfl rfl rfl (L 1 rfl rfl) ?_
         refine U.z rfl rfl rfl rfl (L 2 rfl rfl) ?_
         refine U.z rfl rfl rfl rfl (L 3 rfl rfl) ?_
         refine U.z rfl rfl rfl rfl (L 4 rfl rfl) ?_
         refine U.z rfl rfl rfl rfl (L 5 rfl rfl) ?_
         refine U.z rfl rfl rfl rfl (L 6 rfl rfl) ?_
         refine U.z rfl rfl rfl rfl (L 7 rfl rfl) ?_
         refine U.z rfl rfl rfl rfl (L 8 rfl rfl) ?_
         refine U.z rfl rfl rfl rfl (L 9 rfl rfl) ?_
         refine U.x rfl rfl rfl rfl ((L 13 rfl rfl).trans (congrArg Value.bool g178)) (by decide) ?_
         refine U.p rfl rfl (.inl rfl) (S.pickF rfl ((L 14 rfl rfl).trans (congrArg Value.bool g178)) K) ?_
         refine U.done (nr rfl) ?_
         refine sqN ?_
         have ow195 := ow167.drop 0 rfl
         exact ⟨_, V165, rfl, ⟨false, rfl, (.refl _), ow195, h194⟩, (allCons (L 40 rfl rfl) (allCons (L 41 rfl rfl) (allCons (L 42 rfl rfl) (allCons (L 43 rfl rfl) (allCons (L 34 rfl rfl) (allCons (L 44 rfl rfl) (allCons (L 45 rfl rfl) (allCons (L 46 rfl rfl) (allCons (L 47 rfl rfl) (allCons (L 48 rfl rfl) (allCons (L 49 rfl rfl) (allCons (L 0 rfl rfl) allNil))))))))))))⟩
       ·have h196 := ifF g176 h153
        refine U.x rfl rfl rfl rfl ((L 0 rfl rfl).trans (congrArg Value.bool g176)) (by decide) ?_
        refine U.x rfl rfl rfl rfl ((L 1 rfl rfl).trans (congrArg Value.bool g176)) (by decide) ?_
        refine U.x rfl rfl rfl rfl ((L 2 rfl rfl).trans (congrArg Value.bool g176)) (by decide) ?_
        refine U.x rfl rfl rfl rfl ((L 3 rfl rfl).trans (congrArg Value.bool g176)) (by decide) ?_
        refine U.x rfl rfl rfl rfl ((L 4 rfl rfl).trans (congrArg Value.bool g176)) (by decide) ?_
        refine U.x rfl rfl rfl rfl ((L 5 rfl rfl).trans (congrArg Value.bool g176)) (by decide) ?_
        refine U.x rfl rfl rfl rfl ((L 6 rfl rfl).trans (congrArg Value.bool g176)) (by decide) ?_
        refine U.p rfl rfl (.inl rfl) (S.pickF rfl ((L 7 rfl rfl).trans (congrArg Value.bool g176)) K) ?_
        refine U.p rfl rfl (.inl rfl) (S.move rfl (L 0 rfl rfl)) ?_
        refine U.x rfl rfl rfl rfl (L 0 rfl rfl) (by decide) ?_
        refine U.x rfl rfl rfl rfl (L 1 rfl rfl) (by decide) ?_
        refine U.x rfl rfl rfl rfl (L 2 rfl rfl) (by decide) ?_
        refine U.z rfl rfl rfl rfl (L 0 rfl rfl) ?_
        refine U.z rfl rfl rfl rfl (L 1 rfl rfl) ?_
        refine U.z rfl rfl rfl rfl (L 2 rfl rfl) ?_
        refine U.z rfl rfl rfl rfl (L 3 rfl rfl) ?_
        refine U.z rfl rfl rfl rfl (L 4 rfl rfl) ?_
        refine U.z rfl rfl rfl rfl (L 5 rfl rfl) ?_
        refine U.z rfl rfl rfl rfl (L 6 rfl rfl) ?_
        refine U.z rfl rfl rfl rfl (L 7 rfl rfl) ?_
        refine U.z rfl rfl rfl rfl (L 8 rfl rfl) ?_
        refine U.z rfl rfl rfl rfl (L 9 rfl rfl) ?_
        refine U.x rfl rfl rfl rfl (L 13 rfl rfl) (by decide) ?_
        refine U.p rfl rfl (.inl rfl) (S.pickF rfl (L 14 rfl rfl) K) ?_
        refine U.done (nr rfl) ?_
        refine sqN ?_
        have ow197 := ow167.drop 0 rfl
        exact ⟨_, V165, rfl, ⟨false, rfl, (.refl _), ow197, h196⟩, (allCons (L 40 rfl rfl) (allCons (L 41 rfl rfl) (allCons (L 42 rfl rfl) (allCons (L 43 rfl rfl) (allCons (L 34 rfl rfl) (allCons (L 44 rfl rfl) (allCons (L 45 rfl rfl) (allCons (L 46 rfl rfl) (allCons (L 47 rfl rfl) (allCons (L 48 rfl rfl) (allCons (L 49 rfl rfl) (allCons (L 0 rfl rfl) allNil))))))))))))⟩
    ·have h198 := ifF c144 h143
     refine WP.exit ?_
     refine sqE (sqE (blkE (sqN ?_)))
     have h199 := exitS h198 e141
     refine WP.seq ?_
     refine WP.usreg rfl ?_
     refine U.p rfl rfl (.inl rfl) (S.move rfl (L 4 rfl rfl)) ?_
     refine U.p rfl rfl (.inl rfl) (S.lss rfl (L 0 rfl rfl) K) ?_
     refine U.done (nr rfl) ?_
     refine WP.cond _ (L 0 rfl rfl) rfl (fun c200 => ?_) (fun c200 => ?_)
     ·have h201 := ifT c200 h199
      refine WP.seq ?_
      refine WP.usreg rfl ?_
      refine U.p (v := .pointer (some ⟨b122, 0, none⟩)) rfl rfl (.inl rfl) (S.fieldAddr rfl (L 5 rfl rfl) Try.underlying52 rfl ti31 rfl rfl) ?_
      refine U.p (v := .pointer (some ⟨b122, 1, none⟩)) rfl rfl (.inl rfl) (S.fieldAddr rfl (L 0 rfl rfl) Try.underlying31 rfl ti29 rfl rfl) ?_
      refine U.p (v := .pointer (some ⟨b122, 1, none⟩)) rfl rfl (.inl rfl) (S.fieldAddr rfl (L 0 rfl rfl) Try.underlying29 rfl ti3 rfl rfl) ?_
      refine U.k rfl rfl (.inl rfl) (S.load rfl (L 0 rfl rfl) Try.underlying3 rfl ((ow138.own (k := 1) rfl).cell rfl)) nd ?_
      refine U.p rfl rfl (.inl rfl) (S.eqlI rfl (L 0 rfl rfl) K) ?_
      refine U.done (nr rfl) ?_
      refine WP.cond _ (L 0 rfl rfl) rfl (fun c202 => ?_) (fun c202 => ?_)
      ·have h203 := ifT c202 h201
       refine WP.usreg rfl ?_
       refine U.p rfl rfl (.inl rfl) (S.assign rfl K) ?_
       refine U.done (nr rfl) ?_
       refine WP.ret ?_
       refine sqR (sqR (blkR (sqR (sqR (blkR (sqR ?_))))))
       have h204 := exitS h203 e99
       refine fin.slot (.inr rfl) rfl (L 0 rfl rfl) ⟨V136, rfl, (((((le8.trans le22).trans le95).trans le124).trans le128).trans le137), ?_⟩
       have ow205 := ow138.drop 0 rfl
       have ow206 := ow205.drop 0 rfl
       have e207 := Option.some.inj h204
       subst e207
       exact ⟨rfl, ow206⟩
      ·have h208 := ifF c202 h201
       refine WP.skip ?_
       refine sqN ?_
       refine WP.exit ?_
       refine sqE (blkE (sqN ?_))
       have ow209 := ow138.drop 1 rfl
       exact ⟨_, V136, rfl, ⟨rfl, ((le124.trans le128).trans le137), ow209, h208⟩, (allCons (L 8 rfl rfl) (allCons (L 12 rfl rfl) (allCons (L 13 rfl rfl) (allCons (L 14 rfl rfl) allNil))))⟩
     ·have h210 := ifF c200 h199
      refine WP.skip ?_
      refine sqN ?_
      refine WP.seq ?_
      refine WP.seqI (fun l V' => ∃ (x211 : Bool), l = [(3, v14), (6, .int .i64 x90), (35, v14), (36, .int .i64 (xs15.length : Int)), (37, .int .i64 x90), (118, .bool x211)] ∧ V136.le V' ∧ Ow V' (.os RT_Tref21_Node v14 xs15 :: Rs) ∧ ref21_Apart_k5 x90 x211 = some q98) ?_ ?_
      ·rintro _ V212 ⟨x211, rfl, le213, ow214, h215⟩
       unfold ref21_Apart_k5 at h215
       refine WP.cond _ (L 5 rfl rfl) rfl (fun c216 => ?_) (fun c216 => ?_)
       ·have h217 := ifT c216 h215
        refine WP.usreg rfl ?_
        refine U.p rfl rfl (.inl rfl) (S.assign rfl K) ?_
        refine U.done (nr rfl) ?_
        refine WP.ret ?_
        refine sqR (blkR (sqR (sqR (blkR (sqR ?_)))))
        have h218 := exitS h217 e99
        refine fin.slot (.inr rfl) rfl (L 0 rfl rfl) ⟨V212, rfl, ((((((le8.trans le22).trans le95).trans le124).trans le128).trans le137).trans le213), ?_⟩
        have ow219 := ow214.drop 0 rfl
        have e220 := Option.some.inj h218
        subst e220
        exact ⟨rfl, ow219⟩
       ·have h221 := ifF c216 h215
        refine WP.skip ?_
        refine sqN ?_
        refine WP.ureg rfl ?_
        refine U.p rfl rfl (.inl rfl) (S.move rfl (L 1 rfl rfl)) ?_
        refine U.done (nr rfl) ?_
        refine blkN (sqN ?_)
        exact ⟨_, V212, rfl, ⟨rfl, (((le124.trans le128).trans le137).trans le213), ow214, h221⟩, (allCons (L 1 rfl rfl) (allCons (L 3 rfl rfl) (allCons (L 4 rfl rfl) (allCons (L 5 rfl rfl) allNil))))⟩
      ·skip
       refine WP.udreg rfl rfl rfl ?_
       refine U.p rfl rfl (.inl rfl) (S.move rfl (L 3 rfl rfl)) ?_
       refine U.p rfl rfl (.inl rfl) (S.move rfl (L 7 rfl rfl)) ?_
       obtain ⟨x222, hx223, h224⟩ := bindS h210
       obtain ⟨_, hv225, _⟩ := ow138.osel (k := 0) rfl hv115 hx223
       refine U.p rfl rfl (.inl rfl) (S.index rfl ((L 1 rfl rfl).trans hv225) (L 0 rfl rfl) Try.underlying47 ti52 (ix_ge hx223) (ix_lt hx223)) ?_
       refine U.p (v := .pointer (some ⟨b111, o112 + Int.toNat x130 * 10, none⟩)) rfl rfl (.inl rfl) (S.fieldAddr rfl (L 0 rfl rfl) Try.underlying52 rfl ti31 rfl rfl) ?_
       refine U.p (v := .pointer (some ⟨b111, o112 + Int.toNat x130 * 10, none⟩)) rfl rfl (.inl rfl) (S.fieldAddr rfl (L 0 rfl rfl) Try.underlying31 rfl ti3 rfl rfl) ?_
       obtain ⟨cs226, hv227, hlt228, hr229, hc230⟩ := ow138.osel (k := 0) rfl hv115 hx223
       obtain rfl : cs226 = [.int .i64 x222.e.t, .int .i64 x222.e.act.kind, .int .i64 x222.e.act.at_, .int .i64 x222.e.act.val, .int .i64 x222.e.act.what, .bool x222.e.act.volatile, .bool x222.e.act.final, .int .i64 x222.e.rf, .int .i64 x222.e.id, .int .i64 x222.at_] := hr229
       refine U.k rfl rfl (.inl rfl) (S.load rfl (L 0 rfl rfl) Try.underlying3 rfl (hc230 0 _ rfl)) (fun _ => (okH.nil (fun r h => by cases h; exact hlt228))) ?_
       refine U.p (v := .pointer (some ⟨b122, 0, none⟩)) rfl rfl (.inl rfl) (S.fieldAddr rfl (L 11 rfl rfl) Try.underlying52 rfl ti31 rfl rfl) ?_
       refine U.p (v := .pointer (some ⟨b122, 0, none⟩)) rfl rfl (.inl rfl) (S.fieldAddr rfl (L 0 rfl rfl) Try.underlying31 rfl ti3 rfl rfl) ?_
       refine U.k rfl rfl (.inl rfl) (S.load rfl (L 0 rfl rfl) Try.underlying3 rfl ((ow138.own (k := 1) rfl).cell rfl)) (fun _ => (okH.cons trivial (okH.nil (fun r h => by cases h; exact (ow138.own (k := 1) rfl).lt)))) ?_
       refine U.p rfl rfl (.inl rfl) (S.neqI rfl (L 3 rfl rfl) (L 0 rfl rfl)) ?_
       refine U.p rfl rfl (.inl rfl) (S.move rfl (L 0 rfl rfl)) ?_
       refine bcase (b := decide (x222.e.t ≠ x108.e.t)) (fun g231 => ?_) (fun g231 => ?_)
       ·have h232 := ifT g231 h224
        refine U.p rfl rfl (.inr ⟨_, _, _, rfl, rfl, ((L 0 rfl rfl).trans (congrArg Value.bool g231))⟩) (S.move rfl (L 14 rfl rfl)) ?_
        refine U.p rfl rfl (.inr ⟨_, _, _, rfl, rfl, ((L 1 rfl rfl).trans (congrArg Value.bool g231))⟩) (S.move rfl (L 18 rfl rfl)) ?_
        obtain ⟨x233, hx234, h235⟩ := bindS h232
        obtain ⟨_, hv236, _⟩ := ow138.osel (k := 0) rfl hv115 hx234
        refine U.p rfl rfl (.inr ⟨_, _, _, rfl, rfl, ((L 2 rfl rfl).trans (congrArg Value.bool g231))⟩) (S.index rfl ((L 1 rfl rfl).trans hv236) (L 0 rfl rfl) Try.underlying47 ti52 (ix_ge hx234) (ix_lt hx234)) ?_
        refine U.p (v := .pointer (some ⟨b111, o112 + Int.toNat x130 * 10, none⟩)) rfl rfl (.inr ⟨_, _, _, rfl, rfl, ((L 3 rfl rfl).trans (congrArg Value.bool g231))⟩) (S.fieldAddr rfl (L 0 rfl rfl) Try.underlying52 rfl ti31 rfl rfl) ?_
        refine U.p (v := .pointer (some ⟨b111, o112 + Int.toNat x130 * 10 + 1, none⟩)) rfl rfl (.inr ⟨_, _, _, rfl, rfl, ((L 4 rfl rfl).trans (congrArg Value.bool g231))⟩) (S.fieldAddr rfl (L 0 rfl rfl) Try.underlying31 rfl ti29 rfl rfl) ?_
        refine U.p (v := .pointer (some ⟨b111, o112 + Int.toNat x130 * 10 + 3, none⟩)) rfl rfl (.inr ⟨_, _, _, rfl, rfl, ((L 5 rfl rfl).trans (congrArg Value.bool g231))⟩) (S.fieldAddr rfl (L 0 rfl rfl) Try.underlying29 rfl ti3 rfl rfl) ?_
        obtain ⟨cs237, hv238, hlt239, hr240, hc241⟩ := ow138.osel (k := 0) rfl hv115 hx234
        obtain rfl : cs237 = [.int .i64 x233.e.t, .int .i64 x233.e.act.kind, .int .i64 x233.e.act.at_, .int .i64 x233.e.act.val, .int .i64 x233.e.act.what, .bool x233.e.act.volatile, .bool x233.e.act.final, .int .i64 x233.e.rf, .int .i64 x233.e.id, .int .i64 x233.at_] := hr240
        refine U.k rfl rfl (.inr ⟨_, _, _, rfl, rfl, ((L 6 rfl rfl).trans (congrArg Value.bool g231))⟩) (S.load rfl (L 0 rfl rfl) Try.underlying3 rfl (hc241 3 _ rfl)) (fun _ => (okH.cons trivial (okH.cons trivial (okH.nil (fun r h => by cases h; exact hlt239))))) ?_
        refine U.p rfl rfl (.inr ⟨_, _, _, rfl, rfl, ((L 7 rfl rfl).trans (congrArg Value.bool g231))⟩) (S.neqI rfl (L 0 rfl rfl) K) ?_
        refine U.p rfl rfl (.inr ⟨_, _, _, rfl, rfl, ((L 8 rfl rfl).trans (congrArg Value.bool g231))⟩) (S.move rfl (L 0 rfl rfl)) ?_
        refine bcase (b := decide (x233.e.act.val ≠ 0)) (fun g242 => ?_) (fun g242 => ?_)
        ·have h243 := ifT g242 h235
         refine U.x rfl rfl rfl rfl ((L 0 rfl rfl).trans (congrArg Value.bool g242)) (by decide) ?_
         refine U.x rfl rfl rfl rfl ((L 1 rfl rfl).trans (congrArg Value.bool g242)) (by decide) ?_
         refine U.x rfl rfl rfl rfl ((L 2 rfl rfl).trans (congrArg Value.bool g242)) (by decide) ?_
         refine U.x rfl rfl rfl rfl ((L 3 rfl rfl).trans (congrArg Value.bool g242)) (by decide) ?_
         refine U.x rfl rfl rfl rfl ((L 4 rfl rfl).trans (congrArg Value.bool g242)) (by decide) ?_
         refine U.p rfl rfl (.inr ⟨_, _, _, rfl, rfl, ((L 14 rfl rfl).trans (congrArg Value.bool g231))⟩) (S.pickT rfl ((L 5 rfl rfl).trans (congrArg Value.bool g242)) K) ?_
         refine U.p rfl rfl (.inl rfl) (S.pickT rfl ((L 15 rfl rfl).trans (congrArg Value.bool g231)) (L 0 rfl rfl)) ?_
         refine U.done (nr rfl) ?_
         refine sqN ?_
         have ow244 := ow138.drop 1 rfl
         exact ⟨_, V136, rfl, ⟨true, rfl, (.refl _), ow244, h243⟩, (allCons (L 30 rfl rfl) (allCons (L 31 rfl rfl) (allCons (L 34 rfl rfl) (allCons (L 35 rfl rfl) (allCons (L 36 rfl rfl) (allCons (L 0 rfl rfl) allNil))))))⟩
        ·have h245 := ifF g242 h235
         refine U.p (v := .pointer (some ⟨b122, 0, none⟩)) rfl rfl (.inr ⟨_, _, _, rfl, rfl, ((L 0 rfl rfl).trans (congrArg Value.bool g242))⟩) (S.fieldAddr rfl (L 25 rfl rfl) Try.underlying52 rfl ti31 rfl rfl) ?_
         refine U.p (v := .pointer (some ⟨b122, 1, none⟩)) rfl rfl (.inr ⟨_, _, _, rfl, rfl, ((L 1 rfl rfl).trans (congrArg Value.bool g242))⟩) (S.fieldAddr rfl (L 0 rfl rfl) Try.underlying31 rfl ti29 rfl rfl) ?_
         refine U.p (v := .pointer (some ⟨b122, 1, none⟩)) rfl rfl (.inr ⟨_, _, _, rfl, rfl, ((L 2 rfl rfl).trans (congrArg Value.bool g242))⟩) (S.fieldAddr rfl (L 0 rfl rfl) Try.underlying29 rfl ti3 rfl rfl) ?_
         refine U.k rfl rfl (.inr ⟨_, _, _, rfl, rfl, ((L 3 rfl rfl).trans (congrArg Value.bool g242))⟩) (S.load rfl (L 0 rfl rfl) Try.underlying3 rfl ((ow138.own (k := 1) rfl).cell rfl)) (fun _ => (okH.cons trivial (okH.cons trivial (okH.cons trivial (okH.nil (fun r h => by cases h; exact (ow138.own (k := 1) rfl).lt)))))) ?_
         refine U.p rfl rfl (.inr ⟨_, _, _, rfl, rfl, ((L 4 rfl rfl).trans (congrArg Value.bool g242))⟩) (S.eqlI rfl (L 0 rfl rfl) K) ?_
         refine U.p rfl rfl (.inr ⟨_, _, _, rfl, rfl, ((L 14 rfl rfl).trans (congrArg Value.bool g231))⟩) (S.pickF rfl ((L 5 rfl rfl).trans (congrArg Value.bool g242)) (L 0 rfl rfl)) ?_
         refine U.p rfl rfl (.inl rfl) (S.pickT rfl ((L 15 rfl rfl).trans (congrArg Value.bool g231)) (L 0 rfl rfl)) ?_
         refine U.done (nr rfl) ?_
         refine sqN ?_
         have ow246 := ow138.drop 1 rfl
         exact ⟨_, V136, rfl, ⟨decide (x108.e.act.kind = 6), rfl, (.refl _), ow246, h245⟩, (allCons (L 30 rfl rfl) (allCons (L 31 rfl rfl) (allCons (L 34 rfl rfl) (allCons (L 35 rfl rfl) (allCons (L 36 rfl rfl) (allCons (L 0 rfl rfl) allNil))))))⟩
       ·have h247 := ifF g231 h224
        refine U.x rfl rfl rfl rfl ((L 0 rfl rfl).trans (congrArg Value.bool g231)) (by decide) ?_
        refine U.x rfl rfl rfl rfl ((L 1 rfl rfl).trans (congrArg Value.bool g231)) (by decide) ?_
        refine U.x rfl rfl rfl rfl ((L 2 rfl rfl).trans (congrArg Value.bool g231)) (by decide) ?_
        refine U.x rfl rfl rfl rfl ((L 3 rfl rfl).trans (congrArg Value.bool g231)) (by decide) ?_
        refine U.x rfl rfl rfl rfl ((L 4 rfl rfl).trans (congrArg Value.bool g231)) (by decide) ?_
        refine U.x rfl rfl rfl rfl ((L 5 rfl rfl).trans (congrArg Value.bool g231)) (by decide) ?_
        refine U.x rfl rfl rfl rfl ((L 6 rfl rfl).trans (congrArg Value.bool g231)) (by decide) ?_
        refine U.x rfl rfl rfl rfl ((L 7 rfl rfl).trans (congrArg Value.bool g231)) (by decide) ?_
        refine U.x rfl rfl rfl rfl ((L 8 rfl rfl).trans (congrArg Value.bool g231)) (by decide) ?_
        refine U.z rfl rfl rfl rfl (L 0 rfl rfl) ?_
        refine U.z rfl rfl rfl rfl (L 1 rfl rfl) ?_
        refine U.z rfl rfl rfl rfl (L 2 rfl rfl) ?_
        refine U.z rfl rfl rfl rfl (L 3 rfl rfl) ?_
        refine U.z rfl rfl rfl rfl (L 4 rfl rfl) ?_
        refine U.x rfl rfl rfl rfl ((L 14 rfl rfl).trans (congrArg Value.bool g231)) (by decide) ?_
        refine U.p rfl rfl (.inl rfl) (S.pickF rfl ((L 15 rfl rfl).trans (congrArg Value.bool g231)) K) ?_
        refine U.done (nr rfl) ?_
        refine sqN ?_
        have ow248 := ow138.drop 1 rfl
        exact ⟨_, V136, rfl, ⟨false, rfl, (.refl _), ow248, h247⟩, (allCons (L 30 rfl rfl) (allCons (L 31 rfl rfl) (allCons (L 34 rfl rfl) (allCons (L 35 rfl rfl) (allCons (L 36 rfl rfl) (allCons (L 0 rfl rfl) allNil))))))⟩
  ·have h249 := ifF c102 h101
   refine WP.exit ?_
   refine sqE (sqE (blkE (sqN ?_)))
   have h250 := exitS h249 e99
   refine WP.usreg rfl ?_
   refine U.p rfl rfl (.inl rfl) (S.assign rfl K) ?_
   refine U.done (nr rfl) ?_
   refine WP.ret ?_
   refine fin.slot (.inr rfl) rfl (L 0 rfl rfl) ⟨V94, rfl, ((le8.trans le22).trans le95), ?_⟩
   have ow251 := ow96.drop 0 rfl
   have e252 := Option.some.inj h250
   subst e252
   exact ⟨rfl, ow251⟩
set_option maxHeartbeats 4000000 in
set_option maxRecDepth 10000 in
theorem wk_law21_OrderApart (V : Vw) (Rs : List At) (p0 : List (List TEvent)) (v1 : Value) (f2 : Fz (RT.sl RT_TEvent) V v1 p0) (ow : Ow V (Rs)) (r : Bool) (h : law21_OrderApart p0 = some r) : ∃ v V', Cl Try.prog 0 6 #[v1] V.H v V'.H ∧ V.le V' ∧ (v = .bool r ∧ Ow V' (Rs)) := by
 refine Ct.of (Nat.zero_le _) Try.func6 rfl (nr rfl) ?_
 unfold law21_OrderApart at h
 refine WP.usreg rfl ?_
 refine U.p rfl rfl (.inl rfl) (S.assign rfl K) ?_
 refine U.done (nr rfl) ?_
 refine WP.seq ?_
 refine WP.usreg rfl ?_
 obtain ⟨x3, hx4, h5⟩ := bindS h
 refine O.call (V := V) rfl rfl (.inl rfl) rfl en8 aN (wk_law21_alive V _ ow _ hx4) (fun _ _ _ _ => nd) (fun v6 V7 le8 hp9 => ?_)
 obtain ⟨rfl, ow10⟩ := hp9
 refine U.p rfl rfl (.inl rfl) (S.not rfl (L 0 rfl rfl)) ?_
 refine U.done (nr rfl) ?_
 refine WP.cond _ (L 0 rfl rfl) rfl (fun c11 => ?_) (fun c11 => ?_)
 ·have h12 := ifT c11 h5
  have k13 : x3 = false := by simpa using c11
  refine WP.usreg rfl ?_
  refine U.p rfl rfl (.inl rfl) (S.assign rfl K) ?_
  refine U.done (nr rfl) ?_
  refine WP.ret ?_
  refine sqR ?_
  refine fin.slot (.inr rfl) rfl (L 0 rfl rfl) ⟨V7, rfl, le8, ?_⟩
  have e14 := Option.some.inj h12
  subst e14
  exact ⟨rfl, ow10⟩
 ·have h15 := ifF c11 h5
  have k16 : x3 = true := by simpa using c11
  refine WP.skip ?_
  refine sqN ?_
  refine WP.seq ?_
  refine WP.usreg rfl ?_
  refine U.p rfl rfl (.inl rfl) (S.move rfl (L 3 rfl rfl)) ?_
  have f17 := f2.up le8
  obtain ⟨x18, hx19, h20⟩ := bindS h15
  refine O.call (V := V7) rfl rfl (.inl rfl) rfl en9 (aC (L 0 rfl rfl) aN) (wk_law21_great V7 _ p0 v1 f17 ow10 _ hx19) (fun _ _ _ _ => nd) (fun v21 V22 le23 hp24 => ?_)
  obtain ⟨rfl, ow25⟩ := hp24
  refine U.p rfl rfl (.inl rfl) (S.move rfl (L 0 rfl rfl)) ?_
  obtain ⟨y26, hy27, h28⟩ := bindS h20
  refine U.joinX 7 (fun e H => ∃ (u29 u30 u31 : Value), ∃ V' : Vw, H = V'.H ∧ V22.le V' ∧ e = [(15, .bool y26), (14, u29), (13, u30), (12, u31)] ∧ Ow V' (Rs)) ?_ ?_
  ·rintro _ _ ⟨u29, u30, u31, V32, rfl, le33, rfl, ow34⟩
   refine U.done (nr rfl) ?_
   refine WP.cond _ (L 0 rfl rfl) rfl (fun c35 => ?_) (fun c35 => ?_)
   ·have h36 := ifT c35 h28
    refine WP.usreg rfl ?_
    refine U.p rfl rfl (.inl rfl) (S.assign rfl K) ?_
    refine U.done (nr rfl) ?_
    refine WP.ret ?_
    refine sqR ?_
    refine fin.slot (.inr rfl) rfl (L 0 rfl rfl) ⟨V32, rfl, ((le8.trans le23).trans le33), ?_⟩
    have e37 := Option.some.inj h36
    subst e37
    exact ⟨rfl, ow34⟩
   ·have h38 := ifF c35 h28
    refine WP.skip ?_
    refine sqN ?_
    refine WP.seq ?_
    refine WP.usreg rfl ?_
    refine U.p rfl rfl (.inl rfl) (S.move rfl (L 10 rfl rfl)) ?_
    refine U.p rfl rfl (.inl rfl) (f17.1.len rfl (L 0 rfl rfl) Try.underlying22) ?_
    refine U.p rfl rfl (.inl rfl) (S.move rfl K) ?_
    refine U.done (nr rfl) ?_
    refine WP.blk ?_
    unfold law21_OrderApart_l1 at h38
    obtain ⟨n41, hn40⟩ := loopO_some.1 h38
    refine WP.loopI2 (fun n l V' => ∃ (x39 : Int), l = [(0, v1), (16, v1), (17, .int .i64 (p0.length : Int)), (18, .int .i64 x39)] ∧ V32.le V' ∧ Ow V' (Rs) ∧ itO (fun s => law21_OrderApart_l1b p0 s) n x39 = some r) n41 _ ⟨0, rfl, .refl _, ow34, hn40⟩ (allCons (L 13 rfl rfl) (allCons (L 2 rfl rfl) (allCons (L 1 rfl rfl) (allCons (L 0 rfl rfl) allNil)))) ?_
    rintro _ _ V42 ⟨x39, rfl, le43, ow44, h48⟩
    obtain ⟨m45, q46, rfl, h49, e47⟩ := itS h48
    replace h49 : law21_OrderApart_l1b p0 x39 = some q46 := h49
    unfold law21_OrderApart_l1b at h49
    refine WP.usreg rfl ?_
    refine U.p rfl rfl (.inl rfl) (S.lss rfl (L 3 rfl rfl) (L 2 rfl rfl)) ?_
    refine U.done (nr rfl) ?_
    refine WP.seq ?_
    refine WP.cond _ (L 0 rfl rfl) rfl (fun c50 => ?_) (fun c50 => ?_)
    ·have h51 := ifT c50 h49
     refine WP.skip ?_
     refine sqN ?_
     refine WP.seq ?_
     refine WP.blk ?_
     refine WP.usreg rfl ?_
     obtain ⟨x52, hx53, h54⟩ := bindS h51
     obtain ⟨b55, o56, c57, cs58, hv59, hf60, hr61, hc62⟩ := f17.at hx53
     obtain ⟨v63, rfl, f64⟩ := hr61
     refine U.p rfl rfl (.inl rfl) (S.index rfl ((L 2 rfl rfl).trans hv59) (L 4 rfl rfl) Try.underlying22 ti27 (ix_ge hx53) (ix_lt hx53)) ?_
     refine U.k rfl rfl (.inl rfl) (S.load rfl (L 0 rfl rfl) Try.underlying27 rfl (((le23.trans le33).trans le43).cell hf60 (hc62 0 _ rfl))) nd ?_
     refine U.p rfl rfl (.inl rfl) (S.assign rfl (L 0 rfl rfl)) ?_
     refine U.done (nr rfl) ?_
     refine WP.usreg rfl ?_
     refine U.p rfl rfl (.inl rfl) (S.move rfl (L 0 rfl rfl)) ?_
     refine U.p rfl rfl (.inl rfl) (f64.1.len rfl (L 0 rfl rfl) Try.underlying27) ?_
     refine U.p rfl rfl (.inl rfl) (S.move rfl K) ?_
     refine U.done (nr rfl) ?_
     refine WP.blk ?_
     unfold law21_OrderApart_l2 at h54
     obtain ⟨n67, hn66⟩ := loopO_some.1 h54
     refine WP.loopI2 (fun n l V' => ∃ (x65 : Int), l = [(0, v1), (16, v1), (17, .int .i64 (p0.length : Int)), (18, .int .i64 x39), (22, v63), (23, .int .i64 (x52.length : Int)), (24, .int .i64 x65)] ∧ V42.le V' ∧ Ow V' (Rs) ∧ itO (fun s => law21_OrderApart_l2b x39 x52 s) n x65 = some q46) n67 _ ⟨0, rfl, .refl _, ow44, hn66⟩ (allCons (L 7 rfl rfl) (allCons (L 8 rfl rfl) (allCons (L 9 rfl rfl) (allCons (L 10 rfl rfl) (allCons (L 2 rfl rfl) (allCons (L 1 rfl rfl) (allCons (L 0 rfl rfl) allNil))))))) ?_
     rintro _ _ V68 ⟨x65, rfl, le69, ow70, h74⟩
     obtain ⟨m71, q72, rfl, h75, e73⟩ := itS h74
     replace h75 : law21_OrderApart_l2b x39 x52 x65 = some q72 := h75
     unfold law21_OrderApart_l2b at h75
     refine WP.usreg rfl ?_
     refine U.p rfl rfl (.inl rfl) (S.lss rfl (L 6 rfl rfl) (L 5 rfl rfl)) ?_
     refine U.done (nr rfl) ?_
     refine WP.seq ?_
     refine WP.cond _ (L 0 rfl rfl) rfl (fun c76 => ?_) (fun c76 => ?_)
     ·have h77 := ifT c76 h75
      refine WP.skip ?_
      refine sqN ?_
      refine WP.seq ?_
      refine WP.blk ?_
      refine WP.usreg rfl ?_
      obtain ⟨x78, hx79, h80⟩ := bindS h77
      obtain ⟨b81, o82, c83, cs84, hv85, hf86, hr87, hc88⟩ := f64.at hx79
      obtain rfl : cs84 = [.int .i64 x78.t, .int .i64 x78.act.kind, .int .i64 x78.act.at_, .int .i64 x78.act.val, .int .i64 x78.act.what, .bool x78.act.volatile, .bool x78.act.final, .int .i64 x78.rf, .int .i64 x78.id] := hr87
      refine U.p rfl rfl (.inl rfl) (S.index rfl ((L 5 rfl rfl).trans hv85) (L 7 rfl rfl) Try.underlying27 ti31 (ix_ge hx79) (ix_lt hx79)) ?_
      refine U.k rfl rfl (.inl rfl) (S.loadN (cs := [.int .i64 x78.t, .int .i64 x78.act.kind, .int .i64 x78.act.at_, .int .i64 x78.act.val, .int .i64 x78.act.what, .bool x78.act.volatile, .bool x78.act.final, .int .i64 x78.rf, .int .i64 x78.id]) rfl (L 0 rfl rfl) Try.underlying31 rfl ti31 rfl (fun j v hj => (((le23.trans le33).trans le43).trans le69).cell hf86 (hc88 j v hj))) nd ?_
      refine O.alloc ow70 rfl rfl (.inl rfl) rfl ti31 rfl rfl nd (fun b89 V90 le91 ow92 => ?_)
      refine O.store (k := 0) (cs := [.int .i64 x78.t, .int .i64 x78.act.kind, .int .i64 x78.act.at_, .int .i64 x78.act.val, .int .i64 x78.act.what, .bool x78.act.volatile, .bool x78.act.final, .int .i64 x78.rf, .int .i64 x78.id]) (c' := [.int .i64 x78.t, .int .i64 x78.act.kind, .int .i64 x78.act.at_, .int .i64 x78.act.val, .int .i64 x78.act.what, .bool x78.act.volatile, .bool x78.act.final, .int .i64 x78.rf, .int .i64 x78.id]) ow92 rfl rfl rfl (.inl rfl) rfl (L 0 rfl rfl) (L 1 rfl rfl) ti31 (by simp [topV]) rfl rfl (nr rfl) rfl rfl nd (fun V94 le95 ow96 => ?_)
      refine U.done (nr rfl) ?_
      refine WP.usreg rfl ?_
      refine U.p (v := .pointer (some ⟨b89, 1, none⟩)) rfl rfl (.inl rfl) (S.fieldAddr rfl (L 0 rfl rfl) Try.underlying31 rfl ti29 rfl rfl) ?_
      refine U.p (v := .pointer (some ⟨b89, 1, none⟩)) rfl rfl (.inl rfl) (S.fieldAddr rfl (L 0 rfl rfl) Try.underlying29 rfl ti3 rfl rfl) ?_
      refine U.k rfl rfl (.inl rfl) (S.load rfl (L 0 rfl rfl) Try.underlying3 rfl ((ow96.own (k := 0) rfl).cell rfl)) nd ?_
      refine U.p rfl rfl (.inl rfl) (S.eqlI rfl (L 0 rfl rfl) K) ?_
      refine U.p rfl rfl (.inl rfl) (S.move rfl (L 0 rfl rfl)) ?_
      refine U.joinX 10 (fun e H => ∃ (u97 u98 u99 u100 : Value), H = V94.H ∧ e = [(37, .bool ((decide (x78.act.kind = 5)) || (decide (x78.act.kind = 6)))), (36, u97), (35, u98), (34, u99), (33, u100)]) ?_ ?_
      ·rintro _ _ ⟨u97, u98, u99, u100, rfl, rfl⟩
       refine U.p rfl rfl (.inl rfl) (S.move rfl (L 0 rfl rfl)) ?_
       refine U.joinX 15 (fun e H => ∃ (u104 u105 u106 : Value), H = V94.H ∧ e = [(42, .bool (((decide (x78.act.kind = 5)) || (decide (x78.act.kind = 6))) && (decide (x78.id = 0)))), (41, u104), (40, u105), (39, u106)]) ?_ ?_
       ·rintro _ _ ⟨u104, u105, u106, rfl, rfl⟩
        refine U.done (nr rfl) ?_
        refine WP.cond _ (L 0 rfl rfl) rfl (fun c110 => ?_) (fun c110 => ?_)
        ·have h111 := ifT c110 h80
         refine WP.usreg rfl ?_
         refine U.p rfl rfl (.inl rfl) (S.assign rfl K) ?_
         refine U.done (nr rfl) ?_
         refine WP.ret ?_
         refine blkR (sqR (sqR (blkR (blkR (sqR (sqR (blkR (sqR ?_))))))))
         have h112 := exitS h111 e73
         have h113 := exitS h112 e47
         refine fin.slot (.inr rfl) rfl (L 0 rfl rfl) ⟨V94, rfl, ((((((le8.trans le23).trans le33).trans le43).trans le69).trans le91).trans le95), ?_⟩
         have ow114 := ow96.drop 0 rfl
         have e115 := Option.some.inj h113
         subst e115
         exact ⟨rfl, ow114⟩
        ·have h116 := ifF c110 h80
         refine WP.skip ?_
         refine blkN (sqN ?_)
         refine WP.ureg rfl ?_
         refine U.p rfl rfl (.inl rfl) (S.add rfl (L 25 rfl rfl) K) ?_
         refine U.p rfl rfl (.inl rfl) (S.move rfl (L 0 rfl rfl)) ?_
         refine U.done (nr rfl) ?_
         refine sqN ?_
         have ow117 := ow96.drop 0 rfl
         exact ⟨_, V94, rfl, ⟨m71, Nat.lt_succ_self _, w64 (x65 + 1), rfl, ((le69.trans le91).trans le95), ow117, backS h116 e73⟩, (allCons (L 21 rfl rfl) (allCons (L 22 rfl rfl) (allCons (L 23 rfl rfl) (allCons (L 24 rfl rfl) (allCons (L 25 rfl rfl) (allCons (L 26 rfl rfl) (allCons (L 0 rfl rfl) allNil)))))))⟩
       ·intro kk
        refine bcase (b := (decide (x78.act.kind = 5)) || (decide (x78.act.kind = 6))) (fun g118 => ?_) (fun g118 => ?_)
        ·skip
         refine U.p (v := .pointer (some ⟨b89, 8, none⟩)) rfl rfl (.inr ⟨_, _, _, rfl, rfl, ((L 0 rfl rfl).trans (congrArg Value.bool g118))⟩) (S.fieldAddr rfl (L 11 rfl rfl) Try.underlying31 rfl ti3 rfl rfl) ?_
         refine U.k rfl rfl (.inr ⟨_, _, _, rfl, rfl, ((L 1 rfl rfl).trans (congrArg Value.bool g118))⟩) (S.load rfl (L 0 rfl rfl) Try.underlying3 rfl ((ow96.own (k := 0) rfl).cell rfl)) nd ?_
         refine U.p rfl rfl (.inr ⟨_, _, _, rfl, rfl, ((L 2 rfl rfl).trans (congrArg Value.bool g118))⟩) (S.eqlI rfl (L 0 rfl rfl) K) ?_
         refine U.p rfl rfl (.inl rfl) (S.pickT rfl ((L 3 rfl rfl).trans (congrArg Value.bool g118)) (L 0 rfl rfl)) ?_
         exact kk [(42, .bool (decide (x78.id = 0))), (41, .bool (decide (x78.id = 0))), (40, .int .i64 x78.id), (39, .pointer (some ⟨b89, 8, none⟩))] _ ⟨.bool (decide (x78.id = 0)), .int .i64 x78.id, .pointer (some ⟨b89, 8, none⟩), rfl, (by rw [g118, Bool.true_and])⟩
        ·skip
         refine U.x rfl rfl rfl rfl ((L 0 rfl rfl).trans (congrArg Value.bool g118)) (by decide) ?_
         refine U.x rfl rfl rfl rfl ((L 1 rfl rfl).trans (congrArg Value.bool g118)) (by decide) ?_
         refine U.x rfl rfl rfl rfl ((L 2 rfl rfl).trans (congrArg Value.bool g118)) (by decide) ?_
         refine U.p rfl rfl (.inl rfl) (S.pickF rfl ((L 3 rfl rfl).trans (congrArg Value.bool g118)) K) ?_
         exact kk [(42, .bool false), (41, .tuple #[]), (40, .tuple #[]), (39, .tuple #[])] _ ⟨.tuple #[], .tuple #[], .tuple #[], rfl, (by rw [g118, Bool.false_and])⟩
      ·intro kk
       refine bcase (b := decide (x78.act.kind = 5)) (fun g119 => ?_) (fun g119 => ?_)
       ·skip
        refine U.x rfl rfl rfl rfl ((L 0 rfl rfl).trans (congrArg Value.bool g119)) (by decide) ?_
        refine U.x rfl rfl rfl rfl ((L 1 rfl rfl).trans (congrArg Value.bool g119)) (by decide) ?_
        refine U.x rfl rfl rfl rfl ((L 2 rfl rfl).trans (congrArg Value.bool g119)) (by decide) ?_
        refine U.x rfl rfl rfl rfl ((L 3 rfl rfl).trans (congrArg Value.bool g119)) (by decide) ?_
        refine U.p rfl rfl (.inl rfl) (S.pickT rfl ((L 4 rfl rfl).trans (congrArg Value.bool g119)) K) ?_
        exact kk [(37, .bool true), (36, .tuple #[]), (35, .tuple #[]), (34, .tuple #[]), (33, .tuple #[])] _ ⟨.tuple #[], .tuple #[], .tuple #[], .tuple #[], rfl, (by rw [g119, Bool.true_or])⟩
       ·skip
        refine U.p (v := .pointer (some ⟨b89, 1, none⟩)) rfl rfl (.inr ⟨_, _, _, rfl, rfl, ((L 0 rfl rfl).trans (congrArg Value.bool g119))⟩) (S.fieldAddr rfl (L 5 rfl rfl) Try.underlying31 rfl ti29 rfl rfl) ?_
        refine U.p (v := .pointer (some ⟨b89, 1, none⟩)) rfl rfl (.inr ⟨_, _, _, rfl, rfl, ((L 1 rfl rfl).trans (congrArg Value.bool g119))⟩) (S.fieldAddr rfl (L 0 rfl rfl) Try.underlying29 rfl ti3 rfl rfl) ?_
        refine U.k rfl rfl (.inr ⟨_, _, _, rfl, rfl, ((L 2 rfl rfl).trans (congrArg Value.bool g119))⟩) (S.load rfl (L 0 rfl rfl) Try.underlying3 rfl ((ow96.own (k := 0) rfl).cell rfl)) nd ?_
        refine U.p rfl rfl (.inr ⟨_, _, _, rfl, rfl, ((L 3 rfl rfl).trans (congrArg Value.bool g119))⟩) (S.eqlI rfl (L 0 rfl rfl) K) ?_
        refine U.p rfl rfl (.inl rfl) (S.pickF rfl ((L 4 rfl rfl).trans (congrArg Value.bool g119)) (L 0 rfl rfl)) ?_
        exact kk [(37, .bool (decide (x78.act.kind = 6))), (36, .bool (decide (x78.act.kind = 6))), (35, .int .i64 x78.act.kind), (34, .pointer (some ⟨b89, 1, none⟩)), (33, .pointer (some ⟨b89, 1, none⟩))] _ ⟨.bool (decide (x78.act.kind = 6)), .int .i64 x78.act.kind, .pointer (some ⟨b89, 1, none⟩), .pointer (some ⟨b89, 1, none⟩), rfl, (by rw [g119, Bool.false_or])⟩
     ·have h120 := ifF c76 h75
      refine WP.exit ?_
      refine sqE (sqE (blkE (blkN (sqN ?_))))
      have h121 := exitS h120 e73
      refine WP.ureg rfl ?_
      refine U.p rfl rfl (.inl rfl) (S.add rfl (L 4 rfl rfl) K) ?_
      refine U.p rfl rfl (.inl rfl) (S.move rfl (L 0 rfl rfl)) ?_
      refine U.done (nr rfl) ?_
      refine sqN ?_
      exact ⟨_, V68, rfl, ⟨m45, Nat.lt_succ_self _, w64 (x39 + 1), rfl, (le43.trans le69), ow70, backS h121 e47⟩, (allCons (L 3 rfl rfl) (allCons (L 4 rfl rfl) (allCons (L 5 rfl rfl) (allCons (L 0 rfl rfl) allNil))))⟩
    ·have h122 := ifF c50 h49
     refine WP.exit ?_
     refine sqE (sqE (blkE (sqN ?_)))
     have h123 := exitS h122 e47
     refine WP.usreg rfl ?_
     refine U.p rfl rfl (.inl rfl) (S.move rfl (L 1 rfl rfl)) ?_
     have f124 := f17.up ((le23.trans le33).trans le43)
     obtain ⟨x125, hx126, h127⟩ := bindS h123
     refine O.call (V := V42) rfl rfl (.inl rfl) rfl en19 (aC (L 0 rfl rfl) aN) (wk_order_Run_Apart V42 _ p0 v1 f124 ow44 _ hx126) (fun _ _ _ _ => nd) (fun v128 V129 le130 hp131 => ?_)
     obtain ⟨rfl, ow132⟩ := hp131
     refine U.p rfl rfl (.inl rfl) (S.move rfl (L 3 rfl rfl)) ?_
     have f133 := f124.up le130
     obtain ⟨x134, hx135, h136⟩ := bindS h127
     refine O.call (V := V129) rfl rfl (.inl rfl) rfl en20 (aC (L 0 rfl rfl) aN) (wk_ref21_Apart V129 _ p0 v1 f133 ow132 _ hx135) (fun _ _ _ _ => nd) (fun v137 V138 le139 hp140 => ?_)
     obtain ⟨rfl, ow141⟩ := hp140
     refine U.p rfl rfl (.inl rfl) (S.eqlB rfl (L 2 rfl rfl) (L 0 rfl rfl) Try.underlying4) ?_
     refine U.p rfl rfl (.inl rfl) (S.assign rfl (L 0 rfl rfl)) ?_
     refine U.done (nr rfl) ?_
     refine WP.ret ?_
     refine fin.slot (.inr rfl) rfl (L 0 rfl rfl) ⟨V138, rfl, (((((le8.trans le23).trans le33).trans le43).trans le130).trans le139), ?_⟩
     have e142 := Option.some.inj h136
     subst e142
     exact ⟨rfl, ow141⟩
  ·intro kk
   refine bcase (b := x18) (fun g143 => ?_) (fun g143 => ?_)
   ·have h144 := ifT g143 hy27
    refine U.x rfl rfl rfl rfl ((L 0 rfl rfl).trans (congrArg Value.bool g143)) (by decide) ?_
    refine U.x rfl rfl rfl rfl ((L 1 rfl rfl).trans (congrArg Value.bool g143)) (by decide) ?_
    refine U.x rfl rfl rfl rfl ((L 2 rfl rfl).trans (congrArg Value.bool g143)) (by decide) ?_
    refine U.p rfl rfl (.inl rfl) (S.pickT rfl ((L 3 rfl rfl).trans (congrArg Value.bool g143)) K) ?_
    have e145 := Option.some.inj h144
    subst e145
    exact kk [(15, .bool true), (14, .tuple #[]), (13, .tuple #[]), (12, .tuple #[])] _ ⟨.tuple #[], .tuple #[], .tuple #[], V22, rfl, (.refl _), rfl, ow25⟩
   ·have h146 := ifF g143 hy27
    refine U.p rfl rfl (.inr ⟨_, _, _, rfl, rfl, ((L 0 rfl rfl).trans (congrArg Value.bool g143))⟩) (S.move rfl (L 6 rfl rfl)) ?_
    have f147 := f17.up le23
    obtain ⟨x148, hx149, h150⟩ := bindS h146
    refine O.call (V := V22) rfl rfl (.inr ⟨_, _, _, rfl, rfl, ((L 1 rfl rfl).trans (congrArg Value.bool g143))⟩) rfl en10 (aC (L 0 rfl rfl) aN) (wk_ref21_Good V22 _ p0 v1 f147 ow25 _ hx149) (fun _ _ _ _ => nd) (fun v151 V152 le153 hp154 => ?_)
    obtain ⟨rfl, ow155⟩ := hp154
    refine U.p rfl rfl (.inr ⟨_, _, _, rfl, rfl, ((L 2 rfl rfl).trans (congrArg Value.bool g143))⟩) (S.not rfl (L 0 rfl rfl)) ?_
    refine U.p rfl rfl (.inl rfl) (S.pickF rfl ((L 3 rfl rfl).trans (congrArg Value.bool g143)) (L 0 rfl rfl)) ?_
    have e156 := Option.some.inj h150
    subst e156
    exact kk [(15, .bool (!x148)), (14, .bool (!x148)), (13, .bool x148), (12, v1)] _ ⟨.bool (!x148), .bool x148, v1, V152, rfl, le153, rfl, ow155⟩
end Go.Vm.GA21
