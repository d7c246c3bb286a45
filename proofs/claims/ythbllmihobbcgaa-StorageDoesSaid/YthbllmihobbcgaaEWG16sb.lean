/-
  What the functions compute is what the plain ones say, for all inputs at which those answer.
-/
import Derived.Test.YthbllmihobbcgaaEWG16s
set_option linter.unusedSimpArgs false
set_option linter.unusedVariables false
namespace Go.Vm.G16s
open Go Go.Proofs
set_option maxHeartbeats 4000000
set_option maxRecDepth 10000
theorem wk_ref16_Storage_Acked (V : Vw) (Rs : List At) (p0 : Tref16_Storage) (p1 : Int) (b1 : Nat) (z2 : Nat) (v4 : Value) (v6 : Value) (hs7 : List Value) (ow : Ow V (.pt b1 (.cells z2 [.int .i64 p0.n, v4, v6]) :: .os RT_Tref16_Event v4 p0.e :: .oss (RO.os (RT.int .i64)) v6 hs7 p0.come :: Rs)) (r : Bool) (h : ref16_Storage_Acked p0 p1 = some r) : ∃ v V', Cl Try.prog 0 37 #[.pointer (some ⟨b1, 0, none⟩), .int .i64 p1] V.H v V'.H ∧ V.le V' ∧ (v = .bool r ∧ Ow V' (.pt b1 (.cells z2 [.int .i64 p0.n, v4, v6]) :: .os RT_Tref16_Event v4 p0.e :: .oss (RO.os (RT.int .i64)) v6 hs7 p0.come :: Rs)) := by
 refine Ct.of (Nat.zero_le _) Try.func37 Z (nr Z) ?_
 unfold ref16_Storage_Acked at h
 refine WP.usreg Z ?_
 refine U.p Z Z (.inl Z) (S.assign Z K) ?_
 refine U.done (nr Z) ?_
 refine WP.seq ?_
 refine WP.usreg Z ?_
 refine U.p Z Z (.inl Z) (S.move Z (L 2 Z Z)) ?_
 refine U.p Z Z (.inl Z) (S.lss Z (L 0 Z Z) K) ?_
 refine U.p Z Z (.inl Z) (S.move Z (L 0 Z Z)) ?_
 refine U.joinX 11 (fun e H => ∃ (u9 u10 u11 u12 u13 u14 u15 : Value), H = V.H ∧ e = [(16, .bool ((decide (p1 < 1)) || (decide ((p0.e.length : Int) < p1)))), (15, u9), (14, u10), (13, u11), (12, u12), (11, u13), (10, u14), (9, u15)]) ?_ ?_
 ·rintro _ _ ⟨u9, u10, u11, u12, u13, u14, u15, rfl, rfl⟩
  refine U.p Z Z (.inl Z) (S.move Z (L 0 Z Z)) ?_
  obtain ⟨y19, hy20, h21⟩ := bindS h
  refine U.joinX 23 (fun e H => ∃ (u22 u23 u24 u25 u26 u27 u28 u29 u30 u31 : Value), H = V.H ∧ e = [(28, .bool y19), (27, u22), (26, u23), (25, u24), (24, u25), (23, u26), (22, u27), (21, u28), (20, u29), (19, u30), (18, u31)]) ?_ ?_
  ·rintro _ _ ⟨u22, u23, u24, u25, u26, u27, u28, u29, u30, u31, rfl, rfl⟩
   refine U.done (nr Z) ?_
   refine WP.cond _ (L 0 Z Z) Z (fun c35 => ?_) (fun c35 => ?_)
   ·have h36 := ifT c35 h21
    refine WP.usreg Z ?_
    refine U.p Z Z (.inl Z) (S.assign Z K) ?_
    refine U.done (nr Z) ?_
    refine WP.ret ?_
    refine sqR ?_
    refine fin.slot (.inr Z) Z (L 0 Z Z) ⟨V, Z, (.refl _), ?_⟩
    have e37 := Option.some.inj h36
    subst e37
    exact ⟨rfl, ow⟩
   ·have h38 := ifF c35 h21
    refine WP.skip ?_
    refine sqN ?_
    refine WP.seq ?_
    refine WP.usreg Z ?_
    refine U.p Z Z (.inl Z) (S.assign Z K) ?_
    refine U.done (nr Z) ?_
    refine WP.blk ?_
    unfold ref16_Storage_Acked_l1 at h38
    obtain ⟨n41, hn40⟩ := loopO_some.1 h38
    refine WP.loopI2 (fun n l V' => ∃ (x39 : Int), l = [(0, .pointer (some ⟨b1, 0, none⟩)), (1, .int .i64 p1), (5, .int .i64 x39)] ∧ V.le V' ∧ Ow V' (.pt b1 (.cells z2 [.int .i64 p0.n, v4, v6]) :: .os RT_Tref16_Event v4 p0.e :: .oss (RO.os (RT.int .i64)) v6 hs7 p0.come :: Rs) ∧ itO (fun s => ref16_Storage_Acked_l1b p0 p1 s) n x39 = some r) n41 _ ⟨0, Z, .refl _, ow, hn40⟩ (allCons (L 25 Z Z) (allCons (L 26 Z Z) (allCons (L 0 Z Z) allNil))) ?_
    rintro _ _ V42 ⟨x39, rfl, le43, ow44, h48⟩
    obtain ⟨m45, q46, rfl, h49, e47⟩ := itS h48
    replace h49 : ref16_Storage_Acked_l1b p0 p1 x39 = some q46 := h49
    unfold ref16_Storage_Acked_l1b at h49
    refine WP.seq ?_
    refine WP.usreg Z ?_
    refine U.p Z Z (.inl Z) (S.move Z (L 2 Z Z)) ?_
    refine U.p Z Z (.inl Z) (S.move Z (L 1 Z Z)) ?_
    refine U.p Z Z (.inl Z) (S.nilCheck Z (L 0 Z Z)) ?_
    refine U.p (v := .pointer (some ⟨b1, 0, none⟩)) Z Z (.inl Z) (S.fieldAddr Z (L 0 Z Z) Try.underlying46 Z ti3 Z Z) ?_
    refine U.k Z Z (.inl Z) (S.load Z (L 0 Z Z) Try.underlying3 Z ((ow44.own (k := 0) Z).cell Z)) nd ?_
    refine U.p Z Z (.inl Z) (S.lss Z (L 4 Z Z) (L 0 Z Z)) ?_
    refine U.done (nr Z) ?_
    refine WP.cond _ (L 0 Z Z) Z (fun c50 => ?_) (fun c50 => ?_)
    ·have h51 := ifT c50 h49
     refine WP.skip ?_
     refine sqN ?_
     refine WP.seq ?_
     refine WP.blk ?_
     refine WP.usreg Z ?_
     refine U.p Z Z (.inl Z) (S.move Z (L 6 Z Z)) ?_
     refine U.p Z Z (.inl Z) (S.move Z (L 9 Z Z)) ?_
     refine U.p Z Z (.inl Z) (S.move Z (L 9 Z Z)) ?_
     have ow52 := ow44.pick 2 Z
     have ow53 := ow52.pick 2 Z
     have ow54 := ow53.pick 2 Z
     obtain ⟨x55, hx56, h57⟩ := bindS h51
     refine O.call (V := V42) Z Z (.inl Z) Z en35 (aC (L 2 Z Z) (aC (L 1 Z Z) (aC (L 0 Z Z) aN))) (wk_ref16_Storage_Has V42 _ p0 x39 p1 b1 z2 v4 v6 hs7 ow54 _ hx56) (fun _ _ _ _ => nd) (fun v58 V59 le60 hp61 => ?_)
     obtain ⟨rfl, ow62⟩ := hp61
     refine U.p Z Z (.inl Z) (S.not Z (L 0 Z Z)) ?_
     refine U.done (nr Z) ?_
     refine WP.cond _ (L 0 Z Z) Z (fun c63 => ?_) (fun c63 => ?_)
     ·have h64 := ifT c63 h57
      have k65 : x55 = false := nT c63
      refine WP.usreg Z ?_
      refine U.p Z Z (.inl Z) (S.assign Z K) ?_
      refine U.done (nr Z) ?_
      refine WP.ret ?_
      refine blkR (sqR (sqR (blkR (sqR ?_))))
      have h66 := exitS h64 e47
      refine fin.slot (.inr Z) Z (L 0 Z Z) ⟨V59, Z, (le43.trans le60), ?_⟩
      have e67 := Option.some.inj h66
      subst e67
      exact ⟨rfl, ow62⟩
     ·have h68 := ifF c63 h57
      have k69 : x55 = true := nF c63
      refine WP.skip ?_
      refine blkN (sqN ?_)
      refine WP.ureg Z ?_
      refine U.p Z Z (.inl Z) (S.move Z (L 13 Z Z)) ?_
      refine U.p Z Z (.inl Z) (S.add Z (L 0 Z Z) K) ?_
      refine U.p Z Z (.inl Z) (S.assign Z (L 0 Z Z)) ?_
      refine U.done (nr Z) ?_
      refine sqN ?_
      exact ⟨_, V59, Z, ⟨m45, Nat.lt_succ_self _, w64 (x39 + 1), Z, (le43.trans le60), ow62, backS h68 e47⟩, (allCons (L 14 Z Z) (allCons (L 15 Z Z) (allCons (L 0 Z Z) allNil)))⟩
    ·have h70 := ifF c50 h49
     refine WP.exit ?_
     refine sqE (sqE (blkE (sqN ?_)))
     have h71 := exitS h70 e47
     refine WP.usreg Z ?_
     refine U.p Z Z (.inl Z) (S.assign Z K) ?_
     refine U.done (nr Z) ?_
     refine WP.ret ?_
     refine fin.slot (.inr Z) Z (L 0 Z Z) ⟨V42, Z, le43, ?_⟩
     have e72 := Option.some.inj h71
     subst e72
     exact ⟨rfl, ow44⟩
  ·intro kk
   refine bcase (b := (decide (p1 < 1)) || (decide ((p0.e.length : Int) < p1))) (fun g73 => ?_) (fun g73 => ?_)
   ·have h74 := ifT g73 hy20
    refine U.x Z Z Z Z ((L 0 Z Z).trans (cB g73)) (by decide) ?_
    refine U.x Z Z Z Z ((L 1 Z Z).trans (cB g73)) (by decide) ?_
    refine U.x Z Z Z Z ((L 2 Z Z).trans (cB g73)) (by decide) ?_
    refine U.x Z Z Z Z ((L 3 Z Z).trans (cB g73)) (by decide) ?_
    refine U.x Z Z Z Z ((L 4 Z Z).trans (cB g73)) (by decide) ?_
    refine U.x Z Z Z Z ((L 5 Z Z).trans (cB g73)) (by decide) ?_
    refine U.x Z Z Z Z ((L 6 Z Z).trans (cB g73)) (by decide) ?_
    refine U.x Z Z Z Z ((L 7 Z Z).trans (cB g73)) (by decide) ?_
    refine U.x Z Z Z Z ((L 8 Z Z).trans (cB g73)) (by decide) ?_
    refine U.x Z Z Z Z ((L 9 Z Z).trans (cB g73)) (by decide) ?_
    refine U.p Z Z (.inl Z) (S.pickT Z ((L 10 Z Z).trans (cB g73)) K) ?_
    have e75 := Option.some.inj h74
    subst e75
    exact kk [(28, .bool true), (27, .tuple #[]), (26, .tuple #[]), (25, .tuple #[]), (24, .tuple #[]), (23, .tuple #[]), (22, .tuple #[]), (21, .tuple #[]), (20, .tuple #[]), (19, .tuple #[]), (18, .tuple #[])] _ ⟨.tuple #[], .tuple #[], .tuple #[], .tuple #[], .tuple #[], .tuple #[], .tuple #[], .tuple #[], .tuple #[], .tuple #[], Z, Z⟩
   ·have h76 := ifF g73 hy20
    refine U.p Z Z (.inr ⟨_, _, _, Z, Z, ((L 0 Z Z).trans (cB g73))⟩) (S.move Z (L 13 Z Z)) ?_
    refine U.p Z Z (.inr ⟨_, _, _, Z, Z, ((L 1 Z Z).trans (cB g73))⟩) (S.nilCheck Z (L 0 Z Z)) ?_
    refine U.p (v := .pointer (some ⟨b1, 1, none⟩)) Z Z (.inr ⟨_, _, _, Z, Z, ((L 2 Z Z).trans (cB g73))⟩) (S.fieldAddr Z (L 0 Z Z) Try.underlying46 Z ti43 Z Z) ?_
    refine U.k Z Z (.inr ⟨_, _, _, Z, Z, ((L 3 Z Z).trans (cB g73))⟩) (S.load Z (L 0 Z Z) Try.underlying43 Z ((ow.own (k := 0) Z).cell Z)) nd ?_
    refine U.p Z Z (.inr ⟨_, _, _, Z, Z, ((L 4 Z Z).trans (cB g73))⟩) (S.move Z (L 18 Z Z)) ?_
    refine U.p Z Z (.inr ⟨_, _, _, Z, Z, ((L 5 Z Z).trans (cB g73))⟩) (S.sub Z (L 0 Z Z) K) ?_
    obtain ⟨x77, hx78, h79⟩ := bindS h76
    obtain ⟨b80, o81, n82, c83, hv84⟩ := ow.ospt (k := 1) Z hx78
    obtain ⟨_, hv85, _⟩ := ow.osel (k := 1) Z hv84 hx78
    refine U.p Z Z (.inr ⟨_, _, _, Z, Z, ((L 6 Z Z).trans (cB g73))⟩) (S.index Z ((L 2 Z Z).trans hv85) (L 0 Z Z) Try.underlying43 ti39 (ix_ge hx78) (ix_lt hx78)) ?_
    refine U.p (v := .pointer (some ⟨b80, o81 + Int.toNat (w64 (p1 - 1)) * 4 + 1, none⟩)) Z Z (.inr ⟨_, _, _, Z, Z, ((L 7 Z Z).trans (cB g73))⟩) (S.fieldAddr Z (L 0 Z Z) Try.underlying39 Z ti4 Z Z) ?_
    obtain ⟨cs86, hv87, hlt88, hr89, hc90⟩ := ow.osel (k := 1) Z hv84 hx78
    obtain rfl : cs86 = [.int .i64 x77.thread, .bool x77.bar, .int .i64 x77.at_, .int .i64 x77.val] := hr89
    refine U.k Z Z (.inr ⟨_, _, _, Z, Z, ((L 8 Z Z).trans (cB g73))⟩) (S.load Z (L 0 Z Z) Try.underlying4 Z (hc90 1 _ Z)) nd ?_
    refine U.p Z Z (.inr ⟨_, _, _, Z, Z, ((L 9 Z Z).trans (cB g73))⟩) (S.not Z (L 0 Z Z)) ?_
    refine U.p Z Z (.inl Z) (S.pickF Z ((L 10 Z Z).trans (cB g73)) (L 0 Z Z)) ?_
    have e91 := Option.some.inj h79
    subst e91
    exact kk [(28, .bool (!x77.bar)), (27, .bool (!x77.bar)), (26, .bool x77.bar), (25, .pointer (some ⟨b80, o81 + Int.toNat (w64 (p1 - 1)) * 4 + 1, none⟩)), (24, .pointer (some ⟨b80, o81 + Int.toNat (w64 (p1 - 1)) * 4, none⟩)), (23, .int .i64 (w64 (p1 - 1))), (22, .int .i64 p1), (21, v4), (20, .pointer (some ⟨b1, 1, none⟩)), (19, .pointer (some ⟨b1, 0, none⟩)), (18, .pointer (some ⟨b1, 0, none⟩))] _ ⟨.bool (!x77.bar), .bool x77.bar, .pointer (some ⟨b80, o81 + Int.toNat (w64 (p1 - 1)) * 4 + 1, none⟩), .pointer (some ⟨b80, o81 + Int.toNat (w64 (p1 - 1)) * 4, none⟩), .int .i64 (w64 (p1 - 1)), .int .i64 p1, v4, .pointer (some ⟨b1, 1, none⟩), .pointer (some ⟨b1, 0, none⟩), .pointer (some ⟨b1, 0, none⟩), Z, Z⟩
 ·intro kk
  refine bcase (b := decide (p1 < 1)) (fun g92 => ?_) (fun g92 => ?_)
  ·skip
   refine U.x Z Z Z Z ((L 0 Z Z).trans (cB g92)) (by decide) ?_
   refine U.x Z Z Z Z ((L 1 Z Z).trans (cB g92)) (by decide) ?_
   refine U.x Z Z Z Z ((L 2 Z Z).trans (cB g92)) (by decide) ?_
   refine U.x Z Z Z Z ((L 3 Z Z).trans (cB g92)) (by decide) ?_
   refine U.x Z Z Z Z ((L 4 Z Z).trans (cB g92)) (by decide) ?_
   refine U.x Z Z Z Z ((L 5 Z Z).trans (cB g92)) (by decide) ?_
   refine U.x Z Z Z Z ((L 6 Z Z).trans (cB g92)) (by decide) ?_
   refine U.p Z Z (.inl Z) (S.pickT Z ((L 7 Z Z).trans (cB g92)) K) ?_
   exact kk [(16, .bool true), (15, .tuple #[]), (14, .tuple #[]), (13, .tuple #[]), (12, .tuple #[]), (11, .tuple #[]), (10, .tuple #[]), (9, .tuple #[])] _ ⟨.tuple #[], .tuple #[], .tuple #[], .tuple #[], .tuple #[], .tuple #[], .tuple #[], Z, (by rw [g92, Bool.true_or])⟩
  ·skip
   refine U.p Z Z (.inr ⟨_, _, _, Z, Z, ((L 0 Z Z).trans (cB g92))⟩) (S.move Z (L 5 Z Z)) ?_
   refine U.p Z Z (.inr ⟨_, _, _, Z, Z, ((L 1 Z Z).trans (cB g92))⟩) (S.move Z (L 5 Z Z)) ?_
   refine U.p Z Z (.inr ⟨_, _, _, Z, Z, ((L 2 Z Z).trans (cB g92))⟩) (S.nilCheck Z (L 0 Z Z)) ?_
   refine U.p (v := .pointer (some ⟨b1, 1, none⟩)) Z Z (.inr ⟨_, _, _, Z, Z, ((L 3 Z Z).trans (cB g92))⟩) (S.fieldAddr Z (L 0 Z Z) Try.underlying46 Z ti43 Z Z) ?_
   refine U.k Z Z (.inr ⟨_, _, _, Z, Z, ((L 4 Z Z).trans (cB g92))⟩) (S.load Z (L 0 Z Z) Try.underlying43 Z ((ow.own (k := 0) Z).cell Z)) nd ?_
   refine U.p Z Z (.inr ⟨_, _, _, Z, Z, ((L 5 Z Z).trans (cB g92))⟩) (ow.oslen (k := 1) Z Z (L 0 Z Z) Try.underlying43) ?_
   refine U.p Z Z (.inr ⟨_, _, _, Z, Z, ((L 6 Z Z).trans (cB g92))⟩) (S.gtr Z (L 5 Z Z) (L 0 Z Z)) ?_
   refine U.p Z Z (.inl Z) (S.pickF Z ((L 7 Z Z).trans (cB g92)) (L 0 Z Z)) ?_
   exact kk [(16, .bool (decide ((p0.e.length : Int) < p1))), (15, .bool (decide ((p0.e.length : Int) < p1))), (14, .int .i64 (p0.e.length : Int)), (13, v4), (12, .pointer (some ⟨b1, 1, none⟩)), (11, .pointer (some ⟨b1, 0, none⟩)), (10, .pointer (some ⟨b1, 0, none⟩)), (9, .int .i64 p1)] _ ⟨.bool (decide ((p0.e.length : Int) < p1)), .int .i64 (p0.e.length : Int), v4, .pointer (some ⟨b1, 1, none⟩), .pointer (some ⟨b1, 0, none⟩), .pointer (some ⟨b1, 0, none⟩), .int .i64 p1, Z, (by rw [g92, Bool.false_or])⟩
theorem wk_ref16_Storage_Read (V : Vw) (Rs : List At) (p0 : Tref16_Storage) (p1 : Int) (p2 : Int) (b1 : Nat) (z2 : Nat) (v4 : Value) (v6 : Value) (hs7 : List Value) (ow : Ow V (.pt b1 (.cells z2 [.int .i64 p0.n, v4, v6]) :: .os RT_Tref16_Event v4 p0.e :: .oss (RO.os (RT.int .i64)) v6 hs7 p0.come :: Rs)) (r : Int × Int) (h : ref16_Storage_Read p0 p1 p2 = some r) : ∃ v V', Cl Try.prog 0 38 #[.pointer (some ⟨b1, 0, none⟩), .int .i64 p1, .int .i64 p2] V.H v V'.H ∧ V.le V' ∧ (v = .tuple #[.int .i64 r.1, .int .i64 r.2] ∧ Ow V' (.pt b1 (.cells z2 [.int .i64 p0.n, v4, v6]) :: .os RT_Tref16_Event v4 p0.e :: .oss (RO.os (RT.int .i64)) v6 hs7 p0.come :: Rs)) := by
 refine Ct.of (Nat.zero_le _) Try.func38 Z (nr Z) ?_
 unfold ref16_Storage_Read at h
 refine WP.usreg Z ?_
 refine U.p Z Z (.inl Z) (S.assign Z K) ?_
 refine U.p Z Z (.inl Z) (S.assign Z K) ?_
 refine U.done (nr Z) ?_
 refine WP.usreg Z ?_
 refine U.p Z Z (.inl Z) (S.assign Z K) ?_
 refine U.done (nr Z) ?_
 refine WP.seq ?_
 refine WP.usreg Z ?_
 refine U.p Z Z (.inl Z) (S.assign Z K) ?_
 refine U.done (nr Z) ?_
 refine WP.blk ?_
 unfold ref16_Storage_Read_l1 at h
 obtain ⟨n12, hn11⟩ := loopO_some.1 h
 refine WP.loopI2 (fun n l V' => ∃ (x9 : Int) (x10 : Int), l = [(0, .pointer (some ⟨b1, 0, none⟩)), (1, .int .i64 p1), (2, .int .i64 p2), (8, .int .i64 x9), (9, .int .i64 x10)] ∧ V.le V' ∧ Ow V' (.pt b1 (.cells z2 [.int .i64 p0.n, v4, v6]) :: .os RT_Tref16_Event v4 p0.e :: .oss (RO.os (RT.int .i64)) v6 hs7 p0.come :: Rs) ∧ itO (fun s => ref16_Storage_Read_l1b p0 p1 p2 s.1 s.2) n (x9, x10) = some r) n12 _ ⟨0, 1, Z, .refl _, ow, hn11⟩ (allCons (L 4 Z Z) (allCons (L 5 Z Z) (allCons (L 6 Z Z) (allCons (L 1 Z Z) (allCons (L 0 Z Z) allNil))))) ?_
 rintro _ _ V13 ⟨x9, x10, rfl, le14, ow15, h19⟩
 obtain ⟨m16, q17, rfl, h20, e18⟩ := itS h19
 replace h20 : ref16_Storage_Read_l1b p0 p1 p2 x9 x10 = some q17 := h20
 unfold ref16_Storage_Read_l1b at h20
 refine WP.seq ?_
 refine WP.usreg Z ?_
 refine U.p Z Z (.inl Z) (S.move Z (L 4 Z Z)) ?_
 refine U.p Z Z (.inl Z) (S.move Z (L 1 Z Z)) ?_
 refine U.p Z Z (.inl Z) (S.nilCheck Z (L 0 Z Z)) ?_
 refine U.p (v := .pointer (some ⟨b1, 1, none⟩)) Z Z (.inl Z) (S.fieldAddr Z (L 0 Z Z) Try.underlying46 Z ti43 Z Z) ?_
 refine U.k Z Z (.inl Z) (S.load Z (L 0 Z Z) Try.underlying43 Z ((ow15.own (k := 0) Z).cell Z)) nd ?_
 refine U.p Z Z (.inl Z) (ow15.oslen (k := 1) Z Z (L 0 Z Z) Try.underlying43) ?_
 refine U.p Z Z (.inl Z) (S.leq Z (L 5 Z Z) (L 0 Z Z)) ?_
 refine U.done (nr Z) ?_
 refine WP.cond _ (L 0 Z Z) Z (fun c21 => ?_) (fun c21 => ?_)
 ·have h22 := ifT c21 h20
  refine WP.skip ?_
  refine sqN ?_
  refine WP.seqI (fun l V' => ∃ (x23 : Int), l = [(0, .pointer (some ⟨b1, 0, none⟩)), (1, .int .i64 p1), (2, .int .i64 p2), (8, .int .i64 x23), (9, .int .i64 x10)] ∧ V13.le V' ∧ Ow V' (.pt b1 (.cells z2 [.int .i64 p0.n, v4, v6]) :: .os RT_Tref16_Event v4 p0.e :: .oss (RO.os (RT.int .i64)) v6 hs7 p0.come :: Rs) ∧ ref16_Storage_Read_k1 x10 x23 = some q17) ?_ ?_
  ·rintro _ V24 ⟨x23, rfl, le25, ow26, h27⟩
   unfold ref16_Storage_Read_k1 at h27
   refine WP.ureg Z ?_
   refine U.p Z Z (.inl Z) (S.move Z (L 4 Z Z)) ?_
   refine U.p Z Z (.inl Z) (S.add Z (L 0 Z Z) K) ?_
   refine U.p Z Z (.inl Z) (S.assign Z (L 0 Z Z)) ?_
   refine U.done (nr Z) ?_
   refine sqN ?_
   exact ⟨_, V24, Z, ⟨m16, Nat.lt_succ_self _, x23, w64 (x10 + 1), Z, (le14.trans le25), ow26, backS h27 e18⟩, (allCons (L 3 Z Z) (allCons (L 4 Z Z) (allCons (L 5 Z Z) (allCons (L 6 Z Z) (allCons (L 0 Z Z) allNil)))))⟩
  ·skip
   refine WP.blk ?_
   refine WP.usreg Z ?_
   refine U.p Z Z (.inl Z) (S.move Z (L 7 Z Z)) ?_
   refine U.p Z Z (.inl Z) (S.move Z (L 9 Z Z)) ?_
   refine U.p Z Z (.inl Z) (S.move Z (L 13 Z Z)) ?_
   have ow28 := ow15.pick 2 Z
   have ow29 := ow28.pick 2 Z
   have ow30 := ow29.pick 2 Z
   obtain ⟨x31, hx32, h33⟩ := bindS h22
   refine O.call (V := V13) Z Z (.inl Z) Z en35 (aC (L 2 Z Z) (aC (L 1 Z Z) (aC (L 0 Z Z) aN))) (wk_ref16_Storage_Has V13 _ p0 p1 x10 b1 z2 v4 v6 hs7 ow30 _ hx32) (fun _ _ _ _ => nd) (fun v34 V35 le36 hp37 => ?_)
   obtain ⟨rfl, ow38⟩ := hp37
   refine U.p Z Z (.inl Z) (S.move Z (L 0 Z Z)) ?_
   obtain ⟨y39, hy40, h41⟩ := bindS h33
   refine U.joinX 16 (fun e H => ∃ (u42 u43 u44 u45 u46 u47 u48 u49 u50 u51 : Value), H = V35.H ∧ e = [(34, .bool y39), (33, u42), (32, u43), (31, u44), (30, u45), (29, u46), (28, u47), (27, u48), (26, u49), (25, u50), (24, u51)]) ?_ ?_
   ·rintro _ _ ⟨u42, u43, u44, u45, u46, u47, u48, u49, u50, u51, rfl, rfl⟩
    refine U.p Z Z (.inl Z) (S.move Z (L 0 Z Z)) ?_
    obtain ⟨y55, hy56, h57⟩ := bindS h41
    refine U.joinX 29 (fun e H => ∃ (u58 u59 u60 u61 u62 u63 u64 u65 u66 u67 u68 : Value), H = V35.H ∧ e = [(47, .bool y55), (46, u58), (45, u59), (44, u60), (43, u61), (42, u62), (41, u63), (40, u64), (39, u65), (38, u66), (37, u67), (36, u68)]) ?_ ?_
    ·rintro _ _ ⟨u58, u59, u60, u61, u62, u63, u64, u65, u66, u67, u68, rfl, rfl⟩
     refine U.done (nr Z) ?_
     refine WP.cond _ (L 0 Z Z) Z (fun c72 => ?_) (fun c72 => ?_)
     ·have h73 := ifT c72 h57
      refine WP.ureg Z ?_
      refine U.p Z Z (.inl Z) (S.move Z (L 40 Z Z)) ?_
      refine U.p Z Z (.inl Z) (S.assign Z (L 0 Z Z)) ?_
      refine U.done (nr Z) ?_
      refine blkN (sqN ?_)
      exact ⟨_, V35, Z, ⟨x10, Z, le36, ow38, h73⟩, (allCons (L 38 Z Z) (allCons (L 39 Z Z) (allCons (L 40 Z Z) (allCons (L 0 Z Z) (allCons (L 42 Z Z) allNil)))))⟩
     ·have h74 := ifF c72 h57
      refine WP.skip ?_
      refine blkN (sqN ?_)
      exact ⟨_, V35, Z, ⟨x9, Z, le36, ow38, h74⟩, (allCons (L 36 Z Z) (allCons (L 37 Z Z) (allCons (L 38 Z Z) (allCons (L 39 Z Z) (allCons (L 40 Z Z) allNil)))))⟩
    ·intro kk
     refine bcase (b := y39) (fun g75 => ?_) (fun g75 => ?_)
     ·have h76 := ifT g75 hy56
      refine U.p Z Z (.inr ⟨_, _, _, Z, Z, ((L 0 Z Z).trans (cB g75))⟩) (S.move Z (L 24 Z Z)) ?_
      refine U.p Z Z (.inr ⟨_, _, _, Z, Z, ((L 1 Z Z).trans (cB g75))⟩) (S.nilCheck Z (L 0 Z Z)) ?_
      refine U.p (v := .pointer (some ⟨b1, 1, none⟩)) Z Z (.inr ⟨_, _, _, Z, Z, ((L 2 Z Z).trans (cB g75))⟩) (S.fieldAddr Z (L 0 Z Z) Try.underlying46 Z ti43 Z Z) ?_
      refine U.k Z Z (.inr ⟨_, _, _, Z, Z, ((L 3 Z Z).trans (cB g75))⟩) (S.load Z (L 0 Z Z) Try.underlying43 Z ((ow38.own (k := 0) Z).cell Z)) nd ?_
      refine U.p Z Z (.inr ⟨_, _, _, Z, Z, ((L 4 Z Z).trans (cB g75))⟩) (S.move Z (L 32 Z Z)) ?_
      refine U.p Z Z (.inr ⟨_, _, _, Z, Z, ((L 5 Z Z).trans (cB g75))⟩) (S.sub Z (L 0 Z Z) K) ?_
      obtain ⟨x77, hx78, h79⟩ := bindS h76
      obtain ⟨b80, o81, n82, c83, hv84⟩ := ow38.ospt (k := 1) Z hx78
      obtain ⟨_, hv85, _⟩ := ow38.osel (k := 1) Z hv84 hx78
      refine U.p Z Z (.inr ⟨_, _, _, Z, Z, ((L 6 Z Z).trans (cB g75))⟩) (S.index Z ((L 2 Z Z).trans hv85) (L 0 Z Z) Try.underlying43 ti39 (ix_ge hx78) (ix_lt hx78)) ?_
      refine U.p (v := .pointer (some ⟨b80, o81 + Int.toNat (w64 (x10 - 1)) * 4 + 2, none⟩)) Z Z (.inr ⟨_, _, _, Z, Z, ((L 7 Z Z).trans (cB g75))⟩) (S.fieldAddr Z (L 0 Z Z) Try.underlying39 Z ti3 Z Z) ?_
      obtain ⟨cs86, hv87, hlt88, hr89, hc90⟩ := ow38.osel (k := 1) Z hv84 hx78
      obtain rfl : cs86 = [.int .i64 x77.thread, .bool x77.bar, .int .i64 x77.at_, .int .i64 x77.val] := hr89
      refine U.k Z Z (.inr ⟨_, _, _, Z, Z, ((L 8 Z Z).trans (cB g75))⟩) (S.load Z (L 0 Z Z) Try.underlying3 Z (hc90 2 _ Z)) nd ?_
      refine U.p Z Z (.inr ⟨_, _, _, Z, Z, ((L 9 Z Z).trans (cB g75))⟩) (S.move Z (L 35 Z Z)) ?_
      refine U.p Z Z (.inr ⟨_, _, _, Z, Z, ((L 10 Z Z).trans (cB g75))⟩) (S.eqlI Z (L 1 Z Z) (L 0 Z Z)) ?_
      refine U.p Z Z (.inl Z) (S.pickT Z ((L 11 Z Z).trans (cB g75)) (L 0 Z Z)) ?_
      have e91 := Option.some.inj h79
      subst e91
      exact kk [(47, .bool (decide (x77.at_ = p2))), (46, .bool (decide (x77.at_ = p2))), (45, .int .i64 p2), (44, .int .i64 x77.at_), (43, .pointer (some ⟨b80, o81 + Int.toNat (w64 (x10 - 1)) * 4 + 2, none⟩)), (42, .pointer (some ⟨b80, o81 + Int.toNat (w64 (x10 - 1)) * 4, none⟩)), (41, .int .i64 (w64 (x10 - 1))), (40, .int .i64 x10), (39, v4), (38, .pointer (some ⟨b1, 1, none⟩)), (37, .pointer (some ⟨b1, 0, none⟩)), (36, .pointer (some ⟨b1, 0, none⟩))] _ ⟨.bool (decide (x77.at_ = p2)), .int .i64 p2, .int .i64 x77.at_, .pointer (some ⟨b80, o81 + Int.toNat (w64 (x10 - 1)) * 4 + 2, none⟩), .pointer (some ⟨b80, o81 + Int.toNat (w64 (x10 - 1)) * 4, none⟩), .int .i64 (w64 (x10 - 1)), .int .i64 x10, v4, .pointer (some ⟨b1, 1, none⟩), .pointer (some ⟨b1, 0, none⟩), .pointer (some ⟨b1, 0, none⟩), Z, Z⟩
     ·have h92 := ifF g75 hy56
      refine U.x Z Z Z Z ((L 0 Z Z).trans (cB g75)) (by decide) ?_
      refine U.x Z Z Z Z ((L 1 Z Z).trans (cB g75)) (by decide) ?_
      refine U.x Z Z Z Z ((L 2 Z Z).trans (cB g75)) (by decide) ?_
      refine U.x Z Z Z Z ((L 3 Z Z).trans (cB g75)) (by decide) ?_
      refine U.x Z Z Z Z ((L 4 Z Z).trans (cB g75)) (by decide) ?_
      refine U.x Z Z Z Z ((L 5 Z Z).trans (cB g75)) (by decide) ?_
      refine U.x Z Z Z Z ((L 6 Z Z).trans (cB g75)) (by decide) ?_
      refine U.x Z Z Z Z ((L 7 Z Z).trans (cB g75)) (by decide) ?_
      refine U.x Z Z Z Z ((L 8 Z Z).trans (cB g75)) (by decide) ?_
      refine U.x Z Z Z Z ((L 9 Z Z).trans (cB g75)) (by decide) ?_
      refine U.x Z Z Z Z ((L 10 Z Z).trans (cB g75)) (by decide) ?_
      refine U.p Z Z (.inl Z) (S.pickF Z ((L 11 Z Z).trans (cB g75)) K) ?_
      have e93 := Option.some.inj h92
      subst e93
      exact kk [(47, .bool false), (46, .tuple #[]), (45, .tuple #[]), (44, .tuple #[]), (43, .tuple #[]), (42, .tuple #[]), (41, .tuple #[]), (40, .tuple #[]), (39, .tuple #[]), (38, .tuple #[]), (37, .tuple #[]), (36, .tuple #[])] _ ⟨.tuple #[], .tuple #[], .tuple #[], .tuple #[], .tuple #[], .tuple #[], .tuple #[], .tuple #[], .tuple #[], .tuple #[], .tuple #[], Z, Z⟩
   ·intro kk
    refine bcase (b := x31) (fun g94 => ?_) (fun g94 => ?_)
    ·have h95 := ifT g94 hy40
     refine U.p Z Z (.inr ⟨_, _, _, Z, Z, ((L 0 Z Z).trans (cB g94))⟩) (S.move Z (L 12 Z Z)) ?_
     refine U.p Z Z (.inr ⟨_, _, _, Z, Z, ((L 1 Z Z).trans (cB g94))⟩) (S.nilCheck Z (L 0 Z Z)) ?_
     refine U.p (v := .pointer (some ⟨b1, 1, none⟩)) Z Z (.inr ⟨_, _, _, Z, Z, ((L 2 Z Z).trans (cB g94))⟩) (S.fieldAddr Z (L 0 Z Z) Try.underlying46 Z ti43 Z Z) ?_
     refine U.k Z Z (.inr ⟨_, _, _, Z, Z, ((L 3 Z Z).trans (cB g94))⟩) (S.load Z (L 0 Z Z) Try.underlying43 Z ((ow38.own (k := 0) Z).cell Z)) nd ?_
     refine U.p Z Z (.inr ⟨_, _, _, Z, Z, ((L 4 Z Z).trans (cB g94))⟩) (S.move Z (L 20 Z Z)) ?_
     refine U.p Z Z (.inr ⟨_, _, _, Z, Z, ((L 5 Z Z).trans (cB g94))⟩) (S.sub Z (L 0 Z Z) K) ?_
     obtain ⟨x96, hx97, h98⟩ := bindS h95
     obtain ⟨b99, o100, n101, c102, hv103⟩ := ow38.ospt (k := 1) Z hx97
     obtain ⟨_, hv104, _⟩ := ow38.osel (k := 1) Z hv103 hx97
     refine U.p Z Z (.inr ⟨_, _, _, Z, Z, ((L 6 Z Z).trans (cB g94))⟩) (S.index Z ((L 2 Z Z).trans hv104) (L 0 Z Z) Try.underlying43 ti39 (ix_ge hx97) (ix_lt hx97)) ?_
     refine U.p (v := .pointer (some ⟨b99, o100 + Int.toNat (w64 (x10 - 1)) * 4 + 1, none⟩)) Z Z (.inr ⟨_, _, _, Z, Z, ((L 7 Z Z).trans (cB g94))⟩) (S.fieldAddr Z (L 0 Z Z) Try.underlying39 Z ti4 Z Z) ?_
     obtain ⟨cs105, hv106, hlt107, hr108, hc109⟩ := ow38.osel (k := 1) Z hv103 hx97
     obtain rfl : cs105 = [.int .i64 x96.thread, .bool x96.bar, .int .i64 x96.at_, .int .i64 x96.val] := hr108
     refine U.k Z Z (.inr ⟨_, _, _, Z, Z, ((L 8 Z Z).trans (cB g94))⟩) (S.load Z (L 0 Z Z) Try.underlying4 Z (hc109 1 _ Z)) nd ?_
     refine U.p Z Z (.inr ⟨_, _, _, Z, Z, ((L 9 Z Z).trans (cB g94))⟩) (S.not Z (L 0 Z Z)) ?_
     refine U.p Z Z (.inl Z) (S.pickT Z ((L 10 Z Z).trans (cB g94)) (L 0 Z Z)) ?_
     have e110 := Option.some.inj h98
     subst e110
     exact kk [(34, .bool (!x96.bar)), (33, .bool (!x96.bar)), (32, .bool x96.bar), (31, .pointer (some ⟨b99, o100 + Int.toNat (w64 (x10 - 1)) * 4 + 1, none⟩)), (30, .pointer (some ⟨b99, o100 + Int.toNat (w64 (x10 - 1)) * 4, none⟩)), (29, .int .i64 (w64 (x10 - 1))), (28, .int .i64 x10), (27, v4), (26, .pointer (some ⟨b1, 1, none⟩)), (25, .pointer (some ⟨b1, 0, none⟩)), (24, .pointer (some ⟨b1, 0, none⟩))] _ ⟨.bool (!x96.bar), .bool x96.bar, .pointer (some ⟨b99, o100 + Int.toNat (w64 (x10 - 1)) * 4 + 1, none⟩), .pointer (some ⟨b99, o100 + Int.toNat (w64 (x10 - 1)) * 4, none⟩), .int .i64 (w64 (x10 - 1)), .int .i64 x10, v4, .pointer (some ⟨b1, 1, none⟩), .pointer (some ⟨b1, 0, none⟩), .pointer (some ⟨b1, 0, none⟩), Z, Z⟩
    ·have h111 := ifF g94 hy40
     refine U.x Z Z Z Z ((L 0 Z Z).trans (cB g94)) (by decide) ?_
     refine U.x Z Z Z Z ((L 1 Z Z).trans (cB g94)) (by decide) ?_
     refine U.x Z Z Z Z ((L 2 Z Z).trans (cB g94)) (by decide) ?_
     refine U.x Z Z Z Z ((L 3 Z Z).trans (cB g94)) (by decide) ?_
     refine U.x Z Z Z Z ((L 4 Z Z).trans (cB g94)) (by decide) ?_
     refine U.x Z Z Z Z ((L 5 Z Z).trans (cB g94)) (by decide) ?_
     refine U.x Z Z Z Z ((L 6 Z Z).trans (cB g94)) (by decide) ?_
     refine U.x Z Z Z Z ((L 7 Z Z).trans (cB g94)) (by decide) ?_
     refine U.x Z Z Z Z ((L 8 Z Z).trans (cB g94)) (by decide) ?_
     refine U.x Z Z Z Z ((L 9 Z Z).trans (cB g94)) (by decide) ?_
     refine U.p Z Z (.inl Z) (S.pickF Z ((L 10 Z Z).trans (cB g94)) K) ?_
     have e112 := Option.some.inj h111
     subst e112
     exact kk [(34, .bool false), (33, .tuple #[]), (32, .tuple #[]), (31, .tuple #[]), (30, .tuple #[]), (29, .tuple #[]), (28, .tuple #[]), (27, .tuple #[]), (26, .tuple #[]), (25, .tuple #[]), (24, .tuple #[])] _ ⟨.tuple #[], .tuple #[], .tuple #[], .tuple #[], .tuple #[], .tuple #[], .tuple #[], .tuple #[], .tuple #[], .tuple #[], Z, Z⟩
 ·have h113 := ifF c21 h20
  refine WP.exit ?_
  refine sqE (sqE (blkE (sqN ?_)))
  have h114 := exitS h113 e18
  refine WP.seq ?_
  refine WP.usreg Z ?_
  refine U.p Z Z (.inl Z) (S.move Z (L 10 Z Z)) ?_
  refine U.p Z Z (.inl Z) (S.eqlI Z (L 0 Z Z) K) ?_
  refine U.done (nr Z) ?_
  refine WP.cond _ (L 0 Z Z) Z (fun c115 => ?_) (fun c115 => ?_)
  ·have h116 := ifT c115 h114
   refine WP.usreg Z ?_
   refine U.p Z Z (.inl Z) (S.assign Z K) ?_
   refine U.p Z Z (.inl Z) (S.assign Z K) ?_
   refine U.done (nr Z) ?_
   refine WP.ret ?_
   refine sqR ?_
   refine fin.slots' (.inr Z) (fsC (L 1 Z Z) (fsC (L 0 Z Z) fsN)) Z ⟨V13, Z, le14, ?_⟩
   have e117 := Option.some.inj h116
   subst e117
   exact ⟨rfl, ow15⟩
  ·have h118 := ifF c115 h114
   refine WP.skip ?_
   refine sqN ?_
   refine WP.usreg Z ?_
   refine U.p Z Z (.inl Z) (S.move Z (L 9 Z Z)) ?_
   refine U.p Z Z (.inl Z) (S.nilCheck Z (L 0 Z Z)) ?_
   refine U.p (v := .pointer (some ⟨b1, 1, none⟩)) Z Z (.inl Z) (S.fieldAddr Z (L 0 Z Z) Try.underlying46 Z ti43 Z Z) ?_
   refine U.k Z Z (.inl Z) (S.load Z (L 0 Z Z) Try.underlying43 Z ((ow15.own (k := 0) Z).cell Z)) nd ?_
   refine U.p Z Z (.inl Z) (S.move Z (L 16 Z Z)) ?_
   refine U.p Z Z (.inl Z) (S.sub Z (L 0 Z Z) K) ?_
   obtain ⟨x119, hx120, h121⟩ := bindS h118
   obtain ⟨b122, o123, n124, c125, hv126⟩ := ow15.ospt (k := 1) Z hx120
   obtain ⟨_, hv127, _⟩ := ow15.osel (k := 1) Z hv126 hx120
   refine U.p Z Z (.inl Z) (S.index Z ((L 2 Z Z).trans hv127) (L 0 Z Z) Try.underlying43 ti39 (ix_ge hx120) (ix_lt hx120)) ?_
   refine U.p (v := .pointer (some ⟨b122, o123 + Int.toNat (w64 (x9 - 1)) * 4 + 3, none⟩)) Z Z (.inl Z) (S.fieldAddr Z (L 0 Z Z) Try.underlying39 Z ti3 Z Z) ?_
   obtain ⟨cs128, hv129, hlt130, hr131, hc132⟩ := ow15.osel (k := 1) Z hv126 hx120
   obtain rfl : cs128 = [.int .i64 x119.thread, .bool x119.bar, .int .i64 x119.at_, .int .i64 x119.val] := hr131
   refine U.k Z Z (.inl Z) (S.load Z (L 0 Z Z) Try.underlying3 Z (hc132 3 _ Z)) nd ?_
   refine U.p Z Z (.inl Z) (S.move Z (L 21 Z Z)) ?_
   refine U.p Z Z (.inl Z) (S.assign Z (L 1 Z Z)) ?_
   refine U.p Z Z (.inl Z) (S.assign Z (L 1 Z Z)) ?_
   refine U.done (nr Z) ?_
   refine WP.ret ?_
   refine fin.slots' (.inr Z) (fsC (L 1 Z Z) (fsC (L 0 Z Z) fsN)) Z ⟨V13, Z, le14, ?_⟩
   have e133 := Option.some.inj h121
   subst e133
   exact ⟨rfl, ow15⟩
theorem wk_storage_Storage_Order (V : Vw) (Rs : List At) (p0 : Tstorage_Storage) (p1 : Int) (b1 : Nat) (z2 : Nat) (v4 : Value) (v6 : Value) (hs7 : List Value) (v9 : Value) (hs10 : List Value) (v12 : Value) (hs13 : List Value) (v15 : Value) (ow : Ow V (.pt b1 (.cells z2 [v4, v6, v9, v12, v15]) :: .os RT_Tref16_Event v4 p0.events :: .oss (RO.os (RT.int .i64)) v6 hs7 p0.seen :: .oss (RO.om RT.bool false) v9 hs10 p0.has :: .oss (RO.om (RT.int .i64) false) v12 hs13 p0.now :: .om (RT.int .i64) false v15 p0.last :: Rs)) (r : List Int) (h : storage_Storage_Order p0 p1 = some r) : ∃ v V', Cl Try.prog 0 28 #[.pointer (some ⟨b1, 0, none⟩), .int .i64 p1] V.H v V'.H ∧ V.le V' ∧ (∃ (v17 : Value), v = v17 ∧ Ow V' (.os (RT.int .i64) v17 r :: .pt b1 (.cells z2 [v4, v6, v9, v12, v15]) :: .os RT_Tref16_Event v4 p0.events :: .oss (RO.os (RT.int .i64)) v6 hs7 p0.seen :: .oss (RO.om RT.bool false) v9 hs10 p0.has :: .oss (RO.om (RT.int .i64) false) v12 hs13 p0.now :: .om (RT.int .i64) false v15 p0.last :: Rs)) := by
 unfold storage_Storage_Order at h
 obtain ⟨l, hl, h⟩ := bindS h
 obtain ⟨v, V1, hc, hle, v2, rfl, ow2⟩ := wk_storage_Storage_Events _ _ p0 _ _ _ _ _ _ _ _ _ _ ow l hl
 exact order_gen (RE := RT_Tref16_Event) (q := some ⟨_, 0, none⟩) (v1 := v) (es := l) (g := fun e => (e.thread, e.bar, e.at_, e.val)) (by kernel_rfl) (.inr ⟨_, Z⟩) Z (fun _ _ _ h => h) hc hle ow2 h
theorem wk_ref16_Storage_Order (V : Vw) (Rs : List At) (p0 : Tref16_Storage) (p1 : Int) (b1 : Nat) (z2 : Nat) (v4 : Value) (v6 : Value) (hs7 : List Value) (ow : Ow V (.pt b1 (.cells z2 [.int .i64 p0.n, v4, v6]) :: .os RT_Tref16_Event v4 p0.e :: .oss (RO.os (RT.int .i64)) v6 hs7 p0.come :: Rs)) (r : List Int) (h : ref16_Storage_Order p0 p1 = some r) : ∃ v V', Cl Try.prog 0 39 #[.pointer (some ⟨b1, 0, none⟩), .int .i64 p1] V.H v V'.H ∧ V.le V' ∧ (∃ (v9 : Value), v = v9 ∧ Ow V' (.os (RT.int .i64) v9 r :: .pt b1 (.cells z2 [.int .i64 p0.n, v4, v6]) :: .os RT_Tref16_Event v4 p0.e :: .oss (RO.os (RT.int .i64)) v6 hs7 p0.come :: Rs)) := by
 refine Ct.of (Nat.zero_le _) Try.func39 Z (nr Z) ?_
 unfold ref16_Storage_Order at h
 refine WP.usreg Z ?_
 refine U.p Z Z (.inl Z) (S.assign Z K) ?_
 refine U.done (nr Z) ?_
 refine WP.usreg Z ?_
 refine U.p Z Z (.inl Z) (S.assign Z K) ?_
 refine U.done (nr Z) ?_
 refine WP.seq ?_
 refine WP.usreg Z ?_
 refine U.p Z Z (.inl Z) (S.move Z (L 2 Z Z)) ?_
 refine U.p Z Z (.inl Z) (S.nilCheck Z (L 0 Z Z)) ?_
 refine U.p (v := .pointer (some ⟨b1, 1, none⟩)) Z Z (.inl Z) (S.fieldAddr Z (L 0 Z Z) Try.underlying46 Z ti43 Z Z) ?_
 refine U.k Z Z (.inl Z) (S.load Z (L 0 Z Z) Try.underlying43 Z ((ow.own (k := 0) Z).cell Z)) nd ?_
 refine U.p Z Z (.inl Z) (ow.oslen (k := 1) Z Z (L 0 Z Z) Try.underlying43) ?_
 refine U.p Z Z (.inl Z) (S.move Z K) ?_
 refine U.done (nr Z) ?_
 refine WP.blk ?_
 have ow15 := ow.nil (RT.int .i64)
 have ow17 := ow15.pick 0 Z
 have ow18 := ow17.pick 3 Z
 have ow19 := ow18.pick 3 Z
 have ow20 := ow19.pick 3 Z
 unfold ref16_Storage_Order_l1 at h
 obtain ⟨n22, hn21⟩ := loopO_some.1 h
 refine WP.loopI2 (fun n l V' => ∃ (v12 : Value) (xs13 : List Int) (x14 : Int), l = [(1, .int .i64 p1), (5, v12), (11, v4), (12, .int .i64 (p0.e.length : Int)), (13, .int .i64 x14)] ∧ V.le V' ∧ Ow V' (.pt b1 (.cells z2 [.int .i64 p0.n, v4, v6]) :: .os RT_Tref16_Event v4 p0.e :: .oss (RO.os (RT.int .i64)) v6 hs7 p0.come :: .os (RT.int .i64) v12 xs13 :: Rs) ∧ itO (fun s => ref16_Storage_Order_l1b p0 p1 s.1 s.2) n (xs13, x14) = some r) n22 _ ⟨(.slice none 0 0), [], 0, Z, .refl _, ow20, hn21⟩ (allCons (L 9 Z Z) (allCons (L 6 Z Z) (allCons (L 2 Z Z) (allCons (L 1 Z Z) (allCons (L 0 Z Z) allNil))))) ?_
 rintro _ _ V23 ⟨v12, xs13, x14, rfl, le24, ow25, h29⟩
 obtain ⟨m26, q27, rfl, h30, e28⟩ := itS h29
 replace h30 : ref16_Storage_Order_l1b p0 p1 xs13 x14 = some q27 := h30
 unfold ref16_Storage_Order_l1b at h30
 refine WP.usreg Z ?_
 refine U.p Z Z (.inl Z) (S.lss Z (L 4 Z Z) (L 3 Z Z)) ?_
 refine U.done (nr Z) ?_
 refine WP.seq ?_
 refine WP.cond _ (L 0 Z Z) Z (fun c31 => ?_) (fun c31 => ?_)
 ·have h32 := ifT c31 h30
  refine WP.skip ?_
  refine sqN ?_
  refine WP.seqI (fun l V' => ∃ (v34 : Value) (xs35 : List Int), l = [(1, .int .i64 p1), (5, v34), (11, v4), (12, .int .i64 (p0.e.length : Int)), (13, .int .i64 x14)] ∧ V23.le V' ∧ Ow V' (.pt b1 (.cells z2 [.int .i64 p0.n, v4, v6]) :: .os RT_Tref16_Event v4 p0.e :: .oss (RO.os (RT.int .i64)) v6 hs7 p0.come :: .os (RT.int .i64) v34 xs35 :: Rs) ∧ ref16_Storage_Order_k1 x14 xs35 = some q27) ?_ ?_
  ·rintro _ V36 ⟨v34, xs35, rfl, le37, ow38, h39⟩
   unfold ref16_Storage_Order_k1 at h39
   refine WP.ureg Z ?_
   refine U.p Z Z (.inl Z) (S.add Z (L 4 Z Z) K) ?_
   refine U.p Z Z (.inl Z) (S.move Z (L 0 Z Z)) ?_
   refine U.done (nr Z) ?_
   refine sqN ?_
   exact ⟨_, V36, Z, ⟨m26, Nat.lt_succ_self _, v34, xs35, w64 (x14 + 1), Z, (le24.trans le37), ow38, backS h39 e28⟩, (allCons (L 2 Z Z) (allCons (L 3 Z Z) (allCons (L 4 Z Z) (allCons (L 5 Z Z) (allCons (L 0 Z Z) allNil)))))⟩
  ·skip
   refine WP.blk ?_
   refine WP.usreg Z ?_
   refine U.p Z Z (.inl Z) (S.move Z (L 5 Z Z)) ?_
   obtain ⟨x40, hx41, h42⟩ := bindS h32
   obtain ⟨b43, o44, n45, c46, hv47⟩ := ow25.ospt (k := 1) Z hx41
   obtain ⟨_, hv48, _⟩ := ow25.osel (k := 1) Z hv47 hx41
   refine U.p Z Z (.inl Z) (S.index Z ((L 4 Z Z).trans hv48) (L 6 Z Z) Try.underlying43 ti39 (ix_ge hx41) (ix_lt hx41)) ?_
   obtain ⟨cs49, hv50, hlt51, hr52, hc53⟩ := ow25.osel (k := 1) Z hv47 hx41
   obtain rfl : cs49 = [.int .i64 x40.thread, .bool x40.bar, .int .i64 x40.at_, .int .i64 x40.val] := hr52
   refine U.k Z Z (.inl Z) (S.loadN (cs := [.int .i64 x40.thread, .bool x40.bar, .int .i64 x40.at_, .int .i64 x40.val]) Z (L 0 Z Z) Try.underlying39 Z ti39 Z hc53) nd ?_
   refine O.alloc ow25 Z Z (.inl Z) Z ti39 Z Z nd (fun b54 V55 le56 ow57 => ?_)
   refine U.p Z Z (.inl Z) (S.assign Z (L 3 Z Z)) ?_
   refine O.store (k := 0) (cs := [.int .i64 x40.thread, .bool x40.bar, .int .i64 x40.at_, .int .i64 x40.val]) (c' := [.int .i64 x40.thread, .bool x40.bar, .int .i64 x40.at_, .int .i64 x40.val]) ow57 Z Z Z (.inl Z) Z (L 1 Z Z) (L 2 Z Z) ti39 (by simp [topV]) Z Z (nr Z) Z Z nd (fun V59 le60 ow61 => ?_)
   refine U.done (nr Z) ?_
   refine WP.usreg Z ?_
   refine U.p (v := .pointer (some ⟨b54, 1, none⟩)) Z Z (.inl Z) (S.fieldAddr Z (L 1 Z Z) Try.underlying39 Z ti4 Z Z) ?_
   refine U.k Z Z (.inl Z) (S.load Z (L 0 Z Z) Try.underlying4 Z ((ow61.own (k := 0) Z).cell Z)) nd ?_
   refine U.p Z Z (.inl Z) (S.not Z (L 0 Z Z)) ?_
   refine U.p Z Z (.inl Z) (S.move Z (L 0 Z Z)) ?_
   refine U.joinX 9 (fun e H => ∃ (u62 u63 u64 u65 : Value), H = V59.H ∧ e = [(26, .bool ((!x40.bar) && (decide (x40.at_ = p1)))), (25, u62), (24, u63), (23, u64), (22, u65)]) ?_ ?_
   ·rintro _ _ ⟨u62, u63, u64, u65, rfl, rfl⟩
    refine U.done (nr Z) ?_
    refine WP.cond _ (L 0 Z Z) Z (fun c69 => ?_) (fun c69 => ?_)
    ·have h70 := ifT c69 h42
     refine WP.ureg Z ?_
     refine U.p Z Z (.inl Z) (S.move Z (L 16 Z Z)) ?_
     refine U.p Z Z (.inl Z) (S.move Z (L 10 Z Z)) ?_
     refine U.p Z Z (.inl Z) (S.add Z (L 0 Z Z) K) ?_
     refine O.lit (R := (RT.int .i64)) ow61 Z Z (.inl Z) Z Try.underlying26 ti3 Z Z Z (nr Z) Z (aC (L 0 Z Z) aN) (.cons _ _ (w64 (x14 + 1)) _ (by simp [topV]) Z .nil) (fun _ => nd) (fun v71 V72 le73 ow74 => ?_)
     obtain ⟨xs76, hx77, h78⟩ := bindS h70
     refine O.append (k := 5) ow74 Z Z Z (.inl Z) Z (L 3 Z Z) (L 0 Z Z) Try.underlying26 ti3 Z Z (nr Z) (ow74.src (k := 0) Z Try.underlying26) hx77 (fun _ _ => nd) (fun v79 V80 le81 ow82 => ?_)
     refine U.p Z Z (.inl Z) (S.assign Z (L 0 Z Z)) ?_
     refine U.done (nr Z) ?_
     refine blkN (sqN ?_)
     have ow84 := ow82.drop 0 Z
     have ow85 := ow84.drop 0 Z
     exact ⟨_, V80, Z, ⟨v79, xs76, Z, (((le56.trans le60).trans le73).trans le81), ow85, h78⟩, (allCons (L 21 Z Z) (allCons (L 0 Z Z) (allCons (L 23 Z Z) (allCons (L 24 Z Z) (allCons (L 25 Z Z) allNil)))))⟩
    ·have h86 := ifF c69 h42
     refine WP.skip ?_
     refine blkN (sqN ?_)
     have ow87 := ow61.drop 0 Z
     exact ⟨_, V59, Z, ⟨v12, xs13, Z, (le56.trans le60), ow87, h86⟩, (allCons (L 15 Z Z) (allCons (L 16 Z Z) (allCons (L 17 Z Z) (allCons (L 18 Z Z) (allCons (L 19 Z Z) allNil)))))⟩
   ·intro kk
    refine bcase (b := !x40.bar) (fun g88 => ?_) (fun g88 => ?_)
    ·skip
     have k89 : x40.bar = false := nT g88
     refine U.p (v := .pointer (some ⟨b54, 2, none⟩)) Z Z (.inr ⟨_, _, _, Z, Z, ((L 0 Z Z).trans (cB g88))⟩) (S.fieldAddr Z (L 5 Z Z) Try.underlying39 Z ti3 Z Z) ?_
     refine U.k Z Z (.inr ⟨_, _, _, Z, Z, ((L 1 Z Z).trans (cB g88))⟩) (S.load Z (L 0 Z Z) Try.underlying3 Z ((ow61.own (k := 0) Z).cell Z)) nd ?_
     refine U.p Z Z (.inr ⟨_, _, _, Z, Z, ((L 2 Z Z).trans (cB g88))⟩) (S.move Z (L 12 Z Z)) ?_
     refine U.p Z Z (.inr ⟨_, _, _, Z, Z, ((L 3 Z Z).trans (cB g88))⟩) (S.eqlI Z (L 1 Z Z) (L 0 Z Z)) ?_
     refine U.p Z Z (.inl Z) (S.pickT Z ((L 4 Z Z).trans (cB g88)) (L 0 Z Z)) ?_
     exact kk [(26, .bool (decide (x40.at_ = p1))), (25, .bool (decide (x40.at_ = p1))), (24, .int .i64 p1), (23, .int .i64 x40.at_), (22, .pointer (some ⟨b54, 2, none⟩))] _ ⟨.bool (decide (x40.at_ = p1)), .int .i64 p1, .int .i64 x40.at_, .pointer (some ⟨b54, 2, none⟩), Z, (by rw [g88, Bool.true_and])⟩
    ·skip
     have k90 : x40.bar = true := nF g88
     refine U.x Z Z Z Z ((L 0 Z Z).trans (cB g88)) (by decide) ?_
     refine U.x Z Z Z Z ((L 1 Z Z).trans (cB g88)) (by decide) ?_
     refine U.x Z Z Z Z ((L 2 Z Z).trans (cB g88)) (by decide) ?_
     refine U.x Z Z Z Z ((L 3 Z Z).trans (cB g88)) (by decide) ?_
     refine U.p Z Z (.inl Z) (S.pickF Z ((L 4 Z Z).trans (cB g88)) K) ?_
     exact kk [(26, .bool false), (25, .tuple #[]), (24, .tuple #[]), (23, .tuple #[]), (22, .tuple #[])] _ ⟨.tuple #[], .tuple #[], .tuple #[], .tuple #[], Z, (by rw [g88, Bool.false_and])⟩
 ·have h91 := ifF c31 h30
  refine WP.exit ?_
  refine sqE (sqE (blkE (sqN ?_)))
  have h92 := exitS h91 e28
  refine WP.usreg Z ?_
  refine U.p Z Z (.inl Z) (S.move Z (L 2 Z Z)) ?_
  refine U.p Z Z (.inl Z) (S.assign Z (L 0 Z Z)) ?_
  refine U.done (nr Z) ?_
  refine WP.ret ?_
  refine fin.slot (.inr Z) Z (L 0 Z Z) ⟨V23, Z, le24, ?_⟩
  have ow93 := ow25.pick 2 Z
  have ow94 := ow93.pick 2 Z
  have ow95 := ow94.pick 2 Z
  have ow96 := ow95.pick 3 Z
  have e97 := Option.some.inj h92
  subst e97
  exact ⟨v12, Z, ow96⟩
theorem wk_storage_Storage_Last (V : Vw) (Rs : List At) (p0 : Tstorage_Storage) (p1 : Int) (b1 : Nat) (z2 : Nat) (v4 : Value) (v6 : Value) (hs7 : List Value) (v9 : Value) (hs10 : List Value) (v12 : Value) (hs13 : List Value) (v15 : Value) (ow : Ow V (.pt b1 (.cells z2 [v4, v6, v9, v12, v15]) :: .os RT_Tref16_Event v4 p0.events :: .oss (RO.os (RT.int .i64)) v6 hs7 p0.seen :: .oss (RO.om RT.bool false) v9 hs10 p0.has :: .oss (RO.om (RT.int .i64) false) v12 hs13 p0.now :: .om (RT.int .i64) false v15 p0.last :: Rs)) (r : Int) (h : storage_Storage_Last p0 p1 = some r) : ∃ v V', Cl Try.prog 0 21 #[.pointer (some ⟨b1, 0, none⟩), .int .i64 p1] V.H v V'.H ∧ V.le V' ∧ (v = .int .i64 r ∧ Ow V' (.pt b1 (.cells z2 [v4, v6, v9, v12, v15]) :: .os RT_Tref16_Event v4 p0.events :: .oss (RO.os (RT.int .i64)) v6 hs7 p0.seen :: .oss (RO.om RT.bool false) v9 hs10 p0.has :: .oss (RO.om (RT.int .i64) false) v12 hs13 p0.now :: .om (RT.int .i64) false v15 p0.last :: Rs)) := by
 refine Ct.of (Nat.zero_le _) Try.func21 Z (nr Z) ?_
 unfold storage_Storage_Last at h
 refine WP.usreg Z ?_
 refine U.p Z Z (.inl Z) (S.assign Z K) ?_
 refine U.done (nr Z) ?_
 refine WP.seq ?_
 refine WP.usreg Z ?_
 refine U.p Z Z (.inl Z) (S.move Z (L 1 Z Z)) ?_
 refine U.p Z Z (.inl Z) (S.nilP Z (.inl Z) (L 0 Z Z) K Try.underlying24) ?_
 refine U.done (nr Z) ?_
 refine WP.cond false (L 0 Z Z) Z (fun h => by cases h) (fun _ => ?_)
 refine WP.skip ?_
 refine sqN ?_
 refine WP.usreg Z ?_
 refine U.p Z Z (.inl Z) (S.move Z (L 3 Z Z)) ?_
 refine U.p Z Z (.inl Z) (S.nilCheck Z (L 0 Z Z)) ?_
 refine U.p (v := .pointer (some ⟨b1, 4, none⟩)) Z Z (.inl Z) (S.fieldAddr Z (L 0 Z Z) Try.underlying62 Z ti58 Z Z) ?_
 refine U.k Z Z (.inl Z) (S.load Z (L 0 Z Z) Try.underlying58 Z ((ow.own (k := 0) Z).cell Z)) nd ?_
 refine U.p Z Z (.inl Z) (S.move Z (L 8 Z Z)) ?_
 refine O.lookup1 (k := 5) 0 ow Z Z Z (.inl Z) Z (L 1 Z Z) (L 0 Z Z) Try.underlying58 Try.underlying3 ti3 Z (cell_vrel Z) (fun b17 hlt19 => nd) (fun b17 u18 hlt19 hr20 => ?_)
 obtain rfl : u18 = .int .i64 ((mG p0.last p1).getD 0) := (List.cons.inj (vrel_cell hr20)).1
 refine U.p Z Z (.inl Z) (S.assign Z (L 0 Z Z)) ?_
 refine U.done (nr Z) ?_
 refine WP.ret ?_
 refine fin.slot (.inr Z) Z (L 0 Z Z) ⟨V, Z, (.refl _), ?_⟩
 have e22 := Option.some.inj h
 subst e22
 exact ⟨rfl, ow⟩
theorem wk_law16_same (V : Vw) (Rs : List At) (p0 : Tstorage_Storage) (p1 : Tref16_Storage) (p2 : Tlaw16_Call) (b1 : Nat) (z2 : Nat) (v4 : Value) (v6 : Value) (hs7 : List Value) (v9 : Value) (hs10 : List Value) (v12 : Value) (hs13 : List Value) (v15 : Value) (b17 : Nat) (z18 : Nat) (v20 : Value) (v22 : Value) (hs23 : List Value) (ow : Ow V (.pt b1 (.cells z2 [v4, v6, v9, v12, v15]) :: .os RT_Tref16_Event v4 p0.events :: .oss (RO.os (RT.int .i64)) v6 hs7 p0.seen :: .oss (RO.om RT.bool false) v9 hs10 p0.has :: .oss (RO.om (RT.int .i64) false) v12 hs13 p0.now :: .om (RT.int .i64) false v15 p0.last :: .pt b17 (.cells z18 [.int .i64 p1.n, v20, v22]) :: .os RT_Tref16_Event v20 p1.e :: .oss (RO.os (RT.int .i64)) v22 hs23 p1.come :: Rs)) (r : Bool) (h : law16_same p0 p1 p2 = some r) : ∃ v V', Cl Try.prog 0 27 #[.pointer (some ⟨b1, 0, none⟩), .pointer (some ⟨b17, 0, none⟩), .agg #[.int .i64 p2.kind, .int .i64 p2.t, .int .i64 p2.n, .int .i64 p2.at_, .int .i64 p2.val]] V.H v V'.H ∧ V.le V' ∧ (v = .bool r ∧ Ow V' (.pt b1 (.cells z2 [v4, v6, v9, v12, v15]) :: .os RT_Tref16_Event v4 p0.events :: .oss (RO.os (RT.int .i64)) v6 hs7 p0.seen :: .oss (RO.om RT.bool false) v9 hs10 p0.has :: .oss (RO.om (RT.int .i64) false) v12 hs13 p0.now :: .om (RT.int .i64) false v15 p0.last :: .pt b17 (.cells z18 [.int .i64 p1.n, v20, v22]) :: .os RT_Tref16_Event v20 p1.e :: .oss (RO.os (RT.int .i64)) v22 hs23 p1.come :: Rs)) := by
 refine Ct.of (Nat.zero_le _) Try.func27 Z (nr Z) ?_
 unfold law16_same at h
 refine WP.usreg Z ?_
 refine O.box ow Z Z (.inl Z) Z (L 2 Z Z) (by simp [topV]) Z nd (fun b25 V26 le27 ow28 => ?_)
 refine U.p Z Z (.inl Z) (S.assign Z K) ?_
 refine U.done (nr Z) ?_
 refine WP.usreg Z ?_
 refine U.p Z Z (.inl Z) (S.move Z (L 2 Z Z)) ?_
 have ow30 := ow28.pick 6 Z
 have ow31 := ow30.pick 6 Z
 have ow32 := ow31.pick 6 Z
 have ow33 := ow32.pick 6 Z
 have ow34 := ow33.pick 6 Z
 have ow35 := ow34.pick 6 Z
 obtain ⟨x36, hx37, h38⟩ := bindS h
 refine O.call (V := V26) Z Z (.inl Z) Z en24 (aC (L 0 Z Z) aN) (wk_storage_Storage_Events V26 _ p0 b1 z2 v4 v6 hs7 v9 hs10 v12 hs13 v15 ow35 _ hx37) (fun _ _ _ _ => nd) (fun v39 V40 le41 hp42 => ?_)
 obtain ⟨_, rfl, ow43⟩ := hp42
 refine U.p Z Z (.inl Z) (S.assign Z (L 0 Z Z)) ?_
 refine U.done (nr Z) ?_
 refine WP.seq ?_
 refine WP.seqI (fun l V' => ∃ (x46 : Bool), l = [(0, .pointer (some ⟨b1, 0, none⟩)), (1, .pointer (some ⟨b17, 0, none⟩)), (5, .pointer (some ⟨b25, 0, none⟩)), (7, v39), (39, .bool x46)] ∧ V40.le V' ∧ Ow V' (.pt b1 (.cells z2 [v4, v6, v9, v12, v15]) :: .os RT_Tref16_Event v4 p0.events :: .oss (RO.os (RT.int .i64)) v6 hs7 p0.seen :: .oss (RO.om RT.bool false) v9 hs10 p0.has :: .oss (RO.om (RT.int .i64) false) v12 hs13 p0.now :: .om (RT.int .i64) false v15 p0.last :: .pt b17 (.cells z18 [.int .i64 p1.n, v20, v22]) :: .os RT_Tref16_Event v20 p1.e :: .oss (RO.os (RT.int .i64)) v22 hs23 p1.come :: .pt b25 (.cells 0 [.int .i64 p2.kind, .int .i64 p2.t, .int .i64 p2.n, .int .i64 p2.at_, .int .i64 p2.val]) :: .os RT_Tref16_Event v39 x36 :: Rs) ∧ law16_same_k1 p0 p1 p2 x36 x46 = some r) ?_ ?_
 ·rintro _ V47 ⟨x46, rfl, le48, ow49, h50⟩
  unfold law16_same_k1 at h50
  refine WP.cond _ (L 4 Z Z) Z (fun c51 => ?_) (fun c51 => ?_)
  ·have h52 := ifT c51 h50
   refine WP.usreg Z ?_
   refine U.p Z Z (.inl Z) (S.assign Z K) ?_
   refine U.done (nr Z) ?_
   refine WP.ret ?_
   refine sqR ?_
   refine fin.slot (.inr Z) Z (L 0 Z Z) ⟨V47, Z, ((le27.trans le41).trans le48), ?_⟩
   have ow53 := ow49.drop 9 Z
   have ow54 := ow53.drop 9 Z
   have e55 := Option.some.inj h52
   subst e55
   exact ⟨rfl, ow54⟩
  ·have h56 := ifF c51 h50
   refine WP.skip ?_
   refine sqN ?_
   refine WP.seq ?_
   refine WP.usreg Z ?_
   refine U.p Z Z (.inl Z) (S.move Z (L 3 Z Z)) ?_
   refine U.p Z Z (.inl Z) (ow49.oslen (k := 10) Z Z (L 0 Z Z) Try.underlying53) ?_
   refine U.p Z Z (.inl Z) (S.move Z K) ?_
   refine U.done (nr Z) ?_
   refine WP.blk ?_
   unfold law16_same_l1 at h56
   obtain ⟨n59, hn58⟩ := loopO_some.1 h56
   refine WP.loopI2 (fun n l V' => ∃ (x57 : Int), l = [(0, .pointer (some ⟨b1, 0, none⟩)), (1, .pointer (some ⟨b17, 0, none⟩)), (5, .pointer (some ⟨b25, 0, none⟩)), (7, v39), (40, v39), (41, .int .i64 (x36.length : Int)), (42, .int .i64 x57)] ∧ V47.le V' ∧ Ow V' (.pt b1 (.cells z2 [v4, v6, v9, v12, v15]) :: .os RT_Tref16_Event v4 p0.events :: .oss (RO.os (RT.int .i64)) v6 hs7 p0.seen :: .oss (RO.om RT.bool false) v9 hs10 p0.has :: .oss (RO.om (RT.int .i64) false) v12 hs13 p0.now :: .om (RT.int .i64) false v15 p0.last :: .pt b17 (.cells z18 [.int .i64 p1.n, v20, v22]) :: .os RT_Tref16_Event v20 p1.e :: .oss (RO.os (RT.int .i64)) v22 hs23 p1.come :: .pt b25 (.cells 0 [.int .i64 p2.kind, .int .i64 p2.t, .int .i64 p2.n, .int .i64 p2.at_, .int .i64 p2.val]) :: .os RT_Tref16_Event v39 x36 :: Rs) ∧ itO (fun s => law16_same_l1b p0 p1 p2 x36 s) n x57 = some r) n59 _ ⟨0, Z, .refl _, ow49, hn58⟩ (allCons (L 3 Z Z) (allCons (L 4 Z Z) (allCons (L 5 Z Z) (allCons (L 6 Z Z) (allCons (L 2 Z Z) (allCons (L 1 Z Z) (allCons (L 0 Z Z) allNil))))))) ?_
   rintro _ _ V60 ⟨x57, rfl, le61, ow62, h66⟩
   obtain ⟨m63, q64, rfl, h67, e65⟩ := itS h66
   replace h67 : law16_same_l1b p0 p1 p2 x36 x57 = some q64 := h67
   unfold law16_same_l1b at h67
   refine WP.usreg Z ?_
   refine U.p Z Z (.inl Z) (S.lss Z (L 6 Z Z) (L 5 Z Z)) ?_
   refine U.done (nr Z) ?_
   refine WP.seq ?_
   refine WP.cond _ (L 0 Z Z) Z (fun c68 => ?_) (fun c68 => ?_)
   ·have h69 := ifT c68 h67
    refine WP.skip ?_
    refine sqN ?_
    refine WP.seq ?_
    refine WP.blk ?_
    refine WP.usreg Z ?_
    refine U.p Z Z (.inl Z) (S.move Z (L 7 Z Z)) ?_
    obtain ⟨x70, hx71, h72⟩ := bindS h69
    obtain ⟨b73, o74, n75, c76, hv77⟩ := ow62.ospt (k := 10) Z hx71
    obtain ⟨_, hv78, _⟩ := ow62.osel (k := 10) Z hv77 hx71
    refine U.p Z Z (.inl Z) (S.index Z ((L 6 Z Z).trans hv78) (L 8 Z Z) Try.underlying53 ti55 (ix_ge hx71) (ix_lt hx71)) ?_
    obtain ⟨cs79, hv80, hlt81, hr82, hc83⟩ := ow62.osel (k := 10) Z hv77 hx71
    obtain rfl : cs79 = [.int .i64 x70.thread, .bool x70.bar, .int .i64 x70.at_, .int .i64 x70.val] := hr82
    refine U.k Z Z (.inl Z) (S.loadN (cs := [.int .i64 x70.thread, .bool x70.bar, .int .i64 x70.at_, .int .i64 x70.val]) Z (L 0 Z Z) Try.underlying55 Z ti55 Z hc83) nd ?_
    refine O.alloc ow62 Z Z (.inl Z) Z ti55 Z Z nd (fun b84 V85 le86 ow87 => ?_)
    refine U.p Z Z (.inl Z) (S.assign Z (L 3 Z Z)) ?_
    refine O.store (k := 0) (cs := [.int .i64 x70.thread, .bool x70.bar, .int .i64 x70.at_, .int .i64 x70.val]) (c' := [.int .i64 x70.thread, .bool x70.bar, .int .i64 x70.at_, .int .i64 x70.val]) ow87 Z Z Z (.inl Z) Z (L 1 Z Z) (L 2 Z Z) ti55 (by simp [topV]) Z Z (nr Z) Z Z nd (fun V89 le90 ow91 => ?_)
    refine U.done (nr Z) ?_
    refine WP.usdreg Z Z Z ?_
    refine U.p (v := .pointer (some ⟨b84, 0, none⟩)) Z Z (.inl Z) (S.fieldAddr Z (L 1 Z Z) Try.underlying55 Z ti3 Z Z) ?_
    refine U.k Z Z (.inl Z) (S.load Z (L 0 Z Z) Try.underlying3 Z ((ow91.own (k := 0) Z).cell Z)) (fun _ => (okH.nil (fun r h => by cases h; exact (ow91.own (k := 0) Z).lt))) ?_
    refine U.p (v := .pointer (some ⟨b84, 1, none⟩)) Z Z (.inl Z) (S.fieldAddr Z (L 3 Z Z) Try.underlying55 Z ti4 Z Z) ?_
    refine U.k Z Z (.inl Z) (S.load Z (L 0 Z Z) Try.underlying4 Z ((ow91.own (k := 0) Z).cell Z)) (fun _ => (okH.cons trivial (okH.nil (fun r h => by cases h; exact (ow91.own (k := 0) Z).lt)))) ?_
    refine U.p (v := .pointer (some ⟨b84, 2, none⟩)) Z Z (.inl Z) (S.fieldAddr Z (L 5 Z Z) Try.underlying55 Z ti3 Z Z) ?_
    refine U.k Z Z (.inl Z) (S.load Z (L 0 Z Z) Try.underlying3 Z ((ow91.own (k := 0) Z).cell Z)) (fun _ => (okH.cons trivial (okH.cons trivial (okH.nil (fun r h => by cases h; exact (ow91.own (k := 0) Z).lt))))) ?_
    refine U.p (v := .pointer (some ⟨b84, 3, none⟩)) Z Z (.inl Z) (S.fieldAddr Z (L 7 Z Z) Try.underlying55 Z ti3 Z Z) ?_
    refine U.k Z Z (.inl Z) (S.load Z (L 0 Z Z) Try.underlying3 Z ((ow91.own (k := 0) Z).cell Z)) (fun _ => (okH.cons trivial (okH.cons trivial (okH.cons trivial (okH.nil (fun r h => by cases h; exact (ow91.own (k := 0) Z).lt)))))) ?_
    refine U.p (v := .agg #[.int .i64 x70.thread, .bool x70.bar, .int .i64 x70.at_, .int .i64 x70.val]) Z Z (.inl Z) (S.build (vs := [.int .i64 x70.thread, .bool x70.bar, .int .i64 x70.at_, .int .i64 x70.val]) Z ti39 Z pl39 (aC (L 6 Z Z) (aC (L 4 Z Z) (aC (L 2 Z Z) (aC (L 0 Z Z) aN)))) (allC (by simp [topV]) (allC (by simp [topV]) (allC (by simp [topV]) (allC (by simp [topV]) allN)))) Z) ?_
    refine U.p Z Z (.inl Z) (S.move Z (L 16 Z Z)) ?_
    refine U.p Z Z (.inl Z) (S.nilCheck Z (L 0 Z Z)) ?_
    refine U.p (v := .pointer (some ⟨b17, 1, none⟩)) Z Z (.inl Z) (S.fieldAddr Z (L 0 Z Z) Try.underlying46 Z ti43 Z Z) ?_
    refine U.k Z Z (.inl Z) (S.load Z (L 0 Z Z) Try.underlying43 Z ((ow91.own (k := 7) Z).cell Z)) (fun _ => (okH.cons trivial (okH.cons trivial (okH.cons trivial (okH.cons trivial (okH.nil (fun r h => by cases h; exact (ow91.own (k := 7) Z).lt))))))) ?_
    refine U.p Z Z (.inl Z) (S.move Z (L 13 Z Z)) ?_
    obtain ⟨x92, hx93, h94⟩ := bindS h72
    obtain ⟨b95, o96, n97, c98, hv99⟩ := ow91.ospt (k := 8) Z hx93
    obtain ⟨_, hv100, _⟩ := ow91.osel (k := 8) Z hv99 hx93
    refine U.p Z Z (.inl Z) (S.index Z ((L 1 Z Z).trans hv100) (L 0 Z Z) Try.underlying43 ti39 (ix_ge hx93) (ix_lt hx93)) ?_
    obtain ⟨cs101, hv102, hlt103, hr104, hc105⟩ := ow91.osel (k := 8) Z hv99 hx93
    obtain rfl : cs101 = [.int .i64 x92.thread, .bool x92.bar, .int .i64 x92.at_, .int .i64 x92.val] := hr104
    refine U.k Z Z (.inl Z) (S.loadN (cs := [.int .i64 x92.thread, .bool x92.bar, .int .i64 x92.at_, .int .i64 x92.val]) Z (L 0 Z Z) Try.underlying39 Z ti39 Z hc105) (fun _ => (okH.cons trivial (okH.cons trivial (okH.cons trivial (okH.cons trivial (okH.cons trivial (okH.nil (fun r h => by cases h; exact hlt103)))))))) ?_
    refine U.p Z Z (.inl Z) (S.neqT (flA (flC (.int _ _) (flC (.bool _) (flC (.int _ _) (flC (.int _ _) flN))))) (flA (flC (.int _ _) (flC (.bool _) (flC (.int _ _) (flC (.int _ _) flN))))) Z (L 7 Z Z) (L 0 Z Z) Try.underlying39 (by kernel_rfl) (by kernel_rfl) (.cons _ _ _ _ _ _ (by decide) (part_cell Try.underlying3 Z Z) (part_cell Try.underlying3 Z Z) (eqIn_int Try.underlying3 9998) (.cons _ _ _ _ _ _ (by decide) (part_cell Try.underlying4 Z Z) (part_cell Try.underlying4 Z Z) (eqIn_b Try.underlying4 9998) (.cons _ _ _ _ _ _ (by decide) (part_cell Try.underlying3 Z Z) (part_cell Try.underlying3 Z Z) (eqIn_int Try.underlying3 9998) (.cons _ _ _ _ _ _ (by decide) (part_cell Try.underlying3 Z Z) (part_cell Try.underlying3 Z Z) (eqIn_int Try.underlying3 9998) .nil))))) ?_
    refine U.done (nr Z) ?_
    refine WP.cond _ (L 0 Z Z) Z (fun c106 => ?_) (fun c106 => ?_)
    ·have h107 := ifT c106 h94
     have k108 : ((decide (x70.thread = x92.thread)) && ((x70.bar == x92.bar) && ((decide (x70.at_ = x92.at_)) && ((decide (x70.val = x92.val)) && true)))) = false := nT c106
     refine WP.usreg Z ?_
     refine U.p Z Z (.inl Z) (S.assign Z K) ?_
     refine U.done (nr Z) ?_
     refine WP.ret ?_
     refine blkR (sqR (sqR (blkR (sqR ?_))))
     have h109 := exitS h107 e65
     refine fin.slot (.inr Z) Z (L 0 Z Z) ⟨V89, Z, (((((le27.trans le41).trans le48).trans le61).trans le86).trans le90), ?_⟩
     have ow110 := ow91.drop 0 Z
     have ow111 := ow110.drop 9 Z
     have ow112 := ow111.drop 9 Z
     have e113 := Option.some.inj h109
     subst e113
     exact ⟨rfl, ow112⟩
    ·have h114 := ifF c106 h94
     have k115 : ((decide (x70.thread = x92.thread)) && ((x70.bar == x92.bar) && ((decide (x70.at_ = x92.at_)) && ((decide (x70.val = x92.val)) && true)))) = true := nF c106
     refine WP.skip ?_
     refine blkN (sqN ?_)
     refine WP.ureg Z ?_
     refine U.p Z Z (.inl Z) (S.add Z (L 29 Z Z) K) ?_
     refine U.p Z Z (.inl Z) (S.move Z (L 0 Z Z)) ?_
     refine U.done (nr Z) ?_
     refine sqN ?_
     have ow116 := ow91.drop 0 Z
     exact ⟨_, V89, Z, ⟨m63, Nat.lt_succ_self _, w64 (x57 + 1), Z, ((le61.trans le86).trans le90), ow116, backS h114 e65⟩, (allCons (L 25 Z Z) (allCons (L 26 Z Z) (allCons (L 27 Z Z) (allCons (L 28 Z Z) (allCons (L 29 Z Z) (allCons (L 30 Z Z) (allCons (L 0 Z Z) allNil)))))))⟩
   ·have h117 := ifF c68 h67
    refine WP.exit ?_
    refine sqE (sqE (blkE (sqN ?_)))
    have h118 := exitS h117 e65
    refine WP.seq ?_
    refine WP.usreg Z ?_
    refine U.p Z Z (.inl Z) (S.assign Z K) ?_
    refine U.done (nr Z) ?_
    refine WP.blk ?_
    unfold law16_same_l2 at h118
    obtain ⟨n121, hn120⟩ := loopO_some.1 h118
    refine WP.loopI2 (fun n l V' => ∃ (x119 : Int), l = [(0, .pointer (some ⟨b1, 0, none⟩)), (1, .pointer (some ⟨b17, 0, none⟩)), (5, .pointer (some ⟨b25, 0, none⟩)), (7, v39), (10, .int .i64 x119)] ∧ V60.le V' ∧ Ow V' (.pt b1 (.cells z2 [v4, v6, v9, v12, v15]) :: .os RT_Tref16_Event v4 p0.events :: .oss (RO.os (RT.int .i64)) v6 hs7 p0.seen :: .oss (RO.om RT.bool false) v9 hs10 p0.has :: .oss (RO.om (RT.int .i64) false) v12 hs13 p0.now :: .om (RT.int .i64) false v15 p0.last :: .pt b17 (.cells z18 [.int .i64 p1.n, v20, v22]) :: .os RT_Tref16_Event v20 p1.e :: .oss (RO.os (RT.int .i64)) v22 hs23 p1.come :: .pt b25 (.cells 0 [.int .i64 p2.kind, .int .i64 p2.t, .int .i64 p2.n, .int .i64 p2.at_, .int .i64 p2.val]) :: .os RT_Tref16_Event v39 x36 :: Rs) ∧ itO (fun s => law16_same_l2b p0 p1 p2 x36 s) n x119 = some r) n121 _ ⟨0, Z, .refl _, ow62, hn120⟩ (allCons (L 2 Z Z) (allCons (L 3 Z Z) (allCons (L 4 Z Z) (allCons (L 5 Z Z) (allCons (L 0 Z Z) allNil))))) ?_
    rintro _ _ V122 ⟨x119, rfl, le123, ow124, h128⟩
    obtain ⟨m125, q126, rfl, h129, e127⟩ := itS h128
    replace h129 : law16_same_l2b p0 p1 p2 x36 x119 = some q126 := h129
    unfold law16_same_l2b at h129
    refine WP.seq ?_
    refine WP.usreg Z ?_
    refine U.p Z Z (.inl Z) (S.move Z (L 4 Z Z)) ?_
    refine U.p Z Z (.inl Z) (S.move Z (L 4 Z Z)) ?_
    refine U.p Z Z (.inl Z) (ow124.oslen (k := 10) Z Z (L 0 Z Z) Try.underlying53) ?_
    refine U.p Z Z (.inl Z) (S.add Z (L 0 Z Z) K) ?_
    refine U.p Z Z (.inl Z) (S.leq Z (L 3 Z Z) (L 0 Z Z)) ?_
    refine U.done (nr Z) ?_
    refine WP.cond _ (L 0 Z Z) Z (fun c130 => ?_) (fun c130 => ?_)
    ·have h131 := ifT c130 h129
     refine WP.skip ?_
     refine sqN ?_
     refine WP.seq ?_
     refine WP.blk ?_
     refine WP.seq ?_
     refine WP.usreg Z ?_
     refine U.p Z Z (.inl Z) (S.assign Z K) ?_
     refine U.done (nr Z) ?_
     refine WP.blk ?_
     unfold law16_same_l3 at h131
     obtain ⟨n134, hn133⟩ := loopO_some.1 h131
     refine WP.loopI2 (fun n l V' => ∃ (x132 : Int), l = [(0, .pointer (some ⟨b1, 0, none⟩)), (1, .pointer (some ⟨b17, 0, none⟩)), (5, .pointer (some ⟨b25, 0, none⟩)), (7, v39), (10, .int .i64 x119), (11, .int .i64 x132)] ∧ V122.le V' ∧ Ow V' (.pt b1 (.cells z2 [v4, v6, v9, v12, v15]) :: .os RT_Tref16_Event v4 p0.events :: .oss (RO.os (RT.int .i64)) v6 hs7 p0.seen :: .oss (RO.om RT.bool false) v9 hs10 p0.has :: .oss (RO.om (RT.int .i64) false) v12 hs13 p0.now :: .om (RT.int .i64) false v15 p0.last :: .pt b17 (.cells z18 [.int .i64 p1.n, v20, v22]) :: .os RT_Tref16_Event v20 p1.e :: .oss (RO.os (RT.int .i64)) v22 hs23 p1.come :: .pt b25 (.cells 0 [.int .i64 p2.kind, .int .i64 p2.t, .int .i64 p2.n, .int .i64 p2.at_, .int .i64 p2.val]) :: .os RT_Tref16_Event v39 x36 :: Rs) ∧ itO (fun s => law16_same_l3b p0 p1 x119 s) n x132 = some q126) n134 _ ⟨(-1), Z, .refl _, ow124, hn133⟩ (allCons (L 6 Z Z) (allCons (L 7 Z Z) (allCons (L 8 Z Z) (allCons (L 9 Z Z) (allCons (L 10 Z Z) (allCons (L 0 Z Z) allNil)))))) ?_
     rintro _ _ V135 ⟨x132, rfl, le136, ow137, h141⟩
     obtain ⟨m138, q139, rfl, h142, e140⟩ := itS h141
     replace h142 : law16_same_l3b p0 p1 x119 x132 = some q139 := h142
     unfold law16_same_l3b at h142
     refine WP.seq ?_
     refine WP.usreg Z ?_
     refine U.p Z Z (.inl Z) (S.move Z (L 5 Z Z)) ?_
     refine U.p Z Z (.inl Z) (S.move Z (L 2 Z Z)) ?_
     refine U.p Z Z (.inl Z) (S.nilCheck Z (L 0 Z Z)) ?_
     refine U.p (v := .pointer (some ⟨b17, 0, none⟩)) Z Z (.inl Z) (S.fieldAddr Z (L 0 Z Z) Try.underlying46 Z ti3 Z Z) ?_
     refine U.k Z Z (.inl Z) (S.load Z (L 0 Z Z) Try.underlying3 Z ((ow137.own (k := 6) Z).cell Z)) nd ?_
     refine U.p Z Z (.inl Z) (S.leq Z (L 4 Z Z) (L 0 Z Z)) ?_
     refine U.done (nr Z) ?_
     refine WP.cond _ (L 0 Z Z) Z (fun c143 => ?_) (fun c143 => ?_)
     ·have h144 := ifT c143 h142
      refine WP.skip ?_
      refine sqN ?_
      refine WP.seq ?_
      refine WP.blk ?_
      refine WP.usreg Z ?_
      refine U.p Z Z (.inl Z) (S.move Z (L 6 Z Z)) ?_
      refine U.p Z Z (.inl Z) (S.move Z (L 12 Z Z)) ?_
      refine U.p Z Z (.inl Z) (S.move Z (L 12 Z Z)) ?_
      have ow145 := ow137.pick 5 Z
      have ow146 := ow145.pick 5 Z
      have ow147 := ow146.pick 5 Z
      have ow148 := ow147.pick 5 Z
      have ow149 := ow148.pick 5 Z
      have ow150 := ow149.pick 5 Z
      obtain ⟨x151, hx152, h153⟩ := bindS h144
      refine O.call (V := V135) Z Z (.inl Z) Z en20 (aC (L 2 Z Z) (aC (L 1 Z Z) (aC (L 0 Z Z) aN))) (wk_storage_Storage_Seen V135 _ p0 x132 x119 b1 z2 v4 v6 hs7 v9 hs10 v12 hs13 v15 ow150 _ hx152) (fun _ _ _ _ => nd) (fun v154 V155 le156 hp157 => ?_)
      obtain ⟨rfl, ow158⟩ := hp157
      refine U.p Z Z (.inl Z) (S.move Z (L 11 Z Z)) ?_
      refine U.p Z Z (.inl Z) (S.move Z (L 16 Z Z)) ?_
      refine U.p Z Z (.inl Z) (S.move Z (L 16 Z Z)) ?_
      have ow159 := ow158.pick 8 Z
      have ow160 := ow159.pick 8 Z
      have ow161 := ow160.pick 8 Z
      obtain ⟨x162, hx163, h164⟩ := bindS h153
      refine O.call (V := V155) Z Z (.inl Z) Z en35 (aC (L 2 Z Z) (aC (L 1 Z Z) (aC (L 0 Z Z) aN))) (wk_ref16_Storage_Has V155 _ p1 x132 x119 b17 z18 v20 v22 hs23 ow161 _ hx163) (fun _ _ _ _ => nd) (fun v165 V166 le167 hp168 => ?_)
      obtain ⟨rfl, ow169⟩ := hp168
      refine U.p Z Z (.inl Z) (S.neqB Z (L 4 Z Z) (L 0 Z Z) Try.underlying4) ?_
      refine U.p Z Z (.inl Z) (S.move Z (L 0 Z Z)) ?_
      obtain ⟨y170, hy171, h172⟩ := bindS h164
      refine U.joinX 20 (fun e H => ∃ (u173 u174 u175 u176 u177 u178 u179 u180 u181 : Value), ∃ V' : Vw, H = V'.H ∧ V166.le V' ∧ e = [(99, .bool y170), (98, u173), (97, u174), (96, u175), (95, u176), (94, u177), (93, u178), (92, u179), (91, u180), (90, u181)] ∧ Ow V' (.pt b17 (.cells z18 [.int .i64 p1.n, v20, v22]) :: .os RT_Tref16_Event v20 p1.e :: .oss (RO.os (RT.int .i64)) v22 hs23 p1.come :: .pt b1 (.cells z2 [v4, v6, v9, v12, v15]) :: .os RT_Tref16_Event v4 p0.events :: .oss (RO.os (RT.int .i64)) v6 hs7 p0.seen :: .oss (RO.om RT.bool false) v9 hs10 p0.has :: .oss (RO.om (RT.int .i64) false) v12 hs13 p0.now :: .om (RT.int .i64) false v15 p0.last :: .pt b25 (.cells 0 [.int .i64 p2.kind, .int .i64 p2.t, .int .i64 p2.n, .int .i64 p2.at_, .int .i64 p2.val]) :: .os RT_Tref16_Event v39 x36 :: Rs)) ?_ ?_
      ·rintro _ _ ⟨u173, u174, u175, u176, u177, u178, u179, u180, u181, V182, rfl, le183, rfl, ow184⟩
       refine U.done (nr Z) ?_
       refine WP.cond _ (L 0 Z Z) Z (fun c185 => ?_) (fun c185 => ?_)
       ·have h186 := ifT c185 h172
        refine WP.usreg Z ?_
        refine U.p Z Z (.inl Z) (S.assign Z K) ?_
        refine U.done (nr Z) ?_
        refine WP.ret ?_
        refine blkR (sqR (sqR (blkR (sqR (blkR (sqR (sqR (blkR (sqR ?_)))))))))
        have h187 := exitS h186 e140
        have h188 := exitS h187 e127
        refine fin.slot (.inr Z) Z (L 0 Z Z) ⟨V182, Z, ((((((((le27.trans le41).trans le48).trans le61).trans le123).trans le136).trans le156).trans le167).trans le183), ?_⟩
        have ow189 := ow184.drop 9 Z
        have ow190 := ow189.drop 9 Z
        have ow191 := ow190.pick 2 Z
        have ow192 := ow191.pick 2 Z
        have ow193 := ow192.pick 2 Z
        have ow194 := ow193.pick 8 Z
        have ow195 := ow194.pick 8 Z
        have ow196 := ow195.pick 8 Z
        have ow197 := ow196.pick 8 Z
        have ow198 := ow197.pick 8 Z
        have ow199 := ow198.pick 8 Z
        have e200 := Option.some.inj h188
        subst e200
        exact ⟨rfl, ow199⟩
       ·have h201 := ifF c185 h172
        refine WP.skip ?_
        refine blkN (sqN ?_)
        refine WP.ureg Z ?_
        refine U.p Z Z (.inl Z) (S.move Z (L 31 Z Z)) ?_
        refine U.p Z Z (.inl Z) (S.add Z (L 0 Z Z) K) ?_
        refine U.p Z Z (.inl Z) (S.assign Z (L 0 Z Z)) ?_
        refine U.done (nr Z) ?_
        refine sqN ?_
        have ow202 := ow184.pick 10 Z
        have ow203 := ow202.pick 10 Z
        have ow204 := ow203.pick 4 Z
        have ow205 := ow204.pick 4 Z
        have ow206 := ow205.pick 4 Z
        have ow207 := ow206.pick 10 Z
        have ow208 := ow207.pick 10 Z
        have ow209 := ow208.pick 10 Z
        have ow210 := ow209.pick 10 Z
        have ow211 := ow210.pick 10 Z
        have ow212 := ow211.pick 10 Z
        exact ⟨_, V182, Z, ⟨m138, Nat.lt_succ_self _, w64 (x132 + 1), Z, (((le136.trans le156).trans le167).trans le183), ow212, backS h201 e140⟩, (allCons (L 29 Z Z) (allCons (L 30 Z Z) (allCons (L 31 Z Z) (allCons (L 32 Z Z) (allCons (L 33 Z Z) (allCons (L 0 Z Z) allNil))))))⟩
      ·intro kk
       refine bcase (b := !(x151 == x162)) (fun g213 => ?_) (fun g213 => ?_)
       ·have h214 := ifT g213 hy171
        have k215 : (x151 == x162) = false := nT g213
        refine U.x Z Z Z Z ((L 0 Z Z).trans (cB g213)) (by decide) ?_
        refine U.x Z Z Z Z ((L 1 Z Z).trans (cB g213)) (by decide) ?_
        refine U.x Z Z Z Z ((L 2 Z Z).trans (cB g213)) (by decide) ?_
        refine U.x Z Z Z Z ((L 3 Z Z).trans (cB g213)) (by decide) ?_
        refine U.x Z Z Z Z ((L 4 Z Z).trans (cB g213)) (by decide) ?_
        refine U.x Z Z Z Z ((L 5 Z Z).trans (cB g213)) (by decide) ?_
        refine U.x Z Z Z Z ((L 6 Z Z).trans (cB g213)) (by decide) ?_
        refine U.x Z Z Z Z ((L 7 Z Z).trans (cB g213)) (by decide) ?_
        refine U.x Z Z Z Z ((L 8 Z Z).trans (cB g213)) (by decide) ?_
        refine U.p Z Z (.inl Z) (S.pickT Z ((L 9 Z Z).trans (cB g213)) K) ?_
        have e216 := Option.some.inj h214
        subst e216
        exact kk [(99, .bool true), (98, .tuple #[]), (97, .tuple #[]), (96, .tuple #[]), (95, .tuple #[]), (94, .tuple #[]), (93, .tuple #[]), (92, .tuple #[]), (91, .tuple #[]), (90, .tuple #[])] _ ⟨.tuple #[], .tuple #[], .tuple #[], .tuple #[], .tuple #[], .tuple #[], .tuple #[], .tuple #[], .tuple #[], V166, Z, (.refl _), Z, ow169⟩
       ·have h217 := ifF g213 hy171
        have k218 : (x151 == x162) = true := nF g213
        refine U.p Z Z (.inr ⟨_, _, _, Z, Z, ((L 0 Z Z).trans (cB g213))⟩) (S.move Z (L 16 Z Z)) ?_
        refine U.p Z Z (.inr ⟨_, _, _, Z, Z, ((L 1 Z Z).trans (cB g213))⟩) (S.move Z (L 22 Z Z)) ?_
        refine U.p Z Z (.inr ⟨_, _, _, Z, Z, ((L 2 Z Z).trans (cB g213))⟩) (S.move Z (L 22 Z Z)) ?_
        have ow219 := ow169.pick 8 Z
        have ow220 := ow219.pick 8 Z
        have ow221 := ow220.pick 8 Z
        have ow222 := ow221.pick 8 Z
        have ow223 := ow222.pick 8 Z
        have ow224 := ow223.pick 8 Z
        obtain ⟨x225, hx226, h227⟩ := bindS h217
        refine O.call (V := V166) Z Z (.inr ⟨_, _, _, Z, Z, ((L 3 Z Z).trans (cB g213))⟩) Z en25 (aC (L 2 Z Z) (aC (L 1 Z Z) (aC (L 0 Z Z) aN))) (wk_storage_Storage_May V166 _ p0 x132 x119 b1 z2 v4 v6 hs7 v9 hs10 v12 hs13 v15 ow224 _ hx226) (fun _ _ _ _ => nd) (fun v228 V229 le230 hp231 => ?_)
        obtain ⟨rfl, ow232⟩ := hp231
        refine U.p Z Z (.inr ⟨_, _, _, Z, Z, ((L 4 Z Z).trans (cB g213))⟩) (S.move Z (L 21 Z Z)) ?_
        refine U.p Z Z (.inr ⟨_, _, _, Z, Z, ((L 5 Z Z).trans (cB g213))⟩) (S.move Z (L 26 Z Z)) ?_
        refine U.p Z Z (.inr ⟨_, _, _, Z, Z, ((L 6 Z Z).trans (cB g213))⟩) (S.move Z (L 26 Z Z)) ?_
        have ow233 := ow232.pick 8 Z
        have ow234 := ow233.pick 8 Z
        have ow235 := ow234.pick 8 Z
        obtain ⟨x236, hx237, h238⟩ := bindS h227
        refine O.call (V := V229) Z Z (.inr ⟨_, _, _, Z, Z, ((L 7 Z Z).trans (cB g213))⟩) Z en26 (aC (L 2 Z Z) (aC (L 1 Z Z) (aC (L 0 Z Z) aN))) (wk_ref16_Storage_May V229 _ p1 x132 x119 b17 z18 v20 v22 hs23 ow235 _ hx237) (fun _ _ _ _ => nd) (fun v239 V240 le241 hp242 => ?_)
        obtain ⟨rfl, ow243⟩ := hp242
        refine U.p Z Z (.inr ⟨_, _, _, Z, Z, ((L 8 Z Z).trans (cB g213))⟩) (S.neqB Z (L 4 Z Z) (L 0 Z Z) Try.underlying4) ?_
        refine U.p Z Z (.inl Z) (S.pickF Z ((L 9 Z Z).trans (cB g213)) (L 0 Z Z)) ?_
        have e244 := Option.some.inj h238
        subst e244
        exact kk [(99, .bool (!(x225 == x236))), (98, .bool (!(x225 == x236))), (97, .bool x236), (96, .int .i64 x119), (95, .int .i64 x132), (94, .pointer (some ⟨b17, 0, none⟩)), (93, .bool x225), (92, .int .i64 x119), (91, .int .i64 x132), (90, .pointer (some ⟨b1, 0, none⟩))] _ ⟨.bool (!(x225 == x236)), .bool x236, .int .i64 x119, .int .i64 x132, .pointer (some ⟨b17, 0, none⟩), .bool x225, .int .i64 x119, .int .i64 x132, .pointer (some ⟨b1, 0, none⟩), V240, Z, (le230.trans le241), Z, ow243⟩
     ·have h245 := ifF c143 h142
      refine WP.exit ?_
      refine sqE (sqE (blkE (sqN ?_)))
      have h246 := exitS h245 e140
      refine WP.usreg Z ?_
      refine U.p Z Z (.inl Z) (S.move Z (L 6 Z Z)) ?_
      refine U.p Z Z (.inl Z) (S.move Z (L 11 Z Z)) ?_
      have ow247 := ow137.pick 5 Z
      have ow248 := ow247.pick 5 Z
      have ow249 := ow248.pick 5 Z
      have ow250 := ow249.pick 5 Z
      have ow251 := ow250.pick 5 Z
      have ow252 := ow251.pick 5 Z
      obtain ⟨x253, hx254, h255⟩ := bindS h246
      refine O.call (V := V135) Z Z (.inl Z) Z en22 (aC (L 1 Z Z) (aC (L 0 Z Z) aN)) (wk_storage_Storage_Acked V135 _ p0 x119 b1 z2 v4 v6 hs7 v9 hs10 v12 hs13 v15 ow252 _ hx254) (fun _ _ _ _ => nd) (fun v256 V257 le258 hp259 => ?_)
      obtain ⟨rfl, ow260⟩ := hp259
      refine U.p Z Z (.inl Z) (S.move Z (L 10 Z Z)) ?_
      refine U.p Z Z (.inl Z) (S.move Z (L 14 Z Z)) ?_
      have ow261 := ow260.pick 8 Z
      have ow262 := ow261.pick 8 Z
      have ow263 := ow262.pick 8 Z
      obtain ⟨x264, hx265, h266⟩ := bindS h255
      refine O.call (V := V257) Z Z (.inl Z) Z en37 (aC (L 1 Z Z) (aC (L 0 Z Z) aN)) (wk_ref16_Storage_Acked V257 _ p1 x119 b17 z18 v20 v22 hs23 ow263 _ hx265) (fun _ _ _ _ => nd) (fun v267 V268 le269 hp270 => ?_)
      obtain ⟨rfl, ow271⟩ := hp270
      refine U.p Z Z (.inl Z) (S.neqB Z (L 3 Z Z) (L 0 Z Z) Try.underlying4) ?_
      refine U.done (nr Z) ?_
      refine WP.cond _ (L 0 Z Z) Z (fun c272 => ?_) (fun c272 => ?_)
      ·have h273 := ifT c272 h266
       have k274 : (x253 == x264) = false := nT c272
       refine WP.usreg Z ?_
       refine U.p Z Z (.inl Z) (S.assign Z K) ?_
       refine U.done (nr Z) ?_
       refine WP.ret ?_
       refine blkR (sqR (sqR (blkR (sqR ?_))))
       have h275 := exitS h273 e127
       refine fin.slot (.inr Z) Z (L 0 Z Z) ⟨V268, Z, (((((((le27.trans le41).trans le48).trans le61).trans le123).trans le136).trans le258).trans le269), ?_⟩
       have ow276 := ow271.drop 9 Z
       have ow277 := ow276.drop 9 Z
       have ow278 := ow277.pick 2 Z
       have ow279 := ow278.pick 2 Z
       have ow280 := ow279.pick 2 Z
       have ow281 := ow280.pick 8 Z
       have ow282 := ow281.pick 8 Z
       have ow283 := ow282.pick 8 Z
       have ow284 := ow283.pick 8 Z
       have ow285 := ow284.pick 8 Z
       have ow286 := ow285.pick 8 Z
       have e287 := Option.some.inj h275
       subst e287
       exact ⟨rfl, ow286⟩
      ·have h288 := ifF c272 h266
       have k289 : (x253 == x264) = true := nF c272
       refine WP.skip ?_
       refine blkN (sqN ?_)
       refine WP.ureg Z ?_
       refine U.p Z Z (.inl Z) (S.move Z (L 17 Z Z)) ?_
       refine U.p Z Z (.inl Z) (S.add Z (L 0 Z Z) K) ?_
       refine U.p Z Z (.inl Z) (S.assign Z (L 0 Z Z)) ?_
       refine U.done (nr Z) ?_
       refine sqN ?_
       have ow290 := ow271.pick 10 Z
       have ow291 := ow290.pick 10 Z
       have ow292 := ow291.pick 4 Z
       have ow293 := ow292.pick 4 Z
       have ow294 := ow293.pick 4 Z
       have ow295 := ow294.pick 10 Z
       have ow296 := ow295.pick 10 Z
       have ow297 := ow296.pick 10 Z
       have ow298 := ow297.pick 10 Z
       have ow299 := ow298.pick 10 Z
       have ow300 := ow299.pick 10 Z
       exact ⟨_, V268, Z, ⟨m125, Nat.lt_succ_self _, w64 (x119 + 1), Z, (((le123.trans le136).trans le258).trans le269), ow300, backS h288 e127⟩, (allCons (L 16 Z Z) (allCons (L 17 Z Z) (allCons (L 18 Z Z) (allCons (L 19 Z Z) (allCons (L 0 Z Z) allNil)))))⟩
    ·have h301 := ifF c130 h129
     refine WP.exit ?_
     refine sqE (sqE (blkE (sqN ?_)))
     have h302 := exitS h301 e127
     refine WP.seq ?_
     refine WP.usreg Z ?_
     refine U.p Z Z (.inl Z) (S.assign Z K) ?_
     refine U.done (nr Z) ?_
     refine WP.blk ?_
     have ow304 := ow124.drop 10 Z
     unfold law16_same_l4 at h302
     obtain ⟨n306, hn305⟩ := loopO_some.1 h302
     refine WP.loopI2 (fun n l V' => ∃ (x303 : Int), l = [(0, .pointer (some ⟨b1, 0, none⟩)), (1, .pointer (some ⟨b17, 0, none⟩)), (5, .pointer (some ⟨b25, 0, none⟩)), (12, .int .i64 x303)] ∧ V122.le V' ∧ Ow V' (.pt b1 (.cells z2 [v4, v6, v9, v12, v15]) :: .os RT_Tref16_Event v4 p0.events :: .oss (RO.os (RT.int .i64)) v6 hs7 p0.seen :: .oss (RO.om RT.bool false) v9 hs10 p0.has :: .oss (RO.om (RT.int .i64) false) v12 hs13 p0.now :: .om (RT.int .i64) false v15 p0.last :: .pt b17 (.cells z18 [.int .i64 p1.n, v20, v22]) :: .os RT_Tref16_Event v20 p1.e :: .oss (RO.os (RT.int .i64)) v22 hs23 p1.come :: .pt b25 (.cells 0 [.int .i64 p2.kind, .int .i64 p2.t, .int .i64 p2.n, .int .i64 p2.at_, .int .i64 p2.val]) :: Rs) ∧ itO (fun s => law16_same_l4b p0 p1 p2 s) n x303 = some r) n306 _ ⟨(-1), Z, .refl _, ow304, hn305⟩ (allCons (L 6 Z Z) (allCons (L 7 Z Z) (allCons (L 8 Z Z) (allCons (L 0 Z Z) allNil)))) ?_
     rintro _ _ V307 ⟨x303, rfl, le308, ow309, h313⟩
     obtain ⟨m310, q311, rfl, h314, e312⟩ := itS h313
     replace h314 : law16_same_l4b p0 p1 p2 x303 = some q311 := h314
     unfold law16_same_l4b at h314
     refine WP.seq ?_
     refine WP.usreg Z ?_
     refine U.p Z Z (.inl Z) (S.move Z (L 3 Z Z)) ?_
     refine U.p Z Z (.inl Z) (S.move Z (L 2 Z Z)) ?_
     refine U.p Z Z (.inl Z) (S.nilCheck Z (L 0 Z Z)) ?_
     refine U.p (v := .pointer (some ⟨b17, 0, none⟩)) Z Z (.inl Z) (S.fieldAddr Z (L 0 Z Z) Try.underlying46 Z ti3 Z Z) ?_
     refine U.k Z Z (.inl Z) (S.load Z (L 0 Z Z) Try.underlying3 Z ((ow309.own (k := 6) Z).cell Z)) nd ?_
     refine U.p Z Z (.inl Z) (S.leq Z (L 4 Z Z) (L 0 Z Z)) ?_
     refine U.done (nr Z) ?_
     refine WP.cond _ (L 0 Z Z) Z (fun c315 => ?_) (fun c315 => ?_)
     ·have h316 := ifT c315 h314
      refine WP.skip ?_
      refine sqN ?_
      refine WP.seq ?_
      refine WP.blk ?_
      refine WP.usreg Z ?_
      refine U.p Z Z (.inl Z) (S.move Z (L 6 Z Z)) ?_
      refine U.p Z Z (.inl Z) (S.move Z (L 10 Z Z)) ?_
      refine U.p (v := .pointer (some ⟨b25, 3, none⟩)) Z Z (.inl Z) (S.fieldAddr Z (L 10 Z Z) Try.underlying35 Z ti3 Z Z) ?_
      refine U.k Z Z (.inl Z) (S.load Z (L 0 Z Z) Try.underlying3 Z ((ow309.own (k := 9) Z).cell Z)) nd ?_
      have ow317 := ow309.pick 5 Z
      have ow318 := ow317.pick 5 Z
      have ow319 := ow318.pick 5 Z
      have ow320 := ow319.pick 5 Z
      have ow321 := ow320.pick 5 Z
      have ow322 := ow321.pick 5 Z
      obtain ⟨x323, hx324, h325⟩ := bindS h316
      refine O.call (V := V307) Z Z (.inl Z) Z en13 (aC (L 3 Z Z) (aC (L 2 Z Z) (aC (L 0 Z Z) aN))) (wk_storage_Storage_Read V307 _ p0 x303 p2.at_ b1 z2 v4 v6 hs7 v9 hs10 v12 hs13 v15 ow322 _ hx324) (fun _ _ _ _ => nd) (fun v326 V327 le328 hp329 => ?_)
      obtain ⟨rfl, ow330⟩ := hp329
      refine U.p Z Z (.inl Z) (S.move Z (L 0 Z Z)) ?_
      refine U.p Z Z (.inl Z) (S.extract Z (L 0 Z Z) Z (nr Z)) ?_
      refine U.p Z Z (.inl Z) (S.extract Z (L 1 Z Z) Z (nr Z)) ?_
      refine U.p Z Z (.inl Z) (S.assign Z (L 1 Z Z)) ?_
      refine U.p Z Z (.inl Z) (S.assign Z (L 1 Z Z)) ?_
      refine U.done (nr Z) ?_
      refine WP.usreg Z ?_
      refine U.p Z Z (.inl Z) (S.move Z (L 17 Z Z)) ?_
      refine U.p Z Z (.inl Z) (S.move Z (L 20 Z Z)) ?_
      refine U.p (v := .pointer (some ⟨b25, 3, none⟩)) Z Z (.inl Z) (S.fieldAddr Z (L 20 Z Z) Try.underlying35 Z ti3 Z Z) ?_
      refine U.k Z Z (.inl Z) (S.load Z (L 0 Z Z) Try.underlying3 Z ((ow330.own (k := 9) Z).cell Z)) nd ?_
      have ow331 := ow330.pick 8 Z
      have ow332 := ow331.pick 8 Z
      have ow333 := ow332.pick 8 Z
      obtain ⟨x334, hx335, h336⟩ := bindS h325
      refine O.call (V := V327) Z Z (.inl Z) Z en38 (aC (L 3 Z Z) (aC (L 2 Z Z) (aC (L 0 Z Z) aN))) (wk_ref16_Storage_Read V327 _ p1 x303 p2.at_ b17 z18 v20 v22 hs23 ow333 _ hx335) (fun _ _ _ _ => nd) (fun v337 V338 le339 hp340 => ?_)
      obtain ⟨rfl, ow341⟩ := hp340
      refine U.p Z Z (.inl Z) (S.move Z (L 0 Z Z)) ?_
      refine U.p Z Z (.inl Z) (S.extract Z (L 0 Z Z) Z (nr Z)) ?_
      refine U.p Z Z (.inl Z) (S.extract Z (L 1 Z Z) Z (nr Z)) ?_
      refine U.p Z Z (.inl Z) (S.assign Z (L 1 Z Z)) ?_
      refine U.p Z Z (.inl Z) (S.assign Z (L 1 Z Z)) ?_
      refine U.done (nr Z) ?_
      refine WP.usreg Z ?_
      refine U.p Z Z (.inl Z) (S.move Z (L 11 Z Z)) ?_
      refine U.p Z Z (.inl Z) (S.move Z (L 2 Z Z)) ?_
      refine U.p Z Z (.inl Z) (S.neqI Z (L 1 Z Z) (L 0 Z Z)) ?_
      refine U.p Z Z (.inl Z) (S.move Z (L 0 Z Z)) ?_
      refine U.joinX 8 (fun e H => ∃ (u342 u343 u344 : Value), H = V338.H ∧ e = [(138, .bool ((decide (x323.1 ≠ x334.1)) || (decide (x323.2 ≠ x334.2)))), (137, u342), (136, u343), (135, u344)]) ?_ ?_
      ·rintro _ _ ⟨u342, u343, u344, rfl, rfl⟩
       refine U.done (nr Z) ?_
       refine WP.cond _ (L 0 Z Z) Z (fun c348 => ?_) (fun c348 => ?_)
       ·have h349 := ifT c348 h336
        refine WP.usreg Z ?_
        refine U.p Z Z (.inl Z) (S.assign Z K) ?_
        refine U.done (nr Z) ?_
        refine WP.ret ?_
        refine blkR (sqR (sqR (blkR (sqR ?_))))
        have h350 := exitS h349 e312
        refine fin.slot (.inr Z) Z (L 0 Z Z) ⟨V338, Z, (((((((le27.trans le41).trans le48).trans le61).trans le123).trans le308).trans le328).trans le339), ?_⟩
        have ow351 := ow341.drop 9 Z
        have ow352 := ow351.pick 2 Z
        have ow353 := ow352.pick 2 Z
        have ow354 := ow353.pick 2 Z
        have ow355 := ow354.pick 8 Z
        have ow356 := ow355.pick 8 Z
        have ow357 := ow356.pick 8 Z
        have ow358 := ow357.pick 8 Z
        have ow359 := ow358.pick 8 Z
        have ow360 := ow359.pick 8 Z
        have e361 := Option.some.inj h350
        subst e361
        exact ⟨rfl, ow360⟩
       ·have h362 := ifF c348 h336
        refine WP.skip ?_
        refine blkN (sqN ?_)
        refine WP.ureg Z ?_
        refine U.p Z Z (.inl Z) (S.move Z (L 37 Z Z)) ?_
        refine U.p Z Z (.inl Z) (S.add Z (L 0 Z Z) K) ?_
        refine U.p Z Z (.inl Z) (S.assign Z (L 0 Z Z)) ?_
        refine U.done (nr Z) ?_
        refine sqN ?_
        have ow363 := ow341.pick 9 Z
        have ow364 := ow363.pick 3 Z
        have ow365 := ow364.pick 3 Z
        have ow366 := ow365.pick 3 Z
        have ow367 := ow366.pick 9 Z
        have ow368 := ow367.pick 9 Z
        have ow369 := ow368.pick 9 Z
        have ow370 := ow369.pick 9 Z
        have ow371 := ow370.pick 9 Z
        have ow372 := ow371.pick 9 Z
        exact ⟨_, V338, Z, ⟨m310, Nat.lt_succ_self _, w64 (x303 + 1), Z, ((le308.trans le328).trans le339), ow372, backS h362 e312⟩, (allCons (L 37 Z Z) (allCons (L 38 Z Z) (allCons (L 39 Z Z) (allCons (L 0 Z Z) allNil))))⟩
      ·intro kk
       refine bcase (b := decide (x323.1 ≠ x334.1)) (fun g373 => ?_) (fun g373 => ?_)
       ·skip
        refine U.x Z Z Z Z ((L 0 Z Z).trans (cB g373)) (by decide) ?_
        refine U.x Z Z Z Z ((L 1 Z Z).trans (cB g373)) (by decide) ?_
        refine U.x Z Z Z Z ((L 2 Z Z).trans (cB g373)) (by decide) ?_
        refine U.p Z Z (.inl Z) (S.pickT Z ((L 3 Z Z).trans (cB g373)) K) ?_
        exact kk [(138, .bool true), (137, .tuple #[]), (136, .tuple #[]), (135, .tuple #[])] _ ⟨.tuple #[], .tuple #[], .tuple #[], Z, (by rw [g373, Bool.true_or])⟩
       ·skip
        refine U.p Z Z (.inr ⟨_, _, _, Z, Z, ((L 0 Z Z).trans (cB g373))⟩) (S.move Z (L 14 Z Z)) ?_
        refine U.p Z Z (.inr ⟨_, _, _, Z, Z, ((L 1 Z Z).trans (cB g373))⟩) (S.move Z (L 5 Z Z)) ?_
        refine U.p Z Z (.inr ⟨_, _, _, Z, Z, ((L 2 Z Z).trans (cB g373))⟩) (S.neqI Z (L 1 Z Z) (L 0 Z Z)) ?_
        refine U.p Z Z (.inl Z) (S.pickF Z ((L 3 Z Z).trans (cB g373)) (L 0 Z Z)) ?_
        exact kk [(138, .bool (decide (x323.2 ≠ x334.2))), (137, .bool (decide (x323.2 ≠ x334.2))), (136, .int .i64 x334.2), (135, .int .i64 x323.2)] _ ⟨.bool (decide (x323.2 ≠ x334.2)), .int .i64 x334.2, .int .i64 x323.2, Z, (by rw [g373, Bool.false_or])⟩
     ·have h374 := ifF c315 h314
      refine WP.exit ?_
      refine sqE (sqE (blkE (sqN ?_)))
      have h375 := exitS h374 e312
      refine WP.usdreg Z Z Z ?_
      refine U.p Z Z (.inl Z) (S.move Z (L 6 Z Z)) ?_
      refine U.p (v := .pointer (some ⟨b25, 3, none⟩)) Z Z (.inl Z) (S.fieldAddr Z (L 9 Z Z) Try.underlying35 Z ti3 Z Z) ?_
      refine U.k Z Z (.inl Z) (S.load Z (L 0 Z Z) Try.underlying3 Z ((ow309.own (k := 9) Z).cell Z)) (fun _ => (okH.nil (fun r h => by cases h; exact (ow309.own (k := 9) Z).lt))) ?_
      have ow376 := ow309.pick 5 Z
      have ow377 := ow376.pick 5 Z
      have ow378 := ow377.pick 5 Z
      have ow379 := ow378.pick 5 Z
      have ow380 := ow379.pick 5 Z
      have ow381 := ow380.pick 5 Z
      obtain ⟨x382, hx383, h384⟩ := bindS h375
      refine O.call (V := V307) Z Z (.inl Z) Z en28 (aC (L 2 Z Z) (aC (L 0 Z Z) aN)) (wk_storage_Storage_Order V307 _ p0 p2.at_ b1 z2 v4 v6 hs7 v9 hs10 v12 hs13 v15 ow381 _ hx383) (fun v385 V386 le387 hp388 => by obtain ⟨_, rfl, ow389⟩ := hp388; exact (fun _ => (okH.cons (Or.inl Z) (okH.nil (fun r h => nomatch h))))) (fun v385 V386 le387 hp388 => ?_)
      obtain ⟨_, rfl, ow389⟩ := hp388
      refine U.p Z Z (.inl Z) (S.move Z (L 11 Z Z)) ?_
      refine U.p (v := .pointer (some ⟨b25, 3, none⟩)) Z Z (.inl Z) (S.fieldAddr Z (L 13 Z Z) Try.underlying35 Z ti3 Z Z) ?_
      refine U.k Z Z (.inl Z) (S.load Z (L 0 Z Z) Try.underlying3 Z ((ow389.own (k := 10) Z).cell Z)) (fun _ => (okH.cons (Or.inr (Or.inl ((ow389.own (k := 10) Z).get.trans (ow381.own (k := 9) Z).get.symm))) (okH.cons trivial (okH.nil (fun r h => by cases h; exact (ow389.own (k := 10) Z).lt))))) ?_
      have ow392 := ow389.pick 9 Z
      have ow393 := ow392.pick 9 Z
      have ow394 := ow393.pick 9 Z
      obtain ⟨x395, hx396, h397⟩ := bindS h384
      refine O.call (V := V386) Z Z (.inl Z) Z en39 (aC (L 2 Z Z) (aC (L 0 Z Z) aN)) (wk_ref16_Storage_Order V386 _ p1 p2.at_ b17 z18 v20 v22 hs23 ow394 _ hx396) (fun v398 V399 le400 hp401 => by obtain ⟨_, rfl, ow402⟩ := hp401; exact (fun _ => (okH.cons (Or.inl Z) (okH.cons Z (okH.cons (Or.inl Z) (okH.nil (fun r h => nomatch h))))))) (fun v398 V399 le400 hp401 => ?_)
      obtain ⟨_, rfl, ow402⟩ := hp401
      refine U.p Z Z (.inl Z) (S.assign Z (L 4 Z Z)) ?_
      refine U.p Z Z (.inl Z) (S.assign Z (L 1 Z Z)) ?_
      refine U.done (nr Z) ?_
      refine WP.usreg Z ?_
      refine U.p Z Z (.inl Z) (S.assign Z K) ?_
      refine U.done (nr Z) ?_
      refine WP.seq ?_
      refine WP.usreg Z ?_
      refine U.p Z Z (.inl Z) (S.move Z (L 2 Z Z)) ?_
      refine U.p Z Z (.inl Z) (ow402.oslen (k := 4) Z Z (L 0 Z Z) Try.underlying26) ?_
      refine U.p Z Z (.inl Z) (S.move Z (L 3 Z Z)) ?_
      refine U.p Z Z (.inl Z) (ow402.oslen (k := 0) Z Z (L 0 Z Z) Try.underlying26) ?_
      refine U.p Z Z (.inl Z) (S.neqI Z (L 2 Z Z) (L 0 Z Z)) ?_
      refine U.done (nr Z) ?_
      refine WP.cond _ (L 0 Z Z) Z (fun c405 => ?_) (fun c405 => ?_)
      ·have h406 := ifT c405 h397
       refine WP.usreg Z ?_
       refine U.p Z Z (.inl Z) (S.assign Z K) ?_
       refine U.done (nr Z) ?_
       refine WP.ret ?_
       refine sqR ?_
       refine fin.slot (.inr Z) Z (L 0 Z Z) ⟨V399, Z, (((((((le27.trans le41).trans le48).trans le61).trans le123).trans le308).trans le387).trans le400), ?_⟩
       have ow407 := ow402.drop 0 Z
       have ow408 := ow407.drop 3 Z
       have ow409 := ow408.drop 9 Z
       have ow410 := ow409.pick 2 Z
       have ow411 := ow410.pick 2 Z
       have ow412 := ow411.pick 2 Z
       have ow413 := ow412.pick 8 Z
       have ow414 := ow413.pick 8 Z
       have ow415 := ow414.pick 8 Z
       have ow416 := ow415.pick 8 Z
       have ow417 := ow416.pick 8 Z
       have ow418 := ow417.pick 8 Z
       have e419 := Option.some.inj h406
       subst e419
       exact ⟨rfl, ow418⟩
      ·have h420 := ifF c405 h397
       refine WP.skip ?_
       refine sqN ?_
       refine WP.seq ?_
       refine WP.usreg Z ?_
       refine U.p Z Z (.inl Z) (S.move Z (L 7 Z Z)) ?_
       refine U.p Z Z (.inl Z) (ow402.oslen (k := 4) Z Z (L 0 Z Z) Try.underlying26) ?_
       refine U.p Z Z (.inl Z) (S.move Z K) ?_
       refine U.done (nr Z) ?_
       refine WP.blk ?_
       have ow423 := ow402.pick 0 Z
       have ow424 := ow423.pick 4 Z
       have ow425 := ow424.pick 11 Z
       have ow426 := ow425.pick 5 Z
       have ow427 := ow426.pick 5 Z
       have ow428 := ow427.pick 5 Z
       have ow429 := ow428.pick 11 Z
       have ow430 := ow429.pick 11 Z
       have ow431 := ow430.pick 11 Z
       have ow432 := ow431.pick 11 Z
       have ow433 := ow432.pick 11 Z
       have ow434 := ow433.pick 11 Z
       unfold law16_same_l5 at h420
       obtain ⟨n436, hn435⟩ := loopO_some.1 h420
       refine WP.loopI2 (fun n l V' => ∃ (x421 : Int) (x422 : Int), l = [(0, .pointer (some ⟨b1, 0, none⟩)), (5, .pointer (some ⟨b25, 0, none⟩)), (17, v385), (18, v398), (19, .int .i64 x421), (153, .int .i64 (x382.length : Int)), (154, .int .i64 x422)] ∧ V399.le V' ∧ Ow V' (.pt b1 (.cells z2 [v4, v6, v9, v12, v15]) :: .os RT_Tref16_Event v4 p0.events :: .oss (RO.os (RT.int .i64)) v6 hs7 p0.seen :: .oss (RO.om RT.bool false) v9 hs10 p0.has :: .oss (RO.om (RT.int .i64) false) v12 hs13 p0.now :: .om (RT.int .i64) false v15 p0.last :: .pt b17 (.cells z18 [.int .i64 p1.n, v20, v22]) :: .os RT_Tref16_Event v20 p1.e :: .oss (RO.os (RT.int .i64)) v22 hs23 p1.come :: .pt b25 (.cells 0 [.int .i64 p2.kind, .int .i64 p2.t, .int .i64 p2.n, .int .i64 p2.at_, .int .i64 p2.val]) :: .os (RT.int .i64) v385 x382 :: .os (RT.int .i64) v398 x395 :: Rs) ∧ itO (fun s => law16_same_l5b p0 p2 x382 x395 s.1 s.2) n (x421, x422) = some r) n436 _ ⟨0, 0, Z, .refl _, ow434, hn435⟩ (allCons (L 25 Z Z) (allCons (L 27 Z Z) (allCons (L 10 Z Z) (allCons (L 9 Z Z) (allCons (L 8 Z Z) (allCons (L 1 Z Z) (allCons (L 0 Z Z) allNil))))))) ?_
       rintro _ _ V437 ⟨x421, x422, rfl, le438, ow439, h443⟩
       obtain ⟨m440, q441, rfl, h444, e442⟩ := itS h443
       replace h444 : law16_same_l5b p0 p2 x382 x395 x421 x422 = some q441 := h444
       unfold law16_same_l5b at h444
       refine WP.usreg Z ?_
       refine U.p Z Z (.inl Z) (S.lss Z (L 6 Z Z) (L 5 Z Z)) ?_
       refine U.done (nr Z) ?_
       refine WP.seq ?_
       refine WP.cond _ (L 0 Z Z) Z (fun c445 => ?_) (fun c445 => ?_)
       ·have h446 := ifT c445 h444
        refine WP.skip ?_
        refine sqN ?_
        refine WP.seq ?_
        refine WP.blk ?_
        refine WP.usreg Z ?_
        refine U.p Z Z (.inl Z) (S.move Z (L 7 Z Z)) ?_
        refine U.p Z Z (.inl Z) (S.assign Z (L 0 Z Z)) ?_
        refine U.done (nr Z) ?_
        refine WP.seq ?_
        refine WP.usdreg Z Z Z ?_
        refine U.p Z Z (.inl Z) (S.move Z (L 5 Z Z)) ?_
        refine U.p Z Z (.inl Z) (S.move Z (L 1 Z Z)) ?_
        obtain ⟨x447, hx448, h449⟩ := bindS h446
        obtain ⟨b450, o451, n452, c453, hv454⟩ := ow439.ospt (k := 10) Z hx448
        obtain ⟨_, hv455, _⟩ := ow439.osel (k := 10) Z hv454 hx448
        refine U.p Z Z (.inl Z) (S.index Z ((L 1 Z Z).trans hv455) (L 0 Z Z) Try.underlying26 ti3 (ix_ge hx448) (ix_lt hx448)) ?_
        obtain ⟨cs456, hv457, hlt458, hr459, hc460⟩ := ow439.osel (k := 10) Z hv454 hx448
        obtain rfl : cs456 = [.int .i64 x447] := hr459
        refine U.k Z Z (.inl Z) (S.load Z (L 0 Z Z) Try.underlying3 Z (hc460 0 _ Z)) (fun _ => (okH.nil (fun r h => by cases h; exact hlt458))) ?_
        refine U.p Z Z (.inl Z) (S.move Z (L 10 Z Z)) ?_
        refine U.p Z Z (.inl Z) (S.move Z (L 5 Z Z)) ?_
        obtain ⟨x461, hx462, h463⟩ := bindS h449
        obtain ⟨b464, o465, n466, c467, hv468⟩ := ow439.ospt (k := 11) Z hx462
        obtain ⟨_, hv469, _⟩ := ow439.osel (k := 11) Z hv468 hx462
        refine U.p Z Z (.inl Z) (S.index Z ((L 1 Z Z).trans hv469) (L 0 Z Z) Try.underlying26 ti3 (ix_ge hx462) (ix_lt hx462)) ?_
        obtain ⟨cs470, hv471, hlt472, hr473, hc474⟩ := ow439.osel (k := 11) Z hv468 hx462
        obtain rfl : cs470 = [.int .i64 x461] := hr473
        refine U.k Z Z (.inl Z) (S.load Z (L 0 Z Z) Try.underlying3 Z (hc474 0 _ Z)) (fun _ => (okH.cons trivial (okH.nil (fun r h => by cases h; exact hlt472)))) ?_
        refine U.p Z Z (.inl Z) (S.neqI Z (L 4 Z Z) (L 0 Z Z)) ?_
        refine U.done (nr Z) ?_
        refine WP.cond _ (L 0 Z Z) Z (fun c475 => ?_) (fun c475 => ?_)
        ·have h476 := ifT c475 h463
         refine WP.usreg Z ?_
         refine U.p Z Z (.inl Z) (S.assign Z K) ?_
         refine U.done (nr Z) ?_
         refine WP.ret ?_
         refine sqR (blkR (sqR (sqR (blkR (sqR ?_)))))
         have h477 := exitS h476 e442
         refine fin.slot (.inr Z) Z (L 0 Z Z) ⟨V437, Z, ((((((((le27.trans le41).trans le48).trans le61).trans le123).trans le308).trans le387).trans le400).trans le438), ?_⟩
         have ow478 := ow439.drop 9 Z
         have ow479 := ow478.drop 9 Z
         have ow480 := ow479.drop 9 Z
         have e481 := Option.some.inj h477
         subst e481
         exact ⟨rfl, ow480⟩
        ·have h482 := ifF c475 h463
         refine WP.skip ?_
         refine sqN ?_
         refine WP.ureg Z ?_
         refine U.p Z Z (.inl Z) (S.move Z (L 14 Z Z)) ?_
         refine U.p Z Z (.inl Z) (S.move Z (L 10 Z Z)) ?_
         obtain ⟨x483, hx484, h485⟩ := bindS h482
         obtain ⟨_, hv486, _⟩ := ow439.osel (k := 10) Z hv454 hx484
         refine U.p Z Z (.inl Z) (S.index Z ((L 1 Z Z).trans hv486) (L 0 Z Z) Try.underlying26 ti3 (ix_ge hx484) (ix_lt hx484)) ?_
         obtain ⟨cs487, hv488, hlt489, hr490, hc491⟩ := ow439.osel (k := 10) Z hv454 hx484
         obtain rfl : cs487 = [.int .i64 x483] := hr490
         refine U.k Z Z (.inl Z) (S.load Z (L 0 Z Z) Try.underlying3 Z (hc491 0 _ Z)) nd ?_
         refine U.p Z Z (.inl Z) (S.assign Z (L 0 Z Z)) ?_
         refine U.done (nr Z) ?_
         refine blkN (sqN ?_)
         refine WP.ureg Z ?_
         refine U.p Z Z (.inl Z) (S.add Z (L 23 Z Z) K) ?_
         refine U.p Z Z (.inl Z) (S.move Z (L 0 Z Z)) ?_
         refine U.done (nr Z) ?_
         refine sqN ?_
         exact ⟨_, V437, Z, ⟨m440, Nat.lt_succ_self _, x483, w64 (x422 + 1), Z, le438, ow439, backS h485 e442⟩, (allCons (L 19 Z Z) (allCons (L 20 Z Z) (allCons (L 21 Z Z) (allCons (L 22 Z Z) (allCons (L 2 Z Z) (allCons (L 24 Z Z) (allCons (L 0 Z Z) allNil)))))))⟩
       ·have h492 := ifF c445 h444
        refine WP.exit ?_
        refine sqE (sqE (blkE (sqN ?_)))
        have h493 := exitS h492 e442
        refine WP.usreg Z ?_
        refine U.p Z Z (.inl Z) (S.move Z (L 1 Z Z)) ?_
        refine U.p (v := .pointer (some ⟨b25, 3, none⟩)) Z Z (.inl Z) (S.fieldAddr Z (L 3 Z Z) Try.underlying35 Z ti3 Z Z) ?_
        refine U.k Z Z (.inl Z) (S.load Z (L 0 Z Z) Try.underlying3 Z ((ow439.own (k := 9) Z).cell Z)) nd ?_
        have ow494 := ow439.pick 5 Z
        have ow495 := ow494.pick 5 Z
        have ow496 := ow495.pick 5 Z
        have ow497 := ow496.pick 5 Z
        have ow498 := ow497.pick 5 Z
        have ow499 := ow498.pick 5 Z
        obtain ⟨x500, hx501, h502⟩ := bindS h493
        refine O.call (V := V437) Z Z (.inl Z) Z en21 (aC (L 2 Z Z) (aC (L 0 Z Z) aN)) (wk_storage_Storage_Last V437 _ p0 p2.at_ b1 z2 v4 v6 hs7 v9 hs10 v12 hs13 v15 ow499 _ hx501) (fun _ _ _ _ => nd) (fun v503 V504 le505 hp506 => ?_)
        obtain ⟨rfl, ow507⟩ := hp506
        refine U.p Z Z (.inl Z) (S.move Z (L 9 Z Z)) ?_
        refine U.p Z Z (.inl Z) (S.eqlI Z (L 1 Z Z) (L 0 Z Z)) ?_
        refine U.p Z Z (.inl Z) (S.assign Z (L 0 Z Z)) ?_
        refine U.done (nr Z) ?_
        refine WP.ret ?_
        refine fin.slot (.inr Z) Z (L 0 Z Z) ⟨V504, Z, (((((((((le27.trans le41).trans le48).trans le61).trans le123).trans le308).trans le387).trans le400).trans le438).trans le505), ?_⟩
        have ow508 := ow507.drop 9 Z
        have ow509 := ow508.drop 9 Z
        have ow510 := ow509.drop 9 Z
        have e511 := Option.some.inj h502
        subst e511
        exact ⟨rfl, ow510⟩
 ·skip
  refine WP.udreg Z Z Z ?_
  refine U.p Z Z (.inl Z) (S.move Z (L 5 Z Z)) ?_
  have ow512 := ow43.pick 6 Z
  have ow513 := ow512.pick 6 Z
  have ow514 := ow513.pick 6 Z
  have ow515 := ow514.pick 6 Z
  have ow516 := ow515.pick 6 Z
  have ow517 := ow516.pick 6 Z
  obtain ⟨x518, hx519, h520⟩ := bindS h38
  refine O.call (V := V40) Z Z (.inl Z) Z en11 (aC (L 0 Z Z) aN) (wk_storage_Storage_Threads V40 _ p0 b1 z2 v4 v6 hs7 v9 hs10 v12 hs13 v15 ow517 _ hx519) (fun v521 V522 le523 hp524 => by obtain ⟨rfl, ow525⟩ := hp524; exact (fun _ => (okH.nil (fun r h => nomatch h)))) (fun v521 V522 le523 hp524 => ?_)
  obtain ⟨rfl, ow525⟩ := hp524
  refine U.p Z Z (.inl Z) (S.move Z (L 8 Z Z)) ?_
  refine U.p Z Z (.inl Z) (S.nilCheck Z (L 0 Z Z)) ?_
  refine U.p (v := .pointer (some ⟨b17, 0, none⟩)) Z Z (.inl Z) (S.fieldAddr Z (L 0 Z Z) Try.underlying46 Z ti3 Z Z) ?_
  refine U.k Z Z (.inl Z) (S.load Z (L 0 Z Z) Try.underlying3 Z ((ow525.own (k := 8) Z).cell Z)) (fun _ => (okH.cons (Or.inr (Or.inl ((ow525.own (k := 8) Z).get.trans (ow517.own (k := 8) Z).get.symm))) (okH.nil (fun r h => by cases h; exact (ow525.own (k := 8) Z).lt)))) ?_
  refine U.p Z Z (.inl Z) (S.neqI Z (L 4 Z Z) (L 0 Z Z)) ?_
  refine U.p Z Z (.inl Z) (S.move Z (L 0 Z Z)) ?_
  refine bcase (b := decide (x518 ≠ p1.n)) (fun g526 => ?_) (fun g526 => ?_)
  ·have h527 := ifT g526 h520
   refine U.x Z Z Z Z ((L 0 Z Z).trans (cB g526)) (by decide) ?_
   refine U.x Z Z Z Z ((L 1 Z Z).trans (cB g526)) (by decide) ?_
   refine U.x Z Z Z Z ((L 2 Z Z).trans (cB g526)) (by decide) ?_
   refine U.x Z Z Z Z ((L 3 Z Z).trans (cB g526)) (by decide) ?_
   refine U.x Z Z Z Z ((L 4 Z Z).trans (cB g526)) (by decide) ?_
   refine U.x Z Z Z Z ((L 5 Z Z).trans (cB g526)) (by decide) ?_
   refine U.x Z Z Z Z ((L 6 Z Z).trans (cB g526)) (by decide) ?_
   refine U.x Z Z Z Z ((L 7 Z Z).trans (cB g526)) (by decide) ?_
   refine U.p Z Z (.inl Z) (S.pickT Z ((L 8 Z Z).trans (cB g526)) K) ?_
   refine U.done (nr Z) ?_
   refine sqN ?_
   have ow528 := ow525.pick 6 Z
   have ow529 := ow528.pick 7 Z
   have ow530 := ow529.pick 10 Z
   have ow531 := ow530.pick 10 Z
   have ow532 := ow531.pick 10 Z
   have ow533 := ow532.pick 10 Z
   have ow534 := ow533.pick 10 Z
   have ow535 := ow534.pick 10 Z
   have ow536 := ow535.pick 10 Z
   have ow537 := ow536.pick 10 Z
   have ow538 := ow537.pick 10 Z
   exact ⟨_, V522, Z, ⟨true, Z, le523, ow538, h527⟩, (allCons (L 22 Z Z) (allCons (L 23 Z Z) (allCons (L 21 Z Z) (allCons (L 17 Z Z) (allCons (L 0 Z Z) allNil)))))⟩
  ·have h539 := ifF g526 h520
   refine U.p Z Z (.inr ⟨_, _, _, Z, Z, ((L 0 Z Z).trans (cB g526))⟩) (S.move Z (L 8 Z Z)) ?_
   refine U.p Z Z (.inr ⟨_, _, _, Z, Z, ((L 1 Z Z).trans (cB g526))⟩) (ow525.oslen (k := 6) Z Z (L 0 Z Z) Try.underlying53) ?_
   refine U.p Z Z (.inr ⟨_, _, _, Z, Z, ((L 2 Z Z).trans (cB g526))⟩) (S.move Z (L 16 Z Z)) ?_
   refine U.p Z Z (.inr ⟨_, _, _, Z, Z, ((L 3 Z Z).trans (cB g526))⟩) (S.nilCheck Z (L 0 Z Z)) ?_
   refine U.p (v := .pointer (some ⟨b17, 1, none⟩)) Z Z (.inr ⟨_, _, _, Z, Z, ((L 4 Z Z).trans (cB g526))⟩) (S.fieldAddr Z (L 0 Z Z) Try.underlying46 Z ti43 Z Z) ?_
   refine U.k Z Z (.inr ⟨_, _, _, Z, Z, ((L 5 Z Z).trans (cB g526))⟩) (S.load Z (L 0 Z Z) Try.underlying43 Z ((ow525.own (k := 8) Z).cell Z)) (fun _ => (okH.cons trivial (okH.cons (Or.inl Z) (okH.nil (fun r h => by cases h; exact (ow525.own (k := 8) Z).lt))))) ?_
   refine U.p Z Z (.inr ⟨_, _, _, Z, Z, ((L 6 Z Z).trans (cB g526))⟩) (ow525.oslen (k := 9) Z Z (L 0 Z Z) Try.underlying43) ?_
   refine U.p Z Z (.inr ⟨_, _, _, Z, Z, ((L 7 Z Z).trans (cB g526))⟩) (S.neqI Z (L 5 Z Z) (L 0 Z Z)) ?_
   refine U.p Z Z (.inl Z) (S.pickF Z ((L 8 Z Z).trans (cB g526)) (L 0 Z Z)) ?_
   refine U.done (nr Z) ?_
   refine sqN ?_
   have ow540 := ow525.pick 6 Z
   have ow541 := ow540.pick 7 Z
   have ow542 := ow541.pick 10 Z
   have ow543 := ow542.pick 10 Z
   have ow544 := ow543.pick 10 Z
   have ow545 := ow544.pick 10 Z
   have ow546 := ow545.pick 10 Z
   have ow547 := ow546.pick 10 Z
   have ow548 := ow547.pick 10 Z
   have ow549 := ow548.pick 10 Z
   have ow550 := ow549.pick 10 Z
   exact ⟨_, V522, Z, ⟨decide ((x36.length : Int) ≠ (p1.e.length : Int)), Z, le523, ow550, h539⟩, (allCons (L 22 Z Z) (allCons (L 23 Z Z) (allCons (L 21 Z Z) (allCons (L 17 Z Z) (allCons (L 0 Z Z) allNil)))))⟩
theorem wk_storage_Storage_Threads_2 (V : Vw) (Rs : List At) (ow : Ow V (Rs)) (r : Int) (h : storage_Storage_Threads_2 = some r) : ∃ v V', Cl Try.prog 0 11 #[.pointer none] V.H v V'.H ∧ V.le V' ∧ (v = .int .i64 r ∧ Ow V' (Rs)) := by
 refine Ct.of (Nat.zero_le _) Try.func11 Z (nr Z) ?_
 unfold storage_Storage_Threads_2 at h
 refine WP.usreg Z ?_
 refine U.p Z Z (.inl Z) (S.assign Z K) ?_
 refine U.done (nr Z) ?_
 refine WP.seq ?_
 refine WP.usreg Z ?_
 refine U.p Z Z (.inl Z) (S.move Z (L 1 Z Z)) ?_
 refine U.p Z Z (.inl Z) (S.nilPP Z (L 0 Z Z) K Try.underlying24) ?_
 refine U.done (nr Z) ?_
 refine WP.cond true (L 0 Z Z) Z (fun _ => ?_) (fun h => by cases h)
 refine WP.usreg Z ?_
 refine U.p Z Z (.inl Z) (S.assign Z K) ?_
 refine U.done (nr Z) ?_
 refine WP.ret ?_
 refine sqR ?_
 refine fin.slot (.inr Z) Z (L 0 Z Z) ⟨V, Z, (.refl _), ?_⟩
 have e1 := Option.some.inj h
 subst e1
 exact ⟨rfl, ow⟩
theorem wk_storage_Storage_Settle_2 (V : Vw) (Rs : List At) (ow : Ow V (Rs)) (r : Unit) (h : storage_Storage_Settle_2 = some r) : ∃ v V', Cl Try.prog 0 23 #[.pointer none] V.H v V'.H ∧ V.le V' ∧ (Ow V' (Rs)) := by
 refine Ct.of (Nat.zero_le _) Try.func23 Z (nr Z) ?_
 unfold storage_Storage_Settle_2 at h
 refine WP.usreg Z ?_
 refine U.p Z Z (.inl Z) (S.move Z (L 0 Z Z)) ?_
 obtain ⟨x1, hx2, h3⟩ := bindS h
 refine O.call (V := V) Z Z (.inl Z) Z en11 (aC (L 0 Z Z) aN) (wk_storage_Storage_Threads_2 V _ ow _ hx2) (fun _ _ _ _ => nd) (fun v4 V5 le6 hp7 => ?_)
 obtain ⟨rfl, ow8⟩ := hp7
 refine U.p Z Z (.inl Z) (S.move Z K) ?_
 refine U.done (nr Z) ?_
 refine WP.blk ?_
 unfold storage_Storage_Settle_2_l1 at h3
 obtain ⟨n10, hn9⟩ := loopO_some.1 h3
 refine WP.loopI2 (fun n l V' => l = [(0, .pointer none), (5, .int .i64 x1), (6, .int .i64 0)] ∧ V5.le V' ∧ Ow V' (Rs) ∧ itO (fun s => storage_Storage_Settle_2_l1b x1 ) n () = some r) n10 _ ⟨rfl, .refl _, ow8, hn9⟩ (allCons (L 3 Z Z) (allCons (L 1 Z Z) (allCons (L 0 Z Z) allNil))) ?_
 rintro _ _ V11 ⟨rfl, le12, ow13, h17⟩
 obtain ⟨m14, q15, rfl, h18, e16⟩ := itS h17
 replace h18 : storage_Storage_Settle_2_l1b x1  = some q15 := h18
 unfold storage_Storage_Settle_2_l1b at h18
 refine WP.usreg Z ?_
 refine U.p Z Z (.inl Z) (S.lss Z (L 2 Z Z) (L 1 Z Z)) ?_
 refine U.done (nr Z) ?_
 refine WP.seq ?_
 refine WP.cond _ (L 0 Z Z) Z (fun c19 => ?_) (fun c19 => ?_)
 ·have h20 := ifT c19 h18
  refine WP.skip ?_
  refine sqN ?_
  refine WP.seq ?_
  refine WP.blk ?_
  refine WP.usreg Z ?_
  refine U.p Z Z (.inl Z) (S.move Z (L 3 Z Z)) ?_
  refine U.p Z Z (.inl Z) (S.assign Z (L 0 Z Z)) ?_
  refine U.done (nr Z) ?_
  refine WP.usreg Z ?_
  refine U.p Z Z (.inl Z) (S.move Z (L 3 Z Z)) ?_
  cases h20
 ·have h21 := ifF c19 h18
  refine WP.exit ?_
  refine sqE (sqE (blkE ?_))
  have h22 := exitS h21 e16
  refine fin.slots' (.inl Z) fsN Z ⟨V11, Z, (le6.trans le12), ?_⟩
  have e23 := Option.some.inj h22
  subst e23
  exact ow13
theorem wk_storage_Storage_thread_2 (V : Vw) (Rs : List At) (p1 : Int) (ow : Ow V (Rs)) (r : Bool) (h : storage_Storage_thread_2 p1 = some r) : ∃ v V', Cl Try.prog 0 29 #[.pointer none, .int .i64 p1] V.H v V'.H ∧ V.le V' ∧ (v = .bool r ∧ Ow V' (Rs)) := by
 refine Ct.of (Nat.zero_le _) Try.func29 Z (nr Z) ?_
 unfold storage_Storage_thread_2 at h
 refine WP.usreg Z ?_
 refine U.p Z Z (.inl Z) (S.assign Z K) ?_
 refine U.done (nr Z) ?_
 refine WP.usreg Z ?_
 refine U.p Z Z (.inl Z) (S.move Z (L 1 Z Z)) ?_
 refine U.p Z Z (.inl Z) (S.nilPN Z (L 0 Z Z) K Try.underlying24) ?_
 refine U.p Z Z (.inl Z) (S.move Z (L 0 Z Z)) ?_
 refine U.x Z Z Z Z (L 0 Z Z) (by decide) ?_
 refine U.x Z Z Z Z (L 1 Z Z) (by decide) ?_
 refine U.p Z Z (.inl Z) (S.pickF Z (L 2 Z Z) K) ?_
 refine U.p Z Z (.inl Z) (S.move Z (L 0 Z Z)) ?_
 refine U.x Z Z Z Z (L 0 Z Z) (by decide) ?_
 refine U.x Z Z Z Z (L 1 Z Z) (by decide) ?_
 refine U.x Z Z Z Z (L 2 Z Z) (by decide) ?_
 refine U.x Z Z Z Z (L 3 Z Z) (by decide) ?_
 refine U.x Z Z Z Z (L 4 Z Z) (by decide) ?_
 refine U.x Z Z Z Z (L 5 Z Z) (by decide) ?_
 refine U.x Z Z Z Z (L 6 Z Z) (by decide) ?_
 refine U.p Z Z (.inl Z) (S.pickF Z (L 7 Z Z) K) ?_
 refine U.p Z Z (.inl Z) (S.assign Z (L 0 Z Z)) ?_
 refine U.done (nr Z) ?_
 refine WP.ret ?_
 refine fin.slot (.inr Z) Z (L 0 Z Z) ⟨V, Z, (.refl _), ?_⟩
 have e1 := Option.some.inj h
 subst e1
 exact ⟨rfl, ow⟩
theorem wk_storage_Storage_Read_2 (V : Vw) (Rs : List At) (p1 : Int) (p2 : Int) (ow : Ow V (Rs)) (r : Int × Int) (h : storage_Storage_Read_2 p1 p2 = some r) : ∃ v V', Cl Try.prog 0 13 #[.pointer none, .int .i64 p1, .int .i64 p2] V.H v V'.H ∧ V.le V' ∧ (v = .tuple #[.int .i64 r.1, .int .i64 r.2] ∧ Ow V' (Rs)) := by
 refine Ct.of (Nat.zero_le _) Try.func13 Z (nr Z) ?_
 unfold storage_Storage_Read_2 at h
 refine WP.usreg Z ?_
 refine U.p Z Z (.inl Z) (S.assign Z K) ?_
 refine U.p Z Z (.inl Z) (S.assign Z K) ?_
 refine U.done (nr Z) ?_
 refine WP.seq ?_
 refine WP.usreg Z ?_
 refine U.p Z Z (.inl Z) (S.move Z (L 2 Z Z)) ?_
 refine U.p Z Z (.inl Z) (S.move Z (L 4 Z Z)) ?_
 obtain ⟨x1, hx2, h3⟩ := bindS h
 refine O.call (V := V) Z Z (.inl Z) Z en29 (aC (L 1 Z Z) (aC (L 0 Z Z) aN)) (wk_storage_Storage_thread_2 V _ p1 ow _ hx2) (fun _ _ _ _ => nd) (fun v4 V5 le6 hp7 => ?_)
 obtain ⟨rfl, ow8⟩ := hp7
 refine U.p Z Z (.inl Z) (S.not Z (L 0 Z Z)) ?_
 refine U.done (nr Z) ?_
 refine WP.cond _ (L 0 Z Z) Z (fun c9 => ?_) (fun c9 => ?_)
 ·have h10 := ifT c9 h3
  have k11 : x1 = false := nT c9
  refine WP.usreg Z ?_
  refine U.p Z Z (.inl Z) (S.assign Z K) ?_
  refine U.p Z Z (.inl Z) (S.assign Z K) ?_
  refine U.done (nr Z) ?_
  refine WP.ret ?_
  refine sqR ?_
  refine fin.slots' (.inr Z) (fsC (L 1 Z Z) (fsC (L 0 Z Z) fsN)) Z ⟨V5, Z, le6, ?_⟩
  have e12 := Option.some.inj h10
  subst e12
  exact ⟨rfl, ow8⟩
 ·have h13 := ifF c9 h3
  have k14 : x1 = true := nF c9
  refine WP.skip ?_
  refine sqN ?_
  refine WP.usreg Z ?_
  refine U.p Z Z (.inl Z) (S.move Z (L 6 Z Z)) ?_
  cases h13
theorem wk_storage_Storage_Go_2 (V : Vw) (Rs : List At) (p1 : Int) (p2 : Int) (ow : Ow V (Rs)) (r : Int) (h : storage_Storage_Go_2 p1 p2 = some r) : ∃ v V', Cl Try.prog 0 18 #[.pointer none, .int .i64 p1, .int .i64 p2] V.H v V'.H ∧ V.le V' ∧ (v = .int .i64 r ∧ Ow V' (Rs)) := by
 refine Ct.of (Nat.zero_le _) Try.func18 Z (nr Z) ?_
 unfold storage_Storage_Go_2 at h
 refine WP.usreg Z ?_
 refine U.p Z Z (.inl Z) (S.assign Z K) ?_
 refine U.done (nr Z) ?_
 refine WP.seq ?_
 refine WP.blk ?_
 refine WP.usreg Z ?_
 refine U.p Z Z (.inl Z) (S.move Z (L 1 Z Z)) ?_
 refine U.p Z Z (.inl Z) (S.nilPP Z (L 0 Z Z) K Try.underlying24) ?_
 refine U.p Z Z (.inl Z) (S.assign Z (L 0 Z Z)) ?_
 refine U.done (nr Z) ?_
 refine WP.cond true (L 0 Z Z) Z (fun _ => ?_) (fun h => by cases h)
 refine WP.usreg Z ?_
 refine U.p Z Z (.inl Z) (S.assign Z K) ?_
 refine U.done (nr Z) ?_
 refine WP.ret ?_
 refine blkR (sqR ?_)
 refine fin.slot (.inr Z) Z (L 0 Z Z) ⟨V, Z, (.refl _), ?_⟩
 have e1 := Option.some.inj h
 subst e1
 exact ⟨rfl, ow⟩
theorem wk_storage_Storage_Write_2 (V : Vw) (Rs : List At) (p1 : Int) (p2 : Int) (p3 : Int) (ow : Ow V (Rs)) (r : Int) (h : storage_Storage_Write_2 p1 p2 p3 = some r) : ∃ v V', Cl Try.prog 0 15 #[.pointer none, .int .i64 p1, .int .i64 p2, .int .i64 p3] V.H v V'.H ∧ V.le V' ∧ (v = .int .i64 r ∧ Ow V' (Rs)) := by
 refine Ct.of (Nat.zero_le _) Try.func15 Z (nr Z) ?_
 unfold storage_Storage_Write_2 at h
 refine WP.usreg Z ?_
 refine U.p Z Z (.inl Z) (S.assign Z K) ?_
 refine U.done (nr Z) ?_
 refine WP.seq ?_
 refine WP.usreg Z ?_
 refine U.p Z Z (.inl Z) (S.move Z (L 1 Z Z)) ?_
 refine U.p Z Z (.inl Z) (S.move Z (L 3 Z Z)) ?_
 obtain ⟨x1, hx2, h3⟩ := bindS h
 refine O.call (V := V) Z Z (.inl Z) Z en29 (aC (L 1 Z Z) (aC (L 0 Z Z) aN)) (wk_storage_Storage_thread_2 V _ p1 ow _ hx2) (fun _ _ _ _ => nd) (fun v4 V5 le6 hp7 => ?_)
 obtain ⟨rfl, ow8⟩ := hp7
 refine U.p Z Z (.inl Z) (S.not Z (L 0 Z Z)) ?_
 refine U.done (nr Z) ?_
 refine WP.cond _ (L 0 Z Z) Z (fun c9 => ?_) (fun c9 => ?_)
 ·have h10 := ifT c9 h3
  have k11 : x1 = false := nT c9
  refine WP.usreg Z ?_
  refine U.p Z Z (.inl Z) (S.assign Z K) ?_
  refine U.done (nr Z) ?_
  refine WP.ret ?_
  refine sqR ?_
  refine fin.slot (.inr Z) Z (L 0 Z Z) ⟨V5, Z, le6, ?_⟩
  have e12 := Option.some.inj h10
  subst e12
  exact ⟨rfl, ow8⟩
 ·have h13 := ifF c9 h3
  have k14 : x1 = true := nF c9
  refine WP.skip ?_
  refine sqN ?_
  refine WP.usreg Z ?_
  refine U.p Z Z (.inl Z) (S.move Z (L 5 Z Z)) ?_
  refine U.p Z Z (.inl Z) (S.move Z (L 7 Z Z)) ?_
  refine U.p Z Z (.inl Z) (S.move Z (L 9 Z Z)) ?_
  refine U.p Z Z (.inl Z) (S.move Z (L 11 Z Z)) ?_
  refine U.p (v := .agg #[.int .i64 p1, .bool false, .int .i64 p2, .int .i64 p3]) Z Z (.inl Z) (S.build (vs := [.int .i64 p1, .int .i64 p2, .int .i64 p3]) Z ti55 Z pl55 (aC (L 2 Z Z) (aC (L 1 Z Z) (aC (L 0 Z Z) aN))) (allC (by simp [topV]) (allC (by simp [topV]) (allC (by simp [topV]) allN))) Z) ?_
  cases h13
theorem wk_storage_Storage_Barrier_2 (V : Vw) (Rs : List At) (p1 : Int) (ow : Ow V (Rs)) (r : Int) (h : storage_Storage_Barrier_2 p1 = some r) : ∃ v V', Cl Try.prog 0 17 #[.pointer none, .int .i64 p1] V.H v V'.H ∧ V.le V' ∧ (v = .int .i64 r ∧ Ow V' (Rs)) := by
 refine Ct.of (Nat.zero_le _) Try.func17 Z (nr Z) ?_
 unfold storage_Storage_Barrier_2 at h
 refine WP.usreg Z ?_
 refine U.p Z Z (.inl Z) (S.assign Z K) ?_
 refine U.done (nr Z) ?_
 refine WP.seq ?_
 refine WP.usreg Z ?_
 refine U.p Z Z (.inl Z) (S.move Z (L 1 Z Z)) ?_
 refine U.p Z Z (.inl Z) (S.move Z (L 3 Z Z)) ?_
 obtain ⟨x1, hx2, h3⟩ := bindS h
 refine O.call (V := V) Z Z (.inl Z) Z en29 (aC (L 1 Z Z) (aC (L 0 Z Z) aN)) (wk_storage_Storage_thread_2 V _ p1 ow _ hx2) (fun _ _ _ _ => nd) (fun v4 V5 le6 hp7 => ?_)
 obtain ⟨rfl, ow8⟩ := hp7
 refine U.p Z Z (.inl Z) (S.not Z (L 0 Z Z)) ?_
 refine U.done (nr Z) ?_
 refine WP.cond _ (L 0 Z Z) Z (fun c9 => ?_) (fun c9 => ?_)
 ·have h10 := ifT c9 h3
  have k11 : x1 = false := nT c9
  refine WP.usreg Z ?_
  refine U.p Z Z (.inl Z) (S.assign Z K) ?_
  refine U.done (nr Z) ?_
  refine WP.ret ?_
  refine sqR ?_
  refine fin.slot (.inr Z) Z (L 0 Z Z) ⟨V5, Z, le6, ?_⟩
  have e12 := Option.some.inj h10
  subst e12
  exact ⟨rfl, ow8⟩
 ·have h13 := ifF c9 h3
  have k14 : x1 = true := nF c9
  refine WP.skip ?_
  refine sqN ?_
  refine WP.usreg Z ?_
  refine U.p Z Z (.inl Z) (S.move Z (L 5 Z Z)) ?_
  refine U.p Z Z (.inl Z) (S.move Z (L 7 Z Z)) ?_
  refine U.p (v := .agg #[.int .i64 p1, .bool true, .int .i64 0, .int .i64 0]) Z Z (.inl Z) (S.build (vs := [.int .i64 p1, .bool true]) Z ti55 Z pl55 (aC (L 0 Z Z) (aC K aN)) (allC (by simp [topV]) (allC (by simp [topV]) allN)) Z) ?_
  cases h13
theorem wk_storage_Storage_Last_2 (V : Vw) (Rs : List At) (p1 : Int) (ow : Ow V (Rs)) (r : Int) (h : storage_Storage_Last_2 p1 = some r) : ∃ v V', Cl Try.prog 0 21 #[.pointer none, .int .i64 p1] V.H v V'.H ∧ V.le V' ∧ (v = .int .i64 r ∧ Ow V' (Rs)) := by
 refine Ct.of (Nat.zero_le _) Try.func21 Z (nr Z) ?_
 unfold storage_Storage_Last_2 at h
 refine WP.usreg Z ?_
 refine U.p Z Z (.inl Z) (S.assign Z K) ?_
 refine U.done (nr Z) ?_
 refine WP.seq ?_
 refine WP.usreg Z ?_
 refine U.p Z Z (.inl Z) (S.move Z (L 1 Z Z)) ?_
 refine U.p Z Z (.inl Z) (S.nilPP Z (L 0 Z Z) K Try.underlying24) ?_
 refine U.done (nr Z) ?_
 refine WP.cond true (L 0 Z Z) Z (fun _ => ?_) (fun h => by cases h)
 refine WP.usreg Z ?_
 refine U.p Z Z (.inl Z) (S.assign Z K) ?_
 refine U.done (nr Z) ?_
 refine WP.ret ?_
 refine sqR ?_
 refine fin.slot (.inr Z) Z (L 0 Z Z) ⟨V, Z, (.refl _), ?_⟩
 have e1 := Option.some.inj h
 subst e1
 exact ⟨rfl, ow⟩
theorem wk_storage_Storage_Events_2 (V : Vw) (Rs : List At) (ow : Ow V (Rs)) (r : List Tref16_Event) (h : storage_Storage_Events_2 = some r) : ∃ v V', Cl Try.prog 0 24 #[.pointer none] V.H v V'.H ∧ V.le V' ∧ (∃ (v1 : Value), v = v1 ∧ Fz RT_Tref16_Event V' v1 r ∧ Ow V' (Rs)) := by
 refine Ct.of (Nat.zero_le _) Try.func24 Z (nr Z) ?_
 unfold storage_Storage_Events_2 at h
 refine WP.usreg Z ?_
 refine U.p Z Z (.inl Z) (S.assign Z K) ?_
 refine U.done (nr Z) ?_
 refine WP.seq ?_
 refine WP.usreg Z ?_
 refine U.p Z Z (.inl Z) (S.move Z (L 1 Z Z)) ?_
 refine U.p Z Z (.inl Z) (S.nilPP Z (L 0 Z Z) K Try.underlying24) ?_
 refine U.done (nr Z) ?_
 refine WP.cond true (L 0 Z Z) Z (fun _ => ?_) (fun h => by cases h)
 refine WP.usreg Z ?_
 refine U.p Z Z (.inl Z) (S.assign Z K) ?_
 refine U.done (nr Z) ?_
 refine WP.ret ?_
 refine sqR ?_
 refine fin.slot (.inr Z) Z (L 0 Z Z) ⟨V, Z, (.refl _), ?_⟩
 have e3 := Option.some.inj h
 subst e3
 exact ⟨(.slice none 0 0), Z, Fz.nil, ow⟩
theorem wk_storage_Storage_Order_2 (V : Vw) (Rs : List At) (p1 : Int) (ow : Ow V (Rs)) (r : List Int) (h : storage_Storage_Order_2 p1 = some r) : ∃ v V', Cl Try.prog 0 28 #[.pointer none, .int .i64 p1] V.H v V'.H ∧ V.le V' ∧ (∃ (v1 : Value), v = v1 ∧ Ow V' (.os (RT.int .i64) v1 r :: Rs)) := by
 unfold storage_Storage_Order_2 at h
 exact order_nil (by kernel_rfl) ow h
theorem wk_storage_Storage_Seen_2 (V : Vw) (Rs : List At) (p1 : Int) (p2 : Int) (ow : Ow V (Rs)) (r : Bool) (h : storage_Storage_Seen_2 p1 p2 = some r) : ∃ v V', Cl Try.prog 0 20 #[.pointer none, .int .i64 p1, .int .i64 p2] V.H v V'.H ∧ V.le V' ∧ (v = .bool r ∧ Ow V' (Rs)) := by
 refine Ct.of (Nat.zero_le _) Try.func20 Z (nr Z) ?_
 unfold storage_Storage_Seen_2 at h
 refine WP.usreg Z ?_
 refine U.p Z Z (.inl Z) (S.assign Z K) ?_
 refine U.done (nr Z) ?_
 refine WP.usreg Z ?_
 refine U.p Z Z (.inl Z) (S.move Z (L 1 Z Z)) ?_
 refine U.p Z Z (.inl Z) (S.move Z (L 3 Z Z)) ?_
 obtain ⟨x1, hx2, h3⟩ := bindS h
 refine O.call (V := V) Z Z (.inl Z) Z en29 (aC (L 1 Z Z) (aC (L 0 Z Z) aN)) (wk_storage_Storage_thread_2 V _ p1 ow _ hx2) (fun _ _ _ _ => nd) (fun v4 V5 le6 hp7 => ?_)
 obtain ⟨rfl, ow8⟩ := hp7
 refine U.p Z Z (.inl Z) (S.move Z (L 0 Z Z)) ?_
 obtain ⟨y9, hy10, h11⟩ := bindS h3
 refine U.joinX 14 (fun e H => ∃ (u12 u13 u14 u15 u16 u17 u18 u19 u20 : Value), H = V5.H ∧ e = [(20, .bool y9), (19, u12), (18, u13), (17, u14), (16, u15), (15, u16), (14, u17), (13, u18), (12, u19), (11, u20)]) ?_ ?_
 ·rintro _ _ ⟨u12, u13, u14, u15, u16, u17, u18, u19, u20, rfl, rfl⟩
  refine U.p Z Z (.inl Z) (S.assign Z (L 0 Z Z)) ?_
  refine U.done (nr Z) ?_
  refine WP.ret ?_
  refine fin.slot (.inr Z) Z (L 0 Z Z) ⟨V5, Z, le6, ?_⟩
  have e24 := Option.some.inj h11
  subst e24
  exact ⟨rfl, ow8⟩
 ·intro kk
  refine bcase (b := x1) (fun g25 => ?_) (fun g25 => ?_)
  ·have h26 := ifT g25 hy10
   refine U.p Z Z (.inr ⟨_, _, _, Z, Z, ((L 0 Z Z).trans (cB g25))⟩) (S.move Z (L 5 Z Z)) ?_
   cases h26
  ·have h27 := ifF g25 hy10
   refine U.x Z Z Z Z ((L 0 Z Z).trans (cB g25)) (by decide) ?_
   refine U.x Z Z Z Z ((L 1 Z Z).trans (cB g25)) (by decide) ?_
   refine U.x Z Z Z Z ((L 2 Z Z).trans (cB g25)) (by decide) ?_
   refine U.x Z Z Z Z ((L 3 Z Z).trans (cB g25)) (by decide) ?_
   refine U.x Z Z Z Z ((L 4 Z Z).trans (cB g25)) (by decide) ?_
   refine U.x Z Z Z Z ((L 5 Z Z).trans (cB g25)) (by decide) ?_
   refine U.x Z Z Z Z ((L 6 Z Z).trans (cB g25)) (by decide) ?_
   refine U.x Z Z Z Z ((L 7 Z Z).trans (cB g25)) (by decide) ?_
   refine U.x Z Z Z Z ((L 8 Z Z).trans (cB g25)) (by decide) ?_
   refine U.p Z Z (.inl Z) (S.pickF Z ((L 9 Z Z).trans (cB g25)) K) ?_
   have e28 := Option.some.inj h27
   subst e28
   exact kk [(20, .bool false), (19, .tuple #[]), (18, .tuple #[]), (17, .tuple #[]), (16, .tuple #[]), (15, .tuple #[]), (14, .tuple #[]), (13, .tuple #[]), (12, .tuple #[]), (11, .tuple #[])] _ ⟨.tuple #[], .tuple #[], .tuple #[], .tuple #[], .tuple #[], .tuple #[], .tuple #[], .tuple #[], .tuple #[], Z, Z⟩
theorem wk_storage_Storage_May_2 (V : Vw) (Rs : List At) (p1 : Int) (p2 : Int) (ow : Ow V (Rs)) (r : Bool) (h : storage_Storage_May_2 p1 p2 = some r) : ∃ v V', Cl Try.prog 0 25 #[.pointer none, .int .i64 p1, .int .i64 p2] V.H v V'.H ∧ V.le V' ∧ (v = .bool r ∧ Ow V' (Rs)) := by
 refine Ct.of (Nat.zero_le _) Try.func25 Z (nr Z) ?_
 unfold storage_Storage_May_2 at h
 refine WP.usreg Z ?_
 refine U.p Z Z (.inl Z) (S.assign Z K) ?_
 refine U.done (nr Z) ?_
 refine WP.seq ?_
 refine WP.usreg Z ?_
 refine U.p Z Z (.inl Z) (S.move Z (L 1 Z Z)) ?_
 refine U.p Z Z (.inl Z) (S.move Z (L 3 Z Z)) ?_
 obtain ⟨x1, hx2, h3⟩ := bindS h
 refine O.call (V := V) Z Z (.inl Z) Z en29 (aC (L 1 Z Z) (aC (L 0 Z Z) aN)) (wk_storage_Storage_thread_2 V _ p1 ow _ hx2) (fun _ _ _ _ => nd) (fun v4 V5 le6 hp7 => ?_)
 obtain ⟨rfl, ow8⟩ := hp7
 refine U.p Z Z (.inl Z) (S.not Z (L 0 Z Z)) ?_
 refine U.p Z Z (.inl Z) (S.move Z (L 0 Z Z)) ?_
 refine U.joinX 8 (fun e H => ∃ (u9 u10 : Value), H = V5.H ∧ e = [(18, .bool ((!x1) || (decide (p2 < 1)))), (17, u9), (16, u10)]) ?_ ?_
 ·rintro _ _ ⟨u9, u10, rfl, rfl⟩
  refine U.p Z Z (.inl Z) (S.move Z (L 0 Z Z)) ?_
  obtain ⟨y14, hy15, h16⟩ := bindS h3
  refine U.joinX 17 (fun e H => ∃ (u17 u18 u19 u20 u21 u22 u23 : Value), H = V5.H ∧ e = [(27, .bool y14), (26, u17), (25, u18), (24, u19), (23, u20), (22, u21), (21, u22), (20, u23)]) ?_ ?_
  ·rintro _ _ ⟨u17, u18, u19, u20, u21, u22, u23, rfl, rfl⟩
   refine U.p Z Z (.inl Z) (S.move Z (L 0 Z Z)) ?_
   obtain ⟨y27, hy28, h29⟩ := bindS h16
   refine U.joinX 23 (fun e H => ∃ (u30 u31 u32 u33 : Value), ∃ V' : Vw, H = V'.H ∧ V5.le V' ∧ e = [(33, .bool y27), (32, u30), (31, u31), (30, u32), (29, u33)] ∧ Ow V' (Rs)) ?_ ?_
   ·rintro _ _ ⟨u30, u31, u32, u33, V34, rfl, le35, rfl, ow36⟩
    refine U.done (nr Z) ?_
    refine WP.cond _ (L 0 Z Z) Z (fun c37 => ?_) (fun c37 => ?_)
    ·have h38 := ifT c37 h29
     refine WP.usreg Z ?_
     refine U.p Z Z (.inl Z) (S.assign Z K) ?_
     refine U.done (nr Z) ?_
     refine WP.ret ?_
     refine sqR ?_
     refine fin.slot (.inr Z) Z (L 0 Z Z) ⟨V34, Z, (le6.trans le35), ?_⟩
     have e39 := Option.some.inj h38
     subst e39
     exact ⟨rfl, ow36⟩
    ·have h40 := ifF c37 h29
     refine WP.skip ?_
     refine sqN ?_
     refine WP.usreg Z ?_
     refine U.p Z Z (.inl Z) (S.move Z (L 24 Z Z)) ?_
     cases h40
   ·intro kk
    refine bcase (b := y14) (fun g41 => ?_) (fun g41 => ?_)
    ·have h42 := ifT g41 hy28
     refine U.x Z Z Z Z ((L 0 Z Z).trans (cB g41)) (by decide) ?_
     refine U.x Z Z Z Z ((L 1 Z Z).trans (cB g41)) (by decide) ?_
     refine U.x Z Z Z Z ((L 2 Z Z).trans (cB g41)) (by decide) ?_
     refine U.x Z Z Z Z ((L 3 Z Z).trans (cB g41)) (by decide) ?_
     refine U.p Z Z (.inl Z) (S.pickT Z ((L 4 Z Z).trans (cB g41)) K) ?_
     have e43 := Option.some.inj h42
     subst e43
     exact kk [(33, .bool true), (32, .tuple #[]), (31, .tuple #[]), (30, .tuple #[]), (29, .tuple #[])] _ ⟨.tuple #[], .tuple #[], .tuple #[], .tuple #[], V5, Z, (.refl _), Z, ow8⟩
    ·have h44 := ifF g41 hy28
     refine U.p Z Z (.inr ⟨_, _, _, Z, Z, ((L 0 Z Z).trans (cB g41))⟩) (S.move Z (L 19 Z Z)) ?_
     refine U.p Z Z (.inr ⟨_, _, _, Z, Z, ((L 1 Z Z).trans (cB g41))⟩) (S.move Z (L 21 Z Z)) ?_
     refine U.p Z Z (.inr ⟨_, _, _, Z, Z, ((L 2 Z Z).trans (cB g41))⟩) (S.move Z (L 23 Z Z)) ?_
     obtain ⟨x45, hx46, h47⟩ := bindS h44
     refine O.call (V := V5) Z Z (.inr ⟨_, _, _, Z, Z, ((L 3 Z Z).trans (cB g41))⟩) Z en20 (aC (L 2 Z Z) (aC (L 1 Z Z) (aC (L 0 Z Z) aN))) (wk_storage_Storage_Seen_2 V5 _ p1 p2 ow8 _ hx46) (fun _ _ _ _ => nd) (fun v48 V49 le50 hp51 => ?_)
     obtain ⟨rfl, ow52⟩ := hp51
     refine U.p Z Z (.inl Z) (S.pickF Z ((L 4 Z Z).trans (cB g41)) (L 0 Z Z)) ?_
     have e53 := Option.some.inj h47
     subst e53
     exact kk [(33, .bool x45), (32, .bool x45), (31, .int .i64 p2), (30, .int .i64 p1), (29, .pointer none)] _ ⟨.bool x45, .int .i64 p2, .int .i64 p1, .pointer none, V49, Z, le50, Z, ow52⟩
  ·intro kk
   refine bcase (b := (!x1) || (decide (p2 < 1))) (fun g54 => ?_) (fun g54 => ?_)
   ·have h55 := ifT g54 hy15
    refine U.x Z Z Z Z ((L 0 Z Z).trans (cB g54)) (by decide) ?_
    refine U.x Z Z Z Z ((L 1 Z Z).trans (cB g54)) (by decide) ?_
    refine U.x Z Z Z Z ((L 2 Z Z).trans (cB g54)) (by decide) ?_
    refine U.x Z Z Z Z ((L 3 Z Z).trans (cB g54)) (by decide) ?_
    refine U.x Z Z Z Z ((L 4 Z Z).trans (cB g54)) (by decide) ?_
    refine U.x Z Z Z Z ((L 5 Z Z).trans (cB g54)) (by decide) ?_
    refine U.x Z Z Z Z ((L 6 Z Z).trans (cB g54)) (by decide) ?_
    refine U.p Z Z (.inl Z) (S.pickT Z ((L 7 Z Z).trans (cB g54)) K) ?_
    have e56 := Option.some.inj h55
    subst e56
    exact kk [(27, .bool true), (26, .tuple #[]), (25, .tuple #[]), (24, .tuple #[]), (23, .tuple #[]), (22, .tuple #[]), (21, .tuple #[]), (20, .tuple #[])] _ ⟨.tuple #[], .tuple #[], .tuple #[], .tuple #[], .tuple #[], .tuple #[], .tuple #[], Z, Z⟩
   ·have h57 := ifF g54 hy15
    refine U.p Z Z (.inr ⟨_, _, _, Z, Z, ((L 0 Z Z).trans (cB g54))⟩) (S.move Z (L 12 Z Z)) ?_
    refine U.p Z Z (.inr ⟨_, _, _, Z, Z, ((L 1 Z Z).trans (cB g54))⟩) (S.move Z (L 11 Z Z)) ?_
    cases h57
 ·intro kk
  refine bcase (b := !x1) (fun g58 => ?_) (fun g58 => ?_)
  ·skip
   have k59 : x1 = false := nT g58
   refine U.x Z Z Z Z ((L 0 Z Z).trans (cB g58)) (by decide) ?_
   refine U.x Z Z Z Z ((L 1 Z Z).trans (cB g58)) (by decide) ?_
   refine U.p Z Z (.inl Z) (S.pickT Z ((L 2 Z Z).trans (cB g58)) K) ?_
   exact kk [(18, .bool true), (17, .tuple #[]), (16, .tuple #[])] _ ⟨.tuple #[], .tuple #[], Z, (by rw [g58, Bool.true_or])⟩
  ·skip
   have k60 : x1 = true := nF g58
   refine U.p Z Z (.inr ⟨_, _, _, Z, Z, ((L 0 Z Z).trans (cB g58))⟩) (S.move Z (L 8 Z Z)) ?_
   refine U.p Z Z (.inr ⟨_, _, _, Z, Z, ((L 1 Z Z).trans (cB g58))⟩) (S.lss Z (L 0 Z Z) K) ?_
   refine U.p Z Z (.inl Z) (S.pickF Z ((L 2 Z Z).trans (cB g58)) (L 0 Z Z)) ?_
   exact kk [(18, .bool (decide (p2 < 1))), (17, .bool (decide (p2 < 1))), (16, .int .i64 p2)] _ ⟨.bool (decide (p2 < 1)), .int .i64 p2, Z, (by rw [g58, Bool.false_or])⟩
theorem wk_storage_Storage_Acked_2 (V : Vw) (Rs : List At) (p1 : Int) (ow : Ow V (Rs)) (r : Bool) (h : storage_Storage_Acked_2 p1 = some r) : ∃ v V', Cl Try.prog 0 22 #[.pointer none, .int .i64 p1] V.H v V'.H ∧ V.le V' ∧ (v = .bool r ∧ Ow V' (Rs)) := by
 refine Ct.of (Nat.zero_le _) Try.func22 Z (nr Z) ?_
 unfold storage_Storage_Acked_2 at h
 refine WP.usreg Z ?_
 refine U.p Z Z (.inl Z) (S.assign Z K) ?_
 refine U.done (nr Z) ?_
 refine WP.seq ?_
 refine WP.usreg Z ?_
 refine U.p Z Z (.inl Z) (S.move Z (L 1 Z Z)) ?_
 refine U.p Z Z (.inl Z) (S.nilPP Z (L 0 Z Z) K Try.underlying24) ?_
 refine U.p Z Z (.inl Z) (S.move Z (L 0 Z Z)) ?_
 refine U.x Z Z Z Z (L 0 Z Z) (by decide) ?_
 refine U.x Z Z Z Z (L 1 Z Z) (by decide) ?_
 refine U.p Z Z (.inl Z) (S.pickT Z (L 2 Z Z) K) ?_
 refine U.p Z Z (.inl Z) (S.move Z (L 0 Z Z)) ?_
 refine U.x Z Z Z Z (L 0 Z Z) (by decide) ?_
 refine U.x Z Z Z Z (L 1 Z Z) (by decide) ?_
 refine U.x Z Z Z Z (L 2 Z Z) (by decide) ?_
 refine U.x Z Z Z Z (L 3 Z Z) (by decide) ?_
 refine U.x Z Z Z Z (L 4 Z Z) (by decide) ?_
 refine U.x Z Z Z Z (L 5 Z Z) (by decide) ?_
 refine U.x Z Z Z Z (L 6 Z Z) (by decide) ?_
 refine U.p Z Z (.inl Z) (S.pickT Z (L 7 Z Z) K) ?_
 refine U.p Z Z (.inl Z) (S.move Z (L 0 Z Z)) ?_
 refine U.x Z Z Z Z (L 0 Z Z) (by decide) ?_
 refine U.x Z Z Z Z (L 1 Z Z) (by decide) ?_
 refine U.x Z Z Z Z (L 2 Z Z) (by decide) ?_
 refine U.x Z Z Z Z (L 3 Z Z) (by decide) ?_
 refine U.x Z Z Z Z (L 4 Z Z) (by decide) ?_
 refine U.x Z Z Z Z (L 5 Z Z) (by decide) ?_
 refine U.x Z Z Z Z (L 6 Z Z) (by decide) ?_
 refine U.x Z Z Z Z (L 7 Z Z) (by decide) ?_
 refine U.x Z Z Z Z (L 8 Z Z) (by decide) ?_
 refine U.x Z Z Z Z (L 9 Z Z) (by decide) ?_
 refine U.p Z Z (.inl Z) (S.pickT Z (L 10 Z Z) K) ?_
 refine U.done (nr Z) ?_
 refine WP.cond true (L 0 Z Z) Z (fun _ => ?_) (fun h => by cases h)
 refine WP.usreg Z ?_
 refine U.p Z Z (.inl Z) (S.assign Z K) ?_
 refine U.done (nr Z) ?_
 refine WP.ret ?_
 refine sqR ?_
 refine fin.slot (.inr Z) Z (L 0 Z Z) ⟨V, Z, (.refl _), ?_⟩
 have e1 := Option.some.inj h
 subst e1
 exact ⟨rfl, ow⟩
theorem wk_law16_StorageDoes (V : Vw) (Rs : List At) (p0 : Int) (p1 : List Tlaw16_Call) (v1 : Value) (f2 : Fz RT_Tlaw16_Call V v1 p1) (ow : Ow V (Rs)) (r : Bool) (h : law16_StorageDoes p0 p1 = some r) : ∃ v V', Cl Try.prog 0 8 #[.int .i64 p0, v1] V.H v V'.H ∧ V.le V' ∧ (v = .bool r ∧ Ow V' (Rs)) := by
 refine Ct.of (Nat.zero_le _) Try.func8 Z (nr Z) ?_
 unfold law16_StorageDoes at h
 refine WP.usreg Z ?_
 refine U.p Z Z (.inl Z) (S.assign Z K) ?_
 refine U.done (nr Z) ?_
 refine WP.seq ?_
 refine WP.usreg Z ?_
 obtain ⟨x3, hx4, h5⟩ := bindS h
 refine O.call (V := V) Z Z (.inl Z) Z en9 aN (wk_law16_alive V _ ow _ hx4) (fun _ _ _ _ => nd) (fun v6 V7 le8 hp9 => ?_)
 obtain ⟨rfl, ow10⟩ := hp9
 refine U.p Z Z (.inl Z) (S.not Z (L 0 Z Z)) ?_
 refine U.done (nr Z) ?_
 refine WP.cond _ (L 0 Z Z) Z (fun c11 => ?_) (fun c11 => ?_)
 ·have h12 := ifT c11 h5
  have k13 : x3 = false := nT c11
  refine WP.usreg Z ?_
  refine U.p Z Z (.inl Z) (S.assign Z K) ?_
  refine U.done (nr Z) ?_
  refine WP.ret ?_
  refine sqR ?_
  refine fin.slot (.inr Z) Z (L 0 Z Z) ⟨V7, Z, le8, ?_⟩
  have e14 := Option.some.inj h12
  subst e14
  exact ⟨rfl, ow10⟩
 ·have h15 := ifF c11 h5
  have k16 : x3 = true := nF c11
  refine WP.skip ?_
  refine sqN ?_
  refine WP.seq ?_
  refine WP.usreg Z ?_
  refine U.p Z Z (.inl Z) (S.move Z (L 4 Z Z)) ?_
  refine U.p Z Z (.inl Z) (f2.1.len Z (L 0 Z Z) Try.underlying22) ?_
  refine U.p Z Z (.inl Z) (S.gtr Z (L 0 Z Z) K) ?_
  refine U.done (nr Z) ?_
  refine WP.cond _ (L 0 Z Z) Z (fun c17 => ?_) (fun c17 => ?_)
  ·have h18 := ifT c17 h15
   refine WP.usreg Z ?_
   refine U.p Z Z (.inl Z) (S.assign Z K) ?_
   refine U.done (nr Z) ?_
   refine WP.ret ?_
   refine sqR ?_
   refine fin.slot (.inr Z) Z (L 0 Z Z) ⟨V7, Z, le8, ?_⟩
   have e19 := Option.some.inj h18
   subst e19
   exact ⟨rfl, ow10⟩
  ·have h20 := ifF c17 h15
   refine WP.skip ?_
   refine sqN ?_
   refine WP.usreg Z ?_
   refine U.p Z Z (.inl Z) (S.move Z (L 6 Z Z)) ?_
   obtain ⟨x21, hx22, h23⟩ := bindS h20
   refine O.call (V := V7) Z Z (.inl Z) Z en10 (aC (L 0 Z Z) aN) (wk_storage_New V7 _ p0 ow10 _ hx22) (fun _ _ _ _ => nd) (fun v24 V25 le26 hp27 => ?_)
   obtain ⟨b29, z30, v32, v34, hs35, v37, hs38, v40, hs41, v43, rfl, ow28⟩ := hp27
   refine U.p Z Z (.inl Z) (S.move Z (L 8 Z Z)) ?_
   obtain ⟨x45, hx46, h47⟩ := bindS h23
   refine O.call (V := V25) Z Z (.inl Z) Z en14 (aC (L 0 Z Z) aN) (wk_ref16_New V25 _ p0 ow28 _ hx46) (fun _ _ _ _ => nd) (fun v48 V49 le50 hp51 => ?_)
   obtain ⟨b53, z54, v56, v58, hs59, rfl, ow52⟩ := hp51
   refine U.p Z Z (.inl Z) (S.assign Z (L 2 Z Z)) ?_
   refine U.p Z Z (.inl Z) (S.assign Z (L 1 Z Z)) ?_
   refine U.done (nr Z) ?_
   refine WP.seq ?_
   refine WP.usreg Z ?_
   refine U.p Z Z (.inl Z) (S.move Z (L 13 Z Z)) ?_
   refine U.p Z Z (.inl Z) (f2.1.len Z (L 0 Z Z) Try.underlying22) ?_
   refine U.p Z Z (.inl Z) (S.move Z K) ?_
   refine U.done (nr Z) ?_
   refine WP.blk ?_
   have ow88 := ow52.pick 2 Z
   have ow89 := ow88.pick 2 Z
   have ow90 := ow89.pick 2 Z
   have ow91 := ow90.pick 8 Z
   have ow92 := ow91.pick 8 Z
   have ow93 := ow92.pick 8 Z
   have ow94 := ow93.pick 8 Z
   have ow95 := ow94.pick 8 Z
   have ow96 := ow95.pick 8 Z
   unfold law16_StorageDoes_l1 at h47
   obtain ⟨n98, hn97⟩ := loopO_some.1 h47
   refine WP.loopI2 (fun n l V' => ∃ (v62 : Value) (xs63 : List Tref16_Event) (v65 : Value) (hs66 : List Value) (xs67 : List (List Int)) (v69 : Value) (hs70 : List Value) (xs71 : List (List (Int × Bool))) (v73 : Value) (hs74 : List Value) (xs75 : List (List (Int × Int))) (v77 : Value) (xs78 : List (Int × Int)) (x79 : Int) (v81 : Value) (xs82 : List Tref16_Event) (v84 : Value) (hs85 : List Value) (xs86 : List (List Int)) (x87 : Int), l = [(5, .pointer (some ⟨b29, 0, none⟩)), (6, .pointer (some ⟨b53, 0, none⟩)), (25, v1), (26, .int .i64 (p1.length : Int)), (27, .int .i64 x87)] ∧ V49.le V' ∧ Ow V' (.pt b29 (.cells z30 [v62, v65, v69, v73, v77]) :: .os RT_Tref16_Event v62 xs63 :: .oss (RO.os (RT.int .i64)) v65 hs66 xs67 :: .oss (RO.om RT.bool false) v69 hs70 xs71 :: .oss (RO.om (RT.int .i64) false) v73 hs74 xs75 :: .om (RT.int .i64) false v77 xs78 :: .pt b53 (.cells z54 [.int .i64 x79, v81, v84]) :: .os RT_Tref16_Event v81 xs82 :: .oss (RO.os (RT.int .i64)) v84 hs85 xs86 :: Rs) ∧ itO (fun s => law16_StorageDoes_l1b p1 s.1 s.2.1 s.2.2.1 s.2.2.2.1 s.2.2.2.2.1 s.2.2.2.2.2.1 s.2.2.2.2.2.2.1 s.2.2.2.2.2.2.2.1 s.2.2.2.2.2.2.2.2) n (xs63, xs67, xs71, xs75, xs78, x79, xs82, xs86, x87) = some r) n98 _ ⟨v32, x21.events, v34, hs35, x21.seen, v37, hs38, x21.has, v40, hs41, x21.now, v43, x21.last, x45.n, v56, x45.e, v58, hs59, x45.come, 0, Z, .refl _, ow96, hn97⟩ (allCons (L 4 Z Z) (allCons (L 3 Z Z) (allCons (L 2 Z Z) (allCons (L 1 Z Z) (allCons (L 0 Z Z) allNil))))) ?_
   rintro _ _ V99 ⟨v62, xs63, v65, hs66, xs67, v69, hs70, xs71, v73, hs74, xs75, v77, xs78, x79, v81, xs82, v84, hs85, xs86, x87, rfl, le100, ow101, h105⟩
   obtain ⟨m102, q103, rfl, h106, e104⟩ := itS h105
   replace h106 : law16_StorageDoes_l1b p1 xs63 xs67 xs71 xs75 xs78 x79 xs82 xs86 x87 = some q103 := h106
   unfold law16_StorageDoes_l1b at h106
   refine WP.usreg Z ?_
   refine U.p Z Z (.inl Z) (S.lss Z (L 4 Z Z) (L 3 Z Z)) ?_
   refine U.done (nr Z) ?_
   refine WP.seq ?_
   refine WP.cond _ (L 0 Z Z) Z (fun c107 => ?_) (fun c107 => ?_)
   ·have h108 := ifT c107 h106
    refine WP.skip ?_
    refine sqN ?_
    refine WP.seq ?_
    refine WP.blk ?_
    refine WP.usreg Z ?_
    obtain ⟨x109, hx110, h111⟩ := bindS h108
    obtain ⟨b112, o113, c114, cs115, hv116, hf117, hr118, hc119⟩ := f2.at hx110
    obtain rfl : cs115 = [.int .i64 x109.kind, .int .i64 x109.t, .int .i64 x109.n, .int .i64 x109.at_, .int .i64 x109.val] := hr118
    refine U.p Z Z (.inl Z) (S.index Z ((L 3 Z Z).trans hv116) (L 5 Z Z) Try.underlying22 ti35 (ix_ge hx110) (ix_lt hx110)) ?_
    refine U.k Z Z (.inl Z) (S.loadN (cs := [.int .i64 x109.kind, .int .i64 x109.t, .int .i64 x109.n, .int .i64 x109.at_, .int .i64 x109.val]) Z (L 0 Z Z) Try.underlying35 Z ti35 Z (fun j v hj => (((le8.trans le26).trans le50).trans le100).cell hf117 (hc119 j v hj))) nd ?_
    refine O.alloc ow101 Z Z (.inl Z) Z ti35 Z Z nd (fun b120 V121 le122 ow123 => ?_)
    refine O.store (k := 0) (cs := [.int .i64 x109.kind, .int .i64 x109.t, .int .i64 x109.n, .int .i64 x109.at_, .int .i64 x109.val]) (c' := [.int .i64 x109.kind, .int .i64 x109.t, .int .i64 x109.n, .int .i64 x109.at_, .int .i64 x109.val]) ow123 Z Z Z (.inl Z) Z (L 0 Z Z) (L 1 Z Z) ti35 (by simp [topV]) Z Z (nr Z) Z Z nd (fun V125 le126 ow127 => ?_)
    refine U.done (nr Z) ?_
    refine WP.seqI (fun l V' => ∃ (v129 : Value) (xs130 : List Tref16_Event) (v132 : Value) (hs133 : List Value) (xs134 : List (List Int)) (v136 : Value) (hs137 : List Value) (xs138 : List (List (Int × Bool))) (v140 : Value) (hs141 : List Value) (xs142 : List (List (Int × Int))) (v144 : Value) (xs145 : List (Int × Int)) (x146 : Int) (v148 : Value) (xs149 : List Tref16_Event) (v151 : Value) (hs152 : List Value) (xs153 : List (List Int)), l = [(5, .pointer (some ⟨b29, 0, none⟩)), (6, .pointer (some ⟨b53, 0, none⟩)), (8, .pointer (some ⟨b120, 0, none⟩)), (25, v1), (26, .int .i64 (p1.length : Int)), (27, .int .i64 x87)] ∧ V125.le V' ∧ Ow V' (.pt b29 (.cells z30 [v129, v132, v136, v140, v144]) :: .os RT_Tref16_Event v129 xs130 :: .oss (RO.os (RT.int .i64)) v132 hs133 xs134 :: .oss (RO.om RT.bool false) v136 hs137 xs138 :: .oss (RO.om (RT.int .i64) false) v140 hs141 xs142 :: .om (RT.int .i64) false v144 xs145 :: .pt b53 (.cells z54 [.int .i64 x146, v148, v151]) :: .os RT_Tref16_Event v148 xs149 :: .oss (RO.os (RT.int .i64)) v151 hs152 xs153 :: .pt b120 (.cells 5 [.int .i64 x109.kind, .int .i64 x109.t, .int .i64 x109.n, .int .i64 x109.at_, .int .i64 x109.val]) :: Rs) ∧ law16_StorageDoes_k1 x87 x109 xs130 xs134 xs138 xs142 xs145 x146 xs149 xs153 = some q103) ?_ ?_
    ·rintro _ V154 ⟨v129, xs130, v132, hs133, xs134, v136, hs137, xs138, v140, hs141, xs142, v144, xs145, x146, v148, xs149, v151, hs152, xs153, rfl, le155, ow156, h157⟩
     unfold law16_StorageDoes_k1 at h157
     refine WP.usreg Z ?_
     refine U.p Z Z (.inl Z) (S.move Z (L 0 Z Z)) ?_
     refine U.p Z Z (.inl Z) (S.move Z (L 2 Z Z)) ?_
     refine U.k Z Z (.inl Z) (S.loadB Z (L 4 Z Z) Try.underlying35 Z ti35 (ow156.own (k := 9) Z).get Z) nd ?_
     have ow158 := ow156.pick 8 Z
     have ow159 := ow158.pick 8 Z
     have ow160 := ow159.pick 8 Z
     have ow161 := ow160.pick 8 Z
     have ow162 := ow161.pick 8 Z
     have ow163 := ow162.pick 8 Z
     have ow164 := ow163.pick 8 Z
     have ow165 := ow164.pick 8 Z
     have ow166 := ow165.pick 8 Z
     obtain ⟨x167, hx168, h169⟩ := bindS h157
     refine O.call (V := V154) Z Z (.inl Z) Z en27 (aC (L 2 Z Z) (aC (L 1 Z Z) (aC (L 0 Z Z) aN))) (wk_law16_same V154 _ (⟨xs130, xs134, xs138, xs142, xs145⟩ : Tstorage_Storage) (⟨x146, xs149, xs153⟩ : Tref16_Storage) x109 b29 z30 v129 v132 hs133 v136 hs137 v140 hs141 v144 b53 z54 v148 v151 hs152 ow166 _ hx168) (fun _ _ _ _ => nd) (fun v170 V171 le172 hp173 => ?_)
     obtain ⟨rfl, ow174⟩ := hp173
     refine U.p Z Z (.inl Z) (S.not Z (L 0 Z Z)) ?_
     refine U.done (nr Z) ?_
     refine WP.cond _ (L 0 Z Z) Z (fun c175 => ?_) (fun c175 => ?_)
     ·have h176 := ifT c175 h169
      have k177 : x167 = false := nT c175
      refine WP.usreg Z ?_
      refine U.p Z Z (.inl Z) (S.assign Z K) ?_
      refine U.done (nr Z) ?_
      refine WP.ret ?_
      refine blkR (sqR (sqR (blkR (sqR ?_))))
      have h178 := exitS h176 e104
      refine fin.slot (.inr Z) Z (L 0 Z Z) ⟨V171, Z, (((((((le8.trans le26).trans le50).trans le100).trans le122).trans le126).trans le155).trans le172), ?_⟩
      have ow179 := ow174.drop 0 Z
      have ow180 := ow179.drop 0 Z
      have ow181 := ow180.drop 0 Z
      have ow182 := ow181.drop 0 Z
      have ow183 := ow182.drop 0 Z
      have ow184 := ow183.drop 0 Z
      have ow185 := ow184.drop 0 Z
      have ow186 := ow185.drop 0 Z
      have ow187 := ow186.drop 0 Z
      have ow188 := ow187.drop 0 Z
      have e189 := Option.some.inj h178
      subst e189
      exact ⟨rfl, ow188⟩
     ·have h190 := ifF c175 h169
      have k191 : x167 = true := nF c175
      refine WP.skip ?_
      refine blkN (sqN ?_)
      refine WP.ureg Z ?_
      refine U.p Z Z (.inl Z) (S.add Z (L 10 Z Z) K) ?_
      refine U.p Z Z (.inl Z) (S.move Z (L 0 Z Z)) ?_
      refine U.done (nr Z) ?_
      refine sqN ?_
      have ow192 := ow174.drop 9 Z
      exact ⟨_, V171, Z, ⟨m102, Nat.lt_succ_self _, v129, xs130, v132, hs133, xs134, v136, hs137, xs138, v140, hs141, xs142, v144, xs145, x146, v148, xs149, v151, hs152, xs153, w64 (x87 + 1), Z, ((((le100.trans le122).trans le126).trans le155).trans le172), ow192, backS h190 e104⟩, (allCons (L 7 Z Z) (allCons (L 8 Z Z) (allCons (L 10 Z Z) (allCons (L 11 Z Z) (allCons (L 0 Z Z) allNil)))))⟩
    ·skip
     refine WP.usreg Z ?_
     refine U.p (v := .pointer (some ⟨b120, 0, none⟩)) Z Z (.inl Z) (S.fieldAddr Z (L 0 Z Z) Try.underlying35 Z ti3 Z Z) ?_
     refine U.k Z Z (.inl Z) (S.load Z (L 0 Z Z) Try.underlying3 Z ((ow127.own (k := 0) Z).cell Z)) nd ?_
     refine U.done (nr Z) ?_
     refine WP.blk ?_
     refine WP.usreg Z ?_
     refine U.p Z Z (.inl Z) (S.eqlI Z (L 0 Z Z) K) ?_
     refine U.p Z Z (.inl Z) (S.assign Z (L 0 Z Z)) ?_
     refine U.done (nr Z) ?_
     refine WP.cond _ (L 0 Z Z) Z (fun c193 => ?_) (fun c193 => ?_)
     ·have h194 := ifT c193 h111
      refine WP.usdreg Z Z Z ?_
      refine U.p Z Z (.inl Z) (S.move Z (L 8 Z Z)) ?_
      refine U.p (v := .pointer (some ⟨b120, 1, none⟩)) Z Z (.inl Z) (S.fieldAddr Z (L 5 Z Z) Try.underlying35 Z ti3 Z Z) ?_
      refine U.k Z Z (.inl Z) (S.load Z (L 0 Z Z) Try.underlying3 Z ((ow127.own (k := 0) Z).cell Z)) (fun _ => (okH.nil (fun r h => by cases h; exact (ow127.own (k := 0) Z).lt))) ?_
      refine U.p (v := .pointer (some ⟨b120, 3, none⟩)) Z Z (.inl Z) (S.fieldAddr Z (L 7 Z Z) Try.underlying35 Z ti3 Z Z) ?_
      refine U.k Z Z (.inl Z) (S.load Z (L 0 Z Z) Try.underlying3 Z ((ow127.own (k := 0) Z).cell Z)) (fun _ => (okH.cons trivial (okH.nil (fun r h => by cases h; exact (ow127.own (k := 0) Z).lt)))) ?_
      refine U.p (v := .pointer (some ⟨b120, 4, none⟩)) Z Z (.inl Z) (S.fieldAddr Z (L 9 Z Z) Try.underlying35 Z ti3 Z Z) ?_
      refine U.k Z Z (.inl Z) (S.load Z (L 0 Z Z) Try.underlying3 Z ((ow127.own (k := 0) Z).cell Z)) (fun _ => (okH.cons trivial (okH.cons trivial (okH.nil (fun r h => by cases h; exact (ow127.own (k := 0) Z).lt))))) ?_
      have ow195 := ow127.pick 6 Z
      have ow196 := ow195.pick 6 Z
      have ow197 := ow196.pick 6 Z
      have ow198 := ow197.pick 6 Z
      have ow199 := ow198.pick 6 Z
      have ow200 := ow199.pick 6 Z
      obtain ⟨x201, hx202, h203⟩ := bindS h194
      refine O.call (V := V125) Z Z (.inl Z) Z en15 (aC (L 6 Z Z) (aC (L 4 Z Z) (aC (L 2 Z Z) (aC (L 0 Z Z) aN)))) (wk_storage_Storage_Write V125 _ (⟨xs63, xs67, xs71, xs75, xs78⟩ : Tstorage_Storage) x109.t x109.at_ x109.val b29 z30 v62 v65 hs66 v69 hs70 v73 hs74 v77 ow200 _ hx202) (fun v204 V205 le206 hp207 => by obtain ⟨v209, v211, hs212, v214, hs215, v217, hs218, v220, rfl, ow208⟩ := hp207; exact (fun _ => (okH.cons (Or.inl Z) (okH.cons (Or.inl Z) (okH.cons (Or.inl Z) (okH.nil (fun r h => nomatch h))))))) (fun v204 V205 le206 hp207 => ?_)
      obtain ⟨v209, v211, hs212, v214, hs215, v217, hs218, v220, rfl, ow208⟩ := hp207
      refine U.p Z Z (.inl Z) (S.move Z (L 17 Z Z)) ?_
      refine U.p (v := .pointer (some ⟨b120, 1, none⟩)) Z Z (.inl Z) (S.fieldAddr Z (L 13 Z Z) Try.underlying35 Z ti3 Z Z) ?_
      refine U.k Z Z (.inl Z) (S.load Z (L 0 Z Z) Try.underlying3 Z ((ow208.own (k := 6) Z).cell Z)) (fun _ => (okH.cons (Or.inr (Or.inl ((ow208.own (k := 6) Z).get.trans (ow200.own (k := 6) Z).get.symm))) (okH.cons trivial (okH.cons trivial (okH.cons trivial (okH.nil (fun r h => by cases h; exact (ow208.own (k := 6) Z).lt))))))) ?_
      refine U.p (v := .pointer (some ⟨b120, 3, none⟩)) Z Z (.inl Z) (S.fieldAddr Z (L 15 Z Z) Try.underlying35 Z ti3 Z Z) ?_
      refine U.k Z Z (.inl Z) (S.load Z (L 0 Z Z) Try.underlying3 Z ((ow208.own (k := 6) Z).cell Z)) (fun _ => (okH.cons trivial (okH.cons (Or.inr (Or.inl ((ow208.own (k := 6) Z).get.trans (ow200.own (k := 6) Z).get.symm))) (okH.cons trivial (okH.cons trivial (okH.cons trivial (okH.nil (fun r h => by cases h; exact (ow208.own (k := 6) Z).lt)))))))) ?_
      refine U.p (v := .pointer (some ⟨b120, 4, none⟩)) Z Z (.inl Z) (S.fieldAddr Z (L 17 Z Z) Try.underlying35 Z ti3 Z Z) ?_
      refine U.k Z Z (.inl Z) (S.load Z (L 0 Z Z) Try.underlying3 Z ((ow208.own (k := 6) Z).cell Z)) (fun _ => (okH.cons trivial (okH.cons trivial (okH.cons (Or.inr (Or.inl ((ow208.own (k := 6) Z).get.trans (ow200.own (k := 6) Z).get.symm))) (okH.cons trivial (okH.cons trivial (okH.cons trivial (okH.nil (fun r h => by cases h; exact (ow208.own (k := 6) Z).lt))))))))) ?_
      refine U.p (v := .agg #[.int .i64 x109.t, .bool false, .int .i64 x109.at_, .int .i64 x109.val]) Z Z (.inl Z) (S.build (vs := [.int .i64 x109.t, .int .i64 x109.at_, .int .i64 x109.val]) Z ti39 Z pl39 (aC (L 4 Z Z) (aC (L 2 Z Z) (aC (L 0 Z Z) aN))) (allC (by simp [topV]) (allC (by simp [topV]) (allC (by simp [topV]) allN))) Z) ?_
      have ow222 := ow208.pick 9 Z
      have ow223 := ow222.pick 9 Z
      have ow224 := ow223.pick 9 Z
      obtain ⟨x225, hx226, h227⟩ := bindS h203
      refine O.call (V := V205) Z Z (.inl Z) Z en16 (aC (L 7 Z Z) (aC (L 0 Z Z) aN)) (wk_ref16_Storage_Accept V205 _ (⟨x79, xs82, xs86⟩ : Tref16_Storage) (⟨x109.t, false, x109.at_, x109.val⟩ : Tref16_Event) b53 z54 v81 v84 hs85 ow224 _ hx226) (fun v228 V229 le230 hp231 => by obtain ⟨v233, v235, hs236, rfl, ow232⟩ := hp231; exact (fun _ => (okH.cons (Or.inl Z) (okH.cons (Or.inl Z) (okH.cons (Or.inl Z) (okH.cons Z (okH.cons (Or.inl Z) (okH.cons (Or.inl Z) (okH.cons (Or.inl Z) (okH.nil (fun r h => nomatch h))))))))))) (fun v228 V229 le230 hp231 => ?_)
      obtain ⟨v233, v235, hs236, rfl, ow232⟩ := hp231
      refine U.p Z Z (.inl Z) (S.neqI Z (L 9 Z Z) (L 0 Z Z)) ?_
      refine U.done (nr Z) ?_
      refine WP.cond _ (L 0 Z Z) Z (fun c238 => ?_) (fun c238 => ?_)
      ·have h239 := ifT c238 h227
       refine WP.usreg Z ?_
       refine U.p Z Z (.inl Z) (S.assign Z K) ?_
       refine U.done (nr Z) ?_
       refine WP.ret ?_
       refine blkR (sqR (blkR (sqR (sqR (blkR (sqR ?_))))))
       have h240 := exitS h239 e104
       refine fin.slot (.inr Z) Z (L 0 Z Z) ⟨V229, Z, (((((((le8.trans le26).trans le50).trans le100).trans le122).trans le126).trans le206).trans le230), ?_⟩
       have ow241 := ow232.drop 0 Z
       have ow242 := ow241.drop 0 Z
       have ow243 := ow242.drop 0 Z
       have ow244 := ow243.drop 0 Z
       have ow245 := ow244.drop 0 Z
       have ow246 := ow245.drop 0 Z
       have ow247 := ow246.drop 0 Z
       have ow248 := ow247.drop 0 Z
       have ow249 := ow248.drop 0 Z
       have ow250 := ow249.drop 0 Z
       have e251 := Option.some.inj h240
       subst e251
       exact ⟨rfl, ow250⟩
      ·have h252 := ifF c238 h227
       refine WP.skip ?_
       refine blkN (sqN ?_)
       have ow253 := ow232.pick 9 Z
       have ow254 := ow253.pick 3 Z
       have ow255 := ow254.pick 3 Z
       have ow256 := ow255.pick 3 Z
       have ow257 := ow256.pick 9 Z
       have ow258 := ow257.pick 9 Z
       have ow259 := ow258.pick 9 Z
       have ow260 := ow259.pick 9 Z
       have ow261 := ow260.pick 9 Z
       have ow262 := ow261.pick 9 Z
       exact ⟨_, V229, Z, ⟨v209, x201.2.events, v211, hs212, x201.2.seen, v214, hs215, x201.2.has, v217, hs218, x201.2.now, v220, x201.2.last, x225.2.n, v233, x225.2.e, v235, hs236, x225.2.come, Z, (le206.trans le230), ow262, h252⟩, (allCons (L 26 Z Z) (allCons (L 27 Z Z) (allCons (L 22 Z Z) (allCons (L 28 Z Z) (allCons (L 29 Z Z) (allCons (L 30 Z Z) allNil))))))⟩
     ·have h263 := ifF c193 h111
      refine WP.usreg Z ?_
      refine U.p Z Z (.inl Z) (S.eqlI Z (L 2 Z Z) K) ?_
      refine U.p Z Z (.inl Z) (S.assign Z (L 0 Z Z)) ?_
      refine U.done (nr Z) ?_
      refine WP.cond _ (L 0 Z Z) Z (fun c264 => ?_) (fun c264 => ?_)
      ·have h265 := ifT c264 h263
       refine WP.usdreg Z Z Z ?_
       refine U.p Z Z (.inl Z) (S.move Z (L 10 Z Z)) ?_
       refine U.p (v := .pointer (some ⟨b120, 1, none⟩)) Z Z (.inl Z) (S.fieldAddr Z (L 7 Z Z) Try.underlying35 Z ti3 Z Z) ?_
       refine U.k Z Z (.inl Z) (S.load Z (L 0 Z Z) Try.underlying3 Z ((ow127.own (k := 0) Z).cell Z)) (fun _ => (okH.nil (fun r h => by cases h; exact (ow127.own (k := 0) Z).lt))) ?_
       have ow266 := ow127.pick 6 Z
       have ow267 := ow266.pick 6 Z
       have ow268 := ow267.pick 6 Z
       have ow269 := ow268.pick 6 Z
       have ow270 := ow269.pick 6 Z
       have ow271 := ow270.pick 6 Z
       obtain ⟨x272, hx273, h274⟩ := bindS h265
       refine O.call (V := V125) Z Z (.inl Z) Z en17 (aC (L 2 Z Z) (aC (L 0 Z Z) aN)) (wk_storage_Storage_Barrier V125 _ (⟨xs63, xs67, xs71, xs75, xs78⟩ : Tstorage_Storage) x109.t b29 z30 v62 v65 hs66 v69 hs70 v73 hs74 v77 ow271 _ hx273) (fun v275 V276 le277 hp278 => by obtain ⟨v280, v282, hs283, v285, hs286, v288, hs289, v291, rfl, ow279⟩ := hp278; exact (fun _ => (okH.cons (Or.inl Z) (okH.nil (fun r h => nomatch h))))) (fun v275 V276 le277 hp278 => ?_)
       obtain ⟨v280, v282, hs283, v285, hs286, v288, hs289, v291, rfl, ow279⟩ := hp278
       refine U.p Z Z (.inl Z) (S.move Z (L 15 Z Z)) ?_
       refine U.p (v := .pointer (some ⟨b120, 1, none⟩)) Z Z (.inl Z) (S.fieldAddr Z (L 11 Z Z) Try.underlying35 Z ti3 Z Z) ?_
       refine U.k Z Z (.inl Z) (S.load Z (L 0 Z Z) Try.underlying3 Z ((ow279.own (k := 6) Z).cell Z)) (fun _ => (okH.cons (Or.inr (Or.inl ((ow279.own (k := 6) Z).get.trans (ow271.own (k := 6) Z).get.symm))) (okH.cons trivial (okH.nil (fun r h => by cases h; exact (ow279.own (k := 6) Z).lt))))) ?_
       refine U.p (v := .agg #[.int .i64 x109.t, .bool true, .int .i64 0, .int .i64 0]) Z Z (.inl Z) (S.build (vs := [.int .i64 x109.t, .bool true]) Z ti39 Z pl39 (aC (L 0 Z Z) (aC K aN)) (allC (by simp [topV]) (allC (by simp [topV]) allN)) Z) ?_
       have ow293 := ow279.pick 9 Z
       have ow294 := ow293.pick 9 Z
       have ow295 := ow294.pick 9 Z
       obtain ⟨x296, hx297, h298⟩ := bindS h274
       refine O.call (V := V276) Z Z (.inl Z) Z en16 (aC (L 3 Z Z) (aC (L 0 Z Z) aN)) (wk_ref16_Storage_Accept V276 _ (⟨x79, xs82, xs86⟩ : Tref16_Storage) (⟨x109.t, true, 0, 0⟩ : Tref16_Event) b53 z54 v81 v84 hs85 ow295 _ hx297) (fun v299 V300 le301 hp302 => by obtain ⟨v304, v306, hs307, rfl, ow303⟩ := hp302; exact (fun _ => (okH.cons (Or.inl Z) (okH.cons Z (okH.cons (Or.inl Z) (okH.nil (fun r h => nomatch h))))))) (fun v299 V300 le301 hp302 => ?_)
       obtain ⟨v304, v306, hs307, rfl, ow303⟩ := hp302
       refine U.p Z Z (.inl Z) (S.neqI Z (L 5 Z Z) (L 0 Z Z)) ?_
       refine U.done (nr Z) ?_
       refine WP.cond _ (L 0 Z Z) Z (fun c309 => ?_) (fun c309 => ?_)
       ·have h310 := ifT c309 h298
        refine WP.usreg Z ?_
        refine U.p Z Z (.inl Z) (S.assign Z K) ?_
        refine U.done (nr Z) ?_
        refine WP.ret ?_
        refine blkR (sqR (blkR (sqR (sqR (blkR (sqR ?_))))))
        have h311 := exitS h310 e104
        refine fin.slot (.inr Z) Z (L 0 Z Z) ⟨V300, Z, (((((((le8.trans le26).trans le50).trans le100).trans le122).trans le126).trans le277).trans le301), ?_⟩
        have ow312 := ow303.drop 0 Z
        have ow313 := ow312.drop 0 Z
        have ow314 := ow313.drop 0 Z
        have ow315 := ow314.drop 0 Z
        have ow316 := ow315.drop 0 Z
        have ow317 := ow316.drop 0 Z
        have ow318 := ow317.drop 0 Z
        have ow319 := ow318.drop 0 Z
        have ow320 := ow319.drop 0 Z
        have ow321 := ow320.drop 0 Z
        have e322 := Option.some.inj h311
        subst e322
        exact ⟨rfl, ow321⟩
       ·have h323 := ifF c309 h298
        refine WP.skip ?_
        refine blkN (sqN ?_)
        have ow324 := ow303.pick 9 Z
        have ow325 := ow324.pick 3 Z
        have ow326 := ow325.pick 3 Z
        have ow327 := ow326.pick 3 Z
        have ow328 := ow327.pick 9 Z
        have ow329 := ow328.pick 9 Z
        have ow330 := ow329.pick 9 Z
        have ow331 := ow330.pick 9 Z
        have ow332 := ow331.pick 9 Z
        have ow333 := ow332.pick 9 Z
        exact ⟨_, V300, Z, ⟨v280, x272.2.events, v282, hs283, x272.2.seen, v285, hs286, x272.2.has, v288, hs289, x272.2.now, v291, x272.2.last, x296.2.n, v304, x296.2.e, v306, hs307, x296.2.come, Z, (le277.trans le301), ow333, h323⟩, (allCons (L 20 Z Z) (allCons (L 21 Z Z) (allCons (L 16 Z Z) (allCons (L 22 Z Z) (allCons (L 23 Z Z) (allCons (L 24 Z Z) allNil))))))⟩
      ·have h334 := ifF c264 h263
       refine WP.usreg Z ?_
       refine U.p Z Z (.inl Z) (S.eqlI Z (L 4 Z Z) K) ?_
       refine U.p Z Z (.inl Z) (S.assign Z (L 0 Z Z)) ?_
       refine U.done (nr Z) ?_
       refine WP.cond _ (L 0 Z Z) Z (fun c335 => ?_) (fun c335 => ?_)
       ·have h336 := ifT c335 h334
        refine WP.usreg Z ?_
        refine U.p Z Z (.inl Z) (S.move Z (L 13 Z Z)) ?_
        refine U.p (v := .pointer (some ⟨b120, 1, none⟩)) Z Z (.inl Z) (S.fieldAddr Z (L 9 Z Z) Try.underlying35 Z ti3 Z Z) ?_
        refine U.k Z Z (.inl Z) (S.load Z (L 0 Z Z) Try.underlying3 Z ((ow127.own (k := 0) Z).cell Z)) nd ?_
        refine U.p (v := .pointer (some ⟨b120, 2, none⟩)) Z Z (.inl Z) (S.fieldAddr Z (L 11 Z Z) Try.underlying35 Z ti3 Z Z) ?_
        refine U.k Z Z (.inl Z) (S.load Z (L 0 Z Z) Try.underlying3 Z ((ow127.own (k := 0) Z).cell Z)) nd ?_
        have ow337 := ow127.pick 9 Z
        have ow338 := ow337.pick 9 Z
        have ow339 := ow338.pick 9 Z
        obtain ⟨x340, hx341, h342⟩ := bindS h336
        refine O.call (V := V125) Z Z (.inl Z) Z en26 (aC (L 4 Z Z) (aC (L 2 Z Z) (aC (L 0 Z Z) aN))) (wk_ref16_Storage_May V125 _ (⟨x79, xs82, xs86⟩ : Tref16_Storage) x109.t x109.n b53 z54 v81 v84 hs85 ow339 _ hx341) (fun _ _ _ _ => nd) (fun v343 V344 le345 hp346 => ?_)
        obtain ⟨rfl, ow347⟩ := hp346
        refine U.p Z Z (.inl Z) (S.assign Z (L 0 Z Z)) ?_
        refine U.done (nr Z) ?_
        refine WP.usreg Z ?_
        refine U.p Z Z (.inl Z) (S.move Z (L 19 Z Z)) ?_
        refine U.p (v := .pointer (some ⟨b120, 1, none⟩)) Z Z (.inl Z) (S.fieldAddr Z (L 16 Z Z) Try.underlying35 Z ti3 Z Z) ?_
        refine U.k Z Z (.inl Z) (S.load Z (L 0 Z Z) Try.underlying3 Z ((ow347.own (k := 3) Z).cell Z)) nd ?_
        refine U.p (v := .pointer (some ⟨b120, 2, none⟩)) Z Z (.inl Z) (S.fieldAddr Z (L 18 Z Z) Try.underlying35 Z ti3 Z Z) ?_
        refine U.k Z Z (.inl Z) (S.load Z (L 0 Z Z) Try.underlying3 Z ((ow347.own (k := 3) Z).cell Z)) nd ?_
        have ow348 := ow347.pick 9 Z
        have ow349 := ow348.pick 9 Z
        have ow350 := ow349.pick 9 Z
        have ow351 := ow350.pick 9 Z
        have ow352 := ow351.pick 9 Z
        have ow353 := ow352.pick 9 Z
        obtain ⟨x354, hx355, h356⟩ := bindS h342
        refine O.call (V := V344) Z Z (.inl Z) Z en18 (aC (L 4 Z Z) (aC (L 2 Z Z) (aC (L 0 Z Z) aN))) (wk_storage_Storage_Go V344 _ (⟨xs63, xs67, xs71, xs75, xs78⟩ : Tstorage_Storage) x109.t x109.n b29 z30 v62 v65 hs66 v69 hs70 v73 hs74 v77 ow353 _ hx355) (fun _ _ _ _ => nd) (fun v357 V358 le359 hp360 => ?_)
        obtain ⟨v362, hs363, v365, hs366, v368, hs369, v371, rfl, ow361⟩ := hp360
        refine U.p Z Z (.inl Z) (S.assign Z (L 0 Z Z)) ?_
        refine U.done (nr Z) ?_
        refine WP.seq ?_
        refine WP.usreg Z ?_
        refine U.p Z Z (.inl Z) (S.move Z (L 0 Z Z)) ?_
        refine U.p Z Z (.inl Z) (S.eqlI Z (L 0 Z Z) K) ?_
        refine U.p Z Z (.inl Z) (S.move Z (L 9 Z Z)) ?_
        refine U.p Z Z (.inl Z) (S.neqB Z (L 1 Z Z) (L 0 Z Z) Try.underlying4) ?_
        refine U.p Z Z (.inl Z) (S.move Z (L 0 Z Z)) ?_
        refine U.joinX 12 (fun e H => ∃ (u373 u374 u375 u376 u377 u378 : Value), H = V358.H ∧ e = [(90, .bool ((!((decide (x354.1 = 0)) == x340)) || ((!x340) && (decide (x354.1 ≠ 1))))), (89, u373), (88, u374), (87, u375), (86, u376), (85, u377), (84, u378)]) ?_ ?_
        ·rintro _ _ ⟨u373, u374, u375, u376, u377, u378, rfl, rfl⟩
         refine U.done (nr Z) ?_
         refine WP.cond _ (L 0 Z Z) Z (fun c382 => ?_) (fun c382 => ?_)
         ·have h383 := ifT c382 h356
          refine WP.usreg Z ?_
          refine U.p Z Z (.inl Z) (S.assign Z K) ?_
          refine U.done (nr Z) ?_
          refine WP.ret ?_
          refine sqR (blkR (sqR (blkR (sqR (sqR (blkR (sqR ?_)))))))
          have h384 := exitS h383 e104
          refine fin.slot (.inr Z) Z (L 0 Z Z) ⟨V358, Z, (((((((le8.trans le26).trans le50).trans le100).trans le122).trans le126).trans le345).trans le359), ?_⟩
          have ow385 := ow361.drop 0 Z
          have ow386 := ow385.drop 0 Z
          have ow387 := ow386.drop 0 Z
          have ow388 := ow387.drop 0 Z
          have ow389 := ow388.drop 0 Z
          have ow390 := ow389.drop 0 Z
          have ow391 := ow390.drop 0 Z
          have ow392 := ow391.drop 0 Z
          have ow393 := ow392.drop 0 Z
          have ow394 := ow393.drop 0 Z
          have e395 := Option.some.inj h384
          subst e395
          exact ⟨rfl, ow394⟩
         ·have h396 := ifF c382 h356
          refine WP.skip ?_
          refine sqN ?_
          refine WP.usreg Z ?_
          refine U.p Z Z (.inl Z) (S.move Z (L 19 Z Z)) ?_
          refine U.done (nr Z) ?_
          refine WP.cond _ (L 0 Z Z) Z (fun c397 => ?_) (fun c397 => ?_)
          ·have h398 := ifT c397 h396
           refine WP.udreg Z Z Z ?_
           refine U.p Z Z (.inl Z) (S.move Z (L 40 Z Z)) ?_
           refine U.p Z Z (.inl Z) (S.nilCheck Z (L 0 Z Z)) ?_
           refine U.p (v := .pointer (some ⟨b53, 2, none⟩)) Z Z (.inl Z) (S.fieldAddr Z (L 0 Z Z) Try.underlying46 Z ti44 Z Z) ?_
           refine U.k Z Z (.inl Z) (S.load Z (L 0 Z Z) Try.underlying44 Z ((ow361.own (k := 6) Z).cell Z)) (fun _ => (okH.nil (fun r h => by cases h; exact (ow361.own (k := 6) Z).lt))) ?_
           refine U.p (v := .pointer (some ⟨b120, 1, none⟩)) Z Z (.inl Z) (S.fieldAddr Z (L 39 Z Z) Try.underlying35 Z ti3 Z Z) ?_
           refine U.k Z Z (.inl Z) (S.load Z (L 0 Z Z) Try.underlying3 Z ((ow361.own (k := 9) Z).cell Z)) (fun _ => (okH.cons trivial (okH.nil (fun r h => by cases h; exact (ow361.own (k := 9) Z).lt)))) ?_
           refine U.p Z Z (.inl Z) (S.move Z (L 46 Z Z)) ?_
           refine U.p Z Z (.inl Z) (S.nilCheck Z (L 0 Z Z)) ?_
           refine U.p (v := .pointer (some ⟨b53, 2, none⟩)) Z Z (.inl Z) (S.fieldAddr Z (L 0 Z Z) Try.underlying46 Z ti44 Z Z) ?_
           refine U.k Z Z (.inl Z) (S.load Z (L 0 Z Z) Try.underlying44 Z ((ow361.own (k := 6) Z).cell Z)) (fun _ => (okH.cons trivial (okH.cons trivial (okH.nil (fun r h => by cases h; exact (ow361.own (k := 6) Z).lt))))) ?_
           refine U.p (v := .pointer (some ⟨b120, 1, none⟩)) Z Z (.inl Z) (S.fieldAddr Z (L 45 Z Z) Try.underlying35 Z ti3 Z Z) ?_
           refine U.k Z Z (.inl Z) (S.load Z (L 0 Z Z) Try.underlying3 Z ((ow361.own (k := 9) Z).cell Z)) (fun _ => (okH.cons trivial (okH.cons trivial (okH.cons trivial (okH.nil (fun r h => by cases h; exact (ow361.own (k := 9) Z).lt)))))) ?_
           obtain ⟨x399, hx400, h401⟩ := bindS h398
           obtain ⟨b402, o403, n404, c405, hv406⟩ := ow361.sspt (k := 8) Z hx400
           refine U.p Z Z (.inl Z) (S.index Z ((L 2 Z Z).trans (ow361.sslen' (k := 8) Z hv406)) (L 0 Z Z) Try.underlying44 ti26 (ix_ge hx400) (ix_lt hx400)) ?_
           obtain ⟨h407, hh408, ow409⟩ := ow361.ssopen (k := 8) Z hx400
           have hcl411 := ow409.shcell (k := 9) Z hv406 hh408
           refine U.k Z Z (.inl Z) (S.load Z (L 0 Z Z) Try.underlying26 Z hcl411.2) (fun _ => (okH.cons trivial (okH.cons trivial (okH.cons trivial (okH.cons trivial (okH.nil (fun r h => by cases h; exact hcl411.1))))))) ?_
           refine U.p (v := .pointer (some ⟨b120, 2, none⟩)) Z Z (.inl Z) (S.fieldAddr Z (L 49 Z Z) Try.underlying35 Z ti3 Z Z) ?_
           refine U.k Z Z (.inl Z) (S.load Z (L 0 Z Z) Try.underlying3 Z ((ow409.own (k := 10) Z).cell Z)) (fun _ => (okH.cons trivial (okH.cons trivial (okH.cons trivial (okH.cons trivial (okH.cons trivial (okH.nil (fun r h => by cases h; exact (ow409.own (k := 10) Z).lt)))))))) ?_
           refine O.lit (R := (RT.int .i64)) ow409 Z Z (.inl Z) Z Try.underlying26 ti3 Z Z Z (nr Z) Z (aC (L 0 Z Z) aN) (.cons _ _ x109.n _ (by simp [topV]) Z .nil) (fun _ => (fun _ => (okH.cons trivial (okH.cons trivial (okH.cons trivial (okH.cons trivial (okH.cons trivial (okH.cons trivial (okH.nil (fun r h => nomatch h)))))))))) (fun v412 V413 le414 ow415 => ?_)
           obtain ⟨xs417, hx418, h419⟩ := bindS h401
           refine O.append (k := 1) ow415 Z Z Z (.inl Z) Z (L 3 Z Z) (L 0 Z Z) Try.underlying26 ti3 Z Z (nr Z) (ow415.src (k := 0) Z Try.underlying26) hx418 (fun V1 hs => (fun _ => (okH.cons (Or.inl Z) (okH.cons (Or.inl Z) (okH.cons (Or.inl Z) (okH.cons (Or.inl Z) (okH.cons (Or.inl Z) (okH.cons (Or.inr (hs _ (ow415.own (k := 11) Z).lt (ow415.noos (j := 11) (k := 1) Z Z (by decide)))) (okH.cons (Or.inr (hs _ (ow415.own (k := 8) Z).lt (ow415.noos (j := 8) (k := 1) Z Z (by decide)))) (okH.nil (fun r h => nomatch h))))))))))) (fun v420 V421 le422 ow423 => ?_)
           obtain ⟨x425, hx426, h427⟩ := bindS h419
           refine U.p Z Z (.inl Z) (S.index Z ((L 14 Z Z).trans (ow423.shlen' (k := 10) Z hv406)) (L 12 Z Z) Try.underlying44 ti26 (ix_ge hx426) (ix_lt hx426)) ?_
           refine O.storeH (k := 10) ow423 Z hv406 Z Z (.inl Z) Z (L 0 Z Z) (L 1 Z Z) ti26 (ow423.osne (k := 1) Z) (by rw [ow423.oscells (k := 1) rfl]) (ow423.osone (k := 1) Z) (fun H1 hs => (fun _ => (okH.cons Z (okH.cons (Or.inl Z) (okH.cons (Or.inl Z) (okH.cons (Or.inl Z) (okH.cons (Or.inl Z) (okH.cons (Or.inl Z) (okH.cons (Or.inl Z) (okH.cons (Or.inl Z) (okH.nil (fun r h => nomatch h)))))))))))) (fun V428 le429 ow430 => ?_)
           have hh431 := ow430.shset (k := 10) Z
           refine U.done (nr Z) ?_
           refine blkN (sqN ?_)
           have ow432 := ow430.ssclose (k := 10) (j := 1) Z Z (by decide) hh431
           have ow433 := ow432.drop 0 Z
           exact ⟨_, V428, Z, ⟨v62, x354.2.events, v362, hs363, x354.2.seen, v365, hs366, x354.2.has, v368, hs369, x354.2.now, v371, x354.2.last, x79, v81, xs82, v84, hs85.set (Int.toNat x109.t) v420, xs86.set (Int.toNat x109.t) xs417, Z, ((((le345.trans le359).trans le414).trans le422).trans le429), ow433, h427⟩, (allCons (L 58 Z Z) (allCons (L 59 Z Z) (allCons (L 54 Z Z) (allCons (L 60 Z Z) (allCons (L 61 Z Z) (allCons (L 62 Z Z) allNil))))))⟩
          ·have h434 := ifF c397 h396
           refine WP.skip ?_
           refine blkN (sqN ?_)
           exact ⟨_, V358, Z, ⟨v62, x354.2.events, v362, hs363, x354.2.seen, v365, hs366, x354.2.has, v368, hs369, x354.2.now, v371, x354.2.last, x79, v81, xs82, v84, hs85, xs86, Z, (le345.trans le359), ow361, h434⟩, (allCons (L 39 Z Z) (allCons (L 40 Z Z) (allCons (L 35 Z Z) (allCons (L 41 Z Z) (allCons (L 42 Z Z) (allCons (L 43 Z Z) allNil))))))⟩
        ·intro kk
         refine bcase (b := !((decide (x354.1 = 0)) == x340)) (fun g435 => ?_) (fun g435 => ?_)
         ·skip
          have k436 : ((decide (x354.1 = 0)) == x340) = false := nT g435
          refine U.x Z Z Z Z ((L 0 Z Z).trans (cB g435)) (by decide) ?_
          refine U.x Z Z Z Z ((L 1 Z Z).trans (cB g435)) (by decide) ?_
          refine U.x Z Z Z Z ((L 2 Z Z).trans (cB g435)) (by decide) ?_
          refine U.z Z Z Z Z (L 0 Z Z) ?_
          refine U.z Z Z Z Z (L 1 Z Z) ?_
          refine U.x Z Z Z Z ((L 5 Z Z).trans (cB g435)) (by decide) ?_
          refine U.p Z Z (.inl Z) (S.pickT Z ((L 6 Z Z).trans (cB g435)) K) ?_
          exact kk [(90, .bool true), (89, .tuple #[]), (88, .tuple #[]), (87, .tuple #[]), (86, .tuple #[]), (85, .tuple #[]), (84, .tuple #[])] _ ⟨.tuple #[], .tuple #[], .tuple #[], .tuple #[], .tuple #[], .tuple #[], Z, (by rw [g435, Bool.true_or])⟩
         ·skip
          have k437 : ((decide (x354.1 = 0)) == x340) = true := nF g435
          refine U.p Z Z (.inr ⟨_, _, _, Z, Z, ((L 0 Z Z).trans (cB g435))⟩) (S.move Z (L 12 Z Z)) ?_
          refine U.p Z Z (.inr ⟨_, _, _, Z, Z, ((L 1 Z Z).trans (cB g435))⟩) (S.not Z (L 0 Z Z)) ?_
          refine U.p Z Z (.inr ⟨_, _, _, Z, Z, ((L 2 Z Z).trans (cB g435))⟩) (S.move Z (L 0 Z Z)) ?_
          refine U.joinX 11 (fun e H => ∃ (u438 u439 : Value), H = V358.H ∧ e = [(89, .bool ((!x340) && (decide (x354.1 ≠ 1)))), (88, u438), (87, u439)]) ?_ ?_
          ·rintro _ _ ⟨u438, u439, rfl, rfl⟩
           refine U.p Z Z (.inl Z) (S.pickF Z ((L 6 Z Z).trans (cB g435)) (L 0 Z Z)) ?_
           exact kk [(90, .bool ((!x340) && (decide (x354.1 ≠ 1)))), (89, .bool ((!x340) && (decide (x354.1 ≠ 1)))), (88, u438), (87, u439), (86, .bool (!x340)), (85, .bool (!x340)), (84, .bool x340)] _ ⟨.bool ((!x340) && (decide (x354.1 ≠ 1))), u438, u439, .bool (!x340), .bool (!x340), .bool x340, Z, (by rw [g435, Bool.false_or])⟩
          ·intro kk
           refine bcase (b := !x340) (fun g443 => ?_) (fun g443 => ?_)
           ·skip
            have k444 : x340 = false := nT g443
            refine U.p Z Z (.inr ⟨_, _, _, Z, Z, ((L 0 Z Z).trans (cB g443))⟩) (S.move Z (L 8 Z Z)) ?_
            refine U.p Z Z (.inr ⟨_, _, _, Z, Z, ((L 1 Z Z).trans (cB g443))⟩) (S.neqI Z (L 0 Z Z) K) ?_
            refine U.p Z Z (.inr ⟨_, _, _, Z, Z, ((L 5 Z Z).trans (cB g435))⟩) (S.pickT Z ((L 2 Z Z).trans (cB g443)) (L 0 Z Z)) ?_
            exact kk [(89, .bool (decide (x354.1 ≠ 1))), (88, .bool (decide (x354.1 ≠ 1))), (87, .int .i64 x354.1)] _ ⟨.bool (decide (x354.1 ≠ 1)), .int .i64 x354.1, Z, (by rw [g443, Bool.true_and])⟩
           ·skip
            have k445 : x340 = true := nF g443
            refine U.x Z Z Z Z ((L 0 Z Z).trans (cB g443)) (by decide) ?_
            refine U.x Z Z Z Z ((L 1 Z Z).trans (cB g443)) (by decide) ?_
            refine U.p Z Z (.inr ⟨_, _, _, Z, Z, ((L 5 Z Z).trans (cB g435))⟩) (S.pickF Z ((L 2 Z Z).trans (cB g443)) K) ?_
            exact kk [(89, .bool false), (88, .tuple #[]), (87, .tuple #[])] _ ⟨.tuple #[], .tuple #[], Z, (by rw [g443, Bool.false_and])⟩
       ·have h446 := ifF c335 h334
        refine WP.usreg Z ?_
        refine U.p Z Z (.inl Z) (S.eqlI Z (L 6 Z Z) K) ?_
        refine U.p Z Z (.inl Z) (S.assign Z (L 0 Z Z)) ?_
        refine U.done (nr Z) ?_
        refine WP.cond _ (L 0 Z Z) Z (fun c447 => ?_) (fun c447 => ?_)
        ·have h448 := ifT c447 h446
         refine WP.usreg Z ?_
         refine U.p Z Z (.inl Z) (S.move Z (L 14 Z Z)) ?_
         have ow449 := ow127.pick 6 Z
         have ow450 := ow449.pick 6 Z
         have ow451 := ow450.pick 6 Z
         have ow452 := ow451.pick 6 Z
         have ow453 := ow452.pick 6 Z
         have ow454 := ow453.pick 6 Z
         obtain ⟨x455, hx456, h457⟩ := bindS h448
         refine O.call (V := V125) Z Z (.inl Z) Z en23 (aC (L 0 Z Z) aN) (wk_storage_Storage_Settle V125 _ (⟨xs63, xs67, xs71, xs75, xs78⟩ : Tstorage_Storage) b29 z30 v62 v65 hs66 v69 hs70 v73 hs74 v77 ow454 _ hx456) (fun _ _ _ _ => nd) (fun v458 V459 le460 hp461 => ?_)
         obtain ⟨v463, hs464, v466, hs467, v469, hs470, v472, ow462⟩ := hp461
         refine U.done (nr Z) ?_
         refine WP.usreg Z ?_
         refine U.p Z Z (.inl Z) (S.assign Z K) ?_
         refine U.done (nr Z) ?_
         refine WP.blk ?_
         have ow477 := ow462.pick 6 Z
         have ow478 := ow477.pick 9 Z
         have ow479 := ow478.pick 9 Z
         have ow480 := ow479.pick 9 Z
         have ow481 := ow480.pick 9 Z
         have ow482 := ow481.pick 9 Z
         have ow483 := ow482.pick 9 Z
         have ow484 := ow483.pick 9 Z
         have ow485 := ow484.pick 9 Z
         have ow486 := ow485.pick 9 Z
         unfold law16_StorageDoes_l2 at h457
         obtain ⟨n488, hn487⟩ := loopO_some.1 h457
         refine WP.loopI2 (fun n l V' => ∃ (hs474 : List Value) (xs475 : List (List Int)) (x476 : Int), l = [(5, .pointer (some ⟨b29, 0, none⟩)), (6, .pointer (some ⟨b53, 0, none⟩)), (8, .pointer (some ⟨b120, 0, none⟩)), (11, .int .i64 x476), (25, v1), (26, .int .i64 (p1.length : Int)), (27, .int .i64 x87)] ∧ V459.le V' ∧ Ow V' (.pt b29 (.cells z30 [v62, v463, v466, v469, v472]) :: .os RT_Tref16_Event v62 x455.events :: .oss (RO.os (RT.int .i64)) v463 hs464 x455.seen :: .oss (RO.om RT.bool false) v466 hs467 x455.has :: .oss (RO.om (RT.int .i64) false) v469 hs470 x455.now :: .om (RT.int .i64) false v472 x455.last :: .pt b53 (.cells z54 [.int .i64 x79, v81, v84]) :: .os RT_Tref16_Event v81 xs82 :: .oss (RO.os (RT.int .i64)) v84 hs474 xs475 :: .pt b120 (.cells 5 [.int .i64 x109.kind, .int .i64 x109.t, .int .i64 x109.n, .int .i64 x109.at_, .int .i64 x109.val]) :: Rs) ∧ itO (fun s => law16_StorageDoes_l2b x79 xs82 x87 x109 x455 s.1 s.2) n (xs475, x476) = some q103) n488 _ ⟨hs85, xs86, 0, Z, .refl _, ow486, hn487⟩ (allCons (L 17 Z Z) (allCons (L 18 Z Z) (allCons (L 13 Z Z) (allCons (L 0 Z Z) (allCons (L 19 Z Z) (allCons (L 20 Z Z) (allCons (L 21 Z Z) allNil))))))) ?_
         rintro _ _ V489 ⟨hs474, xs475, x476, rfl, le490, ow491, h495⟩
         obtain ⟨m492, q493, rfl, h496, e494⟩ := itS h495
         replace h496 : law16_StorageDoes_l2b x79 xs82 x87 x109 x455 xs475 x476 = some q493 := h496
         unfold law16_StorageDoes_l2b at h496
         refine WP.seq ?_
         refine WP.usreg Z ?_
         refine U.p Z Z (.inl Z) (S.move Z (L 3 Z Z)) ?_
         refine U.p Z Z (.inl Z) (S.move Z (L 2 Z Z)) ?_
         refine U.p Z Z (.inl Z) (S.nilCheck Z (L 0 Z Z)) ?_
         refine U.p (v := .pointer (some ⟨b53, 0, none⟩)) Z Z (.inl Z) (S.fieldAddr Z (L 0 Z Z) Try.underlying46 Z ti3 Z Z) ?_
         refine U.k Z Z (.inl Z) (S.load Z (L 0 Z Z) Try.underlying3 Z ((ow491.own (k := 6) Z).cell Z)) nd ?_
         refine U.p Z Z (.inl Z) (S.lss Z (L 4 Z Z) (L 0 Z Z)) ?_
         refine U.done (nr Z) ?_
         refine WP.cond _ (L 0 Z Z) Z (fun c497 => ?_) (fun c497 => ?_)
         ·have h498 := ifT c497 h496
          refine WP.skip ?_
          refine sqN ?_
          refine WP.seq ?_
          refine WP.blk ?_
          refine WP.usreg Z ?_
          refine U.p Z Z (.inl Z) (S.assign Z K) ?_
          refine U.done (nr Z) ?_
          refine WP.blk ?_
          unfold law16_StorageDoes_l3 at h498
          obtain ⟨n503, hn502⟩ := loopO_some.1 h498
          refine WP.loopI2 (fun n l V' => ∃ (hs499 : List Value) (xs500 : List (List Int)) (x501 : Int), l = [(5, .pointer (some ⟨b29, 0, none⟩)), (6, .pointer (some ⟨b53, 0, none⟩)), (8, .pointer (some ⟨b120, 0, none⟩)), (11, .int .i64 x476), (12, .int .i64 x501), (25, v1), (26, .int .i64 (p1.length : Int)), (27, .int .i64 x87)] ∧ V489.le V' ∧ Ow V' (.pt b29 (.cells z30 [v62, v463, v466, v469, v472]) :: .os RT_Tref16_Event v62 x455.events :: .oss (RO.os (RT.int .i64)) v463 hs464 x455.seen :: .oss (RO.om RT.bool false) v466 hs467 x455.has :: .oss (RO.om (RT.int .i64) false) v469 hs470 x455.now :: .om (RT.int .i64) false v472 x455.last :: .pt b53 (.cells z54 [.int .i64 x79, v81, v84]) :: .os RT_Tref16_Event v81 xs82 :: .oss (RO.os (RT.int .i64)) v84 hs499 xs500 :: .pt b120 (.cells 5 [.int .i64 x109.kind, .int .i64 x109.t, .int .i64 x109.n, .int .i64 x109.at_, .int .i64 x109.val]) :: Rs) ∧ itO (fun s => law16_StorageDoes_l3b x79 xs82 x476 s.1 s.2) n (xs500, x501) = some q493) n503 _ ⟨hs474, xs475, 1, Z, .refl _, ow491, hn502⟩ (allCons (L 7 Z Z) (allCons (L 8 Z Z) (allCons (L 9 Z Z) (allCons (L 10 Z Z) (allCons (L 0 Z Z) (allCons (L 11 Z Z) (allCons (L 12 Z Z) (allCons (L 13 Z Z) allNil)))))))) ?_
          rintro _ _ V504 ⟨hs499, xs500, x501, rfl, le505, ow506, h510⟩
          obtain ⟨m507, q508, rfl, h511, e509⟩ := itS h510
          replace h511 : law16_StorageDoes_l3b x79 xs82 x476 xs500 x501 = some q508 := h511
          unfold law16_StorageDoes_l3b at h511
          refine WP.seq ?_
          refine WP.usreg Z ?_
          refine U.p Z Z (.inl Z) (S.move Z (L 4 Z Z)) ?_
          refine U.p Z Z (.inl Z) (S.move Z (L 2 Z Z)) ?_
          refine U.p Z Z (.inl Z) (S.nilCheck Z (L 0 Z Z)) ?_
          refine U.p (v := .pointer (some ⟨b53, 1, none⟩)) Z Z (.inl Z) (S.fieldAddr Z (L 0 Z Z) Try.underlying46 Z ti43 Z Z) ?_
          refine U.k Z Z (.inl Z) (S.load Z (L 0 Z Z) Try.underlying43 Z ((ow506.own (k := 6) Z).cell Z)) nd ?_
          refine U.p Z Z (.inl Z) (ow506.oslen (k := 7) Z Z (L 0 Z Z) Try.underlying43) ?_
          refine U.p Z Z (.inl Z) (S.leq Z (L 5 Z Z) (L 0 Z Z)) ?_
          refine U.done (nr Z) ?_
          refine WP.cond _ (L 0 Z Z) Z (fun c512 => ?_) (fun c512 => ?_)
          ·have h513 := ifT c512 h511
           refine WP.skip ?_
           refine sqN ?_
           refine WP.seqI (fun l V' => ∃ (hs514 : List Value) (xs515 : List (List Int)), l = [(5, .pointer (some ⟨b29, 0, none⟩)), (6, .pointer (some ⟨b53, 0, none⟩)), (8, .pointer (some ⟨b120, 0, none⟩)), (11, .int .i64 x476), (12, .int .i64 x501), (25, v1), (26, .int .i64 (p1.length : Int)), (27, .int .i64 x87)] ∧ V504.le V' ∧ Ow V' (.pt b29 (.cells z30 [v62, v463, v466, v469, v472]) :: .os RT_Tref16_Event v62 x455.events :: .oss (RO.os (RT.int .i64)) v463 hs464 x455.seen :: .oss (RO.om RT.bool false) v466 hs467 x455.has :: .oss (RO.om (RT.int .i64) false) v469 hs470 x455.now :: .om (RT.int .i64) false v472 x455.last :: .pt b53 (.cells z54 [.int .i64 x79, v81, v84]) :: .os RT_Tref16_Event v81 xs82 :: .oss (RO.os (RT.int .i64)) v84 hs514 xs515 :: .pt b120 (.cells 5 [.int .i64 x109.kind, .int .i64 x109.t, .int .i64 x109.n, .int .i64 x109.at_, .int .i64 x109.val]) :: Rs) ∧ law16_StorageDoes_k2 x501 xs515 = some q508) ?_ ?_
           ·rintro _ V516 ⟨hs514, xs515, rfl, le517, ow518, h519⟩
            unfold law16_StorageDoes_k2 at h519
            refine WP.ureg Z ?_
            refine U.p Z Z (.inl Z) (S.move Z (L 4 Z Z)) ?_
            refine U.p Z Z (.inl Z) (S.add Z (L 0 Z Z) K) ?_
            refine U.p Z Z (.inl Z) (S.assign Z (L 0 Z Z)) ?_
            refine U.done (nr Z) ?_
            refine sqN ?_
            exact ⟨_, V516, Z, ⟨m507, Nat.lt_succ_self _, hs514, xs515, w64 (x501 + 1), Z, (le505.trans le517), ow518, backS h519 e509⟩, (allCons (L 3 Z Z) (allCons (L 4 Z Z) (allCons (L 5 Z Z) (allCons (L 6 Z Z) (allCons (L 0 Z Z) (allCons (L 8 Z Z) (allCons (L 9 Z Z) (allCons (L 10 Z Z) allNil))))))))⟩
           ·skip
            refine WP.blk ?_
            refine WP.usreg Z ?_
            refine U.p Z Z (.inl Z) (S.move Z (L 8 Z Z)) ?_
            refine U.p Z Z (.inl Z) (S.move Z (L 11 Z Z)) ?_
            refine U.p Z Z (.inl Z) (S.move Z (L 13 Z Z)) ?_
            have ow520 := ow506.pick 8 Z
            have ow521 := ow520.pick 8 Z
            have ow522 := ow521.pick 8 Z
            obtain ⟨x523, hx524, h525⟩ := bindS h513
            refine O.call (V := V504) Z Z (.inl Z) Z en26 (aC (L 2 Z Z) (aC (L 1 Z Z) (aC (L 0 Z Z) aN))) (wk_ref16_Storage_May V504 _ (⟨x79, xs82, xs500⟩ : Tref16_Storage) x476 x501 b53 z54 v81 v84 hs499 ow522 _ hx524) (fun _ _ _ _ => nd) (fun v526 V527 le528 hp529 => ?_)
            obtain ⟨rfl, ow530⟩ := hp529
            refine U.done (nr Z) ?_
            refine WP.cond _ (L 0 Z Z) Z (fun c531 => ?_) (fun c531 => ?_)
            ·have h532 := ifT c531 h525
             refine WP.udreg Z Z Z ?_
             refine U.p Z Z (.inl Z) (S.move Z (L 12 Z Z)) ?_
             refine U.p Z Z (.inl Z) (S.nilCheck Z (L 0 Z Z)) ?_
             refine U.p (v := .pointer (some ⟨b53, 2, none⟩)) Z Z (.inl Z) (S.fieldAddr Z (L 0 Z Z) Try.underlying46 Z ti44 Z Z) ?_
             refine U.k Z Z (.inl Z) (S.load Z (L 0 Z Z) Try.underlying44 Z ((ow530.own (k := 0) Z).cell Z)) (fun _ => (okH.nil (fun r h => by cases h; exact (ow530.own (k := 0) Z).lt))) ?_
             refine U.p Z Z (.inl Z) (S.move Z (L 18 Z Z)) ?_
             refine U.p Z Z (.inl Z) (S.move Z (L 17 Z Z)) ?_
             refine U.p Z Z (.inl Z) (S.nilCheck Z (L 0 Z Z)) ?_
             refine U.p (v := .pointer (some ⟨b53, 2, none⟩)) Z Z (.inl Z) (S.fieldAddr Z (L 0 Z Z) Try.underlying46 Z ti44 Z Z) ?_
             refine U.k Z Z (.inl Z) (S.load Z (L 0 Z Z) Try.underlying44 Z ((ow530.own (k := 0) Z).cell Z)) (fun _ => (okH.cons trivial (okH.nil (fun r h => by cases h; exact (ow530.own (k := 0) Z).lt)))) ?_
             refine U.p Z Z (.inl Z) (S.move Z (L 23 Z Z)) ?_
             obtain ⟨x533, hx534, h535⟩ := bindS h532
             obtain ⟨b536, o537, n538, c539, hv540⟩ := ow530.sspt (k := 2) Z hx534
             refine U.p Z Z (.inl Z) (S.index Z ((L 1 Z Z).trans (ow530.sslen' (k := 2) Z hv540)) (L 0 Z Z) Try.underlying44 ti26 (ix_ge hx534) (ix_lt hx534)) ?_
             obtain ⟨h541, hh542, ow543⟩ := ow530.ssopen (k := 2) Z hx534
             have hcl545 := ow543.shcell (k := 3) Z hv540 hh542
             refine U.k Z Z (.inl Z) (S.load Z (L 0 Z Z) Try.underlying26 Z hcl545.2) (fun _ => (okH.cons trivial (okH.cons trivial (okH.nil (fun r h => by cases h; exact hcl545.1))))) ?_
             refine U.p Z Z (.inl Z) (S.move Z (L 27 Z Z)) ?_
             refine O.lit (R := (RT.int .i64)) ow543 Z Z (.inl Z) Z Try.underlying26 ti3 Z Z Z (nr Z) Z (aC (L 0 Z Z) aN) (.cons _ _ x501 _ (by simp [topV]) Z .nil) (fun _ => (fun _ => (okH.cons trivial (okH.cons trivial (okH.cons trivial (okH.nil (fun r h => nomatch h))))))) (fun v546 V547 le548 ow549 => ?_)
             obtain ⟨xs551, hx552, h553⟩ := bindS h535
             refine O.append (k := 1) ow549 Z Z Z (.inl Z) Z (L 2 Z Z) (L 0 Z Z) Try.underlying26 ti3 Z Z (nr Z) (ow549.src (k := 0) Z Try.underlying26) hx552 (fun V1 hs => (fun _ => (okH.cons (Or.inl Z) (okH.cons (Or.inl Z) (okH.cons (Or.inl Z) (okH.cons (Or.inr (hs _ (ow549.own (k := 2) Z).lt (ow549.noos (j := 2) (k := 1) Z Z (by decide)))) (okH.nil (fun r h => nomatch h)))))))) (fun v554 V555 le556 ow557 => ?_)
             obtain ⟨x559, hx560, h561⟩ := bindS h553
             refine U.p Z Z (.inl Z) (S.index Z ((L 11 Z Z).trans (ow557.shlen' (k := 4) Z hv540)) (L 10 Z Z) Try.underlying44 ti26 (ix_ge hx560) (ix_lt hx560)) ?_
             refine O.storeH (k := 4) ow557 Z hv540 Z Z (.inl Z) Z (L 0 Z Z) (L 1 Z Z) ti26 (ow557.osne (k := 1) Z) (by rw [ow557.oscells (k := 1) rfl]) (ow557.osone (k := 1) Z) (fun H1 hs => (fun _ => (okH.cons Z (okH.cons (Or.inl Z) (okH.cons (Or.inl Z) (okH.cons (Or.inl Z) (okH.cons (Or.inl Z) (okH.nil (fun r h => nomatch h))))))))) (fun V562 le563 ow564 => ?_)
             have hh565 := ow564.shset (k := 4) Z
             refine U.done (nr Z) ?_
             refine blkN (sqN ?_)
             have ow566 := ow564.ssclose (k := 4) (j := 1) Z Z (by decide) hh565
             have ow567 := ow566.drop 0 Z
             have ow568 := ow567.pick 9 Z
             have ow569 := ow568.pick 3 Z
             have ow570 := ow569.pick 3 Z
             have ow571 := ow570.pick 3 Z
             have ow572 := ow571.pick 9 Z
             have ow573 := ow572.pick 9 Z
             have ow574 := ow573.pick 9 Z
             have ow575 := ow574.pick 9 Z
             have ow576 := ow575.pick 9 Z
             have ow577 := ow576.pick 9 Z
             exact ⟨_, V562, Z, ⟨hs499.set (Int.toNat x476) v554, xs500.set (Int.toNat x476) xs551, Z, (((le528.trans le548).trans le556).trans le563), ow577, h561⟩, (allCons (L 27 Z Z) (allCons (L 28 Z Z) (allCons (L 29 Z Z) (allCons (L 30 Z Z) (allCons (L 31 Z Z) (allCons (L 32 Z Z) (allCons (L 33 Z Z) (allCons (L 34 Z Z) allNil))))))))⟩
            ·have h578 := ifF c531 h525
             refine WP.skip ?_
             refine blkN (sqN ?_)
             have ow579 := ow530.pick 9 Z
             have ow580 := ow579.pick 3 Z
             have ow581 := ow580.pick 3 Z
             have ow582 := ow581.pick 3 Z
             have ow583 := ow582.pick 9 Z
             have ow584 := ow583.pick 9 Z
             have ow585 := ow584.pick 9 Z
             have ow586 := ow585.pick 9 Z
             have ow587 := ow586.pick 9 Z
             have ow588 := ow587.pick 9 Z
             exact ⟨_, V527, Z, ⟨hs499, xs500, Z, le528, ow588, h578⟩, (allCons (L 11 Z Z) (allCons (L 12 Z Z) (allCons (L 13 Z Z) (allCons (L 14 Z Z) (allCons (L 15 Z Z) (allCons (L 16 Z Z) (allCons (L 17 Z Z) (allCons (L 18 Z Z) allNil))))))))⟩
          ·have h589 := ifF c512 h511
           refine WP.exit ?_
           refine sqE (sqE (blkE (blkN (sqN ?_))))
           have h590 := exitS h589 e509
           refine WP.ureg Z ?_
           refine U.p Z Z (.inl Z) (S.move Z (L 10 Z Z)) ?_
           refine U.p Z Z (.inl Z) (S.add Z (L 0 Z Z) K) ?_
           refine U.p Z Z (.inl Z) (S.assign Z (L 0 Z Z)) ?_
           refine U.done (nr Z) ?_
           refine sqN ?_
           exact ⟨_, V504, Z, ⟨m492, Nat.lt_succ_self _, hs499, xs500, w64 (x476 + 1), Z, (le490.trans le505), ow506, backS h590 e494⟩, (allCons (L 10 Z Z) (allCons (L 11 Z Z) (allCons (L 12 Z Z) (allCons (L 0 Z Z) (allCons (L 15 Z Z) (allCons (L 16 Z Z) (allCons (L 17 Z Z) allNil)))))))⟩
         ·have h591 := ifF c497 h496
          refine WP.exit ?_
          refine sqE (sqE (blkE (blkN (sqN ?_))))
          have h592 := exitS h591 e494
          exact ⟨_, V489, Z, ⟨v62, x455.events, v463, hs464, x455.seen, v466, hs467, x455.has, v469, hs470, x455.now, v472, x455.last, x79, v81, xs82, v84, hs474, xs475, Z, (le460.trans le490), ow491, h592⟩, (allCons (L 6 Z Z) (allCons (L 7 Z Z) (allCons (L 8 Z Z) (allCons (L 10 Z Z) (allCons (L 11 Z Z) (allCons (L 12 Z Z) allNil))))))⟩
        ·have h593 := ifF c447 h446
         refine WP.skip ?_
         refine blkN (sqN ?_)
         have ow594 := ow127.pick 0 Z
         have ow595 := ow594.pick 9 Z
         have ow596 := ow595.pick 9 Z
         have ow597 := ow596.pick 9 Z
         have ow598 := ow597.pick 9 Z
         have ow599 := ow598.pick 9 Z
         have ow600 := ow599.pick 9 Z
         have ow601 := ow600.pick 9 Z
         have ow602 := ow601.pick 9 Z
         have ow603 := ow602.pick 9 Z
         exact ⟨_, V125, Z, ⟨v62, xs63, v65, hs66, xs67, v69, hs70, xs71, v73, hs74, xs75, v77, xs78, x79, v81, xs82, v84, hs85, xs86, Z, (.refl _), ow603, h593⟩, (allCons (L 14 Z Z) (allCons (L 15 Z Z) (allCons (L 10 Z Z) (allCons (L 16 Z Z) (allCons (L 17 Z Z) (allCons (L 18 Z Z) allNil))))))⟩
   ·have h604 := ifF c107 h106
    refine WP.exit ?_
    refine sqE (sqE (blkE (sqN ?_)))
    have h605 := exitS h604 e104
    refine WP.usreg Z ?_
    refine U.p Z Z (.inl Z) (S.assign Z K) ?_
    refine U.done (nr Z) ?_
    refine WP.usreg Z ?_
    refine U.p Z Z (.inl Z) (S.move Z (L 0 Z Z)) ?_
    obtain ⟨x606, hx607, h608⟩ := bindS h605
    refine O.call (V := V99) Z Z (.inl Z) Z en23 (aC (L 0 Z Z) aN) (wk_storage_Storage_Settle_2 V99 _ ow101 _ hx607) (fun _ _ _ _ => nd) (fun v609 V610 le611 hp612 => ?_)
    have ow613 := hp612
    refine U.done (nr Z) ?_
    refine WP.usreg Z ?_
    refine U.p Z Z (.inl Z) (S.move Z (L 2 Z Z)) ?_
    obtain ⟨x614, hx615, h616⟩ := bindS h608
    refine O.call (V := V610) Z Z (.inl Z) Z en13 (aC (L 0 Z Z) (aC K (aC K aN))) (wk_storage_Storage_Read_2 V610 _ 0 0 ow613 _ hx615) (fun _ _ _ _ => nd) (fun v617 V618 le619 hp620 => ?_)
    obtain ⟨rfl, ow621⟩ := hp620
    refine U.p Z Z (.inl Z) (S.move Z (L 0 Z Z)) ?_
    refine U.p Z Z (.inl Z) (S.extract Z (L 0 Z Z) Z (nr Z)) ?_
    refine U.p Z Z (.inl Z) (S.extract Z (L 1 Z Z) Z (nr Z)) ?_
    refine U.p Z Z (.inl Z) (S.assign Z (L 1 Z Z)) ?_
    refine U.p Z Z (.inl Z) (S.assign Z (L 1 Z Z)) ?_
    refine U.done (nr Z) ?_
    refine WP.usreg Z ?_
    refine U.p Z Z (.inl Z) (S.move Z (L 9 Z Z)) ?_
    obtain ⟨x622, hx623, h624⟩ := bindS h616
    refine O.call (V := V618) Z Z (.inl Z) Z en18 (aC (L 0 Z Z) (aC K (aC K aN))) (wk_storage_Storage_Go_2 V618 _ 0 1 ow621 _ hx623) (fun _ _ _ _ => nd) (fun v625 V626 le627 hp628 => ?_)
    obtain ⟨rfl, ow629⟩ := hp628
    refine U.p Z Z (.inl Z) (S.eqlI Z (L 0 Z Z) K) ?_
    refine U.p Z Z (.inl Z) (S.move Z (L 0 Z Z)) ?_
    obtain ⟨y630, hy631, h632⟩ := bindS h624
    refine U.joinX 29 (fun e H => ∃ (u633 u634 u635 u636 u637 u638 u639 u640 u641 u642 u643 u644 u645 u646 u647 u648 u649 u650 u651 u652 u653 u654 u655 u656 : Value), ∃ V' : Vw, H = V'.H ∧ V626.le V' ∧ e = [(193, .bool y630), (192, u633), (191, u634), (190, u635), (189, u636), (188, u637), (187, u638), (186, u639), (185, u640), (184, u641), (183, u642), (182, u643), (181, u644), (180, u645), (179, u646), (178, u647), (177, u648), (176, u649), (175, u650), (174, u651), (173, u652), (172, u653), (171, u654), (170, u655), (169, u656)] ∧ Ow V' (.pt b29 (.cells z30 [v62, v65, v69, v73, v77]) :: .os RT_Tref16_Event v62 xs63 :: .oss (RO.os (RT.int .i64)) v65 hs66 xs67 :: .oss (RO.om RT.bool false) v69 hs70 xs71 :: .oss (RO.om (RT.int .i64) false) v73 hs74 xs75 :: .om (RT.int .i64) false v77 xs78 :: .pt b53 (.cells z54 [.int .i64 x79, v81, v84]) :: .os RT_Tref16_Event v81 xs82 :: .oss (RO.os (RT.int .i64)) v84 hs85 xs86 :: Rs)) ?_ ?_
    ·rintro _ _ ⟨u633, u634, u635, u636, u637, u638, u639, u640, u641, u642, u643, u644, u645, u646, u647, u648, u649, u650, u651, u652, u653, u654, u655, u656, V657, rfl, le658, rfl, ow659⟩
     refine U.p Z Z (.inl Z) (S.move Z (L 0 Z Z)) ?_
     obtain ⟨y660, hy661, h662⟩ := bindS h632
     refine U.joinX 34 (fun e H => ∃ (u663 u664 u665 : Value), ∃ V' : Vw, H = V'.H ∧ V657.le V' ∧ e = [(198, .bool y660), (197, u663), (196, u664), (195, u665)] ∧ Ow V' (.pt b29 (.cells z30 [v62, v65, v69, v73, v77]) :: .os RT_Tref16_Event v62 xs63 :: .oss (RO.os (RT.int .i64)) v65 hs66 xs67 :: .oss (RO.om RT.bool false) v69 hs70 xs71 :: .oss (RO.om (RT.int .i64) false) v73 hs74 xs75 :: .om (RT.int .i64) false v77 xs78 :: .pt b53 (.cells z54 [.int .i64 x79, v81, v84]) :: .os RT_Tref16_Event v81 xs82 :: .oss (RO.os (RT.int .i64)) v84 hs85 xs86 :: Rs)) ?_ ?_
     ·rintro _ _ ⟨u663, u664, u665, V666, rfl, le667, rfl, ow668⟩
      refine U.p Z Z (.inl Z) (S.move Z (L 0 Z Z)) ?_
      obtain ⟨y669, hy670, h671⟩ := bindS h662
      refine U.joinX 39 (fun e H => ∃ (u672 u673 u674 : Value), ∃ V' : Vw, H = V'.H ∧ V666.le V' ∧ e = [(203, .bool y669), (202, u672), (201, u673), (200, u674)] ∧ Ow V' (.pt b29 (.cells z30 [v62, v65, v69, v73, v77]) :: .os RT_Tref16_Event v62 xs63 :: .oss (RO.os (RT.int .i64)) v65 hs66 xs67 :: .oss (RO.om RT.bool false) v69 hs70 xs71 :: .oss (RO.om (RT.int .i64) false) v73 hs74 xs75 :: .om (RT.int .i64) false v77 xs78 :: .pt b53 (.cells z54 [.int .i64 x79, v81, v84]) :: .os RT_Tref16_Event v81 xs82 :: .oss (RO.os (RT.int .i64)) v84 hs85 xs86 :: Rs)) ?_ ?_
      ·rintro _ _ ⟨u672, u673, u674, V675, rfl, le676, rfl, ow677⟩
       refine U.p Z Z (.inl Z) (S.move Z (L 0 Z Z)) ?_
       obtain ⟨y678, hy679, h680⟩ := bindS h671
       refine U.joinX 44 (fun e H => ∃ (u681 u682 u683 : Value), ∃ V' : Vw, H = V'.H ∧ V675.le V' ∧ e = [(208, .bool y678), (207, u681), (206, u682), (205, u683)] ∧ Ow V' (.pt b29 (.cells z30 [v62, v65, v69, v73, v77]) :: .os RT_Tref16_Event v62 xs63 :: .oss (RO.os (RT.int .i64)) v65 hs66 xs67 :: .oss (RO.om RT.bool false) v69 hs70 xs71 :: .oss (RO.om (RT.int .i64) false) v73 hs74 xs75 :: .om (RT.int .i64) false v77 xs78 :: .pt b53 (.cells z54 [.int .i64 x79, v81, v84]) :: .os RT_Tref16_Event v81 xs82 :: .oss (RO.os (RT.int .i64)) v84 hs85 xs86 :: Rs)) ?_ ?_
       ·rintro _ _ ⟨u681, u682, u683, V684, rfl, le685, rfl, ow686⟩
        refine U.p Z Z (.inl Z) (S.assign Z (L 0 Z Z)) ?_
        refine U.done (nr Z) ?_
        refine WP.ret ?_
        refine fin.slot (.inr Z) Z (L 0 Z Z) ⟨V684, Z, ((((((((((le8.trans le26).trans le50).trans le100).trans le611).trans le619).trans le627).trans le658).trans le667).trans le676).trans le685), ?_⟩
        have ow687 := ow686.drop 0 Z
        have ow688 := ow687.drop 0 Z
        have ow689 := ow688.drop 0 Z
        have ow690 := ow689.drop 0 Z
        have ow691 := ow690.drop 0 Z
        have ow692 := ow691.drop 0 Z
        have ow693 := ow692.drop 0 Z
        have ow694 := ow693.drop 0 Z
        have ow695 := ow694.drop 0 Z
        have e696 := Option.some.inj h680
        subst e696
        exact ⟨rfl, ow695⟩
       ·intro kk
        refine bcase (b := y669) (fun g697 => ?_) (fun g697 => ?_)
        ·have h698 := ifT g697 hy679
         refine U.p Z Z (.inr ⟨_, _, _, Z, Z, ((L 0 Z Z).trans (cB g697))⟩) (S.move Z (L 49 Z Z)) ?_
         obtain ⟨x699, hx700, h701⟩ := bindS h698
         refine O.call (V := V675) Z Z (.inr ⟨_, _, _, Z, Z, ((L 1 Z Z).trans (cB g697))⟩) Z en22 (aC (L 0 Z Z) (aC K aN)) (wk_storage_Storage_Acked_2 V675 _ 1 ow677 _ hx700) (fun _ _ _ _ => nd) (fun v702 V703 le704 hp705 => ?_)
         obtain ⟨rfl, ow706⟩ := hp705
         refine U.p Z Z (.inr ⟨_, _, _, Z, Z, ((L 2 Z Z).trans (cB g697))⟩) (S.not Z (L 0 Z Z)) ?_
         refine U.p Z Z (.inl Z) (S.pickT Z ((L 3 Z Z).trans (cB g697)) (L 0 Z Z)) ?_
         have e707 := Option.some.inj h701
         subst e707
         exact kk [(208, .bool (!x699)), (207, .bool (!x699)), (206, .bool x699), (205, .pointer none)] _ ⟨.bool (!x699), .bool x699, .pointer none, V703, Z, le704, Z, ow706⟩
        ·have h708 := ifF g697 hy679
         refine U.x Z Z Z Z ((L 0 Z Z).trans (cB g697)) (by decide) ?_
         refine U.x Z Z Z Z ((L 1 Z Z).trans (cB g697)) (by decide) ?_
         refine U.x Z Z Z Z ((L 2 Z Z).trans (cB g697)) (by decide) ?_
         refine U.p Z Z (.inl Z) (S.pickF Z ((L 3 Z Z).trans (cB g697)) K) ?_
         have e709 := Option.some.inj h708
         subst e709
         exact kk [(208, .bool false), (207, .tuple #[]), (206, .tuple #[]), (205, .tuple #[])] _ ⟨.tuple #[], .tuple #[], .tuple #[], V675, Z, (.refl _), Z, ow677⟩
      ·intro kk
       refine bcase (b := y660) (fun g710 => ?_) (fun g710 => ?_)
       ·have h711 := ifT g710 hy670
        refine U.p Z Z (.inr ⟨_, _, _, Z, Z, ((L 0 Z Z).trans (cB g710))⟩) (S.move Z (L 44 Z Z)) ?_
        obtain ⟨x712, hx713, h714⟩ := bindS h711
        refine O.call (V := V666) Z Z (.inr ⟨_, _, _, Z, Z, ((L 1 Z Z).trans (cB g710))⟩) Z en25 (aC (L 0 Z Z) (aC K (aC K aN))) (wk_storage_Storage_May_2 V666 _ 0 1 ow668 _ hx713) (fun _ _ _ _ => nd) (fun v715 V716 le717 hp718 => ?_)
        obtain ⟨rfl, ow719⟩ := hp718
        refine U.p Z Z (.inr ⟨_, _, _, Z, Z, ((L 2 Z Z).trans (cB g710))⟩) (S.not Z (L 0 Z Z)) ?_
        refine U.p Z Z (.inl Z) (S.pickT Z ((L 3 Z Z).trans (cB g710)) (L 0 Z Z)) ?_
        have e720 := Option.some.inj h714
        subst e720
        exact kk [(203, .bool (!x712)), (202, .bool (!x712)), (201, .bool x712), (200, .pointer none)] _ ⟨.bool (!x712), .bool x712, .pointer none, V716, Z, le717, Z, ow719⟩
       ·have h721 := ifF g710 hy670
        refine U.x Z Z Z Z ((L 0 Z Z).trans (cB g710)) (by decide) ?_
        refine U.x Z Z Z Z ((L 1 Z Z).trans (cB g710)) (by decide) ?_
        refine U.x Z Z Z Z ((L 2 Z Z).trans (cB g710)) (by decide) ?_
        refine U.p Z Z (.inl Z) (S.pickF Z ((L 3 Z Z).trans (cB g710)) K) ?_
        have e722 := Option.some.inj h721
        subst e722
        exact kk [(203, .bool false), (202, .tuple #[]), (201, .tuple #[]), (200, .tuple #[])] _ ⟨.tuple #[], .tuple #[], .tuple #[], V666, Z, (.refl _), Z, ow668⟩
     ·intro kk
      refine bcase (b := y630) (fun g723 => ?_) (fun g723 => ?_)
      ·have h724 := ifT g723 hy661
       refine U.p Z Z (.inr ⟨_, _, _, Z, Z, ((L 0 Z Z).trans (cB g723))⟩) (S.move Z (L 39 Z Z)) ?_
       obtain ⟨x725, hx726, h727⟩ := bindS h724
       refine O.call (V := V657) Z Z (.inr ⟨_, _, _, Z, Z, ((L 1 Z Z).trans (cB g723))⟩) Z en20 (aC (L 0 Z Z) (aC K (aC K aN))) (wk_storage_Storage_Seen_2 V657 _ 0 1 ow659 _ hx726) (fun _ _ _ _ => nd) (fun v728 V729 le730 hp731 => ?_)
       obtain ⟨rfl, ow732⟩ := hp731
       refine U.p Z Z (.inr ⟨_, _, _, Z, Z, ((L 2 Z Z).trans (cB g723))⟩) (S.not Z (L 0 Z Z)) ?_
       refine U.p Z Z (.inl Z) (S.pickT Z ((L 3 Z Z).trans (cB g723)) (L 0 Z Z)) ?_
       have e733 := Option.some.inj h727
       subst e733
       exact kk [(198, .bool (!x725)), (197, .bool (!x725)), (196, .bool x725), (195, .pointer none)] _ ⟨.bool (!x725), .bool x725, .pointer none, V729, Z, le730, Z, ow732⟩
      ·have h734 := ifF g723 hy661
       refine U.x Z Z Z Z ((L 0 Z Z).trans (cB g723)) (by decide) ?_
       refine U.x Z Z Z Z ((L 1 Z Z).trans (cB g723)) (by decide) ?_
       refine U.x Z Z Z Z ((L 2 Z Z).trans (cB g723)) (by decide) ?_
       refine U.p Z Z (.inl Z) (S.pickF Z ((L 3 Z Z).trans (cB g723)) K) ?_
       have e735 := Option.some.inj h734
       subst e735
       exact kk [(198, .bool false), (197, .tuple #[]), (196, .tuple #[]), (195, .tuple #[])] _ ⟨.tuple #[], .tuple #[], .tuple #[], V657, Z, (.refl _), Z, ow659⟩
    ·intro kk
     refine bcase (b := decide (x622 = 2)) (fun g736 => ?_) (fun g736 => ?_)
     ·have h737 := ifT g736 hy631
      refine U.p Z Z (.inr ⟨_, _, _, Z, Z, ((L 0 Z Z).trans (cB g736))⟩) (S.move Z (L 5 Z Z)) ?_
      refine U.p Z Z (.inr ⟨_, _, _, Z, Z, ((L 1 Z Z).trans (cB g736))⟩) (S.move Z (L 5 Z Z)) ?_
      refine U.p Z Z (.inr ⟨_, _, _, Z, Z, ((L 2 Z Z).trans (cB g736))⟩) (S.add Z (L 1 Z Z) (L 0 Z Z)) ?_
      refine U.p Z Z (.inr ⟨_, _, _, Z, Z, ((L 3 Z Z).trans (cB g736))⟩) (S.move Z (L 16 Z Z)) ?_
      obtain ⟨x738, hx739, h740⟩ := bindS h737
      refine O.call (V := V626) Z Z (.inr ⟨_, _, _, Z, Z, ((L 4 Z Z).trans (cB g736))⟩) Z en15 (aC (L 0 Z Z) (aC K (aC K (aC K aN)))) (wk_storage_Storage_Write_2 V626 _ 0 0 0 ow629 _ hx739) (fun _ _ _ _ => nd) (fun v741 V742 le743 hp744 => ?_)
      obtain ⟨rfl, ow745⟩ := hp744
      refine U.p Z Z (.inr ⟨_, _, _, Z, Z, ((L 5 Z Z).trans (cB g736))⟩) (S.add Z (L 2 Z Z) (L 0 Z Z)) ?_
      refine U.p Z Z (.inr ⟨_, _, _, Z, Z, ((L 6 Z Z).trans (cB g736))⟩) (S.move Z (L 19 Z Z)) ?_
      obtain ⟨x746, hx747, h748⟩ := bindS h740
      refine O.call (V := V742) Z Z (.inr ⟨_, _, _, Z, Z, ((L 7 Z Z).trans (cB g736))⟩) Z en17 (aC (L 0 Z Z) (aC K aN)) (wk_storage_Storage_Barrier_2 V742 _ 0 ow745 _ hx747) (fun _ _ _ _ => nd) (fun v749 V750 le751 hp752 => ?_)
      obtain ⟨rfl, ow753⟩ := hp752
      refine U.p Z Z (.inr ⟨_, _, _, Z, Z, ((L 8 Z Z).trans (cB g736))⟩) (S.add Z (L 2 Z Z) (L 0 Z Z)) ?_
      refine U.p Z Z (.inr ⟨_, _, _, Z, Z, ((L 9 Z Z).trans (cB g736))⟩) (S.move Z (L 22 Z Z)) ?_
      obtain ⟨x754, hx755, h756⟩ := bindS h748
      refine O.call (V := V750) Z Z (.inr ⟨_, _, _, Z, Z, ((L 10 Z Z).trans (cB g736))⟩) Z en21 (aC (L 0 Z Z) (aC K aN)) (wk_storage_Storage_Last_2 V750 _ 0 ow753 _ hx755) (fun _ _ _ _ => nd) (fun v757 V758 le759 hp760 => ?_)
      obtain ⟨rfl, ow761⟩ := hp760
      refine U.p Z Z (.inr ⟨_, _, _, Z, Z, ((L 11 Z Z).trans (cB g736))⟩) (S.add Z (L 2 Z Z) (L 0 Z Z)) ?_
      refine U.p Z Z (.inr ⟨_, _, _, Z, Z, ((L 12 Z Z).trans (cB g736))⟩) (S.move Z (L 25 Z Z)) ?_
      obtain ⟨x762, hx763, h764⟩ := bindS h756
      refine O.call (V := V758) Z Z (.inr ⟨_, _, _, Z, Z, ((L 13 Z Z).trans (cB g736))⟩) Z en11 (aC (L 0 Z Z) aN) (wk_storage_Storage_Threads_2 V758 _ ow761 _ hx763) (fun _ _ _ _ => nd) (fun v765 V766 le767 hp768 => ?_)
      obtain ⟨rfl, ow769⟩ := hp768
      refine U.p Z Z (.inr ⟨_, _, _, Z, Z, ((L 14 Z Z).trans (cB g736))⟩) (S.add Z (L 2 Z Z) (L 0 Z Z)) ?_
      refine U.p Z Z (.inr ⟨_, _, _, Z, Z, ((L 15 Z Z).trans (cB g736))⟩) (S.move Z (L 28 Z Z)) ?_
      obtain ⟨x770, hx771, h772⟩ := bindS h764
      refine O.call (V := V766) Z Z (.inr ⟨_, _, _, Z, Z, ((L 16 Z Z).trans (cB g736))⟩) Z en24 (aC (L 0 Z Z) aN) (wk_storage_Storage_Events_2 V766 _ ow769 _ hx771) (fun _ _ _ _ => nd) (fun v773 V774 le775 hp776 => ?_)
      obtain ⟨_, rfl, f779, ow777⟩ := hp776
      refine U.p Z Z (.inr ⟨_, _, _, Z, Z, ((L 17 Z Z).trans (cB g736))⟩) (f779.1.len Z (L 0 Z Z) Try.underlying53) ?_
      refine U.p Z Z (.inr ⟨_, _, _, Z, Z, ((L 18 Z Z).trans (cB g736))⟩) (S.add Z (L 3 Z Z) (L 0 Z Z)) ?_
      refine U.p Z Z (.inr ⟨_, _, _, Z, Z, ((L 19 Z Z).trans (cB g736))⟩) (S.move Z (L 32 Z Z)) ?_
      obtain ⟨x780, hx781, h782⟩ := bindS h772
      refine O.call (V := V774) Z Z (.inr ⟨_, _, _, Z, Z, ((L 20 Z Z).trans (cB g736))⟩) Z en28 (aC (L 0 Z Z) (aC K aN)) (wk_storage_Storage_Order_2 V774 _ 0 ow777 _ hx781) (fun _ _ _ _ => nd) (fun v783 V784 le785 hp786 => ?_)
      obtain ⟨_, rfl, ow787⟩ := hp786
      refine U.p Z Z (.inr ⟨_, _, _, Z, Z, ((L 21 Z Z).trans (cB g736))⟩) (ow787.oslen (k := 0) Z Z (L 0 Z Z) Try.underlying26) ?_
      refine U.p Z Z (.inr ⟨_, _, _, Z, Z, ((L 22 Z Z).trans (cB g736))⟩) (S.add Z (L 3 Z Z) (L 0 Z Z)) ?_
      refine U.p Z Z (.inr ⟨_, _, _, Z, Z, ((L 23 Z Z).trans (cB g736))⟩) (S.eqlI Z (L 0 Z Z) K) ?_
      refine U.p Z Z (.inl Z) (S.pickT Z ((L 24 Z Z).trans (cB g736)) (L 0 Z Z)) ?_
      have e790 := Option.some.inj h782
      subst e790
      have ow791 := ow787.drop 0 Z
      exact kk [(193, .bool (decide ((w64 ((w64 ((w64 ((w64 ((w64 ((w64 ((w64 (x614.1 + x614.2)) + x738)) + x746)) + x754)) + x762)) + (x770.length : Int))) + (x780.length : Int))) = 0))), (192, .bool (decide ((w64 ((w64 ((w64 ((w64 ((w64 ((w64 ((w64 (x614.1 + x614.2)) + x738)) + x746)) + x754)) + x762)) + (x770.length : Int))) + (x780.length : Int))) = 0))), (191, .int .i64 (w64 ((w64 ((w64 ((w64 ((w64 ((w64 ((w64 (x614.1 + x614.2)) + x738)) + x746)) + x754)) + x762)) + (x770.length : Int))) + (x780.length : Int)))), (190, .int .i64 (x780.length : Int)), (189, v783), (188, .pointer none), (187, .int .i64 (w64 ((w64 ((w64 ((w64 ((w64 ((w64 (x614.1 + x614.2)) + x738)) + x746)) + x754)) + x762)) + (x770.length : Int)))), (186, .int .i64 (x770.length : Int)), (185, v773), (184, .pointer none), (183, .int .i64 (w64 ((w64 ((w64 ((w64 ((w64 (x614.1 + x614.2)) + x738)) + x746)) + x754)) + x762))), (182, .int .i64 x762), (181, .pointer none), (180, .int .i64 (w64 ((w64 ((w64 ((w64 (x614.1 + x614.2)) + x738)) + x746)) + x754))), (179, .int .i64 x754), (178, .pointer none), (177, .int .i64 (w64 ((w64 ((w64 (x614.1 + x614.2)) + x738)) + x746))), (176, .int .i64 x746), (175, .pointer none), (174, .int .i64 (w64 ((w64 (x614.1 + x614.2)) + x738))), (173, .int .i64 x738), (172, .pointer none), (171, .int .i64 (w64 (x614.1 + x614.2))), (170, .int .i64 x614.2), (169, .int .i64 x614.1)] _ ⟨.bool (decide ((w64 ((w64 ((w64 ((w64 ((w64 ((w64 ((w64 (x614.1 + x614.2)) + x738)) + x746)) + x754)) + x762)) + (x770.length : Int))) + (x780.length : Int))) = 0)), .int .i64 (w64 ((w64 ((w64 ((w64 ((w64 ((w64 ((w64 (x614.1 + x614.2)) + x738)) + x746)) + x754)) + x762)) + (x770.length : Int))) + (x780.length : Int))), .int .i64 (x780.length : Int), v783, .pointer none, .int .i64 (w64 ((w64 ((w64 ((w64 ((w64 ((w64 (x614.1 + x614.2)) + x738)) + x746)) + x754)) + x762)) + (x770.length : Int))), .int .i64 (x770.length : Int), v773, .pointer none, .int .i64 (w64 ((w64 ((w64 ((w64 ((w64 (x614.1 + x614.2)) + x738)) + x746)) + x754)) + x762)), .int .i64 x762, .pointer none, .int .i64 (w64 ((w64 ((w64 ((w64 (x614.1 + x614.2)) + x738)) + x746)) + x754)), .int .i64 x754, .pointer none, .int .i64 (w64 ((w64 ((w64 (x614.1 + x614.2)) + x738)) + x746)), .int .i64 x746, .pointer none, .int .i64 (w64 ((w64 (x614.1 + x614.2)) + x738)), .int .i64 x738, .pointer none, .int .i64 (w64 (x614.1 + x614.2)), .int .i64 x614.2, .int .i64 x614.1, V784, Z, (((((le743.trans le751).trans le759).trans le767).trans le775).trans le785), Z, ow791⟩
     ·have h792 := ifF g736 hy631
      refine U.x Z Z Z Z ((L 0 Z Z).trans (cB g736)) (by decide) ?_
      refine U.x Z Z Z Z ((L 1 Z Z).trans (cB g736)) (by decide) ?_
      refine U.x Z Z Z Z ((L 2 Z Z).trans (cB g736)) (by decide) ?_
      refine U.x Z Z Z Z ((L 3 Z Z).trans (cB g736)) (by decide) ?_
      refine U.x Z Z Z Z ((L 4 Z Z).trans (cB g736)) (by decide) ?_
      refine U.x Z Z Z Z ((L 5 Z Z).trans (cB g736)) (by decide) ?_
      refine U.x Z Z Z Z ((L 6 Z Z).trans (cB g736)) (by decide) ?_
      refine U.x Z Z Z Z ((L 7 Z Z).trans (cB g736)) (by decide) ?_
      refine U.x Z Z Z Z ((L 8 Z Z).trans (cB g736)) (by decide) ?_
      refine U.x Z Z Z Z ((L 9 Z Z).trans (cB g736)) (by decide) ?_
      refine U.x Z Z Z Z ((L 10 Z Z).trans (cB g736)) (by decide) ?_
      refine U.x Z Z Z Z ((L 11 Z Z).trans (cB g736)) (by decide) ?_
      refine U.x Z Z Z Z ((L 12 Z Z).trans (cB g736)) (by decide) ?_
      refine U.x Z Z Z Z ((L 13 Z Z).trans (cB g736)) (by decide) ?_
      refine U.x Z Z Z Z ((L 14 Z Z).trans (cB g736)) (by decide) ?_
      refine U.x Z Z Z Z ((L 15 Z Z).trans (cB g736)) (by decide) ?_
      refine U.x Z Z Z Z ((L 16 Z Z).trans (cB g736)) (by decide) ?_
      refine U.x Z Z Z Z ((L 17 Z Z).trans (cB g736)) (by decide) ?_
      refine U.x Z Z Z Z ((L 18 Z Z).trans (cB g736)) (by decide) ?_
      refine U.x Z Z Z Z ((L 19 Z Z).trans (cB g736)) (by decide) ?_
      refine U.x Z Z Z Z ((L 20 Z Z).trans (cB g736)) (by decide) ?_
      refine U.x Z Z Z Z ((L 21 Z Z).trans (cB g736)) (by decide) ?_
      refine U.x Z Z Z Z ((L 22 Z Z).trans (cB g736)) (by decide) ?_
      refine U.x Z Z Z Z ((L 23 Z Z).trans (cB g736)) (by decide) ?_
      refine U.p Z Z (.inl Z) (S.pickF Z ((L 24 Z Z).trans (cB g736)) K) ?_
      have e793 := Option.some.inj h792
      subst e793
      exact kk [(193, .bool false), (192, .tuple #[]), (191, .tuple #[]), (190, .tuple #[]), (189, .tuple #[]), (188, .tuple #[]), (187, .tuple #[]), (186, .tuple #[]), (185, .tuple #[]), (184, .tuple #[]), (183, .tuple #[]), (182, .tuple #[]), (181, .tuple #[]), (180, .tuple #[]), (179, .tuple #[]), (178, .tuple #[]), (177, .tuple #[]), (176, .tuple #[]), (175, .tuple #[]), (174, .tuple #[]), (173, .tuple #[]), (172, .tuple #[]), (171, .tuple #[]), (170, .tuple #[]), (169, .tuple #[])] _ ⟨.tuple #[], .tuple #[], .tuple #[], .tuple #[], .tuple #[], .tuple #[], .tuple #[], .tuple #[], .tuple #[], .tuple #[], .tuple #[], .tuple #[], .tuple #[], .tuple #[], .tuple #[], .tuple #[], .tuple #[], .tuple #[], .tuple #[], .tuple #[], .tuple #[], .tuple #[], .tuple #[], .tuple #[], V626, Z, (.refl _), Z, ow629⟩
end Go.Vm.G16s
