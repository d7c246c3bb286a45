/-
  What the functions compute is what the plain ones say, for all inputs at which those answer.
-/
import Derived.Test.YtngmbcedamphmaaEWG13c
set_option linter.unusedSimpArgs false
set_option linter.unusedVariables false
namespace Go.Vm.G13
open Go Go.Proofs
set_option maxHeartbeats 4000000
set_option maxRecDepth 10000
theorem wk_law13_RegsHold (V : Vw) (Rs : List At) (p0 : TFunc) (v1 : Value) (f2 : Fz RT_TIns V v1 p0.code) (ow : Ow V (Rs)) (r : Bool) (h : law13_RegsHold p0 = some r) : ∃ v V', Cl Try.prog 0 3 #[.agg #[.string p0.name, .int .i64 p0.params, .int .i64 p0.regs, v1]] V.H v V'.H ∧ V.le V' ∧ (v = .bool r ∧ Ow V' (Rs)) := by
 refine Ct.of (Nat.zero_le _) Try.func3 Z (nr Z) ?_
 unfold law13_RegsHold at h
 refine WP.usreg Z ?_
 refine O.box ow Z Z (.inl Z) Z (L 0 Z Z) (by simp [topV]) Z nd (fun b3 V4 le5 ow6 => ?_)
 refine U.p Z Z (.inl Z) (S.assign Z K) ?_
 refine U.done (nr Z) ?_
 refine WP.seq ?_
 refine WP.usreg Z ?_
 obtain ⟨x8, hx9, h10⟩ := bindS h
 refine O.call (V := V4) Z Z (.inl Z) Z en6 aN (wk_law13_alive V4 _ ow6 _ hx9) (fun _ _ _ _ => nd) (fun v11 V12 le13 hp14 => ?_)
 obtain ⟨rfl, ow15⟩ := hp14
 refine U.p Z Z (.inl Z) (S.not Z (L 0 Z Z)) ?_
 refine U.done (nr Z) ?_
 refine WP.cond _ (L 0 Z Z) Z (fun c16 => ?_) (fun c16 => ?_)
 ·have h17 := ifT c16 h10
  have k18 : x8 = false := nT c16
  refine WP.usreg Z ?_
  refine U.p Z Z (.inl Z) (S.assign Z K) ?_
  refine U.done (nr Z) ?_
  refine WP.ret ?_
  refine sqR ?_
  refine fin.slot (.inr Z) Z (L 0 Z Z) ⟨V12, Z, (le5.trans le13), ?_⟩
  have ow19 := ow15.drop 0 Z
  have e20 := Option.some.inj h17
  subst e20
  exact ⟨rfl, ow19⟩
 ·have h21 := ifF c16 h10
  have k22 : x8 = true := nF c16
  refine WP.skip ?_
  refine sqN ?_
  refine WP.seq ?_
  refine WP.usreg Z ?_
  refine U.p (v := .pointer (some ⟨b3, 3, none⟩)) Z Z (.inl Z) (S.fieldAddr Z (L 3 Z Z) Try.underlying24 Z ti22 Z Z) ?_
  refine U.k Z Z (.inl Z) (S.load Z (L 0 Z Z) Try.underlying22 Z ((ow15.own (k := 0) Z).cell Z)) nd ?_
  refine U.p Z Z (.inl Z) (f2.1.len Z (L 0 Z Z) Try.underlying22) ?_
  refine U.p Z Z (.inl Z) (S.gtr Z (L 0 Z Z) K) ?_
  refine U.p Z Z (.inl Z) (S.move Z (L 0 Z Z)) ?_
  refine U.joinX 9 (fun e H => ∃ (u23 u24 u25 : Value), H = V12.H ∧ e = [(18, .bool ((decide (60 < (p0.code.length : Int))) || (decide (40 < p0.regs)))), (17, u23), (16, u24), (15, u25)]) ?_ ?_
  ·rintro _ _ ⟨u23, u24, u25, rfl, rfl⟩
   refine U.p Z Z (.inl Z) (S.move Z (L 0 Z Z)) ?_
   obtain ⟨y29, hy30, h31⟩ := bindS h21
   refine U.joinX 14 (fun e H => ∃ (u32 u33 u34 : Value), ∃ V' : Vw, H = V'.H ∧ V12.le V' ∧ e = [(23, .bool y29), (22, u32), (21, u33), (20, u34)] ∧ Ow V' (.pt b3 (.cells 0 [.string p0.name, .int .i64 p0.params, .int .i64 p0.regs, v1]) :: Rs)) ?_ ?_
   ·rintro _ _ ⟨u32, u33, u34, V35, rfl, le36, rfl, ow37⟩
    refine U.done (nr Z) ?_
    refine WP.cond _ (L 0 Z Z) Z (fun c38 => ?_) (fun c38 => ?_)
    ·have h39 := ifT c38 h31
     refine WP.usreg Z ?_
     refine U.p Z Z (.inl Z) (S.assign Z K) ?_
     refine U.done (nr Z) ?_
     refine WP.ret ?_
     refine sqR ?_
     refine fin.slot (.inr Z) Z (L 0 Z Z) ⟨V35, Z, ((le5.trans le13).trans le36), ?_⟩
     have ow40 := ow37.drop 0 Z
     have e41 := Option.some.inj h39
     subst e41
     exact ⟨rfl, ow40⟩
    ·have h42 := ifF c38 h31
     refine WP.skip ?_
     refine sqN ?_
     refine WP.seq ?_
     refine WP.usreg Z ?_
     refine U.p (v := .pointer (some ⟨b3, 3, none⟩)) Z Z (.inl Z) (S.fieldAddr Z (L 17 Z Z) Try.underlying24 Z ti22 Z Z) ?_
     refine U.k Z Z (.inl Z) (S.load Z (L 0 Z Z) Try.underlying22 Z ((ow37.own (k := 0) Z).cell Z)) nd ?_
     refine U.p Z Z (.inl Z) (f2.1.len Z (L 0 Z Z) Try.underlying22) ?_
     refine U.p Z Z (.inl Z) (S.move Z K) ?_
     refine U.done (nr Z) ?_
     refine WP.blk ?_
     unfold law13_RegsHold_l1 at h42
     obtain ⟨n45, hn44⟩ := loopO_some.1 h42
     refine WP.loopI2 (fun n l V' => ∃ (x43 : Int), l = [(1, .pointer (some ⟨b3, 0, none⟩)), (25, v1), (26, .int .i64 (p0.code.length : Int)), (27, .int .i64 x43)] ∧ V35.le V' ∧ Ow V' (.pt b3 (.cells 0 [.string p0.name, .int .i64 p0.params, .int .i64 p0.regs, v1]) :: Rs) ∧ itO (fun s => law13_RegsHold_l1b p0 s) n x43 = some r) n45 _ ⟨0, Z, .refl _, ow37, hn44⟩ (allCons (L 21 Z Z) (allCons (L 2 Z Z) (allCons (L 1 Z Z) (allCons (L 0 Z Z) allNil)))) ?_
     rintro _ _ V46 ⟨x43, rfl, le47, ow48, h52⟩
     obtain ⟨m49, q50, rfl, h53, e51⟩ := itS h52
     replace h53 : law13_RegsHold_l1b p0 x43 = some q50 := h53
     unfold law13_RegsHold_l1b at h53
     refine WP.usreg Z ?_
     refine U.p Z Z (.inl Z) (S.lss Z (L 3 Z Z) (L 2 Z Z)) ?_
     refine U.done (nr Z) ?_
     refine WP.seq ?_
     refine WP.cond _ (L 0 Z Z) Z (fun c54 => ?_) (fun c54 => ?_)
     ·have h55 := ifT c54 h53
      refine WP.skip ?_
      refine sqN ?_
      refine WP.seq ?_
      refine WP.blk ?_
      refine WP.usreg Z ?_
      obtain ⟨x56, hx57, h58⟩ := bindS h55
      obtain ⟨b59, o60, c61, cs62, hv63, hf64, hr65, hc66⟩ := f2.at hx57
      obtain ⟨v67, rfl, f68⟩ := hr65
      refine U.p Z Z (.inl Z) (S.index Z ((L 2 Z Z).trans hv63) (L 4 Z Z) Try.underlying22 ti29 (ix_ge hx57) (ix_lt hx57)) ?_
      refine U.k Z Z (.inl Z) (S.loadN (cs := [.int .i64 x56.op, .int .i64 x56.d, .int .i64 x56.a, .int .i64 x56.b, .int .i64 x56.imm, v67, .int .i64 x56.what, .bool x56.volatile, .bool x56.final]) Z (L 0 Z Z) Try.underlying29 Z ti29 Z (fun j v hj => (((le5.trans le13).trans le36).trans le47).cell hf64 (hc66 j v hj))) nd ?_
      refine O.alloc ow48 Z Z (.inl Z) Z ti29 Z Z nd (fun b69 V70 le71 ow72 => ?_)
      refine O.store (k := 0) (cs := [.int .i64 x56.op, .int .i64 x56.d, .int .i64 x56.a, .int .i64 x56.b, .int .i64 x56.imm, v67, .int .i64 x56.what, .bool x56.volatile, .bool x56.final]) (c' := [.int .i64 x56.op, .int .i64 x56.d, .int .i64 x56.a, .int .i64 x56.b, .int .i64 x56.imm, v67, .int .i64 x56.what, .bool x56.volatile, .bool x56.final]) ow72 Z Z Z (.inl Z) Z (L 0 Z Z) (L 1 Z Z) ti29 (by simp [topV]) Z Z (nr Z) (by have q0 := f68.one; simp only [List.all_cons, List.all_nil, q0]; rfl) Z nd (fun V74 le75 ow76 => ?_)
      refine U.done (nr Z) ?_
      refine WP.usreg Z ?_
      refine U.p (v := .pointer (some ⟨b69, 5, none⟩)) Z Z (.inl Z) (S.fieldAddr Z (L 0 Z Z) Try.underlying29 Z ti27 Z Z) ?_
      refine U.k Z Z (.inl Z) (S.load Z (L 0 Z Z) Try.underlying27 Z ((ow76.own (k := 0) Z).cell Z)) nd ?_
      refine U.p Z Z (.inl Z) (f68.1.len Z (L 0 Z Z) Try.underlying27) ?_
      refine U.p Z Z (.inl Z) (S.gtr Z (L 0 Z Z) K) ?_
      refine U.done (nr Z) ?_
      refine WP.cond _ (L 0 Z Z) Z (fun c77 => ?_) (fun c77 => ?_)
      ·have h78 := ifT c77 h58
       refine WP.usreg Z ?_
       refine U.p Z Z (.inl Z) (S.assign Z K) ?_
       refine U.done (nr Z) ?_
       refine WP.ret ?_
       refine blkR (sqR (sqR (blkR (sqR ?_))))
       have h79 := exitS h78 e51
       refine fin.slot (.inr Z) Z (L 0 Z Z) ⟨V74, Z, (((((le5.trans le13).trans le36).trans le47).trans le71).trans le75), ?_⟩
       have ow80 := ow76.drop 0 Z
       have ow81 := ow80.drop 0 Z
       have e82 := Option.some.inj h79
       subst e82
       exact ⟨rfl, ow81⟩
      ·have h83 := ifF c77 h58
       refine WP.skip ?_
       refine blkN (sqN ?_)
       refine WP.ureg Z ?_
       refine U.p Z Z (.inl Z) (S.add Z (L 11 Z Z) K) ?_
       refine U.p Z Z (.inl Z) (S.move Z (L 0 Z Z)) ?_
       refine U.done (nr Z) ?_
       refine sqN ?_
       have ow84 := ow76.drop 0 Z
       exact ⟨_, V74, Z, ⟨m49, Nat.lt_succ_self _, w64 (x43 + 1), Z, ((le47.trans le71).trans le75), ow84, backS h83 e51⟩, (allCons (L 10 Z Z) (allCons (L 11 Z Z) (allCons (L 12 Z Z) (allCons (L 0 Z Z) allNil))))⟩
     ·have h85 := ifF c54 h53
      refine WP.exit ?_
      refine sqE (sqE (blkE (sqN ?_)))
      have h86 := exitS h85 e51
      refine WP.usreg Z ?_
      refine U.k Z Z (.inl Z) (S.loadB Z (L 1 Z Z) Try.underlying24 Z ti24 (ow48.own (k := 0) Z).get Z) nd ?_
      have f87 := f2.up (((le5.trans le13).trans le36).trans le47)
      obtain ⟨x88, hx89, h90⟩ := bindS h86
      refine O.call (V := V46) Z Z (.inl Z) Z en8 (aC (L 0 Z Z) aN) (wk_regs_Assign V46 _ p0 v1 f87 ow48 _ hx89) (fun _ _ _ _ => nd) (fun v91 V92 le93 hp94 => ?_)
      obtain ⟨v96, rfl, f97, ow95⟩ := hp94
      refine O.alloc ow95 Z Z (.inl Z) Z ti31 Z Z nd (fun b98 V99 le100 ow101 => ?_)
      refine O.store (k := 0) (cs := [v96, .int .i64 x88.spill]) (c' := [v96, .int .i64 x88.spill]) ow101 Z Z Z (.inl Z) Z (L 0 Z Z) (L 1 Z Z) ti31 (by simp [topV]) Z Z (nr Z) (by have q0 := f97.one; simp only [List.all_cons, List.all_nil, q0]; rfl) Z nd (fun V103 le104 ow105 => ?_)
      refine U.done (nr Z) ?_
      refine WP.usreg Z ?_
      refine U.k Z Z (.inl Z) (S.loadB Z (L 4 Z Z) Try.underlying24 Z ti24 (ow105.own (k := 1) Z).get Z) nd ?_
      refine U.p (v := .pointer (some ⟨b98, 0, none⟩)) Z Z (.inl Z) (S.fieldAddr Z (L 1 Z Z) Try.underlying31 Z ti27 Z Z) ?_
      refine U.k Z Z (.inl Z) (S.load Z (L 0 Z Z) Try.underlying27 Z ((ow105.own (k := 0) Z).cell Z)) nd ?_
      refine U.p (v := .pointer (some ⟨b98, 1, none⟩)) Z Z (.inl Z) (S.fieldAddr Z (L 3 Z Z) Try.underlying31 Z ti3 Z Z) ?_
      refine U.k Z Z (.inl Z) (S.load Z (L 0 Z Z) Try.underlying3 Z ((ow105.own (k := 0) Z).cell Z)) nd ?_
      have f106 := f87.up ((le93.trans le100).trans le104)
      have f107 := f97.up (le100.trans le104)
      obtain ⟨x108, hx109, h110⟩ := bindS h90
      refine O.call (V := V103) Z Z (.inl Z) Z en9 (aC (L 4 Z Z) (aC (L 2 Z Z) (aC (L 0 Z Z) aN))) (wk_ref13_Holds V103 _ p0 x88.at_ x88.spill v1 v96 f106 f107 ow105 _ hx109) (fun _ _ _ _ => nd) (fun v111 V112 le113 hp114 => ?_)
      obtain ⟨rfl, ow115⟩ := hp114
      refine U.p Z Z (.inl Z) (S.move Z (L 0 Z Z)) ?_
      refine U.p Z Z (.inl Z) (S.extract Z (L 0 Z Z) Z (nr Z)) ?_
      refine U.p Z Z (.inl Z) (S.extract Z (L 1 Z Z) Z (nr Z)) ?_
      refine U.p Z Z (.inl Z) (S.assign Z (L 1 Z Z)) ?_
      refine U.p Z Z (.inl Z) (S.assign Z (L 1 Z Z)) ?_
      refine U.done (nr Z) ?_
      refine WP.usreg Z ?_
      refine U.p Z Z (.inl Z) (S.move Z (L 1 Z Z)) ?_
      refine U.p Z Z (.inl Z) (S.move Z (L 0 Z Z)) ?_
      refine U.joinX 10 (fun e H => ∃ (u116 u117 u118 u119 u120 u121 u122 : Value), H = V112.H ∧ e = [(56, .bool (x108.1 && ((decide (10 < x108.2)) || (decide (x88.spill = 0))))), (55, u116), (54, u117), (53, u118), (52, u119), (51, u120), (50, u121), (49, u122)]) ?_ ?_
      ·rintro _ _ ⟨u116, u117, u118, u119, u120, u121, u122, rfl, rfl⟩
       refine U.p Z Z (.inl Z) (S.assign Z (L 0 Z Z)) ?_
       refine U.done (nr Z) ?_
       refine WP.ret ?_
       refine fin.slot (.inr Z) Z (L 0 Z Z) ⟨V112, Z, (((((((le5.trans le13).trans le36).trans le47).trans le93).trans le100).trans le104).trans le113), ?_⟩
       have ow126 := ow115.drop 0 Z
       have ow127 := ow126.drop 0 Z
       have e128 := Option.some.inj h110
       subst e128
       exact ⟨rfl, ow127⟩
      ·intro kk
       refine bcase (b := x108.1) (fun g129 => ?_) (fun g129 => ?_)
       ·skip
        refine U.p Z Z (.inr ⟨_, _, _, Z, Z, ((L 0 Z Z).trans (cB g129))⟩) (S.move Z (L 2 Z Z)) ?_
        refine U.p Z Z (.inr ⟨_, _, _, Z, Z, ((L 1 Z Z).trans (cB g129))⟩) (S.gtr Z (L 0 Z Z) K) ?_
        refine U.p Z Z (.inr ⟨_, _, _, Z, Z, ((L 2 Z Z).trans (cB g129))⟩) (S.move Z (L 0 Z Z)) ?_
        refine U.joinX 9 (fun e H => ∃ (u130 u131 u132 : Value), H = V112.H ∧ e = [(55, .bool ((decide (10 < x108.2)) || (decide (x88.spill = 0)))), (54, u130), (53, u131), (52, u132)]) ?_ ?_
        ·rintro _ _ ⟨u130, u131, u132, rfl, rfl⟩
         refine U.p Z Z (.inl Z) (S.pickT Z ((L 7 Z Z).trans (cB g129)) (L 0 Z Z)) ?_
         exact kk [(56, .bool ((decide (10 < x108.2)) || (decide (x88.spill = 0)))), (55, .bool ((decide (10 < x108.2)) || (decide (x88.spill = 0)))), (54, u130), (53, u131), (52, u132), (51, .bool (decide (10 < x108.2))), (50, .bool (decide (10 < x108.2))), (49, .int .i64 x108.2)] _ ⟨.bool ((decide (10 < x108.2)) || (decide (x88.spill = 0))), u130, u131, u132, .bool (decide (10 < x108.2)), .bool (decide (10 < x108.2)), .int .i64 x108.2, Z, (by rw [g129, Bool.true_and])⟩
        ·intro kk
         refine bcase (b := decide (10 < x108.2)) (fun g136 => ?_) (fun g136 => ?_)
         ·skip
          refine U.x Z Z Z Z ((L 0 Z Z).trans (cB g136)) (by decide) ?_
          refine U.x Z Z Z Z ((L 1 Z Z).trans (cB g136)) (by decide) ?_
          refine U.x Z Z Z Z ((L 2 Z Z).trans (cB g136)) (by decide) ?_
          refine U.p Z Z (.inr ⟨_, _, _, Z, Z, ((L 6 Z Z).trans (cB g129))⟩) (S.pickT Z ((L 3 Z Z).trans (cB g136)) K) ?_
          exact kk [(55, .bool true), (54, .tuple #[]), (53, .tuple #[]), (52, .tuple #[])] _ ⟨.tuple #[], .tuple #[], .tuple #[], Z, (by rw [g136, Bool.true_or])⟩
         ·skip
          refine U.p (v := .pointer (some ⟨b98, 1, none⟩)) Z Z (.inr ⟨_, _, _, Z, Z, ((L 0 Z Z).trans (cB g136))⟩) (S.fieldAddr Z (L 16 Z Z) Try.underlying31 Z ti3 Z Z) ?_
          refine U.k Z Z (.inr ⟨_, _, _, Z, Z, ((L 1 Z Z).trans (cB g136))⟩) (S.load Z (L 0 Z Z) Try.underlying3 Z ((ow115.own (k := 0) Z).cell Z)) nd ?_
          refine U.p Z Z (.inr ⟨_, _, _, Z, Z, ((L 2 Z Z).trans (cB g136))⟩) (S.eqlI Z (L 0 Z Z) K) ?_
          refine U.p Z Z (.inr ⟨_, _, _, Z, Z, ((L 6 Z Z).trans (cB g129))⟩) (S.pickF Z ((L 3 Z Z).trans (cB g136)) (L 0 Z Z)) ?_
          exact kk [(55, .bool (decide (x88.spill = 0))), (54, .bool (decide (x88.spill = 0))), (53, .int .i64 x88.spill), (52, .pointer (some ⟨b98, 1, none⟩))] _ ⟨.bool (decide (x88.spill = 0)), .int .i64 x88.spill, .pointer (some ⟨b98, 1, none⟩), Z, (by rw [g136, Bool.false_or])⟩
       ·skip
        refine U.x Z Z Z Z ((L 0 Z Z).trans (cB g129)) (by decide) ?_
        refine U.x Z Z Z Z ((L 1 Z Z).trans (cB g129)) (by decide) ?_
        refine U.x Z Z Z Z ((L 2 Z Z).trans (cB g129)) (by decide) ?_
        refine U.z Z Z Z Z (L 0 Z Z) ?_
        refine U.z Z Z Z Z (L 1 Z Z) ?_
        refine U.z Z Z Z Z (L 2 Z Z) ?_
        refine U.x Z Z Z Z ((L 6 Z Z).trans (cB g129)) (by decide) ?_
        refine U.p Z Z (.inl Z) (S.pickF Z ((L 7 Z Z).trans (cB g129)) K) ?_
        exact kk [(56, .bool false), (55, .tuple #[]), (54, .tuple #[]), (53, .tuple #[]), (52, .tuple #[]), (51, .tuple #[]), (50, .tuple #[]), (49, .tuple #[])] _ ⟨.tuple #[], .tuple #[], .tuple #[], .tuple #[], .tuple #[], .tuple #[], .tuple #[], Z, (by rw [g129, Bool.false_and])⟩
   ·intro kk
    refine bcase (b := (decide (60 < (p0.code.length : Int))) || (decide (40 < p0.regs))) (fun g137 => ?_) (fun g137 => ?_)
    ·have h138 := ifT g137 hy30
     refine U.x Z Z Z Z ((L 0 Z Z).trans (cB g137)) (by decide) ?_
     refine U.x Z Z Z Z ((L 1 Z Z).trans (cB g137)) (by decide) ?_
     refine U.x Z Z Z Z ((L 2 Z Z).trans (cB g137)) (by decide) ?_
     refine U.p Z Z (.inl Z) (S.pickT Z ((L 3 Z Z).trans (cB g137)) K) ?_
     have e139 := Option.some.inj h138
     subst e139
     exact kk [(23, .bool true), (22, .tuple #[]), (21, .tuple #[]), (20, .tuple #[])] _ ⟨.tuple #[], .tuple #[], .tuple #[], V12, Z, (.refl _), Z, ow15⟩
    ·have h140 := ifF g137 hy30
     refine U.k Z Z (.inr ⟨_, _, _, Z, Z, ((L 0 Z Z).trans (cB g137))⟩) (S.loadB Z (L 13 Z Z) Try.underlying24 Z ti24 (ow15.own (k := 0) Z).get Z) nd ?_
     have f141 := f2.up (le5.trans le13)
     obtain ⟨x142, hx143, h144⟩ := bindS h140
     refine O.call (V := V12) Z Z (.inr ⟨_, _, _, Z, Z, ((L 1 Z Z).trans (cB g137))⟩) Z en7 (aC (L 0 Z Z) aN) (wk_ref08_Good V12 _ p0 v1 f141 ow15 _ hx143) (fun _ _ _ _ => nd) (fun v145 V146 le147 hp148 => ?_)
     obtain ⟨rfl, ow149⟩ := hp148
     refine U.p Z Z (.inr ⟨_, _, _, Z, Z, ((L 2 Z Z).trans (cB g137))⟩) (S.not Z (L 0 Z Z)) ?_
     refine U.p Z Z (.inl Z) (S.pickF Z ((L 3 Z Z).trans (cB g137)) (L 0 Z Z)) ?_
     have e150 := Option.some.inj h144
     subst e150
     exact kk [(23, .bool (!x142)), (22, .bool (!x142)), (21, .bool x142), (20, .agg #[.string p0.name, .int .i64 p0.params, .int .i64 p0.regs, v1])] _ ⟨.bool (!x142), .bool x142, .agg #[.string p0.name, .int .i64 p0.params, .int .i64 p0.regs, v1], V146, Z, le147, Z, ow149⟩
  ·intro kk
   refine bcase (b := decide (60 < (p0.code.length : Int))) (fun g151 => ?_) (fun g151 => ?_)
   ·skip
    refine U.x Z Z Z Z ((L 0 Z Z).trans (cB g151)) (by decide) ?_
    refine U.x Z Z Z Z ((L 1 Z Z).trans (cB g151)) (by decide) ?_
    refine U.x Z Z Z Z ((L 2 Z Z).trans (cB g151)) (by decide) ?_
    refine U.p Z Z (.inl Z) (S.pickT Z ((L 3 Z Z).trans (cB g151)) K) ?_
    exact kk [(18, .bool true), (17, .tuple #[]), (16, .tuple #[]), (15, .tuple #[])] _ ⟨.tuple #[], .tuple #[], .tuple #[], Z, (by rw [g151, Bool.true_or])⟩
   ·skip
    refine U.p (v := .pointer (some ⟨b3, 2, none⟩)) Z Z (.inr ⟨_, _, _, Z, Z, ((L 0 Z Z).trans (cB g151))⟩) (S.fieldAddr Z (L 8 Z Z) Try.underlying24 Z ti3 Z Z) ?_
    refine U.k Z Z (.inr ⟨_, _, _, Z, Z, ((L 1 Z Z).trans (cB g151))⟩) (S.load Z (L 0 Z Z) Try.underlying3 Z ((ow15.own (k := 0) Z).cell Z)) nd ?_
    refine U.p Z Z (.inr ⟨_, _, _, Z, Z, ((L 2 Z Z).trans (cB g151))⟩) (S.gtr Z (L 0 Z Z) K) ?_
    refine U.p Z Z (.inl Z) (S.pickF Z ((L 3 Z Z).trans (cB g151)) (L 0 Z Z)) ?_
    exact kk [(18, .bool (decide (40 < p0.regs))), (17, .bool (decide (40 < p0.regs))), (16, .int .i64 p0.regs), (15, .pointer (some ⟨b3, 2, none⟩))] _ ⟨.bool (decide (40 < p0.regs)), .int .i64 p0.regs, .pointer (some ⟨b3, 2, none⟩), Z, (by rw [g151, Bool.false_or])⟩
end Go.Vm.G13
