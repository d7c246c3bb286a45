/-
  What the functions compute is what the plain ones say, for all inputs at which those answer.
-/
import Derived.Test.YtcacllfgnjlhiaaEWG11b
set_option linter.unusedSimpArgs false
set_option linter.unusedVariables false
namespace Go.Vm.G11
open Go Go.Proofs
set_option maxHeartbeats 4000000
set_option maxRecDepth 10000
theorem wk_rM_enter (V : Vw) (Rs : List At) (p0 : TrM) (p1 : Int) (b1 : Nat) (z2 : Nat) (v4 : Value) (v6 : Value) (v8 : Value) (v10 : Value) (v12 : Value) (f5 : Fz RT_TFunc V v4 p0.m.funcs) (f7 : Fz (RT.int .i64) V v6 p0.m.threads) (f9 : Fz (RT.int .i64) V v8 p0.reads) (ow : Ow V (.pt b1 (.cells z2 [v4, v6, .int .i64 p0.me, v8, .int .i64 p0.fuel, .int .i64 p0.used, v10, v12, .bool p0.over, .bool p0.ended, .int .i64 p0.most]) :: .om (RT.int .i64) false v10 p0.held :: .os RT_TAct v12 p0.acts :: Rs)) (r : TrM) (h : rM_enter p0 p1 = some r) : ∃ v V', Cl Try.prog 0 39 #[.pointer (some ⟨b1, 0, none⟩), .int .i64 p1] V.H v V'.H ∧ V.le V' ∧ (∃ (v14 : Value) (v16 : Value) (v18 : Value) (v20 : Value) (v22 : Value), Fz RT_TFunc V' v14 r.m.funcs ∧ Fz (RT.int .i64) V' v16 r.m.threads ∧ Fz (RT.int .i64) V' v18 r.reads ∧ Ow V' (.pt b1 (.cells z2 [v14, v16, .int .i64 r.me, v18, .int .i64 r.fuel, .int .i64 r.used, v20, v22, .bool r.over, .bool r.ended, .int .i64 r.most]) :: .om (RT.int .i64) false v20 r.held :: .os RT_TAct v22 r.acts :: Rs)) := by
 refine Ct.of (Nat.zero_le _) Try.func39 rfl (nr rfl) ?_
 unfold rM_enter at h
 refine WP.usreg rfl ?_
 refine U.p rfl rfl (.inl rfl) (S.move rfl (L 0 rfl rfl)) ?_
 have ow24 := ow.pick 2 rfl
 have ow25 := ow24.pick 2 rfl
 have ow26 := ow25.pick 2 rfl
 obtain ⟨x27, hx28, h29⟩ := bindS h
 refine O.call (V := V) rfl rfl (.inl rfl) rfl en37 (aC (L 0 rfl rfl) aN) (wk_rM_read V _ p0 b1 z2 v4 v6 v8 v10 v12 f5 f7 f9 ow26 _ hx28) (fun _ _ _ _ => nd) (fun v30 V31 le32 hp33 => ?_)
 obtain ⟨v35, v37, v39, v41, v43, rfl, f36, f38, f40, ow34⟩ := hp33
 refine U.p rfl rfl (.inl rfl) (S.move rfl (L 0 rfl rfl)) ?_
 refine U.p rfl rfl (.inl rfl) (S.extract rfl (L 0 rfl rfl) rfl (nr rfl)) ?_
 refine U.p rfl rfl (.inl rfl) (S.extract rfl (L 1 rfl rfl) rfl (nr rfl)) ?_
 refine U.p rfl rfl (.inl rfl) (S.assign rfl (L 1 rfl rfl)) ?_
 refine U.p rfl rfl (.inl rfl) (S.assign rfl (L 1 rfl rfl)) ?_
 refine U.done (nr rfl) ?_
 refine WP.seq ?_
 refine WP.usreg rfl ?_
 refine U.p rfl rfl (.inl rfl) (S.move rfl (L 0 rfl rfl)) ?_
 refine U.p rfl rfl (.inl rfl) (S.not rfl (L 0 rfl rfl)) ?_
 refine U.done (nr rfl) ?_
 refine WP.cond _ (L 0 rfl rfl) rfl (fun c45 => ?_) (fun c45 => ?_)
 ·have h46 := ifT c45 h29
  have k47 : x27.2.1 = false := nT c45
  refine WP.ret ?_
  refine sqR ?_
  refine fin.slots' (.inr rfl) fsN rfl ⟨V31, rfl, le32, ?_⟩
  have e48 := Option.some.inj h46
  subst e48
  exact ⟨v35, v37, v39, v41, v43, f36, f38, f40, ow34⟩
 ·have h49 := ifF c45 h29
  have k50 : x27.2.1 = true := nF c45
  refine WP.skip ?_
  refine sqN ?_
  refine WP.usreg rfl ?_
  refine U.p rfl rfl (.inl rfl) (S.move rfl (L 9 rfl rfl)) ?_
  refine U.p rfl rfl (.inl rfl) (S.nilCheck rfl (L 0 rfl rfl)) ?_
  refine U.p (v := .pointer (some ⟨b1, 2, none⟩)) rfl rfl (.inl rfl) (S.fieldAddr rfl (L 0 rfl rfl) Try.underlying58 rfl ti3 rfl rfl) ?_
  refine U.k rfl rfl (.inl rfl) (S.load rfl (L 0 rfl rfl) Try.underlying3 rfl ((ow34.own (k := 0) rfl).cell rfl)) nd ?_
  refine U.p rfl rfl (.inl rfl) (S.add rfl (L 0 rfl rfl) K) ?_
  refine U.p rfl rfl (.inl rfl) (S.mul rfl K (L 0 rfl rfl)) ?_
  refine U.p rfl rfl (.inl rfl) (S.assign rfl (L 0 rfl rfl)) ?_
  refine U.done (nr rfl) ?_
  refine WP.usreg rfl ?_
  refine U.p rfl rfl (.inl rfl) (S.move rfl (L 16 rfl rfl)) ?_
  refine U.p rfl rfl (.inl rfl) (S.nilCheck rfl (L 0 rfl rfl)) ?_
  refine U.p (v := .pointer (some ⟨b1, 6, none⟩)) rfl rfl (.inl rfl) (S.fieldAddr rfl (L 0 rfl rfl) Try.underlying58 rfl ti56 rfl rfl) ?_
  refine U.k rfl rfl (.inl rfl) (S.load rfl (L 0 rfl rfl) Try.underlying56 rfl ((ow34.own (k := 0) rfl).cell rfl)) nd ?_
  refine U.p rfl rfl (.inl rfl) (S.move rfl (L 21 rfl rfl)) ?_
  refine O.lookup1 (k := 1) 0 ow34 rfl rfl rfl (.inl rfl) rfl (L 1 rfl rfl) (L 0 rfl rfl) Try.underlying56 Try.underlying3 ti3 rfl (cell_vrel rfl) (fun b51 hlt53 => nd) (fun b51 u52 hlt53 hr54 => ?_)
  obtain rfl : u52 = .int .i64 ((mG x27.2.2.held p1).getD 0) := (List.cons.inj (vrel_cell hr54)).1
  refine U.p rfl rfl (.inl rfl) (S.assign rfl (L 0 rfl rfl)) ?_
  refine U.done (nr rfl) ?_
  refine WP.seq ?_
  refine WP.usreg rfl ?_
  refine U.p rfl rfl (.inl rfl) (S.move rfl (L 0 rfl rfl)) ?_
  refine U.p rfl rfl (.inl rfl) (S.eqlI rfl (L 0 rfl rfl) K) ?_
  refine U.p rfl rfl (.inl rfl) (S.move rfl (L 0 rfl rfl)) ?_
  refine U.joinX 6 (fun e H => ∃ (u56 u57 : Value), H = V31.H ∧ e = [(32, .bool ((decide (((mG x27.2.2.held p1).getD 0) = 0)) && (decide (x27.1 ≠ 0)))), (31, u56), (30, u57)]) ?_ ?_
  ·rintro _ _ ⟨u56, u57, rfl, rfl⟩
   refine U.p rfl rfl (.inl rfl) (S.move rfl (L 0 rfl rfl)) ?_
   refine U.joinX 17 (fun e H => ∃ (u61 u62 u63 u64 u65 u66 u67 u68 u69 : Value), H = V31.H ∧ e = [(43, .bool (((decide (((mG x27.2.2.held p1).getD 0) = 0)) && (decide (x27.1 ≠ 0))) || ((decide (0 < ((mG x27.2.2.held p1).getD 0))) && (decide (x27.1 ≠ (w64 ((w64 (1024 * (w64 (x27.2.2.me + 1)))) + ((mG x27.2.2.held p1).getD 0)))))))), (42, u61), (41, u62), (40, u63), (39, u64), (38, u65), (37, u66), (36, u67), (35, u68), (34, u69)]) ?_ ?_
   ·rintro _ _ ⟨u61, u62, u63, u64, u65, u66, u67, u68, u69, rfl, rfl⟩
    refine U.done (nr rfl) ?_
    refine WP.cond _ (L 0 rfl rfl) rfl (fun c73 => ?_) (fun c73 => ?_)
    ·have h74 := ifT c73 h49
     refine WP.usreg rfl ?_
     refine U.p rfl rfl (.inl rfl) (S.move rfl (L 40 rfl rfl)) ?_
     refine U.p rfl rfl (.inl rfl) (S.nilCheck rfl (L 0 rfl rfl)) ?_
     refine U.p (v := .pointer (some ⟨b1, 8, none⟩)) rfl rfl (.inl rfl) (S.fieldAddr rfl (L 0 rfl rfl) Try.underlying58 rfl ti4 rfl rfl) ?_
     refine O.store (k := 0) (cs := [.bool true]) (c' := [v35, v37, .int .i64 x27.2.2.me, v39, .int .i64 x27.2.2.fuel, .int .i64 x27.2.2.used, v41, v43, .bool true, .bool x27.2.2.ended, .int .i64 x27.2.2.most]) ow34 rfl rfl rfl (.inl rfl) rfl (L 0 rfl rfl) K ti4 (by simp [topV]) rfl rfl (nr rfl) rfl rfl nd (fun V75 le76 ow77 => ?_)
     refine U.done (nr rfl) ?_
     refine WP.ret ?_
     refine sqR ?_
     have f78 := f36.up le76
     have f79 := f38.up le76
     have f80 := f40.up le76
     refine fin.slots' (.inr rfl) fsN rfl ⟨V75, rfl, (le32.trans le76), ?_⟩
     have e81 := Option.some.inj h74
     subst e81
     exact ⟨v35, v37, v39, v41, v43, f78, f79, f80, ow77⟩
    ·have h82 := ifF c73 h49
     refine WP.skip ?_
     refine sqN ?_
     refine WP.seq ?_
     refine WP.usreg rfl ?_
     refine U.p rfl rfl (.inl rfl) (S.move rfl (L 17 rfl rfl)) ?_
     refine U.p rfl rfl (.inl rfl) (S.eqlI rfl (L 0 rfl rfl) K) ?_
     refine U.done (nr rfl) ?_
     refine WP.cond _ (L 0 rfl rfl) rfl (fun c83 => ?_) (fun c83 => ?_)
     ·have h84 := ifT c83 h82
      refine WP.usreg rfl ?_
      refine U.p rfl rfl (.inl rfl) (S.move rfl (L 42 rfl rfl)) ?_
      have ow85 := ow34.pick 2 rfl
      have ow86 := ow85.pick 2 rfl
      have ow87 := ow86.pick 2 rfl
      obtain ⟨x88, hx89, h90⟩ := bindS h84
      refine O.call (V := V31) rfl rfl (.inl rfl) rfl en35 (aC (L 0 rfl rfl) (aC K aN)) (wk_rM_trap V31 _ x27.2.2 6 b1 z2 v35 v37 v39 v41 v43 f36 f38 f40 ow87 _ hx89) (fun _ _ _ _ => nd) (fun v91 V92 le93 hp94 => ?_)
      obtain ⟨v96, v98, v100, v102, v104, f97, f99, f101, ow95⟩ := hp94
      refine U.done (nr rfl) ?_
      refine WP.ret ?_
      refine sqR ?_
      refine fin.slots' (.inr rfl) fsN rfl ⟨V92, rfl, (le32.trans le93), ?_⟩
      have e106 := Option.some.inj h90
      subst e106
      exact ⟨v96, v98, v100, v102, v104, f97, f99, f101, ow95⟩
     ·have h107 := ifF c83 h82
      refine WP.skip ?_
      refine sqN ?_
      refine WP.usreg rfl ?_
      refine U.p rfl rfl (.inl rfl) (S.move rfl (L 19 rfl rfl)) ?_
      refine U.p rfl rfl (.inl rfl) (S.add rfl (L 0 rfl rfl) K) ?_
      refine U.p rfl rfl (.inl rfl) (S.assign rfl (L 0 rfl rfl)) ?_
      refine U.done (nr rfl) ?_
      refine WP.usreg rfl ?_
      refine U.p rfl rfl (.inl rfl) (S.move rfl (L 45 rfl rfl)) ?_
      refine U.p rfl rfl (.inl rfl) (S.nilCheck rfl (L 0 rfl rfl)) ?_
      refine U.p (v := .pointer (some ⟨b1, 6, none⟩)) rfl rfl (.inl rfl) (S.fieldAddr rfl (L 0 rfl rfl) Try.underlying58 rfl ti56 rfl rfl) ?_
      refine U.k rfl rfl (.inl rfl) (S.load rfl (L 0 rfl rfl) Try.underlying56 rfl ((ow34.own (k := 0) rfl).cell rfl)) nd ?_
      refine U.p rfl rfl (.inl rfl) (S.move rfl (L 50 rfl rfl)) ?_
      refine U.p rfl rfl (.inl rfl) (S.move rfl (L 5 rfl rfl)) ?_
      refine O.mapUpdate (k := 1) (w := w64 (((mG x27.2.2.held p1).getD 0) + 1)) ow34 rfl rfl rfl (.inl rfl) rfl (L 2 rfl rfl) (L 1 rfl rfl) (L 0 rfl rfl) Try.underlying56 Try.underlying3 (cell_vrel rfl) (fun _ _ => nd) (fun V108 le109 ow110 => ?_)
      refine U.done (nr rfl) ?_
      refine WP.ureg rfl ?_
      refine U.p rfl rfl (.inl rfl) (S.move rfl (L 51 rfl rfl)) ?_
      refine U.p rfl rfl (.inl rfl) (S.move rfl (L 53 rfl rfl)) ?_
      refine U.p rfl rfl (.inl rfl) (S.move rfl (L 37 rfl rfl)) ?_
      refine U.p rfl rfl (.inl rfl) (S.move rfl (L 9 rfl rfl)) ?_
      refine U.p rfl rfl (.inl rfl) (S.add rfl (L 1 rfl rfl) (L 0 rfl rfl)) ?_
      refine U.p (v := .agg #[.int .i64 0, .int .i64 0, .int .i64 0, .int .i64 0, .int .i64 0, .slice none 0 0, .int .i64 0, .bool false, .bool false]) rfl rfl (.inl rfl) (S.build (vs := []) rfl ti44 rfl pl44 aN allN rfl) ?_
      have f111 := f36.up le109
      have f112 := f38.up le109
      have f113 := f40.up le109
      have ow114 := ow110.pick 2 rfl
      have ow115 := ow114.pick 2 rfl
      have ow116 := ow115.pick 2 rfl
      obtain ⟨x117, hx118, h119⟩ := bindS h107
      refine O.call (V := V108) rfl rfl (.inl rfl) rfl en24 (aC (L 5 rfl rfl) (aC K (aC (L 4 rfl rfl) (aC (L 1 rfl rfl) (aC (L 0 rfl rfl) aN))))) (wk_rM_do V108 _ (⟨x27.2.2.m, x27.2.2.me, x27.2.2.reads, x27.2.2.fuel, x27.2.2.used, mS x27.2.2.held p1 (w64 (((mG x27.2.2.held p1).getD 0) + 1)), x27.2.2.acts, x27.2.2.over, x27.2.2.ended, x27.2.2.most⟩ : TrM) 5 p1 (w64 ((w64 (1024 * (w64 (x27.2.2.me + 1)))) + (w64 (((mG x27.2.2.held p1).getD 0) + 1)))) (⟨0, 0, 0, 0, 0, [], 0, false, false⟩ : TIns) b1 z2 v35 v37 v39 v41 v43 (.slice none 0 0) f111 f112 f113 Fz.nil ow116 _ hx118) (fun _ _ _ _ => nd) (fun v120 V121 le122 hp123 => ?_)
      obtain ⟨v125, v127, v129, v131, v133, f126, f128, f130, ow124⟩ := hp123
      refine U.done (nr rfl) ?_
      refine fin.slots' (.inl rfl) fsN rfl ⟨V121, rfl, ((le32.trans le109).trans le122), ?_⟩
      have e135 := Option.some.inj h119
      subst e135
      exact ⟨v125, v127, v129, v131, v133, f126, f128, f130, ow124⟩
   ·intro kk
    refine bcase (b := (decide (((mG x27.2.2.held p1).getD 0) = 0)) && (decide (x27.1 ≠ 0))) (fun g136 => ?_) (fun g136 => ?_)
    ·skip
     refine U.x rfl rfl rfl rfl ((L 0 rfl rfl).trans (cB g136)) (by decide) ?_
     refine U.x rfl rfl rfl rfl ((L 1 rfl rfl).trans (cB g136)) (by decide) ?_
     refine U.x rfl rfl rfl rfl ((L 2 rfl rfl).trans (cB g136)) (by decide) ?_
     refine U.z rfl rfl rfl rfl (L 0 rfl rfl) ?_
     refine U.z rfl rfl rfl rfl (L 1 rfl rfl) ?_
     refine U.z rfl rfl rfl rfl (L 2 rfl rfl) ?_
     refine U.z rfl rfl rfl rfl (L 3 rfl rfl) ?_
     refine U.z rfl rfl rfl rfl (L 4 rfl rfl) ?_
     refine U.x rfl rfl rfl rfl ((L 8 rfl rfl).trans (cB g136)) (by decide) ?_
     refine U.p rfl rfl (.inl rfl) (S.pickT rfl ((L 9 rfl rfl).trans (cB g136)) K) ?_
     exact kk [(43, .bool true), (42, .tuple #[]), (41, .tuple #[]), (40, .tuple #[]), (39, .tuple #[]), (38, .tuple #[]), (37, .tuple #[]), (36, .tuple #[]), (35, .tuple #[]), (34, .tuple #[])] _ ⟨.tuple #[], .tuple #[], .tuple #[], .tuple #[], .tuple #[], .tuple #[], .tuple #[], .tuple #[], .tuple #[], rfl, (by rw [g136, Bool.true_or])⟩
    ·skip
     refine U.p rfl rfl (.inr ⟨_, _, _, rfl, rfl, ((L 0 rfl rfl).trans (cB g136))⟩) (S.move rfl (L 7 rfl rfl)) ?_
     refine U.p rfl rfl (.inr ⟨_, _, _, rfl, rfl, ((L 1 rfl rfl).trans (cB g136))⟩) (S.gtr rfl (L 0 rfl rfl) K) ?_
     refine U.p rfl rfl (.inr ⟨_, _, _, rfl, rfl, ((L 2 rfl rfl).trans (cB g136))⟩) (S.move rfl (L 0 rfl rfl)) ?_
     refine U.joinX 16 (fun e H => ∃ (u137 u138 u139 u140 u141 : Value), H = V31.H ∧ e = [(42, .bool ((decide (0 < ((mG x27.2.2.held p1).getD 0))) && (decide (x27.1 ≠ (w64 ((w64 (1024 * (w64 (x27.2.2.me + 1)))) + ((mG x27.2.2.held p1).getD 0))))))), (41, u137), (40, u138), (39, u139), (38, u140), (37, u141)]) ?_ ?_
     ·rintro _ _ ⟨u137, u138, u139, u140, u141, rfl, rfl⟩
      refine U.p rfl rfl (.inl rfl) (S.pickF rfl ((L 9 rfl rfl).trans (cB g136)) (L 0 rfl rfl)) ?_
      exact kk [(43, .bool ((decide (0 < ((mG x27.2.2.held p1).getD 0))) && (decide (x27.1 ≠ (w64 ((w64 (1024 * (w64 (x27.2.2.me + 1)))) + ((mG x27.2.2.held p1).getD 0))))))), (42, .bool ((decide (0 < ((mG x27.2.2.held p1).getD 0))) && (decide (x27.1 ≠ (w64 ((w64 (1024 * (w64 (x27.2.2.me + 1)))) + ((mG x27.2.2.held p1).getD 0))))))), (41, u137), (40, u138), (39, u139), (38, u140), (37, u141), (36, .bool (decide (0 < ((mG x27.2.2.held p1).getD 0)))), (35, .bool (decide (0 < ((mG x27.2.2.held p1).getD 0)))), (34, .int .i64 ((mG x27.2.2.held p1).getD 0))] _ ⟨.bool ((decide (0 < ((mG x27.2.2.held p1).getD 0))) && (decide (x27.1 ≠ (w64 ((w64 (1024 * (w64 (x27.2.2.me + 1)))) + ((mG x27.2.2.held p1).getD 0)))))), u137, u138, u139, u140, u141, .bool (decide (0 < ((mG x27.2.2.held p1).getD 0))), .bool (decide (0 < ((mG x27.2.2.held p1).getD 0))), .int .i64 ((mG x27.2.2.held p1).getD 0), rfl, (by rw [g136, Bool.false_or])⟩
     ·intro kk
      refine bcase (b := decide (0 < ((mG x27.2.2.held p1).getD 0))) (fun g145 => ?_) (fun g145 => ?_)
      ·skip
       refine U.p rfl rfl (.inr ⟨_, _, _, rfl, rfl, ((L 0 rfl rfl).trans (cB g145))⟩) (S.move rfl (L 27 rfl rfl)) ?_
       refine U.p rfl rfl (.inr ⟨_, _, _, rfl, rfl, ((L 1 rfl rfl).trans (cB g145))⟩) (S.move rfl (L 18 rfl rfl)) ?_
       refine U.p rfl rfl (.inr ⟨_, _, _, rfl, rfl, ((L 2 rfl rfl).trans (cB g145))⟩) (S.move rfl (L 12 rfl rfl)) ?_
       refine U.p rfl rfl (.inr ⟨_, _, _, rfl, rfl, ((L 3 rfl rfl).trans (cB g145))⟩) (S.add rfl (L 1 rfl rfl) (L 0 rfl rfl)) ?_
       refine U.p rfl rfl (.inr ⟨_, _, _, rfl, rfl, ((L 4 rfl rfl).trans (cB g145))⟩) (S.neqI rfl (L 3 rfl rfl) (L 0 rfl rfl)) ?_
       refine U.p rfl rfl (.inr ⟨_, _, _, rfl, rfl, ((L 8 rfl rfl).trans (cB g136))⟩) (S.pickT rfl ((L 5 rfl rfl).trans (cB g145)) (L 0 rfl rfl)) ?_
       exact kk [(42, .bool (decide (x27.1 ≠ (w64 ((w64 (1024 * (w64 (x27.2.2.me + 1)))) + ((mG x27.2.2.held p1).getD 0)))))), (41, .bool (decide (x27.1 ≠ (w64 ((w64 (1024 * (w64 (x27.2.2.me + 1)))) + ((mG x27.2.2.held p1).getD 0)))))), (40, .int .i64 (w64 ((w64 (1024 * (w64 (x27.2.2.me + 1)))) + ((mG x27.2.2.held p1).getD 0)))), (39, .int .i64 ((mG x27.2.2.held p1).getD 0)), (38, .int .i64 (w64 (1024 * (w64 (x27.2.2.me + 1))))), (37, .int .i64 x27.1)] _ ⟨.bool (decide (x27.1 ≠ (w64 ((w64 (1024 * (w64 (x27.2.2.me + 1)))) + ((mG x27.2.2.held p1).getD 0))))), .int .i64 (w64 ((w64 (1024 * (w64 (x27.2.2.me + 1)))) + ((mG x27.2.2.held p1).getD 0))), .int .i64 ((mG x27.2.2.held p1).getD 0), .int .i64 (w64 (1024 * (w64 (x27.2.2.me + 1)))), .int .i64 x27.1, rfl, (by rw [g145, Bool.true_and])⟩
      ·skip
       refine U.x rfl rfl rfl rfl ((L 0 rfl rfl).trans (cB g145)) (by decide) ?_
       refine U.x rfl rfl rfl rfl ((L 1 rfl rfl).trans (cB g145)) (by decide) ?_
       refine U.x rfl rfl rfl rfl ((L 2 rfl rfl).trans (cB g145)) (by decide) ?_
       refine U.x rfl rfl rfl rfl ((L 3 rfl rfl).trans (cB g145)) (by decide) ?_
       refine U.x rfl rfl rfl rfl ((L 4 rfl rfl).trans (cB g145)) (by decide) ?_
       refine U.p rfl rfl (.inr ⟨_, _, _, rfl, rfl, ((L 8 rfl rfl).trans (cB g136))⟩) (S.pickF rfl ((L 5 rfl rfl).trans (cB g145)) K) ?_
       exact kk [(42, .bool false), (41, .tuple #[]), (40, .tuple #[]), (39, .tuple #[]), (38, .tuple #[]), (37, .tuple #[])] _ ⟨.tuple #[], .tuple #[], .tuple #[], .tuple #[], .tuple #[], rfl, (by rw [g145, Bool.false_and])⟩
  ·intro kk
   refine bcase (b := decide (((mG x27.2.2.held p1).getD 0) = 0)) (fun g146 => ?_) (fun g146 => ?_)
   ·skip
    refine U.p rfl rfl (.inr ⟨_, _, _, rfl, rfl, ((L 0 rfl rfl).trans (cB g146))⟩) (S.move rfl (L 20 rfl rfl)) ?_
    refine U.p rfl rfl (.inr ⟨_, _, _, rfl, rfl, ((L 1 rfl rfl).trans (cB g146))⟩) (S.neqI rfl (L 0 rfl rfl) K) ?_
    refine U.p rfl rfl (.inl rfl) (S.pickT rfl ((L 2 rfl rfl).trans (cB g146)) (L 0 rfl rfl)) ?_
    exact kk [(32, .bool (decide (x27.1 ≠ 0))), (31, .bool (decide (x27.1 ≠ 0))), (30, .int .i64 x27.1)] _ ⟨.bool (decide (x27.1 ≠ 0)), .int .i64 x27.1, rfl, (by rw [g146, Bool.true_and])⟩
   ·skip
    refine U.x rfl rfl rfl rfl ((L 0 rfl rfl).trans (cB g146)) (by decide) ?_
    refine U.x rfl rfl rfl rfl ((L 1 rfl rfl).trans (cB g146)) (by decide) ?_
    refine U.p rfl rfl (.inl rfl) (S.pickF rfl ((L 2 rfl rfl).trans (cB g146)) K) ?_
    exact kk [(32, .bool false), (31, .tuple #[]), (30, .tuple #[])] _ ⟨.tuple #[], .tuple #[], rfl, (by rw [g146, Bool.false_and])⟩
theorem wk_rM_leave (V : Vw) (Rs : List At) (p0 : TrM) (p1 : Int) (b1 : Nat) (z2 : Nat) (v4 : Value) (v6 : Value) (v8 : Value) (v10 : Value) (v12 : Value) (f5 : Fz RT_TFunc V v4 p0.m.funcs) (f7 : Fz (RT.int .i64) V v6 p0.m.threads) (f9 : Fz (RT.int .i64) V v8 p0.reads) (ow : Ow V (.pt b1 (.cells z2 [v4, v6, .int .i64 p0.me, v8, .int .i64 p0.fuel, .int .i64 p0.used, v10, v12, .bool p0.over, .bool p0.ended, .int .i64 p0.most]) :: .om (RT.int .i64) false v10 p0.held :: .os RT_TAct v12 p0.acts :: Rs)) (r : TrM) (h : rM_leave p0 p1 = some r) : ∃ v V', Cl Try.prog 0 40 #[.pointer (some ⟨b1, 0, none⟩), .int .i64 p1] V.H v V'.H ∧ V.le V' ∧ (∃ (v14 : Value) (v16 : Value) (v18 : Value) (v20 : Value) (v22 : Value), Fz RT_TFunc V' v14 r.m.funcs ∧ Fz (RT.int .i64) V' v16 r.m.threads ∧ Fz (RT.int .i64) V' v18 r.reads ∧ Ow V' (.pt b1 (.cells z2 [v14, v16, .int .i64 r.me, v18, .int .i64 r.fuel, .int .i64 r.used, v20, v22, .bool r.over, .bool r.ended, .int .i64 r.most]) :: .om (RT.int .i64) false v20 r.held :: .os RT_TAct v22 r.acts :: Rs)) := by
 refine Ct.of (Nat.zero_le _) Try.func40 rfl (nr rfl) ?_
 unfold rM_leave at h
 refine WP.usdreg rfl rfl rfl ?_
 refine U.p rfl rfl (.inl rfl) (S.move rfl (L 0 rfl rfl)) ?_
 refine U.p rfl rfl (.inl rfl) (S.nilCheck rfl (L 0 rfl rfl)) ?_
 refine U.p (v := .pointer (some ⟨b1, 6, none⟩)) rfl rfl (.inl rfl) (S.fieldAddr rfl (L 0 rfl rfl) Try.underlying58 rfl ti56 rfl rfl) ?_
 refine U.k rfl rfl (.inl rfl) (S.load rfl (L 0 rfl rfl) Try.underlying56 rfl ((ow.own (k := 0) rfl).cell rfl)) (fun _ => (okH.nil (fun r h => by cases h; exact (ow.own (k := 0) rfl).lt))) ?_
 refine U.p rfl rfl (.inl rfl) (S.move rfl (L 5 rfl rfl)) ?_
 refine U.p rfl rfl (.inl rfl) (S.move rfl (L 5 rfl rfl)) ?_
 refine U.p rfl rfl (.inl rfl) (S.nilCheck rfl (L 0 rfl rfl)) ?_
 refine U.p (v := .pointer (some ⟨b1, 6, none⟩)) rfl rfl (.inl rfl) (S.fieldAddr rfl (L 0 rfl rfl) Try.underlying58 rfl ti56 rfl rfl) ?_
 refine U.k rfl rfl (.inl rfl) (S.load rfl (L 0 rfl rfl) Try.underlying56 rfl ((ow.own (k := 0) rfl).cell rfl)) (fun _ => (okH.cons trivial (okH.nil (fun r h => by cases h; exact (ow.own (k := 0) rfl).lt)))) ?_
 refine U.p rfl rfl (.inl rfl) (S.move rfl (L 10 rfl rfl)) ?_
 refine O.lookup1 (k := 1) 0 ow rfl rfl rfl (.inl rfl) rfl (L 1 rfl rfl) (L 0 rfl rfl) Try.underlying56 Try.underlying3 ti3 rfl (cell_vrel rfl) (fun b24 hlt26 => (fun _ => (okH.cons trivial (okH.cons trivial (okH.nil (fun r h => by cases h; exact hlt26.1)))))) (fun b24 u25 hlt26 hr27 => ?_)
 obtain rfl : u25 = .int .i64 ((mG p0.held p1).getD 0) := (List.cons.inj (vrel_cell hr27)).1
 refine U.p rfl rfl (.inl rfl) (S.sub rfl (L 0 rfl rfl) K) ?_
 refine O.mapUpdate (k := 1) (w := w64 (((mG p0.held p1).getD 0) - 1)) ow rfl rfl rfl (.inl rfl) rfl (L 8 rfl rfl) (L 7 rfl rfl) (L 0 rfl rfl) Try.underlying56 Try.underlying3 (cell_vrel rfl) (fun H1 hs => (fun _ => (okH.cons (Or.inl rfl) (okH.cons (Or.inl rfl) (okH.cons (Or.inl rfl) (okH.nil (fun r h => nomatch h))))))) (fun V29 le30 ow31 => ?_)
 refine U.done (nr rfl) ?_
 refine WP.usdreg rfl rfl rfl ?_
 refine U.p rfl rfl (.inl rfl) (S.move rfl (L 12 rfl rfl)) ?_
 refine U.p rfl rfl (.inl rfl) (S.nilCheck rfl (L 0 rfl rfl)) ?_
 refine U.p (v := .pointer (some ⟨b1, 2, none⟩)) rfl rfl (.inl rfl) (S.fieldAddr rfl (L 0 rfl rfl) Try.underlying58 rfl ti3 rfl rfl) ?_
 refine U.k rfl rfl (.inl rfl) (S.load rfl (L 0 rfl rfl) Try.underlying3 rfl ((ow31.own (k := 0) rfl).cell rfl)) (fun _ => (okH.nil (fun r h => by cases h; exact (ow31.own (k := 0) rfl).lt))) ?_
 refine U.p rfl rfl (.inl rfl) (S.add rfl (L 0 rfl rfl) K) ?_
 refine U.p rfl rfl (.inl rfl) (S.mul rfl K (L 0 rfl rfl)) ?_
 refine U.p rfl rfl (.inl rfl) (S.move rfl (L 18 rfl rfl)) ?_
 refine U.p rfl rfl (.inl rfl) (S.nilCheck rfl (L 0 rfl rfl)) ?_
 refine U.p (v := .pointer (some ⟨b1, 6, none⟩)) rfl rfl (.inl rfl) (S.fieldAddr rfl (L 0 rfl rfl) Try.underlying58 rfl ti56 rfl rfl) ?_
 refine U.k rfl rfl (.inl rfl) (S.load rfl (L 0 rfl rfl) Try.underlying56 rfl ((ow31.own (k := 0) rfl).cell rfl)) (fun _ => (okH.cons trivial (okH.nil (fun r h => by cases h; exact (ow31.own (k := 0) rfl).lt)))) ?_
 refine U.p rfl rfl (.inl rfl) (S.move rfl (L 23 rfl rfl)) ?_
 refine O.lookup1 (k := 1) 0 ow31 rfl rfl rfl (.inl rfl) rfl (L 1 rfl rfl) (L 0 rfl rfl) Try.underlying56 Try.underlying3 ti3 rfl (cell_vrel rfl) (fun b32 hlt34 => (fun _ => (okH.cons trivial (okH.cons trivial (okH.nil (fun r h => by cases h; exact hlt34.1)))))) (fun b32 u33 hlt34 hr35 => ?_)
 obtain rfl : u33 = .int .i64 ((mG (mS p0.held p1 (w64 (((mG p0.held p1).getD 0) - 1))) p1).getD 0) := (List.cons.inj (vrel_cell hr35)).1
 refine U.p rfl rfl (.inl rfl) (S.add rfl (L 6 rfl rfl) (L 0 rfl rfl)) ?_
 refine U.p rfl rfl (.inl rfl) (S.assign rfl (L 0 rfl rfl)) ?_
 refine U.done (nr rfl) ?_
 refine WP.seqI (fun l V' => ∃ (x37 : Int), l = [(0, .pointer (some ⟨b1, 0, none⟩)), (1, .int .i64 p1), (4, .int .i64 x37)] ∧ V29.le V' ∧ Ow V' (.pt b1 (.cells z2 [v4, v6, .int .i64 p0.me, v8, .int .i64 p0.fuel, .int .i64 p0.used, v10, v12, .bool p0.over, .bool p0.ended, .int .i64 p0.most]) :: .om (RT.int .i64) false v10 (mS p0.held p1 (w64 (((mG p0.held p1).getD 0) - 1))) :: .os RT_TAct v12 p0.acts :: Rs) ∧ rM_leave_k1 p0 p1 x37 = some r) ?_ ?_
 ·rintro _ V38 ⟨x37, rfl, le39, ow40, h41⟩
  unfold rM_leave_k1 at h41
  refine WP.ureg rfl ?_
  refine U.p rfl rfl (.inl rfl) (S.move rfl (L 0 rfl rfl)) ?_
  refine U.p rfl rfl (.inl rfl) (S.move rfl (L 2 rfl rfl)) ?_
  refine U.p rfl rfl (.inl rfl) (S.move rfl (L 4 rfl rfl)) ?_
  refine U.p (v := .agg #[.int .i64 0, .int .i64 0, .int .i64 0, .int .i64 0, .int .i64 0, .slice none 0 0, .int .i64 0, .bool false, .bool false]) rfl rfl (.inl rfl) (S.build (vs := []) rfl ti44 rfl pl44 aN allN rfl) ?_
  have f42 := f5.up (le30.trans le39)
  have f43 := f7.up (le30.trans le39)
  have f44 := f9.up (le30.trans le39)
  have ow45 := ow40.pick 2 rfl
  have ow46 := ow45.pick 2 rfl
  have ow47 := ow46.pick 2 rfl
  obtain ⟨x48, hx49, h50⟩ := bindS h41
  refine O.call (V := V38) rfl rfl (.inl rfl) rfl en24 (aC (L 3 rfl rfl) (aC K (aC (L 2 rfl rfl) (aC (L 1 rfl rfl) (aC (L 0 rfl rfl) aN))))) (wk_rM_do V38 _ (⟨p0.m, p0.me, p0.reads, p0.fuel, p0.used, mS p0.held p1 (w64 (((mG p0.held p1).getD 0) - 1)), p0.acts, p0.over, p0.ended, p0.most⟩ : TrM) 6 p1 x37 (⟨0, 0, 0, 0, 0, [], 0, false, false⟩ : TIns) b1 z2 v4 v6 v8 v10 v12 (.slice none 0 0) f42 f43 f44 Fz.nil ow47 _ hx49) (fun _ _ _ _ => nd) (fun v51 V52 le53 hp54 => ?_)
  obtain ⟨v56, v58, v60, v62, v64, f57, f59, f61, ow55⟩ := hp54
  refine U.done (nr rfl) ?_
  refine fin.slots' (.inl rfl) fsN rfl ⟨V52, rfl, ((le30.trans le39).trans le53), ?_⟩
  have e66 := Option.some.inj h50
  subst e66
  exact ⟨v56, v58, v60, v62, v64, f57, f59, f61, ow55⟩
 ·skip
  refine WP.usreg rfl ?_
  refine U.p rfl rfl (.inl rfl) (S.move rfl (L 26 rfl rfl)) ?_
  refine U.p rfl rfl (.inl rfl) (S.nilCheck rfl (L 0 rfl rfl)) ?_
  refine U.p (v := .pointer (some ⟨b1, 6, none⟩)) rfl rfl (.inl rfl) (S.fieldAddr rfl (L 0 rfl rfl) Try.underlying58 rfl ti56 rfl rfl) ?_
  refine U.k rfl rfl (.inl rfl) (S.load rfl (L 0 rfl rfl) Try.underlying56 rfl ((ow31.own (k := 0) rfl).cell rfl)) nd ?_
  refine U.p rfl rfl (.inl rfl) (S.move rfl (L 31 rfl rfl)) ?_
  refine O.lookup1 (k := 1) 0 ow31 rfl rfl rfl (.inl rfl) rfl (L 1 rfl rfl) (L 0 rfl rfl) Try.underlying56 Try.underlying3 ti3 rfl (cell_vrel rfl) (fun b67 hlt69 => nd) (fun b67 u68 hlt69 hr70 => ?_)
  obtain rfl : u68 = .int .i64 ((mG (mS p0.held p1 (w64 (((mG p0.held p1).getD 0) - 1))) p1).getD 0) := (List.cons.inj (vrel_cell hr70)).1
  refine U.p rfl rfl (.inl rfl) (S.eqlI rfl (L 0 rfl rfl) K) ?_
  refine U.done (nr rfl) ?_
  refine WP.cond _ (L 0 rfl rfl) rfl (fun c72 => ?_) (fun c72 => ?_)
  ·have h73 := ifT c72 h
   refine WP.ureg rfl ?_
   refine U.p rfl rfl (.inl rfl) (S.assign rfl K) ?_
   refine U.done (nr rfl) ?_
   refine sqN ?_
   exact ⟨_, V29, rfl, ⟨0, rfl, (.refl _), ow31, h73⟩, (allCons (L 34 rfl rfl) (allCons (L 35 rfl rfl) (allCons (L 0 rfl rfl) allNil)))⟩
  ·have h74 := ifF c72 h
   refine WP.skip ?_
   refine sqN ?_
   exact ⟨_, V29, rfl, ⟨w64 ((w64 (1024 * (w64 (p0.me + 1)))) + ((mG (mS p0.held p1 (w64 (((mG p0.held p1).getD 0) - 1))) p1).getD 0)), rfl, (.refl _), ow31, h74⟩, (allCons (L 33 rfl rfl) (allCons (L 34 rfl rfl) (allCons (L 7 rfl rfl) allNil)))⟩
theorem wks_rM_Call (rec_ : TrM → Int → (List Int) → Int → Option (Int × TrM)) (IH : ∀ (V : Vw) (Rs : List At) (p0 : TrM) (p1 : Int) (p2 : List Int) (p3 : Int) (b1 : Nat) (z2 : Nat) (v4 : Value) (v6 : Value) (v8 : Value) (v10 : Value) (v12 : Value) (v14 : Value) (f5 : Fz RT_TFunc V v4 p0.m.funcs) (f7 : Fz (RT.int .i64) V v6 p0.m.threads) (f9 : Fz (RT.int .i64) V v8 p0.reads) (f15 : Fz (RT.int .i64) V v14 p2) (ow : Ow V (.pt b1 (.cells z2 [v4, v6, .int .i64 p0.me, v8, .int .i64 p0.fuel, .int .i64 p0.used, v10, v12, .bool p0.over, .bool p0.ended, .int .i64 p0.most]) :: .om (RT.int .i64) false v10 p0.held :: .os RT_TAct v12 p0.acts :: Rs)) (r : Int × TrM) (h : rec_ p0 p1 p2 p3 = some r), ∃ v V', Cl Try.prog 0 23 #[.pointer (some ⟨b1, 0, none⟩), .int .i64 p1, v14, .int .i64 p3] V.H v V'.H ∧ V.le V' ∧ (∃ (v16 : Value) (v18 : Value) (v20 : Value) (v22 : Value) (v24 : Value), v = .int .i64 r.1 ∧ Fz RT_TFunc V' v16 r.2.m.funcs ∧ Fz (RT.int .i64) V' v18 r.2.m.threads ∧ Fz (RT.int .i64) V' v20 r.2.reads ∧ Ow V' (.pt b1 (.cells z2 [v16, v18, .int .i64 r.2.me, v20, .int .i64 r.2.fuel, .int .i64 r.2.used, v22, v24, .bool r.2.over, .bool r.2.ended, .int .i64 r.2.most]) :: .om (RT.int .i64) false v22 r.2.held :: .os RT_TAct v24 r.2.acts :: Rs))) (V : Vw) (Rs : List At) (p0 : TrM) (p1 : Int) (p2 : List Int) (p3 : Int) (b1 : Nat) (z2 : Nat) (v4 : Value) (v6 : Value) (v8 : Value) (v10 : Value) (v12 : Value) (v14 : Value) (f5 : Fz RT_TFunc V v4 p0.m.funcs) (f7 : Fz (RT.int .i64) V v6 p0.m.threads) (f9 : Fz (RT.int .i64) V v8 p0.reads) (f15 : Fz (RT.int .i64) V v14 p2) (ow : Ow V (.pt b1 (.cells z2 [v4, v6, .int .i64 p0.me, v8, .int .i64 p0.fuel, .int .i64 p0.used, v10, v12, .bool p0.over, .bool p0.ended, .int .i64 p0.most]) :: .om (RT.int .i64) false v10 p0.held :: .os RT_TAct v12 p0.acts :: Rs)) (r : Int × TrM) (h : rM_Call_F rec_ p0 p1 p2 p3 = some r) : ∃ v V', Cl Try.prog 0 23 #[.pointer (some ⟨b1, 0, none⟩), .int .i64 p1, v14, .int .i64 p3] V.H v V'.H ∧ V.le V' ∧ (∃ (v16 : Value) (v18 : Value) (v20 : Value) (v22 : Value) (v24 : Value), v = .int .i64 r.1 ∧ Fz RT_TFunc V' v16 r.2.m.funcs ∧ Fz (RT.int .i64) V' v18 r.2.m.threads ∧ Fz (RT.int .i64) V' v20 r.2.reads ∧ Ow V' (.pt b1 (.cells z2 [v16, v18, .int .i64 r.2.me, v20, .int .i64 r.2.fuel, .int .i64 r.2.used, v22, v24, .bool r.2.over, .bool r.2.ended, .int .i64 r.2.most]) :: .om (RT.int .i64) false v22 r.2.held :: .os RT_TAct v24 r.2.acts :: Rs)) := by
 refine Ct.of (Nat.zero_le _) Try.func23 rfl (nr rfl) ?_
 unfold rM_Call_F at h
 refine WP.usreg rfl ?_
 refine U.p rfl rfl (.inl rfl) (S.assign rfl K) ?_
 refine U.done (nr rfl) ?_
 refine WP.seq ?_
 refine WP.usreg rfl ?_
 refine U.p rfl rfl (.inl rfl) (S.move rfl (L 4 rfl rfl)) ?_
 refine U.p rfl rfl (.inl rfl) (S.gtr rfl (L 0 rfl rfl) K) ?_
 refine U.done (nr rfl) ?_
 refine WP.cond _ (L 0 rfl rfl) rfl (fun c26 => ?_) (fun c26 => ?_)
 ·have h27 := ifT c26 h
  refine WP.usreg rfl ?_
  refine U.p rfl rfl (.inl rfl) (S.move rfl (L 3 rfl rfl)) ?_
  have ow28 := ow.pick 2 rfl
  have ow29 := ow28.pick 2 rfl
  have ow30 := ow29.pick 2 rfl
  obtain ⟨x31, hx32, h33⟩ := bindS h27
  refine O.call (V := V) rfl rfl (.inl rfl) rfl en35 (aC (L 0 rfl rfl) (aC K aN)) (wk_rM_trap V _ p0 5 b1 z2 v4 v6 v8 v10 v12 f5 f7 f9 ow30 _ hx32) (fun _ _ _ _ => nd) (fun v34 V35 le36 hp37 => ?_)
  obtain ⟨v39, v41, v43, v45, v47, f40, f42, f44, ow38⟩ := hp37
  refine U.done (nr rfl) ?_
  refine WP.usreg rfl ?_
  refine U.p rfl rfl (.inl rfl) (S.assign rfl K) ?_
  refine U.done (nr rfl) ?_
  refine WP.ret ?_
  refine sqR ?_
  refine fin.slot (.inr rfl) rfl (L 0 rfl rfl) ⟨V35, rfl, le36, ?_⟩
  have e49 := Option.some.inj h33
  subst e49
  exact ⟨v39, v41, v43, v45, v47, rfl, f40, f42, f44, ow38⟩
 ·have h50 := ifF c26 h
  refine WP.skip ?_
  refine sqN ?_
  refine WP.usreg rfl ?_
  refine U.p rfl rfl (.inl rfl) (S.move rfl (L 3 rfl rfl)) ?_
  refine U.p rfl rfl (.inl rfl) (S.nilCheck rfl (L 0 rfl rfl)) ?_
  refine U.p (v := .pointer (some ⟨b1, 0, none⟩)) rfl rfl (.inl rfl) (S.fieldAddr rfl (L 0 rfl rfl) Try.underlying58 rfl ti25 rfl rfl) ?_
  refine U.p (v := .pointer (some ⟨b1, 0, none⟩)) rfl rfl (.inl rfl) (S.fieldAddr rfl (L 0 rfl rfl) Try.underlying25 rfl ti22 rfl rfl) ?_
  refine U.k rfl rfl (.inl rfl) (S.load rfl (L 0 rfl rfl) Try.underlying22 rfl ((ow.own (k := 0) rfl).cell rfl)) nd ?_
  refine U.p rfl rfl (.inl rfl) (S.move rfl (L 9 rfl rfl)) ?_
  obtain ⟨x51, hx52, h53⟩ := bindS h50
  obtain ⟨b54, o55, c56, cs57, hv58, hf59, hr60, hc61⟩ := f5.at hx52
  obtain ⟨v62, rfl, f63⟩ := hr60
  refine U.p rfl rfl (.inl rfl) (S.index rfl ((L 1 rfl rfl).trans hv58) (L 0 rfl rfl) Try.underlying22 ti38 (ix_ge hx52) (ix_lt hx52)) ?_
  refine U.k rfl rfl (.inl rfl) (S.loadN (cs := [.string x51.name, .int .i64 x51.params, .int .i64 x51.regs, v62]) rfl (L 0 rfl rfl) Try.underlying38 rfl ti38 rfl (fun j v hj => hc61 j v hj)) nd ?_
  refine O.alloc ow rfl rfl (.inl rfl) rfl ti38 rfl rfl nd (fun b64 V65 le66 ow67 => ?_)
  refine O.store (k := 0) (cs := [.string x51.name, .int .i64 x51.params, .int .i64 x51.regs, v62]) (c' := [.string x51.name, .int .i64 x51.params, .int .i64 x51.regs, v62]) ow67 rfl rfl rfl (.inl rfl) rfl (L 0 rfl rfl) (L 1 rfl rfl) ti38 (by simp [topV]) rfl rfl (nr rfl) (by have q0 := f63.one; simp only [List.all_cons, List.all_nil, q0]; rfl) rfl nd (fun V69 le70 ow71 => ?_)
  refine U.done (nr rfl) ?_
  refine WP.usreg rfl ?_
  refine O.lit (R := (RT.int .i64)) ow71 rfl rfl (.inl rfl) rfl Try.underlying23 ti3 rfl rfl rfl (nr rfl) rfl aN .nil (fun _ => nd) (fun v72 V73 le74 ow75 => ?_)
  refine U.p rfl rfl (.inl rfl) (S.move rfl (L 15 rfl rfl)) ?_
  have f77 := f15.up ((le66.trans le70).trans le74)
  obtain ⟨xs78, hx79, h80⟩ := bindS h53
  refine O.append (k := 0) ow75 rfl rfl rfl (.inl rfl) rfl (L 1 rfl rfl) (L 0 rfl rfl) Try.underlying23 ti3 rfl rfl (nr rfl) (f77.src Try.underlying23) hx79 (fun _ _ => nd) (fun v81 V82 le83 ow84 => ?_)
  refine U.p rfl rfl (.inl rfl) (S.assign rfl (L 0 rfl rfl)) ?_
  refine U.done (nr rfl) ?_
  refine WP.seq ?_
  refine WP.blk ?_
  have ow89 := ow84.pick 0 rfl
  have ow90 := ow89.pick 1 rfl
  have ow91 := ow90.pick 4 rfl
  have ow92 := ow91.pick 4 rfl
  have ow93 := ow92.pick 4 rfl
  unfold rM_Call_l1 at h80
  obtain ⟨n95, hn94⟩ := loopO_some.1 h80
  refine WP.loopI2 (fun n l V' => ∃ (v87 : Value) (xs88 : List Int), l = [(0, .pointer (some ⟨b1, 0, none⟩)), (3, .int .i64 p3), (9, .pointer (some ⟨b64, 0, none⟩)), (10, v87)] ∧ V82.le V' ∧ Ow V' (.pt b1 (.cells z2 [v4, v6, .int .i64 p0.me, v8, .int .i64 p0.fuel, .int .i64 p0.used, v10, v12, .bool p0.over, .bool p0.ended, .int .i64 p0.most]) :: .om (RT.int .i64) false v10 p0.held :: .os RT_TAct v12 p0.acts :: .pt b64 (.cells 4 [.string x51.name, .int .i64 x51.params, .int .i64 x51.regs, v62]) :: .os (RT.int .i64) v87 xs88 :: Rs) ∧ itO (fun s => rM_Call_l1b rec_ p0 p3 x51 s) n xs88 = some r) n95 _ ⟨v81, xs78, rfl, .refl _, ow93, hn94⟩ (allCons (L 16 rfl rfl) (allCons (L 19 rfl rfl) (allCons (L 4 rfl rfl) (allCons (L 0 rfl rfl) allNil)))) ?_
  rintro _ _ V96 ⟨v87, xs88, rfl, le97, ow98, h102⟩
  obtain ⟨m99, q100, rfl, h103, e101⟩ := itS h102
  replace h103 : rM_Call_l1b rec_ p0 p3 x51 xs88 = some q100 := h103
  unfold rM_Call_l1b at h103
  refine WP.seq ?_
  refine WP.usreg rfl ?_
  refine U.p rfl rfl (.inl rfl) (S.move rfl (L 3 rfl rfl)) ?_
  refine U.p rfl rfl (.inl rfl) (ow98.oslen (k := 4) rfl rfl (L 0 rfl rfl) Try.underlying23) ?_
  refine U.p (v := .pointer (some ⟨b64, 2, none⟩)) rfl rfl (.inl rfl) (S.fieldAddr rfl (L 4 rfl rfl) Try.underlying38 rfl ti3 rfl rfl) ?_
  refine U.k rfl rfl (.inl rfl) (S.load rfl (L 0 rfl rfl) Try.underlying3 rfl ((ow98.own (k := 3) rfl).cell rfl)) nd ?_
  refine U.p rfl rfl (.inl rfl) (S.lss rfl (L 2 rfl rfl) (L 0 rfl rfl)) ?_
  refine U.done (nr rfl) ?_
  refine WP.cond _ (L 0 rfl rfl) rfl (fun c104 => ?_) (fun c104 => ?_)
  ·have h105 := ifT c104 h103
   refine WP.skip ?_
   refine sqN ?_
   refine WP.blk ?_
   refine WP.ureg rfl ?_
   refine U.p rfl rfl (.inl rfl) (S.move rfl (L 8 rfl rfl)) ?_
   refine O.lit (R := (RT.int .i64)) ow98 rfl rfl (.inl rfl) rfl Try.underlying23 ti3 rfl rfl rfl (nr rfl) rfl (aC K aN) (.cons _ _ 0 _ (by simp [topV]) rfl .nil) (fun _ => nd) (fun v106 V107 le108 ow109 => ?_)
   obtain ⟨xs111, hx112, h113⟩ := bindS h105
   refine O.append (k := 5) ow109 rfl rfl rfl (.inl rfl) rfl (L 1 rfl rfl) (L 0 rfl rfl) Try.underlying23 ti3 rfl rfl (nr rfl) (ow109.src (k := 0) rfl Try.underlying23) hx112 (fun _ _ => nd) (fun v114 V115 le116 ow117 => ?_)
   refine U.p rfl rfl (.inl rfl) (S.assign rfl (L 0 rfl rfl)) ?_
   refine U.done (nr rfl) ?_
   refine blkN (sqN ?_)
   have ow119 := ow117.drop 0 rfl
   exact ⟨_, V115, rfl, ⟨m99, Nat.lt_succ_self _, v114, xs111, rfl, ((le97.trans le108).trans le116), ow119, backS h113 e101⟩, (allCons (L 9 rfl rfl) (allCons (L 10 rfl rfl) (allCons (L 11 rfl rfl) (allCons (L 0 rfl rfl) allNil))))⟩
  ·have h120 := ifF c104 h103
   refine WP.exit ?_
   refine sqE (sqE (blkE (sqN ?_)))
   have h121 := exitS h120 e101
   refine WP.seq ?_
   refine WP.usreg rfl ?_
   refine U.p rfl rfl (.inl rfl) (S.assign rfl K) ?_
   refine U.done (nr rfl) ?_
   refine WP.blk ?_
   have f145 := f5.up ((((le66.trans le70).trans le74).trans le83).trans le97)
   have f146 := f7.up ((((le66.trans le70).trans le74).trans le83).trans le97)
   have f147 := f9.up ((((le66.trans le70).trans le74).trans le83).trans le97)
   unfold rM_Call_l2 at h121
   obtain ⟨n149, hn148⟩ := loopO_some.1 h121
   refine WP.loopI2 (fun n l V' => ∃ (xs122 : List TFunc) (v123 : Value) (xs125 : List Int) (v126 : Value) (x128 : Int) (xs129 : List Int) (v130 : Value) (x132 : Int) (x133 : Int) (v135 : Value) (xs136 : List (Int × Int)) (v138 : Value) (xs139 : List TAct) (x140 : Bool) (x141 : Bool) (x142 : Int) (xs143 : List Int) (x144 : Int), l = [(0, .pointer (some ⟨b1, 0, none⟩)), (3, .int .i64 p3), (9, .pointer (some ⟨b64, 0, none⟩)), (10, v87), (11, .int .i64 x144)] ∧ V96.le V' ∧ Fz RT_TFunc V' v123 xs122 ∧ Fz (RT.int .i64) V' v126 xs125 ∧ Fz (RT.int .i64) V' v130 xs129 ∧ Ow V' (.pt b1 (.cells z2 [v123, v126, .int .i64 x128, v130, .int .i64 x132, .int .i64 x133, v135, v138, .bool x140, .bool x141, .int .i64 x142]) :: .om (RT.int .i64) false v135 xs136 :: .os RT_TAct v138 xs139 :: .pt b64 (.cells 4 [.string x51.name, .int .i64 x51.params, .int .i64 x51.regs, v62]) :: .os (RT.int .i64) v87 xs143 :: Rs) ∧ itO (fun s => rM_Call_l2b rec_ p3 x51 s.1 s.2.1 s.2.2.1 s.2.2.2.1 s.2.2.2.2.1 s.2.2.2.2.2.1 s.2.2.2.2.2.2.1 s.2.2.2.2.2.2.2.1 s.2.2.2.2.2.2.2.2.1 s.2.2.2.2.2.2.2.2.2.1 s.2.2.2.2.2.2.2.2.2.2.1 s.2.2.2.2.2.2.2.2.2.2.2.1 s.2.2.2.2.2.2.2.2.2.2.2.2) n (xs122, xs125, x128, xs129, x132, x133, xs136, xs139, x140, x141, x142, xs143, x144) = some r) n149 _ ⟨p0.m.funcs, v4, p0.m.threads, v6, p0.me, p0.reads, v8, p0.fuel, p0.used, v10, p0.held, v12, p0.acts, p0.over, p0.ended, p0.most, xs88, 0, rfl, .refl _, f145, f146, f147, ow98, hn148⟩ (allCons (L 6 rfl rfl) (allCons (L 7 rfl rfl) (allCons (L 8 rfl rfl) (allCons (L 9 rfl rfl) (allCons (L 0 rfl rfl) allNil))))) ?_
   rintro _ _ V150 ⟨xs122, v123, xs125, v126, x128, xs129, v130, x132, x133, v135, xs136, v138, xs139, x140, x141, x142, xs143, x144, rfl, le151, f124, f127, f131, ow152, h156⟩
   obtain ⟨m153, q154, rfl, h157, e155⟩ := itS h156
   replace h157 : rM_Call_l2b rec_ p3 x51 xs122 xs125 x128 xs129 x132 x133 xs136 xs139 x140 x141 x142 xs143 x144 = some q154 := h157
   unfold rM_Call_l2b at h157
   refine WP.seq ?_
   refine WP.usreg rfl ?_
   refine U.p rfl rfl (.inl rfl) (S.move rfl (L 4 rfl rfl)) ?_
   refine U.p (v := .pointer (some ⟨b64, 3, none⟩)) rfl rfl (.inl rfl) (S.fieldAddr rfl (L 3 rfl rfl) Try.underlying38 rfl ti36 rfl rfl) ?_
   refine U.k rfl rfl (.inl rfl) (S.load rfl (L 0 rfl rfl) Try.underlying36 rfl ((ow152.own (k := 3) rfl).cell rfl)) nd ?_
   refine U.p rfl rfl (.inl rfl) (f63.1.len rfl (L 0 rfl rfl) Try.underlying36) ?_
   refine U.p rfl rfl (.inl rfl) (S.lss rfl (L 3 rfl rfl) (L 0 rfl rfl)) ?_
   refine U.done (nr rfl) ?_
   refine WP.cond _ (L 0 rfl rfl) rfl (fun c158 => ?_) (fun c158 => ?_)
   ·have h159 := ifT c158 h157
    refine WP.skip ?_
    refine sqN ?_
    refine WP.seqI (fun l V' => ∃ (xs160 : List TFunc) (v161 : Value) (xs163 : List Int) (v164 : Value) (x166 : Int) (xs167 : List Int) (v168 : Value) (x170 : Int) (x171 : Int) (v173 : Value) (xs174 : List (Int × Int)) (v176 : Value) (xs177 : List TAct) (x178 : Bool) (x179 : Bool) (x180 : Int) (xs181 : List Int) (x182 : Int), l = [(0, .pointer (some ⟨b1, 0, none⟩)), (3, .int .i64 p3), (9, .pointer (some ⟨b64, 0, none⟩)), (10, v87), (11, .int .i64 x182)] ∧ V150.le V' ∧ Fz RT_TFunc V' v161 xs160 ∧ Fz (RT.int .i64) V' v164 xs163 ∧ Fz (RT.int .i64) V' v168 xs167 ∧ Ow V' (.pt b1 (.cells z2 [v161, v164, .int .i64 x166, v168, .int .i64 x170, .int .i64 x171, v173, v176, .bool x178, .bool x179, .int .i64 x180]) :: .om (RT.int .i64) false v173 xs174 :: .os RT_TAct v176 xs177 :: .pt b64 (.cells 4 [.string x51.name, .int .i64 x51.params, .int .i64 x51.regs, v62]) :: .os (RT.int .i64) v87 xs181 :: Rs) ∧ rM_Call_k1 xs160 xs163 x166 xs167 x170 x171 xs174 xs177 x178 x179 x180 xs181 x182 = some q154) ?_ ?_
    ·rintro _ V183 ⟨xs160, v161, xs163, v164, x166, xs167, v168, x170, x171, v173, xs174, v176, xs177, x178, x179, x180, xs181, x182, rfl, le184, f162, f165, f169, ow185, h186⟩
     unfold rM_Call_k1 at h186
     refine WP.ureg rfl ?_
     refine U.p rfl rfl (.inl rfl) (S.move rfl (L 4 rfl rfl)) ?_
     refine U.p rfl rfl (.inl rfl) (S.add rfl (L 0 rfl rfl) K) ?_
     refine U.p rfl rfl (.inl rfl) (S.assign rfl (L 0 rfl rfl)) ?_
     refine U.done (nr rfl) ?_
     refine sqN ?_
     exact ⟨_, V183, rfl, ⟨m153, Nat.lt_succ_self _, xs160, v161, xs163, v164, x166, xs167, v168, x170, x171, v173, xs174, v176, xs177, x178, x179, x180, xs181, w64 (x182 + 1), rfl, (le151.trans le184), f162, f165, f169, ow185, backS h186 e155⟩, (allCons (L 3 rfl rfl) (allCons (L 4 rfl rfl) (allCons (L 5 rfl rfl) (allCons (L 6 rfl rfl) (allCons (L 0 rfl rfl) allNil)))))⟩
    ·skip
     refine WP.blk ?_
     refine WP.seqI (fun l V' => ∃ (x187 : Bool), l = [(0, .pointer (some ⟨b1, 0, none⟩)), (3, .int .i64 p3), (9, .pointer (some ⟨b64, 0, none⟩)), (10, v87), (11, .int .i64 x144)] ∧ V150.le V' ∧ Ow V' (.pt b1 (.cells z2 [v123, v126, .int .i64 x128, v130, .int .i64 x132, .int .i64 x133, v135, v138, .bool x187, .bool x141, .int .i64 x142]) :: .om (RT.int .i64) false v135 xs136 :: .os RT_TAct v138 xs139 :: .pt b64 (.cells 4 [.string x51.name, .int .i64 x51.params, .int .i64 x51.regs, v62]) :: .os (RT.int .i64) v87 xs143 :: Rs) ∧ rM_Call_k2 rec_ p3 x51 xs122 xs125 x128 xs129 x132 x133 xs136 xs139 x141 x142 xs143 x144 x187 = some q154) ?_ ?_
     ·rintro _ V188 ⟨x187, rfl, le189, ow190, h191⟩
      unfold rM_Call_k2 at h191
      refine WP.seq ?_
      refine WP.usreg rfl ?_
      refine U.p rfl rfl (.inl rfl) (S.move rfl (L 0 rfl rfl)) ?_
      refine U.p rfl rfl (.inl rfl) (S.nilCheck rfl (L 0 rfl rfl)) ?_
      refine U.p (v := .pointer (some ⟨b1, 8, none⟩)) rfl rfl (.inl rfl) (S.fieldAddr rfl (L 0 rfl rfl) Try.underlying58 rfl ti4 rfl rfl) ?_
      refine U.k rfl rfl (.inl rfl) (S.load rfl (L 0 rfl rfl) Try.underlying4 rfl ((ow190.own (k := 0) rfl).cell rfl)) nd ?_
      refine U.done (nr rfl) ?_
      refine WP.cond _ (L 0 rfl rfl) rfl (fun c192 => ?_) (fun c192 => ?_)
      ·have h193 := ifT c192 h191
       refine WP.usreg rfl ?_
       refine U.p rfl rfl (.inl rfl) (S.assign rfl K) ?_
       refine U.done (nr rfl) ?_
       refine WP.ret ?_
       refine sqR (blkR (sqR (sqR (blkR (sqR ?_)))))
       have h194 := exitS h193 e155
       have f195 := f124.up le189
       have f196 := f127.up le189
       have f197 := f131.up le189
       refine fin.slot (.inr rfl) rfl (L 0 rfl rfl) ⟨V188, rfl, ((((((le66.trans le70).trans le74).trans le83).trans le97).trans le151).trans le189), ?_⟩
       have ow198 := ow190.drop 3 rfl
       have ow199 := ow198.drop 3 rfl
       have e200 := Option.some.inj h194
       subst e200
       exact ⟨v123, v126, v130, v135, v138, rfl, f195, f196, f197, ow199⟩
      ·have h201 := ifF c192 h191
       refine WP.skip ?_
       refine sqN ?_
       refine WP.usreg rfl ?_
       refine U.p rfl rfl (.inl rfl) (S.move rfl (L 4 rfl rfl)) ?_
       refine U.p rfl rfl (.inl rfl) (S.nilCheck rfl (L 0 rfl rfl)) ?_
       refine U.p (v := .pointer (some ⟨b1, 4, none⟩)) rfl rfl (.inl rfl) (S.fieldAddr rfl (L 0 rfl rfl) Try.underlying58 rfl ti3 rfl rfl) ?_
       refine U.k rfl rfl (.inl rfl) (S.load rfl (L 0 rfl rfl) Try.underlying3 rfl ((ow190.own (k := 0) rfl).cell rfl)) nd ?_
       refine U.p rfl rfl (.inl rfl) (S.sub rfl (L 0 rfl rfl) K) ?_
       refine U.p rfl rfl (.inl rfl) (S.nilCheck rfl (L 4 rfl rfl)) ?_
       refine U.p (v := .pointer (some ⟨b1, 4, none⟩)) rfl rfl (.inl rfl) (S.fieldAddr rfl (L 0 rfl rfl) Try.underlying58 rfl ti3 rfl rfl) ?_
       refine O.store (k := 0) (cs := [.int .i64 (w64 (x132 - 1))]) (c' := [v123, v126, .int .i64 x128, v130, .int .i64 (w64 (x132 - 1)), .int .i64 x133, v135, v138, .bool x187, .bool x141, .int .i64 x142]) ow190 rfl rfl rfl (.inl rfl) rfl (L 0 rfl rfl) (L 2 rfl rfl) ti3 (by simp [topV]) rfl rfl (nr rfl) rfl rfl nd (fun V202 le203 ow204 => ?_)
       refine U.done (nr rfl) ?_
       refine WP.usreg rfl ?_
       refine U.p (v := .pointer (some ⟨b64, 3, none⟩)) rfl rfl (.inl rfl) (S.fieldAddr rfl (L 13 rfl rfl) Try.underlying38 rfl ti36 rfl rfl) ?_
       refine U.k rfl rfl (.inl rfl) (S.load rfl (L 0 rfl rfl) Try.underlying36 rfl ((ow204.own (k := 3) rfl).cell rfl)) nd ?_
       refine U.p rfl rfl (.inl rfl) (S.move rfl (L 17 rfl rfl)) ?_
       obtain ⟨x205, hx206, h207⟩ := bindS h201
       obtain ⟨b208, o209, c210, cs211, hv212, hf213, hr214, hc215⟩ := f63.at hx206
       obtain ⟨v216, rfl, f217⟩ := hr214
       refine U.p rfl rfl (.inl rfl) (S.index rfl ((L 1 rfl rfl).trans hv212) (L 0 rfl rfl) Try.underlying36 ti44 (ix_ge hx206) (ix_lt hx206)) ?_
       refine U.k rfl rfl (.inl rfl) (S.loadN (cs := [.int .i64 x205.op, .int .i64 x205.d, .int .i64 x205.a, .int .i64 x205.b, .int .i64 x205.imm, v216, .int .i64 x205.what, .bool x205.volatile, .bool x205.final]) rfl (L 0 rfl rfl) Try.underlying44 rfl ti44 rfl (fun j v hj => (((((((le66.trans le70).trans le74).trans le83).trans le97).trans le151).trans le189).trans le203).cell hf213 (hc215 j v hj))) nd ?_
       refine O.alloc ow204 rfl rfl (.inl rfl) rfl ti44 rfl rfl nd (fun b218 V219 le220 ow221 => ?_)
       refine O.store (k := 0) (cs := [.int .i64 x205.op, .int .i64 x205.d, .int .i64 x205.a, .int .i64 x205.b, .int .i64 x205.imm, v216, .int .i64 x205.what, .bool x205.volatile, .bool x205.final]) (c' := [.int .i64 x205.op, .int .i64 x205.d, .int .i64 x205.a, .int .i64 x205.b, .int .i64 x205.imm, v216, .int .i64 x205.what, .bool x205.volatile, .bool x205.final]) ow221 rfl rfl rfl (.inl rfl) rfl (L 0 rfl rfl) (L 1 rfl rfl) ti44 (by simp [topV]) rfl rfl (nr rfl) (by have q0 := f217.one; simp only [List.all_cons, List.all_nil, q0]; rfl) rfl nd (fun V223 le224 ow225 => ?_)
       refine U.done (nr rfl) ?_
       refine WP.usreg rfl ?_
       refine U.p rfl rfl (.inl rfl) (S.assign rfl K) ?_
       refine U.done (nr rfl) ?_
       refine WP.seqI (fun l V' => ∃ (x226 : Int), l = [(0, .pointer (some ⟨b1, 0, none⟩)), (3, .int .i64 p3), (9, .pointer (some ⟨b64, 0, none⟩)), (10, v87), (11, .int .i64 x144), (12, .pointer (some ⟨b218, 0, none⟩)), (13, .int .i64 x226)] ∧ V223.le V' ∧ Ow V' (.pt b1 (.cells z2 [v123, v126, .int .i64 x128, v130, .int .i64 (w64 (x132 - 1)), .int .i64 x133, v135, v138, .bool x187, .bool x141, .int .i64 x142]) :: .om (RT.int .i64) false v135 xs136 :: .os RT_TAct v138 xs139 :: .pt b64 (.cells 4 [.string x51.name, .int .i64 x51.params, .int .i64 x51.regs, v62]) :: .os (RT.int .i64) v87 xs143 :: .pt b218 (.cells 9 [.int .i64 x205.op, .int .i64 x205.d, .int .i64 x205.a, .int .i64 x205.b, .int .i64 x205.imm, v216, .int .i64 x205.what, .bool x205.volatile, .bool x205.final]) :: Rs) ∧ rM_Call_k3 rec_ p3 x51 xs122 xs125 x128 xs129 x132 x133 xs136 xs139 x141 x142 xs143 x144 x187 x205 x226 = some q154) ?_ ?_
       ·rintro _ V227 ⟨x226, rfl, le228, ow229, h230⟩
        unfold rM_Call_k3 at h230
        refine WP.usreg rfl ?_
        refine U.p (v := .pointer (some ⟨b218, 0, none⟩)) rfl rfl (.inl rfl) (S.fieldAddr rfl (L 5 rfl rfl) Try.underlying44 rfl ti3 rfl rfl) ?_
        refine U.k rfl rfl (.inl rfl) (S.load rfl (L 0 rfl rfl) Try.underlying3 rfl ((ow229.own (k := 5) rfl).cell rfl)) nd ?_
        refine U.done (nr rfl) ?_
        refine WP.blk ?_
        refine WP.usreg rfl ?_
        refine U.p rfl rfl (.inl rfl) (S.eqlI rfl (L 0 rfl rfl) K) ?_
        refine U.p rfl rfl (.inl rfl) (S.assign rfl (L 0 rfl rfl)) ?_
        refine U.done (nr rfl) ?_
        refine WP.cond _ (L 0 rfl rfl) rfl (fun c231 => ?_) (fun c231 => ?_)
        ·have h232 := ifT c231 h230
         refine WP.ureg rfl ?_
         refine U.p rfl rfl (.inl rfl) (S.move rfl (L 7 rfl rfl)) ?_
         refine U.p (v := .pointer (some ⟨b218, 1, none⟩)) rfl rfl (.inl rfl) (S.fieldAddr rfl (L 10 rfl rfl) Try.underlying44 rfl ti3 rfl rfl) ?_
         refine U.k rfl rfl (.inl rfl) (S.load rfl (L 0 rfl rfl) Try.underlying3 rfl ((ow229.own (k := 5) rfl).cell rfl)) nd ?_
         refine U.p (v := .pointer (some ⟨b218, 4, none⟩)) rfl rfl (.inl rfl) (S.fieldAddr rfl (L 12 rfl rfl) Try.underlying44 rfl ti3 rfl rfl) ?_
         refine U.k rfl rfl (.inl rfl) (S.load rfl (L 0 rfl rfl) Try.underlying3 rfl ((ow229.own (k := 5) rfl).cell rfl)) nd ?_
         obtain ⟨x233, hx234, h235⟩ := bindS h232
         obtain ⟨b236, o237, n238, c239, hv240⟩ := ow229.ospt (k := 4) rfl hx234
         obtain ⟨_, hv241, _⟩ := ow229.osel (k := 4) rfl hv240 hx234
         refine U.p rfl rfl (.inl rfl) (S.index rfl ((L 4 rfl rfl).trans hv241) (L 2 rfl rfl) Try.underlying23 ti3 (ix_ge hx234) (ix_lt hx234)) ?_
         obtain ⟨cs242, hv243, hlt244, hr245, hc246⟩ := ow229.osel (k := 4) rfl hv240 hx234
         obtain rfl : cs242 = [.int .i64 x233] := hr245
         refine O.storeE (k := 4) (R := (RT.int .i64)) (j := 0) (y := x205.imm) (cs := [.int .i64 x205.imm]) ow229 rfl hv243 rfl rfl (.inl rfl) rfl (L 0 rfl rfl) (L 1 rfl rfl) ti3 hx234 (by simp [topV]) rfl rfl rfl (full rfl) (fun _ _ => nd) (fun V247 le248 ow249 => ?_)
         refine U.done (nr rfl) ?_
         refine blkN (blkN (sqN ?_))
         have ow250 := ow249.drop 5 rfl
         have f251 := f124.up (((((le189.trans le203).trans le220).trans le224).trans le228).trans le248)
         have f252 := f127.up (((((le189.trans le203).trans le220).trans le224).trans le228).trans le248)
         have f253 := f131.up (((((le189.trans le203).trans le220).trans le224).trans le228).trans le248)
         exact ⟨_, V247, rfl, ⟨xs122, v123, xs125, v126, x128, xs129, v130, w64 (x132 - 1), x133, v135, xs136, v138, xs139, x187, x141, x142, xs143.set (Int.toNat x205.d) x205.imm, x144, rfl, (((((le189.trans le203).trans le220).trans le224).trans le228).trans le248), f251, f252, f253, ow250, h235⟩, (allCons (L 10 rfl rfl) (allCons (L 11 rfl rfl) (allCons (L 12 rfl rfl) (allCons (L 13 rfl rfl) (allCons (L 14 rfl rfl) allNil)))))⟩
        ·have h254 := ifF c231 h230
         refine WP.usreg rfl ?_
         refine U.p rfl rfl (.inl rfl) (S.eqlI rfl (L 2 rfl rfl) K) ?_
         refine U.p rfl rfl (.inl rfl) (S.assign rfl (L 0 rfl rfl)) ?_
         refine U.done (nr rfl) ?_
         refine WP.cond _ (L 0 rfl rfl) rfl (fun c255 => ?_) (fun c255 => ?_)
         ·have h256 := ifT c255 h254
          refine WP.ureg rfl ?_
          refine U.p rfl rfl (.inl rfl) (S.move rfl (L 9 rfl rfl)) ?_
          refine U.p (v := .pointer (some ⟨b218, 1, none⟩)) rfl rfl (.inl rfl) (S.fieldAddr rfl (L 12 rfl rfl) Try.underlying44 rfl ti3 rfl rfl) ?_
          refine U.k rfl rfl (.inl rfl) (S.load rfl (L 0 rfl rfl) Try.underlying3 rfl ((ow229.own (k := 5) rfl).cell rfl)) nd ?_
          refine U.p rfl rfl (.inl rfl) (S.move rfl (L 15 rfl rfl)) ?_
          obtain ⟨x257, hx258, h259⟩ := bindS h256
          obtain ⟨b260, o261, n262, c263, hv264⟩ := ow229.ospt (k := 4) rfl hx258
          obtain ⟨_, hv265, _⟩ := ow229.osel (k := 4) rfl hv264 hx258
          refine U.p rfl rfl (.inl rfl) (S.index rfl ((L 3 rfl rfl).trans hv265) (L 1 rfl rfl) Try.underlying23 ti3 (ix_ge hx258) (ix_lt hx258)) ?_
          obtain ⟨cs266, hv267, hlt268, hr269, hc270⟩ := ow229.osel (k := 4) rfl hv264 hx258
          obtain rfl : cs266 = [.int .i64 x257] := hr269
          refine O.storeE (k := 4) (R := (RT.int .i64)) (j := 0) (y := x226) (cs := [.int .i64 x226]) ow229 rfl hv267 rfl rfl (.inl rfl) rfl (L 0 rfl rfl) (L 1 rfl rfl) ti3 hx258 (by simp [topV]) rfl rfl rfl (full rfl) (fun _ _ => nd) (fun V271 le272 ow273 => ?_)
          refine U.done (nr rfl) ?_
          refine blkN (blkN (sqN ?_))
          have ow274 := ow273.drop 5 rfl
          have f275 := f124.up (((((le189.trans le203).trans le220).trans le224).trans le228).trans le272)
          have f276 := f127.up (((((le189.trans le203).trans le220).trans le224).trans le228).trans le272)
          have f277 := f131.up (((((le189.trans le203).trans le220).trans le224).trans le228).trans le272)
          exact ⟨_, V271, rfl, ⟨xs122, v123, xs125, v126, x128, xs129, v130, w64 (x132 - 1), x133, v135, xs136, v138, xs139, x187, x141, x142, xs143.set (Int.toNat x205.d) x226, x144, rfl, (((((le189.trans le203).trans le220).trans le224).trans le228).trans le272), f275, f276, f277, ow274, h259⟩, (allCons (L 11 rfl rfl) (allCons (L 12 rfl rfl) (allCons (L 13 rfl rfl) (allCons (L 14 rfl rfl) (allCons (L 15 rfl rfl) allNil)))))⟩
         ·have h278 := ifF c255 h254
          refine WP.seqI (fun l V' => ∃ (x279 : Bool), l = [(0, .pointer (some ⟨b1, 0, none⟩)), (3, .int .i64 p3), (9, .pointer (some ⟨b64, 0, none⟩)), (10, v87), (11, .int .i64 x144), (12, .pointer (some ⟨b218, 0, none⟩)), (13, .int .i64 x226), (95, .int .i64 x205.op), (111, .bool x279)] ∧ V227.le V' ∧ Ow V' (.pt b1 (.cells z2 [v123, v126, .int .i64 x128, v130, .int .i64 (w64 (x132 - 1)), .int .i64 x133, v135, v138, .bool x187, .bool x141, .int .i64 x142]) :: .om (RT.int .i64) false v135 xs136 :: .os RT_TAct v138 xs139 :: .pt b64 (.cells 4 [.string x51.name, .int .i64 x51.params, .int .i64 x51.regs, v62]) :: .os (RT.int .i64) v87 xs143 :: .pt b218 (.cells 9 [.int .i64 x205.op, .int .i64 x205.d, .int .i64 x205.a, .int .i64 x205.b, .int .i64 x205.imm, v216, .int .i64 x205.what, .bool x205.volatile, .bool x205.final]) :: Rs) ∧ rM_Call_k4 rec_ p3 x51 xs122 xs125 x128 xs129 x132 x133 xs136 xs139 x141 x142 xs143 x144 x187 x205 x226 x279 = some q154) ?_ ?_
          ·rintro _ V280 ⟨x279, rfl, le281, ow282, h283⟩
           unfold rM_Call_k4 at h283
           refine WP.cond _ (L 8 rfl rfl) rfl (fun c284 => ?_) (fun c284 => ?_)
           ·have h285 := ifT c284 h283
            refine WP.udreg rfl rfl rfl ?_
            refine U.p rfl rfl (.inl rfl) (S.move rfl (L 3 rfl rfl)) ?_
            refine U.p (v := .pointer (some ⟨b218, 1, none⟩)) rfl rfl (.inl rfl) (S.fieldAddr rfl (L 6 rfl rfl) Try.underlying44 rfl ti3 rfl rfl) ?_
            refine U.k rfl rfl (.inl rfl) (S.load rfl (L 0 rfl rfl) Try.underlying3 rfl ((ow282.own (k := 5) rfl).cell rfl)) (fun _ => (okH.nil (fun r h => by cases h; exact (ow282.own (k := 5) rfl).lt))) ?_
            refine U.p (v := .pointer (some ⟨b218, 0, none⟩)) rfl rfl (.inl rfl) (S.fieldAddr rfl (L 8 rfl rfl) Try.underlying44 rfl ti3 rfl rfl) ?_
            refine U.k rfl rfl (.inl rfl) (S.load rfl (L 0 rfl rfl) Try.underlying3 rfl ((ow282.own (k := 5) rfl).cell rfl)) (fun _ => (okH.cons trivial (okH.nil (fun r h => by cases h; exact (ow282.own (k := 5) rfl).lt)))) ?_
            refine U.p rfl rfl (.inl rfl) (S.move rfl (L 11 rfl rfl)) ?_
            refine U.p rfl rfl (.inl rfl) (S.move rfl (L 9 rfl rfl)) ?_
            refine U.p (v := .pointer (some ⟨b218, 3, none⟩)) rfl rfl (.inl rfl) (S.fieldAddr rfl (L 12 rfl rfl) Try.underlying44 rfl ti3 rfl rfl) ?_
            refine U.k rfl rfl (.inl rfl) (S.load rfl (L 0 rfl rfl) Try.underlying3 rfl ((ow282.own (k := 5) rfl).cell rfl)) (fun _ => (okH.cons trivial (okH.cons trivial (okH.nil (fun r h => by cases h; exact (ow282.own (k := 5) rfl).lt))))) ?_
            obtain ⟨x286, hx287, h288⟩ := bindS h285
            obtain ⟨b289, o290, n291, c292, hv293⟩ := ow282.ospt (k := 4) rfl hx287
            obtain ⟨_, hv294, _⟩ := ow282.osel (k := 4) rfl hv293 hx287
            refine U.p rfl rfl (.inl rfl) (S.index rfl ((L 2 rfl rfl).trans hv294) (L 0 rfl rfl) Try.underlying23 ti3 (ix_ge hx287) (ix_lt hx287)) ?_
            obtain ⟨cs295, hv296, hlt297, hr298, hc299⟩ := ow282.osel (k := 4) rfl hv293 hx287
            obtain rfl : cs295 = [.int .i64 x286] := hr298
            refine U.k rfl rfl (.inl rfl) (S.load rfl (L 0 rfl rfl) Try.underlying3 rfl (hc299 0 _ rfl)) (fun _ => (okH.cons trivial (okH.cons trivial (okH.cons trivial (okH.nil (fun r h => by cases h; exact hlt297)))))) ?_
            obtain ⟨x300, hx301, h302⟩ := bindS h288
            refine O.call (V := V280) rfl rfl (.inl rfl) rfl en36 (aC (L 6 rfl rfl) (aC (L 5 rfl rfl) (aC (L 0 rfl rfl) aN))) (wk_ref08_reckon V280 _ x205.op x226 x286 ow282 _ hx301) (fun v303 V304 le305 hp306 => by obtain ⟨rfl, ow307⟩ := hp306; exact (fun _ => (okH.cons (Or.inl rfl) (okH.cons (Or.inl rfl) (okH.cons (Or.inl rfl) (okH.cons (Or.inr (((ow307.own (k := 5) rfl).get.trans (ow282.own (k := 5) rfl).get.symm))) (okH.nil (fun r h => nomatch h)))))))) (fun v303 V304 le305 hp306 => ?_)
            obtain ⟨rfl, ow307⟩ := hp306
            obtain ⟨x308, hx309, h310⟩ := bindS h302
            obtain ⟨_, hv311, _⟩ := ow307.osel (k := 4) rfl hv293 hx309
            refine U.p rfl rfl (.inl rfl) (S.index rfl ((L 11 rfl rfl).trans hv311) (L 9 rfl rfl) Try.underlying23 ti3 (ix_ge hx309) (ix_lt hx309)) ?_
            obtain ⟨cs312, hv313, hlt314, hr315, hc316⟩ := ow307.osel (k := 4) rfl hv293 hx309
            obtain rfl : cs312 = [.int .i64 x308] := hr315
            refine O.storeE (k := 4) (R := (RT.int .i64)) (j := 0) (y := x300) (cs := [.int .i64 x300]) ow307 rfl hv313 rfl rfl (.inl rfl) rfl (L 0 rfl rfl) (L 1 rfl rfl) ti3 hx309 (by simp [topV]) rfl rfl rfl (full rfl) (fun H1 hs => (fun _ => (okH.cons rfl (okH.cons (Or.inl rfl) (okH.cons (Or.inl rfl) (okH.cons (Or.inl rfl) (okH.cons (Or.inl rfl) (okH.nil (fun r h => nomatch h))))))))) (fun V317 le318 ow319 => ?_)
            refine U.done (nr rfl) ?_
            refine blkN (blkN (sqN ?_))
            have ow320 := ow319.drop 5 rfl
            have f321 := f124.up (((((((le189.trans le203).trans le220).trans le224).trans le228).trans le281).trans le305).trans le318)
            have f322 := f127.up (((((((le189.trans le203).trans le220).trans le224).trans le228).trans le281).trans le305).trans le318)
            have f323 := f131.up (((((((le189.trans le203).trans le220).trans le224).trans le228).trans le281).trans le305).trans le318)
            exact ⟨_, V317, rfl, ⟨xs122, v123, xs125, v126, x128, xs129, v130, w64 (x132 - 1), x133, v135, xs136, v138, xs139, x187, x141, x142, xs143.set (Int.toNat x205.d) x300, x144, rfl, (((((((le189.trans le203).trans le220).trans le224).trans le228).trans le281).trans le305).trans le318), f321, f322, f323, ow320, h310⟩, (allCons (L 13 rfl rfl) (allCons (L 14 rfl rfl) (allCons (L 15 rfl rfl) (allCons (L 16 rfl rfl) (allCons (L 17 rfl rfl) allNil)))))⟩
           ·have h324 := ifF c284 h283
            refine WP.usreg rfl ?_
            refine U.p rfl rfl (.inl rfl) (S.eqlI rfl (L 7 rfl rfl) K) ?_
            refine U.p rfl rfl (.inl rfl) (S.assign rfl (L 0 rfl rfl)) ?_
            refine U.done (nr rfl) ?_
            refine WP.cond _ (L 0 rfl rfl) rfl (fun c325 => ?_) (fun c325 => ?_)
            ·have h326 := ifT c325 h324
             refine WP.usreg rfl ?_
             refine U.p rfl rfl (.inl rfl) (S.move rfl (L 2 rfl rfl)) ?_
             have f327 := f124.up (((((le189.trans le203).trans le220).trans le224).trans le228).trans le281)
             have f328 := f127.up (((((le189.trans le203).trans le220).trans le224).trans le228).trans le281)
             have f329 := f131.up (((((le189.trans le203).trans le220).trans le224).trans le228).trans le281)
             have ow330 := ow282.pick 2 rfl
             have ow331 := ow330.pick 2 rfl
             have ow332 := ow331.pick 2 rfl
             obtain ⟨x333, hx334, h335⟩ := bindS h326
             refine O.call (V := V280) rfl rfl (.inl rfl) rfl en37 (aC (L 0 rfl rfl) aN) (wk_rM_read V280 _ (⟨(⟨xs122, xs125⟩ : TModule), x128, xs129, w64 (x132 - 1), x133, xs136, xs139, x187, x141, x142⟩ : TrM) b1 z2 v123 v126 v130 v135 v138 f327 f328 f329 ow332 _ hx334) (fun _ _ _ _ => nd) (fun v336 V337 le338 hp339 => ?_)
             obtain ⟨v341, v343, v345, v347, v349, rfl, f342, f344, f346, ow340⟩ := hp339
             refine U.p rfl rfl (.inl rfl) (S.move rfl (L 0 rfl rfl)) ?_
             refine U.p rfl rfl (.inl rfl) (S.extract rfl (L 0 rfl rfl) rfl (nr rfl)) ?_
             refine U.p rfl rfl (.inl rfl) (S.extract rfl (L 1 rfl rfl) rfl (nr rfl)) ?_
             refine U.p rfl rfl (.inl rfl) (S.assign rfl (L 1 rfl rfl)) ?_
             refine U.p rfl rfl (.inl rfl) (S.assign rfl (L 1 rfl rfl)) ?_
             refine U.done (nr rfl) ?_
             refine WP.usreg rfl ?_
             refine U.p rfl rfl (.inl rfl) (S.move rfl (L 0 rfl rfl)) ?_
             refine U.done (nr rfl) ?_
             refine WP.cond _ (L 0 rfl rfl) rfl (fun c351 => ?_) (fun c351 => ?_)
             ·have h352 := ifT c351 h335
              refine WP.usreg rfl ?_
              refine U.p rfl rfl (.inl rfl) (S.move rfl (L 13 rfl rfl)) ?_
              refine U.p (v := .pointer (some ⟨b218, 1, none⟩)) rfl rfl (.inl rfl) (S.fieldAddr rfl (L 16 rfl rfl) Try.underlying44 rfl ti3 rfl rfl) ?_
              refine U.k rfl rfl (.inl rfl) (S.load rfl (L 0 rfl rfl) Try.underlying3 rfl ((ow340.own (k := 5) rfl).cell rfl)) nd ?_
              refine U.p rfl rfl (.inl rfl) (S.move rfl (L 5 rfl rfl)) ?_
              obtain ⟨x353, hx354, h355⟩ := bindS h352
              obtain ⟨b356, o357, n358, c359, hv360⟩ := ow340.ospt (k := 4) rfl hx354
              obtain ⟨_, hv361, _⟩ := ow340.osel (k := 4) rfl hv360 hx354
              refine U.p rfl rfl (.inl rfl) (S.index rfl ((L 3 rfl rfl).trans hv361) (L 1 rfl rfl) Try.underlying23 ti3 (ix_ge hx354) (ix_lt hx354)) ?_
              obtain ⟨cs362, hv363, hlt364, hr365, hc366⟩ := ow340.osel (k := 4) rfl hv360 hx354
              obtain rfl : cs362 = [.int .i64 x353] := hr365
              refine O.storeE (k := 4) (R := (RT.int .i64)) (j := 0) (y := x333.1) (cs := [.int .i64 x333.1]) ow340 rfl hv363 rfl rfl (.inl rfl) rfl (L 0 rfl rfl) (L 1 rfl rfl) ti3 hx354 (by simp [topV]) rfl rfl rfl (full rfl) (fun _ _ => nd) (fun V367 le368 ow369 => ?_)
              refine U.done (nr rfl) ?_
              refine WP.ureg rfl ?_
              refine U.p rfl rfl (.inl rfl) (S.move rfl (L 15 rfl rfl)) ?_
              refine U.p rfl rfl (.inl rfl) (S.move rfl (L 22 rfl rfl)) ?_
              refine U.p (v := .pointer (some ⟨b218, 4, none⟩)) rfl rfl (.inl rfl) (S.fieldAddr rfl (L 22 rfl rfl) Try.underlying44 rfl ti3 rfl rfl) ?_
              refine U.k rfl rfl (.inl rfl) (S.load rfl (L 0 rfl rfl) Try.underlying3 rfl ((ow369.own (k := 5) rfl).cell rfl)) nd ?_
              refine U.p rfl rfl (.inl rfl) (S.add rfl (L 2 rfl rfl) (L 0 rfl rfl)) ?_
              refine U.p rfl rfl (.inl rfl) (S.move rfl (L 12 rfl rfl)) ?_
              refine U.k rfl rfl (.inl rfl) (S.loadB rfl (L 26 rfl rfl) Try.underlying44 rfl ti44 (ow369.own (k := 5) rfl).get rfl) nd ?_
              have f370 := f342.up le368
              have f371 := f344.up le368
              have f372 := f346.up le368
              have f373 := f217.up (((((((((((((le66.trans le70).trans le74).trans le83).trans le97).trans le151).trans le189).trans le203).trans le220).trans le224).trans le228).trans le281).trans le338).trans le368)
              have ow374 := ow369.pick 2 rfl
              have ow375 := ow374.pick 2 rfl
              have ow376 := ow375.pick 2 rfl
              obtain ⟨x377, hx378, h379⟩ := bindS h355
              refine O.call (V := V367) rfl rfl (.inl rfl) rfl en24 (aC (L 6 rfl rfl) (aC K (aC (L 2 rfl rfl) (aC (L 1 rfl rfl) (aC (L 0 rfl rfl) aN))))) (wk_rM_do V367 _ x333.2.2 1 (w64 (x226 + x205.imm)) x333.1 x205 b1 z2 v341 v343 v345 v347 v349 v216 f370 f371 f372 f373 ow376 _ hx378) (fun _ _ _ _ => nd) (fun v380 V381 le382 hp383 => ?_)
              obtain ⟨v385, v387, v389, v391, v393, f386, f388, f390, ow384⟩ := hp383
              refine U.done (nr rfl) ?_
              refine blkN (blkN (sqN ?_))
              have ow395 := ow384.drop 5 rfl
              exact ⟨_, V381, rfl, ⟨x377.m.funcs, v385, x377.m.threads, v387, x377.me, x377.reads, v389, x377.fuel, x377.used, v391, x377.held, v393, x377.acts, x377.over, x377.ended, x377.most, xs143.set (Int.toNat x205.d) x333.1, x144, rfl, ((((((((le189.trans le203).trans le220).trans le224).trans le228).trans le281).trans le338).trans le368).trans le382), f386, f388, f390, ow395, h379⟩, (allCons (L 23 rfl rfl) (allCons (L 24 rfl rfl) (allCons (L 25 rfl rfl) (allCons (L 26 rfl rfl) (allCons (L 27 rfl rfl) allNil)))))⟩
             ·have h396 := ifF c351 h335
              refine WP.skip ?_
              refine blkN (blkN (sqN ?_))
              have ow397 := ow340.drop 5 rfl
              exact ⟨_, V337, rfl, ⟨x333.2.2.m.funcs, v341, x333.2.2.m.threads, v343, x333.2.2.me, x333.2.2.reads, v345, x333.2.2.fuel, x333.2.2.used, v347, x333.2.2.held, v349, x333.2.2.acts, x333.2.2.over, x333.2.2.ended, x333.2.2.most, xs143, x144, rfl, ((((((le189.trans le203).trans le220).trans le224).trans le228).trans le281).trans le338), f342, f344, f346, ow397, h396⟩, (allCons (L 10 rfl rfl) (allCons (L 11 rfl rfl) (allCons (L 12 rfl rfl) (allCons (L 13 rfl rfl) (allCons (L 14 rfl rfl) allNil)))))⟩
            ·have h398 := ifF c325 h324
             refine WP.usreg rfl ?_
             refine U.p rfl rfl (.inl rfl) (S.eqlI rfl (L 9 rfl rfl) K) ?_
             refine U.p rfl rfl (.inl rfl) (S.assign rfl (L 0 rfl rfl)) ?_
             refine U.done (nr rfl) ?_
             refine WP.cond _ (L 0 rfl rfl) rfl (fun c399 => ?_) (fun c399 => ?_)
             ·have h400 := ifT c399 h398
              refine WP.udreg rfl rfl rfl ?_
              refine U.p rfl rfl (.inl rfl) (S.move rfl (L 4 rfl rfl)) ?_
              refine U.p rfl rfl (.inl rfl) (S.move rfl (L 11 rfl rfl)) ?_
              refine U.p (v := .pointer (some ⟨b218, 4, none⟩)) rfl rfl (.inl rfl) (S.fieldAddr rfl (L 11 rfl rfl) Try.underlying44 rfl ti3 rfl rfl) ?_
              refine U.k rfl rfl (.inl rfl) (S.load rfl (L 0 rfl rfl) Try.underlying3 rfl ((ow282.own (k := 5) rfl).cell rfl)) (fun _ => (okH.nil (fun r h => by cases h; exact (ow282.own (k := 5) rfl).lt))) ?_
              refine U.p rfl rfl (.inl rfl) (S.add rfl (L 2 rfl rfl) (L 0 rfl rfl)) ?_
              refine U.p rfl rfl (.inl rfl) (S.move rfl (L 12 rfl rfl)) ?_
              refine U.p (v := .pointer (some ⟨b218, 3, none⟩)) rfl rfl (.inl rfl) (S.fieldAddr rfl (L 15 rfl rfl) Try.underlying44 rfl ti3 rfl rfl) ?_
              refine U.k rfl rfl (.inl rfl) (S.load rfl (L 0 rfl rfl) Try.underlying3 rfl ((ow282.own (k := 5) rfl).cell rfl)) (fun _ => (okH.cons trivial (okH.nil (fun r h => by cases h; exact (ow282.own (k := 5) rfl).lt)))) ?_
              obtain ⟨x401, hx402, h403⟩ := bindS h400
              obtain ⟨b404, o405, n406, c407, hv408⟩ := ow282.ospt (k := 4) rfl hx402
              obtain ⟨_, hv409, _⟩ := ow282.osel (k := 4) rfl hv408 hx402
              refine U.p rfl rfl (.inl rfl) (S.index rfl ((L 2 rfl rfl).trans hv409) (L 0 rfl rfl) Try.underlying23 ti3 (ix_ge hx402) (ix_lt hx402)) ?_
              obtain ⟨cs410, hv411, hlt412, hr413, hc414⟩ := ow282.osel (k := 4) rfl hv408 hx402
              obtain rfl : cs410 = [.int .i64 x401] := hr413
              refine U.k rfl rfl (.inl rfl) (S.load rfl (L 0 rfl rfl) Try.underlying3 rfl (hc414 0 _ rfl)) (fun _ => (okH.cons trivial (okH.cons trivial (okH.nil (fun r h => by cases h; exact hlt412))))) ?_
              refine U.k rfl rfl (.inl rfl) (S.loadB rfl (L 19 rfl rfl) Try.underlying44 rfl ti44 (ow282.own (k := 5) rfl).get rfl) (fun _ => (okH.cons trivial (okH.cons trivial (okH.cons trivial (okH.nil (fun r h => by cases h; exact (ow282.own (k := 5) rfl).lt)))))) ?_
              have f415 := f124.up (((((le189.trans le203).trans le220).trans le224).trans le228).trans le281)
              have f416 := f127.up (((((le189.trans le203).trans le220).trans le224).trans le228).trans le281)
              have f417 := f131.up (((((le189.trans le203).trans le220).trans le224).trans le228).trans le281)
              have f418 := f217.up (((((((((((le66.trans le70).trans le74).trans le83).trans le97).trans le151).trans le189).trans le203).trans le220).trans le224).trans le228).trans le281)
              have ow419 := ow282.pick 2 rfl
              have ow420 := ow419.pick 2 rfl
              have ow421 := ow420.pick 2 rfl
              obtain ⟨x422, hx423, h424⟩ := bindS h403
              refine O.call (V := V280) rfl rfl (.inl rfl) rfl en24 (aC (L 10 rfl rfl) (aC K (aC (L 6 rfl rfl) (aC (L 1 rfl rfl) (aC (L 0 rfl rfl) aN))))) (wk_rM_do V280 _ (⟨(⟨xs122, xs125⟩ : TModule), x128, xs129, w64 (x132 - 1), x133, xs136, xs139, x187, x141, x142⟩ : TrM) 2 (w64 (x226 + x205.imm)) x401 x205 b1 z2 v123 v126 v130 v135 v138 v216 f415 f416 f417 f418 ow421 _ hx423) (fun v425 V426 le427 hp428 => by obtain ⟨v430, v432, v434, v436, v438, f431, f433, f435, ow429⟩ := hp428; exact (fun _ => (okH.cons (Or.inl rfl) (okH.cons (Or.inl rfl) (okH.cons (Or.inl rfl) (okH.cons (Or.inl rfl) (okH.nil (fun r h => nomatch h)))))))) (fun v425 V426 le427 hp428 => ?_)
              obtain ⟨v430, v432, v434, v436, v438, f431, f433, f435, ow429⟩ := hp428
              refine U.done (nr rfl) ?_
              refine blkN (blkN (sqN ?_))
              have ow440 := ow429.drop 5 rfl
              exact ⟨_, V426, rfl, ⟨x422.m.funcs, v430, x422.m.threads, v432, x422.me, x422.reads, v434, x422.fuel, x422.used, v436, x422.held, v438, x422.acts, x422.over, x422.ended, x422.most, xs143, x144, rfl, ((((((le189.trans le203).trans le220).trans le224).trans le228).trans le281).trans le427), f431, f433, f435, ow440, h424⟩, (allCons (L 16 rfl rfl) (allCons (L 17 rfl rfl) (allCons (L 18 rfl rfl) (allCons (L 19 rfl rfl) (allCons (L 20 rfl rfl) allNil)))))⟩
             ·have h441 := ifF c399 h398
              refine WP.usreg rfl ?_
              refine U.p rfl rfl (.inl rfl) (S.eqlI rfl (L 11 rfl rfl) K) ?_
              refine U.p rfl rfl (.inl rfl) (S.assign rfl (L 0 rfl rfl)) ?_
              refine U.done (nr rfl) ?_
              refine WP.cond _ (L 0 rfl rfl) rfl (fun c442 => ?_) (fun c442 => ?_)
              ·have h443 := ifT c442 h441
               refine WP.ureg rfl ?_
               refine U.k rfl rfl (.inl rfl) (S.loadB rfl (L 8 rfl rfl) Try.underlying38 rfl ti38 (ow282.own (k := 3) rfl).get rfl) nd ?_
               refine U.p (v := .pointer (some ⟨b218, 4, none⟩)) rfl rfl (.inl rfl) (S.fieldAddr rfl (L 12 rfl rfl) Try.underlying44 rfl ti3 rfl rfl) ?_
               refine U.k rfl rfl (.inl rfl) (S.load rfl (L 0 rfl rfl) Try.underlying3 rfl ((ow282.own (k := 5) rfl).cell rfl)) nd ?_
               have f444 := f63.up (((((((((((le66.trans le70).trans le74).trans le83).trans le97).trans le151).trans le189).trans le203).trans le220).trans le224).trans le228).trans le281)
               obtain ⟨x445, hx446, h447⟩ := bindS h443
               refine O.call (V := V280) rfl rfl (.inl rfl) rfl en38 (aC (L 2 rfl rfl) (aC (L 0 rfl rfl) aN)) (wk_ref08_find V280 _ x51 x205.imm v62 f444 ow282 _ hx446) (fun _ _ _ _ => nd) (fun v448 V449 le450 hp451 => ?_)
               obtain ⟨rfl, ow452⟩ := hp451
               refine U.p rfl rfl (.inl rfl) (S.assign rfl (L 0 rfl rfl)) ?_
               refine U.done (nr rfl) ?_
               refine blkN (blkN (sqN ?_))
               have ow453 := ow452.drop 5 rfl
               have f454 := f124.up ((((((le189.trans le203).trans le220).trans le224).trans le228).trans le281).trans le450)
               have f455 := f127.up ((((((le189.trans le203).trans le220).trans le224).trans le228).trans le281).trans le450)
               have f456 := f131.up ((((((le189.trans le203).trans le220).trans le224).trans le228).trans le281).trans le450)
               exact ⟨_, V449, rfl, ⟨xs122, v123, xs125, v126, x128, xs129, v130, w64 (x132 - 1), x133, v135, xs136, v138, xs139, x187, x141, x142, xs143, x445, rfl, ((((((le189.trans le203).trans le220).trans le224).trans le228).trans le281).trans le450), f454, f455, f456, ow453, h447⟩, (allCons (L 11 rfl rfl) (allCons (L 12 rfl rfl) (allCons (L 13 rfl rfl) (allCons (L 14 rfl rfl) (allCons (L 0 rfl rfl) allNil)))))⟩
              ·have h457 := ifF c442 h441
               refine WP.usreg rfl ?_
               refine U.p rfl rfl (.inl rfl) (S.eqlI rfl (L 13 rfl rfl) K) ?_
               refine U.p rfl rfl (.inl rfl) (S.assign rfl (L 0 rfl rfl)) ?_
               refine U.done (nr rfl) ?_
               refine WP.cond _ (L 0 rfl rfl) rfl (fun c458 => ?_) (fun c458 => ?_)
               ·have h459 := ifT c458 h457
                refine WP.usreg rfl ?_
                refine U.p rfl rfl (.inl rfl) (S.move rfl (L 14 rfl rfl)) ?_
                refine U.p rfl rfl (.inl rfl) (S.eqlI rfl (L 0 rfl rfl) K) ?_
                refine U.done (nr rfl) ?_
                refine WP.cond _ (L 0 rfl rfl) rfl (fun c460 => ?_) (fun c460 => ?_)
                ·have h461 := ifT c460 h459
                 refine WP.ureg rfl ?_
                 refine U.k rfl rfl (.inl rfl) (S.loadB rfl (L 12 rfl rfl) Try.underlying38 rfl ti38 (ow282.own (k := 3) rfl).get rfl) nd ?_
                 refine U.p (v := .pointer (some ⟨b218, 4, none⟩)) rfl rfl (.inl rfl) (S.fieldAddr rfl (L 16 rfl rfl) Try.underlying44 rfl ti3 rfl rfl) ?_
                 refine U.k rfl rfl (.inl rfl) (S.load rfl (L 0 rfl rfl) Try.underlying3 rfl ((ow282.own (k := 5) rfl).cell rfl)) nd ?_
                 have f462 := f63.up (((((((((((le66.trans le70).trans le74).trans le83).trans le97).trans le151).trans le189).trans le203).trans le220).trans le224).trans le228).trans le281)
                 obtain ⟨x463, hx464, h465⟩ := bindS h461
                 refine O.call (V := V280) rfl rfl (.inl rfl) rfl en38 (aC (L 2 rfl rfl) (aC (L 0 rfl rfl) aN)) (wk_ref08_find V280 _ x51 x205.imm v62 f462 ow282 _ hx464) (fun _ _ _ _ => nd) (fun v466 V467 le468 hp469 => ?_)
                 obtain ⟨rfl, ow470⟩ := hp469
                 refine U.p rfl rfl (.inl rfl) (S.assign rfl (L 0 rfl rfl)) ?_
                 refine U.done (nr rfl) ?_
                 refine blkN (blkN (sqN ?_))
                 have ow471 := ow470.drop 5 rfl
                 have f472 := f124.up ((((((le189.trans le203).trans le220).trans le224).trans le228).trans le281).trans le468)
                 have f473 := f127.up ((((((le189.trans le203).trans le220).trans le224).trans le228).trans le281).trans le468)
                 have f474 := f131.up ((((((le189.trans le203).trans le220).trans le224).trans le228).trans le281).trans le468)
                 exact ⟨_, V467, rfl, ⟨xs122, v123, xs125, v126, x128, xs129, v130, w64 (x132 - 1), x133, v135, xs136, v138, xs139, x187, x141, x142, xs143, x463, rfl, ((((((le189.trans le203).trans le220).trans le224).trans le228).trans le281).trans le468), f472, f473, f474, ow471, h465⟩, (allCons (L 15 rfl rfl) (allCons (L 16 rfl rfl) (allCons (L 17 rfl rfl) (allCons (L 18 rfl rfl) (allCons (L 0 rfl rfl) allNil)))))⟩
                ·have h475 := ifF c460 h459
                 refine WP.skip ?_
                 refine blkN (blkN (sqN ?_))
                 have ow476 := ow282.drop 5 rfl
                 have f477 := f124.up (((((le189.trans le203).trans le220).trans le224).trans le228).trans le281)
                 have f478 := f127.up (((((le189.trans le203).trans le220).trans le224).trans le228).trans le281)
                 have f479 := f131.up (((((le189.trans le203).trans le220).trans le224).trans le228).trans le281)
                 exact ⟨_, V280, rfl, ⟨xs122, v123, xs125, v126, x128, xs129, v130, w64 (x132 - 1), x133, v135, xs136, v138, xs139, x187, x141, x142, xs143, x144, rfl, (((((le189.trans le203).trans le220).trans le224).trans le228).trans le281), f477, f478, f479, ow476, h475⟩, (allCons (L 10 rfl rfl) (allCons (L 11 rfl rfl) (allCons (L 12 rfl rfl) (allCons (L 13 rfl rfl) (allCons (L 14 rfl rfl) allNil)))))⟩
               ·have h480 := ifF c458 h457
                refine WP.usreg rfl ?_
                refine U.p rfl rfl (.inl rfl) (S.eqlI rfl (L 15 rfl rfl) K) ?_
                refine U.p rfl rfl (.inl rfl) (S.assign rfl (L 0 rfl rfl)) ?_
                refine U.done (nr rfl) ?_
                refine WP.cond _ (L 0 rfl rfl) rfl (fun c481 => ?_) (fun c481 => ?_)
                ·have h482 := ifT c481 h480
                 refine WP.usreg rfl ?_
                 refine U.p rfl rfl (.inl rfl) (S.assign rfl K) ?_
                 refine U.done (nr rfl) ?_
                 refine WP.seq ?_
                 refine WP.usreg rfl ?_
                 refine U.p (v := .pointer (some ⟨b218, 5, none⟩)) rfl rfl (.inl rfl) (S.fieldAddr rfl (L 16 rfl rfl) Try.underlying44 rfl ti23 rfl rfl) ?_
                 refine U.k rfl rfl (.inl rfl) (S.load rfl (L 0 rfl rfl) Try.underlying23 rfl ((ow282.own (k := 5) rfl).cell rfl)) nd ?_
                 refine U.p rfl rfl (.inl rfl) (f217.1.len rfl (L 0 rfl rfl) Try.underlying23) ?_
                 refine U.p rfl rfl (.inl rfl) (S.move rfl K) ?_
                 refine U.done (nr rfl) ?_
                 refine WP.blk ?_
                 have ow487 := ow282.nil (RT.int .i64)
                 have ow489 := ow487.pick 0 rfl
                 have ow490 := ow489.pick 6 rfl
                 have ow491 := ow490.pick 6 rfl
                 have ow492 := ow491.pick 6 rfl
                 have ow493 := ow492.pick 6 rfl
                 have ow494 := ow493.pick 6 rfl
                 have ow495 := ow494.pick 6 rfl
                 unfold rM_Call_l3 at h482
                 obtain ⟨n497, hn496⟩ := loopO_some.1 h482
                 refine WP.loopI2 (fun n l V' => ∃ (v484 : Value) (xs485 : List Int) (x486 : Int), l = [(0, .pointer (some ⟨b1, 0, none⟩)), (3, .int .i64 p3), (9, .pointer (some ⟨b64, 0, none⟩)), (10, v87), (11, .int .i64 x144), (12, .pointer (some ⟨b218, 0, none⟩)), (16, v484), (183, v216), (184, .int .i64 (x205.args.length : Int)), (185, .int .i64 x486)] ∧ V280.le V' ∧ Ow V' (.pt b1 (.cells z2 [v123, v126, .int .i64 x128, v130, .int .i64 (w64 (x132 - 1)), .int .i64 x133, v135, v138, .bool x187, .bool x141, .int .i64 x142]) :: .om (RT.int .i64) false v135 xs136 :: .os RT_TAct v138 xs139 :: .pt b64 (.cells 4 [.string x51.name, .int .i64 x51.params, .int .i64 x51.regs, v62]) :: .os (RT.int .i64) v87 xs143 :: .pt b218 (.cells 9 [.int .i64 x205.op, .int .i64 x205.d, .int .i64 x205.a, .int .i64 x205.b, .int .i64 x205.imm, v216, .int .i64 x205.what, .bool x205.volatile, .bool x205.final]) :: .os (RT.int .i64) v484 xs485 :: Rs) ∧ itO (fun s => rM_Call_l3b rec_ p3 xs122 xs125 x128 xs129 x132 x133 xs136 xs139 x141 x142 xs143 x144 x187 x205 s.1 s.2) n (xs485, x486) = some q154) n497 _ ⟨(.slice none 0 0), [], 0, rfl, .refl _, ow495, hn496⟩ (allCons (L 15 rfl rfl) (allCons (L 16 rfl rfl) (allCons (L 17 rfl rfl) (allCons (L 18 rfl rfl) (allCons (L 19 rfl rfl) (allCons (L 20 rfl rfl) (allCons (L 4 rfl rfl) (allCons (L 2 rfl rfl) (allCons (L 1 rfl rfl) (allCons (L 0 rfl rfl) allNil)))))))))) ?_
                 rintro _ _ V498 ⟨v484, xs485, x486, rfl, le499, ow500, h504⟩
                 obtain ⟨m501, q502, rfl, h505, e503⟩ := itS h504
                 replace h505 : rM_Call_l3b rec_ p3 xs122 xs125 x128 xs129 x132 x133 xs136 xs139 x141 x142 xs143 x144 x187 x205 xs485 x486 = some q502 := h505
                 unfold rM_Call_l3b at h505
                 refine WP.usreg rfl ?_
                 refine U.p rfl rfl (.inl rfl) (S.lss rfl (L 9 rfl rfl) (L 8 rfl rfl)) ?_
                 refine U.done (nr rfl) ?_
                 refine WP.seq ?_
                 refine WP.cond _ (L 0 rfl rfl) rfl (fun c506 => ?_) (fun c506 => ?_)
                 ·have h507 := ifT c506 h505
                  refine WP.skip ?_
                  refine sqN ?_
                  refine WP.seq ?_
                  refine WP.blk ?_
                  refine WP.usreg rfl ?_
                  obtain ⟨x508, hx509, h510⟩ := bindS h507
                  obtain ⟨b511, o512, c513, cs514, hv515, hf516, hr517, hc518⟩ := f217.at hx509
                  obtain rfl : cs514 = [.int .i64 x508] := hr517
                  refine U.p rfl rfl (.inl rfl) (S.index rfl ((L 8 rfl rfl).trans hv515) (L 10 rfl rfl) Try.underlying23 ti3 (ix_ge hx509) (ix_lt hx509)) ?_
                  refine U.k rfl rfl (.inl rfl) (S.load rfl (L 0 rfl rfl) Try.underlying3 rfl (((((((((((((le66.trans le70).trans le74).trans le83).trans le97).trans le151).trans le189).trans le203).trans le220).trans le224).trans le228).trans le281).trans le499).cell hf516 (hc518 0 _ rfl))) nd ?_
                  refine U.p rfl rfl (.inl rfl) (S.assign rfl (L 0 rfl rfl)) ?_
                  refine U.done (nr rfl) ?_
                  refine WP.ureg rfl ?_
                  refine U.p rfl rfl (.inl rfl) (S.move rfl (L 10 rfl rfl)) ?_
                  refine U.p rfl rfl (.inl rfl) (S.move rfl (L 8 rfl rfl)) ?_
                  refine U.p rfl rfl (.inl rfl) (S.move rfl (L 2 rfl rfl)) ?_
                  obtain ⟨x519, hx520, h521⟩ := bindS h510
                  obtain ⟨b522, o523, n524, c525, hv526⟩ := ow500.ospt (k := 4) rfl hx520
                  obtain ⟨_, hv527, _⟩ := ow500.osel (k := 4) rfl hv526 hx520
                  refine U.p rfl rfl (.inl rfl) (S.index rfl ((L 1 rfl rfl).trans hv527) (L 0 rfl rfl) Try.underlying23 ti3 (ix_ge hx520) (ix_lt hx520)) ?_
                  obtain ⟨cs528, hv529, hlt530, hr531, hc532⟩ := ow500.osel (k := 4) rfl hv526 hx520
                  obtain rfl : cs528 = [.int .i64 x519] := hr531
                  refine U.k rfl rfl (.inl rfl) (S.load rfl (L 0 rfl rfl) Try.underlying3 rfl (hc532 0 _ rfl)) nd ?_
                  refine O.lit (R := (RT.int .i64)) ow500 rfl rfl (.inl rfl) rfl Try.underlying23 ti3 rfl rfl rfl (nr rfl) rfl (aC (L 0 rfl rfl) aN) (.cons _ _ x519 _ (by simp [topV]) rfl .nil) (fun _ => nd) (fun v533 V534 le535 ow536 => ?_)
                  obtain ⟨xs538, hx539, h540⟩ := bindS h521
                  refine O.append (k := 7) ow536 rfl rfl rfl (.inl rfl) rfl (L 5 rfl rfl) (L 0 rfl rfl) Try.underlying23 ti3 rfl rfl (nr rfl) (ow536.src (k := 0) rfl Try.underlying23) hx539 (fun _ _ => nd) (fun v541 V542 le543 ow544 => ?_)
                  refine U.p rfl rfl (.inl rfl) (S.assign rfl (L 0 rfl rfl)) ?_
                  refine U.done (nr rfl) ?_
                  refine blkN (sqN ?_)
                  refine WP.ureg rfl ?_
                  refine U.p rfl rfl (.inl rfl) (S.add rfl (L 21 rfl rfl) K) ?_
                  refine U.p rfl rfl (.inl rfl) (S.move rfl (L 0 rfl rfl)) ?_
                  refine U.done (nr rfl) ?_
                  refine sqN ?_
                  have ow546 := ow544.drop 0 rfl
                  exact ⟨_, V542, rfl, ⟨m501, Nat.lt_succ_self _, v541, xs538, w64 (x486 + 1), rfl, ((le499.trans le535).trans le543), ow546, backS h540 e503⟩, (allCons (L 14 rfl rfl) (allCons (L 15 rfl rfl) (allCons (L 16 rfl rfl) (allCons (L 17 rfl rfl) (allCons (L 18 rfl rfl) (allCons (L 19 rfl rfl) (allCons (L 2 rfl rfl) (allCons (L 21 rfl rfl) (allCons (L 22 rfl rfl) (allCons (L 0 rfl rfl) allNil))))))))))⟩
                 ·have h547 := ifF c506 h505
                  refine WP.exit ?_
                  refine sqE (sqE (blkE (sqN ?_)))
                  have h548 := exitS h547 e503
                  refine WP.usreg rfl ?_
                  refine U.p rfl rfl (.inl rfl) (S.move rfl (L 1 rfl rfl)) ?_
                  refine U.p (v := .pointer (some ⟨b218, 4, none⟩)) rfl rfl (.inl rfl) (S.fieldAddr rfl (L 7 rfl rfl) Try.underlying44 rfl ti3 rfl rfl) ?_
                  refine U.k rfl rfl (.inl rfl) (S.load rfl (L 0 rfl rfl) Try.underlying3 rfl ((ow500.own (k := 5) rfl).cell rfl)) nd ?_
                  refine U.p rfl rfl (.inl rfl) (S.move rfl (L 10 rfl rfl)) ?_
                  refine U.p rfl rfl (.inl rfl) (S.move rfl (L 6 rfl rfl)) ?_
                  refine U.p rfl rfl (.inl rfl) (S.add rfl (L 0 rfl rfl) K) ?_
                  obtain ⟨V549, eV553, le550, f551, ow552⟩ := ow500.osfz (k := 6) rfl
                  rw [← eV553]
                  have f555 := f124.up (((((((le189.trans le203).trans le220).trans le224).trans le228).trans le281).trans le499).trans le550)
                  have f556 := f127.up (((((((le189.trans le203).trans le220).trans le224).trans le228).trans le281).trans le499).trans le550)
                  have f557 := f131.up (((((((le189.trans le203).trans le220).trans le224).trans le228).trans le281).trans le499).trans le550)
                  have ow558 := ow552.pick 2 rfl
                  have ow559 := ow558.pick 2 rfl
                  have ow560 := ow559.pick 2 rfl
                  obtain ⟨x561, hx562, h563⟩ := bindS h548
                  refine O.call (V := V549) rfl rfl (.inl rfl) rfl en23 (aC (L 5 rfl rfl) (aC (L 3 rfl rfl) (aC (L 2 rfl rfl) (aC (L 0 rfl rfl) aN)))) (IH V549 _ (⟨(⟨xs122, xs125⟩ : TModule), x128, xs129, w64 (x132 - 1), x133, xs136, xs139, x187, x141, x142⟩ : TrM) x205.imm xs485 (w64 (p3 + 1)) b1 z2 v123 v126 v130 v135 v138 v484 f555 f556 f557 f551 ow560 _ hx562) (fun _ _ _ _ => nd) (fun v564 V565 le566 hp567 => ?_)
                  obtain ⟨v569, v571, v573, v575, v577, rfl, f570, f572, f574, ow568⟩ := hp567
                  refine U.p rfl rfl (.inl rfl) (S.assign rfl (L 0 rfl rfl)) ?_
                  refine U.done (nr rfl) ?_
                  refine WP.usreg rfl ?_
                  refine U.p (v := .pointer (some ⟨b218, 1, none⟩)) rfl rfl (.inl rfl) (S.fieldAddr rfl (L 14 rfl rfl) Try.underlying44 rfl ti3 rfl rfl) ?_
                  refine U.k rfl rfl (.inl rfl) (S.load rfl (L 0 rfl rfl) Try.underlying3 rfl ((ow568.own (k := 5) rfl).cell rfl)) nd ?_
                  refine U.p rfl rfl (.inl rfl) (S.geq rfl (L 0 rfl rfl) K) ?_
                  refine U.done (nr rfl) ?_
                  refine WP.cond _ (L 0 rfl rfl) rfl (fun c579 => ?_) (fun c579 => ?_)
                  ·have h580 := ifT c579 h563
                   refine WP.ureg rfl ?_
                   refine U.p rfl rfl (.inl rfl) (S.move rfl (L 15 rfl rfl)) ?_
                   refine U.p (v := .pointer (some ⟨b218, 1, none⟩)) rfl rfl (.inl rfl) (S.fieldAddr rfl (L 18 rfl rfl) Try.underlying44 rfl ti3 rfl rfl) ?_
                   refine U.k rfl rfl (.inl rfl) (S.load rfl (L 0 rfl rfl) Try.underlying3 rfl ((ow568.own (k := 5) rfl).cell rfl)) nd ?_
                   refine U.p rfl rfl (.inl rfl) (S.move rfl (L 6 rfl rfl)) ?_
                   obtain ⟨x581, hx582, h583⟩ := bindS h580
                   obtain ⟨b584, o585, n586, c587, hv588⟩ := ow568.ospt (k := 4) rfl hx582
                   obtain ⟨_, hv589, _⟩ := ow568.osel (k := 4) rfl hv588 hx582
                   refine U.p rfl rfl (.inl rfl) (S.index rfl ((L 3 rfl rfl).trans hv589) (L 1 rfl rfl) Try.underlying23 ti3 (ix_ge hx582) (ix_lt hx582)) ?_
                   obtain ⟨cs590, hv591, hlt592, hr593, hc594⟩ := ow568.osel (k := 4) rfl hv588 hx582
                   obtain rfl : cs590 = [.int .i64 x581] := hr593
                   refine O.storeE (k := 4) (R := (RT.int .i64)) (j := 0) (y := x561.1) (cs := [.int .i64 x561.1]) ow568 rfl hv591 rfl rfl (.inl rfl) rfl (L 0 rfl rfl) (L 1 rfl rfl) ti3 hx582 (by simp [topV]) rfl rfl rfl (full rfl) (fun _ _ => nd) (fun V595 le596 ow597 => ?_)
                   refine U.done (nr rfl) ?_
                   refine blkN (blkN (sqN ?_))
                   have ow598 := ow597.drop 5 rfl
                   have f599 := f570.up le596
                   have f600 := f572.up le596
                   have f601 := f574.up le596
                   exact ⟨_, V595, rfl, ⟨x561.2.m.funcs, v569, x561.2.m.threads, v571, x561.2.me, x561.2.reads, v573, x561.2.fuel, x561.2.used, v575, x561.2.held, v577, x561.2.acts, x561.2.over, x561.2.ended, x561.2.most, xs143.set (Int.toNat x205.d) x561.1, x144, rfl, (((((((((le189.trans le203).trans le220).trans le224).trans le228).trans le281).trans le499).trans le550).trans le566).trans le596), f599, f600, f601, ow598, h583⟩, (allCons (L 17 rfl rfl) (allCons (L 18 rfl rfl) (allCons (L 19 rfl rfl) (allCons (L 20 rfl rfl) (allCons (L 21 rfl rfl) allNil)))))⟩
                  ·have h602 := ifF c579 h563
                   refine WP.skip ?_
                   refine blkN (blkN (sqN ?_))
                   have ow603 := ow568.drop 5 rfl
                   exact ⟨_, V565, rfl, ⟨x561.2.m.funcs, v569, x561.2.m.threads, v571, x561.2.me, x561.2.reads, v573, x561.2.fuel, x561.2.used, v575, x561.2.held, v577, x561.2.acts, x561.2.over, x561.2.ended, x561.2.most, xs143, x144, rfl, ((((((((le189.trans le203).trans le220).trans le224).trans le228).trans le281).trans le499).trans le550).trans le566), f570, f572, f574, ow603, h602⟩, (allCons (L 12 rfl rfl) (allCons (L 13 rfl rfl) (allCons (L 14 rfl rfl) (allCons (L 15 rfl rfl) (allCons (L 16 rfl rfl) allNil)))))⟩
                ·have h604 := ifF c481 h480
                 refine WP.usreg rfl ?_
                 refine U.p rfl rfl (.inl rfl) (S.eqlI rfl (L 17 rfl rfl) K) ?_
                 refine U.p rfl rfl (.inl rfl) (S.assign rfl (L 0 rfl rfl)) ?_
                 refine U.done (nr rfl) ?_
                 refine WP.cond _ (L 0 rfl rfl) rfl (fun c605 => ?_) (fun c605 => ?_)
                 ·have h606 := ifT c605 h604
                  refine WP.usreg rfl ?_
                  refine U.p rfl rfl (.inl rfl) (S.move rfl (L 18 rfl rfl)) ?_
                  refine U.p rfl rfl (.inl rfl) (S.assign rfl (L 0 rfl rfl)) ?_
                  refine U.done (nr rfl) ?_
                  refine WP.ret ?_
                  refine blkR (blkR (sqR (sqR (blkR (sqR ?_)))))
                  have h607 := exitS h606 e155
                  have f608 := f124.up (((((le189.trans le203).trans le220).trans le224).trans le228).trans le281)
                  have f609 := f127.up (((((le189.trans le203).trans le220).trans le224).trans le228).trans le281)
                  have f610 := f131.up (((((le189.trans le203).trans le220).trans le224).trans le228).trans le281)
                  refine fin.slot (.inr rfl) rfl (L 0 rfl rfl) ⟨V280, rfl, (((((((((((le66.trans le70).trans le74).trans le83).trans le97).trans le151).trans le189).trans le203).trans le220).trans le224).trans le228).trans le281), ?_⟩
                  have ow611 := ow282.drop 3 rfl
                  have ow612 := ow611.drop 3 rfl
                  have ow613 := ow612.drop 3 rfl
                  have e614 := Option.some.inj h607
                  subst e614
                  exact ⟨v123, v126, v130, v135, v138, rfl, f608, f609, f610, ow613⟩
                 ·have h615 := ifF c605 h604
                  refine WP.usreg rfl ?_
                  refine U.p rfl rfl (.inl rfl) (S.eqlI rfl (L 19 rfl rfl) K) ?_
                  refine U.p rfl rfl (.inl rfl) (S.assign rfl (L 0 rfl rfl)) ?_
                  refine U.done (nr rfl) ?_
                  refine WP.cond _ (L 0 rfl rfl) rfl (fun c616 => ?_) (fun c616 => ?_)
                  ·have h617 := ifT c616 h615
                   refine WP.ureg rfl ?_
                   refine U.p rfl rfl (.inl rfl) (S.move rfl (L 14 rfl rfl)) ?_
                   refine U.p (v := .pointer (some ⟨b218, 4, none⟩)) rfl rfl (.inl rfl) (S.fieldAddr rfl (L 20 rfl rfl) Try.underlying44 rfl ti3 rfl rfl) ?_
                   refine U.k rfl rfl (.inl rfl) (S.load rfl (L 0 rfl rfl) Try.underlying3 rfl ((ow282.own (k := 5) rfl).cell rfl)) nd ?_
                   have f618 := f124.up (((((le189.trans le203).trans le220).trans le224).trans le228).trans le281)
                   have f619 := f127.up (((((le189.trans le203).trans le220).trans le224).trans le228).trans le281)
                   have f620 := f131.up (((((le189.trans le203).trans le220).trans le224).trans le228).trans le281)
                   have ow621 := ow282.pick 2 rfl
                   have ow622 := ow621.pick 2 rfl
                   have ow623 := ow622.pick 2 rfl
                   obtain ⟨x624, hx625, h626⟩ := bindS h617
                   refine O.call (V := V280) rfl rfl (.inl rfl) rfl en35 (aC (L 2 rfl rfl) (aC (L 0 rfl rfl) aN)) (wk_rM_trap V280 _ (⟨(⟨xs122, xs125⟩ : TModule), x128, xs129, w64 (x132 - 1), x133, xs136, xs139, x187, x141, x142⟩ : TrM) x205.imm b1 z2 v123 v126 v130 v135 v138 f618 f619 f620 ow623 _ hx625) (fun _ _ _ _ => nd) (fun v627 V628 le629 hp630 => ?_)
                   obtain ⟨v632, v634, v636, v638, v640, f633, f635, f637, ow631⟩ := hp630
                   refine U.done (nr rfl) ?_
                   refine blkN (blkN (sqN ?_))
                   have ow642 := ow631.drop 5 rfl
                   exact ⟨_, V628, rfl, ⟨x624.m.funcs, v632, x624.m.threads, v634, x624.me, x624.reads, v636, x624.fuel, x624.used, v638, x624.held, v640, x624.acts, x624.over, x624.ended, x624.most, xs143, x144, rfl, ((((((le189.trans le203).trans le220).trans le224).trans le228).trans le281).trans le629), f633, f635, f637, ow642, h626⟩, (allCons (L 18 rfl rfl) (allCons (L 19 rfl rfl) (allCons (L 20 rfl rfl) (allCons (L 21 rfl rfl) (allCons (L 22 rfl rfl) allNil)))))⟩
                  ·have h643 := ifF c616 h615
                   refine WP.usreg rfl ?_
                   refine U.p rfl rfl (.inl rfl) (S.eqlI rfl (L 21 rfl rfl) K) ?_
                   refine U.p rfl rfl (.inl rfl) (S.assign rfl (L 0 rfl rfl)) ?_
                   refine U.done (nr rfl) ?_
                   refine WP.cond _ (L 0 rfl rfl) rfl (fun c644 => ?_) (fun c644 => ?_)
                   ·have h645 := ifT c644 h643
                    refine WP.usreg rfl ?_
                    refine U.p rfl rfl (.inl rfl) (S.move rfl (L 22 rfl rfl)) ?_
                    refine U.p rfl rfl (.inl rfl) (S.lss rfl (L 0 rfl rfl) K) ?_
                    refine U.p rfl rfl (.inl rfl) (S.move rfl (L 0 rfl rfl)) ?_
                    refine U.joinX 6 (fun e H => ∃ (u646 u647 : Value), H = V280.H ∧ e = [(228, .bool ((decide (x226 < 0)) || (decide (512 < x226)))), (227, u646), (226, u647)]) ?_ ?_
                    ·rintro _ _ ⟨u646, u647, rfl, rfl⟩
                     refine U.p rfl rfl (.inl rfl) (S.move rfl (L 0 rfl rfl)) ?_
                     refine U.joinX 15 (fun e H => ∃ (u651 u652 u653 u654 u655 u656 u657 : Value), H = V280.H ∧ e = [(237, .bool (((decide (x226 < 0)) || (decide (512 < x226))) || (decide (512 < (w64 (x133 + x226)))))), (236, u651), (235, u652), (234, u653), (233, u654), (232, u655), (231, u656), (230, u657)]) ?_ ?_
                     ·rintro _ _ ⟨u651, u652, u653, u654, u655, u656, u657, rfl, rfl⟩
                      refine U.done (nr rfl) ?_
                      refine WP.cond _ (L 0 rfl rfl) rfl (fun c661 => ?_) (fun c661 => ?_)
                      ·have h662 := ifT c661 h645
                       refine WP.usreg rfl ?_
                       refine U.p rfl rfl (.inl rfl) (S.move rfl (L 34 rfl rfl)) ?_
                       refine U.p (v := .pointer (some ⟨b218, 1, none⟩)) rfl rfl (.inl rfl) (S.fieldAddr rfl (L 37 rfl rfl) Try.underlying44 rfl ti3 rfl rfl) ?_
                       refine U.k rfl rfl (.inl rfl) (S.load rfl (L 0 rfl rfl) Try.underlying3 rfl ((ow282.own (k := 5) rfl).cell rfl)) nd ?_
                       obtain ⟨x663, hx664, h665⟩ := bindS h662
                       obtain ⟨b666, o667, n668, c669, hv670⟩ := ow282.ospt (k := 4) rfl hx664
                       obtain ⟨_, hv671, _⟩ := ow282.osel (k := 4) rfl hv670 hx664
                       refine U.p rfl rfl (.inl rfl) (S.index rfl ((L 2 rfl rfl).trans hv671) (L 0 rfl rfl) Try.underlying23 ti3 (ix_ge hx664) (ix_lt hx664)) ?_
                       obtain ⟨cs672, hv673, hlt674, hr675, hc676⟩ := ow282.osel (k := 4) rfl hv670 hx664
                       obtain rfl : cs672 = [.int .i64 x663] := hr675
                       refine O.storeE (k := 4) (R := (RT.int .i64)) (j := 0) (y := 0) (cs := [.int .i64 0]) ow282 rfl hv673 rfl rfl (.inl rfl) rfl (L 0 rfl rfl) K ti3 hx664 (by simp [topV]) rfl rfl rfl (full rfl) (fun _ _ => nd) (fun V677 le678 ow679 => ?_)
                       refine U.done (nr rfl) ?_
                       refine WP.ureg rfl ?_
                       refine U.k rfl rfl (.inl rfl) (S.loadB rfl (L 37 rfl rfl) Try.underlying38 rfl ti38 (ow679.own (k := 3) rfl).get rfl) nd ?_
                       refine U.p (v := .pointer (some ⟨b218, 4, none⟩)) rfl rfl (.inl rfl) (S.fieldAddr rfl (L 41 rfl rfl) Try.underlying44 rfl ti3 rfl rfl) ?_
                       refine U.k rfl rfl (.inl rfl) (S.load rfl (L 0 rfl rfl) Try.underlying3 rfl ((ow679.own (k := 5) rfl).cell rfl)) nd ?_
                       have f680 := f63.up ((((((((((((le66.trans le70).trans le74).trans le83).trans le97).trans le151).trans le189).trans le203).trans le220).trans le224).trans le228).trans le281).trans le678)
                       obtain ⟨x681, hx682, h683⟩ := bindS h665
                       refine O.call (V := V677) rfl rfl (.inl rfl) rfl en38 (aC (L 2 rfl rfl) (aC (L 0 rfl rfl) aN)) (wk_ref08_find V677 _ x51 x205.imm v62 f680 ow679 _ hx682) (fun _ _ _ _ => nd) (fun v684 V685 le686 hp687 => ?_)
                       obtain ⟨rfl, ow688⟩ := hp687
                       refine U.p rfl rfl (.inl rfl) (S.assign rfl (L 0 rfl rfl)) ?_
                       refine U.done (nr rfl) ?_
                       refine blkN (blkN (sqN ?_))
                       have ow689 := ow688.drop 5 rfl
                       have f690 := f124.up (((((((le189.trans le203).trans le220).trans le224).trans le228).trans le281).trans le678).trans le686)
                       have f691 := f127.up (((((((le189.trans le203).trans le220).trans le224).trans le228).trans le281).trans le678).trans le686)
                       have f692 := f131.up (((((((le189.trans le203).trans le220).trans le224).trans le228).trans le281).trans le678).trans le686)
                       exact ⟨_, V685, rfl, ⟨xs122, v123, xs125, v126, x128, xs129, v130, w64 (x132 - 1), x133, v135, xs136, v138, xs139, x187, x141, x142, xs143.set (Int.toNat x205.d) 0, x681, rfl, (((((((le189.trans le203).trans le220).trans le224).trans le228).trans le281).trans le678).trans le686), f690, f691, f692, ow689, h683⟩, (allCons (L 40 rfl rfl) (allCons (L 41 rfl rfl) (allCons (L 42 rfl rfl) (allCons (L 43 rfl rfl) (allCons (L 0 rfl rfl) allNil)))))⟩
                      ·have h693 := ifF c661 h645
                       refine WP.usdreg rfl rfl rfl ?_
                       refine U.p rfl rfl (.inl rfl) (S.move rfl (L 34 rfl rfl)) ?_
                       refine U.p (v := .pointer (some ⟨b218, 1, none⟩)) rfl rfl (.inl rfl) (S.fieldAddr rfl (L 37 rfl rfl) Try.underlying44 rfl ti3 rfl rfl) ?_
                       refine U.k rfl rfl (.inl rfl) (S.load rfl (L 0 rfl rfl) Try.underlying3 rfl ((ow282.own (k := 5) rfl).cell rfl)) (fun _ => (okH.nil (fun r h => by cases h; exact (ow282.own (k := 5) rfl).lt))) ?_
                       refine U.p rfl rfl (.inl rfl) (S.move rfl (L 34 rfl rfl)) ?_
                       refine U.p rfl rfl (.inl rfl) (S.nilCheck rfl (L 0 rfl rfl)) ?_
                       refine U.p (v := .pointer (some ⟨b1, 2, none⟩)) rfl rfl (.inl rfl) (S.fieldAddr rfl (L 0 rfl rfl) Try.underlying58 rfl ti3 rfl rfl) ?_
                       refine U.k rfl rfl (.inl rfl) (S.load rfl (L 0 rfl rfl) Try.underlying3 rfl ((ow282.own (k := 0) rfl).cell rfl)) (fun _ => (okH.cons trivial (okH.nil (fun r h => by cases h; exact (ow282.own (k := 0) rfl).lt)))) ?_
                       refine U.p rfl rfl (.inl rfl) (S.add rfl (L 0 rfl rfl) K) ?_
                       refine U.p rfl rfl (.inl rfl) (S.mul rfl K (L 0 rfl rfl)) ?_
                       refine U.p rfl rfl (.inl rfl) (S.move rfl (L 40 rfl rfl)) ?_
                       refine U.p rfl rfl (.inl rfl) (S.nilCheck rfl (L 0 rfl rfl)) ?_
                       refine U.p (v := .pointer (some ⟨b1, 5, none⟩)) rfl rfl (.inl rfl) (S.fieldAddr rfl (L 0 rfl rfl) Try.underlying58 rfl ti3 rfl rfl) ?_
                       refine U.k rfl rfl (.inl rfl) (S.load rfl (L 0 rfl rfl) Try.underlying3 rfl ((ow282.own (k := 0) rfl).cell rfl)) (fun _ => (okH.cons trivial (okH.cons trivial (okH.nil (fun r h => by cases h; exact (ow282.own (k := 0) rfl).lt))))) ?_
                       refine U.p rfl rfl (.inl rfl) (S.mul rfl K (L 0 rfl rfl)) ?_
                       refine U.p rfl rfl (.inl rfl) (S.add rfl (L 5 rfl rfl) (L 0 rfl rfl)) ?_
                       obtain ⟨x694, hx695, h696⟩ := bindS h693
                       obtain ⟨b697, o698, n699, c700, hv701⟩ := ow282.ospt (k := 4) rfl hx695
                       obtain ⟨_, hv702, _⟩ := ow282.osel (k := 4) rfl hv701 hx695
                       refine U.p rfl rfl (.inl rfl) (S.index rfl ((L 14 rfl rfl).trans hv702) (L 12 rfl rfl) Try.underlying23 ti3 (ix_ge hx695) (ix_lt hx695)) ?_
                       obtain ⟨cs703, hv704, hlt705, hr706, hc707⟩ := ow282.osel (k := 4) rfl hv701 hx695
                       obtain rfl : cs703 = [.int .i64 x694] := hr706
                       refine O.storeE (k := 4) (R := (RT.int .i64)) (j := 0) (y := w64 ((w64 (1048576 * (w64 (x128 + 1)))) + (w64 (8 * x133)))) (cs := [.int .i64 (w64 ((w64 (1048576 * (w64 (x128 + 1)))) + (w64 (8 * x133))))]) ow282 rfl hv704 rfl rfl (.inl rfl) rfl (L 0 rfl rfl) (L 1 rfl rfl) ti3 hx695 (by simp [topV]) rfl rfl rfl (full rfl) (fun H1 hs => (fun _ => (okH.cons (Or.inl rfl) (okH.cons (Or.inl rfl) (okH.cons (Or.inl rfl) (okH.nil (fun r h => nomatch h))))))) (fun V708 le709 ow710 => ?_)
                       refine U.done (nr rfl) ?_
                       refine WP.ureg rfl ?_
                       refine U.p rfl rfl (.inl rfl) (S.move rfl (L 47 rfl rfl)) ?_
                       refine U.p rfl rfl (.inl rfl) (S.move rfl (L 48 rfl rfl)) ?_
                       refine U.p rfl rfl (.inl rfl) (S.nilCheck rfl (L 0 rfl rfl)) ?_
                       refine U.p (v := .pointer (some ⟨b1, 5, none⟩)) rfl rfl (.inl rfl) (S.fieldAddr rfl (L 0 rfl rfl) Try.underlying58 rfl ti3 rfl rfl) ?_
                       refine U.k rfl rfl (.inl rfl) (S.load rfl (L 0 rfl rfl) Try.underlying3 rfl ((ow710.own (k := 0) rfl).cell rfl)) nd ?_
                       refine U.p rfl rfl (.inl rfl) (S.move rfl (L 58 rfl rfl)) ?_
                       refine U.p rfl rfl (.inl rfl) (S.add rfl (L 1 rfl rfl) (L 0 rfl rfl)) ?_
                       refine U.p rfl rfl (.inl rfl) (S.nilCheck rfl (L 6 rfl rfl)) ?_
                       refine U.p (v := .pointer (some ⟨b1, 5, none⟩)) rfl rfl (.inl rfl) (S.fieldAddr rfl (L 0 rfl rfl) Try.underlying58 rfl ti3 rfl rfl) ?_
                       refine O.store (k := 0) (cs := [.int .i64 (w64 (x133 + x226))]) (c' := [v123, v126, .int .i64 x128, v130, .int .i64 (w64 (x132 - 1)), .int .i64 (w64 (x133 + x226)), v135, v138, .bool x187, .bool x141, .int .i64 x142]) ow710 rfl rfl rfl (.inl rfl) rfl (L 0 rfl rfl) (L 2 rfl rfl) ti3 (by simp [topV]) rfl rfl (nr rfl) rfl rfl nd (fun V711 le712 ow713 => ?_)
                       refine U.done (nr rfl) ?_
                       refine blkN (blkN (sqN ?_))
                       have ow714 := ow713.drop 5 rfl
                       have f715 := f124.up (((((((le189.trans le203).trans le220).trans le224).trans le228).trans le281).trans le709).trans le712)
                       have f716 := f127.up (((((((le189.trans le203).trans le220).trans le224).trans le228).trans le281).trans le709).trans le712)
                       have f717 := f131.up (((((((le189.trans le203).trans le220).trans le224).trans le228).trans le281).trans le709).trans le712)
                       exact ⟨_, V711, rfl, ⟨xs122, v123, xs125, v126, x128, xs129, v130, w64 (x132 - 1), w64 (x133 + x226), v135, xs136, v138, xs139, x187, x141, x142, xs143.set (Int.toNat x205.d) (w64 ((w64 (1048576 * (w64 (x128 + 1)))) + (w64 (8 * x133)))), x144, rfl, (((((((le189.trans le203).trans le220).trans le224).trans le228).trans le281).trans le709).trans le712), f715, f716, f717, ow714, h696⟩, (allCons (L 56 rfl rfl) (allCons (L 57 rfl rfl) (allCons (L 58 rfl rfl) (allCons (L 59 rfl rfl) (allCons (L 60 rfl rfl) allNil)))))⟩
                     ·intro kk
                      refine bcase (b := (decide (x226 < 0)) || (decide (512 < x226))) (fun g718 => ?_) (fun g718 => ?_)
                      ·skip
                       refine U.x rfl rfl rfl rfl ((L 0 rfl rfl).trans (cB g718)) (by decide) ?_
                       refine U.x rfl rfl rfl rfl ((L 1 rfl rfl).trans (cB g718)) (by decide) ?_
                       refine U.x rfl rfl rfl rfl ((L 2 rfl rfl).trans (cB g718)) (by decide) ?_
                       refine U.x rfl rfl rfl rfl ((L 3 rfl rfl).trans (cB g718)) (by decide) ?_
                       refine U.x rfl rfl rfl rfl ((L 4 rfl rfl).trans (cB g718)) (by decide) ?_
                       refine U.x rfl rfl rfl rfl ((L 5 rfl rfl).trans (cB g718)) (by decide) ?_
                       refine U.x rfl rfl rfl rfl ((L 6 rfl rfl).trans (cB g718)) (by decide) ?_
                       refine U.p rfl rfl (.inl rfl) (S.pickT rfl ((L 7 rfl rfl).trans (cB g718)) K) ?_
                       exact kk [(237, .bool true), (236, .tuple #[]), (235, .tuple #[]), (234, .tuple #[]), (233, .tuple #[]), (232, .tuple #[]), (231, .tuple #[]), (230, .tuple #[])] _ ⟨.tuple #[], .tuple #[], .tuple #[], .tuple #[], .tuple #[], .tuple #[], .tuple #[], rfl, (by rw [g718, Bool.true_or])⟩
                      ·skip
                       refine U.p rfl rfl (.inr ⟨_, _, _, rfl, rfl, ((L 0 rfl rfl).trans (cB g718))⟩) (S.move rfl (L 23 rfl rfl)) ?_
                       refine U.p rfl rfl (.inr ⟨_, _, _, rfl, rfl, ((L 1 rfl rfl).trans (cB g718))⟩) (S.nilCheck rfl (L 0 rfl rfl)) ?_
                       refine U.p (v := .pointer (some ⟨b1, 5, none⟩)) rfl rfl (.inr ⟨_, _, _, rfl, rfl, ((L 2 rfl rfl).trans (cB g718))⟩) (S.fieldAddr rfl (L 0 rfl rfl) Try.underlying58 rfl ti3 rfl rfl) ?_
                       refine U.k rfl rfl (.inr ⟨_, _, _, rfl, rfl, ((L 3 rfl rfl).trans (cB g718))⟩) (S.load rfl (L 0 rfl rfl) Try.underlying3 rfl ((ow282.own (k := 0) rfl).cell rfl)) nd ?_
                       refine U.p rfl rfl (.inr ⟨_, _, _, rfl, rfl, ((L 4 rfl rfl).trans (cB g718))⟩) (S.move rfl (L 33 rfl rfl)) ?_
                       refine U.p rfl rfl (.inr ⟨_, _, _, rfl, rfl, ((L 5 rfl rfl).trans (cB g718))⟩) (S.add rfl (L 1 rfl rfl) (L 0 rfl rfl)) ?_
                       refine U.p rfl rfl (.inr ⟨_, _, _, rfl, rfl, ((L 6 rfl rfl).trans (cB g718))⟩) (S.gtr rfl (L 0 rfl rfl) K) ?_
                       refine U.p rfl rfl (.inl rfl) (S.pickF rfl ((L 7 rfl rfl).trans (cB g718)) (L 0 rfl rfl)) ?_
                       exact kk [(237, .bool (decide (512 < (w64 (x133 + x226))))), (236, .bool (decide (512 < (w64 (x133 + x226))))), (235, .int .i64 (w64 (x133 + x226))), (234, .int .i64 x226), (233, .int .i64 x133), (232, .pointer (some ⟨b1, 5, none⟩)), (231, .pointer (some ⟨b1, 0, none⟩)), (230, .pointer (some ⟨b1, 0, none⟩))] _ ⟨.bool (decide (512 < (w64 (x133 + x226)))), .int .i64 (w64 (x133 + x226)), .int .i64 x226, .int .i64 x133, .pointer (some ⟨b1, 5, none⟩), .pointer (some ⟨b1, 0, none⟩), .pointer (some ⟨b1, 0, none⟩), rfl, (by rw [g718, Bool.false_or])⟩
                    ·intro kk
                     refine bcase (b := decide (x226 < 0)) (fun g719 => ?_) (fun g719 => ?_)
                     ·skip
                      refine U.x rfl rfl rfl rfl ((L 0 rfl rfl).trans (cB g719)) (by decide) ?_
                      refine U.x rfl rfl rfl rfl ((L 1 rfl rfl).trans (cB g719)) (by decide) ?_
                      refine U.p rfl rfl (.inl rfl) (S.pickT rfl ((L 2 rfl rfl).trans (cB g719)) K) ?_
                      exact kk [(228, .bool true), (227, .tuple #[]), (226, .tuple #[])] _ ⟨.tuple #[], .tuple #[], rfl, (by rw [g719, Bool.true_or])⟩
                     ·skip
                      refine U.p rfl rfl (.inr ⟨_, _, _, rfl, rfl, ((L 0 rfl rfl).trans (cB g719))⟩) (S.move rfl (L 25 rfl rfl)) ?_
                      refine U.p rfl rfl (.inr ⟨_, _, _, rfl, rfl, ((L 1 rfl rfl).trans (cB g719))⟩) (S.gtr rfl (L 0 rfl rfl) K) ?_
                      refine U.p rfl rfl (.inl rfl) (S.pickF rfl ((L 2 rfl rfl).trans (cB g719)) (L 0 rfl rfl)) ?_
                      exact kk [(228, .bool (decide (512 < x226))), (227, .bool (decide (512 < x226))), (226, .int .i64 x226)] _ ⟨.bool (decide (512 < x226)), .int .i64 x226, rfl, (by rw [g719, Bool.false_or])⟩
                   ·have h720 := ifF c644 h643
                    refine WP.usreg rfl ?_
                    refine U.p rfl rfl (.inl rfl) (S.eqlI rfl (L 23 rfl rfl) K) ?_
                    refine U.p rfl rfl (.inl rfl) (S.assign rfl (L 0 rfl rfl)) ?_
                    refine U.done (nr rfl) ?_
                    refine WP.cond _ (L 0 rfl rfl) rfl (fun c721 => ?_) (fun c721 => ?_)
                    ·have h722 := ifT c721 h720
                     refine WP.ureg rfl ?_
                     refine U.p rfl rfl (.inl rfl) (S.move rfl (L 18 rfl rfl)) ?_
                     refine U.p rfl rfl (.inl rfl) (S.move rfl (L 25 rfl rfl)) ?_
                     have f723 := f124.up (((((le189.trans le203).trans le220).trans le224).trans le228).trans le281)
                     have f724 := f127.up (((((le189.trans le203).trans le220).trans le224).trans le228).trans le281)
                     have f725 := f131.up (((((le189.trans le203).trans le220).trans le224).trans le228).trans le281)
                     have ow726 := ow282.pick 2 rfl
                     have ow727 := ow726.pick 2 rfl
                     have ow728 := ow727.pick 2 rfl
                     obtain ⟨x729, hx730, h731⟩ := bindS h722
                     refine O.call (V := V280) rfl rfl (.inl rfl) rfl en39 (aC (L 1 rfl rfl) (aC (L 0 rfl rfl) aN)) (wk_rM_enter V280 _ (⟨(⟨xs122, xs125⟩ : TModule), x128, xs129, w64 (x132 - 1), x133, xs136, xs139, x187, x141, x142⟩ : TrM) x226 b1 z2 v123 v126 v130 v135 v138 f723 f724 f725 ow728 _ hx730) (fun _ _ _ _ => nd) (fun v732 V733 le734 hp735 => ?_)
                     obtain ⟨v737, v739, v741, v743, v745, f738, f740, f742, ow736⟩ := hp735
                     refine U.done (nr rfl) ?_
                     refine blkN (blkN (sqN ?_))
                     have ow747 := ow736.drop 5 rfl
                     exact ⟨_, V733, rfl, ⟨x729.m.funcs, v737, x729.m.threads, v739, x729.me, x729.reads, v741, x729.fuel, x729.used, v743, x729.held, v745, x729.acts, x729.over, x729.ended, x729.most, xs143, x144, rfl, ((((((le189.trans le203).trans le220).trans le224).trans le228).trans le281).trans le734), f738, f740, f742, ow747, h731⟩, (allCons (L 21 rfl rfl) (allCons (L 22 rfl rfl) (allCons (L 23 rfl rfl) (allCons (L 24 rfl rfl) (allCons (L 25 rfl rfl) allNil)))))⟩
                    ·have h748 := ifF c721 h720
                     refine WP.usreg rfl ?_
                     refine U.p rfl rfl (.inl rfl) (S.eqlI rfl (L 25 rfl rfl) K) ?_
                     refine U.p rfl rfl (.inl rfl) (S.assign rfl (L 0 rfl rfl)) ?_
                     refine U.done (nr rfl) ?_
                     refine WP.cond _ (L 0 rfl rfl) rfl (fun c749 => ?_) (fun c749 => ?_)
                     ·have h750 := ifT c749 h748
                      refine WP.ureg rfl ?_
                      refine U.p rfl rfl (.inl rfl) (S.move rfl (L 20 rfl rfl)) ?_
                      refine U.p rfl rfl (.inl rfl) (S.move rfl (L 27 rfl rfl)) ?_
                      have f751 := f124.up (((((le189.trans le203).trans le220).trans le224).trans le228).trans le281)
                      have f752 := f127.up (((((le189.trans le203).trans le220).trans le224).trans le228).trans le281)
                      have f753 := f131.up (((((le189.trans le203).trans le220).trans le224).trans le228).trans le281)
                      have ow754 := ow282.pick 2 rfl
                      have ow755 := ow754.pick 2 rfl
                      have ow756 := ow755.pick 2 rfl
                      obtain ⟨x757, hx758, h759⟩ := bindS h750
                      refine O.call (V := V280) rfl rfl (.inl rfl) rfl en40 (aC (L 1 rfl rfl) (aC (L 0 rfl rfl) aN)) (wk_rM_leave V280 _ (⟨(⟨xs122, xs125⟩ : TModule), x128, xs129, w64 (x132 - 1), x133, xs136, xs139, x187, x141, x142⟩ : TrM) x226 b1 z2 v123 v126 v130 v135 v138 f751 f752 f753 ow756 _ hx758) (fun _ _ _ _ => nd) (fun v760 V761 le762 hp763 => ?_)
                      obtain ⟨v765, v767, v769, v771, v773, f766, f768, f770, ow764⟩ := hp763
                      refine U.done (nr rfl) ?_
                      refine blkN (blkN (sqN ?_))
                      have ow775 := ow764.drop 5 rfl
                      exact ⟨_, V761, rfl, ⟨x757.m.funcs, v765, x757.m.threads, v767, x757.me, x757.reads, v769, x757.fuel, x757.used, v771, x757.held, v773, x757.acts, x757.over, x757.ended, x757.most, xs143, x144, rfl, ((((((le189.trans le203).trans le220).trans le224).trans le228).trans le281).trans le762), f766, f768, f770, ow775, h759⟩, (allCons (L 23 rfl rfl) (allCons (L 24 rfl rfl) (allCons (L 25 rfl rfl) (allCons (L 26 rfl rfl) (allCons (L 27 rfl rfl) allNil)))))⟩
                     ·have h776 := ifF c749 h748
                      refine WP.usreg rfl ?_
                      refine U.p rfl rfl (.inl rfl) (S.eqlI rfl (L 27 rfl rfl) K) ?_
                      refine U.p rfl rfl (.inl rfl) (S.assign rfl (L 0 rfl rfl)) ?_
                      refine U.done (nr rfl) ?_
                      refine WP.cond _ (L 0 rfl rfl) rfl (fun c777 => ?_) (fun c777 => ?_)
                      ·have h778 := ifT c777 h776
                       refine WP.ureg rfl ?_
                       refine U.p rfl rfl (.inl rfl) (S.move rfl (L 22 rfl rfl)) ?_
                       refine U.p rfl rfl (.inl rfl) (S.move rfl (L 29 rfl rfl)) ?_
                       refine U.p (v := .agg #[.int .i64 0, .int .i64 0, .int .i64 0, .int .i64 0, .int .i64 0, .slice none 0 0, .int .i64 0, .bool false, .bool false]) rfl rfl (.inl rfl) (S.build (vs := []) rfl ti44 rfl pl44 aN allN rfl) ?_
                       have f779 := f124.up (((((le189.trans le203).trans le220).trans le224).trans le228).trans le281)
                       have f780 := f127.up (((((le189.trans le203).trans le220).trans le224).trans le228).trans le281)
                       have f781 := f131.up (((((le189.trans le203).trans le220).trans le224).trans le228).trans le281)
                       have ow782 := ow282.pick 2 rfl
                       have ow783 := ow782.pick 2 rfl
                       have ow784 := ow783.pick 2 rfl
                       obtain ⟨x785, hx786, h787⟩ := bindS h778
                       refine O.call (V := V280) rfl rfl (.inl rfl) rfl en24 (aC (L 2 rfl rfl) (aC K (aC K (aC (L 1 rfl rfl) (aC (L 0 rfl rfl) aN))))) (wk_rM_do V280 _ (⟨(⟨xs122, xs125⟩ : TModule), x128, xs129, w64 (x132 - 1), x133, xs136, xs139, x187, x141, x142⟩ : TrM) 3 0 x226 (⟨0, 0, 0, 0, 0, [], 0, false, false⟩ : TIns) b1 z2 v123 v126 v130 v135 v138 (.slice none 0 0) f779 f780 f781 Fz.nil ow784 _ hx786) (fun _ _ _ _ => nd) (fun v788 V789 le790 hp791 => ?_)
                       obtain ⟨v793, v795, v797, v799, v801, f794, f796, f798, ow792⟩ := hp791
                       refine U.done (nr rfl) ?_
                       refine blkN (blkN (sqN ?_))
                       have ow803 := ow792.drop 5 rfl
                       exact ⟨_, V789, rfl, ⟨x785.m.funcs, v793, x785.m.threads, v795, x785.me, x785.reads, v797, x785.fuel, x785.used, v799, x785.held, v801, x785.acts, x785.over, x785.ended, x785.most, xs143, x144, rfl, ((((((le189.trans le203).trans le220).trans le224).trans le228).trans le281).trans le790), f794, f796, f798, ow803, h787⟩, (allCons (L 26 rfl rfl) (allCons (L 27 rfl rfl) (allCons (L 28 rfl rfl) (allCons (L 29 rfl rfl) (allCons (L 30 rfl rfl) allNil)))))⟩
                      ·have h804 := ifF c777 h776
                       refine WP.skip ?_
                       refine blkN (blkN (sqN ?_))
                       have ow805 := ow282.drop 5 rfl
                       have f806 := f124.up (((((le189.trans le203).trans le220).trans le224).trans le228).trans le281)
                       have f807 := f127.up (((((le189.trans le203).trans le220).trans le224).trans le228).trans le281)
                       have f808 := f131.up (((((le189.trans le203).trans le220).trans le224).trans le228).trans le281)
                       exact ⟨_, V280, rfl, ⟨xs122, v123, xs125, v126, x128, xs129, v130, w64 (x132 - 1), x133, v135, xs136, v138, xs139, x187, x141, x142, xs143, x144, rfl, (((((le189.trans le203).trans le220).trans le224).trans le228).trans le281), f806, f807, f808, ow805, h804⟩, (allCons (L 22 rfl rfl) (allCons (L 23 rfl rfl) (allCons (L 24 rfl rfl) (allCons (L 25 rfl rfl) (allCons (L 26 rfl rfl) allNil)))))⟩
          ·skip
           refine WP.usreg rfl ?_
           refine U.p rfl rfl (.inl rfl) (S.eqlI rfl (L 4 rfl rfl) K) ?_
           refine U.p rfl rfl (.inl rfl) (S.assign rfl (L 0 rfl rfl)) ?_
           refine U.done (nr rfl) ?_
           refine WP.cond _ (L 0 rfl rfl) rfl (fun c809 => ?_) (fun c809 => ?_)
           ·have h810 := ifT c809 h278
            refine WP.skip ?_
            refine sqN ?_
            exact ⟨_, V227, rfl, ⟨true, rfl, (.refl _), ow229, h810⟩, (allCons (L 8 rfl rfl) (allCons (L 9 rfl rfl) (allCons (L 10 rfl rfl) (allCons (L 11 rfl rfl) (allCons (L 12 rfl rfl) (allCons (L 13 rfl rfl) (allCons (L 14 rfl rfl) (allCons (L 6 rfl rfl) (allCons ((L 0 rfl rfl).trans (cB c809)) allNil)))))))))⟩
           ·have h811 := ifF c809 h278
            refine WP.usreg rfl ?_
            refine U.p rfl rfl (.inl rfl) (S.eqlI rfl (L 6 rfl rfl) K) ?_
            refine U.p rfl rfl (.inl rfl) (S.assign rfl (L 0 rfl rfl)) ?_
            refine U.done (nr rfl) ?_
            refine WP.cond _ (L 0 rfl rfl) rfl (fun c812 => ?_) (fun c812 => ?_)
            ·have h813 := ifT c812 h811
             refine WP.skip ?_
             refine sqN ?_
             exact ⟨_, V227, rfl, ⟨true, rfl, (.refl _), ow229, h813⟩, (allCons (L 10 rfl rfl) (allCons (L 11 rfl rfl) (allCons (L 12 rfl rfl) (allCons (L 13 rfl rfl) (allCons (L 14 rfl rfl) (allCons (L 15 rfl rfl) (allCons (L 16 rfl rfl) (allCons (L 8 rfl rfl) (allCons ((L 0 rfl rfl).trans (cB c812)) allNil)))))))))⟩
            ·have h814 := ifF c812 h811
             refine WP.usreg rfl ?_
             refine U.p rfl rfl (.inl rfl) (S.eqlI rfl (L 8 rfl rfl) K) ?_
             refine U.p rfl rfl (.inl rfl) (S.assign rfl (L 0 rfl rfl)) ?_
             refine U.done (nr rfl) ?_
             refine WP.cond _ (L 0 rfl rfl) rfl (fun c815 => ?_) (fun c815 => ?_)
             ·have h816 := ifT c815 h814
              refine WP.skip ?_
              refine sqN ?_
              exact ⟨_, V227, rfl, ⟨true, rfl, (.refl _), ow229, h816⟩, (allCons (L 12 rfl rfl) (allCons (L 13 rfl rfl) (allCons (L 14 rfl rfl) (allCons (L 15 rfl rfl) (allCons (L 16 rfl rfl) (allCons (L 17 rfl rfl) (allCons (L 18 rfl rfl) (allCons (L 10 rfl rfl) (allCons ((L 0 rfl rfl).trans (cB c815)) allNil)))))))))⟩
             ·have h817 := ifF c815 h814
              refine WP.usreg rfl ?_
              refine U.p rfl rfl (.inl rfl) (S.eqlI rfl (L 10 rfl rfl) K) ?_
              refine U.p rfl rfl (.inl rfl) (S.assign rfl (L 0 rfl rfl)) ?_
              refine U.done (nr rfl) ?_
              refine WP.cond _ (L 0 rfl rfl) rfl (fun c818 => ?_) (fun c818 => ?_)
              ·have h819 := ifT c818 h817
               refine WP.skip ?_
               refine sqN ?_
               exact ⟨_, V227, rfl, ⟨true, rfl, (.refl _), ow229, h819⟩, (allCons (L 14 rfl rfl) (allCons (L 15 rfl rfl) (allCons (L 16 rfl rfl) (allCons (L 17 rfl rfl) (allCons (L 18 rfl rfl) (allCons (L 19 rfl rfl) (allCons (L 20 rfl rfl) (allCons (L 12 rfl rfl) (allCons ((L 0 rfl rfl).trans (cB c818)) allNil)))))))))⟩
              ·have h820 := ifF c818 h817
               refine WP.usreg rfl ?_
               refine U.p rfl rfl (.inl rfl) (S.eqlI rfl (L 12 rfl rfl) K) ?_
               refine U.p rfl rfl (.inl rfl) (S.assign rfl (L 0 rfl rfl)) ?_
               refine U.done (nr rfl) ?_
               refine WP.cond _ (L 0 rfl rfl) rfl (fun c821 => ?_) (fun c821 => ?_)
               ·have h822 := ifT c821 h820
                refine WP.skip ?_
                refine sqN ?_
                exact ⟨_, V227, rfl, ⟨true, rfl, (.refl _), ow229, h822⟩, (allCons (L 16 rfl rfl) (allCons (L 17 rfl rfl) (allCons (L 18 rfl rfl) (allCons (L 19 rfl rfl) (allCons (L 20 rfl rfl) (allCons (L 21 rfl rfl) (allCons (L 22 rfl rfl) (allCons (L 14 rfl rfl) (allCons ((L 0 rfl rfl).trans (cB c821)) allNil)))))))))⟩
               ·have h823 := ifF c821 h820
                refine WP.ureg rfl ?_
                refine U.p rfl rfl (.inl rfl) (S.eqlI rfl (L 14 rfl rfl) K) ?_
                refine U.p rfl rfl (.inl rfl) (S.assign rfl (L 0 rfl rfl)) ?_
                refine U.done (nr rfl) ?_
                refine sqN ?_
                exact ⟨_, V227, rfl, ⟨decide (x205.op = 8), rfl, (.refl _), ow229, h823⟩, (allCons (L 18 rfl rfl) (allCons (L 19 rfl rfl) (allCons (L 20 rfl rfl) (allCons (L 21 rfl rfl) (allCons (L 22 rfl rfl) (allCons (L 23 rfl rfl) (allCons (L 24 rfl rfl) (allCons (L 16 rfl rfl) (allCons (L 0 rfl rfl) allNil)))))))))⟩
       ·skip
        refine WP.usreg rfl ?_
        refine U.p (v := .pointer (some ⟨b218, 2, none⟩)) rfl rfl (.inl rfl) (S.fieldAddr rfl (L 1 rfl rfl) Try.underlying44 rfl ti3 rfl rfl) ?_
        refine U.k rfl rfl (.inl rfl) (S.load rfl (L 0 rfl rfl) Try.underlying3 rfl ((ow225.own (k := 0) rfl).cell rfl)) nd ?_
        refine U.p rfl rfl (.inl rfl) (S.geq rfl (L 0 rfl rfl) K) ?_
        refine U.done (nr rfl) ?_
        refine WP.cond _ (L 0 rfl rfl) rfl (fun c824 => ?_) (fun c824 => ?_)
        ·have h825 := ifT c824 h207
         refine WP.ureg rfl ?_
         refine U.p rfl rfl (.inl rfl) (S.move rfl (L 24 rfl rfl)) ?_
         refine U.p (v := .pointer (some ⟨b218, 2, none⟩)) rfl rfl (.inl rfl) (S.fieldAddr rfl (L 5 rfl rfl) Try.underlying44 rfl ti3 rfl rfl) ?_
         refine U.k rfl rfl (.inl rfl) (S.load rfl (L 0 rfl rfl) Try.underlying3 rfl ((ow225.own (k := 0) rfl).cell rfl)) nd ?_
         obtain ⟨x826, hx827, h828⟩ := bindS h825
         obtain ⟨b829, o830, n831, c832, hv833⟩ := ow225.ospt (k := 5) rfl hx827
         obtain ⟨_, hv834, _⟩ := ow225.osel (k := 5) rfl hv833 hx827
         refine U.p rfl rfl (.inl rfl) (S.index rfl ((L 2 rfl rfl).trans hv834) (L 0 rfl rfl) Try.underlying23 ti3 (ix_ge hx827) (ix_lt hx827)) ?_
         obtain ⟨cs835, hv836, hlt837, hr838, hc839⟩ := ow225.osel (k := 5) rfl hv833 hx827
         obtain rfl : cs835 = [.int .i64 x826] := hr838
         refine U.k rfl rfl (.inl rfl) (S.load rfl (L 0 rfl rfl) Try.underlying3 rfl (hc839 0 _ rfl)) nd ?_
         refine U.p rfl rfl (.inl rfl) (S.assign rfl (L 0 rfl rfl)) ?_
         refine U.done (nr rfl) ?_
         refine sqN ?_
         have ow840 := ow225.pick 0 rfl
         have ow841 := ow840.pick 5 rfl
         have ow842 := ow841.pick 5 rfl
         have ow843 := ow842.pick 5 rfl
         have ow844 := ow843.pick 5 rfl
         have ow845 := ow844.pick 5 rfl
         exact ⟨_, V223, rfl, ⟨x826, rfl, (.refl _), ow845, h828⟩, (allCons (L 27 rfl rfl) (allCons (L 28 rfl rfl) (allCons (L 29 rfl rfl) (allCons (L 30 rfl rfl) (allCons (L 31 rfl rfl) (allCons (L 10 rfl rfl) (allCons (L 0 rfl rfl) allNil)))))))⟩
        ·have h846 := ifF c824 h207
         refine WP.skip ?_
         refine sqN ?_
         have ow847 := ow225.pick 0 rfl
         have ow848 := ow847.pick 5 rfl
         have ow849 := ow848.pick 5 rfl
         have ow850 := ow849.pick 5 rfl
         have ow851 := ow850.pick 5 rfl
         have ow852 := ow851.pick 5 rfl
         exact ⟨_, V223, rfl, ⟨0, rfl, (.refl _), ow852, h846⟩, (allCons (L 21 rfl rfl) (allCons (L 22 rfl rfl) (allCons (L 23 rfl rfl) (allCons (L 24 rfl rfl) (allCons (L 25 rfl rfl) (allCons (L 4 rfl rfl) (allCons (L 3 rfl rfl) allNil)))))))⟩
     ·skip
      refine WP.seqI (fun l V' => ∃ (x853 : Bool), l = [(0, .pointer (some ⟨b1, 0, none⟩)), (3, .int .i64 p3), (9, .pointer (some ⟨b64, 0, none⟩)), (10, v87), (11, .int .i64 x144), (66, .bool x853)] ∧ V150.le V' ∧ Ow V' (.pt b1 (.cells z2 [v123, v126, .int .i64 x128, v130, .int .i64 x132, .int .i64 x133, v135, v138, .bool x140, .bool x141, .int .i64 x142]) :: .om (RT.int .i64) false v135 xs136 :: .os RT_TAct v138 xs139 :: .pt b64 (.cells 4 [.string x51.name, .int .i64 x51.params, .int .i64 x51.regs, v62]) :: .os (RT.int .i64) v87 xs143 :: Rs) ∧ rM_Call_k5 rec_ p3 x51 xs122 xs125 x128 xs129 x132 x133 xs136 xs139 x140 x141 x142 xs143 x144 x853 = some q154) ?_ ?_
      ·rintro _ V854 ⟨x853, rfl, le855, ow856, h857⟩
       unfold rM_Call_k5 at h857
       refine WP.cond _ (L 5 rfl rfl) rfl (fun c858 => ?_) (fun c858 => ?_)
       ·have h859 := ifT c858 h857
        refine WP.ureg rfl ?_
        refine U.p rfl rfl (.inl rfl) (S.move rfl (L 0 rfl rfl)) ?_
        refine U.p rfl rfl (.inl rfl) (S.nilCheck rfl (L 0 rfl rfl)) ?_
        refine U.p (v := .pointer (some ⟨b1, 8, none⟩)) rfl rfl (.inl rfl) (S.fieldAddr rfl (L 0 rfl rfl) Try.underlying58 rfl ti4 rfl rfl) ?_
        refine O.store (k := 0) (cs := [.bool true]) (c' := [v123, v126, .int .i64 x128, v130, .int .i64 x132, .int .i64 x133, v135, v138, .bool true, .bool x141, .int .i64 x142]) ow856 rfl rfl rfl (.inl rfl) rfl (L 0 rfl rfl) K ti4 (by simp [topV]) rfl rfl (nr rfl) rfl rfl nd (fun V860 le861 ow862 => ?_)
        refine U.done (nr rfl) ?_
        refine sqN ?_
        exact ⟨_, V860, rfl, ⟨true, rfl, (le855.trans le861), ow862, h859⟩, (allCons (L 3 rfl rfl) (allCons (L 4 rfl rfl) (allCons (L 5 rfl rfl) (allCons (L 6 rfl rfl) (allCons (L 7 rfl rfl) allNil)))))⟩
       ·have h863 := ifF c858 h857
        refine WP.skip ?_
        refine sqN ?_
        exact ⟨_, V854, rfl, ⟨x140, rfl, le855, ow856, h863⟩, (allCons (L 0 rfl rfl) (allCons (L 1 rfl rfl) (allCons (L 2 rfl rfl) (allCons (L 3 rfl rfl) (allCons (L 4 rfl rfl) allNil)))))⟩
      ·skip
       refine WP.udreg rfl rfl rfl ?_
       refine U.p rfl rfl (.inl rfl) (S.move rfl (L 5 rfl rfl)) ?_
       refine U.p rfl rfl (.inl rfl) (S.nilCheck rfl (L 0 rfl rfl)) ?_
       refine U.p (v := .pointer (some ⟨b1, 4, none⟩)) rfl rfl (.inl rfl) (S.fieldAddr rfl (L 0 rfl rfl) Try.underlying58 rfl ti3 rfl rfl) ?_
       refine U.k rfl rfl (.inl rfl) (S.load rfl (L 0 rfl rfl) Try.underlying3 rfl ((ow152.own (k := 0) rfl).cell rfl)) (fun _ => (okH.nil (fun r h => by cases h; exact (ow152.own (k := 0) rfl).lt))) ?_
       refine U.p rfl rfl (.inl rfl) (S.eqlI rfl (L 0 rfl rfl) K) ?_
       refine U.p rfl rfl (.inl rfl) (S.move rfl (L 0 rfl rfl)) ?_
       refine bcase (b := decide (x132 = 0)) (fun g864 => ?_) (fun g864 => ?_)
       ·have h865 := ifT g864 h159
        refine U.x rfl rfl rfl rfl ((L 0 rfl rfl).trans (cB g864)) (by decide) ?_
        refine U.x rfl rfl rfl rfl ((L 1 rfl rfl).trans (cB g864)) (by decide) ?_
        refine U.x rfl rfl rfl rfl ((L 2 rfl rfl).trans (cB g864)) (by decide) ?_
        refine U.x rfl rfl rfl rfl ((L 3 rfl rfl).trans (cB g864)) (by decide) ?_
        refine U.x rfl rfl rfl rfl ((L 4 rfl rfl).trans (cB g864)) (by decide) ?_
        refine U.x rfl rfl rfl rfl ((L 5 rfl rfl).trans (cB g864)) (by decide) ?_
        refine U.x rfl rfl rfl rfl ((L 6 rfl rfl).trans (cB g864)) (by decide) ?_
        refine U.x rfl rfl rfl rfl ((L 7 rfl rfl).trans (cB g864)) (by decide) ?_
        refine U.x rfl rfl rfl rfl ((L 8 rfl rfl).trans (cB g864)) (by decide) ?_
        refine U.x rfl rfl rfl rfl ((L 9 rfl rfl).trans (cB g864)) (by decide) ?_
        refine U.p rfl rfl (.inl rfl) (S.pickT rfl ((L 10 rfl rfl).trans (cB g864)) K) ?_
        refine U.done (nr rfl) ?_
        refine sqN ?_
        exact ⟨_, V150, rfl, ⟨true, rfl, (.refl _), ow152, h865⟩, (allCons (L 22 rfl rfl) (allCons (L 23 rfl rfl) (allCons (L 24 rfl rfl) (allCons (L 25 rfl rfl) (allCons (L 26 rfl rfl) (allCons (L 0 rfl rfl) allNil))))))⟩
       ·have h866 := ifF g864 h159
        refine U.p rfl rfl (.inr ⟨_, _, _, rfl, rfl, ((L 0 rfl rfl).trans (cB g864))⟩) (S.move rfl (L 11 rfl rfl)) ?_
        refine U.p rfl rfl (.inr ⟨_, _, _, rfl, rfl, ((L 1 rfl rfl).trans (cB g864))⟩) (S.nilCheck rfl (L 0 rfl rfl)) ?_
        refine U.p (v := .pointer (some ⟨b1, 7, none⟩)) rfl rfl (.inr ⟨_, _, _, rfl, rfl, ((L 2 rfl rfl).trans (cB g864))⟩) (S.fieldAddr rfl (L 0 rfl rfl) Try.underlying58 rfl ti31 rfl rfl) ?_
        refine U.k rfl rfl (.inr ⟨_, _, _, rfl, rfl, ((L 3 rfl rfl).trans (cB g864))⟩) (S.load rfl (L 0 rfl rfl) Try.underlying31 rfl ((ow152.own (k := 0) rfl).cell rfl)) (fun _ => (okH.cons trivial (okH.nil (fun r h => by cases h; exact (ow152.own (k := 0) rfl).lt)))) ?_
        refine U.p rfl rfl (.inr ⟨_, _, _, rfl, rfl, ((L 4 rfl rfl).trans (cB g864))⟩) (ow152.oslen (k := 2) rfl rfl (L 0 rfl rfl) Try.underlying31) ?_
        refine U.p rfl rfl (.inr ⟨_, _, _, rfl, rfl, ((L 5 rfl rfl).trans (cB g864))⟩) (S.move rfl (L 16 rfl rfl)) ?_
        refine U.p rfl rfl (.inr ⟨_, _, _, rfl, rfl, ((L 6 rfl rfl).trans (cB g864))⟩) (S.nilCheck rfl (L 0 rfl rfl)) ?_
        refine U.p (v := .pointer (some ⟨b1, 10, none⟩)) rfl rfl (.inr ⟨_, _, _, rfl, rfl, ((L 7 rfl rfl).trans (cB g864))⟩) (S.fieldAddr rfl (L 0 rfl rfl) Try.underlying58 rfl ti3 rfl rfl) ?_
        refine U.k rfl rfl (.inr ⟨_, _, _, rfl, rfl, ((L 8 rfl rfl).trans (cB g864))⟩) (S.load rfl (L 0 rfl rfl) Try.underlying3 rfl ((ow152.own (k := 0) rfl).cell rfl)) (fun _ => (okH.cons trivial (okH.cons trivial (okH.nil (fun r h => by cases h; exact (ow152.own (k := 0) rfl).lt))))) ?_
        refine U.p rfl rfl (.inr ⟨_, _, _, rfl, rfl, ((L 9 rfl rfl).trans (cB g864))⟩) (S.geq rfl (L 4 rfl rfl) (L 0 rfl rfl)) ?_
        refine U.p rfl rfl (.inl rfl) (S.pickF rfl ((L 10 rfl rfl).trans (cB g864)) (L 0 rfl rfl)) ?_
        refine U.done (nr rfl) ?_
        refine sqN ?_
        exact ⟨_, V150, rfl, ⟨decide (x142 ≤ (xs139.length : Int)), rfl, (.refl _), ow152, h866⟩, (allCons (L 22 rfl rfl) (allCons (L 23 rfl rfl) (allCons (L 24 rfl rfl) (allCons (L 25 rfl rfl) (allCons (L 26 rfl rfl) (allCons (L 0 rfl rfl) allNil))))))⟩
   ·have h867 := ifF c158 h157
    refine WP.exit ?_
    refine sqE (sqE (blkE (sqN ?_)))
    have h868 := exitS h867 e155
    refine WP.usreg rfl ?_
    refine U.p rfl rfl (.inl rfl) (S.assign rfl K) ?_
    refine U.done (nr rfl) ?_
    refine WP.ret ?_
    refine fin.slot (.inr rfl) rfl (L 0 rfl rfl) ⟨V150, rfl, (((((le66.trans le70).trans le74).trans le83).trans le97).trans le151), ?_⟩
    have ow869 := ow152.drop 3 rfl
    have ow870 := ow869.drop 3 rfl
    have e871 := Option.some.inj h868
    subst e871
    exact ⟨v123, v126, v130, v135, v138, rfl, f124, f127, f131, ow870⟩
theorem wk_rM_Call (V : Vw) (Rs : List At) (p0 : TrM) (p1 : Int) (p2 : List Int) (p3 : Int) (b1 : Nat) (z2 : Nat) (v4 : Value) (v6 : Value) (v8 : Value) (v10 : Value) (v12 : Value) (v14 : Value) (f5 : Fz RT_TFunc V v4 p0.m.funcs) (f7 : Fz (RT.int .i64) V v6 p0.m.threads) (f9 : Fz (RT.int .i64) V v8 p0.reads) (f15 : Fz (RT.int .i64) V v14 p2) (ow : Ow V (.pt b1 (.cells z2 [v4, v6, .int .i64 p0.me, v8, .int .i64 p0.fuel, .int .i64 p0.used, v10, v12, .bool p0.over, .bool p0.ended, .int .i64 p0.most]) :: .om (RT.int .i64) false v10 p0.held :: .os RT_TAct v12 p0.acts :: Rs)) (r : Int × TrM) (h : rM_Call p0 p1 p2 p3 = some r) : ∃ v V', Cl Try.prog 0 23 #[.pointer (some ⟨b1, 0, none⟩), .int .i64 p1, v14, .int .i64 p3] V.H v V'.H ∧ V.le V' ∧ (∃ (v16 : Value) (v18 : Value) (v20 : Value) (v22 : Value) (v24 : Value), v = .int .i64 r.1 ∧ Fz RT_TFunc V' v16 r.2.m.funcs ∧ Fz (RT.int .i64) V' v18 r.2.m.threads ∧ Fz (RT.int .i64) V' v20 r.2.reads ∧ Ow V' (.pt b1 (.cells z2 [v16, v18, .int .i64 r.2.me, v20, .int .i64 r.2.fuel, .int .i64 r.2.used, v22, v24, .bool r.2.over, .bool r.2.ended, .int .i64 r.2.most]) :: .om (RT.int .i64) false v22 r.2.held :: .os RT_TAct v24 r.2.acts :: Rs)) := by
 have key : ∀ n, ∀ (V : Vw) (Rs : List At) (p0 : TrM) (p1 : Int) (p2 : List Int) (p3 : Int) (b1 : Nat) (z2 : Nat) (v4 : Value) (v6 : Value) (v8 : Value) (v10 : Value) (v12 : Value) (v14 : Value) (f5 : Fz RT_TFunc V v4 p0.m.funcs) (f7 : Fz (RT.int .i64) V v6 p0.m.threads) (f9 : Fz (RT.int .i64) V v8 p0.reads) (f15 : Fz (RT.int .i64) V v14 p2) (ow : Ow V (.pt b1 (.cells z2 [v4, v6, .int .i64 p0.me, v8, .int .i64 p0.fuel, .int .i64 p0.used, v10, v12, .bool p0.over, .bool p0.ended, .int .i64 p0.most]) :: .om (RT.int .i64) false v10 p0.held :: .os RT_TAct v12 p0.acts :: Rs)) (r : Int × TrM) (h : itF (fun rec_ a => rM_Call_F (fun p0 p1 p2 p3 => rec_ (p0, p1, p2, p3)) a.1 a.2.1 a.2.2.1 a.2.2.2) n (p0, p1, p2, p3) = some r), ∃ v V', Cl Try.prog 0 23 #[.pointer (some ⟨b1, 0, none⟩), .int .i64 p1, v14, .int .i64 p3] V.H v V'.H ∧ V.le V' ∧ (∃ (v16 : Value) (v18 : Value) (v20 : Value) (v22 : Value) (v24 : Value), v = .int .i64 r.1 ∧ Fz RT_TFunc V' v16 r.2.m.funcs ∧ Fz (RT.int .i64) V' v18 r.2.m.threads ∧ Fz (RT.int .i64) V' v20 r.2.reads ∧ Ow V' (.pt b1 (.cells z2 [v16, v18, .int .i64 r.2.me, v20, .int .i64 r.2.fuel, .int .i64 r.2.used, v22, v24, .bool r.2.over, .bool r.2.ended, .int .i64 r.2.most]) :: .om (RT.int .i64) false v22 r.2.held :: .os RT_TAct v24 r.2.acts :: Rs)) := by
  intro n
  induction n with
  | zero => intro V Rs p0 p1 p2 p3 b1 z2 v4 v6 v8 v10 v12 v14 f5 f7 f9 f15 ow r h; have h0 : (none : Option (Int × TrM)) = some r := h; cases h0
  | succ n ih => exact fun V Rs p0 p1 p2 p3 b1 z2 v4 v6 v8 v10 v12 v14 f5 f7 f9 f15 ow r h => wks_rM_Call (fun p0 p1 p2 p3 => itF (fun rec_ a => rM_Call_F (fun p0 p1 p2 p3 => rec_ (p0, p1, p2, p3)) a.1 a.2.1 a.2.2.1 a.2.2.2) n (p0, p1, p2, p3)) ih V Rs p0 p1 p2 p3 b1 z2 v4 v6 v8 v10 v12 v14 f5 f7 f9 f15 ow r h
 obtain ⟨n, hn⟩ := recO_some h
 exact key n V Rs p0 p1 p2 p3 b1 z2 v4 v6 v8 v10 v12 v14 f5 f7 f9 f15 ow r hn
theorem wk_ref08_Begin (V : Vw) (Rs : List At) (p0 : TModule) (p1 : Int) (p2 : List Int) (p3 : Int) (p4 : Int) (v1 : Value) (v3 : Value) (v5 : Value) (f2 : Fz RT_TFunc V v1 p0.funcs) (f4 : Fz (RT.int .i64) V v3 p0.threads) (f6 : Fz (RT.int .i64) V v5 p2) (ow : Ow V (Rs)) (r : (List TAct) × Bool) (h : ref08_Begin p0 p1 p2 p3 p4 = some r) : ∃ v V', Cl Try.prog 0 18 #[.agg #[v1, v3], .int .i64 p1, v5, .int .i64 p3, .int .i64 p4] V.H v V'.H ∧ V.le V' ∧ (∃ (v7 : Value), v = .tuple #[v7, .bool r.2] ∧ Ow V' (.os RT_TAct v7 r.1 :: Rs)) := by
 refine Ct.of (Nat.zero_le _) Try.func18 rfl (nr rfl) ?_
 unfold ref08_Begin at h
 refine WP.usreg rfl ?_
 refine O.box ow rfl rfl (.inl rfl) rfl (L 0 rfl rfl) (by simp [topV]) rfl nd (fun b9 V10 le11 ow12 => ?_)
 refine U.p rfl rfl (.inl rfl) (S.assign rfl K) ?_
 refine U.p rfl rfl (.inl rfl) (S.assign rfl K) ?_
 refine U.done (nr rfl) ?_
 refine WP.seq ?_
 refine WP.usreg rfl ?_
 refine U.p rfl rfl (.inl rfl) (S.move rfl (L 4 rfl rfl)) ?_
 refine U.p rfl rfl (.inl rfl) (S.lss rfl (L 0 rfl rfl) K) ?_
 refine U.p rfl rfl (.inl rfl) (S.move rfl (L 0 rfl rfl)) ?_
 refine U.joinX 9 (fun e H => ∃ (u14 u15 u16 u17 u18 : Value), H = V10.H ∧ e = [(21, .bool ((decide (p1 < 0)) || (decide ((p0.threads.length : Int) ≤ p1)))), (20, u14), (19, u15), (18, u16), (17, u17), (16, u18)]) ?_ ?_
 ·rintro _ _ ⟨u14, u15, u16, u17, u18, rfl, rfl⟩
  refine U.done (nr rfl) ?_
  refine WP.cond _ (L 0 rfl rfl) rfl (fun c22 => ?_) (fun c22 => ?_)
  ·have h23 := ifT c22 h
   refine WP.usreg rfl ?_
   refine U.p rfl rfl (.inl rfl) (S.assign rfl K) ?_
   refine U.p rfl rfl (.inl rfl) (S.assign rfl K) ?_
   refine U.done (nr rfl) ?_
   refine WP.ret ?_
   refine sqR ?_
   have ow24 := ow12.nil RT_TAct
   refine fin.slots' (.inr rfl) (fsC (L 1 rfl rfl) (fsC (L 0 rfl rfl) fsN)) rfl ⟨V10, rfl, le11, ?_⟩
   have ow26 := ow24.drop 1 rfl
   have e27 := Option.some.inj h23
   subst e27
   exact ⟨(.slice none 0 0), rfl, ow26⟩
  ·have h28 := ifF c22 h
   refine WP.skip ?_
   refine sqN ?_
   refine WP.usreg rfl ?_
   refine U.k rfl rfl (.inl rfl) (S.loadB rfl (L 11 rfl rfl) Try.underlying25 rfl ti25 (ow12.own (k := 0) rfl).get rfl) nd ?_
   refine U.p rfl rfl (.inl rfl) (S.move rfl (L 14 rfl rfl)) ?_
   refine U.p rfl rfl (.inl rfl) (S.move rfl (L 16 rfl rfl)) ?_
   refine U.p rfl rfl (.inl rfl) (S.move rfl (L 18 rfl rfl)) ?_
   refine O.makeMap (RT.int .i64) false ow12 rfl rfl (.inl rfl) rfl (fun _ => nd) (fun v29 V30 le31 ow32 => ?_)
   refine U.p rfl rfl (.inl rfl) (S.move rfl (L 21 rfl rfl)) ?_
   refine U.p (v := .agg #[v1, v3, .int .i64 p1, v5, .int .i64 p3, .int .i64 0, v29, .slice none 0 0, .bool false, .bool false, .int .i64 p4]) rfl rfl (.inl rfl) (S.build (vs := [.agg #[v1, v3], .int .i64 p1, v5, .int .i64 p3, v29, .int .i64 p4]) rfl ti58 rfl pl58 (aC (L 5 rfl rfl) (aC (L 4 rfl rfl) (aC (L 3 rfl rfl) (aC (L 2 rfl rfl) (aC (L 1 rfl rfl) (aC (L 0 rfl rfl) aN)))))) (allC (by simp [topV]) (allC (by simp [topV]) (allC f6.ne (allC (by simp [topV]) (allC (ow32.omne (k := 0) rfl) (allC (by simp [topV]) allN)))))) (fillA (ws := [v1, v3]) rfl rfl rfl (nr rfl) (fill1 rfl rfl (nr rfl) (fill1 rfl f6.cells (nr rfl) (fill1 rfl rfl (nr rfl) (fill1 rfl (ow32.omcells (k := 0) rfl) (nr rfl) (fill1 rfl rfl (nr rfl) rfl))))))) ?_
   refine O.box ow32 rfl rfl (.inl rfl) rfl (L 0 rfl rfl) (by simp [topV]) rfl nd (fun b34 V35 le36 ow37 => ?_)
   refine U.p rfl rfl (.inl rfl) (S.assign rfl (L 0 rfl rfl)) ?_
   refine U.done (nr rfl) ?_
   refine WP.usreg rfl ?_
   refine U.p rfl rfl (.inl rfl) (S.move rfl (L 0 rfl rfl)) ?_
   refine U.p (v := .pointer (some ⟨b9, 1, none⟩)) rfl rfl (.inl rfl) (S.fieldAddr rfl (L 21 rfl rfl) Try.underlying25 rfl ti23 rfl rfl) ?_
   refine U.k rfl rfl (.inl rfl) (S.load rfl (L 0 rfl rfl) Try.underlying23 rfl ((ow37.own (k := 2) rfl).cell rfl)) nd ?_
   refine U.p rfl rfl (.inl rfl) (S.move rfl (L 25 rfl rfl)) ?_
   obtain ⟨x39, hx40, h41⟩ := bindS h28
   obtain ⟨b42, o43, c44, cs45, hv46, hf47, hr48, hc49⟩ := f4.at hx40
   obtain rfl : cs45 = [.int .i64 x39] := hr48
   refine U.p rfl rfl (.inl rfl) (S.index rfl ((L 1 rfl rfl).trans hv46) (L 0 rfl rfl) Try.underlying23 ti3 (ix_ge hx40) (ix_lt hx40)) ?_
   refine U.k rfl rfl (.inl rfl) (S.load rfl (L 0 rfl rfl) Try.underlying3 rfl (((le11.trans le31).trans le36).cell hf47 (hc49 0 _ rfl))) nd ?_
   have f50 := f2.up ((le11.trans le31).trans le36)
   have f51 := f4.up ((le11.trans le31).trans le36)
   have f52 := f6.up ((le11.trans le31).trans le36)
   have ow53 := ow37.nil RT_TAct
   have ow55 := ow53.pick 2 rfl
   have ow56 := ow55.pick 2 rfl
   obtain ⟨x57, hx58, h59⟩ := bindS h41
   refine O.call (V := V35) rfl rfl (.inl rfl) rfl en23 (aC (L 5 rfl rfl) (aC (L 0 rfl rfl) (aC K (aC K aN)))) (wk_rM_Call V35 _ (⟨p0, p1, p2, p3, 0, [], [], false, false, p4⟩ : TrM) x39 [] 0 b34 0 v1 v3 v5 v29 (.slice none 0 0) (.slice none 0 0) f50 f51 f52 Fz.nil ow56 _ hx58) (fun _ _ _ _ => nd) (fun v60 V61 le62 hp63 => ?_)
   obtain ⟨v65, v67, v69, v71, v73, rfl, f66, f68, f70, ow64⟩ := hp63
   refine U.done (nr rfl) ?_
   refine WP.seqI (fun l V' => ∃ (xs75 : List TFunc) (v76 : Value) (xs78 : List Int) (v79 : Value) (x81 : Int) (xs82 : List Int) (v83 : Value) (x85 : Int) (x86 : Int) (v88 : Value) (xs89 : List (Int × Int)) (v91 : Value) (xs92 : List TAct) (x93 : Bool) (x94 : Bool) (x95 : Int), l = [(12, .pointer (some ⟨b34, 0, none⟩))] ∧ V61.le V' ∧ Fz RT_TFunc V' v76 xs75 ∧ Fz (RT.int .i64) V' v79 xs78 ∧ Fz (RT.int .i64) V' v83 xs82 ∧ Ow V' (.pt b34 (.cells 0 [v76, v79, .int .i64 x81, v83, .int .i64 x85, .int .i64 x86, v88, v91, .bool x93, .bool x94, .int .i64 x95]) :: .om (RT.int .i64) false v88 xs89 :: .os RT_TAct v91 xs92 :: Rs) ∧ ref08_Begin_k1 xs75 xs78 x81 xs82 x85 x86 xs89 xs92 x93 x94 x95 = some r) ?_ ?_
   ·rintro _ V96 ⟨xs75, v76, xs78, v79, x81, xs82, v83, x85, x86, v88, xs89, v91, xs92, x93, x94, x95, rfl, le97, f77, f80, f84, ow98, h99⟩
    unfold ref08_Begin_k1 at h99
    refine WP.usdreg rfl rfl rfl ?_
    refine U.p rfl rfl (.inl rfl) (S.move rfl (L 0 rfl rfl)) ?_
    refine U.p rfl rfl (.inl rfl) (S.nilCheck rfl (L 0 rfl rfl)) ?_
    refine U.p (v := .pointer (some ⟨b34, 7, none⟩)) rfl rfl (.inl rfl) (S.fieldAddr rfl (L 0 rfl rfl) Try.underlying58 rfl ti31 rfl rfl) ?_
    refine U.k rfl rfl (.inl rfl) (S.load rfl (L 0 rfl rfl) Try.underlying31 rfl ((ow98.own (k := 0) rfl).cell rfl)) (fun _ => (okH.nil (fun r h => by cases h; exact (ow98.own (k := 0) rfl).lt))) ?_
    refine U.p rfl rfl (.inl rfl) (S.move rfl (L 4 rfl rfl)) ?_
    refine U.p rfl rfl (.inl rfl) (S.nilCheck rfl (L 0 rfl rfl)) ?_
    refine U.p (v := .pointer (some ⟨b34, 9, none⟩)) rfl rfl (.inl rfl) (S.fieldAddr rfl (L 0 rfl rfl) Try.underlying58 rfl ti4 rfl rfl) ?_
    refine U.k rfl rfl (.inl rfl) (S.load rfl (L 0 rfl rfl) Try.underlying4 rfl ((ow98.own (k := 0) rfl).cell rfl)) (fun _ => (okH.cons trivial (okH.nil (fun r h => by cases h; exact (ow98.own (k := 0) rfl).lt)))) ?_
    refine U.p rfl rfl (.inl rfl) (S.assign rfl (L 4 rfl rfl)) ?_
    refine U.p rfl rfl (.inl rfl) (S.assign rfl (L 1 rfl rfl)) ?_
    refine U.done (nr rfl) ?_
    refine WP.ret ?_
    refine fin.slots' (.inr rfl) (fsC (L 1 rfl rfl) (fsC (L 0 rfl rfl) fsN)) rfl ⟨V96, rfl, ((((le11.trans le31).trans le36).trans le62).trans le97), ?_⟩
    have ow100 := ow98.drop 0 rfl
    have ow101 := ow100.drop 0 rfl
    have e102 := Option.some.inj h99
    subst e102
    exact ⟨v91, rfl, ow101⟩
   ·skip
    refine WP.usreg rfl ?_
    refine U.p rfl rfl (.inl rfl) (S.move rfl (L 7 rfl rfl)) ?_
    refine U.p rfl rfl (.inl rfl) (S.nilCheck rfl (L 0 rfl rfl)) ?_
    refine U.p (v := .pointer (some ⟨b34, 8, none⟩)) rfl rfl (.inl rfl) (S.fieldAddr rfl (L 0 rfl rfl) Try.underlying58 rfl ti4 rfl rfl) ?_
    refine U.k rfl rfl (.inl rfl) (S.load rfl (L 0 rfl rfl) Try.underlying4 rfl ((ow64.own (k := 0) rfl).cell rfl)) nd ?_
    refine U.p rfl rfl (.inl rfl) (S.not rfl (L 0 rfl rfl)) ?_
    refine U.done (nr rfl) ?_
    refine WP.cond _ (L 0 rfl rfl) rfl (fun c103 => ?_) (fun c103 => ?_)
    ·have h104 := ifT c103 h59
     have k105 : x57.2.over = false := nT c103
     refine WP.usreg rfl ?_
     refine U.p rfl rfl (.inl rfl) (S.move rfl (L 12 rfl rfl)) ?_
     refine U.p (v := .agg #[.int .i64 0, .int .i64 0, .int .i64 0, .int .i64 0, .int .i64 0, .slice none 0 0, .int .i64 0, .bool false, .bool false]) rfl rfl (.inl rfl) (S.build (vs := []) rfl ti44 rfl pl44 aN allN rfl) ?_
     have ow106 := ow64.pick 2 rfl
     have ow107 := ow106.pick 2 rfl
     have ow108 := ow107.pick 2 rfl
     obtain ⟨x109, hx110, h111⟩ := bindS h104
     refine O.call (V := V61) rfl rfl (.inl rfl) rfl en24 (aC (L 1 rfl rfl) (aC K (aC K (aC K (aC (L 0 rfl rfl) aN))))) (wk_rM_do V61 _ x57.2 7 0 0 (⟨0, 0, 0, 0, 0, [], 0, false, false⟩ : TIns) b34 0 v65 v67 v69 v71 v73 (.slice none 0 0) f66 f68 f70 Fz.nil ow108 _ hx110) (fun _ _ _ _ => nd) (fun v112 V113 le114 hp115 => ?_)
     obtain ⟨v117, v119, v121, v123, v125, f118, f120, f122, ow116⟩ := hp115
     refine U.done (nr rfl) ?_
     refine WP.ureg rfl ?_
     refine U.p rfl rfl (.inl rfl) (S.move rfl (L 15 rfl rfl)) ?_
     refine U.p rfl rfl (.inl rfl) (S.nilCheck rfl (L 0 rfl rfl)) ?_
     refine U.p (v := .pointer (some ⟨b34, 9, none⟩)) rfl rfl (.inl rfl) (S.fieldAddr rfl (L 0 rfl rfl) Try.underlying58 rfl ti4 rfl rfl) ?_
     refine O.store (k := 0) (cs := [.bool true]) (c' := [v117, v119, .int .i64 x109.me, v121, .int .i64 x109.fuel, .int .i64 x109.used, v123, v125, .bool x109.over, .bool true, .int .i64 x109.most]) ow116 rfl rfl rfl (.inl rfl) rfl (L 0 rfl rfl) K ti4 (by simp [topV]) rfl rfl (nr rfl) rfl rfl nd (fun V127 le128 ow129 => ?_)
     refine U.done (nr rfl) ?_
     refine sqN ?_
     have ow130 := ow129.drop 3 rfl
     have f131 := f118.up le128
     have f132 := f120.up le128
     have f133 := f122.up le128
     exact ⟨_, V127, rfl, ⟨x109.m.funcs, v117, x109.m.threads, v119, x109.me, x109.reads, v121, x109.fuel, x109.used, v123, x109.held, v125, x109.acts, x109.over, true, x109.most, rfl, (le114.trans le128), f131, f132, f133, ow130, h111⟩, (allCons (L 18 rfl rfl) allNil)⟩
    ·have h134 := ifF c103 h59
     have k135 : x57.2.over = true := nF c103
     refine WP.skip ?_
     refine sqN ?_
     have ow136 := ow64.drop 3 rfl
     exact ⟨_, V61, rfl, ⟨x57.2.m.funcs, v65, x57.2.m.threads, v67, x57.2.me, x57.2.reads, v69, x57.2.fuel, x57.2.used, v71, x57.2.held, v73, x57.2.acts, x57.2.over, x57.2.ended, x57.2.most, rfl, (.refl _), f66, f68, f70, ow136, h134⟩, (allCons (L 12 rfl rfl) allNil)⟩
 ·intro kk
  refine bcase (b := decide (p1 < 0)) (fun g137 => ?_) (fun g137 => ?_)
  ·skip
   refine U.x rfl rfl rfl rfl ((L 0 rfl rfl).trans (cB g137)) (by decide) ?_
   refine U.x rfl rfl rfl rfl ((L 1 rfl rfl).trans (cB g137)) (by decide) ?_
   refine U.x rfl rfl rfl rfl ((L 2 rfl rfl).trans (cB g137)) (by decide) ?_
   refine U.x rfl rfl rfl rfl ((L 3 rfl rfl).trans (cB g137)) (by decide) ?_
   refine U.x rfl rfl rfl rfl ((L 4 rfl rfl).trans (cB g137)) (by decide) ?_
   refine U.p rfl rfl (.inl rfl) (S.pickT rfl ((L 5 rfl rfl).trans (cB g137)) K) ?_
   exact kk [(21, .bool true), (20, .tuple #[]), (19, .tuple #[]), (18, .tuple #[]), (17, .tuple #[]), (16, .tuple #[])] _ ⟨.tuple #[], .tuple #[], .tuple #[], .tuple #[], .tuple #[], rfl, (by rw [g137, Bool.true_or])⟩
  ·skip
   refine U.p rfl rfl (.inr ⟨_, _, _, rfl, rfl, ((L 0 rfl rfl).trans (cB g137))⟩) (S.move rfl (L 7 rfl rfl)) ?_
   refine U.p (v := .pointer (some ⟨b9, 1, none⟩)) rfl rfl (.inr ⟨_, _, _, rfl, rfl, ((L 1 rfl rfl).trans (cB g137))⟩) (S.fieldAddr rfl (L 6 rfl rfl) Try.underlying25 rfl ti23 rfl rfl) ?_
   refine U.k rfl rfl (.inr ⟨_, _, _, rfl, rfl, ((L 2 rfl rfl).trans (cB g137))⟩) (S.load rfl (L 0 rfl rfl) Try.underlying23 rfl ((ow12.own (k := 0) rfl).cell rfl)) nd ?_
   refine U.p rfl rfl (.inr ⟨_, _, _, rfl, rfl, ((L 3 rfl rfl).trans (cB g137))⟩) (f4.1.len rfl (L 0 rfl rfl) Try.underlying23) ?_
   refine U.p rfl rfl (.inr ⟨_, _, _, rfl, rfl, ((L 4 rfl rfl).trans (cB g137))⟩) (S.geq rfl (L 3 rfl rfl) (L 0 rfl rfl)) ?_
   refine U.p rfl rfl (.inl rfl) (S.pickF rfl ((L 5 rfl rfl).trans (cB g137)) (L 0 rfl rfl)) ?_
   exact kk [(21, .bool (decide ((p0.threads.length : Int) ≤ p1))), (20, .bool (decide ((p0.threads.length : Int) ≤ p1))), (19, .int .i64 (p0.threads.length : Int)), (18, v3), (17, .pointer (some ⟨b9, 1, none⟩)), (16, .int .i64 p1)] _ ⟨.bool (decide ((p0.threads.length : Int) ≤ p1)), .int .i64 (p0.threads.length : Int), v3, .pointer (some ⟨b9, 1, none⟩), .int .i64 p1, rfl, (by rw [g137, Bool.false_or])⟩
theorem wk_ref08_Run (V : Vw) (Rs : List At) (p0 : TModule) (p1 : Int) (p2 : List Int) (p3 : Int) (v1 : Value) (v3 : Value) (v5 : Value) (f2 : Fz RT_TFunc V v1 p0.funcs) (f4 : Fz (RT.int .i64) V v3 p0.threads) (f6 : Fz (RT.int .i64) V v5 p2) (ow : Ow V (Rs)) (r : (List TAct) × Bool) (h : ref08_Run p0 p1 p2 p3 = some r) : ∃ v V', Cl Try.prog 0 10 #[.agg #[v1, v3], .int .i64 p1, v5, .int .i64 p3] V.H v V'.H ∧ V.le V' ∧ (∃ (v7 : Value), v = .tuple #[v7, .bool r.2] ∧ Ow V' (.os RT_TAct v7 r.1 :: Rs)) := by
 refine Ct.of (Nat.zero_le _) Try.func10 rfl (nr rfl) ?_
 unfold ref08_Run at h
 refine WP.usreg rfl ?_
 refine O.box ow rfl rfl (.inl rfl) rfl (L 0 rfl rfl) (by simp [topV]) rfl nd (fun b9 V10 le11 ow12 => ?_)
 refine U.p rfl rfl (.inl rfl) (S.assign rfl K) ?_
 refine U.p rfl rfl (.inl rfl) (S.assign rfl K) ?_
 refine U.done (nr rfl) ?_
 refine WP.usreg rfl ?_
 refine U.k rfl rfl (.inl rfl) (S.loadB rfl (L 2 rfl rfl) Try.underlying25 rfl ti25 (ow12.own (k := 0) rfl).get rfl) nd ?_
 refine U.p rfl rfl (.inl rfl) (S.move rfl (L 5 rfl rfl)) ?_
 refine U.p rfl rfl (.inl rfl) (S.move rfl (L 7 rfl rfl)) ?_
 refine U.p rfl rfl (.inl rfl) (S.move rfl (L 9 rfl rfl)) ?_
 have f14 := f2.up le11
 have f15 := f4.up le11
 have f16 := f6.up le11
 obtain ⟨x17, hx18, h19⟩ := bindS h
 refine O.call (V := V10) rfl rfl (.inl rfl) rfl en18 (aC (L 3 rfl rfl) (aC (L 2 rfl rfl) (aC (L 1 rfl rfl) (aC (L 0 rfl rfl) (aC K aN))))) (wk_ref08_Begin V10 _ p0 p1 p2 p3 1152921504606846976 v1 v3 v5 f14 f15 f16 ow12 _ hx18) (fun _ _ _ _ => nd) (fun v20 V21 le22 hp23 => ?_)
 obtain ⟨v25, rfl, ow24⟩ := hp23
 refine U.p rfl rfl (.inl rfl) (S.extract rfl (L 0 rfl rfl) rfl (nr rfl)) ?_
 refine U.p rfl rfl (.inl rfl) (S.extract rfl (L 1 rfl rfl) rfl (nr rfl)) ?_
 refine U.p rfl rfl (.inl rfl) (S.assign rfl (L 1 rfl rfl)) ?_
 refine U.p rfl rfl (.inl rfl) (S.assign rfl (L 1 rfl rfl)) ?_
 refine U.done (nr rfl) ?_
 refine WP.ret ?_
 refine fin.slots' (.inr rfl) (fsC (L 1 rfl rfl) (fsC (L 0 rfl rfl) fsN)) rfl ⟨V21, rfl, (le11.trans le22), ?_⟩
 have ow27 := ow24.drop 1 rfl
 have e28 := Option.some.inj h19
 subst e28
 exact ⟨v25, rfl, ow27⟩
theorem wk_ref07_Same_3 (V : Vw) (Rs : List At) (p0 : List TAct) (p1 : List TAct) (v1 : Value) (v3 : Value) (f2 : Fz RT_TAct V v1 p0) (f4 : Fz RT_TAct V v3 p1) (ow : Ow V (Rs)) (r : Bool) (h : ref07_Same_3 p0 p1 = some r) : ∃ v V', Cl Try.prog 0 11 #[v1, v3] V.H v V'.H ∧ V.le V' ∧ (v = .bool r ∧ Ow V' (Rs)) := by
 refine Ct.of (Nat.zero_le _) Try.func11 rfl (nr rfl) ?_
 unfold ref07_Same_3 at h
 refine WP.usreg rfl ?_
 refine U.p rfl rfl (.inl rfl) (S.assign rfl K) ?_
 refine U.done (nr rfl) ?_
 refine WP.seq ?_
 refine WP.usreg rfl ?_
 refine U.p rfl rfl (.inl rfl) (S.move rfl (L 1 rfl rfl)) ?_
 refine U.p rfl rfl (.inl rfl) (f2.1.len rfl (L 0 rfl rfl) Try.underlying31) ?_
 refine U.p rfl rfl (.inl rfl) (S.move rfl (L 4 rfl rfl)) ?_
 refine U.p rfl rfl (.inl rfl) (f4.1.len rfl (L 0 rfl rfl) Try.underlying31) ?_
 refine U.p rfl rfl (.inl rfl) (S.neqI rfl (L 2 rfl rfl) (L 0 rfl rfl)) ?_
 refine U.done (nr rfl) ?_
 refine WP.cond _ (L 0 rfl rfl) rfl (fun c5 => ?_) (fun c5 => ?_)
 ·have h6 := ifT c5 h
  refine WP.usreg rfl ?_
  refine U.p rfl rfl (.inl rfl) (S.assign rfl K) ?_
  refine U.done (nr rfl) ?_
  refine WP.ret ?_
  refine sqR ?_
  refine fin.slot (.inr rfl) rfl (L 0 rfl rfl) ⟨V, rfl, (.refl _), ?_⟩
  have e7 := Option.some.inj h6
  subst e7
  exact ⟨rfl, ow⟩
 ·have h8 := ifF c5 h
  refine WP.skip ?_
  refine sqN ?_
  refine WP.seq ?_
  refine WP.usreg rfl ?_
  refine U.p rfl rfl (.inl rfl) (S.move rfl (L 6 rfl rfl)) ?_
  refine U.p rfl rfl (.inl rfl) (f2.1.len rfl (L 0 rfl rfl) Try.underlying31) ?_
  refine U.p rfl rfl (.inl rfl) (S.move rfl K) ?_
  refine U.done (nr rfl) ?_
  refine WP.blk ?_
  unfold ref07_Same_3_l1 at h8
  obtain ⟨n11, hn10⟩ := loopO_some.1 h8
  refine WP.loopI2 (fun n l V' => ∃ (x9 : Int), l = [(0, v1), (1, v3), (12, .int .i64 (p0.length : Int)), (13, .int .i64 x9)] ∧ V.le V' ∧ Ow V' (Rs) ∧ itO (fun s => ref07_Same_3_l1b p0 p1 s) n x9 = some r) n11 _ ⟨0, rfl, .refl _, ow, hn10⟩ (allCons (L 9 rfl rfl) (allCons (L 10 rfl rfl) (allCons (L 1 rfl rfl) (allCons (L 0 rfl rfl) allNil)))) ?_
  rintro _ _ V12 ⟨x9, rfl, le13, ow14, h18⟩
  obtain ⟨m15, q16, rfl, h19, e17⟩ := itS h18
  replace h19 : ref07_Same_3_l1b p0 p1 x9 = some q16 := h19
  unfold ref07_Same_3_l1b at h19
  refine WP.usreg rfl ?_
  refine U.p rfl rfl (.inl rfl) (S.lss rfl (L 3 rfl rfl) (L 2 rfl rfl)) ?_
  refine U.done (nr rfl) ?_
  refine WP.seq ?_
  refine WP.cond _ (L 0 rfl rfl) rfl (fun c20 => ?_) (fun c20 => ?_)
  ·have h21 := ifT c20 h19
   refine WP.skip ?_
   refine sqN ?_
   refine WP.seq ?_
   refine WP.blk ?_
   refine WP.usreg rfl ?_
   refine U.p rfl rfl (.inl rfl) (S.move rfl (L 4 rfl rfl)) ?_
   refine U.p rfl rfl (.inl rfl) (S.assign rfl (L 0 rfl rfl)) ?_
   refine U.done (nr rfl) ?_
   refine WP.usdreg rfl rfl rfl ?_
   refine U.p rfl rfl (.inl rfl) (S.move rfl (L 3 rfl rfl)) ?_
   refine U.p rfl rfl (.inl rfl) (S.move rfl (L 1 rfl rfl)) ?_
   obtain ⟨x22, hx23, h24⟩ := bindS h21
   obtain ⟨b25, o26, c27, cs28, hv29, hf30, hr31, hc32⟩ := f2.at hx23
   obtain rfl : cs28 = [.int .i64 x22.kind, .int .i64 x22.at_, .int .i64 x22.val, .int .i64 x22.what, .bool x22.volatile, .bool x22.final] := hr31
   refine U.p rfl rfl (.inl rfl) (S.index rfl ((L 1 rfl rfl).trans hv29) (L 0 rfl rfl) Try.underlying31 ti51 (ix_ge hx23) (ix_lt hx23)) ?_
   refine U.k rfl rfl (.inl rfl) (S.loadN (cs := [.int .i64 x22.kind, .int .i64 x22.at_, .int .i64 x22.val, .int .i64 x22.what, .bool x22.volatile, .bool x22.final]) rfl (L 0 rfl rfl) Try.underlying51 rfl ti51 rfl (fun j v hj => le13.cell hf30 (hc32 j v hj))) (fun _ => (okH.nil (fun r h => by cases h; exact (V12.wf _ (le13.sub _ hf30))))) ?_
   refine U.p rfl rfl (.inl rfl) (S.move rfl (L 8 rfl rfl)) ?_
   refine U.p rfl rfl (.inl rfl) (S.move rfl (L 5 rfl rfl)) ?_
   obtain ⟨x33, hx34, h35⟩ := bindS h24
   obtain ⟨b36, o37, c38, cs39, hv40, hf41, hr42, hc43⟩ := f4.at hx34
   obtain rfl : cs39 = [.int .i64 x33.kind, .int .i64 x33.at_, .int .i64 x33.val, .int .i64 x33.what, .bool x33.volatile, .bool x33.final] := hr42
   refine U.p rfl rfl (.inl rfl) (S.index rfl ((L 1 rfl rfl).trans hv40) (L 0 rfl rfl) Try.underlying31 ti51 (ix_ge hx34) (ix_lt hx34)) ?_
   refine U.k rfl rfl (.inl rfl) (S.loadN (cs := [.int .i64 x33.kind, .int .i64 x33.at_, .int .i64 x33.val, .int .i64 x33.what, .bool x33.volatile, .bool x33.final]) rfl (L 0 rfl rfl) Try.underlying51 rfl ti51 rfl (fun j v hj => le13.cell hf41 (hc43 j v hj))) (fun _ => (okH.cons trivial (okH.nil (fun r h => by cases h; exact (V12.wf _ (le13.sub _ hf41)))))) ?_
   refine U.p rfl rfl (.inl rfl) (S.neqT (flA (flC (.int _ _) (flC (.int _ _) (flC (.int _ _) (flC (.int _ _) (flC (.bool _) (flC (.bool _) flN))))))) (flA (flC (.int _ _) (flC (.int _ _) (flC (.int _ _) (flC (.int _ _) (flC (.bool _) (flC (.bool _) flN))))))) rfl (L 4 rfl rfl) (L 0 rfl rfl) Try.underlying51 (by kernel_rfl) (by kernel_rfl) (.cons _ _ _ _ _ _ (by decide) (part_cell Try.underlying3 rfl rfl) (part_cell Try.underlying3 rfl rfl) (eqIn_int Try.underlying3 9998) (.cons _ _ _ _ _ _ (by decide) (part_cell Try.underlying3 rfl rfl) (part_cell Try.underlying3 rfl rfl) (eqIn_int Try.underlying3 9998) (.cons _ _ _ _ _ _ (by decide) (part_cell Try.underlying3 rfl rfl) (part_cell Try.underlying3 rfl rfl) (eqIn_int Try.underlying3 9998) (.cons _ _ _ _ _ _ (by decide) (part_cell Try.underlying3 rfl rfl) (part_cell Try.underlying3 rfl rfl) (eqIn_int Try.underlying3 9998) (.cons _ _ _ _ _ _ (by decide) (part_cell Try.underlying4 rfl rfl) (part_cell Try.underlying4 rfl rfl) (eqIn_b Try.underlying4 9998) (.cons _ _ _ _ _ _ (by decide) (part_cell Try.underlying4 rfl rfl) (part_cell Try.underlying4 rfl rfl) (eqIn_b Try.underlying4 9998) .nil))))))) ?_
   refine U.done (nr rfl) ?_
   refine WP.cond _ (L 0 rfl rfl) rfl (fun c44 => ?_) (fun c44 => ?_)
   ·have h45 := ifT c44 h35
    have k46 : ((decide (x22.kind = x33.kind)) && ((decide (x22.at_ = x33.at_)) && ((decide (x22.val = x33.val)) && ((decide (x22.what = x33.what)) && ((x22.volatile == x33.volatile) && ((x22.final == x33.final) && true)))))) = false := nT c44
    refine WP.usreg rfl ?_
    refine U.p rfl rfl (.inl rfl) (S.assign rfl K) ?_
    refine U.done (nr rfl) ?_
    refine WP.ret ?_
    refine blkR (sqR (sqR (blkR (sqR ?_))))
    have h47 := exitS h45 e17
    refine fin.slot (.inr rfl) rfl (L 0 rfl rfl) ⟨V12, rfl, le13, ?_⟩
    have e48 := Option.some.inj h47
    subst e48
    exact ⟨rfl, ow14⟩
   ·have h49 := ifF c44 h35
    have k50 : ((decide (x22.kind = x33.kind)) && ((decide (x22.at_ = x33.at_)) && ((decide (x22.val = x33.val)) && ((decide (x22.what = x33.what)) && ((x22.volatile == x33.volatile) && ((x22.final == x33.final) && true)))))) = true := nF c44
    refine WP.skip ?_
    refine blkN (sqN ?_)
    refine WP.ureg rfl ?_
    refine U.p rfl rfl (.inl rfl) (S.add rfl (L 15 rfl rfl) K) ?_
    refine U.p rfl rfl (.inl rfl) (S.move rfl (L 0 rfl rfl)) ?_
    refine U.done (nr rfl) ?_
    refine sqN ?_
    exact ⟨_, V12, rfl, ⟨m15, Nat.lt_succ_self _, w64 (x9 + 1), rfl, le13, ow14, backS h49 e17⟩, (allCons (L 14 rfl rfl) (allCons (L 15 rfl rfl) (allCons (L 16 rfl rfl) (allCons (L 0 rfl rfl) allNil))))⟩
  ·have h51 := ifF c20 h19
   refine WP.exit ?_
   refine sqE (sqE (blkE (sqN ?_)))
   have h52 := exitS h51 e17
   refine WP.usreg rfl ?_
   refine U.p rfl rfl (.inl rfl) (S.assign rfl K) ?_
   refine U.done (nr rfl) ?_
   refine WP.ret ?_
   refine fin.slot (.inr rfl) rfl (L 0 rfl rfl) ⟨V12, rfl, le13, ?_⟩
   have e53 := Option.some.inj h52
   subst e53
   exact ⟨rfl, ow14⟩
theorem wk_law11_TidyTwice (V : Vw) (Rs : List At) (p0 : TModule) (p1 : Ttidy_Options) (p2 : List Int) (v1 : Value) (v3 : Value) (v5 : Value) (f2 : Fz RT_TFunc V v1 p0.funcs) (f4 : Fz (RT.int .i64) V v3 p0.threads) (f6 : Fz (RT.int .i64) V v5 p2) (ow : Ow V (Rs)) (r : Bool) (h : law11_TidyTwice p0 p1 p2 = some r) : ∃ v V', Cl Try.prog 0 5 #[.agg #[v1, v3], .agg #[.bool p1.fold, .bool p1.copy, .bool p1.dead], v5] V.H v V'.H ∧ V.le V' ∧ (v = .bool r ∧ Ow V' (Rs)) := by
 refine Ct.of (Nat.zero_le _) Try.func5 rfl (nr rfl) ?_
 unfold law11_TidyTwice at h
 refine WP.usreg rfl ?_
 refine O.box ow rfl rfl (.inl rfl) rfl (L 0 rfl rfl) (by simp [topV]) rfl nd (fun b7 V8 le9 ow10 => ?_)
 refine O.box ow10 rfl rfl (.inl rfl) rfl (L 2 rfl rfl) (by simp [topV]) rfl nd (fun b12 V13 le14 ow15 => ?_)
 refine U.p rfl rfl (.inl rfl) (S.assign rfl K) ?_
 refine U.done (nr rfl) ?_
 refine WP.seq ?_
 refine WP.usreg rfl ?_
 obtain ⟨x17, hx18, h19⟩ := bindS h
 refine O.call (V := V13) rfl rfl (.inl rfl) rfl en6 aN (wk_law11_alive V13 _ ow15 _ hx18) (fun _ _ _ _ => nd) (fun v20 V21 le22 hp23 => ?_)
 obtain ⟨rfl, ow24⟩ := hp23
 refine U.p rfl rfl (.inl rfl) (S.not rfl (L 0 rfl rfl)) ?_
 refine U.done (nr rfl) ?_
 refine WP.cond _ (L 0 rfl rfl) rfl (fun c25 => ?_) (fun c25 => ?_)
 ·have h26 := ifT c25 h19
  have k27 : x17 = false := nT c25
  refine WP.usreg rfl ?_
  refine U.p rfl rfl (.inl rfl) (S.assign rfl K) ?_
  refine U.done (nr rfl) ?_
  refine WP.ret ?_
  refine sqR ?_
  refine fin.slot (.inr rfl) rfl (L 0 rfl rfl) ⟨V21, rfl, ((le9.trans le14).trans le22), ?_⟩
  have ow28 := ow24.drop 0 rfl
  have ow29 := ow28.drop 0 rfl
  have e30 := Option.some.inj h26
  subst e30
  exact ⟨rfl, ow29⟩
 ·have h31 := ifF c25 h19
  have k32 : x17 = true := nF c25
  refine WP.skip ?_
  refine sqN ?_
  refine WP.seq ?_
  refine WP.usreg rfl ?_
  refine U.k rfl rfl (.inl rfl) (S.loadB rfl (L 4 rfl rfl) Try.underlying25 rfl ti25 (ow24.own (k := 1) rfl).get rfl) nd ?_
  have f33 := f2.up ((le9.trans le14).trans le22)
  have f34 := f4.up ((le9.trans le14).trans le22)
  obtain ⟨x35, hx36, h37⟩ := bindS h31
  refine O.call (V := V21) rfl rfl (.inl rfl) rfl en7 (aC (L 0 rfl rfl) aN) (wk_law11_great V21 _ p0 v1 v3 f33 f34 ow24 _ hx36) (fun _ _ _ _ => nd) (fun v38 V39 le40 hp41 => ?_)
  obtain ⟨rfl, ow42⟩ := hp41
  refine U.p rfl rfl (.inl rfl) (S.move rfl (L 0 rfl rfl)) ?_
  refine U.joinX 7 (fun e H => ∃ (u43 u44 u45 : Value), H = V39.H ∧ e = [(22, .bool (x35 || (decide (100 < (p2.length : Int))))), (21, u43), (20, u44), (19, u45)]) ?_ ?_
  ·rintro _ _ ⟨u43, u44, u45, rfl, rfl⟩
   refine U.done (nr rfl) ?_
   refine WP.cond _ (L 0 rfl rfl) rfl (fun c49 => ?_) (fun c49 => ?_)
   ·have h50 := ifT c49 h37
    refine WP.usreg rfl ?_
    refine U.p rfl rfl (.inl rfl) (S.assign rfl K) ?_
    refine U.done (nr rfl) ?_
    refine WP.ret ?_
    refine sqR ?_
    refine fin.slot (.inr rfl) rfl (L 0 rfl rfl) ⟨V39, rfl, (((le9.trans le14).trans le22).trans le40), ?_⟩
    have ow51 := ow42.drop 0 rfl
    have ow52 := ow51.drop 0 rfl
    have e53 := Option.some.inj h50
    subst e53
    exact ⟨rfl, ow52⟩
   ·have h54 := ifF c49 h37
    refine WP.skip ?_
    refine sqN ?_
    refine WP.usreg rfl ?_
    refine U.k rfl rfl (.inl rfl) (S.loadB rfl (L 11 rfl rfl) Try.underlying25 rfl ti25 (ow42.own (k := 1) rfl).get rfl) nd ?_
    refine U.k rfl rfl (.inl rfl) (S.loadB rfl (L 11 rfl rfl) Try.underlying27 rfl ti27 (ow42.own (k := 0) rfl).get rfl) nd ?_
    have f55 := f33.up le40
    have f56 := f34.up le40
    obtain ⟨x57, hx58, h59⟩ := bindS h54
    refine O.call (V := V39) rfl rfl (.inl rfl) rfl en8 (aC (L 1 rfl rfl) (aC (L 0 rfl rfl) aN)) (wk_tidy_Module V39 _ p0 p1 v1 v3 f55 f56 ow42 _ hx58) (fun _ _ _ _ => nd) (fun v60 V61 le62 hp63 => ?_)
    obtain ⟨v65, v67, rfl, f66, f68, ow64⟩ := hp63
    refine O.alloc ow64 rfl rfl (.inl rfl) rfl ti25 rfl rfl nd (fun b69 V70 le71 ow72 => ?_)
    refine O.store (k := 0) (cs := [v65, v67]) (c' := [v65, v67]) ow72 rfl rfl rfl (.inl rfl) rfl (L 0 rfl rfl) (L 1 rfl rfl) ti25 (by simp [topV]) rfl rfl (nr rfl) (by have q0 := f66.one; have q1 := f68.one; simp only [List.all_cons, List.all_nil, q0, q1]; rfl) rfl nd (fun V74 le75 ow76 => ?_)
    refine U.done (nr rfl) ?_
    refine WP.usreg rfl ?_
    refine U.k rfl rfl (.inl rfl) (S.loadB rfl (L 0 rfl rfl) Try.underlying25 rfl ti25 (ow76.own (k := 0) rfl).get rfl) nd ?_
    refine U.k rfl rfl (.inl rfl) (S.loadB rfl (L 15 rfl rfl) Try.underlying27 rfl ti27 (ow76.own (k := 1) rfl).get rfl) nd ?_
    have f77 := f66.up (le71.trans le75)
    have f78 := f68.up (le71.trans le75)
    obtain ⟨x79, hx80, h81⟩ := bindS h59
    refine O.call (V := V74) rfl rfl (.inl rfl) rfl en8 (aC (L 1 rfl rfl) (aC (L 0 rfl rfl) aN)) (wk_tidy_Module V74 _ x57 p1 v65 v67 f77 f78 ow76 _ hx80) (fun _ _ _ _ => nd) (fun v82 V83 le84 hp85 => ?_)
    obtain ⟨v87, v89, rfl, f88, f90, ow86⟩ := hp85
    refine O.alloc ow86 rfl rfl (.inl rfl) rfl ti25 rfl rfl nd (fun b91 V92 le93 ow94 => ?_)
    refine O.store (k := 0) (cs := [v87, v89]) (c' := [v87, v89]) ow94 rfl rfl rfl (.inl rfl) rfl (L 0 rfl rfl) (L 1 rfl rfl) ti25 (by simp [topV]) rfl rfl (nr rfl) (by have q0 := f88.one; have q1 := f90.one; simp only [List.all_cons, List.all_nil, q0, q1]; rfl) rfl nd (fun V96 le97 ow98 => ?_)
    refine U.done (nr rfl) ?_
    refine WP.seq ?_
    refine WP.usreg rfl ?_
    refine U.p (v := .pointer (some ⟨b69, 0, none⟩)) rfl rfl (.inl rfl) (S.fieldAddr rfl (L 4 rfl rfl) Try.underlying25 rfl ti22 rfl rfl) ?_
    refine U.k rfl rfl (.inl rfl) (S.load rfl (L 0 rfl rfl) Try.underlying22 rfl ((ow98.own (k := 1) rfl).cell rfl)) nd ?_
    refine U.p rfl rfl (.inl rfl) (f77.1.len rfl (L 0 rfl rfl) Try.underlying22) ?_
    refine U.p rfl rfl (.inl rfl) (S.move rfl K) ?_
    refine U.done (nr rfl) ?_
    refine WP.blk ?_
    have ow100 := ow98.drop 2 rfl
    have ow101 := ow100.drop 2 rfl
    have ow102 := ow101.pick 0 rfl
    have ow103 := ow102.pick 1 rfl
    unfold law11_TidyTwice_l1 at h81
    obtain ⟨n105, hn104⟩ := loopO_some.1 h81
    refine WP.loopI2 (fun n l V' => ∃ (x99 : Int), l = [(2, v5), (7, .pointer (some ⟨b69, 0, none⟩)), (8, .pointer (some ⟨b91, 0, none⟩)), (31, .int .i64 (x57.funcs.length : Int)), (32, .int .i64 x99)] ∧ V96.le V' ∧ Ow V' (.pt b69 (.cells 2 [v65, v67]) :: .pt b91 (.cells 2 [v87, v89]) :: Rs) ∧ itO (fun s => law11_TidyTwice_l1b p2 x57 x79 s) n x99 = some r) n105 _ ⟨0, rfl, .refl _, ow103, hn104⟩ (allCons (L 26 rfl rfl) (allCons (L 8 rfl rfl) (allCons (L 4 rfl rfl) (allCons (L 1 rfl rfl) (allCons (L 0 rfl rfl) allNil))))) ?_
    rintro _ _ V106 ⟨x99, rfl, le107, ow108, h112⟩
    obtain ⟨m109, q110, rfl, h113, e111⟩ := itS h112
    replace h113 : law11_TidyTwice_l1b p2 x57 x79 x99 = some q110 := h113
    unfold law11_TidyTwice_l1b at h113
    refine WP.usreg rfl ?_
    refine U.p rfl rfl (.inl rfl) (S.lss rfl (L 4 rfl rfl) (L 3 rfl rfl)) ?_
    refine U.done (nr rfl) ?_
    refine WP.seq ?_
    refine WP.cond _ (L 0 rfl rfl) rfl (fun c114 => ?_) (fun c114 => ?_)
    ·have h115 := ifT c114 h113
     refine WP.skip ?_
     refine sqN ?_
     refine WP.seq ?_
     refine WP.blk ?_
     refine WP.usreg rfl ?_
     refine U.p rfl rfl (.inl rfl) (S.move rfl (L 5 rfl rfl)) ?_
     refine U.p rfl rfl (.inl rfl) (S.assign rfl (L 0 rfl rfl)) ?_
     refine U.done (nr rfl) ?_
     refine WP.usdreg rfl rfl rfl ?_
     refine U.p (v := .pointer (some ⟨b91, 0, none⟩)) rfl rfl (.inl rfl) (S.fieldAddr rfl (L 5 rfl rfl) Try.underlying25 rfl ti22 rfl rfl) ?_
     refine U.k rfl rfl (.inl rfl) (S.load rfl (L 0 rfl rfl) Try.underlying22 rfl ((ow108.own (k := 1) rfl).cell rfl)) (fun _ => (okH.nil (fun r h => by cases h; exact (ow108.own (k := 1) rfl).lt))) ?_
     refine U.p rfl rfl (.inl rfl) (S.move rfl (L 2 rfl rfl)) ?_
     obtain ⟨x116, hx117, h118⟩ := bindS h115
     obtain ⟨b119, o120, c121, cs122, hv123, hf124, hr125, hc126⟩ := f88.at hx117
     obtain ⟨v127, rfl, f128⟩ := hr125
     refine U.p rfl rfl (.inl rfl) (S.index rfl ((L 1 rfl rfl).trans hv123) (L 0 rfl rfl) Try.underlying22 ti38 (ix_ge hx117) (ix_lt hx117)) ?_
     refine U.p (v := .pointer (some ⟨b119, o120 + Int.toNat x99 * 4 + 3, none⟩)) rfl rfl (.inl rfl) (S.fieldAddr rfl (L 0 rfl rfl) Try.underlying38 rfl ti36 rfl rfl) ?_
     refine U.k rfl rfl (.inl rfl) (S.load rfl (L 0 rfl rfl) Try.underlying36 rfl (((le93.trans le97).trans le107).cell hf124 (hc126 3 _ rfl))) (fun _ => (okH.cons trivial (okH.nil (fun r h => by cases h; exact (V106.wf _ (((le93.trans le97).trans le107).sub _ hf124)))))) ?_
     refine U.p rfl rfl (.inl rfl) (f128.1.len rfl (L 0 rfl rfl) Try.underlying36) ?_
     refine U.p (v := .pointer (some ⟨b69, 0, none⟩)) rfl rfl (.inl rfl) (S.fieldAddr rfl (L 11 rfl rfl) Try.underlying25 rfl ti22 rfl rfl) ?_
     refine U.k rfl rfl (.inl rfl) (S.load rfl (L 0 rfl rfl) Try.underlying22 rfl ((ow108.own (k := 0) rfl).cell rfl)) (fun _ => (okH.cons trivial (okH.cons trivial (okH.nil (fun r h => by cases h; exact (ow108.own (k := 0) rfl).lt))))) ?_
     refine U.p rfl rfl (.inl rfl) (S.move rfl (L 9 rfl rfl)) ?_
     obtain ⟨x129, hx130, h131⟩ := bindS h118
     obtain ⟨b132, o133, c134, cs135, hv136, hf137, hr138, hc139⟩ := f77.at hx130
     obtain ⟨v140, rfl, f141⟩ := hr138
     refine U.p rfl rfl (.inl rfl) (S.index rfl ((L 1 rfl rfl).trans hv136) (L 0 rfl rfl) Try.underlying22 ti38 (ix_ge hx130) (ix_lt hx130)) ?_
     refine U.p (v := .pointer (some ⟨b132, o133 + Int.toNat x99 * 4 + 3, none⟩)) rfl rfl (.inl rfl) (S.fieldAddr rfl (L 0 rfl rfl) Try.underlying38 rfl ti36 rfl rfl) ?_
     refine U.k rfl rfl (.inl rfl) (S.load rfl (L 0 rfl rfl) Try.underlying36 rfl ((((le84.trans le93).trans le97).trans le107).cell hf137 (hc139 3 _ rfl))) (fun _ => (okH.cons trivial (okH.cons trivial (okH.cons trivial (okH.nil (fun r h => by cases h; exact (V106.wf _ ((((le84.trans le93).trans le97).trans le107).sub _ hf137)))))))) ?_
     refine U.p rfl rfl (.inl rfl) (f141.1.len rfl (L 0 rfl rfl) Try.underlying36) ?_
     refine U.p rfl rfl (.inl rfl) (S.add rfl (L 0 rfl rfl) K) ?_
     refine U.p rfl rfl (.inl rfl) (S.gtr rfl (L 8 rfl rfl) (L 0 rfl rfl)) ?_
     refine U.done (nr rfl) ?_
     refine WP.cond _ (L 0 rfl rfl) rfl (fun c142 => ?_) (fun c142 => ?_)
     ·have h143 := ifT c142 h131
      refine WP.usreg rfl ?_
      refine U.p rfl rfl (.inl rfl) (S.assign rfl K) ?_
      refine U.done (nr rfl) ?_
      refine WP.ret ?_
      refine blkR (sqR (sqR (blkR (sqR ?_))))
      have h144 := exitS h143 e111
      refine fin.slot (.inr rfl) rfl (L 0 rfl rfl) ⟨V106, rfl, ((((((((((le9.trans le14).trans le22).trans le40).trans le62).trans le71).trans le75).trans le84).trans le93).trans le97).trans le107), ?_⟩
      have ow145 := ow108.drop 0 rfl
      have ow146 := ow145.drop 0 rfl
      have e147 := Option.some.inj h144
      subst e147
      exact ⟨rfl, ow146⟩
     ·have h148 := ifF c142 h131
      refine WP.skip ?_
      refine blkN (sqN ?_)
      refine WP.ureg rfl ?_
      refine U.p rfl rfl (.inl rfl) (S.add rfl (L 23 rfl rfl) K) ?_
      refine U.p rfl rfl (.inl rfl) (S.move rfl (L 0 rfl rfl)) ?_
      refine U.done (nr rfl) ?_
      refine sqN ?_
      exact ⟨_, V106, rfl, ⟨m109, Nat.lt_succ_self _, w64 (x99 + 1), rfl, le107, ow108, backS h148 e111⟩, (allCons (L 21 rfl rfl) (allCons (L 22 rfl rfl) (allCons (L 23 rfl rfl) (allCons (L 24 rfl rfl) (allCons (L 0 rfl rfl) allNil)))))⟩
    ·have h149 := ifF c114 h113
     refine WP.exit ?_
     refine sqE (sqE (blkE (sqN ?_)))
     have h150 := exitS h149 e111
     refine WP.usreg rfl ?_
     refine U.k rfl rfl (.inl rfl) (S.loadB rfl (L 2 rfl rfl) Try.underlying25 rfl ti25 (ow108.own (k := 0) rfl).get rfl) nd ?_
     refine U.p rfl rfl (.inl rfl) (S.move rfl (L 2 rfl rfl)) ?_
     have f151 := f77.up (((le84.trans le93).trans le97).trans le107)
     have f152 := f78.up (((le84.trans le93).trans le97).trans le107)
     have f153 := f6.up ((((((((((le9.trans le14).trans le22).trans le40).trans le62).trans le71).trans le75).trans le84).trans le93).trans le97).trans le107)
     obtain ⟨x154, hx155, h156⟩ := bindS h150
     refine O.call (V := V106) rfl rfl (.inl rfl) rfl en10 (aC (L 1 rfl rfl) (aC K (aC (L 0 rfl rfl) (aC K aN)))) (wk_ref08_Run V106 _ x57 0 p2 2000 v65 v67 v5 f151 f152 f153 ow108 _ hx155) (fun _ _ _ _ => nd) (fun v157 V158 le159 hp160 => ?_)
     obtain ⟨v162, rfl, ow161⟩ := hp160
     obtain ⟨V164, eV168, le165, f166, ow167⟩ := ow161.osfz (k := 0) rfl
     rw [← eV168]
     refine U.p rfl rfl (.inl rfl) (S.move rfl (L 0 rfl rfl)) ?_
     refine U.p rfl rfl (.inl rfl) (S.extract rfl (L 0 rfl rfl) rfl (nr rfl)) ?_
     refine U.p rfl rfl (.inl rfl) (S.extract rfl (L 1 rfl rfl) rfl (nr rfl)) ?_
     refine U.p rfl rfl (.inl rfl) (S.assign rfl (L 1 rfl rfl)) ?_
     refine U.p rfl rfl (.inl rfl) (S.assign rfl (L 1 rfl rfl)) ?_
     refine U.done (nr rfl) ?_
     refine WP.usreg rfl ?_
     refine U.k rfl rfl (.inl rfl) (S.loadB rfl (L 11 rfl rfl) Try.underlying25 rfl ti25 (ow167.own (k := 1) rfl).get rfl) nd ?_
     refine U.p rfl rfl (.inl rfl) (S.move rfl (L 10 rfl rfl)) ?_
     have f170 := f88.up ((((le93.trans le97).trans le107).trans le159).trans le165)
     have f171 := f90.up ((((le93.trans le97).trans le107).trans le159).trans le165)
     have f172 := f153.up (le159.trans le165)
     obtain ⟨x173, hx174, h175⟩ := bindS h156
     refine O.call (V := V164) rfl rfl (.inl rfl) rfl en10 (aC (L 1 rfl rfl) (aC K (aC (L 0 rfl rfl) (aC K aN)))) (wk_ref08_Run V164 _ x79 0 p2 2000 v87 v89 v5 f170 f171 f172 ow167 _ hx174) (fun _ _ _ _ => nd) (fun v176 V177 le178 hp179 => ?_)
     obtain ⟨v181, rfl, ow180⟩ := hp179
     obtain ⟨V183, eV187, le184, f185, ow186⟩ := ow180.osfz (k := 0) rfl
     rw [← eV187]
     refine U.p rfl rfl (.inl rfl) (S.move rfl (L 0 rfl rfl)) ?_
     refine U.p rfl rfl (.inl rfl) (S.extract rfl (L 0 rfl rfl) rfl (nr rfl)) ?_
     refine U.p rfl rfl (.inl rfl) (S.extract rfl (L 1 rfl rfl) rfl (nr rfl)) ?_
     refine U.p rfl rfl (.inl rfl) (S.assign rfl (L 1 rfl rfl)) ?_
     refine U.p rfl rfl (.inl rfl) (S.assign rfl (L 1 rfl rfl)) ?_
     refine U.done (nr rfl) ?_
     refine WP.usreg rfl ?_
     refine U.p rfl rfl (.inl rfl) (S.move rfl (L 9 rfl rfl)) ?_
     refine U.p rfl rfl (.inl rfl) (f166.1.len rfl (L 0 rfl rfl) Try.underlying31) ?_
     refine U.p rfl rfl (.inl rfl) (S.move rfl (L 3 rfl rfl)) ?_
     refine U.p rfl rfl (.inl rfl) (f185.1.len rfl (L 0 rfl rfl) Try.underlying31) ?_
     refine U.p rfl rfl (.inl rfl) (S.leq rfl (L 2 rfl rfl) (L 0 rfl rfl)) ?_
     refine U.p rfl rfl (.inl rfl) (S.move rfl (L 0 rfl rfl)) ?_
     obtain ⟨y189, hy190, h191⟩ := bindS h175
     refine U.joinX 13 (fun e H => ∃ (u192 u193 u194 u195 u196 u197 : Value), ∃ V' : Vw, H = V'.H ∧ V183.le V' ∧ e = [(76, .bool y189), (75, u192), (74, u193), (73, u194), (72, u195), (71, u196), (70, u197)] ∧ Ow V' (.pt b69 (.cells 2 [v65, v67]) :: .pt b91 (.cells 2 [v87, v89]) :: Rs)) ?_ ?_
     ·rintro _ _ ⟨u192, u193, u194, u195, u196, u197, V198, rfl, le199, rfl, ow200⟩
      refine U.p rfl rfl (.inl rfl) (S.move rfl (L 0 rfl rfl)) ?_
      refine U.joinX 27 (fun e H => ∃ (u201 u202 u203 u204 u205 u206 u207 u208 u209 u210 u211 u212 : Value), H = V198.H ∧ e = [(90, .bool (y189 && ((!x154.2) || (x173.2 && (decide ((x154.1.length : Int) = (x173.1.length : Int))))))), (89, u201), (88, u202), (87, u203), (86, u204), (85, u205), (84, u206), (83, u207), (82, u208), (81, u209), (80, u210), (79, u211), (78, u212)]) ?_ ?_
      ·rintro _ _ ⟨u201, u202, u203, u204, u205, u206, u207, u208, u209, u210, u211, u212, rfl, rfl⟩
       refine U.p rfl rfl (.inl rfl) (S.assign rfl (L 0 rfl rfl)) ?_
       refine U.done (nr rfl) ?_
       refine WP.ret ?_
       refine fin.slot (.inr rfl) rfl (L 0 rfl rfl) ⟨V198, rfl, (((((((((((((((le9.trans le14).trans le22).trans le40).trans le62).trans le71).trans le75).trans le84).trans le93).trans le97).trans le107).trans le159).trans le165).trans le178).trans le184).trans le199), ?_⟩
       have ow216 := ow200.drop 0 rfl
       have ow217 := ow216.drop 0 rfl
       have e218 := Option.some.inj h191
       subst e218
       exact ⟨rfl, ow217⟩
      ·intro kk
       refine bcase (b := y189) (fun g219 => ?_) (fun g219 => ?_)
       ·skip
        refine U.p rfl rfl (.inr ⟨_, _, _, rfl, rfl, ((L 0 rfl rfl).trans (cB g219))⟩) (S.move rfl (L 22 rfl rfl)) ?_
        refine U.p rfl rfl (.inr ⟨_, _, _, rfl, rfl, ((L 1 rfl rfl).trans (cB g219))⟩) (S.not rfl (L 0 rfl rfl)) ?_
        refine U.p rfl rfl (.inr ⟨_, _, _, rfl, rfl, ((L 2 rfl rfl).trans (cB g219))⟩) (S.move rfl (L 0 rfl rfl)) ?_
        refine U.joinX 26 (fun e H => ∃ (u220 u221 u222 u223 u224 u225 u226 u227 : Value), H = V198.H ∧ e = [(89, .bool ((!x154.2) || (x173.2 && (decide ((x154.1.length : Int) = (x173.1.length : Int)))))), (88, u220), (87, u221), (86, u222), (85, u223), (84, u224), (83, u225), (82, u226), (81, u227)]) ?_ ?_
        ·rintro _ _ ⟨u220, u221, u222, u223, u224, u225, u226, u227, rfl, rfl⟩
         refine U.p rfl rfl (.inl rfl) (S.pickT rfl ((L 12 rfl rfl).trans (cB g219)) (L 0 rfl rfl)) ?_
         exact kk [(90, .bool ((!x154.2) || (x173.2 && (decide ((x154.1.length : Int) = (x173.1.length : Int)))))), (89, .bool ((!x154.2) || (x173.2 && (decide ((x154.1.length : Int) = (x173.1.length : Int)))))), (88, u220), (87, u221), (86, u222), (85, u223), (84, u224), (83, u225), (82, u226), (81, u227), (80, .bool (!x154.2)), (79, .bool (!x154.2)), (78, .bool x154.2)] _ ⟨.bool ((!x154.2) || (x173.2 && (decide ((x154.1.length : Int) = (x173.1.length : Int))))), u220, u221, u222, u223, u224, u225, u226, u227, .bool (!x154.2), .bool (!x154.2), .bool x154.2, rfl, (by rw [g219, Bool.true_and])⟩
        ·intro kk
         refine bcase (b := !x154.2) (fun g231 => ?_) (fun g231 => ?_)
         ·skip
          have k232 : x154.2 = false := nT g231
          refine U.x rfl rfl rfl rfl ((L 0 rfl rfl).trans (cB g231)) (by decide) ?_
          refine U.x rfl rfl rfl rfl ((L 1 rfl rfl).trans (cB g231)) (by decide) ?_
          refine U.z rfl rfl rfl rfl (L 0 rfl rfl) ?_
          refine U.z rfl rfl rfl rfl (L 1 rfl rfl) ?_
          refine U.z rfl rfl rfl rfl (L 2 rfl rfl) ?_
          refine U.z rfl rfl rfl rfl (L 3 rfl rfl) ?_
          refine U.z rfl rfl rfl rfl (L 4 rfl rfl) ?_
          refine U.x rfl rfl rfl rfl ((L 7 rfl rfl).trans (cB g231)) (by decide) ?_
          refine U.p rfl rfl (.inr ⟨_, _, _, rfl, rfl, ((L 11 rfl rfl).trans (cB g219))⟩) (S.pickT rfl ((L 8 rfl rfl).trans (cB g231)) K) ?_
          exact kk [(89, .bool true), (88, .tuple #[]), (87, .tuple #[]), (86, .tuple #[]), (85, .tuple #[]), (84, .tuple #[]), (83, .tuple #[]), (82, .tuple #[]), (81, .tuple #[])] _ ⟨.tuple #[], .tuple #[], .tuple #[], .tuple #[], .tuple #[], .tuple #[], .tuple #[], .tuple #[], rfl, (by rw [g231, Bool.true_or])⟩
         ·skip
          have k233 : x154.2 = true := nF g231
          refine U.p rfl rfl (.inr ⟨_, _, _, rfl, rfl, ((L 0 rfl rfl).trans (cB g231))⟩) (S.move rfl (L 17 rfl rfl)) ?_
          refine U.p rfl rfl (.inr ⟨_, _, _, rfl, rfl, ((L 1 rfl rfl).trans (cB g231))⟩) (S.move rfl (L 0 rfl rfl)) ?_
          refine U.joinX 25 (fun e H => ∃ (u234 u235 u236 u237 u238 : Value), H = V198.H ∧ e = [(88, .bool (x173.2 && (decide ((x154.1.length : Int) = (x173.1.length : Int))))), (87, u234), (86, u235), (85, u236), (84, u237), (83, u238)]) ?_ ?_
          ·rintro _ _ ⟨u234, u235, u236, u237, u238, rfl, rfl⟩
           refine U.p rfl rfl (.inr ⟨_, _, _, rfl, rfl, ((L 11 rfl rfl).trans (cB g219))⟩) (S.pickF rfl ((L 8 rfl rfl).trans (cB g231)) (L 0 rfl rfl)) ?_
           exact kk [(89, .bool (x173.2 && (decide ((x154.1.length : Int) = (x173.1.length : Int))))), (88, .bool (x173.2 && (decide ((x154.1.length : Int) = (x173.1.length : Int))))), (87, u234), (86, u235), (85, u236), (84, u237), (83, u238), (82, .bool x173.2), (81, .bool x173.2)] _ ⟨.bool (x173.2 && (decide ((x154.1.length : Int) = (x173.1.length : Int)))), u234, u235, u236, u237, u238, .bool x173.2, .bool x173.2, rfl, (by rw [g231, Bool.false_or])⟩
          ·intro kk
           refine bcase (b := x173.2) (fun g242 => ?_) (fun g242 => ?_)
           ·skip
            refine U.p rfl rfl (.inr ⟨_, _, _, rfl, rfl, ((L 0 rfl rfl).trans (cB g242))⟩) (S.move rfl (L 28 rfl rfl)) ?_
            refine U.p rfl rfl (.inr ⟨_, _, _, rfl, rfl, ((L 1 rfl rfl).trans (cB g242))⟩) (f166.1.len rfl (L 0 rfl rfl) Try.underlying31) ?_
            refine U.p rfl rfl (.inr ⟨_, _, _, rfl, rfl, ((L 2 rfl rfl).trans (cB g242))⟩) (S.move rfl (L 22 rfl rfl)) ?_
            refine U.p rfl rfl (.inr ⟨_, _, _, rfl, rfl, ((L 3 rfl rfl).trans (cB g242))⟩) (f185.1.len rfl (L 0 rfl rfl) Try.underlying31) ?_
            refine U.p rfl rfl (.inr ⟨_, _, _, rfl, rfl, ((L 4 rfl rfl).trans (cB g242))⟩) (S.eqlI rfl (L 2 rfl rfl) (L 0 rfl rfl)) ?_
            refine U.p rfl rfl (.inr ⟨_, _, _, rfl, rfl, ((L 7 rfl rfl).trans (cB g231))⟩) (S.pickT rfl ((L 5 rfl rfl).trans (cB g242)) (L 0 rfl rfl)) ?_
            exact kk [(88, .bool (decide ((x154.1.length : Int) = (x173.1.length : Int)))), (87, .bool (decide ((x154.1.length : Int) = (x173.1.length : Int)))), (86, .int .i64 (x173.1.length : Int)), (85, v181), (84, .int .i64 (x154.1.length : Int)), (83, v162)] _ ⟨.bool (decide ((x154.1.length : Int) = (x173.1.length : Int))), .int .i64 (x173.1.length : Int), v181, .int .i64 (x154.1.length : Int), v162, rfl, (by rw [g242, Bool.true_and])⟩
           ·skip
            refine U.x rfl rfl rfl rfl ((L 0 rfl rfl).trans (cB g242)) (by decide) ?_
            refine U.x rfl rfl rfl rfl ((L 1 rfl rfl).trans (cB g242)) (by decide) ?_
            refine U.x rfl rfl rfl rfl ((L 2 rfl rfl).trans (cB g242)) (by decide) ?_
            refine U.x rfl rfl rfl rfl ((L 3 rfl rfl).trans (cB g242)) (by decide) ?_
            refine U.x rfl rfl rfl rfl ((L 4 rfl rfl).trans (cB g242)) (by decide) ?_
            refine U.p rfl rfl (.inr ⟨_, _, _, rfl, rfl, ((L 7 rfl rfl).trans (cB g231))⟩) (S.pickF rfl ((L 5 rfl rfl).trans (cB g242)) K) ?_
            exact kk [(88, .bool false), (87, .tuple #[]), (86, .tuple #[]), (85, .tuple #[]), (84, .tuple #[]), (83, .tuple #[])] _ ⟨.tuple #[], .tuple #[], .tuple #[], .tuple #[], .tuple #[], rfl, (by rw [g242, Bool.false_and])⟩
       ·skip
        refine U.x rfl rfl rfl rfl ((L 0 rfl rfl).trans (cB g219)) (by decide) ?_
        refine U.x rfl rfl rfl rfl ((L 1 rfl rfl).trans (cB g219)) (by decide) ?_
        refine U.x rfl rfl rfl rfl ((L 2 rfl rfl).trans (cB g219)) (by decide) ?_
        refine U.z rfl rfl rfl rfl (L 0 rfl rfl) ?_
        refine U.z rfl rfl rfl rfl (L 1 rfl rfl) ?_
        refine U.z rfl rfl rfl rfl (L 0 rfl rfl) ?_
        refine U.z rfl rfl rfl rfl (L 1 rfl rfl) ?_
        refine U.z rfl rfl rfl rfl (L 2 rfl rfl) ?_
        refine U.z rfl rfl rfl rfl (L 3 rfl rfl) ?_
        refine U.z rfl rfl rfl rfl (L 4 rfl rfl) ?_
        refine U.z rfl rfl rfl rfl (L 7 rfl rfl) ?_
        refine U.x rfl rfl rfl rfl ((L 11 rfl rfl).trans (cB g219)) (by decide) ?_
        refine U.p rfl rfl (.inl rfl) (S.pickF rfl ((L 12 rfl rfl).trans (cB g219)) K) ?_
        exact kk [(90, .bool false), (89, .tuple #[]), (88, .tuple #[]), (87, .tuple #[]), (86, .tuple #[]), (85, .tuple #[]), (84, .tuple #[]), (83, .tuple #[]), (82, .tuple #[]), (81, .tuple #[]), (80, .tuple #[]), (79, .tuple #[]), (78, .tuple #[])] _ ⟨.tuple #[], .tuple #[], .tuple #[], .tuple #[], .tuple #[], .tuple #[], .tuple #[], .tuple #[], .tuple #[], .tuple #[], .tuple #[], .tuple #[], rfl, (by rw [g219, Bool.false_and])⟩
     ·intro kk
      refine bcase (b := decide ((x154.1.length : Int) ≤ (x173.1.length : Int))) (fun g243 => ?_) (fun g243 => ?_)
      ·have h244 := ifT g243 hy190
       refine U.p rfl rfl (.inr ⟨_, _, _, rfl, rfl, ((L 0 rfl rfl).trans (cB g243))⟩) (S.move rfl (L 15 rfl rfl)) ?_
       refine U.p rfl rfl (.inr ⟨_, _, _, rfl, rfl, ((L 1 rfl rfl).trans (cB g243))⟩) (S.move rfl (L 8 rfl rfl)) ?_
       refine U.p rfl rfl (.inr ⟨_, _, _, rfl, rfl, ((L 2 rfl rfl).trans (cB g243))⟩) (S.move rfl (L 17 rfl rfl)) ?_
       refine U.p rfl rfl (.inr ⟨_, _, _, rfl, rfl, ((L 3 rfl rfl).trans (cB g243))⟩) (f166.1.len rfl (L 0 rfl rfl) Try.underlying31) ?_
       obtain ⟨xs245, hx246, h247⟩ := bindS h244
       refine O.subF f185 hx246 rfl rfl (.inr ⟨_, _, _, rfl, rfl, ((L 4 rfl rfl).trans (cB g243))⟩) rfl (L 2 rfl rfl) Try.underlying31 ti51 ⟨.inl ⟨rfl, rfl⟩, .inr ⟨_, _, rfl, (L 0 rfl rfl)⟩, .inl rfl⟩ (fun v248 f250 => ?_)
       have f251 := f166.up (le178.trans le184)
       obtain ⟨x252, hx253, h254⟩ := bindS h247
       refine O.call (V := V183) rfl rfl (.inr ⟨_, _, _, rfl, rfl, ((L 5 rfl rfl).trans (cB g243))⟩) rfl en11 (aC (L 4 rfl rfl) (aC (L 0 rfl rfl) aN)) (wk_ref07_Same_3 V183 _ x154.1 xs245 v162 v248 f251 f250 ow186 _ hx253) (fun _ _ _ _ => nd) (fun v255 V256 le257 hp258 => ?_)
       obtain ⟨rfl, ow259⟩ := hp258
       refine U.p rfl rfl (.inl rfl) (S.pickT rfl ((L 6 rfl rfl).trans (cB g243)) (L 0 rfl rfl)) ?_
       have e260 := Option.some.inj h254
       subst e260
       exact kk [(76, .bool x252), (75, .bool x252), (74, v248), (73, .int .i64 (x154.1.length : Int)), (72, v162), (71, v181), (70, v162)] _ ⟨.bool x252, v248, .int .i64 (x154.1.length : Int), v162, v181, v162, V256, rfl, le257, rfl, ow259⟩
      ·have h261 := ifF g243 hy190
       refine U.x rfl rfl rfl rfl ((L 0 rfl rfl).trans (cB g243)) (by decide) ?_
       refine U.x rfl rfl rfl rfl ((L 1 rfl rfl).trans (cB g243)) (by decide) ?_
       refine U.x rfl rfl rfl rfl ((L 2 rfl rfl).trans (cB g243)) (by decide) ?_
       refine U.x rfl rfl rfl rfl ((L 3 rfl rfl).trans (cB g243)) (by decide) ?_
       refine U.x rfl rfl rfl rfl ((L 4 rfl rfl).trans (cB g243)) (by decide) ?_
       refine U.x rfl rfl rfl rfl ((L 5 rfl rfl).trans (cB g243)) (by decide) ?_
       refine U.p rfl rfl (.inl rfl) (S.pickF rfl ((L 6 rfl rfl).trans (cB g243)) K) ?_
       have e262 := Option.some.inj h261
       subst e262
       exact kk [(76, .bool false), (75, .tuple #[]), (74, .tuple #[]), (73, .tuple #[]), (72, .tuple #[]), (71, .tuple #[]), (70, .tuple #[])] _ ⟨.tuple #[], .tuple #[], .tuple #[], .tuple #[], .tuple #[], .tuple #[], V183, rfl, (.refl _), rfl, ow186⟩
  ·intro kk
   refine bcase (b := x35) (fun g263 => ?_) (fun g263 => ?_)
   ·skip
    refine U.x rfl rfl rfl rfl ((L 0 rfl rfl).trans (cB g263)) (by decide) ?_
    refine U.x rfl rfl rfl rfl ((L 1 rfl rfl).trans (cB g263)) (by decide) ?_
    refine U.x rfl rfl rfl rfl ((L 2 rfl rfl).trans (cB g263)) (by decide) ?_
    refine U.p rfl rfl (.inl rfl) (S.pickT rfl ((L 3 rfl rfl).trans (cB g263)) K) ?_
    exact kk [(22, .bool true), (21, .tuple #[]), (20, .tuple #[]), (19, .tuple #[])] _ ⟨.tuple #[], .tuple #[], .tuple #[], rfl, (by rw [g263, Bool.true_or])⟩
   ·skip
    refine U.p rfl rfl (.inr ⟨_, _, _, rfl, rfl, ((L 0 rfl rfl).trans (cB g263))⟩) (S.move rfl (L 10 rfl rfl)) ?_
    refine U.p rfl rfl (.inr ⟨_, _, _, rfl, rfl, ((L 1 rfl rfl).trans (cB g263))⟩) (f6.1.len rfl (L 0 rfl rfl) Try.underlying23) ?_
    refine U.p rfl rfl (.inr ⟨_, _, _, rfl, rfl, ((L 2 rfl rfl).trans (cB g263))⟩) (S.gtr rfl (L 0 rfl rfl) K) ?_
    refine U.p rfl rfl (.inl rfl) (S.pickF rfl ((L 3 rfl rfl).trans (cB g263)) (L 0 rfl rfl)) ?_
    exact kk [(22, .bool (decide (100 < (p2.length : Int)))), (21, .bool (decide (100 < (p2.length : Int)))), (20, .int .i64 (p2.length : Int)), (19, v5)] _ ⟨.bool (decide (100 < (p2.length : Int))), .int .i64 (p2.length : Int), v5, rfl, (by rw [g263, Bool.false_or])⟩
end Go.Vm.G11
