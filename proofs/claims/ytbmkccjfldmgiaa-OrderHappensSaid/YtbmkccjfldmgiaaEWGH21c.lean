/-
  What the functions compute is what the plain ones say, for all inputs at which those answer.
-/
import Derived.Test.YtbmkccjfldmgiaaEWGH21b
set_option linter.unusedSimpArgs false
set_option linter.unusedVariables false
namespace Go.Vm.GH21
open Go Go.Proofs

set_option maxHeartbeats 4000000 in
set_option maxRecDepth 10000 in
theorem wk_ref21_Release (V : Vw) (Rs : List At) (p0 : Tref21_Node) (p1 : Tref21_Node) (ow : Ow V (Rs)) (r : Bool) (h : ref21_Release p0 p1 = some r) : ∃ v V', Cl Try.prog 0 57 #[.agg #[.int .i64 p0.e.t, .int .i64 p0.e.act.kind, .int .i64 p0.e.act.at_, .int .i64 p0.e.act.val, .int .i64 p0.e.act.what, .bool p0.e.act.volatile, .bool p0.e.act.final, .int .i64 p0.e.rf, .int .i64 p0.e.id, .int .i64 p0.at_], .agg #[.int .i64 p1.e.t, .int .i64 p1.e.act.kind, .int .i64 p1.e.act.at_, .int .i64 p1.e.act.val, .int .i64 p1.e.act.what, .bool p1.e.act.volatile, .bool p1.e.act.final, .int .i64 p1.e.rf, .int .i64 p1.e.id, .int .i64 p1.at_]] V.H v V'.H ∧ V.le V' ∧ (v = .bool r ∧ Ow V' (Rs)) := by
  refine Ct.of (Nat.zero_le _) Try.func57 rfl (Nat.le_of_ble_eq_true rfl) ?_
  unfold ref21_Release at h
  refine WP.usreg rfl ?_
  refine O.box ow rfl rfl (.inl rfl) rfl (L 0 rfl rfl) (by simp [topV]) rfl nd (fun b1 V2 le3 ow4 => ?_)
  refine O.box ow4 rfl rfl (.inl rfl) rfl (L 2 rfl rfl) (by simp [topV]) rfl nd (fun b6 V7 le8 ow9 => ?_)
  refine U.p rfl rfl (.inl rfl) (S.assign rfl K) ?_
  refine U.done (Nat.le_of_ble_eq_true rfl) ?_
  refine WP.usreg rfl ?_
  refine U.p (v := .pointer (some ⟨b1, 0, none⟩)) rfl rfl (.inl rfl) (S.fieldAddr rfl (L 2 rfl rfl) Try.underlying52 rfl ti31 rfl rfl) ?_
  refine U.p (v := .pointer (some ⟨b1, 1, none⟩)) rfl rfl (.inl rfl) (S.fieldAddr rfl (L 0 rfl rfl) Try.underlying31 rfl ti29 rfl rfl) ?_
  refine U.p (v := .pointer (some ⟨b1, 1, none⟩)) rfl rfl (.inl rfl) (S.fieldAddr rfl (L 0 rfl rfl) Try.underlying29 rfl ti3 rfl rfl) ?_
  refine U.k rfl rfl (.inl rfl) (S.load rfl (L 0 rfl rfl) Try.underlying3 rfl ((ow9.own (k := 1) rfl).cell rfl)) nd ?_
  refine U.p rfl rfl (.inl rfl) (S.eqlI rfl (L 0 rfl rfl) K) ?_
  refine U.p rfl rfl (.inl rfl) (S.move rfl (L 0 rfl rfl)) ?_
  refine U.joinX 18 (fun e H => ∃ (u11 u12 u13 u14 u15 u16 u17 u18 u19 u20 u21 : Value), H = V7.H ∧ e = [(24, .bool ((decide (p0.e.act.kind = 6)) || ((decide (p0.e.act.kind = 2)) && p0.e.act.volatile))), (23, u11), (22, u12), (21, u13), (20, u14), (19, u15), (18, u16), (17, u17), (16, u18), (15, u19), (14, u20), (13, u21)]) ?_ ?_
  · rintro _ _ ⟨u11, u12, u13, u14, u15, u16, u17, u18, u19, u20, u21, rfl, rfl⟩
    refine U.p rfl rfl (.inl rfl) (S.assign rfl (L 0 rfl rfl)) ?_
    refine U.done (Nat.le_of_ble_eq_true rfl) ?_
    refine WP.usreg rfl ?_
    refine U.p (v := .pointer (some ⟨b6, 0, none⟩)) rfl rfl (.inl rfl) (S.fieldAddr rfl (L 20 rfl rfl) Try.underlying52 rfl ti31 rfl rfl) ?_
    refine U.p (v := .pointer (some ⟨b6, 1, none⟩)) rfl rfl (.inl rfl) (S.fieldAddr rfl (L 0 rfl rfl) Try.underlying31 rfl ti29 rfl rfl) ?_
    refine U.p (v := .pointer (some ⟨b6, 1, none⟩)) rfl rfl (.inl rfl) (S.fieldAddr rfl (L 0 rfl rfl) Try.underlying29 rfl ti3 rfl rfl) ?_
    refine U.k rfl rfl (.inl rfl) (S.load rfl (L 0 rfl rfl) Try.underlying3 rfl ((ow9.own (k := 0) rfl).cell rfl)) nd ?_
    refine U.p rfl rfl (.inl rfl) (S.eqlI rfl (L 0 rfl rfl) K) ?_
    refine U.p rfl rfl (.inl rfl) (S.move rfl (L 0 rfl rfl)) ?_
    refine U.joinX 18 (fun e H => ∃ (u25 u26 u27 u28 u29 u30 u31 u32 u33 u34 u35 : Value), H = V7.H ∧ e = [(42, .bool ((decide (p1.e.act.kind = 5)) || ((decide (p1.e.act.kind = 1)) && p1.e.act.volatile))), (41, u25), (40, u26), (39, u27), (38, u28), (37, u29), (36, u30), (35, u31), (34, u32), (33, u33), (32, u34), (31, u35)]) ?_ ?_
    · rintro _ _ ⟨u25, u26, u27, u28, u29, u30, u31, u32, u33, u34, u35, rfl, rfl⟩
      refine U.p rfl rfl (.inl rfl) (S.assign rfl (L 0 rfl rfl)) ?_
      refine U.done (Nat.le_of_ble_eq_true rfl) ?_
      refine WP.usreg rfl ?_
      refine U.p rfl rfl (.inl rfl) (S.move rfl (L 19 rfl rfl)) ?_
      refine U.p rfl rfl (.inl rfl) (S.move rfl (L 0 rfl rfl)) ?_
      refine U.joinX 4 (fun e H => ∃ (u39 : Value), H = V7.H ∧ e = [(46, .bool (((decide (p0.e.act.kind = 6)) || ((decide (p0.e.act.kind = 2)) && p0.e.act.volatile)) && ((decide (p1.e.act.kind = 5)) || ((decide (p1.e.act.kind = 1)) && p1.e.act.volatile)))), (45, u39)]) ?_ ?_
      · rintro _ _ ⟨u39, rfl, rfl⟩
        refine U.p rfl rfl (.inl rfl) (S.move rfl (L 0 rfl rfl)) ?_
        refine U.joinX 15 (fun e H => ∃ (u43 u44 u45 u46 u47 u48 u49 u50 u51 : Value), H = V7.H ∧ e = [(57, .bool ((((decide (p0.e.act.kind = 6)) || ((decide (p0.e.act.kind = 2)) && p0.e.act.volatile)) && ((decide (p1.e.act.kind = 5)) || ((decide (p1.e.act.kind = 1)) && p1.e.act.volatile))) && (decide (p0.e.act.at_ = p1.e.act.at_)))), (56, u43), (55, u44), (54, u45), (53, u46), (52, u47), (51, u48), (50, u49), (49, u50), (48, u51)]) ?_ ?_
        · rintro _ _ ⟨u43, u44, u45, u46, u47, u48, u49, u50, u51, rfl, rfl⟩
          refine U.p rfl rfl (.inl rfl) (S.move rfl (L 0 rfl rfl)) ?_
          refine U.joinX 21 (fun e H => ∃ (u55 u56 u57 u58 : Value), H = V7.H ∧ e = [(63, .bool (((((decide (p0.e.act.kind = 6)) || ((decide (p0.e.act.kind = 2)) && p0.e.act.volatile)) && ((decide (p1.e.act.kind = 5)) || ((decide (p1.e.act.kind = 1)) && p1.e.act.volatile))) && (decide (p0.e.act.at_ = p1.e.act.at_))) && (decide (1 ≤ p0.e.id)))), (62, u55), (61, u56), (60, u57), (59, u58)]) ?_ ?_
          · rintro _ _ ⟨u55, u56, u57, u58, rfl, rfl⟩
            refine U.p rfl rfl (.inl rfl) (S.move rfl (L 0 rfl rfl)) ?_
            refine U.joinX 30 (fun e H => ∃ (u62 u63 u64 u65 u66 u67 u68 : Value), H = V7.H ∧ e = [(72, .bool ((((((decide (p0.e.act.kind = 6)) || ((decide (p0.e.act.kind = 2)) && p0.e.act.volatile)) && ((decide (p1.e.act.kind = 5)) || ((decide (p1.e.act.kind = 1)) && p1.e.act.volatile))) && (decide (p0.e.act.at_ = p1.e.act.at_))) && (decide (1 ≤ p0.e.id))) && (decide (p0.e.id ≤ p1.e.rf)))), (71, u62), (70, u63), (69, u64), (68, u65), (67, u66), (66, u67), (65, u68)]) ?_ ?_
            · rintro _ _ ⟨u62, u63, u64, u65, u66, u67, u68, rfl, rfl⟩
              refine U.p rfl rfl (.inl rfl) (S.assign rfl (L 0 rfl rfl)) ?_
              refine U.done (Nat.le_of_ble_eq_true rfl) ?_
              refine WP.ret ?_
              refine fin.slot (.inr rfl) rfl (L 0 rfl rfl) ⟨V7, rfl, (le3.trans le8), ?_⟩
              have ow72 := ow9.drop 0 rfl
              have ow73 := ow72.drop 0 rfl
              have e74 := Option.some.inj h
              subst e74
              exact ⟨rfl, ow73⟩
            · intro kk
              refine bcase (b := ((((decide (p0.e.act.kind = 6)) || ((decide (p0.e.act.kind = 2)) && p0.e.act.volatile)) && ((decide (p1.e.act.kind = 5)) || ((decide (p1.e.act.kind = 1)) && p1.e.act.volatile))) && (decide (p0.e.act.at_ = p1.e.act.at_))) && (decide (1 ≤ p0.e.id))) (fun g75 => ?_) (fun g75 => ?_)
              · skip
                refine U.p (v := .pointer (some ⟨b6, 0, none⟩)) rfl rfl (.inr ⟨_, _, _, rfl, rfl, ((L 0 rfl rfl).trans (congrArg Value.bool g75))⟩) (S.fieldAddr rfl (L 61 rfl rfl) Try.underlying52 rfl ti31 rfl rfl) ?_
                refine U.p (v := .pointer (some ⟨b6, 7, none⟩)) rfl rfl (.inr ⟨_, _, _, rfl, rfl, ((L 1 rfl rfl).trans (congrArg Value.bool g75))⟩) (S.fieldAddr rfl (L 0 rfl rfl) Try.underlying31 rfl ti3 rfl rfl) ?_
                refine U.k rfl rfl (.inr ⟨_, _, _, rfl, rfl, ((L 2 rfl rfl).trans (congrArg Value.bool g75))⟩) (S.load rfl (L 0 rfl rfl) Try.underlying3 rfl ((ow9.own (k := 0) rfl).cell rfl)) nd ?_
                refine U.p (v := .pointer (some ⟨b1, 0, none⟩)) rfl rfl (.inr ⟨_, _, _, rfl, rfl, ((L 3 rfl rfl).trans (congrArg Value.bool g75))⟩) (S.fieldAddr rfl (L 65 rfl rfl) Try.underlying52 rfl ti31 rfl rfl) ?_
                refine U.p (v := .pointer (some ⟨b1, 8, none⟩)) rfl rfl (.inr ⟨_, _, _, rfl, rfl, ((L 4 rfl rfl).trans (congrArg Value.bool g75))⟩) (S.fieldAddr rfl (L 0 rfl rfl) Try.underlying31 rfl ti3 rfl rfl) ?_
                refine U.k rfl rfl (.inr ⟨_, _, _, rfl, rfl, ((L 5 rfl rfl).trans (congrArg Value.bool g75))⟩) (S.load rfl (L 0 rfl rfl) Try.underlying3 rfl ((ow9.own (k := 1) rfl).cell rfl)) nd ?_
                refine U.p rfl rfl (.inr ⟨_, _, _, rfl, rfl, ((L 6 rfl rfl).trans (congrArg Value.bool g75))⟩) (S.geq rfl (L 3 rfl rfl) (L 0 rfl rfl)) ?_
                refine U.p rfl rfl (.inl rfl) (S.pickT rfl ((L 7 rfl rfl).trans (congrArg Value.bool g75)) (L 0 rfl rfl)) ?_
                exact kk [(72, .bool (decide (p0.e.id ≤ p1.e.rf))), (71, .bool (decide (p0.e.id ≤ p1.e.rf))), (70, .int .i64 p0.e.id), (69, .pointer (some ⟨b1, 8, none⟩)), (68, .pointer (some ⟨b1, 0, none⟩)), (67, .int .i64 p1.e.rf), (66, .pointer (some ⟨b6, 7, none⟩)), (65, .pointer (some ⟨b6, 0, none⟩))] _ ⟨.bool (decide (p0.e.id ≤ p1.e.rf)), .int .i64 p0.e.id, .pointer (some ⟨b1, 8, none⟩), .pointer (some ⟨b1, 0, none⟩), .int .i64 p1.e.rf, .pointer (some ⟨b6, 7, none⟩), .pointer (some ⟨b6, 0, none⟩), rfl, (by rw [g75, Bool.true_and])⟩
              · skip
                refine U.x rfl rfl rfl rfl ((L 0 rfl rfl).trans (congrArg Value.bool g75)) (by decide) ?_
                refine U.x rfl rfl rfl rfl ((L 1 rfl rfl).trans (congrArg Value.bool g75)) (by decide) ?_
                refine U.x rfl rfl rfl rfl ((L 2 rfl rfl).trans (congrArg Value.bool g75)) (by decide) ?_
                refine U.x rfl rfl rfl rfl ((L 3 rfl rfl).trans (congrArg Value.bool g75)) (by decide) ?_
                refine U.x rfl rfl rfl rfl ((L 4 rfl rfl).trans (congrArg Value.bool g75)) (by decide) ?_
                refine U.x rfl rfl rfl rfl ((L 5 rfl rfl).trans (congrArg Value.bool g75)) (by decide) ?_
                refine U.x rfl rfl rfl rfl ((L 6 rfl rfl).trans (congrArg Value.bool g75)) (by decide) ?_
                refine U.p rfl rfl (.inl rfl) (S.pickF rfl ((L 7 rfl rfl).trans (congrArg Value.bool g75)) K) ?_
                exact kk [(72, .bool false), (71, .tuple #[]), (70, .tuple #[]), (69, .tuple #[]), (68, .tuple #[]), (67, .tuple #[]), (66, .tuple #[]), (65, .tuple #[])] _ ⟨.tuple #[], .tuple #[], .tuple #[], .tuple #[], .tuple #[], .tuple #[], .tuple #[], rfl, (by rw [g75, Bool.false_and])⟩
          · intro kk
            refine bcase (b := (((decide (p0.e.act.kind = 6)) || ((decide (p0.e.act.kind = 2)) && p0.e.act.volatile)) && ((decide (p1.e.act.kind = 5)) || ((decide (p1.e.act.kind = 1)) && p1.e.act.volatile))) && (decide (p0.e.act.at_ = p1.e.act.at_))) (fun g76 => ?_) (fun g76 => ?_)
            · skip
              refine U.p (v := .pointer (some ⟨b1, 0, none⟩)) rfl rfl (.inr ⟨_, _, _, rfl, rfl, ((L 0 rfl rfl).trans (congrArg Value.bool g76))⟩) (S.fieldAddr rfl (L 56 rfl rfl) Try.underlying52 rfl ti31 rfl rfl) ?_
              refine U.p (v := .pointer (some ⟨b1, 8, none⟩)) rfl rfl (.inr ⟨_, _, _, rfl, rfl, ((L 1 rfl rfl).trans (congrArg Value.bool g76))⟩) (S.fieldAddr rfl (L 0 rfl rfl) Try.underlying31 rfl ti3 rfl rfl) ?_
              refine U.k rfl rfl (.inr ⟨_, _, _, rfl, rfl, ((L 2 rfl rfl).trans (congrArg Value.bool g76))⟩) (S.load rfl (L 0 rfl rfl) Try.underlying3 rfl ((ow9.own (k := 1) rfl).cell rfl)) nd ?_
              refine U.p rfl rfl (.inr ⟨_, _, _, rfl, rfl, ((L 3 rfl rfl).trans (congrArg Value.bool g76))⟩) (S.geq rfl (L 0 rfl rfl) K) ?_
              refine U.p rfl rfl (.inl rfl) (S.pickT rfl ((L 4 rfl rfl).trans (congrArg Value.bool g76)) (L 0 rfl rfl)) ?_
              exact kk [(63, .bool (decide (1 ≤ p0.e.id))), (62, .bool (decide (1 ≤ p0.e.id))), (61, .int .i64 p0.e.id), (60, .pointer (some ⟨b1, 8, none⟩)), (59, .pointer (some ⟨b1, 0, none⟩))] _ ⟨.bool (decide (1 ≤ p0.e.id)), .int .i64 p0.e.id, .pointer (some ⟨b1, 8, none⟩), .pointer (some ⟨b1, 0, none⟩), rfl, (by rw [g76, Bool.true_and])⟩
            · skip
              refine U.x rfl rfl rfl rfl ((L 0 rfl rfl).trans (congrArg Value.bool g76)) (by decide) ?_
              refine U.x rfl rfl rfl rfl ((L 1 rfl rfl).trans (congrArg Value.bool g76)) (by decide) ?_
              refine U.x rfl rfl rfl rfl ((L 2 rfl rfl).trans (congrArg Value.bool g76)) (by decide) ?_
              refine U.x rfl rfl rfl rfl ((L 3 rfl rfl).trans (congrArg Value.bool g76)) (by decide) ?_
              refine U.p rfl rfl (.inl rfl) (S.pickF rfl ((L 4 rfl rfl).trans (congrArg Value.bool g76)) K) ?_
              exact kk [(63, .bool false), (62, .tuple #[]), (61, .tuple #[]), (60, .tuple #[]), (59, .tuple #[])] _ ⟨.tuple #[], .tuple #[], .tuple #[], .tuple #[], rfl, (by rw [g76, Bool.false_and])⟩
        · intro kk
          refine bcase (b := ((decide (p0.e.act.kind = 6)) || ((decide (p0.e.act.kind = 2)) && p0.e.act.volatile)) && ((decide (p1.e.act.kind = 5)) || ((decide (p1.e.act.kind = 1)) && p1.e.act.volatile))) (fun g77 => ?_) (fun g77 => ?_)
          · skip
            refine U.p (v := .pointer (some ⟨b1, 0, none⟩)) rfl rfl (.inr ⟨_, _, _, rfl, rfl, ((L 0 rfl rfl).trans (congrArg Value.bool g77))⟩) (S.fieldAddr rfl (L 45 rfl rfl) Try.underlying52 rfl ti31 rfl rfl) ?_
            refine U.p (v := .pointer (some ⟨b1, 1, none⟩)) rfl rfl (.inr ⟨_, _, _, rfl, rfl, ((L 1 rfl rfl).trans (congrArg Value.bool g77))⟩) (S.fieldAddr rfl (L 0 rfl rfl) Try.underlying31 rfl ti29 rfl rfl) ?_
            refine U.p (v := .pointer (some ⟨b1, 2, none⟩)) rfl rfl (.inr ⟨_, _, _, rfl, rfl, ((L 2 rfl rfl).trans (congrArg Value.bool g77))⟩) (S.fieldAddr rfl (L 0 rfl rfl) Try.underlying29 rfl ti3 rfl rfl) ?_
            refine U.k rfl rfl (.inr ⟨_, _, _, rfl, rfl, ((L 3 rfl rfl).trans (congrArg Value.bool g77))⟩) (S.load rfl (L 0 rfl rfl) Try.underlying3 rfl ((ow9.own (k := 1) rfl).cell rfl)) nd ?_
            refine U.p (v := .pointer (some ⟨b6, 0, none⟩)) rfl rfl (.inr ⟨_, _, _, rfl, rfl, ((L 4 rfl rfl).trans (congrArg Value.bool g77))⟩) (S.fieldAddr rfl (L 48 rfl rfl) Try.underlying52 rfl ti31 rfl rfl) ?_
            refine U.p (v := .pointer (some ⟨b6, 1, none⟩)) rfl rfl (.inr ⟨_, _, _, rfl, rfl, ((L 5 rfl rfl).trans (congrArg Value.bool g77))⟩) (S.fieldAddr rfl (L 0 rfl rfl) Try.underlying31 rfl ti29 rfl rfl) ?_
            refine U.p (v := .pointer (some ⟨b6, 2, none⟩)) rfl rfl (.inr ⟨_, _, _, rfl, rfl, ((L 6 rfl rfl).trans (congrArg Value.bool g77))⟩) (S.fieldAddr rfl (L 0 rfl rfl) Try.underlying29 rfl ti3 rfl rfl) ?_
            refine U.k rfl rfl (.inr ⟨_, _, _, rfl, rfl, ((L 7 rfl rfl).trans (congrArg Value.bool g77))⟩) (S.load rfl (L 0 rfl rfl) Try.underlying3 rfl ((ow9.own (k := 0) rfl).cell rfl)) nd ?_
            refine U.p rfl rfl (.inr ⟨_, _, _, rfl, rfl, ((L 8 rfl rfl).trans (congrArg Value.bool g77))⟩) (S.eqlI rfl (L 4 rfl rfl) (L 0 rfl rfl)) ?_
            refine U.p rfl rfl (.inl rfl) (S.pickT rfl ((L 9 rfl rfl).trans (congrArg Value.bool g77)) (L 0 rfl rfl)) ?_
            exact kk [(57, .bool (decide (p0.e.act.at_ = p1.e.act.at_))), (56, .bool (decide (p0.e.act.at_ = p1.e.act.at_))), (55, .int .i64 p1.e.act.at_), (54, .pointer (some ⟨b6, 2, none⟩)), (53, .pointer (some ⟨b6, 1, none⟩)), (52, .pointer (some ⟨b6, 0, none⟩)), (51, .int .i64 p0.e.act.at_), (50, .pointer (some ⟨b1, 2, none⟩)), (49, .pointer (some ⟨b1, 1, none⟩)), (48, .pointer (some ⟨b1, 0, none⟩))] _ ⟨.bool (decide (p0.e.act.at_ = p1.e.act.at_)), .int .i64 p1.e.act.at_, .pointer (some ⟨b6, 2, none⟩), .pointer (some ⟨b6, 1, none⟩), .pointer (some ⟨b6, 0, none⟩), .int .i64 p0.e.act.at_, .pointer (some ⟨b1, 2, none⟩), .pointer (some ⟨b1, 1, none⟩), .pointer (some ⟨b1, 0, none⟩), rfl, (by rw [g77, Bool.true_and])⟩
          · skip
            refine U.x rfl rfl rfl rfl ((L 0 rfl rfl).trans (congrArg Value.bool g77)) (by decide) ?_
            refine U.x rfl rfl rfl rfl ((L 1 rfl rfl).trans (congrArg Value.bool g77)) (by decide) ?_
            refine U.x rfl rfl rfl rfl ((L 2 rfl rfl).trans (congrArg Value.bool g77)) (by decide) ?_
            refine U.x rfl rfl rfl rfl ((L 3 rfl rfl).trans (congrArg Value.bool g77)) (by decide) ?_
            refine U.x rfl rfl rfl rfl ((L 4 rfl rfl).trans (congrArg Value.bool g77)) (by decide) ?_
            refine U.x rfl rfl rfl rfl ((L 5 rfl rfl).trans (congrArg Value.bool g77)) (by decide) ?_
            refine U.x rfl rfl rfl rfl ((L 6 rfl rfl).trans (congrArg Value.bool g77)) (by decide) ?_
            refine U.x rfl rfl rfl rfl ((L 7 rfl rfl).trans (congrArg Value.bool g77)) (by decide) ?_
            refine U.x rfl rfl rfl rfl ((L 8 rfl rfl).trans (congrArg Value.bool g77)) (by decide) ?_
            refine U.p rfl rfl (.inl rfl) (S.pickF rfl ((L 9 rfl rfl).trans (congrArg Value.bool g77)) K) ?_
            exact kk [(57, .bool false), (56, .tuple #[]), (55, .tuple #[]), (54, .tuple #[]), (53, .tuple #[]), (52, .tuple #[]), (51, .tuple #[]), (50, .tuple #[]), (49, .tuple #[]), (48, .tuple #[])] _ ⟨.tuple #[], .tuple #[], .tuple #[], .tuple #[], .tuple #[], .tuple #[], .tuple #[], .tuple #[], .tuple #[], rfl, (by rw [g77, Bool.false_and])⟩
      · intro kk
        refine bcase (b := (decide (p0.e.act.kind = 6)) || ((decide (p0.e.act.kind = 2)) && p0.e.act.volatile)) (fun g78 => ?_) (fun g78 => ?_)
        · skip
          refine U.p rfl rfl (.inr ⟨_, _, _, rfl, rfl, ((L 0 rfl rfl).trans (congrArg Value.bool g78))⟩) (S.move rfl (L 2 rfl rfl)) ?_
          refine U.p rfl rfl (.inl rfl) (S.pickT rfl ((L 1 rfl rfl).trans (congrArg Value.bool g78)) (L 0 rfl rfl)) ?_
          exact kk [(46, .bool ((decide (p1.e.act.kind = 5)) || ((decide (p1.e.act.kind = 1)) && p1.e.act.volatile))), (45, .bool ((decide (p1.e.act.kind = 5)) || ((decide (p1.e.act.kind = 1)) && p1.e.act.volatile)))] _ ⟨.bool ((decide (p1.e.act.kind = 5)) || ((decide (p1.e.act.kind = 1)) && p1.e.act.volatile)), rfl, (by rw [g78, Bool.true_and])⟩
        · skip
          refine U.x rfl rfl rfl rfl ((L 0 rfl rfl).trans (congrArg Value.bool g78)) (by decide) ?_
          refine U.p rfl rfl (.inl rfl) (S.pickF rfl ((L 1 rfl rfl).trans (congrArg Value.bool g78)) K) ?_
          exact kk [(46, .bool false), (45, .tuple #[])] _ ⟨.tuple #[], rfl, (by rw [g78, Bool.false_and])⟩
    · intro kk
      refine bcase (b := decide (p1.e.act.kind = 5)) (fun g79 => ?_) (fun g79 => ?_)
      · skip
        refine U.x rfl rfl rfl rfl ((L 0 rfl rfl).trans (congrArg Value.bool g79)) (by decide) ?_
        refine U.x rfl rfl rfl rfl ((L 1 rfl rfl).trans (congrArg Value.bool g79)) (by decide) ?_
        refine U.x rfl rfl rfl rfl ((L 2 rfl rfl).trans (congrArg Value.bool g79)) (by decide) ?_
        refine U.x rfl rfl rfl rfl ((L 3 rfl rfl).trans (congrArg Value.bool g79)) (by decide) ?_
        refine U.x rfl rfl rfl rfl ((L 4 rfl rfl).trans (congrArg Value.bool g79)) (by decide) ?_
        refine U.x rfl rfl rfl rfl ((L 5 rfl rfl).trans (congrArg Value.bool g79)) (by decide) ?_
        refine U.z rfl rfl rfl rfl (L 0 rfl rfl) ?_
        refine U.z rfl rfl rfl rfl (L 1 rfl rfl) ?_
        refine U.z rfl rfl rfl rfl (L 2 rfl rfl) ?_
        refine U.z rfl rfl rfl rfl (L 3 rfl rfl) ?_
        refine U.x rfl rfl rfl rfl ((L 10 rfl rfl).trans (congrArg Value.bool g79)) (by decide) ?_
        refine U.p rfl rfl (.inl rfl) (S.pickT rfl ((L 11 rfl rfl).trans (congrArg Value.bool g79)) K) ?_
        exact kk [(42, .bool true), (41, .tuple #[]), (40, .tuple #[]), (39, .tuple #[]), (38, .tuple #[]), (37, .tuple #[]), (36, .tuple #[]), (35, .tuple #[]), (34, .tuple #[]), (33, .tuple #[]), (32, .tuple #[]), (31, .tuple #[])] _ ⟨.tuple #[], .tuple #[], .tuple #[], .tuple #[], .tuple #[], .tuple #[], .tuple #[], .tuple #[], .tuple #[], .tuple #[], .tuple #[], rfl, (by rw [g79, Bool.true_or])⟩
      · skip
        refine U.p (v := .pointer (some ⟨b6, 0, none⟩)) rfl rfl (.inr ⟨_, _, _, rfl, rfl, ((L 0 rfl rfl).trans (congrArg Value.bool g79))⟩) (S.fieldAddr rfl (L 26 rfl rfl) Try.underlying52 rfl ti31 rfl rfl) ?_
        refine U.p (v := .pointer (some ⟨b6, 1, none⟩)) rfl rfl (.inr ⟨_, _, _, rfl, rfl, ((L 1 rfl rfl).trans (congrArg Value.bool g79))⟩) (S.fieldAddr rfl (L 0 rfl rfl) Try.underlying31 rfl ti29 rfl rfl) ?_
        refine U.p (v := .pointer (some ⟨b6, 1, none⟩)) rfl rfl (.inr ⟨_, _, _, rfl, rfl, ((L 2 rfl rfl).trans (congrArg Value.bool g79))⟩) (S.fieldAddr rfl (L 0 rfl rfl) Try.underlying29 rfl ti3 rfl rfl) ?_
        refine U.k rfl rfl (.inr ⟨_, _, _, rfl, rfl, ((L 3 rfl rfl).trans (congrArg Value.bool g79))⟩) (S.load rfl (L 0 rfl rfl) Try.underlying3 rfl ((ow9.own (k := 0) rfl).cell rfl)) nd ?_
        refine U.p rfl rfl (.inr ⟨_, _, _, rfl, rfl, ((L 4 rfl rfl).trans (congrArg Value.bool g79))⟩) (S.eqlI rfl (L 0 rfl rfl) K) ?_
        refine U.p rfl rfl (.inr ⟨_, _, _, rfl, rfl, ((L 5 rfl rfl).trans (congrArg Value.bool g79))⟩) (S.move rfl (L 0 rfl rfl)) ?_
        refine U.joinX 17 (fun e H => ∃ (u80 u81 u82 u83 : Value), H = V7.H ∧ e = [(41, .bool ((decide (p1.e.act.kind = 1)) && p1.e.act.volatile)), (40, u80), (39, u81), (38, u82), (37, u83)]) ?_ ?_
        · rintro _ _ ⟨u80, u81, u82, u83, rfl, rfl⟩
          refine U.p rfl rfl (.inl rfl) (S.pickF rfl ((L 11 rfl rfl).trans (congrArg Value.bool g79)) (L 0 rfl rfl)) ?_
          exact kk [(42, .bool ((decide (p1.e.act.kind = 1)) && p1.e.act.volatile)), (41, .bool ((decide (p1.e.act.kind = 1)) && p1.e.act.volatile)), (40, u80), (39, u81), (38, u82), (37, u83), (36, .bool (decide (p1.e.act.kind = 1))), (35, .bool (decide (p1.e.act.kind = 1))), (34, .int .i64 p1.e.act.kind), (33, .pointer (some ⟨b6, 1, none⟩)), (32, .pointer (some ⟨b6, 1, none⟩)), (31, .pointer (some ⟨b6, 0, none⟩))] _ ⟨.bool ((decide (p1.e.act.kind = 1)) && p1.e.act.volatile), u80, u81, u82, u83, .bool (decide (p1.e.act.kind = 1)), .bool (decide (p1.e.act.kind = 1)), .int .i64 p1.e.act.kind, .pointer (some ⟨b6, 1, none⟩), .pointer (some ⟨b6, 1, none⟩), .pointer (some ⟨b6, 0, none⟩), rfl, (by rw [g79, Bool.false_or])⟩
        · intro kk
          refine bcase (b := decide (p1.e.act.kind = 1)) (fun g87 => ?_) (fun g87 => ?_)
          · skip
            refine U.p (v := .pointer (some ⟨b6, 0, none⟩)) rfl rfl (.inr ⟨_, _, _, rfl, rfl, ((L 0 rfl rfl).trans (congrArg Value.bool g87))⟩) (S.fieldAddr rfl (L 32 rfl rfl) Try.underlying52 rfl ti31 rfl rfl) ?_
            refine U.p (v := .pointer (some ⟨b6, 1, none⟩)) rfl rfl (.inr ⟨_, _, _, rfl, rfl, ((L 1 rfl rfl).trans (congrArg Value.bool g87))⟩) (S.fieldAddr rfl (L 0 rfl rfl) Try.underlying31 rfl ti29 rfl rfl) ?_
            refine U.p (v := .pointer (some ⟨b6, 5, none⟩)) rfl rfl (.inr ⟨_, _, _, rfl, rfl, ((L 2 rfl rfl).trans (congrArg Value.bool g87))⟩) (S.fieldAddr rfl (L 0 rfl rfl) Try.underlying29 rfl ti4 rfl rfl) ?_
            refine U.k rfl rfl (.inr ⟨_, _, _, rfl, rfl, ((L 3 rfl rfl).trans (congrArg Value.bool g87))⟩) (S.load rfl (L 0 rfl rfl) Try.underlying4 rfl ((ow9.own (k := 0) rfl).cell rfl)) nd ?_
            refine U.p rfl rfl (.inr ⟨_, _, _, rfl, rfl, ((L 10 rfl rfl).trans (congrArg Value.bool g79))⟩) (S.pickT rfl ((L 4 rfl rfl).trans (congrArg Value.bool g87)) (L 0 rfl rfl)) ?_
            exact kk [(41, .bool p1.e.act.volatile), (40, .bool p1.e.act.volatile), (39, .pointer (some ⟨b6, 5, none⟩)), (38, .pointer (some ⟨b6, 1, none⟩)), (37, .pointer (some ⟨b6, 0, none⟩))] _ ⟨.bool p1.e.act.volatile, .pointer (some ⟨b6, 5, none⟩), .pointer (some ⟨b6, 1, none⟩), .pointer (some ⟨b6, 0, none⟩), rfl, (by rw [g87, Bool.true_and])⟩
          · skip
            refine U.x rfl rfl rfl rfl ((L 0 rfl rfl).trans (congrArg Value.bool g87)) (by decide) ?_
            refine U.x rfl rfl rfl rfl ((L 1 rfl rfl).trans (congrArg Value.bool g87)) (by decide) ?_
            refine U.x rfl rfl rfl rfl ((L 2 rfl rfl).trans (congrArg Value.bool g87)) (by decide) ?_
            refine U.x rfl rfl rfl rfl ((L 3 rfl rfl).trans (congrArg Value.bool g87)) (by decide) ?_
            refine U.p rfl rfl (.inr ⟨_, _, _, rfl, rfl, ((L 10 rfl rfl).trans (congrArg Value.bool g79))⟩) (S.pickF rfl ((L 4 rfl rfl).trans (congrArg Value.bool g87)) K) ?_
            exact kk [(41, .bool false), (40, .tuple #[]), (39, .tuple #[]), (38, .tuple #[]), (37, .tuple #[])] _ ⟨.tuple #[], .tuple #[], .tuple #[], .tuple #[], rfl, (by rw [g87, Bool.false_and])⟩
  · intro kk
    refine bcase (b := decide (p0.e.act.kind = 6)) (fun g88 => ?_) (fun g88 => ?_)
    · skip
      refine U.x rfl rfl rfl rfl ((L 0 rfl rfl).trans (congrArg Value.bool g88)) (by decide) ?_
      refine U.x rfl rfl rfl rfl ((L 1 rfl rfl).trans (congrArg Value.bool g88)) (by decide) ?_
      refine U.x rfl rfl rfl rfl ((L 2 rfl rfl).trans (congrArg Value.bool g88)) (by decide) ?_
      refine U.x rfl rfl rfl rfl ((L 3 rfl rfl).trans (congrArg Value.bool g88)) (by decide) ?_
      refine U.x rfl rfl rfl rfl ((L 4 rfl rfl).trans (congrArg Value.bool g88)) (by decide) ?_
      refine U.x rfl rfl rfl rfl ((L 5 rfl rfl).trans (congrArg Value.bool g88)) (by decide) ?_
      refine U.z rfl rfl rfl rfl (L 0 rfl rfl) ?_
      refine U.z rfl rfl rfl rfl (L 1 rfl rfl) ?_
      refine U.z rfl rfl rfl rfl (L 2 rfl rfl) ?_
      refine U.z rfl rfl rfl rfl (L 3 rfl rfl) ?_
      refine U.x rfl rfl rfl rfl ((L 10 rfl rfl).trans (congrArg Value.bool g88)) (by decide) ?_
      refine U.p rfl rfl (.inl rfl) (S.pickT rfl ((L 11 rfl rfl).trans (congrArg Value.bool g88)) K) ?_
      exact kk [(24, .bool true), (23, .tuple #[]), (22, .tuple #[]), (21, .tuple #[]), (20, .tuple #[]), (19, .tuple #[]), (18, .tuple #[]), (17, .tuple #[]), (16, .tuple #[]), (15, .tuple #[]), (14, .tuple #[]), (13, .tuple #[])] _ ⟨.tuple #[], .tuple #[], .tuple #[], .tuple #[], .tuple #[], .tuple #[], .tuple #[], .tuple #[], .tuple #[], .tuple #[], .tuple #[], rfl, (by rw [g88, Bool.true_or])⟩
    · skip
      refine U.p (v := .pointer (some ⟨b1, 0, none⟩)) rfl rfl (.inr ⟨_, _, _, rfl, rfl, ((L 0 rfl rfl).trans (congrArg Value.bool g88))⟩) (S.fieldAddr rfl (L 8 rfl rfl) Try.underlying52 rfl ti31 rfl rfl) ?_
      refine U.p (v := .pointer (some ⟨b1, 1, none⟩)) rfl rfl (.inr ⟨_, _, _, rfl, rfl, ((L 1 rfl rfl).trans (congrArg Value.bool g88))⟩) (S.fieldAddr rfl (L 0 rfl rfl) Try.underlying31 rfl ti29 rfl rfl) ?_
      refine U.p (v := .pointer (some ⟨b1, 1, none⟩)) rfl rfl (.inr ⟨_, _, _, rfl, rfl, ((L 2 rfl rfl).trans (congrArg Value.bool g88))⟩) (S.fieldAddr rfl (L 0 rfl rfl) Try.underlying29 rfl ti3 rfl rfl) ?_
      refine U.k rfl rfl (.inr ⟨_, _, _, rfl, rfl, ((L 3 rfl rfl).trans (congrArg Value.bool g88))⟩) (S.load rfl (L 0 rfl rfl) Try.underlying3 rfl ((ow9.own (k := 1) rfl).cell rfl)) nd ?_
      refine U.p rfl rfl (.inr ⟨_, _, _, rfl, rfl, ((L 4 rfl rfl).trans (congrArg Value.bool g88))⟩) (S.eqlI rfl (L 0 rfl rfl) K) ?_
      refine U.p rfl rfl (.inr ⟨_, _, _, rfl, rfl, ((L 5 rfl rfl).trans (congrArg Value.bool g88))⟩) (S.move rfl (L 0 rfl rfl)) ?_
      refine U.joinX 17 (fun e H => ∃ (u89 u90 u91 u92 : Value), H = V7.H ∧ e = [(23, .bool ((decide (p0.e.act.kind = 2)) && p0.e.act.volatile)), (22, u89), (21, u90), (20, u91), (19, u92)]) ?_ ?_
      · rintro _ _ ⟨u89, u90, u91, u92, rfl, rfl⟩
        refine U.p rfl rfl (.inl rfl) (S.pickF rfl ((L 11 rfl rfl).trans (congrArg Value.bool g88)) (L 0 rfl rfl)) ?_
        exact kk [(24, .bool ((decide (p0.e.act.kind = 2)) && p0.e.act.volatile)), (23, .bool ((decide (p0.e.act.kind = 2)) && p0.e.act.volatile)), (22, u89), (21, u90), (20, u91), (19, u92), (18, .bool (decide (p0.e.act.kind = 2))), (17, .bool (decide (p0.e.act.kind = 2))), (16, .int .i64 p0.e.act.kind), (15, .pointer (some ⟨b1, 1, none⟩)), (14, .pointer (some ⟨b1, 1, none⟩)), (13, .pointer (some ⟨b1, 0, none⟩))] _ ⟨.bool ((decide (p0.e.act.kind = 2)) && p0.e.act.volatile), u89, u90, u91, u92, .bool (decide (p0.e.act.kind = 2)), .bool (decide (p0.e.act.kind = 2)), .int .i64 p0.e.act.kind, .pointer (some ⟨b1, 1, none⟩), .pointer (some ⟨b1, 1, none⟩), .pointer (some ⟨b1, 0, none⟩), rfl, (by rw [g88, Bool.false_or])⟩
      · intro kk
        refine bcase (b := decide (p0.e.act.kind = 2)) (fun g96 => ?_) (fun g96 => ?_)
        · skip
          refine U.p (v := .pointer (some ⟨b1, 0, none⟩)) rfl rfl (.inr ⟨_, _, _, rfl, rfl, ((L 0 rfl rfl).trans (congrArg Value.bool g96))⟩) (S.fieldAddr rfl (L 14 rfl rfl) Try.underlying52 rfl ti31 rfl rfl) ?_
          refine U.p (v := .pointer (some ⟨b1, 1, none⟩)) rfl rfl (.inr ⟨_, _, _, rfl, rfl, ((L 1 rfl rfl).trans (congrArg Value.bool g96))⟩) (S.fieldAddr rfl (L 0 rfl rfl) Try.underlying31 rfl ti29 rfl rfl) ?_
          refine U.p (v := .pointer (some ⟨b1, 5, none⟩)) rfl rfl (.inr ⟨_, _, _, rfl, rfl, ((L 2 rfl rfl).trans (congrArg Value.bool g96))⟩) (S.fieldAddr rfl (L 0 rfl rfl) Try.underlying29 rfl ti4 rfl rfl) ?_
          refine U.k rfl rfl (.inr ⟨_, _, _, rfl, rfl, ((L 3 rfl rfl).trans (congrArg Value.bool g96))⟩) (S.load rfl (L 0 rfl rfl) Try.underlying4 rfl ((ow9.own (k := 1) rfl).cell rfl)) nd ?_
          refine U.p rfl rfl (.inr ⟨_, _, _, rfl, rfl, ((L 10 rfl rfl).trans (congrArg Value.bool g88))⟩) (S.pickT rfl ((L 4 rfl rfl).trans (congrArg Value.bool g96)) (L 0 rfl rfl)) ?_
          exact kk [(23, .bool p0.e.act.volatile), (22, .bool p0.e.act.volatile), (21, .pointer (some ⟨b1, 5, none⟩)), (20, .pointer (some ⟨b1, 1, none⟩)), (19, .pointer (some ⟨b1, 0, none⟩))] _ ⟨.bool p0.e.act.volatile, .pointer (some ⟨b1, 5, none⟩), .pointer (some ⟨b1, 1, none⟩), .pointer (some ⟨b1, 0, none⟩), rfl, (by rw [g96, Bool.true_and])⟩
        · skip
          refine U.x rfl rfl rfl rfl ((L 0 rfl rfl).trans (congrArg Value.bool g96)) (by decide) ?_
          refine U.x rfl rfl rfl rfl ((L 1 rfl rfl).trans (congrArg Value.bool g96)) (by decide) ?_
          refine U.x rfl rfl rfl rfl ((L 2 rfl rfl).trans (congrArg Value.bool g96)) (by decide) ?_
          refine U.x rfl rfl rfl rfl ((L 3 rfl rfl).trans (congrArg Value.bool g96)) (by decide) ?_
          refine U.p rfl rfl (.inr ⟨_, _, _, rfl, rfl, ((L 10 rfl rfl).trans (congrArg Value.bool g88))⟩) (S.pickF rfl ((L 4 rfl rfl).trans (congrArg Value.bool g96)) K) ?_
          exact kk [(23, .bool false), (22, .tuple #[]), (21, .tuple #[]), (20, .tuple #[]), (19, .tuple #[])] _ ⟨.tuple #[], .tuple #[], .tuple #[], .tuple #[], rfl, (by rw [g96, Bool.false_and])⟩

set_option maxHeartbeats 4000000 in
set_option maxRecDepth 10000 in
theorem wk_ref21_closure (V : Vw) (Rs : List At) (p0 : List (List Bool)) (v1 : Value) (hs2 : List Value) (ow : Ow V (.oss (RO.os RT.bool) v1 hs2 p0 :: Rs)) (r : List (List Bool)) (h : ref21_closure p0 = some r) : ∃ v V', Cl Try.prog 0 35 #[v1] V.H v V'.H ∧ V.le V' ∧ (∃ (v4 : Value) (hs5 : List Value), v = v4 ∧ Ow V' (.oss (RO.os RT.bool) v4 hs5 r :: Rs)) := by
  refine Ct.of (Nat.zero_le _) Try.func35 rfl (Nat.le_of_ble_eq_true rfl) ?_
  unfold ref21_closure at h
  refine WP.usreg rfl ?_
  refine U.p rfl rfl (.inl rfl) (S.assign rfl K) ?_
  refine U.done (Nat.le_of_ble_eq_true rfl) ?_
  refine WP.seq ?_
  refine WP.usreg rfl ?_
  refine U.p rfl rfl (.inl rfl) (S.move rfl (L 1 rfl rfl)) ?_
  refine U.p rfl rfl (.inl rfl) (ow.sslen (k := 0) rfl rfl (L 0 rfl rfl) Try.underlying41) ?_
  refine U.p rfl rfl (.inl rfl) (S.move rfl K) ?_
  refine U.done (Nat.le_of_ble_eq_true rfl) ?_
  refine WP.blk ?_
  unfold ref21_closure_l1 at h
  obtain ⟨n10, hn9⟩ := loopO_some.1 h
  refine WP.loopI2 (fun n l V' => ∃ (xs7 : List (List Bool)) (x8 : Int), l = [(0, v1), (7, .int .i64 (p0.length : Int)), (8, .int .i64 x8)] ∧ V.le V' ∧ Ow V' (.oss (RO.os RT.bool) v1 hs2 xs7 :: Rs) ∧ itO (fun s => ref21_closure_l1b p0 s.1 s.2) n (xs7, x8) = some r) n10 _ ⟨p0, 0, rfl, .refl _, ow, hn9⟩ (allCons (L 4 rfl rfl) (allCons (L 1 rfl rfl) (allCons (L 0 rfl rfl) allNil))) ?_
  rintro _ _ V11 ⟨xs7, x8, rfl, le12, ow13, h17⟩
  obtain ⟨m14, q15, rfl, h18, e16⟩ := itS h17
  replace h18 : ref21_closure_l1b p0 xs7 x8 = some q15 := h18
  unfold ref21_closure_l1b at h18
  refine WP.usreg rfl ?_
  refine U.p rfl rfl (.inl rfl) (S.lss rfl (L 2 rfl rfl) (L 1 rfl rfl)) ?_
  refine U.done (Nat.le_of_ble_eq_true rfl) ?_
  refine WP.seq ?_
  refine WP.cond _ (L 0 rfl rfl) rfl (fun c19 => ?_) (fun c19 => ?_)
  · have h20 := ifT c19 h18
    refine WP.skip ?_
    refine sqN ?_
    refine WP.seq ?_
    refine WP.blk ?_
    refine WP.usreg rfl ?_
    refine U.p rfl rfl (.inl rfl) (S.move rfl (L 3 rfl rfl)) ?_
    refine U.p rfl rfl (.inl rfl) (S.assign rfl (L 0 rfl rfl)) ?_
    refine U.done (Nat.le_of_ble_eq_true rfl) ?_
    refine WP.usreg rfl ?_
    refine U.p rfl rfl (.inl rfl) (S.move rfl (L 3 rfl rfl)) ?_
    refine U.p rfl rfl (.inl rfl) (ow13.sslen (k := 0) rfl rfl (L 0 rfl rfl) Try.underlying41) ?_
    refine U.p rfl rfl (.inl rfl) (S.move rfl K) ?_
    refine U.done (Nat.le_of_ble_eq_true rfl) ?_
    refine WP.blk ?_
    unfold ref21_closure_l2 at h20
    obtain ⟨n24, hn23⟩ := loopO_some.1 h20
    refine WP.loopI2 (fun n l V' => ∃ (xs21 : List (List Bool)) (x22 : Int), l = [(0, v1), (3, .int .i64 x8), (7, .int .i64 (p0.length : Int)), (8, .int .i64 x8), (12, .int .i64 (xs7.length : Int)), (13, .int .i64 x22)] ∧ V11.le V' ∧ Ow V' (.oss (RO.os RT.bool) v1 hs2 xs21 :: Rs) ∧ itO (fun s => ref21_closure_l2b xs7 x8 s.1 s.2) n (xs21, x22) = some q15) n24 _ ⟨xs7, 0, rfl, .refl _, ow13, hn23⟩ (allCons (L 6 rfl rfl) (allCons (L 3 rfl rfl) (allCons (L 7 rfl rfl) (allCons (L 8 rfl rfl) (allCons (L 1 rfl rfl) (allCons (L 0 rfl rfl) allNil)))))) ?_
    rintro _ _ V25 ⟨xs21, x22, rfl, le26, ow27, h31⟩
    obtain ⟨m28, q29, rfl, h32, e30⟩ := itS h31
    replace h32 : ref21_closure_l2b xs7 x8 xs21 x22 = some q29 := h32
    unfold ref21_closure_l2b at h32
    refine WP.usreg rfl ?_
    refine U.p rfl rfl (.inl rfl) (S.lss rfl (L 5 rfl rfl) (L 4 rfl rfl)) ?_
    refine U.done (Nat.le_of_ble_eq_true rfl) ?_
    refine WP.seq ?_
    refine WP.cond _ (L 0 rfl rfl) rfl (fun c33 => ?_) (fun c33 => ?_)
    · have h34 := ifT c33 h32
      refine WP.skip ?_
      refine sqN ?_
      refine WP.seq ?_
      refine WP.blk ?_
      refine WP.usreg rfl ?_
      refine U.p rfl rfl (.inl rfl) (S.move rfl (L 6 rfl rfl)) ?_
      refine U.p rfl rfl (.inl rfl) (S.assign rfl (L 0 rfl rfl)) ?_
      refine U.done (Nat.le_of_ble_eq_true rfl) ?_
      refine WP.usreg rfl ?_
      refine U.p rfl rfl (.inl rfl) (S.move rfl (L 3 rfl rfl)) ?_
      refine U.p rfl rfl (.inl rfl) (ow27.sslen (k := 0) rfl rfl (L 0 rfl rfl) Try.underlying41) ?_
      refine U.p rfl rfl (.inl rfl) (S.move rfl K) ?_
      refine U.done (Nat.le_of_ble_eq_true rfl) ?_
      refine WP.blk ?_
      unfold ref21_closure_l3 at h34
      obtain ⟨n38, hn37⟩ := loopO_some.1 h34
      refine WP.loopI2 (fun n l V' => ∃ (xs35 : List (List Bool)) (x36 : Int), l = [(0, v1), (3, .int .i64 x8), (4, .int .i64 x22), (7, .int .i64 (p0.length : Int)), (8, .int .i64 x8), (12, .int .i64 (xs7.length : Int)), (13, .int .i64 x22), (17, .int .i64 (xs21.length : Int)), (18, .int .i64 x36)] ∧ V25.le V' ∧ Ow V' (.oss (RO.os RT.bool) v1 hs2 xs35 :: Rs) ∧ itO (fun s => ref21_closure_l3b x8 xs21 x22 s.1 s.2) n (xs35, x36) = some q29) n38 _ ⟨xs21, 0, rfl, .refl _, ow27, hn37⟩ (allCons (L 6 rfl rfl) (allCons (L 7 rfl rfl) (allCons (L 3 rfl rfl) (allCons (L 8 rfl rfl) (allCons (L 9 rfl rfl) (allCons (L 10 rfl rfl) (allCons (L 11 rfl rfl) (allCons (L 1 rfl rfl) (allCons (L 0 rfl rfl) allNil))))))))) ?_
      rintro _ _ V39 ⟨xs35, x36, rfl, le40, ow41, h45⟩
      obtain ⟨m42, q43, rfl, h46, e44⟩ := itS h45
      replace h46 : ref21_closure_l3b x8 xs21 x22 xs35 x36 = some q43 := h46
      unfold ref21_closure_l3b at h46
      refine WP.usreg rfl ?_
      refine U.p rfl rfl (.inl rfl) (S.lss rfl (L 8 rfl rfl) (L 7 rfl rfl)) ?_
      refine U.done (Nat.le_of_ble_eq_true rfl) ?_
      refine WP.seq ?_
      refine WP.cond _ (L 0 rfl rfl) rfl (fun c47 => ?_) (fun c47 => ?_)
      · have h48 := ifT c47 h46
        refine WP.skip ?_
        refine sqN ?_
        refine WP.seqI (fun l V' => ∃ (xs49 : List (List Bool)), l = [(0, v1), (3, .int .i64 x8), (4, .int .i64 x22), (7, .int .i64 (p0.length : Int)), (8, .int .i64 x8), (12, .int .i64 (xs7.length : Int)), (13, .int .i64 x22), (17, .int .i64 (xs21.length : Int)), (18, .int .i64 x36)] ∧ V39.le V' ∧ Ow V' (.oss (RO.os RT.bool) v1 hs2 xs49 :: Rs) ∧ ref21_closure_k1 x36 xs49 = some q43) ?_ ?_
        · rintro _ V50 ⟨xs49, rfl, le51, ow52, h53⟩
          unfold ref21_closure_k1 at h53
          refine WP.ureg rfl ?_
          refine U.p rfl rfl (.inl rfl) (S.add rfl (L 8 rfl rfl) K) ?_
          refine U.p rfl rfl (.inl rfl) (S.move rfl (L 0 rfl rfl)) ?_
          refine U.done (Nat.le_of_ble_eq_true rfl) ?_
          refine sqN ?_
          exact ⟨_, V50, rfl, ⟨m42, Nat.lt_succ_self _, xs49, w64 (x36 + 1), rfl, (le40.trans le51), ow52, backS h53 e44⟩, (allCons (L 2 rfl rfl) (allCons (L 3 rfl rfl) (allCons (L 4 rfl rfl) (allCons (L 5 rfl rfl) (allCons (L 6 rfl rfl) (allCons (L 7 rfl rfl) (allCons (L 8 rfl rfl) (allCons (L 9 rfl rfl) (allCons (L 0 rfl rfl) allNil)))))))))⟩
        · skip
          refine WP.blk ?_
          refine WP.usreg rfl ?_
          refine U.p rfl rfl (.inl rfl) (S.move rfl (L 9 rfl rfl)) ?_
          refine U.p rfl rfl (.inl rfl) (S.assign rfl (L 0 rfl rfl)) ?_
          refine U.done (Nat.le_of_ble_eq_true rfl) ?_
          refine WP.udreg rfl rfl rfl ?_
          refine U.p rfl rfl (.inl rfl) (S.move rfl (L 3 rfl rfl)) ?_
          refine U.p rfl rfl (.inl rfl) (S.move rfl (L 6 rfl rfl)) ?_
          obtain ⟨x54, hx55, h56⟩ := bindS h48
          obtain ⟨b57, o58, n59, c60, hv61⟩ := ow41.sspt (k := 0) rfl hx55
          refine U.p rfl rfl (.inl rfl) (S.index rfl ((L 1 rfl rfl).trans (ow41.sslen' (k := 0) rfl hv61)) (L 0 rfl rfl) Try.underlying41 ti53 (ix_ge hx55) (ix_lt hx55)) ?_
          obtain ⟨h62, hh63, ow64⟩ := ow41.ssopen (k := 0) rfl hx55
          have hcl66 := ow64.shcell (k := 1) rfl hv61 hh63
          refine U.k rfl rfl (.inl rfl) (S.load rfl (L 0 rfl rfl) Try.underlying53 rfl hcl66.2) (fun _ => (okH.nil (fun r h => by cases h; exact hcl66.1))) ?_
          refine U.p rfl rfl (.inl rfl) (S.move rfl (L 4 rfl rfl)) ?_
          refine U.p rfl rfl (.inl rfl) (S.move rfl (L 8 rfl rfl)) ?_
          refine U.p rfl rfl (.inl rfl) (S.move rfl (L 11 rfl rfl)) ?_
          obtain ⟨x67, hx68, h69⟩ := bindS h56
          refine U.p rfl rfl (.inl rfl) (S.index rfl ((L 1 rfl rfl).trans (ow64.shlen' (k := 1) rfl hv61)) (L 0 rfl rfl) Try.underlying41 ti53 (ix_ge hx68) (ix_lt hx68)) ?_
          have hcl70 := ow64.shcell (k := 1) rfl hv61 hh63
          refine U.k rfl rfl (.inl rfl) (S.load rfl (L 0 rfl rfl) Try.underlying53 rfl hcl70.2) (fun _ => (okH.cons trivial (okH.nil (fun r h => by cases h; exact hcl70.1)))) ?_
          refine U.p rfl rfl (.inl rfl) (S.move rfl (L 9 rfl rfl)) ?_
          obtain ⟨x71, hx72, h73⟩ := bindS h69
          obtain ⟨b74, o75, n76, c77, hv78⟩ := ow64.ospt (k := 0) rfl hx72
          obtain ⟨_, hv79, _⟩ := ow64.osel (k := 0) rfl hv78 hx72
          refine U.p rfl rfl (.inl rfl) (S.index rfl ((L 1 rfl rfl).trans hv79) (L 0 rfl rfl) Try.underlying53 ti4 (ix_ge hx72) (ix_lt hx72)) ?_
          obtain ⟨cs80, hv81, hlt82, hr83, hc84⟩ := ow64.osel (k := 0) rfl hv78 hx72
          obtain rfl : cs80 = [.bool x71] := hr83
          refine U.k rfl rfl (.inl rfl) (S.load rfl (L 0 rfl rfl) Try.underlying4 rfl (hc84 0 _ rfl)) (fun _ => (okH.cons trivial (okH.cons trivial (okH.nil (fun r h => by cases h; exact hlt82))))) ?_
          refine U.p rfl rfl (.inl rfl) (S.move rfl (L 0 rfl rfl)) ?_
          have ow85 := ow64.ssclose' (k := 1) (j := 0) rfl rfl (by decide) hh63 hx55
          refine bcase (b := x71) (fun g86 => ?_) (fun g86 => ?_)
          · have h87 := ifT g86 h73
            refine U.x rfl rfl rfl rfl ((L 0 rfl rfl).trans (congrArg Value.bool g86)) (by decide) ?_
            refine U.x rfl rfl rfl rfl ((L 1 rfl rfl).trans (congrArg Value.bool g86)) (by decide) ?_
            refine U.x rfl rfl rfl rfl ((L 2 rfl rfl).trans (congrArg Value.bool g86)) (by decide) ?_
            refine U.x rfl rfl rfl rfl ((L 3 rfl rfl).trans (congrArg Value.bool g86)) (by decide) ?_
            refine U.x rfl rfl rfl rfl ((L 4 rfl rfl).trans (congrArg Value.bool g86)) (by decide) ?_
            refine U.x rfl rfl rfl rfl ((L 5 rfl rfl).trans (congrArg Value.bool g86)) (by decide) ?_
            refine U.x rfl rfl rfl rfl ((L 6 rfl rfl).trans (congrArg Value.bool g86)) (by decide) ?_
            refine U.x rfl rfl rfl rfl ((L 7 rfl rfl).trans (congrArg Value.bool g86)) (by decide) ?_
            refine U.z rfl rfl rfl rfl (L 0 rfl rfl) ?_
            refine U.z rfl rfl rfl rfl (L 1 rfl rfl) ?_
            refine U.z rfl rfl rfl rfl (L 2 rfl rfl) ?_
            refine U.z rfl rfl rfl rfl (L 3 rfl rfl) ?_
            refine U.z rfl rfl rfl rfl (L 4 rfl rfl) ?_
            refine U.z rfl rfl rfl rfl (L 5 rfl rfl) ?_
            refine U.z rfl rfl rfl rfl (L 6 rfl rfl) ?_
            refine U.x rfl rfl rfl rfl ((L 15 rfl rfl).trans (congrArg Value.bool g86)) (by decide) ?_
            refine U.p rfl rfl (.inl rfl) (S.pickT rfl ((L 16 rfl rfl).trans (congrArg Value.bool g86)) K) ?_
            obtain ⟨x88, hx89, h90⟩ := bindS h87
            obtain ⟨h91, hh92, ow93⟩ := ow85.ssopen (k := 0) rfl hx89
            obtain rfl : h91 = h62 := Option.some.inj (hh92.symm.trans hh63)
            obtain ⟨x95, hx96, h97⟩ := bindS h90
            obtain ⟨b98, o99, n100, c101, hv102⟩ := ow93.ospt (k := 0) rfl hx96
            obtain ⟨_, hv103, _⟩ := ow93.osel (k := 0) rfl hv102 hx96
            refine U.p rfl rfl (.inl rfl) (S.index rfl ((L 26 rfl rfl).trans hv103) (L 25 rfl rfl) Try.underlying53 ti4 (ix_ge hx96) (ix_lt hx96)) ?_
            obtain ⟨cs104, hv105, hlt106, hr107, hc108⟩ := ow93.osel (k := 0) rfl hv102 hx96
            obtain rfl : cs104 = [.bool x95] := hr107
            refine O.storeE (k := 0) (R := RT.bool) (j := 0) (y := true) (cs := [.bool true]) ow93 rfl hv105 rfl rfl (.inl rfl) rfl (L 0 rfl rfl) (L 1 rfl rfl) ti4 hx96 (by simp [topV]) rfl rfl rfl (full rfl) (fun H1 hs => (fun _ => (okH.cons (Or.inl rfl) (okH.cons (Or.inl rfl) (okH.cons (Or.inl rfl) (okH.nil (fun r h => nomatch h))))))) (fun V109 le110 ow111 => ?_)
            refine U.done (Nat.le_of_ble_eq_true rfl) ?_
            refine blkN (sqN ?_)
            have ow112 := ow111.ssclose (k := 1) (j := 0) rfl rfl (by decide) hh63
            exact ⟨_, V109, rfl, ⟨xs35.set (Int.toNat x22) (x88.set (Int.toNat x36) true), rfl, le110, ow112, h97⟩, (allCons (L 34 rfl rfl) (allCons (L 35 rfl rfl) (allCons (L 36 rfl rfl) (allCons (L 37 rfl rfl) (allCons (L 38 rfl rfl) (allCons (L 39 rfl rfl) (allCons (L 40 rfl rfl) (allCons (L 41 rfl rfl) (allCons (L 42 rfl rfl) allNil)))))))))⟩
          · have h113 := ifF g86 h73
            refine U.p rfl rfl (.inr ⟨_, _, _, rfl, rfl, ((L 0 rfl rfl).trans (congrArg Value.bool g86))⟩) (S.move rfl (L 16 rfl rfl)) ?_
            refine U.p rfl rfl (.inr ⟨_, _, _, rfl, rfl, ((L 1 rfl rfl).trans (congrArg Value.bool g86))⟩) (S.move rfl (L 19 rfl rfl)) ?_
            obtain ⟨x114, hx115, h116⟩ := bindS h113
            refine U.p rfl rfl (.inr ⟨_, _, _, rfl, rfl, ((L 2 rfl rfl).trans (congrArg Value.bool g86))⟩) (S.index rfl ((L 1 rfl rfl).trans (ow85.sslen' (k := 0) rfl hv61)) (L 0 rfl rfl) Try.underlying41 ti53 (ix_ge hx115) (ix_lt hx115)) ?_
            obtain ⟨h117, hh118, ow119⟩ := ow85.ssopen (k := 0) rfl hx115
            have hcl121 := ow119.shcell (k := 1) rfl hv61 hh118
            refine U.k rfl rfl (.inr ⟨_, _, _, rfl, rfl, ((L 3 rfl rfl).trans (congrArg Value.bool g86))⟩) (S.load rfl (L 0 rfl rfl) Try.underlying53 rfl hcl121.2) (fun _ => (okH.cons trivial (okH.cons trivial (okH.cons trivial (okH.nil (fun r h => by cases h; exact hcl121.1)))))) ?_
            refine U.p rfl rfl (.inr ⟨_, _, _, rfl, rfl, ((L 4 rfl rfl).trans (congrArg Value.bool g86))⟩) (S.move rfl (L 21 rfl rfl)) ?_
            obtain ⟨x122, hx123, h124⟩ := bindS h116
            obtain ⟨b125, o126, n127, c128, hv129⟩ := ow119.ospt (k := 0) rfl hx123
            obtain ⟨_, hv130, _⟩ := ow119.osel (k := 0) rfl hv129 hx123
            refine U.p rfl rfl (.inr ⟨_, _, _, rfl, rfl, ((L 5 rfl rfl).trans (congrArg Value.bool g86))⟩) (S.index rfl ((L 1 rfl rfl).trans hv130) (L 0 rfl rfl) Try.underlying53 ti4 (ix_ge hx123) (ix_lt hx123)) ?_
            obtain ⟨cs131, hv132, hlt133, hr134, hc135⟩ := ow119.osel (k := 0) rfl hv129 hx123
            obtain rfl : cs131 = [.bool x122] := hr134
            refine U.k rfl rfl (.inr ⟨_, _, _, rfl, rfl, ((L 6 rfl rfl).trans (congrArg Value.bool g86))⟩) (S.load rfl (L 0 rfl rfl) Try.underlying4 rfl (hc135 0 _ rfl)) (fun _ => (okH.cons trivial (okH.cons trivial (okH.cons trivial (okH.cons trivial (okH.nil (fun r h => by cases h; exact hlt133))))))) ?_
            refine U.p rfl rfl (.inr ⟨_, _, _, rfl, rfl, ((L 7 rfl rfl).trans (congrArg Value.bool g86))⟩) (S.move rfl (L 0 rfl rfl)) ?_
            have ow136 := ow119.ssclose' (k := 1) (j := 0) rfl rfl (by decide) hh118 hx115
            refine bcase (b := x122) (fun g137 => ?_) (fun g137 => ?_)
            · have h138 := ifT g137 h124
              refine U.p rfl rfl (.inr ⟨_, _, _, rfl, rfl, ((L 0 rfl rfl).trans (congrArg Value.bool g137))⟩) (S.move rfl (L 24 rfl rfl)) ?_
              refine U.p rfl rfl (.inr ⟨_, _, _, rfl, rfl, ((L 1 rfl rfl).trans (congrArg Value.bool g137))⟩) (S.move rfl (L 26 rfl rfl)) ?_
              obtain ⟨x139, hx140, h141⟩ := bindS h138
              refine U.p rfl rfl (.inr ⟨_, _, _, rfl, rfl, ((L 2 rfl rfl).trans (congrArg Value.bool g137))⟩) (S.index rfl ((L 1 rfl rfl).trans (ow136.sslen' (k := 0) rfl hv61)) (L 0 rfl rfl) Try.underlying41 ti53 (ix_ge hx140) (ix_lt hx140)) ?_
              obtain ⟨h142, hh143, ow144⟩ := ow136.ssopen (k := 0) rfl hx140
              have hcl146 := ow144.shcell (k := 1) rfl hv61 hh143
              refine U.k rfl rfl (.inr ⟨_, _, _, rfl, rfl, ((L 3 rfl rfl).trans (congrArg Value.bool g137))⟩) (S.load rfl (L 0 rfl rfl) Try.underlying53 rfl hcl146.2) (fun _ => (okH.cons trivial (okH.cons trivial (okH.cons trivial (okH.cons trivial (okH.cons trivial (okH.nil (fun r h => by cases h; exact hcl146.1)))))))) ?_
              refine U.p rfl rfl (.inr ⟨_, _, _, rfl, rfl, ((L 4 rfl rfl).trans (congrArg Value.bool g137))⟩) (S.move rfl (L 25 rfl rfl)) ?_
              obtain ⟨x147, hx148, h149⟩ := bindS h141
              obtain ⟨b150, o151, n152, c153, hv154⟩ := ow144.ospt (k := 0) rfl hx148
              obtain ⟨_, hv155, _⟩ := ow144.osel (k := 0) rfl hv154 hx148
              refine U.p rfl rfl (.inr ⟨_, _, _, rfl, rfl, ((L 5 rfl rfl).trans (congrArg Value.bool g137))⟩) (S.index rfl ((L 1 rfl rfl).trans hv155) (L 0 rfl rfl) Try.underlying53 ti4 (ix_ge hx148) (ix_lt hx148)) ?_
              obtain ⟨cs156, hv157, hlt158, hr159, hc160⟩ := ow144.osel (k := 0) rfl hv154 hx148
              obtain rfl : cs156 = [.bool x147] := hr159
              refine U.k rfl rfl (.inr ⟨_, _, _, rfl, rfl, ((L 6 rfl rfl).trans (congrArg Value.bool g137))⟩) (S.load rfl (L 0 rfl rfl) Try.underlying4 rfl (hc160 0 _ rfl)) (fun _ => (okH.cons trivial (okH.cons trivial (okH.cons trivial (okH.cons trivial (okH.cons trivial (okH.cons trivial (okH.nil (fun r h => by cases h; exact hlt158))))))))) ?_
              refine U.p rfl rfl (.inr ⟨_, _, _, rfl, rfl, ((L 15 rfl rfl).trans (congrArg Value.bool g86))⟩) (S.pickT rfl ((L 7 rfl rfl).trans (congrArg Value.bool g137)) (L 0 rfl rfl)) ?_
              refine U.p rfl rfl (.inl rfl) (S.pickF rfl ((L 16 rfl rfl).trans (congrArg Value.bool g86)) (L 0 rfl rfl)) ?_
              have ow161 := ow144.ssclose' (k := 1) (j := 0) rfl rfl (by decide) hh143 hx140
              obtain ⟨x162, hx163, h164⟩ := bindS h149
              obtain ⟨h165, hh166, ow167⟩ := ow161.ssopen (k := 0) rfl hx163
              obtain rfl : h165 = h62 := Option.some.inj (hh166.symm.trans hh63)
              obtain ⟨x169, hx170, h171⟩ := bindS h164
              obtain ⟨b172, o173, n174, c175, hv176⟩ := ow167.ospt (k := 0) rfl hx170
              obtain ⟨_, hv177, _⟩ := ow167.osel (k := 0) rfl hv176 hx170
              refine U.p rfl rfl (.inl rfl) (S.index rfl ((L 26 rfl rfl).trans hv177) (L 25 rfl rfl) Try.underlying53 ti4 (ix_ge hx170) (ix_lt hx170)) ?_
              obtain ⟨cs178, hv179, hlt180, hr181, hc182⟩ := ow167.osel (k := 0) rfl hv176 hx170
              obtain rfl : cs178 = [.bool x169] := hr181
              refine O.storeE (k := 0) (R := RT.bool) (j := 0) (y := x147) (cs := [.bool x147]) ow167 rfl hv179 rfl rfl (.inl rfl) rfl (L 0 rfl rfl) (L 1 rfl rfl) ti4 hx170 (by simp [topV]) rfl rfl rfl (full rfl) (fun H1 hs => (fun _ => (okH.cons (Or.inl rfl) (okH.cons (Or.inl rfl) (okH.cons (Or.inl rfl) (okH.cons (Or.inl rfl) (okH.cons (Or.inl rfl) (okH.cons (Or.inl rfl) (okH.cons (Or.inl rfl) (okH.nil (fun r h => nomatch h))))))))))) (fun V183 le184 ow185 => ?_)
              refine U.done (Nat.le_of_ble_eq_true rfl) ?_
              refine blkN (sqN ?_)
              have ow186 := ow185.ssclose (k := 1) (j := 0) rfl rfl (by decide) hh63
              exact ⟨_, V183, rfl, ⟨xs35.set (Int.toNat x22) (x162.set (Int.toNat x36) x147), rfl, le184, ow186, h171⟩, (allCons (L 34 rfl rfl) (allCons (L 35 rfl rfl) (allCons (L 36 rfl rfl) (allCons (L 37 rfl rfl) (allCons (L 38 rfl rfl) (allCons (L 39 rfl rfl) (allCons (L 40 rfl rfl) (allCons (L 41 rfl rfl) (allCons (L 42 rfl rfl) allNil)))))))))⟩
            · have h187 := ifF g137 h124
              refine U.x rfl rfl rfl rfl ((L 0 rfl rfl).trans (congrArg Value.bool g137)) (by decide) ?_
              refine U.x rfl rfl rfl rfl ((L 1 rfl rfl).trans (congrArg Value.bool g137)) (by decide) ?_
              refine U.x rfl rfl rfl rfl ((L 2 rfl rfl).trans (congrArg Value.bool g137)) (by decide) ?_
              refine U.x rfl rfl rfl rfl ((L 3 rfl rfl).trans (congrArg Value.bool g137)) (by decide) ?_
              refine U.x rfl rfl rfl rfl ((L 4 rfl rfl).trans (congrArg Value.bool g137)) (by decide) ?_
              refine U.x rfl rfl rfl rfl ((L 5 rfl rfl).trans (congrArg Value.bool g137)) (by decide) ?_
              refine U.x rfl rfl rfl rfl ((L 6 rfl rfl).trans (congrArg Value.bool g137)) (by decide) ?_
              refine U.p rfl rfl (.inr ⟨_, _, _, rfl, rfl, ((L 15 rfl rfl).trans (congrArg Value.bool g86))⟩) (S.pickF rfl ((L 7 rfl rfl).trans (congrArg Value.bool g137)) K) ?_
              refine U.p rfl rfl (.inl rfl) (S.pickF rfl ((L 16 rfl rfl).trans (congrArg Value.bool g86)) (L 0 rfl rfl)) ?_
              obtain ⟨x188, hx189, h190⟩ := bindS h187
              obtain ⟨h191, hh192, ow193⟩ := ow136.ssopen (k := 0) rfl hx189
              obtain rfl : h191 = h62 := Option.some.inj (hh192.symm.trans hh63)
              obtain ⟨x195, hx196, h197⟩ := bindS h190
              obtain ⟨b198, o199, n200, c201, hv202⟩ := ow193.ospt (k := 0) rfl hx196
              obtain ⟨_, hv203, _⟩ := ow193.osel (k := 0) rfl hv202 hx196
              refine U.p rfl rfl (.inl rfl) (S.index rfl ((L 26 rfl rfl).trans hv203) (L 25 rfl rfl) Try.underlying53 ti4 (ix_ge hx196) (ix_lt hx196)) ?_
              obtain ⟨cs204, hv205, hlt206, hr207, hc208⟩ := ow193.osel (k := 0) rfl hv202 hx196
              obtain rfl : cs204 = [.bool x195] := hr207
              refine O.storeE (k := 0) (R := RT.bool) (j := 0) (y := false) (cs := [.bool false]) ow193 rfl hv205 rfl rfl (.inl rfl) rfl (L 0 rfl rfl) (L 1 rfl rfl) ti4 hx196 (by simp [topV]) rfl rfl rfl (full rfl) (fun H1 hs => (fun _ => (okH.cons (Or.inl rfl) (okH.cons (Or.inl rfl) (okH.cons (Or.inl rfl) (okH.cons (Or.inl rfl) (okH.cons (Or.inl rfl) (okH.nil (fun r h => nomatch h))))))))) (fun V209 le210 ow211 => ?_)
              refine U.done (Nat.le_of_ble_eq_true rfl) ?_
              refine blkN (sqN ?_)
              have ow212 := ow211.ssclose (k := 1) (j := 0) rfl rfl (by decide) hh63
              exact ⟨_, V209, rfl, ⟨xs35.set (Int.toNat x22) (x188.set (Int.toNat x36) false), rfl, le210, ow212, h197⟩, (allCons (L 34 rfl rfl) (allCons (L 35 rfl rfl) (allCons (L 36 rfl rfl) (allCons (L 37 rfl rfl) (allCons (L 38 rfl rfl) (allCons (L 39 rfl rfl) (allCons (L 40 rfl rfl) (allCons (L 41 rfl rfl) (allCons (L 42 rfl rfl) allNil)))))))))⟩
      · have h213 := ifF c47 h46
        refine WP.exit ?_
        refine sqE (sqE (blkE (blkN (sqN ?_))))
        have h214 := exitS h213 e44
        refine WP.ureg rfl ?_
        refine U.p rfl rfl (.inl rfl) (S.add rfl (L 7 rfl rfl) K) ?_
        refine U.p rfl rfl (.inl rfl) (S.move rfl (L 0 rfl rfl)) ?_
        refine U.done (Nat.le_of_ble_eq_true rfl) ?_
        refine sqN ?_
        exact ⟨_, V39, rfl, ⟨m28, Nat.lt_succ_self _, xs35, w64 (x22 + 1), rfl, (le26.trans le40), ow41, backS h214 e30⟩, (allCons (L 3 rfl rfl) (allCons (L 4 rfl rfl) (allCons (L 6 rfl rfl) (allCons (L 7 rfl rfl) (allCons (L 8 rfl rfl) (allCons (L 0 rfl rfl) allNil))))))⟩
    · have h215 := ifF c33 h32
      refine WP.exit ?_
      refine sqE (sqE (blkE (blkN (sqN ?_))))
      have h216 := exitS h215 e30
      refine WP.ureg rfl ?_
      refine U.p rfl rfl (.inl rfl) (S.add rfl (L 4 rfl rfl) K) ?_
      refine U.p rfl rfl (.inl rfl) (S.move rfl (L 0 rfl rfl)) ?_
      refine U.done (Nat.le_of_ble_eq_true rfl) ?_
      refine sqN ?_
      exact ⟨_, V25, rfl, ⟨m14, Nat.lt_succ_self _, xs21, w64 (x8 + 1), rfl, (le12.trans le26), ow27, backS h216 e16⟩, (allCons (L 3 rfl rfl) (allCons (L 5 rfl rfl) (allCons (L 0 rfl rfl) allNil)))⟩
  · have h217 := ifF c19 h18
    refine WP.exit ?_
    refine sqE (sqE (blkE (sqN ?_)))
    have h218 := exitS h217 e16
    refine WP.usreg rfl ?_
    refine U.p rfl rfl (.inl rfl) (S.move rfl (L 1 rfl rfl)) ?_
    refine U.p rfl rfl (.inl rfl) (S.assign rfl (L 0 rfl rfl)) ?_
    refine U.done (Nat.le_of_ble_eq_true rfl) ?_
    refine WP.ret ?_
    refine fin.slot (.inr rfl) rfl (L 0 rfl rfl) ⟨V11, rfl, le12, ?_⟩
    have e219 := Option.some.inj h218
    subst e219
    exact ⟨v1, hs2, rfl, ow13⟩

set_option maxHeartbeats 4000000 in
set_option maxRecDepth 10000 in
theorem wk_ref21_Ahead (V : Vw) (Rs : List At) (p0 : List Tref21_Node) (v1 : Value) (ow : Ow V (.os RT_Tref21_Node v1 p0 :: Rs)) (r : List (List Bool)) (h : ref21_Ahead p0 = some r) : ∃ v V', Cl Try.prog 0 43 #[v1] V.H v V'.H ∧ V.le V' ∧ (∃ (v3 : Value) (hs4 : List Value), v = v3 ∧ Ow V' (.oss (RO.os RT.bool) v3 hs4 r :: .os RT_Tref21_Node v1 p0 :: Rs)) := by
  refine Ct.of (Nat.zero_le _) Try.func43 rfl (Nat.le_of_ble_eq_true rfl) ?_
  unfold ref21_Ahead at h
  refine WP.usreg rfl ?_
  refine U.p rfl rfl (.inl rfl) (S.assign rfl K) ?_
  refine U.done (Nat.le_of_ble_eq_true rfl) ?_
  refine WP.usreg rfl ?_
  refine U.p rfl rfl (.inl rfl) (S.move rfl (L 1 rfl rfl)) ?_
  refine U.p rfl rfl (.inl rfl) (ow.oslen (k := 0) rfl rfl (L 0 rfl rfl) Try.underlying47) ?_
  obtain ⟨x6, hx7, h8⟩ := bindS h
  refine O.call (V := V) rfl rfl (.inl rfl) rfl en33 (aC (L 0 rfl rfl) aN) (wk_ref21_matrix V _ (p0.length : Int) ow _ hx7) (fun _ _ _ _ => nd) (fun v9 V10 le11 hp12 => ?_)
  obtain ⟨_, hs15, rfl, ow13⟩ := hp12
  refine U.p rfl rfl (.inl rfl) (S.assign rfl (L 0 rfl rfl)) ?_
  refine U.done (Nat.le_of_ble_eq_true rfl) ?_
  refine WP.seq ?_
  refine WP.usreg rfl ?_
  refine U.p rfl rfl (.inl rfl) (S.move rfl (L 5 rfl rfl)) ?_
  refine U.p rfl rfl (.inl rfl) (ow13.oslen (k := 1) rfl rfl (L 0 rfl rfl) Try.underlying47) ?_
  refine U.p rfl rfl (.inl rfl) (S.move rfl K) ?_
  refine U.done (Nat.le_of_ble_eq_true rfl) ?_
  refine WP.blk ?_
  have ow19 := ow13.pick 0 rfl
  have ow20 := ow19.pick 1 rfl
  unfold ref21_Ahead_l1 at h8
  obtain ⟨n22, hn21⟩ := loopO_some.1 h8
  refine WP.loopI2 (fun n l V' => ∃ (xs17 : List (List Bool)) (x18 : Int), l = [(0, v1), (3, v9), (11, v1), (12, .int .i64 (p0.length : Int)), (13, .int .i64 x18)] ∧ V10.le V' ∧ Ow V' (.os RT_Tref21_Node v1 p0 :: .oss (RO.os RT.bool) v9 hs15 xs17 :: Rs) ∧ itO (fun s => ref21_Ahead_l1b p0 s.1 s.2) n (xs17, x18) = some r) n22 _ ⟨x6, 0, rfl, .refl _, ow20, hn21⟩ (allCons (L 8 rfl rfl) (allCons (L 3 rfl rfl) (allCons (L 2 rfl rfl) (allCons (L 1 rfl rfl) (allCons (L 0 rfl rfl) allNil))))) ?_
  rintro _ _ V23 ⟨xs17, x18, rfl, le24, ow25, h29⟩
  obtain ⟨m26, q27, rfl, h30, e28⟩ := itS h29
  replace h30 : ref21_Ahead_l1b p0 xs17 x18 = some q27 := h30
  unfold ref21_Ahead_l1b at h30
  refine WP.usreg rfl ?_
  refine U.p rfl rfl (.inl rfl) (S.lss rfl (L 4 rfl rfl) (L 3 rfl rfl)) ?_
  refine U.done (Nat.le_of_ble_eq_true rfl) ?_
  refine WP.seq ?_
  refine WP.cond _ (L 0 rfl rfl) rfl (fun c31 => ?_) (fun c31 => ?_)
  · have h32 := ifT c31 h30
    refine WP.skip ?_
    refine sqN ?_
    refine WP.seq ?_
    refine WP.blk ?_
    refine WP.usreg rfl ?_
    refine U.p rfl rfl (.inl rfl) (S.move rfl (L 5 rfl rfl)) ?_
    obtain ⟨x33, hx34, h35⟩ := bindS h32
    obtain ⟨b36, o37, n38, c39, hv40⟩ := ow25.ospt (k := 0) rfl hx34
    obtain ⟨_, hv41, _⟩ := ow25.osel (k := 0) rfl hv40 hx34
    refine U.p rfl rfl (.inl rfl) (S.index rfl ((L 4 rfl rfl).trans hv41) (L 6 rfl rfl) Try.underlying47 ti52 (ix_ge hx34) (ix_lt hx34)) ?_
    obtain ⟨cs42, hv43, hlt44, hr45, hc46⟩ := ow25.osel (k := 0) rfl hv40 hx34
    obtain rfl : cs42 = [.int .i64 x33.e.t, .int .i64 x33.e.act.kind, .int .i64 x33.e.act.at_, .int .i64 x33.e.act.val, .int .i64 x33.e.act.what, .bool x33.e.act.volatile, .bool x33.e.act.final, .int .i64 x33.e.rf, .int .i64 x33.e.id, .int .i64 x33.at_] := hr45
    refine U.k rfl rfl (.inl rfl) (S.loadN (cs := [.int .i64 x33.e.t, .int .i64 x33.e.act.kind, .int .i64 x33.e.act.at_, .int .i64 x33.e.act.val, .int .i64 x33.e.act.what, .bool x33.e.act.volatile, .bool x33.e.act.final, .int .i64 x33.e.rf, .int .i64 x33.e.id, .int .i64 x33.at_]) rfl (L 0 rfl rfl) Try.underlying52 rfl ti52 rfl hc46) nd ?_
    refine O.alloc ow25 rfl rfl (.inl rfl) rfl ti52 rfl rfl nd (fun b47 V48 le49 ow50 => ?_)
    refine U.p rfl rfl (.inl rfl) (S.assign rfl (L 3 rfl rfl)) ?_
    refine O.store (k := 0) (cs := [.int .i64 x33.e.t, .int .i64 x33.e.act.kind, .int .i64 x33.e.act.at_, .int .i64 x33.e.act.val, .int .i64 x33.e.act.what, .bool x33.e.act.volatile, .bool x33.e.act.final, .int .i64 x33.e.rf, .int .i64 x33.e.id, .int .i64 x33.at_]) (c' := [.int .i64 x33.e.t, .int .i64 x33.e.act.kind, .int .i64 x33.e.act.at_, .int .i64 x33.e.act.val, .int .i64 x33.e.act.what, .bool x33.e.act.volatile, .bool x33.e.act.final, .int .i64 x33.e.rf, .int .i64 x33.e.id, .int .i64 x33.at_]) ow50 rfl rfl rfl (.inl rfl) rfl (L 1 rfl rfl) (L 2 rfl rfl) ti52 (by simp [topV]) rfl rfl (Nat.le_of_ble_eq_true rfl) rfl rfl nd (fun V52 le53 ow54 => ?_)
    refine U.done (Nat.le_of_ble_eq_true rfl) ?_
    refine WP.usreg rfl ?_
    refine U.p rfl rfl (.inl rfl) (S.move rfl (L 6 rfl rfl)) ?_
    refine U.p rfl rfl (.inl rfl) (ow54.oslen (k := 1) rfl rfl (L 0 rfl rfl) Try.underlying47) ?_
    refine U.p rfl rfl (.inl rfl) (S.move rfl K) ?_
    refine U.done (Nat.le_of_ble_eq_true rfl) ?_
    refine WP.blk ?_
    have ow57 := ow54.pick 0 rfl
    have ow58 := ow57.pick 2 rfl
    have ow59 := ow58.pick 2 rfl
    unfold ref21_Ahead_l2 at h35
    obtain ⟨n61, hn60⟩ := loopO_some.1 h35
    refine WP.loopI2 (fun n l V' => ∃ (xs55 : List (List Bool)) (x56 : Int), l = [(0, v1), (3, v9), (4, .int .i64 x18), (5, .pointer (some ⟨b47, 0, none⟩)), (11, v1), (12, .int .i64 (p0.length : Int)), (13, .int .i64 x18), (18, v1), (19, .int .i64 (p0.length : Int)), (20, .int .i64 x56)] ∧ V52.le V' ∧ Ow V' (.os RT_Tref21_Node v1 p0 :: .oss (RO.os RT.bool) v9 hs15 xs55 :: .pt b47 (.cells 10 [.int .i64 x33.e.t, .int .i64 x33.e.act.kind, .int .i64 x33.e.act.at_, .int .i64 x33.e.act.val, .int .i64 x33.e.act.what, .bool x33.e.act.volatile, .bool x33.e.act.final, .int .i64 x33.e.rf, .int .i64 x33.e.id, .int .i64 x33.at_]) :: Rs) ∧ itO (fun s => ref21_Ahead_l2b p0 x18 x33 s.1 s.2) n (xs55, x56) = some q27) n61 _ ⟨xs17, 0, rfl, .refl _, ow59, hn60⟩ (allCons (L 9 rfl rfl) (allCons (L 10 rfl rfl) (allCons (L 3 rfl rfl) (allCons (L 4 rfl rfl) (allCons (L 11 rfl rfl) (allCons (L 12 rfl rfl) (allCons (L 13 rfl rfl) (allCons (L 2 rfl rfl) (allCons (L 1 rfl rfl) (allCons (L 0 rfl rfl) allNil)))))))))) ?_
    rintro _ _ V62 ⟨xs55, x56, rfl, le63, ow64, h68⟩
    obtain ⟨m65, q66, rfl, h69, e67⟩ := itS h68
    replace h69 : ref21_Ahead_l2b p0 x18 x33 xs55 x56 = some q66 := h69
    unfold ref21_Ahead_l2b at h69
    refine WP.usreg rfl ?_
    refine U.p rfl rfl (.inl rfl) (S.lss rfl (L 9 rfl rfl) (L 8 rfl rfl)) ?_
    refine U.done (Nat.le_of_ble_eq_true rfl) ?_
    refine WP.seq ?_
    refine WP.cond _ (L 0 rfl rfl) rfl (fun c70 => ?_) (fun c70 => ?_)
    · have h71 := ifT c70 h69
      refine WP.skip ?_
      refine sqN ?_
      refine WP.seqI (fun l V' => ∃ (xs72 : List (List Bool)), l = [(0, v1), (3, v9), (4, .int .i64 x18), (5, .pointer (some ⟨b47, 0, none⟩)), (11, v1), (12, .int .i64 (p0.length : Int)), (13, .int .i64 x18), (18, v1), (19, .int .i64 (p0.length : Int)), (20, .int .i64 x56)] ∧ V62.le V' ∧ Ow V' (.os RT_Tref21_Node v1 p0 :: .oss (RO.os RT.bool) v9 hs15 xs72 :: .pt b47 (.cells 10 [.int .i64 x33.e.t, .int .i64 x33.e.act.kind, .int .i64 x33.e.act.at_, .int .i64 x33.e.act.val, .int .i64 x33.e.act.what, .bool x33.e.act.volatile, .bool x33.e.act.final, .int .i64 x33.e.rf, .int .i64 x33.e.id, .int .i64 x33.at_]) :: Rs) ∧ ref21_Ahead_k1 x56 xs72 = some q66) ?_ ?_
      · rintro _ V73 ⟨xs72, rfl, le74, ow75, h76⟩
        unfold ref21_Ahead_k1 at h76
        refine WP.ureg rfl ?_
        refine U.p rfl rfl (.inl rfl) (S.add rfl (L 9 rfl rfl) K) ?_
        refine U.p rfl rfl (.inl rfl) (S.move rfl (L 0 rfl rfl)) ?_
        refine U.done (Nat.le_of_ble_eq_true rfl) ?_
        refine sqN ?_
        exact ⟨_, V73, rfl, ⟨m65, Nat.lt_succ_self _, xs72, w64 (x56 + 1), rfl, (le63.trans le74), ow75, backS h76 e67⟩, (allCons (L 2 rfl rfl) (allCons (L 3 rfl rfl) (allCons (L 4 rfl rfl) (allCons (L 5 rfl rfl) (allCons (L 6 rfl rfl) (allCons (L 7 rfl rfl) (allCons (L 8 rfl rfl) (allCons (L 9 rfl rfl) (allCons (L 10 rfl rfl) (allCons (L 0 rfl rfl) allNil))))))))))⟩
      · skip
        refine WP.blk ?_
        refine WP.usreg rfl ?_
        refine U.p rfl rfl (.inl rfl) (S.move rfl (L 10 rfl rfl)) ?_
        obtain ⟨x77, hx78, h79⟩ := bindS h71
        obtain ⟨_, hv80, _⟩ := ow64.osel (k := 0) rfl hv40 hx78
        refine U.p rfl rfl (.inl rfl) (S.index rfl ((L 9 rfl rfl).trans hv80) (L 11 rfl rfl) Try.underlying47 ti52 (ix_ge hx78) (ix_lt hx78)) ?_
        obtain ⟨cs81, hv82, hlt83, hr84, hc85⟩ := ow64.osel (k := 0) rfl hv40 hx78
        obtain rfl : cs81 = [.int .i64 x77.e.t, .int .i64 x77.e.act.kind, .int .i64 x77.e.act.at_, .int .i64 x77.e.act.val, .int .i64 x77.e.act.what, .bool x77.e.act.volatile, .bool x77.e.act.final, .int .i64 x77.e.rf, .int .i64 x77.e.id, .int .i64 x77.at_] := hr84
        refine U.k rfl rfl (.inl rfl) (S.loadN (cs := [.int .i64 x77.e.t, .int .i64 x77.e.act.kind, .int .i64 x77.e.act.at_, .int .i64 x77.e.act.val, .int .i64 x77.e.act.what, .bool x77.e.act.volatile, .bool x77.e.act.final, .int .i64 x77.e.rf, .int .i64 x77.e.id, .int .i64 x77.at_]) rfl (L 0 rfl rfl) Try.underlying52 rfl ti52 rfl hc85) nd ?_
        refine O.alloc ow64 rfl rfl (.inl rfl) rfl ti52 rfl rfl nd (fun b86 V87 le88 ow89 => ?_)
        refine U.p rfl rfl (.inl rfl) (S.assign rfl (L 3 rfl rfl)) ?_
        refine O.store (k := 0) (cs := [.int .i64 x77.e.t, .int .i64 x77.e.act.kind, .int .i64 x77.e.act.at_, .int .i64 x77.e.act.val, .int .i64 x77.e.act.what, .bool x77.e.act.volatile, .bool x77.e.act.final, .int .i64 x77.e.rf, .int .i64 x77.e.id, .int .i64 x77.at_]) (c' := [.int .i64 x77.e.t, .int .i64 x77.e.act.kind, .int .i64 x77.e.act.at_, .int .i64 x77.e.act.val, .int .i64 x77.e.act.what, .bool x77.e.act.volatile, .bool x77.e.act.final, .int .i64 x77.e.rf, .int .i64 x77.e.id, .int .i64 x77.at_]) ow89 rfl rfl rfl (.inl rfl) rfl (L 1 rfl rfl) (L 2 rfl rfl) ti52 (by simp [topV]) rfl rfl (Nat.le_of_ble_eq_true rfl) rfl rfl nd (fun V91 le92 ow93 => ?_)
        refine U.done (Nat.le_of_ble_eq_true rfl) ?_
        refine WP.udreg rfl rfl rfl ?_
        refine U.p rfl rfl (.inl rfl) (S.move rfl (L 7 rfl rfl)) ?_
        refine U.p rfl rfl (.inl rfl) (S.move rfl (L 9 rfl rfl)) ?_
        obtain ⟨x94, hx95, h96⟩ := bindS h79
        obtain ⟨b97, o98, n99, c100, hv101⟩ := ow93.sspt (k := 2) rfl hx95
        refine U.p rfl rfl (.inl rfl) (S.index rfl ((L 1 rfl rfl).trans (ow93.sslen' (k := 2) rfl hv101)) (L 0 rfl rfl) Try.underlying41 ti53 (ix_ge hx95) (ix_lt hx95)) ?_
        obtain ⟨h102, hh103, ow104⟩ := ow93.ssopen (k := 2) rfl hx95
        have hcl106 := ow104.shcell (k := 3) rfl hv101 hh103
        refine U.k rfl rfl (.inl rfl) (S.load rfl (L 0 rfl rfl) Try.underlying53 rfl hcl106.2) (fun _ => (okH.nil (fun r h => by cases h; exact hcl106.1))) ?_
        refine U.p rfl rfl (.inl rfl) (S.move rfl (L 4 rfl rfl)) ?_
        refine U.p rfl rfl (.inl rfl) (S.move rfl (L 13 rfl rfl)) ?_
        refine U.p rfl rfl (.inl rfl) (S.move rfl (L 6 rfl rfl)) ?_
        refine U.p rfl rfl (.inl rfl) (S.neqI rfl (L 1 rfl rfl) (L 0 rfl rfl)) ?_
        refine U.p rfl rfl (.inl rfl) (S.move rfl (L 0 rfl rfl)) ?_
        have ow107 := ow104.ssclose' (k := 3) (j := 0) rfl rfl (by decide) hh103 hx95
        refine bcase (b := decide (x18 ≠ x56)) (fun g108 => ?_) (fun g108 => ?_)
        · have h109 := ifT g108 h96
          refine U.p (v := .pointer (some ⟨b47, 0, none⟩)) rfl rfl (.inr ⟨_, _, _, rfl, rfl, ((L 0 rfl rfl).trans (congrArg Value.bool g108))⟩) (S.fieldAddr rfl (L 18 rfl rfl) Try.underlying52 rfl ti31 rfl rfl) ?_
          refine U.p (v := .pointer (some ⟨b47, 0, none⟩)) rfl rfl (.inr ⟨_, _, _, rfl, rfl, ((L 1 rfl rfl).trans (congrArg Value.bool g108))⟩) (S.fieldAddr rfl (L 0 rfl rfl) Try.underlying31 rfl ti3 rfl rfl) ?_
          refine U.k rfl rfl (.inr ⟨_, _, _, rfl, rfl, ((L 2 rfl rfl).trans (congrArg Value.bool g108))⟩) (S.load rfl (L 0 rfl rfl) Try.underlying3 rfl ((ow107.own (k := 3) rfl).cell rfl)) (fun _ => (okH.cons trivial (okH.nil (fun r h => by cases h; exact (ow107.own (k := 3) rfl).lt)))) ?_
          refine U.p (v := .pointer (some ⟨b86, 0, none⟩)) rfl rfl (.inr ⟨_, _, _, rfl, rfl, ((L 3 rfl rfl).trans (congrArg Value.bool g108))⟩) (S.fieldAddr rfl (L 13 rfl rfl) Try.underlying52 rfl ti31 rfl rfl) ?_
          refine U.p (v := .pointer (some ⟨b86, 0, none⟩)) rfl rfl (.inr ⟨_, _, _, rfl, rfl, ((L 4 rfl rfl).trans (congrArg Value.bool g108))⟩) (S.fieldAddr rfl (L 0 rfl rfl) Try.underlying31 rfl ti3 rfl rfl) ?_
          refine U.k rfl rfl (.inr ⟨_, _, _, rfl, rfl, ((L 5 rfl rfl).trans (congrArg Value.bool g108))⟩) (S.load rfl (L 0 rfl rfl) Try.underlying3 rfl ((ow107.own (k := 0) rfl).cell rfl)) (fun _ => (okH.cons trivial (okH.cons trivial (okH.nil (fun r h => by cases h; exact (ow107.own (k := 0) rfl).lt))))) ?_
          refine U.p rfl rfl (.inr ⟨_, _, _, rfl, rfl, ((L 6 rfl rfl).trans (congrArg Value.bool g108))⟩) (S.eqlI rfl (L 3 rfl rfl) (L 0 rfl rfl)) ?_
          refine U.p rfl rfl (.inr ⟨_, _, _, rfl, rfl, ((L 7 rfl rfl).trans (congrArg Value.bool g108))⟩) (S.move rfl (L 0 rfl rfl)) ?_
          refine bcase (b := decide (x33.e.t = x77.e.t)) (fun g110 => ?_) (fun g110 => ?_)
          · have h111 := ifT g110 h109
            refine U.p (v := .pointer (some ⟨b47, 9, none⟩)) rfl rfl (.inr ⟨_, _, _, rfl, rfl, ((L 0 rfl rfl).trans (congrArg Value.bool g110))⟩) (S.fieldAddr rfl (L 26 rfl rfl) Try.underlying52 rfl ti3 rfl rfl) ?_
            refine U.k rfl rfl (.inr ⟨_, _, _, rfl, rfl, ((L 1 rfl rfl).trans (congrArg Value.bool g110))⟩) (S.load rfl (L 0 rfl rfl) Try.underlying3 rfl ((ow107.own (k := 3) rfl).cell rfl)) (fun _ => (okH.cons trivial (okH.cons trivial (okH.cons trivial (okH.nil (fun r h => by cases h; exact (ow107.own (k := 3) rfl).lt)))))) ?_
            refine U.p (v := .pointer (some ⟨b86, 9, none⟩)) rfl rfl (.inr ⟨_, _, _, rfl, rfl, ((L 2 rfl rfl).trans (congrArg Value.bool g110))⟩) (S.fieldAddr rfl (L 20 rfl rfl) Try.underlying52 rfl ti3 rfl rfl) ?_
            refine U.k rfl rfl (.inr ⟨_, _, _, rfl, rfl, ((L 3 rfl rfl).trans (congrArg Value.bool g110))⟩) (S.load rfl (L 0 rfl rfl) Try.underlying3 rfl ((ow107.own (k := 0) rfl).cell rfl)) (fun _ => (okH.cons trivial (okH.cons trivial (okH.cons trivial (okH.cons trivial (okH.nil (fun r h => by cases h; exact (ow107.own (k := 0) rfl).lt))))))) ?_
            refine U.p rfl rfl (.inr ⟨_, _, _, rfl, rfl, ((L 4 rfl rfl).trans (congrArg Value.bool g110))⟩) (S.lss rfl (L 2 rfl rfl) (L 0 rfl rfl)) ?_
            refine U.p rfl rfl (.inr ⟨_, _, _, rfl, rfl, ((L 13 rfl rfl).trans (congrArg Value.bool g108))⟩) (S.pickT rfl ((L 5 rfl rfl).trans (congrArg Value.bool g110)) (L 0 rfl rfl)) ?_
            refine U.p rfl rfl (.inr ⟨_, _, _, rfl, rfl, ((L 14 rfl rfl).trans (congrArg Value.bool g108))⟩) (S.move rfl (L 0 rfl rfl)) ?_
            refine bcase (b := decide (x33.at_ < x77.at_)) (fun g112 => ?_) (fun g112 => ?_)
            · have h113 := ifT g112 h111
              refine U.x rfl rfl rfl rfl ((L 0 rfl rfl).trans (congrArg Value.bool g112)) (by decide) ?_
              refine U.x rfl rfl rfl rfl ((L 1 rfl rfl).trans (congrArg Value.bool g112)) (by decide) ?_
              refine U.x rfl rfl rfl rfl ((L 2 rfl rfl).trans (congrArg Value.bool g112)) (by decide) ?_
              refine U.p rfl rfl (.inr ⟨_, _, _, rfl, rfl, ((L 18 rfl rfl).trans (congrArg Value.bool g108))⟩) (S.pickT rfl ((L 3 rfl rfl).trans (congrArg Value.bool g112)) K) ?_
              refine U.p rfl rfl (.inl rfl) (S.pickT rfl ((L 19 rfl rfl).trans (congrArg Value.bool g108)) (L 0 rfl rfl)) ?_
              obtain ⟨x114, hx115, h116⟩ := bindS h113
              obtain ⟨h117, hh118, ow119⟩ := ow107.ssopen (k := 2) rfl hx115
              obtain rfl : h117 = h102 := Option.some.inj (hh118.symm.trans hh103)
              obtain ⟨x121, hx122, h123⟩ := bindS h116
              obtain ⟨b124, o125, n126, c127, hv128⟩ := ow119.ospt (k := 0) rfl hx122
              obtain ⟨_, hv129, _⟩ := ow119.osel (k := 0) rfl hv128 hx122
              refine U.p rfl rfl (.inl rfl) (S.index rfl ((L 25 rfl rfl).trans hv129) (L 24 rfl rfl) Try.underlying53 ti4 (ix_ge hx122) (ix_lt hx122)) ?_
              obtain ⟨cs130, hv131, hlt132, hr133, hc134⟩ := ow119.osel (k := 0) rfl hv128 hx122
              obtain rfl : cs130 = [.bool x121] := hr133
              refine O.storeE (k := 0) (R := RT.bool) (j := 0) (y := true) (cs := [.bool true]) ow119 rfl hv131 rfl rfl (.inl rfl) rfl (L 0 rfl rfl) (L 1 rfl rfl) ti4 hx122 (by simp [topV]) rfl rfl rfl (full rfl) (fun H1 hs => (fun _ => (okH.cons (Or.inl rfl) (okH.cons (Or.inl rfl) (okH.cons (Or.inl rfl) (okH.cons (Or.inl rfl) (okH.cons (Or.inl rfl) (okH.nil (fun r h => nomatch h))))))))) (fun V135 le136 ow137 => ?_)
              refine U.done (Nat.le_of_ble_eq_true rfl) ?_
              refine blkN (sqN ?_)
              have ow138 := ow137.ssclose (k := 3) (j := 0) rfl rfl (by decide) hh103
              have ow139 := ow138.drop 0 rfl
              exact ⟨_, V135, rfl, ⟨xs55.set (Int.toNat x18) (x114.set (Int.toNat x56) true), rfl, ((le88.trans le92).trans le136), ow139, h123⟩, (allCons (L 36 rfl rfl) (allCons (L 37 rfl rfl) (allCons (L 38 rfl rfl) (allCons (L 39 rfl rfl) (allCons (L 40 rfl rfl) (allCons (L 41 rfl rfl) (allCons (L 42 rfl rfl) (allCons (L 43 rfl rfl) (allCons (L 44 rfl rfl) (allCons (L 45 rfl rfl) allNil))))))))))⟩
            · have h140 := ifF g112 h111
              refine U.k rfl rfl (.inr ⟨_, _, _, rfl, rfl, ((L 0 rfl rfl).trans (congrArg Value.bool g112))⟩) (S.loadB rfl (L 33 rfl rfl) Try.underlying52 rfl ti52 (ow107.own (k := 3) rfl).get rfl) (fun _ => (okH.cons trivial (okH.cons trivial (okH.cons trivial (okH.cons trivial (okH.cons trivial (okH.nil (fun r h => by cases h; exact (ow107.own (k := 3) rfl).lt)))))))) ?_
              refine U.k rfl rfl (.inr ⟨_, _, _, rfl, rfl, ((L 1 rfl rfl).trans (congrArg Value.bool g112))⟩) (S.loadB rfl (L 26 rfl rfl) Try.underlying52 rfl ti52 (ow107.own (k := 0) rfl).get rfl) (fun _ => (okH.cons trivial (okH.cons trivial (okH.cons trivial (okH.cons trivial (okH.cons trivial (okH.cons trivial (okH.nil (fun r h => by cases h; exact (ow107.own (k := 0) rfl).lt))))))))) ?_
              obtain ⟨x141, hx142, h143⟩ := bindS h140
              obtain ⟨q149, ow150⟩ := ow107.toEx 2 rfl
              refine O.call (V := V91) rfl rfl (.inr ⟨_, _, _, rfl, rfl, ((L 2 rfl rfl).trans (congrArg Value.bool g112))⟩) rfl en57 (aC (L 1 rfl rfl) (aC (L 0 rfl rfl) aN)) (wk_ref21_Release V91 _ x33 x77 ow150 _ hx142) (fun v144 V145 le146 hp147 => by obtain ⟨rfl, ow148⟩ := hp147; exact (fun _ => (okH.cons (Or.inl rfl) (okH.cons (Or.inl rfl) (okH.cons (Or.inl rfl) (okH.cons (Or.inl rfl) (okH.cons (Or.inl rfl) (okH.cons (Or.inl rfl) (okH.cons (Or.inr (ow150.exsame (k := 2) (j := 2) rfl ow148 rfl (fun h => exb_ss hv101 h))) (okH.nil (fun r h => nomatch h))))))))))) (fun v144 V145 le146 hp147 => ?_)
              obtain ⟨rfl, ow148⟩ := hp147
              have ow151 := ow148.unEx 2 rfl
              refine U.p rfl rfl (.inr ⟨_, _, _, rfl, rfl, ((L 18 rfl rfl).trans (congrArg Value.bool g108))⟩) (S.pickF rfl ((L 3 rfl rfl).trans (congrArg Value.bool g112)) (L 0 rfl rfl)) ?_
              refine U.p rfl rfl (.inl rfl) (S.pickT rfl ((L 19 rfl rfl).trans (congrArg Value.bool g108)) (L 0 rfl rfl)) ?_
              obtain ⟨x152, hx153, h154⟩ := bindS h143
              obtain ⟨h155, hh156, ow157⟩ := ow151.ssopen (k := 2) rfl hx153
              obtain rfl : h155 = h102 := Option.some.inj (hh156.symm.trans hh103)
              obtain ⟨x159, hx160, h161⟩ := bindS h154
              obtain ⟨b162, o163, n164, c165, hv166⟩ := ow157.ospt (k := 0) rfl hx160
              obtain ⟨_, hv167, _⟩ := ow157.osel (k := 0) rfl hv166 hx160
              refine U.p rfl rfl (.inl rfl) (S.index rfl ((L 25 rfl rfl).trans hv167) (L 24 rfl rfl) Try.underlying53 ti4 (ix_ge hx160) (ix_lt hx160)) ?_
              obtain ⟨cs168, hv169, hlt170, hr171, hc172⟩ := ow157.osel (k := 0) rfl hv166 hx160
              obtain rfl : cs168 = [.bool x159] := hr171
              refine O.storeE (k := 0) (R := RT.bool) (j := 0) (y := x141) (cs := [.bool x141]) ow157 rfl hv169 rfl rfl (.inl rfl) rfl (L 0 rfl rfl) (L 1 rfl rfl) ti4 hx160 (by simp [topV]) rfl rfl rfl (full rfl) (fun H1 hs => (fun _ => (okH.cons rfl (okH.cons (Or.inl rfl) (okH.cons (Or.inl rfl) (okH.cons (Or.inl rfl) (okH.cons (Or.inl rfl) (okH.cons (Or.inl rfl) (okH.cons (Or.inl rfl) (okH.cons (Or.inl rfl) (okH.nil (fun r h => nomatch h)))))))))))) (fun V173 le174 ow175 => ?_)
              refine U.done (Nat.le_of_ble_eq_true rfl) ?_
              refine blkN (sqN ?_)
              have ow176 := ow175.ssclose (k := 3) (j := 0) rfl rfl (by decide) hh103
              have ow177 := ow176.drop 0 rfl
              exact ⟨_, V173, rfl, ⟨xs55.set (Int.toNat x18) (x152.set (Int.toNat x56) x141), rfl, (((le88.trans le92).trans le146).trans le174), ow177, h161⟩, (allCons (L 36 rfl rfl) (allCons (L 37 rfl rfl) (allCons (L 38 rfl rfl) (allCons (L 39 rfl rfl) (allCons (L 40 rfl rfl) (allCons (L 41 rfl rfl) (allCons (L 42 rfl rfl) (allCons (L 43 rfl rfl) (allCons (L 44 rfl rfl) (allCons (L 45 rfl rfl) allNil))))))))))⟩
          · have h178 := ifF g110 h109
            refine U.x rfl rfl rfl rfl ((L 0 rfl rfl).trans (congrArg Value.bool g110)) (by decide) ?_
            refine U.x rfl rfl rfl rfl ((L 1 rfl rfl).trans (congrArg Value.bool g110)) (by decide) ?_
            refine U.x rfl rfl rfl rfl ((L 2 rfl rfl).trans (congrArg Value.bool g110)) (by decide) ?_
            refine U.x rfl rfl rfl rfl ((L 3 rfl rfl).trans (congrArg Value.bool g110)) (by decide) ?_
            refine U.x rfl rfl rfl rfl ((L 4 rfl rfl).trans (congrArg Value.bool g110)) (by decide) ?_
            refine U.p rfl rfl (.inr ⟨_, _, _, rfl, rfl, ((L 13 rfl rfl).trans (congrArg Value.bool g108))⟩) (S.pickF rfl ((L 5 rfl rfl).trans (congrArg Value.bool g110)) K) ?_
            refine U.p rfl rfl (.inr ⟨_, _, _, rfl, rfl, ((L 14 rfl rfl).trans (congrArg Value.bool g108))⟩) (S.move rfl (L 0 rfl rfl)) ?_
            refine U.k rfl rfl (.inr ⟨_, _, _, rfl, rfl, (L 0 rfl rfl)⟩) (S.loadB rfl (L 33 rfl rfl) Try.underlying52 rfl ti52 (ow107.own (k := 3) rfl).get rfl) (fun _ => (okH.cons trivial (okH.cons trivial (okH.cons trivial (okH.nil (fun r h => by cases h; exact (ow107.own (k := 3) rfl).lt)))))) ?_
            refine U.k rfl rfl (.inr ⟨_, _, _, rfl, rfl, (L 1 rfl rfl)⟩) (S.loadB rfl (L 26 rfl rfl) Try.underlying52 rfl ti52 (ow107.own (k := 0) rfl).get rfl) (fun _ => (okH.cons trivial (okH.cons trivial (okH.cons trivial (okH.cons trivial (okH.nil (fun r h => by cases h; exact (ow107.own (k := 0) rfl).lt))))))) ?_
            obtain ⟨x179, hx180, h181⟩ := bindS h178
            obtain ⟨q187, ow188⟩ := ow107.toEx 2 rfl
            refine O.call (V := V91) rfl rfl (.inr ⟨_, _, _, rfl, rfl, (L 2 rfl rfl)⟩) rfl en57 (aC (L 1 rfl rfl) (aC (L 0 rfl rfl) aN)) (wk_ref21_Release V91 _ x33 x77 ow188 _ hx180) (fun v182 V183 le184 hp185 => by obtain ⟨rfl, ow186⟩ := hp185; exact (fun _ => (okH.cons (Or.inl rfl) (okH.cons (Or.inl rfl) (okH.cons (Or.inl rfl) (okH.cons (Or.inl rfl) (okH.cons (Or.inr (ow188.exsame (k := 2) (j := 2) rfl ow186 rfl (fun h => exb_ss hv101 h))) (okH.nil (fun r h => nomatch h))))))))) (fun v182 V183 le184 hp185 => ?_)
            obtain ⟨rfl, ow186⟩ := hp185
            have ow189 := ow186.unEx 2 rfl
            refine U.p rfl rfl (.inr ⟨_, _, _, rfl, rfl, ((L 18 rfl rfl).trans (congrArg Value.bool g108))⟩) (S.pickF rfl (L 3 rfl rfl) (L 0 rfl rfl)) ?_
            refine U.p rfl rfl (.inl rfl) (S.pickT rfl ((L 19 rfl rfl).trans (congrArg Value.bool g108)) (L 0 rfl rfl)) ?_
            obtain ⟨x190, hx191, h192⟩ := bindS h181
            obtain ⟨h193, hh194, ow195⟩ := ow189.ssopen (k := 2) rfl hx191
            obtain rfl : h193 = h102 := Option.some.inj (hh194.symm.trans hh103)
            obtain ⟨x197, hx198, h199⟩ := bindS h192
            obtain ⟨b200, o201, n202, c203, hv204⟩ := ow195.ospt (k := 0) rfl hx198
            obtain ⟨_, hv205, _⟩ := ow195.osel (k := 0) rfl hv204 hx198
            refine U.p rfl rfl (.inl rfl) (S.index rfl ((L 25 rfl rfl).trans hv205) (L 24 rfl rfl) Try.underlying53 ti4 (ix_ge hx198) (ix_lt hx198)) ?_
            obtain ⟨cs206, hv207, hlt208, hr209, hc210⟩ := ow195.osel (k := 0) rfl hv204 hx198
            obtain rfl : cs206 = [.bool x197] := hr209
            refine O.storeE (k := 0) (R := RT.bool) (j := 0) (y := x179) (cs := [.bool x179]) ow195 rfl hv207 rfl rfl (.inl rfl) rfl (L 0 rfl rfl) (L 1 rfl rfl) ti4 hx198 (by simp [topV]) rfl rfl rfl (full rfl) (fun H1 hs => (fun _ => (okH.cons rfl (okH.cons (Or.inl rfl) (okH.cons (Or.inl rfl) (okH.cons (Or.inl rfl) (okH.cons (Or.inl rfl) (okH.cons (Or.inl rfl) (okH.nil (fun r h => nomatch h)))))))))) (fun V211 le212 ow213 => ?_)
            refine U.done (Nat.le_of_ble_eq_true rfl) ?_
            refine blkN (sqN ?_)
            have ow214 := ow213.ssclose (k := 3) (j := 0) rfl rfl (by decide) hh103
            have ow215 := ow214.drop 0 rfl
            exact ⟨_, V211, rfl, ⟨xs55.set (Int.toNat x18) (x190.set (Int.toNat x56) x179), rfl, (((le88.trans le92).trans le184).trans le212), ow215, h199⟩, (allCons (L 36 rfl rfl) (allCons (L 37 rfl rfl) (allCons (L 38 rfl rfl) (allCons (L 39 rfl rfl) (allCons (L 40 rfl rfl) (allCons (L 41 rfl rfl) (allCons (L 42 rfl rfl) (allCons (L 43 rfl rfl) (allCons (L 44 rfl rfl) (allCons (L 45 rfl rfl) allNil))))))))))⟩
        · have h216 := ifF g108 h96
          refine U.x rfl rfl rfl rfl ((L 0 rfl rfl).trans (congrArg Value.bool g108)) (by decide) ?_
          refine U.x rfl rfl rfl rfl ((L 1 rfl rfl).trans (congrArg Value.bool g108)) (by decide) ?_
          refine U.x rfl rfl rfl rfl ((L 2 rfl rfl).trans (congrArg Value.bool g108)) (by decide) ?_
          refine U.x rfl rfl rfl rfl ((L 3 rfl rfl).trans (congrArg Value.bool g108)) (by decide) ?_
          refine U.x rfl rfl rfl rfl ((L 4 rfl rfl).trans (congrArg Value.bool g108)) (by decide) ?_
          refine U.x rfl rfl rfl rfl ((L 5 rfl rfl).trans (congrArg Value.bool g108)) (by decide) ?_
          refine U.x rfl rfl rfl rfl ((L 6 rfl rfl).trans (congrArg Value.bool g108)) (by decide) ?_
          refine U.x rfl rfl rfl rfl ((L 7 rfl rfl).trans (congrArg Value.bool g108)) (by decide) ?_
          refine U.z rfl rfl rfl rfl (L 0 rfl rfl) ?_
          refine U.z rfl rfl rfl rfl (L 1 rfl rfl) ?_
          refine U.z rfl rfl rfl rfl (L 2 rfl rfl) ?_
          refine U.z rfl rfl rfl rfl (L 3 rfl rfl) ?_
          refine U.z rfl rfl rfl rfl (L 4 rfl rfl) ?_
          refine U.x rfl rfl rfl rfl ((L 13 rfl rfl).trans (congrArg Value.bool g108)) (by decide) ?_
          refine U.x rfl rfl rfl rfl ((L 14 rfl rfl).trans (congrArg Value.bool g108)) (by decide) ?_
          refine U.z rfl rfl rfl rfl (L 0 rfl rfl) ?_
          refine U.z rfl rfl rfl rfl (L 1 rfl rfl) ?_
          refine U.z rfl rfl rfl rfl (L 2 rfl rfl) ?_
          refine U.x rfl rfl rfl rfl ((L 18 rfl rfl).trans (congrArg Value.bool g108)) (by decide) ?_
          refine U.p rfl rfl (.inl rfl) (S.pickF rfl ((L 19 rfl rfl).trans (congrArg Value.bool g108)) K) ?_
          obtain ⟨x217, hx218, h219⟩ := bindS h216
          obtain ⟨h220, hh221, ow222⟩ := ow107.ssopen (k := 2) rfl hx218
          obtain rfl : h220 = h102 := Option.some.inj (hh221.symm.trans hh103)
          obtain ⟨x224, hx225, h226⟩ := bindS h219
          obtain ⟨b227, o228, n229, c230, hv231⟩ := ow222.ospt (k := 0) rfl hx225
          obtain ⟨_, hv232, _⟩ := ow222.osel (k := 0) rfl hv231 hx225
          refine U.p rfl rfl (.inl rfl) (S.index rfl ((L 25 rfl rfl).trans hv232) (L 24 rfl rfl) Try.underlying53 ti4 (ix_ge hx225) (ix_lt hx225)) ?_
          obtain ⟨cs233, hv234, hlt235, hr236, hc237⟩ := ow222.osel (k := 0) rfl hv231 hx225
          obtain rfl : cs233 = [.bool x224] := hr236
          refine O.storeE (k := 0) (R := RT.bool) (j := 0) (y := false) (cs := [.bool false]) ow222 rfl hv234 rfl rfl (.inl rfl) rfl (L 0 rfl rfl) (L 1 rfl rfl) ti4 hx225 (by simp [topV]) rfl rfl rfl (full rfl) (fun H1 hs => (fun _ => (okH.cons (Or.inl rfl) (okH.nil (fun r h => nomatch h))))) (fun V238 le239 ow240 => ?_)
          refine U.done (Nat.le_of_ble_eq_true rfl) ?_
          refine blkN (sqN ?_)
          have ow241 := ow240.ssclose (k := 3) (j := 0) rfl rfl (by decide) hh103
          have ow242 := ow241.drop 0 rfl
          exact ⟨_, V238, rfl, ⟨xs55.set (Int.toNat x18) (x217.set (Int.toNat x56) false), rfl, ((le88.trans le92).trans le239), ow242, h226⟩, (allCons (L 36 rfl rfl) (allCons (L 37 rfl rfl) (allCons (L 38 rfl rfl) (allCons (L 39 rfl rfl) (allCons (L 40 rfl rfl) (allCons (L 41 rfl rfl) (allCons (L 42 rfl rfl) (allCons (L 43 rfl rfl) (allCons (L 44 rfl rfl) (allCons (L 45 rfl rfl) allNil))))))))))⟩
    · have h243 := ifF c70 h69
      refine WP.exit ?_
      refine sqE (sqE (blkE (blkN (sqN ?_))))
      have h244 := exitS h243 e67
      refine WP.ureg rfl ?_
      refine U.p rfl rfl (.inl rfl) (S.add rfl (L 7 rfl rfl) K) ?_
      refine U.p rfl rfl (.inl rfl) (S.move rfl (L 0 rfl rfl)) ?_
      refine U.done (Nat.le_of_ble_eq_true rfl) ?_
      refine sqN ?_
      have ow245 := ow64.drop 2 rfl
      exact ⟨_, V62, rfl, ⟨m26, Nat.lt_succ_self _, xs55, w64 (x18 + 1), rfl, (((le24.trans le49).trans le53).trans le63), ow245, backS h244 e28⟩, (allCons (L 3 rfl rfl) (allCons (L 4 rfl rfl) (allCons (L 7 rfl rfl) (allCons (L 8 rfl rfl) (allCons (L 0 rfl rfl) allNil)))))⟩
  · have h246 := ifF c31 h30
    refine WP.exit ?_
    refine sqE (sqE (blkE (sqN ?_)))
    have h247 := exitS h246 e28
    refine WP.usreg rfl ?_
    refine U.p rfl rfl (.inl rfl) (S.move rfl (L 2 rfl rfl)) ?_
    have ow248 := ow25.pick 1 rfl
    obtain ⟨x249, hx250, h251⟩ := bindS h247
    refine O.call (V := V23) rfl rfl (.inl rfl) rfl en35 (aC (L 0 rfl rfl) aN) (wk_ref21_closure V23 _ xs17 v9 hs15 ow248 _ hx250) (fun _ _ _ _ => nd) (fun v252 V253 le254 hp255 => ?_)
    obtain ⟨_, hs258, rfl, ow256⟩ := hp255
    refine U.p rfl rfl (.inl rfl) (S.assign rfl (L 0 rfl rfl)) ?_
    refine U.done (Nat.le_of_ble_eq_true rfl) ?_
    refine WP.ret ?_
    refine fin.slot (.inr rfl) rfl (L 0 rfl rfl) ⟨V253, rfl, ((le11.trans le24).trans le254), ?_⟩
    have e260 := Option.some.inj h251
    subst e260
    exact ⟨v252, hs258, rfl, ow256⟩

set_option maxHeartbeats 4000000 in
set_option maxRecDepth 10000 in
theorem wk_ref21_from (V : Vw) (Rs : List At) (p0 : List Tref21_Node) (p1 : Int) (p2 : Int) (v1 : Value) (ow : Ow V (.os RT_Tref21_Node v1 p0 :: Rs)) (r : Bool) (h : ref21_from p0 p1 p2 = some r) : ∃ v V', Cl Try.prog 0 46 #[v1, .int .i64 p1, .int .i64 p2] V.H v V'.H ∧ V.le V' ∧ (v = .bool r ∧ Ow V' (.os RT_Tref21_Node v1 p0 :: Rs)) := by
  refine Ct.of (Nat.zero_le _) Try.func46 rfl (Nat.le_of_ble_eq_true rfl) ?_
  unfold ref21_from at h
  refine WP.usreg rfl ?_
  refine U.p rfl rfl (.inl rfl) (S.assign rfl K) ?_
  refine U.done (Nat.le_of_ble_eq_true rfl) ?_
  refine WP.seqI (fun l V' => ∃ (x3 : Bool), l = [(6, .bool x3)] ∧ V.le V' ∧ Ow V' (.os RT_Tref21_Node v1 p0 :: Rs) ∧ ref21_from_k1 x3 = some r) ?_ ?_
  · rintro _ V4 ⟨x3, rfl, le5, ow6, h7⟩
    unfold ref21_from_k1 at h7
    refine WP.ret ?_
    refine fin.slot (.inr rfl) rfl (L 0 rfl rfl) ⟨V4, rfl, le5, ?_⟩
    have e8 := Option.some.inj h7
    subst e8
    exact ⟨rfl, ow6⟩
  · skip
    refine WP.udreg rfl rfl rfl ?_
    refine U.p rfl rfl (.inl rfl) (S.move rfl (L 1 rfl rfl)) ?_
    refine U.p rfl rfl (.inl rfl) (S.move rfl (L 4 rfl rfl)) ?_
    obtain ⟨x9, hx10, h11⟩ := bindS h
    obtain ⟨b12, o13, n14, c15, hv16⟩ := ow.ospt (k := 0) rfl hx10
    obtain ⟨_, hv17, _⟩ := ow.osel (k := 0) rfl hv16 hx10
    refine U.p rfl rfl (.inl rfl) (S.index rfl ((L 1 rfl rfl).trans hv17) (L 0 rfl rfl) Try.underlying47 ti52 (ix_ge hx10) (ix_lt hx10)) ?_
    obtain ⟨cs18, hv19, hlt20, hr21, hc22⟩ := ow.osel (k := 0) rfl hv16 hx10
    obtain rfl : cs18 = [.int .i64 x9.e.t, .int .i64 x9.e.act.kind, .int .i64 x9.e.act.at_, .int .i64 x9.e.act.val, .int .i64 x9.e.act.what, .bool x9.e.act.volatile, .bool x9.e.act.final, .int .i64 x9.e.rf, .int .i64 x9.e.id, .int .i64 x9.at_] := hr21
    refine U.k rfl rfl (.inl rfl) (S.loadN (cs := [.int .i64 x9.e.t, .int .i64 x9.e.act.kind, .int .i64 x9.e.act.at_, .int .i64 x9.e.act.val, .int .i64 x9.e.act.what, .bool x9.e.act.volatile, .bool x9.e.act.final, .int .i64 x9.e.rf, .int .i64 x9.e.id, .int .i64 x9.at_]) rfl (L 0 rfl rfl) Try.underlying52 rfl ti52 rfl hc22) (fun _ => (okH.nil (fun r h => by cases h; exact hlt20))) ?_
    obtain ⟨x23, hx24, h25⟩ := bindS h11
    refine O.call (V := V) rfl rfl (.inl rfl) rfl en44 (aC (L 0 rfl rfl) aN) (wk_ref21_Reads V _ x9 ow _ hx24) (fun v26 V27 le28 hp29 => by obtain ⟨rfl, ow30⟩ := hp29; exact (fun _ => (okH.cons (Or.inl rfl) (okH.nil (fun r h => nomatch h))))) (fun v26 V27 le28 hp29 => ?_)
    obtain ⟨rfl, ow30⟩ := hp29
    refine U.p rfl rfl (.inl rfl) (S.move rfl (L 0 rfl rfl)) ?_
    refine bcase (b := x23) (fun g31 => ?_) (fun g31 => ?_)
    · have h32 := ifT g31 h25
      refine U.p rfl rfl (.inr ⟨_, _, _, rfl, rfl, ((L 0 rfl rfl).trans (congrArg Value.bool g31))⟩) (S.move rfl (L 7 rfl rfl)) ?_
      refine U.p rfl rfl (.inr ⟨_, _, _, rfl, rfl, ((L 1 rfl rfl).trans (congrArg Value.bool g31))⟩) (S.move rfl (L 9 rfl rfl)) ?_
      obtain ⟨x33, hx34, h35⟩ := bindS h32
      obtain ⟨_, hv36, _⟩ := ow30.osel (k := 0) rfl hv16 hx34
      refine U.p rfl rfl (.inr ⟨_, _, _, rfl, rfl, ((L 2 rfl rfl).trans (congrArg Value.bool g31))⟩) (S.index rfl ((L 1 rfl rfl).trans hv36) (L 0 rfl rfl) Try.underlying47 ti52 (ix_ge hx34) (ix_lt hx34)) ?_
      refine U.p (v := .pointer (some ⟨b12, o13 + Int.toNat p1 * 10, none⟩)) rfl rfl (.inr ⟨_, _, _, rfl, rfl, ((L 3 rfl rfl).trans (congrArg Value.bool g31))⟩) (S.fieldAddr rfl (L 0 rfl rfl) Try.underlying52 rfl ti31 rfl rfl) ?_
      refine U.p (v := .pointer (some ⟨b12, o13 + Int.toNat p1 * 10 + 8, none⟩)) rfl rfl (.inr ⟨_, _, _, rfl, rfl, ((L 4 rfl rfl).trans (congrArg Value.bool g31))⟩) (S.fieldAddr rfl (L 0 rfl rfl) Try.underlying31 rfl ti3 rfl rfl) ?_
      obtain ⟨cs37, hv38, hlt39, hr40, hc41⟩ := ow30.osel (k := 0) rfl hv16 hx34
      obtain rfl : cs37 = [.int .i64 x33.e.t, .int .i64 x33.e.act.kind, .int .i64 x33.e.act.at_, .int .i64 x33.e.act.val, .int .i64 x33.e.act.what, .bool x33.e.act.volatile, .bool x33.e.act.final, .int .i64 x33.e.rf, .int .i64 x33.e.id, .int .i64 x33.at_] := hr40
      refine U.k rfl rfl (.inr ⟨_, _, _, rfl, rfl, ((L 5 rfl rfl).trans (congrArg Value.bool g31))⟩) (S.load rfl (L 0 rfl rfl) Try.underlying3 rfl (hc41 8 _ rfl)) (fun _ => (okH.cons (Or.inl rfl) (okH.cons trivial (okH.nil (fun r h => by cases h; exact hlt39))))) ?_
      refine U.p rfl rfl (.inr ⟨_, _, _, rfl, rfl, ((L 6 rfl rfl).trans (congrArg Value.bool g31))⟩) (S.gtr rfl (L 0 rfl rfl) K) ?_
      refine U.p rfl rfl (.inl rfl) (S.pickT rfl ((L 7 rfl rfl).trans (congrArg Value.bool g31)) (L 0 rfl rfl)) ?_
      refine U.p rfl rfl (.inl rfl) (S.move rfl (L 0 rfl rfl)) ?_
      refine bcase (b := decide (0 < x33.e.id)) (fun g42 => ?_) (fun g42 => ?_)
      · have h43 := ifT g42 h35
        refine U.p rfl rfl (.inr ⟨_, _, _, rfl, rfl, ((L 0 rfl rfl).trans (congrArg Value.bool g42))⟩) (S.move rfl (L 16 rfl rfl)) ?_
        refine U.p rfl rfl (.inr ⟨_, _, _, rfl, rfl, ((L 1 rfl rfl).trans (congrArg Value.bool g42))⟩) (S.move rfl (L 19 rfl rfl)) ?_
        obtain ⟨x44, hx45, h46⟩ := bindS h43
        obtain ⟨_, hv47, _⟩ := ow30.osel (k := 0) rfl hv16 hx45
        refine U.p rfl rfl (.inr ⟨_, _, _, rfl, rfl, ((L 2 rfl rfl).trans (congrArg Value.bool g42))⟩) (S.index rfl ((L 1 rfl rfl).trans hv47) (L 0 rfl rfl) Try.underlying47 ti52 (ix_ge hx45) (ix_lt hx45)) ?_
        refine U.p (v := .pointer (some ⟨b12, o13 + Int.toNat p2 * 10, none⟩)) rfl rfl (.inr ⟨_, _, _, rfl, rfl, ((L 3 rfl rfl).trans (congrArg Value.bool g42))⟩) (S.fieldAddr rfl (L 0 rfl rfl) Try.underlying52 rfl ti31 rfl rfl) ?_
        refine U.p (v := .pointer (some ⟨b12, o13 + Int.toNat p2 * 10 + 7, none⟩)) rfl rfl (.inr ⟨_, _, _, rfl, rfl, ((L 4 rfl rfl).trans (congrArg Value.bool g42))⟩) (S.fieldAddr rfl (L 0 rfl rfl) Try.underlying31 rfl ti3 rfl rfl) ?_
        obtain ⟨cs48, hv49, hlt50, hr51, hc52⟩ := ow30.osel (k := 0) rfl hv16 hx45
        obtain rfl : cs48 = [.int .i64 x44.e.t, .int .i64 x44.e.act.kind, .int .i64 x44.e.act.at_, .int .i64 x44.e.act.val, .int .i64 x44.e.act.what, .bool x44.e.act.volatile, .bool x44.e.act.final, .int .i64 x44.e.rf, .int .i64 x44.e.id, .int .i64 x44.at_] := hr51
        refine U.k rfl rfl (.inr ⟨_, _, _, rfl, rfl, ((L 5 rfl rfl).trans (congrArg Value.bool g42))⟩) (S.load rfl (L 0 rfl rfl) Try.underlying3 rfl (hc52 7 _ rfl)) (fun _ => (okH.cons trivial (okH.cons (Or.inl rfl) (okH.cons trivial (okH.nil (fun r h => by cases h; exact hlt50)))))) ?_
        refine U.p rfl rfl (.inr ⟨_, _, _, rfl, rfl, ((L 6 rfl rfl).trans (congrArg Value.bool g42))⟩) (S.move rfl (L 22 rfl rfl)) ?_
        refine U.p rfl rfl (.inr ⟨_, _, _, rfl, rfl, ((L 7 rfl rfl).trans (congrArg Value.bool g42))⟩) (S.move rfl (L 24 rfl rfl)) ?_
        obtain ⟨x53, hx54, h55⟩ := bindS h46
        obtain ⟨_, hv56, _⟩ := ow30.osel (k := 0) rfl hv16 hx54
        refine U.p rfl rfl (.inr ⟨_, _, _, rfl, rfl, ((L 8 rfl rfl).trans (congrArg Value.bool g42))⟩) (S.index rfl ((L 1 rfl rfl).trans hv56) (L 0 rfl rfl) Try.underlying47 ti52 (ix_ge hx54) (ix_lt hx54)) ?_
        refine U.p (v := .pointer (some ⟨b12, o13 + Int.toNat p1 * 10, none⟩)) rfl rfl (.inr ⟨_, _, _, rfl, rfl, ((L 9 rfl rfl).trans (congrArg Value.bool g42))⟩) (S.fieldAddr rfl (L 0 rfl rfl) Try.underlying52 rfl ti31 rfl rfl) ?_
        refine U.p (v := .pointer (some ⟨b12, o13 + Int.toNat p1 * 10 + 8, none⟩)) rfl rfl (.inr ⟨_, _, _, rfl, rfl, ((L 10 rfl rfl).trans (congrArg Value.bool g42))⟩) (S.fieldAddr rfl (L 0 rfl rfl) Try.underlying31 rfl ti3 rfl rfl) ?_
        obtain ⟨cs57, hv58, hlt59, hr60, hc61⟩ := ow30.osel (k := 0) rfl hv16 hx54
        obtain rfl : cs57 = [.int .i64 x53.e.t, .int .i64 x53.e.act.kind, .int .i64 x53.e.act.at_, .int .i64 x53.e.act.val, .int .i64 x53.e.act.what, .bool x53.e.act.volatile, .bool x53.e.act.final, .int .i64 x53.e.rf, .int .i64 x53.e.id, .int .i64 x53.at_] := hr60
        refine U.k rfl rfl (.inr ⟨_, _, _, rfl, rfl, ((L 11 rfl rfl).trans (congrArg Value.bool g42))⟩) (S.load rfl (L 0 rfl rfl) Try.underlying3 rfl (hc61 8 _ rfl)) (fun _ => (okH.cons trivial (okH.cons trivial (okH.cons (Or.inl rfl) (okH.cons trivial (okH.nil (fun r h => by cases h; exact hlt59))))))) ?_
        refine U.p rfl rfl (.inr ⟨_, _, _, rfl, rfl, ((L 12 rfl rfl).trans (congrArg Value.bool g42))⟩) (S.eqlI rfl (L 6 rfl rfl) (L 0 rfl rfl)) ?_
        refine U.p rfl rfl (.inl rfl) (S.pickT rfl ((L 13 rfl rfl).trans (congrArg Value.bool g42)) (L 0 rfl rfl)) ?_
        refine U.p rfl rfl (.inl rfl) (S.assign rfl (L 0 rfl rfl)) ?_
        refine U.done (Nat.le_of_ble_eq_true rfl) ?_
        refine sqN ?_
        exact ⟨_, V27, rfl, ⟨decide (x44.e.rf = x53.e.id), rfl, le28, ow30, h55⟩, (allCons (L 0 rfl rfl) allNil)⟩
      · have h62 := ifF g42 h35
        refine U.x rfl rfl rfl rfl ((L 0 rfl rfl).trans (congrArg Value.bool g42)) (by decide) ?_
        refine U.x rfl rfl rfl rfl ((L 1 rfl rfl).trans (congrArg Value.bool g42)) (by decide) ?_
        refine U.x rfl rfl rfl rfl ((L 2 rfl rfl).trans (congrArg Value.bool g42)) (by decide) ?_
        refine U.x rfl rfl rfl rfl ((L 3 rfl rfl).trans (congrArg Value.bool g42)) (by decide) ?_
        refine U.x rfl rfl rfl rfl ((L 4 rfl rfl).trans (congrArg Value.bool g42)) (by decide) ?_
        refine U.x rfl rfl rfl rfl ((L 5 rfl rfl).trans (congrArg Value.bool g42)) (by decide) ?_
        refine U.x rfl rfl rfl rfl ((L 6 rfl rfl).trans (congrArg Value.bool g42)) (by decide) ?_
        refine U.x rfl rfl rfl rfl ((L 7 rfl rfl).trans (congrArg Value.bool g42)) (by decide) ?_
        refine U.x rfl rfl rfl rfl ((L 8 rfl rfl).trans (congrArg Value.bool g42)) (by decide) ?_
        refine U.x rfl rfl rfl rfl ((L 9 rfl rfl).trans (congrArg Value.bool g42)) (by decide) ?_
        refine U.x rfl rfl rfl rfl ((L 10 rfl rfl).trans (congrArg Value.bool g42)) (by decide) ?_
        refine U.x rfl rfl rfl rfl ((L 11 rfl rfl).trans (congrArg Value.bool g42)) (by decide) ?_
        refine U.x rfl rfl rfl rfl ((L 12 rfl rfl).trans (congrArg Value.bool g42)) (by decide) ?_
        refine U.p rfl rfl (.inl rfl) (S.pickF rfl ((L 13 rfl rfl).trans (congrArg Value.bool g42)) K) ?_
        refine U.p rfl rfl (.inl rfl) (S.assign rfl (L 0 rfl rfl)) ?_
        refine U.done (Nat.le_of_ble_eq_true rfl) ?_
        refine sqN ?_
        exact ⟨_, V27, rfl, ⟨false, rfl, le28, ow30, h62⟩, (allCons (L 0 rfl rfl) allNil)⟩
    · have h63 := ifF g31 h25
      refine U.x rfl rfl rfl rfl ((L 0 rfl rfl).trans (congrArg Value.bool g31)) (by decide) ?_
      refine U.x rfl rfl rfl rfl ((L 1 rfl rfl).trans (congrArg Value.bool g31)) (by decide) ?_
      refine U.x rfl rfl rfl rfl ((L 2 rfl rfl).trans (congrArg Value.bool g31)) (by decide) ?_
      refine U.x rfl rfl rfl rfl ((L 3 rfl rfl).trans (congrArg Value.bool g31)) (by decide) ?_
      refine U.x rfl rfl rfl rfl ((L 4 rfl rfl).trans (congrArg Value.bool g31)) (by decide) ?_
      refine U.x rfl rfl rfl rfl ((L 5 rfl rfl).trans (congrArg Value.bool g31)) (by decide) ?_
      refine U.x rfl rfl rfl rfl ((L 6 rfl rfl).trans (congrArg Value.bool g31)) (by decide) ?_
      refine U.p rfl rfl (.inl rfl) (S.pickF rfl ((L 7 rfl rfl).trans (congrArg Value.bool g31)) K) ?_
      refine U.p rfl rfl (.inl rfl) (S.move rfl (L 0 rfl rfl)) ?_
      refine U.x rfl rfl rfl rfl (L 0 rfl rfl) (by decide) ?_
      refine U.x rfl rfl rfl rfl (L 1 rfl rfl) (by decide) ?_
      refine U.x rfl rfl rfl rfl (L 2 rfl rfl) (by decide) ?_
      refine U.x rfl rfl rfl rfl (L 3 rfl rfl) (by decide) ?_
      refine U.x rfl rfl rfl rfl (L 4 rfl rfl) (by decide) ?_
      refine U.x rfl rfl rfl rfl (L 5 rfl rfl) (by decide) ?_
      refine U.x rfl rfl rfl rfl (L 6 rfl rfl) (by decide) ?_
      refine U.x rfl rfl rfl rfl (L 7 rfl rfl) (by decide) ?_
      refine U.x rfl rfl rfl rfl (L 8 rfl rfl) (by decide) ?_
      refine U.x rfl rfl rfl rfl (L 9 rfl rfl) (by decide) ?_
      refine U.x rfl rfl rfl rfl (L 10 rfl rfl) (by decide) ?_
      refine U.x rfl rfl rfl rfl (L 11 rfl rfl) (by decide) ?_
      refine U.x rfl rfl rfl rfl (L 12 rfl rfl) (by decide) ?_
      refine U.p rfl rfl (.inl rfl) (S.pickF rfl (L 13 rfl rfl) K) ?_
      refine U.p rfl rfl (.inl rfl) (S.assign rfl (L 0 rfl rfl)) ?_
      refine U.done (Nat.le_of_ble_eq_true rfl) ?_
      refine sqN ?_
      exact ⟨_, V27, rfl, ⟨false, rfl, le28, ow30, h63⟩, (allCons (L 0 rfl rfl) allNil)⟩

set_option maxHeartbeats 4000000 in
set_option maxRecDepth 10000 in
theorem wk_ref21_Consistent (V : Vw) (Rs : List At) (p0 : List (List TEvent)) (v1 : Value) (f2 : Fz (RT.sl RT_TEvent) V v1 p0) (ow : Ow V (Rs)) (r : Bool) (h : ref21_Consistent p0 = some r) : ∃ v V', Cl Try.prog 0 16 #[v1] V.H v V'.H ∧ V.le V' ∧ (v = .bool r ∧ Ow V' (Rs)) := by
  refine Ct.of (Nat.zero_le _) Try.func16 rfl (Nat.le_of_ble_eq_true rfl) ?_
  unfold ref21_Consistent at h
  refine WP.usreg rfl ?_
  refine U.p rfl rfl (.inl rfl) (S.assign rfl K) ?_
  refine U.done (Nat.le_of_ble_eq_true rfl) ?_
  refine WP.usreg rfl ?_
  refine U.p rfl rfl (.inl rfl) (S.move rfl (L 1 rfl rfl)) ?_
  obtain ⟨x3, hx4, h5⟩ := bindS h
  refine O.call (V := V) rfl rfl (.inl rfl) rfl en32 (aC (L 0 rfl rfl) (aC K aN)) (wk_ref21_Nodes V _ p0 false v1 f2 ow _ hx4) (fun _ _ _ _ => nd) (fun v6 V7 le8 hp9 => ?_)
  obtain ⟨_, rfl, ow10⟩ := hp9
  refine U.p rfl rfl (.inl rfl) (S.assign rfl (L 0 rfl rfl)) ?_
  refine U.done (Nat.le_of_ble_eq_true rfl) ?_
  refine WP.usreg rfl ?_
  refine U.p rfl rfl (.inl rfl) (S.move rfl (L 0 rfl rfl)) ?_
  obtain ⟨x13, hx14, h15⟩ := bindS h5
  refine O.call (V := V7) rfl rfl (.inl rfl) rfl en43 (aC (L 0 rfl rfl) aN) (wk_ref21_Ahead V7 _ x3 v6 ow10 _ hx14) (fun _ _ _ _ => nd) (fun v16 V17 le18 hp19 => ?_)
  obtain ⟨_, hs22, rfl, ow20⟩ := hp19
  refine U.p rfl rfl (.inl rfl) (S.assign rfl (L 0 rfl rfl)) ?_
  refine U.done (Nat.le_of_ble_eq_true rfl) ?_
  refine WP.seq ?_
  refine WP.usreg rfl ?_
  refine U.p rfl rfl (.inl rfl) (S.move rfl (L 3 rfl rfl)) ?_
  refine U.p rfl rfl (.inl rfl) (ow20.oslen (k := 1) rfl rfl (L 0 rfl rfl) Try.underlying47) ?_
  refine U.p rfl rfl (.inl rfl) (S.move rfl K) ?_
  refine U.done (Nat.le_of_ble_eq_true rfl) ?_
  refine WP.blk ?_
  have ow25 := ow20.pick 0 rfl
  have ow26 := ow25.pick 1 rfl
  unfold ref21_Consistent_l1 at h15
  obtain ⟨n28, hn27⟩ := loopO_some.1 h15
  refine WP.loopI2 (fun n l V' => ∃ (x24 : Int), l = [(3, v6), (4, v16), (13, .int .i64 (x3.length : Int)), (14, .int .i64 x24)] ∧ V17.le V' ∧ Ow V' (.os RT_Tref21_Node v6 x3 :: .oss (RO.os RT.bool) v16 hs22 x13 :: Rs) ∧ itO (fun s => ref21_Consistent_l1b x3 x13 s) n x24 = some r) n28 _ ⟨0, rfl, .refl _, ow26, hn27⟩ (allCons (L 6 rfl rfl) (allCons (L 3 rfl rfl) (allCons (L 1 rfl rfl) (allCons (L 0 rfl rfl) allNil)))) ?_
  rintro _ _ V29 ⟨x24, rfl, le30, ow31, h35⟩
  obtain ⟨m32, q33, rfl, h36, e34⟩ := itS h35
  replace h36 : ref21_Consistent_l1b x3 x13 x24 = some q33 := h36
  unfold ref21_Consistent_l1b at h36
  refine WP.usreg rfl ?_
  refine U.p rfl rfl (.inl rfl) (S.lss rfl (L 3 rfl rfl) (L 2 rfl rfl)) ?_
  refine U.done (Nat.le_of_ble_eq_true rfl) ?_
  refine WP.seq ?_
  refine WP.cond _ (L 0 rfl rfl) rfl (fun c37 => ?_) (fun c37 => ?_)
  · have h38 := ifT c37 h36
    refine WP.skip ?_
    refine sqN ?_
    refine WP.seq ?_
    refine WP.blk ?_
    refine WP.usreg rfl ?_
    refine U.p rfl rfl (.inl rfl) (S.move rfl (L 4 rfl rfl)) ?_
    refine U.p rfl rfl (.inl rfl) (S.assign rfl (L 0 rfl rfl)) ?_
    refine U.done (Nat.le_of_ble_eq_true rfl) ?_
    refine WP.usreg rfl ?_
    refine U.p rfl rfl (.inl rfl) (S.move rfl (L 3 rfl rfl)) ?_
    refine U.p rfl rfl (.inl rfl) (ow31.oslen (k := 0) rfl rfl (L 0 rfl rfl) Try.underlying47) ?_
    refine U.p rfl rfl (.inl rfl) (S.move rfl K) ?_
    refine U.done (Nat.le_of_ble_eq_true rfl) ?_
    refine WP.blk ?_
    unfold ref21_Consistent_l2 at h38
    obtain ⟨n41, hn40⟩ := loopO_some.1 h38
    refine WP.loopI2 (fun n l V' => ∃ (x39 : Int), l = [(3, v6), (4, v16), (5, .int .i64 x24), (13, .int .i64 (x3.length : Int)), (14, .int .i64 x24), (18, .int .i64 (x3.length : Int)), (19, .int .i64 x39)] ∧ V29.le V' ∧ Ow V' (.os RT_Tref21_Node v6 x3 :: .oss (RO.os RT.bool) v16 hs22 x13 :: Rs) ∧ itO (fun s => ref21_Consistent_l2b x3 x13 x24 s) n x39 = some q33) n41 _ ⟨0, rfl, .refl _, ow31, hn40⟩ (allCons (L 6 rfl rfl) (allCons (L 7 rfl rfl) (allCons (L 3 rfl rfl) (allCons (L 8 rfl rfl) (allCons (L 9 rfl rfl) (allCons (L 1 rfl rfl) (allCons (L 0 rfl rfl) allNil))))))) ?_
    rintro _ _ V42 ⟨x39, rfl, le43, ow44, h48⟩
    obtain ⟨m45, q46, rfl, h49, e47⟩ := itS h48
    replace h49 : ref21_Consistent_l2b x3 x13 x24 x39 = some q46 := h49
    unfold ref21_Consistent_l2b at h49
    refine WP.usreg rfl ?_
    refine U.p rfl rfl (.inl rfl) (S.lss rfl (L 6 rfl rfl) (L 5 rfl rfl)) ?_
    refine U.done (Nat.le_of_ble_eq_true rfl) ?_
    refine WP.seq ?_
    refine WP.cond _ (L 0 rfl rfl) rfl (fun c50 => ?_) (fun c50 => ?_)
    · have h51 := ifT c50 h49
      refine WP.skip ?_
      refine sqN ?_
      refine WP.seqI (fun l V' => l = [(3, v6), (4, v16), (5, .int .i64 x24), (13, .int .i64 (x3.length : Int)), (14, .int .i64 x24), (18, .int .i64 (x3.length : Int)), (19, .int .i64 x39)] ∧ V42.le V' ∧ Ow V' (.os RT_Tref21_Node v6 x3 :: .oss (RO.os RT.bool) v16 hs22 x13 :: Rs) ∧ ref21_Consistent_k1 x39  = some q46) ?_ ?_
      · rintro _ V52 ⟨rfl, le53, ow54, h55⟩
        unfold ref21_Consistent_k1 at h55
        refine WP.ureg rfl ?_
        refine U.p rfl rfl (.inl rfl) (S.add rfl (L 6 rfl rfl) K) ?_
        refine U.p rfl rfl (.inl rfl) (S.move rfl (L 0 rfl rfl)) ?_
        refine U.done (Nat.le_of_ble_eq_true rfl) ?_
        refine sqN ?_
        exact ⟨_, V52, rfl, ⟨m45, Nat.lt_succ_self _, w64 (x39 + 1), rfl, (le43.trans le53), ow54, backS h55 e47⟩, (allCons (L 2 rfl rfl) (allCons (L 3 rfl rfl) (allCons (L 4 rfl rfl) (allCons (L 5 rfl rfl) (allCons (L 6 rfl rfl) (allCons (L 7 rfl rfl) (allCons (L 0 rfl rfl) allNil)))))))⟩
      · skip
        refine WP.blk ?_
        refine WP.usreg rfl ?_
        refine U.p rfl rfl (.inl rfl) (S.move rfl (L 7 rfl rfl)) ?_
        refine U.p rfl rfl (.inl rfl) (S.assign rfl (L 0 rfl rfl)) ?_
        refine U.done (Nat.le_of_ble_eq_true rfl) ?_
        refine WP.seq ?_
        refine WP.seqI (fun l V' => ∃ (x56 : Bool), l = [(3, v6), (4, v16), (5, .int .i64 x24), (6, .int .i64 x39), (13, .int .i64 (x3.length : Int)), (14, .int .i64 x24), (18, .int .i64 (x3.length : Int)), (19, .int .i64 x39), (57, .bool x56)] ∧ V42.le V' ∧ Ow V' (.os RT_Tref21_Node v6 x3 :: .oss (RO.os RT.bool) v16 hs22 x13 :: Rs) ∧ ref21_Consistent_k2 x3 x13 x24 x39 x56 = some q46) ?_ ?_
        · rintro _ V57 ⟨x56, rfl, le58, ow59, h60⟩
          unfold ref21_Consistent_k2 at h60
          refine WP.cond _ (L 8 rfl rfl) rfl (fun c61 => ?_) (fun c61 => ?_)
          · have h62 := ifT c61 h60
            refine WP.exit ?_
            refine sqE (blkE (sqN ?_))
            exact ⟨_, V57, rfl, ⟨rfl, le58, ow59, h62⟩, (allCons (L 0 rfl rfl) (allCons (L 1 rfl rfl) (allCons (L 2 rfl rfl) (allCons (L 4 rfl rfl) (allCons (L 5 rfl rfl) (allCons (L 6 rfl rfl) (allCons (L 7 rfl rfl) allNil)))))))⟩
          · have h63 := ifF c61 h60
            refine WP.skip ?_
            refine sqN ?_
            refine WP.seq ?_
            refine WP.usreg rfl ?_
            refine U.p rfl rfl (.inl rfl) (S.move rfl (L 0 rfl rfl)) ?_
            refine U.p rfl rfl (.inl rfl) (S.move rfl (L 4 rfl rfl)) ?_
            refine U.p rfl rfl (.inl rfl) (S.move rfl (L 4 rfl rfl)) ?_
            obtain ⟨x64, hx65, h66⟩ := bindS h63
            refine O.call (V := V57) rfl rfl (.inl rfl) rfl en46 (aC (L 2 rfl rfl) (aC (L 1 rfl rfl) (aC (L 0 rfl rfl) aN))) (wk_ref21_from V57 _ x3 x39 x24 v6 ow59 _ hx65) (fun _ _ _ _ => nd) (fun v67 V68 le69 hp70 => ?_)
            obtain ⟨rfl, ow71⟩ := hp70
            refine U.p rfl rfl (.inl rfl) (S.move rfl (L 0 rfl rfl)) ?_
            obtain ⟨y72, hy73, h74⟩ := bindS h66
            refine U.joinX 13 (fun e H => ∃ (u75 u76 u77 u78 u79 u80 u81 : Value), H = V68.H ∧ e = [(70, .bool y72), (69, u75), (68, u76), (67, u77), (66, u78), (65, u79), (64, u80), (63, u81)]) ?_ ?_
            · rintro _ _ ⟨u75, u76, u77, u78, u79, u80, u81, rfl, rfl⟩
              refine U.done (Nat.le_of_ble_eq_true rfl) ?_
              refine WP.cond _ (L 0 rfl rfl) rfl (fun c85 => ?_) (fun c85 => ?_)
              · have h86 := ifT c85 h74
                refine WP.usreg rfl ?_
                refine U.p rfl rfl (.inl rfl) (S.assign rfl K) ?_
                refine U.done (Nat.le_of_ble_eq_true rfl) ?_
                refine WP.ret ?_
                refine sqR (blkR (sqR (sqR (blkR (blkR (sqR (sqR (blkR (sqR ?_)))))))))
                have h87 := exitS h86 e47
                have h88 := exitS h87 e34
                refine fin.slot (.inr rfl) rfl (L 0 rfl rfl) ⟨V68, rfl, (((((le8.trans le18).trans le30).trans le43).trans le58).trans le69), ?_⟩
                have ow89 := ow71.drop 0 rfl
                have ow90 := ow89.drop 0 rfl
                have e91 := Option.some.inj h88
                subst e91
                exact ⟨rfl, ow90⟩
              · have h92 := ifF c85 h74
                refine WP.skip ?_
                refine sqN ?_
                refine WP.seq ?_
                refine WP.usreg rfl ?_
                refine U.p rfl rfl (.inl rfl) (S.move rfl (L 14 rfl rfl)) ?_
                refine U.p rfl rfl (.inl rfl) (S.move rfl (L 17 rfl rfl)) ?_
                obtain ⟨x93, hx94, h95⟩ := bindS h92
                obtain ⟨b96, o97, n98, c99, hv100⟩ := ow71.sspt (k := 1) rfl hx94
                refine U.p rfl rfl (.inl rfl) (S.index rfl ((L 1 rfl rfl).trans (ow71.sslen' (k := 1) rfl hv100)) (L 0 rfl rfl) Try.underlying41 ti53 (ix_ge hx94) (ix_lt hx94)) ?_
                obtain ⟨h101, hh102, ow103⟩ := ow71.ssopen (k := 1) rfl hx94
                have hcl105 := ow103.shcell (k := 2) rfl hv100 hh102
                refine U.k rfl rfl (.inl rfl) (S.load rfl (L 0 rfl rfl) Try.underlying53 rfl hcl105.2) nd ?_
                refine U.p rfl rfl (.inl rfl) (S.move rfl (L 19 rfl rfl)) ?_
                obtain ⟨x106, hx107, h108⟩ := bindS h95
                obtain ⟨b109, o110, n111, c112, hv113⟩ := ow103.ospt (k := 0) rfl hx107
                obtain ⟨_, hv114, _⟩ := ow103.osel (k := 0) rfl hv113 hx107
                refine U.p rfl rfl (.inl rfl) (S.index rfl ((L 1 rfl rfl).trans hv114) (L 0 rfl rfl) Try.underlying53 ti4 (ix_ge hx107) (ix_lt hx107)) ?_
                obtain ⟨cs115, hv116, hlt117, hr118, hc119⟩ := ow103.osel (k := 0) rfl hv113 hx107
                obtain rfl : cs115 = [.bool x106] := hr118
                refine U.k rfl rfl (.inl rfl) (S.load rfl (L 0 rfl rfl) Try.underlying4 rfl (hc119 0 _ rfl)) nd ?_
                refine U.p rfl rfl (.inl rfl) (S.move rfl (L 0 rfl rfl)) ?_
                have ow120 := ow103.ssclose' (k := 2) (j := 0) rfl rfl (by decide) hh102 hx94
                obtain ⟨y121, hy122, h123⟩ := bindS h108
                refine U.joinX 16 (fun e H => ∃ (u124 u125 u126 u127 u128 u129 u130 : Value), H = V68.H ∧ e = [(86, .bool y121), (85, u124), (84, u125), (83, u126), (82, u127), (81, u128), (80, u129), (79, u130)]) ?_ ?_
                · rintro _ _ ⟨u124, u125, u126, u127, u128, u129, u130, rfl, rfl⟩
                  refine U.p rfl rfl (.inl rfl) (S.move rfl (L 0 rfl rfl)) ?_
                  obtain ⟨y134, hy135, h136⟩ := bindS h123
                  refine U.joinX 25 (fun e H => ∃ (u137 u138 u139 u140 u141 u142 u143 : Value), H = V68.H ∧ e = [(95, .bool y134), (94, u137), (93, u138), (92, u139), (91, u140), (90, u141), (89, u142), (88, u143)]) ?_ ?_
                  · rintro _ _ ⟨u137, u138, u139, u140, u141, u142, u143, rfl, rfl⟩
                    refine U.done (Nat.le_of_ble_eq_true rfl) ?_
                    refine WP.cond _ (L 0 rfl rfl) rfl (fun c147 => ?_) (fun c147 => ?_)
                    · have h148 := ifT c147 h136
                      refine WP.usreg rfl ?_
                      refine U.p rfl rfl (.inl rfl) (S.assign rfl K) ?_
                      refine U.done (Nat.le_of_ble_eq_true rfl) ?_
                      refine WP.ret ?_
                      refine sqR (blkR (sqR (sqR (blkR (blkR (sqR (sqR (blkR (sqR ?_)))))))))
                      have h149 := exitS h148 e47
                      have h150 := exitS h149 e34
                      refine fin.slot (.inr rfl) rfl (L 0 rfl rfl) ⟨V68, rfl, (((((le8.trans le18).trans le30).trans le43).trans le58).trans le69), ?_⟩
                      have ow151 := ow120.drop 0 rfl
                      have ow152 := ow151.drop 0 rfl
                      have e153 := Option.some.inj h150
                      subst e153
                      exact ⟨rfl, ow152⟩
                    · have h154 := ifF c147 h136
                      refine WP.skip ?_
                      refine sqN ?_
                      refine WP.usreg rfl ?_
                      refine U.p rfl rfl (.inl rfl) (S.move rfl (L 38 rfl rfl)) ?_
                      refine U.p rfl rfl (.inl rfl) (ow120.oslen (k := 0) rfl rfl (L 0 rfl rfl) Try.underlying47) ?_
                      refine U.p rfl rfl (.inl rfl) (S.move rfl K) ?_
                      refine U.done (Nat.le_of_ble_eq_true rfl) ?_
                      refine WP.blk ?_
                      unfold ref21_Consistent_l3 at h154
                      obtain ⟨n157, hn156⟩ := loopO_some.1 h154
                      refine WP.loopI2 (fun n l V' => ∃ (x155 : Int), l = [(3, v6), (4, v16), (5, .int .i64 x24), (6, .int .i64 x39), (13, .int .i64 (x3.length : Int)), (14, .int .i64 x24), (18, .int .i64 (x3.length : Int)), (19, .int .i64 x39), (97, .int .i64 (x3.length : Int)), (98, .int .i64 x155)] ∧ V68.le V' ∧ Ow V' (.os RT_Tref21_Node v6 x3 :: .oss (RO.os RT.bool) v16 hs22 x13 :: Rs) ∧ itO (fun s => ref21_Consistent_l3b x3 x13 x24 x39 s) n x155 = some q46) n157 _ ⟨0, rfl, .refl _, ow120, hn156⟩ (allCons (L 41 rfl rfl) (allCons (L 42 rfl rfl) (allCons (L 43 rfl rfl) (allCons (L 44 rfl rfl) (allCons (L 45 rfl rfl) (allCons (L 46 rfl rfl) (allCons (L 47 rfl rfl) (allCons (L 48 rfl rfl) (allCons (L 1 rfl rfl) (allCons (L 0 rfl rfl) allNil)))))))))) ?_
                      rintro _ _ V158 ⟨x155, rfl, le159, ow160, h164⟩
                      obtain ⟨m161, q162, rfl, h165, e163⟩ := itS h164
                      replace h165 : ref21_Consistent_l3b x3 x13 x24 x39 x155 = some q162 := h165
                      unfold ref21_Consistent_l3b at h165
                      refine WP.usreg rfl ?_
                      refine U.p rfl rfl (.inl rfl) (S.lss rfl (L 9 rfl rfl) (L 8 rfl rfl)) ?_
                      refine U.done (Nat.le_of_ble_eq_true rfl) ?_
                      refine WP.seq ?_
                      refine WP.cond _ (L 0 rfl rfl) rfl (fun c166 => ?_) (fun c166 => ?_)
                      · have h167 := ifT c166 h165
                        refine WP.skip ?_
                        refine sqN ?_
                        refine WP.seq ?_
                        refine WP.blk ?_
                        refine WP.usreg rfl ?_
                        refine U.p rfl rfl (.inl rfl) (S.move rfl (L 10 rfl rfl)) ?_
                        refine U.p rfl rfl (.inl rfl) (S.assign rfl (L 0 rfl rfl)) ?_
                        refine U.done (Nat.le_of_ble_eq_true rfl) ?_
                        refine WP.usreg rfl ?_
                        refine U.p rfl rfl (.inl rfl) (S.move rfl (L 4 rfl rfl)) ?_
                        refine U.p rfl rfl (.inl rfl) (S.move rfl (L 7 rfl rfl)) ?_
                        obtain ⟨x168, hx169, h170⟩ := bindS h167
                        refine U.p rfl rfl (.inl rfl) (S.index rfl ((L 1 rfl rfl).trans (ow160.sslen' (k := 1) rfl hv100)) (L 0 rfl rfl) Try.underlying41 ti53 (ix_ge hx169) (ix_lt hx169)) ?_
                        obtain ⟨h171, hh172, ow173⟩ := ow160.ssopen (k := 1) rfl hx169
                        have hcl175 := ow173.shcell (k := 2) rfl hv100 hh172
                        refine U.k rfl rfl (.inl rfl) (S.load rfl (L 0 rfl rfl) Try.underlying53 rfl hcl175.2) nd ?_
                        refine U.p rfl rfl (.inl rfl) (S.move rfl (L 9 rfl rfl)) ?_
                        obtain ⟨x176, hx177, h178⟩ := bindS h170
                        obtain ⟨b179, o180, n181, c182, hv183⟩ := ow173.ospt (k := 0) rfl hx177
                        obtain ⟨_, hv184, _⟩ := ow173.osel (k := 0) rfl hv183 hx177
                        refine U.p rfl rfl (.inl rfl) (S.index rfl ((L 1 rfl rfl).trans hv184) (L 0 rfl rfl) Try.underlying53 ti4 (ix_ge hx177) (ix_lt hx177)) ?_
                        obtain ⟨cs185, hv186, hlt187, hr188, hc189⟩ := ow173.osel (k := 0) rfl hv183 hx177
                        obtain rfl : cs185 = [.bool x176] := hr188
                        refine U.k rfl rfl (.inl rfl) (S.load rfl (L 0 rfl rfl) Try.underlying4 rfl (hc189 0 _ rfl)) nd ?_
                        refine U.p rfl rfl (.inl rfl) (S.move rfl (L 0 rfl rfl)) ?_
                        have ow190 := ow173.ssclose' (k := 2) (j := 0) rfl rfl (by decide) hh172 hx169
                        obtain ⟨y191, hy192, h193⟩ := bindS h178
                        refine U.joinX 13 (fun e H => ∃ (u194 u195 u196 u197 : Value), ∃ V' : Vw, H = V'.H ∧ V158.le V' ∧ e = [(113, .bool y191), (112, u194), (111, u195), (110, u196), (109, u197)] ∧ Ow V' (.os RT_Tref21_Node v6 x3 :: .oss (RO.os RT.bool) v16 hs22 x13 :: Rs)) ?_ ?_
                        · rintro _ _ ⟨u194, u195, u196, u197, V198, rfl, le199, rfl, ow200⟩
                          refine U.p rfl rfl (.inl rfl) (S.move rfl (L 0 rfl rfl)) ?_
                          obtain ⟨y201, hy202, h203⟩ := bindS h193
                          refine U.joinX 22 (fun e H => ∃ (u204 u205 u206 u207 u208 u209 u210 : Value), H = V198.H ∧ e = [(122, .bool y201), (121, u204), (120, u205), (119, u206), (118, u207), (117, u208), (116, u209), (115, u210)]) ?_ ?_
                          · rintro _ _ ⟨u204, u205, u206, u207, u208, u209, u210, rfl, rfl⟩
                            refine U.done (Nat.le_of_ble_eq_true rfl) ?_
                            refine WP.cond _ (L 0 rfl rfl) rfl (fun c214 => ?_) (fun c214 => ?_)
                            · have h215 := ifT c214 h203
                              refine WP.usreg rfl ?_
                              refine U.p rfl rfl (.inl rfl) (S.assign rfl K) ?_
                              refine U.done (Nat.le_of_ble_eq_true rfl) ?_
                              refine WP.ret ?_
                              refine blkR (sqR (sqR (blkR (blkR (sqR (sqR (blkR (blkR (sqR (sqR (blkR (sqR ?_))))))))))))
                              have h216 := exitS h215 e163
                              have h217 := exitS h216 e47
                              have h218 := exitS h217 e34
                              refine fin.slot (.inr rfl) rfl (L 0 rfl rfl) ⟨V198, rfl, (((((((le8.trans le18).trans le30).trans le43).trans le58).trans le69).trans le159).trans le199), ?_⟩
                              have ow219 := ow200.drop 0 rfl
                              have ow220 := ow219.drop 0 rfl
                              have e221 := Option.some.inj h218
                              subst e221
                              exact ⟨rfl, ow220⟩
                            · have h222 := ifF c214 h203
                              refine WP.skip ?_
                              refine blkN (sqN ?_)
                              refine WP.ureg rfl ?_
                              refine U.p rfl rfl (.inl rfl) (S.add rfl (L 34 rfl rfl) K) ?_
                              refine U.p rfl rfl (.inl rfl) (S.move rfl (L 0 rfl rfl)) ?_
                              refine U.done (Nat.le_of_ble_eq_true rfl) ?_
                              refine sqN ?_
                              exact ⟨_, V198, rfl, ⟨m161, Nat.lt_succ_self _, w64 (x155 + 1), rfl, (le159.trans le199), ow200, backS h222 e163⟩, (allCons (L 27 rfl rfl) (allCons (L 28 rfl rfl) (allCons (L 29 rfl rfl) (allCons (L 30 rfl rfl) (allCons (L 31 rfl rfl) (allCons (L 32 rfl rfl) (allCons (L 33 rfl rfl) (allCons (L 34 rfl rfl) (allCons (L 35 rfl rfl) (allCons (L 0 rfl rfl) allNil))))))))))⟩
                          · intro kk
                            refine bcase (b := y191) (fun g223 => ?_) (fun g223 => ?_)
                            · have h224 := ifT g223 hy202
                              refine U.p rfl rfl (.inr ⟨_, _, _, rfl, rfl, ((L 0 rfl rfl).trans (congrArg Value.bool g223))⟩) (S.move rfl (L 18 rfl rfl)) ?_
                              refine U.p rfl rfl (.inr ⟨_, _, _, rfl, rfl, ((L 1 rfl rfl).trans (congrArg Value.bool g223))⟩) (S.move rfl (L 15 rfl rfl)) ?_
                              obtain ⟨x225, hx226, h227⟩ := bindS h224
                              refine U.p rfl rfl (.inr ⟨_, _, _, rfl, rfl, ((L 2 rfl rfl).trans (congrArg Value.bool g223))⟩) (S.index rfl ((L 1 rfl rfl).trans (ow200.sslen' (k := 1) rfl hv100)) (L 0 rfl rfl) Try.underlying41 ti53 (ix_ge hx226) (ix_lt hx226)) ?_
                              obtain ⟨h228, hh229, ow230⟩ := ow200.ssopen (k := 1) rfl hx226
                              have hcl232 := ow230.shcell (k := 2) rfl hv100 hh229
                              refine U.k rfl rfl (.inr ⟨_, _, _, rfl, rfl, ((L 3 rfl rfl).trans (congrArg Value.bool g223))⟩) (S.load rfl (L 0 rfl rfl) Try.underlying53 rfl hcl232.2) nd ?_
                              refine U.p rfl rfl (.inr ⟨_, _, _, rfl, rfl, ((L 4 rfl rfl).trans (congrArg Value.bool g223))⟩) (S.move rfl (L 24 rfl rfl)) ?_
                              obtain ⟨x233, hx234, h235⟩ := bindS h227
                              obtain ⟨b236, o237, n238, c239, hv240⟩ := ow230.ospt (k := 0) rfl hx234
                              obtain ⟨_, hv241, _⟩ := ow230.osel (k := 0) rfl hv240 hx234
                              refine U.p rfl rfl (.inr ⟨_, _, _, rfl, rfl, ((L 5 rfl rfl).trans (congrArg Value.bool g223))⟩) (S.index rfl ((L 1 rfl rfl).trans hv241) (L 0 rfl rfl) Try.underlying53 ti4 (ix_ge hx234) (ix_lt hx234)) ?_
                              obtain ⟨cs242, hv243, hlt244, hr245, hc246⟩ := ow230.osel (k := 0) rfl hv240 hx234
                              obtain rfl : cs242 = [.bool x233] := hr245
                              refine U.k rfl rfl (.inr ⟨_, _, _, rfl, rfl, ((L 6 rfl rfl).trans (congrArg Value.bool g223))⟩) (S.load rfl (L 0 rfl rfl) Try.underlying4 rfl (hc246 0 _ rfl)) nd ?_
                              refine U.p rfl rfl (.inl rfl) (S.pickT rfl ((L 7 rfl rfl).trans (congrArg Value.bool g223)) (L 0 rfl rfl)) ?_
                              have ow247 := ow230.ssclose' (k := 2) (j := 0) rfl rfl (by decide) hh229 hx226
                              have e248 := Option.some.inj h235
                              subst e248
                              exact kk [(122, .bool x233), (121, .bool x233), (120, .pointer (some ⟨b236, o237 + Int.toNat x39 * 1, none⟩)), (119, .int .i64 x39), (118, h228), (117, .pointer (some ⟨b96, o97 + Int.toNat x155 * 1, none⟩)), (116, .int .i64 x155), (115, v16)] _ ⟨.bool x233, .pointer (some ⟨b236, o237 + Int.toNat x39 * 1, none⟩), .int .i64 x39, h228, .pointer (some ⟨b96, o97 + Int.toNat x155 * 1, none⟩), .int .i64 x155, v16, rfl, rfl⟩
                            · have h249 := ifF g223 hy202
                              refine U.x rfl rfl rfl rfl ((L 0 rfl rfl).trans (congrArg Value.bool g223)) (by decide) ?_
                              refine U.x rfl rfl rfl rfl ((L 1 rfl rfl).trans (congrArg Value.bool g223)) (by decide) ?_
                              refine U.x rfl rfl rfl rfl ((L 2 rfl rfl).trans (congrArg Value.bool g223)) (by decide) ?_
                              refine U.x rfl rfl rfl rfl ((L 3 rfl rfl).trans (congrArg Value.bool g223)) (by decide) ?_
                              refine U.x rfl rfl rfl rfl ((L 4 rfl rfl).trans (congrArg Value.bool g223)) (by decide) ?_
                              refine U.x rfl rfl rfl rfl ((L 5 rfl rfl).trans (congrArg Value.bool g223)) (by decide) ?_
                              refine U.x rfl rfl rfl rfl ((L 6 rfl rfl).trans (congrArg Value.bool g223)) (by decide) ?_
                              refine U.p rfl rfl (.inl rfl) (S.pickF rfl ((L 7 rfl rfl).trans (congrArg Value.bool g223)) K) ?_
                              have e250 := Option.some.inj h249
                              subst e250
                              exact kk [(122, .bool false), (121, .tuple #[]), (120, .tuple #[]), (119, .tuple #[]), (118, .tuple #[]), (117, .tuple #[]), (116, .tuple #[]), (115, .tuple #[])] _ ⟨.tuple #[], .tuple #[], .tuple #[], .tuple #[], .tuple #[], .tuple #[], .tuple #[], rfl, rfl⟩
                        · intro kk
                          refine bcase (b := x176) (fun g251 => ?_) (fun g251 => ?_)
                          · have h252 := ifT g251 hy192
                            refine U.p rfl rfl (.inr ⟨_, _, _, rfl, rfl, ((L 0 rfl rfl).trans (congrArg Value.bool g251))⟩) (S.move rfl (L 11 rfl rfl)) ?_
                            refine U.p rfl rfl (.inr ⟨_, _, _, rfl, rfl, ((L 1 rfl rfl).trans (congrArg Value.bool g251))⟩) (S.move rfl (L 9 rfl rfl)) ?_
                            refine U.p rfl rfl (.inr ⟨_, _, _, rfl, rfl, ((L 2 rfl rfl).trans (congrArg Value.bool g251))⟩) (S.move rfl (L 15 rfl rfl)) ?_
                            obtain ⟨x253, hx254, h255⟩ := bindS h252
                            refine O.call (V := V158) rfl rfl (.inr ⟨_, _, _, rfl, rfl, ((L 3 rfl rfl).trans (congrArg Value.bool g251))⟩) rfl en46 (aC (L 2 rfl rfl) (aC (L 1 rfl rfl) (aC (L 0 rfl rfl) aN))) (wk_ref21_from V158 _ x3 x155 x24 v6 ow190 _ hx254) (fun _ _ _ _ => nd) (fun v256 V257 le258 hp259 => ?_)
                            obtain ⟨rfl, ow260⟩ := hp259
                            refine U.p rfl rfl (.inl rfl) (S.pickT rfl ((L 4 rfl rfl).trans (congrArg Value.bool g251)) (L 0 rfl rfl)) ?_
                            have e261 := Option.some.inj h255
                            subst e261
                            exact kk [(113, .bool x253), (112, .bool x253), (111, .int .i64 x24), (110, .int .i64 x155), (109, v6)] _ ⟨.bool x253, .int .i64 x24, .int .i64 x155, v6, V257, rfl, le258, rfl, ow260⟩
                          · have h262 := ifF g251 hy192
                            refine U.x rfl rfl rfl rfl ((L 0 rfl rfl).trans (congrArg Value.bool g251)) (by decide) ?_
                            refine U.x rfl rfl rfl rfl ((L 1 rfl rfl).trans (congrArg Value.bool g251)) (by decide) ?_
                            refine U.x rfl rfl rfl rfl ((L 2 rfl rfl).trans (congrArg Value.bool g251)) (by decide) ?_
                            refine U.x rfl rfl rfl rfl ((L 3 rfl rfl).trans (congrArg Value.bool g251)) (by decide) ?_
                            refine U.p rfl rfl (.inl rfl) (S.pickF rfl ((L 4 rfl rfl).trans (congrArg Value.bool g251)) K) ?_
                            have e263 := Option.some.inj h262
                            subst e263
                            exact kk [(113, .bool false), (112, .tuple #[]), (111, .tuple #[]), (110, .tuple #[]), (109, .tuple #[])] _ ⟨.tuple #[], .tuple #[], .tuple #[], .tuple #[], V158, rfl, (.refl _), rfl, ow190⟩
                      · have h264 := ifF c166 h165
                        refine WP.exit ?_
                        refine sqE (sqE (blkE (blkN (sqN ?_))))
                        have h265 := exitS h264 e163
                        exact ⟨_, V158, rfl, ⟨rfl, ((le58.trans le69).trans le159), ow160, h265⟩, (allCons (L 1 rfl rfl) (allCons (L 2 rfl rfl) (allCons (L 3 rfl rfl) (allCons (L 5 rfl rfl) (allCons (L 6 rfl rfl) (allCons (L 7 rfl rfl) (allCons (L 8 rfl rfl) allNil)))))))⟩
                  · intro kk
                    refine bcase (b := y121) (fun g266 => ?_) (fun g266 => ?_)
                    · have h267 := ifT g266 hy135
                      refine U.p rfl rfl (.inr ⟨_, _, _, rfl, rfl, ((L 0 rfl rfl).trans (congrArg Value.bool g266))⟩) (S.move rfl (L 30 rfl rfl)) ?_
                      refine U.p rfl rfl (.inr ⟨_, _, _, rfl, rfl, ((L 1 rfl rfl).trans (congrArg Value.bool g266))⟩) (S.move rfl (L 33 rfl rfl)) ?_
                      obtain ⟨x268, hx269, h270⟩ := bindS h267
                      obtain ⟨b271, o272, n273, c274, hv275⟩ := ow120.ospt (k := 0) rfl hx269
                      obtain ⟨_, hv276, _⟩ := ow120.osel (k := 0) rfl hv275 hx269
                      refine U.p rfl rfl (.inr ⟨_, _, _, rfl, rfl, ((L 2 rfl rfl).trans (congrArg Value.bool g266))⟩) (S.index rfl ((L 1 rfl rfl).trans hv276) (L 0 rfl rfl) Try.underlying47 ti52 (ix_ge hx269) (ix_lt hx269)) ?_
                      refine U.p (v := .pointer (some ⟨b271, o272 + Int.toNat x24 * 10, none⟩)) rfl rfl (.inr ⟨_, _, _, rfl, rfl, ((L 3 rfl rfl).trans (congrArg Value.bool g266))⟩) (S.fieldAddr rfl (L 0 rfl rfl) Try.underlying52 rfl ti31 rfl rfl) ?_
                      refine U.p (v := .pointer (some ⟨b271, o272 + Int.toNat x24 * 10 + 7, none⟩)) rfl rfl (.inr ⟨_, _, _, rfl, rfl, ((L 4 rfl rfl).trans (congrArg Value.bool g266))⟩) (S.fieldAddr rfl (L 0 rfl rfl) Try.underlying31 rfl ti3 rfl rfl) ?_
                      obtain ⟨cs277, hv278, hlt279, hr280, hc281⟩ := ow120.osel (k := 0) rfl hv275 hx269
                      obtain rfl : cs277 = [.int .i64 x268.e.t, .int .i64 x268.e.act.kind, .int .i64 x268.e.act.at_, .int .i64 x268.e.act.val, .int .i64 x268.e.act.what, .bool x268.e.act.volatile, .bool x268.e.act.final, .int .i64 x268.e.rf, .int .i64 x268.e.id, .int .i64 x268.at_] := hr280
                      refine U.k rfl rfl (.inr ⟨_, _, _, rfl, rfl, ((L 5 rfl rfl).trans (congrArg Value.bool g266))⟩) (S.load rfl (L 0 rfl rfl) Try.underlying3 rfl (hc281 7 _ rfl)) nd ?_
                      refine U.p rfl rfl (.inr ⟨_, _, _, rfl, rfl, ((L 6 rfl rfl).trans (congrArg Value.bool g266))⟩) (S.eqlI rfl (L 0 rfl rfl) K) ?_
                      refine U.p rfl rfl (.inl rfl) (S.pickT rfl ((L 7 rfl rfl).trans (congrArg Value.bool g266)) (L 0 rfl rfl)) ?_
                      have e282 := Option.some.inj h270
                      subst e282
                      exact kk [(95, .bool (decide (x268.e.rf = 0))), (94, .bool (decide (x268.e.rf = 0))), (93, .int .i64 x268.e.rf), (92, .pointer (some ⟨b271, o272 + Int.toNat x24 * 10 + 7, none⟩)), (91, .pointer (some ⟨b271, o272 + Int.toNat x24 * 10, none⟩)), (90, .pointer (some ⟨b271, o272 + Int.toNat x24 * 10, none⟩)), (89, .int .i64 x24), (88, v6)] _ ⟨.bool (decide (x268.e.rf = 0)), .int .i64 x268.e.rf, .pointer (some ⟨b271, o272 + Int.toNat x24 * 10 + 7, none⟩), .pointer (some ⟨b271, o272 + Int.toNat x24 * 10, none⟩), .pointer (some ⟨b271, o272 + Int.toNat x24 * 10, none⟩), .int .i64 x24, v6, rfl, rfl⟩
                    · have h283 := ifF g266 hy135
                      refine U.x rfl rfl rfl rfl ((L 0 rfl rfl).trans (congrArg Value.bool g266)) (by decide) ?_
                      refine U.x rfl rfl rfl rfl ((L 1 rfl rfl).trans (congrArg Value.bool g266)) (by decide) ?_
                      refine U.x rfl rfl rfl rfl ((L 2 rfl rfl).trans (congrArg Value.bool g266)) (by decide) ?_
                      refine U.x rfl rfl rfl rfl ((L 3 rfl rfl).trans (congrArg Value.bool g266)) (by decide) ?_
                      refine U.x rfl rfl rfl rfl ((L 4 rfl rfl).trans (congrArg Value.bool g266)) (by decide) ?_
                      refine U.x rfl rfl rfl rfl ((L 5 rfl rfl).trans (congrArg Value.bool g266)) (by decide) ?_
                      refine U.x rfl rfl rfl rfl ((L 6 rfl rfl).trans (congrArg Value.bool g266)) (by decide) ?_
                      refine U.p rfl rfl (.inl rfl) (S.pickF rfl ((L 7 rfl rfl).trans (congrArg Value.bool g266)) K) ?_
                      have e284 := Option.some.inj h283
                      subst e284
                      exact kk [(95, .bool false), (94, .tuple #[]), (93, .tuple #[]), (92, .tuple #[]), (91, .tuple #[]), (90, .tuple #[]), (89, .tuple #[]), (88, .tuple #[])] _ ⟨.tuple #[], .tuple #[], .tuple #[], .tuple #[], .tuple #[], .tuple #[], .tuple #[], rfl, rfl⟩
                · intro kk
                  refine bcase (b := x106) (fun g285 => ?_) (fun g285 => ?_)
                  · have h286 := ifT g285 hy122
                    refine U.p rfl rfl (.inr ⟨_, _, _, rfl, rfl, ((L 0 rfl rfl).trans (congrArg Value.bool g285))⟩) (S.move rfl (L 21 rfl rfl)) ?_
                    refine U.p rfl rfl (.inr ⟨_, _, _, rfl, rfl, ((L 1 rfl rfl).trans (congrArg Value.bool g285))⟩) (S.move rfl (L 25 rfl rfl)) ?_
                    obtain ⟨x287, hx288, h289⟩ := bindS h286
                    obtain ⟨b290, o291, n292, c293, hv294⟩ := ow120.ospt (k := 0) rfl hx288
                    obtain ⟨_, hv295, _⟩ := ow120.osel (k := 0) rfl hv294 hx288
                    refine U.p rfl rfl (.inr ⟨_, _, _, rfl, rfl, ((L 2 rfl rfl).trans (congrArg Value.bool g285))⟩) (S.index rfl ((L 1 rfl rfl).trans hv295) (L 0 rfl rfl) Try.underlying47 ti52 (ix_ge hx288) (ix_lt hx288)) ?_
                    refine U.p (v := .pointer (some ⟨b290, o291 + Int.toNat x39 * 10, none⟩)) rfl rfl (.inr ⟨_, _, _, rfl, rfl, ((L 3 rfl rfl).trans (congrArg Value.bool g285))⟩) (S.fieldAddr rfl (L 0 rfl rfl) Try.underlying52 rfl ti31 rfl rfl) ?_
                    refine U.p (v := .pointer (some ⟨b290, o291 + Int.toNat x39 * 10 + 8, none⟩)) rfl rfl (.inr ⟨_, _, _, rfl, rfl, ((L 4 rfl rfl).trans (congrArg Value.bool g285))⟩) (S.fieldAddr rfl (L 0 rfl rfl) Try.underlying31 rfl ti3 rfl rfl) ?_
                    obtain ⟨cs296, hv297, hlt298, hr299, hc300⟩ := ow120.osel (k := 0) rfl hv294 hx288
                    obtain rfl : cs296 = [.int .i64 x287.e.t, .int .i64 x287.e.act.kind, .int .i64 x287.e.act.at_, .int .i64 x287.e.act.val, .int .i64 x287.e.act.what, .bool x287.e.act.volatile, .bool x287.e.act.final, .int .i64 x287.e.rf, .int .i64 x287.e.id, .int .i64 x287.at_] := hr299
                    refine U.k rfl rfl (.inr ⟨_, _, _, rfl, rfl, ((L 5 rfl rfl).trans (congrArg Value.bool g285))⟩) (S.load rfl (L 0 rfl rfl) Try.underlying3 rfl (hc300 8 _ rfl)) nd ?_
                    refine U.p rfl rfl (.inr ⟨_, _, _, rfl, rfl, ((L 6 rfl rfl).trans (congrArg Value.bool g285))⟩) (S.gtr rfl (L 0 rfl rfl) K) ?_
                    refine U.p rfl rfl (.inl rfl) (S.pickT rfl ((L 7 rfl rfl).trans (congrArg Value.bool g285)) (L 0 rfl rfl)) ?_
                    have e301 := Option.some.inj h289
                    subst e301
                    exact kk [(86, .bool (decide (0 < x287.e.id))), (85, .bool (decide (0 < x287.e.id))), (84, .int .i64 x287.e.id), (83, .pointer (some ⟨b290, o291 + Int.toNat x39 * 10 + 8, none⟩)), (82, .pointer (some ⟨b290, o291 + Int.toNat x39 * 10, none⟩)), (81, .pointer (some ⟨b290, o291 + Int.toNat x39 * 10, none⟩)), (80, .int .i64 x39), (79, v6)] _ ⟨.bool (decide (0 < x287.e.id)), .int .i64 x287.e.id, .pointer (some ⟨b290, o291 + Int.toNat x39 * 10 + 8, none⟩), .pointer (some ⟨b290, o291 + Int.toNat x39 * 10, none⟩), .pointer (some ⟨b290, o291 + Int.toNat x39 * 10, none⟩), .int .i64 x39, v6, rfl, rfl⟩
                  · have h302 := ifF g285 hy122
                    refine U.x rfl rfl rfl rfl ((L 0 rfl rfl).trans (congrArg Value.bool g285)) (by decide) ?_
                    refine U.x rfl rfl rfl rfl ((L 1 rfl rfl).trans (congrArg Value.bool g285)) (by decide) ?_
                    refine U.x rfl rfl rfl rfl ((L 2 rfl rfl).trans (congrArg Value.bool g285)) (by decide) ?_
                    refine U.x rfl rfl rfl rfl ((L 3 rfl rfl).trans (congrArg Value.bool g285)) (by decide) ?_
                    refine U.x rfl rfl rfl rfl ((L 4 rfl rfl).trans (congrArg Value.bool g285)) (by decide) ?_
                    refine U.x rfl rfl rfl rfl ((L 5 rfl rfl).trans (congrArg Value.bool g285)) (by decide) ?_
                    refine U.x rfl rfl rfl rfl ((L 6 rfl rfl).trans (congrArg Value.bool g285)) (by decide) ?_
                    refine U.p rfl rfl (.inl rfl) (S.pickF rfl ((L 7 rfl rfl).trans (congrArg Value.bool g285)) K) ?_
                    have e303 := Option.some.inj h302
                    subst e303
                    exact kk [(86, .bool false), (85, .tuple #[]), (84, .tuple #[]), (83, .tuple #[]), (82, .tuple #[]), (81, .tuple #[]), (80, .tuple #[]), (79, .tuple #[])] _ ⟨.tuple #[], .tuple #[], .tuple #[], .tuple #[], .tuple #[], .tuple #[], .tuple #[], rfl, rfl⟩
            · intro kk
              refine bcase (b := x64) (fun g304 => ?_) (fun g304 => ?_)
              · have h305 := ifT g304 hy73
                refine U.p rfl rfl (.inr ⟨_, _, _, rfl, rfl, ((L 0 rfl rfl).trans (congrArg Value.bool g304))⟩) (S.move rfl (L 6 rfl rfl)) ?_
                refine U.p rfl rfl (.inr ⟨_, _, _, rfl, rfl, ((L 1 rfl rfl).trans (congrArg Value.bool g304))⟩) (S.move rfl (L 8 rfl rfl)) ?_
                obtain ⟨x306, hx307, h308⟩ := bindS h305
                obtain ⟨b309, o310, n311, c312, hv313⟩ := ow71.sspt (k := 1) rfl hx307
                refine U.p rfl rfl (.inr ⟨_, _, _, rfl, rfl, ((L 2 rfl rfl).trans (congrArg Value.bool g304))⟩) (S.index rfl ((L 1 rfl rfl).trans (ow71.sslen' (k := 1) rfl hv313)) (L 0 rfl rfl) Try.underlying41 ti53 (ix_ge hx307) (ix_lt hx307)) ?_
                obtain ⟨h314, hh315, ow316⟩ := ow71.ssopen (k := 1) rfl hx307
                have hcl318 := ow316.shcell (k := 2) rfl hv313 hh315
                refine U.k rfl rfl (.inr ⟨_, _, _, rfl, rfl, ((L 3 rfl rfl).trans (congrArg Value.bool g304))⟩) (S.load rfl (L 0 rfl rfl) Try.underlying53 rfl hcl318.2) nd ?_
                refine U.p rfl rfl (.inr ⟨_, _, _, rfl, rfl, ((L 4 rfl rfl).trans (congrArg Value.bool g304))⟩) (S.move rfl (L 12 rfl rfl)) ?_
                obtain ⟨x319, hx320, h321⟩ := bindS h308
                obtain ⟨b322, o323, n324, c325, hv326⟩ := ow316.ospt (k := 0) rfl hx320
                obtain ⟨_, hv327, _⟩ := ow316.osel (k := 0) rfl hv326 hx320
                refine U.p rfl rfl (.inr ⟨_, _, _, rfl, rfl, ((L 5 rfl rfl).trans (congrArg Value.bool g304))⟩) (S.index rfl ((L 1 rfl rfl).trans hv327) (L 0 rfl rfl) Try.underlying53 ti4 (ix_ge hx320) (ix_lt hx320)) ?_
                obtain ⟨cs328, hv329, hlt330, hr331, hc332⟩ := ow316.osel (k := 0) rfl hv326 hx320
                obtain rfl : cs328 = [.bool x319] := hr331
                refine U.k rfl rfl (.inr ⟨_, _, _, rfl, rfl, ((L 6 rfl rfl).trans (congrArg Value.bool g304))⟩) (S.load rfl (L 0 rfl rfl) Try.underlying4 rfl (hc332 0 _ rfl)) nd ?_
                refine U.p rfl rfl (.inl rfl) (S.pickT rfl ((L 7 rfl rfl).trans (congrArg Value.bool g304)) (L 0 rfl rfl)) ?_
                have ow333 := ow316.ssclose' (k := 2) (j := 0) rfl rfl (by decide) hh315 hx307
                have e334 := Option.some.inj h321
                subst e334
                exact kk [(70, .bool x319), (69, .bool x319), (68, .pointer (some ⟨b322, o323 + Int.toNat x39 * 1, none⟩)), (67, .int .i64 x39), (66, h314), (65, .pointer (some ⟨b309, o310 + Int.toNat x24 * 1, none⟩)), (64, .int .i64 x24), (63, v16)] _ ⟨.bool x319, .pointer (some ⟨b322, o323 + Int.toNat x39 * 1, none⟩), .int .i64 x39, h314, .pointer (some ⟨b309, o310 + Int.toNat x24 * 1, none⟩), .int .i64 x24, v16, rfl, rfl⟩
              · have h335 := ifF g304 hy73
                refine U.x rfl rfl rfl rfl ((L 0 rfl rfl).trans (congrArg Value.bool g304)) (by decide) ?_
                refine U.x rfl rfl rfl rfl ((L 1 rfl rfl).trans (congrArg Value.bool g304)) (by decide) ?_
                refine U.x rfl rfl rfl rfl ((L 2 rfl rfl).trans (congrArg Value.bool g304)) (by decide) ?_
                refine U.x rfl rfl rfl rfl ((L 3 rfl rfl).trans (congrArg Value.bool g304)) (by decide) ?_
                refine U.x rfl rfl rfl rfl ((L 4 rfl rfl).trans (congrArg Value.bool g304)) (by decide) ?_
                refine U.x rfl rfl rfl rfl ((L 5 rfl rfl).trans (congrArg Value.bool g304)) (by decide) ?_
                refine U.x rfl rfl rfl rfl ((L 6 rfl rfl).trans (congrArg Value.bool g304)) (by decide) ?_
                refine U.p rfl rfl (.inl rfl) (S.pickF rfl ((L 7 rfl rfl).trans (congrArg Value.bool g304)) K) ?_
                have e336 := Option.some.inj h335
                subst e336
                exact kk [(70, .bool false), (69, .tuple #[]), (68, .tuple #[]), (67, .tuple #[]), (66, .tuple #[]), (65, .tuple #[]), (64, .tuple #[]), (63, .tuple #[])] _ ⟨.tuple #[], .tuple #[], .tuple #[], .tuple #[], .tuple #[], .tuple #[], .tuple #[], rfl, rfl⟩
        · skip
          refine WP.udreg rfl rfl rfl ?_
          refine U.p rfl rfl (.inl rfl) (S.move rfl (L 5 rfl rfl)) ?_
          refine U.p rfl rfl (.inl rfl) (S.move rfl (L 1 rfl rfl)) ?_
          refine U.p rfl rfl (.inl rfl) (S.eqlI rfl (L 1 rfl rfl) (L 0 rfl rfl)) ?_
          refine U.p rfl rfl (.inl rfl) (S.move rfl (L 0 rfl rfl)) ?_
          refine bcase (b := decide (x24 = x39)) (fun g337 => ?_) (fun g337 => ?_)
          · have h338 := ifT g337 h51
            refine U.x rfl rfl rfl rfl ((L 0 rfl rfl).trans (congrArg Value.bool g337)) (by decide) ?_
            refine U.x rfl rfl rfl rfl ((L 1 rfl rfl).trans (congrArg Value.bool g337)) (by decide) ?_
            refine U.x rfl rfl rfl rfl ((L 2 rfl rfl).trans (congrArg Value.bool g337)) (by decide) ?_
            refine U.x rfl rfl rfl rfl ((L 3 rfl rfl).trans (congrArg Value.bool g337)) (by decide) ?_
            refine U.x rfl rfl rfl rfl ((L 4 rfl rfl).trans (congrArg Value.bool g337)) (by decide) ?_
            refine U.x rfl rfl rfl rfl ((L 5 rfl rfl).trans (congrArg Value.bool g337)) (by decide) ?_
            refine U.p rfl rfl (.inl rfl) (S.pickT rfl ((L 6 rfl rfl).trans (congrArg Value.bool g337)) K) ?_
            refine U.p rfl rfl (.inl rfl) (S.move rfl (L 0 rfl rfl)) ?_
            refine U.x rfl rfl rfl rfl (L 0 rfl rfl) (by decide) ?_
            refine U.x rfl rfl rfl rfl (L 1 rfl rfl) (by decide) ?_
            refine U.x rfl rfl rfl rfl (L 2 rfl rfl) (by decide) ?_
            refine U.x rfl rfl rfl rfl (L 3 rfl rfl) (by decide) ?_
            refine U.x rfl rfl rfl rfl (L 4 rfl rfl) (by decide) ?_
            refine U.x rfl rfl rfl rfl (L 5 rfl rfl) (by decide) ?_
            refine U.p rfl rfl (.inl rfl) (S.pickT rfl (L 6 rfl rfl) K) ?_
            refine U.p rfl rfl (.inl rfl) (S.move rfl (L 0 rfl rfl)) ?_
            refine U.x rfl rfl rfl rfl (L 0 rfl rfl) (by decide) ?_
            refine U.x rfl rfl rfl rfl (L 1 rfl rfl) (by decide) ?_
            refine U.x rfl rfl rfl rfl (L 2 rfl rfl) (by decide) ?_
            refine U.x rfl rfl rfl rfl (L 3 rfl rfl) (by decide) ?_
            refine U.x rfl rfl rfl rfl (L 4 rfl rfl) (by decide) ?_
            refine U.x rfl rfl rfl rfl (L 5 rfl rfl) (by decide) ?_
            refine U.x rfl rfl rfl rfl (L 6 rfl rfl) (by decide) ?_
            refine U.x rfl rfl rfl rfl (L 7 rfl rfl) (by decide) ?_
            refine U.x rfl rfl rfl rfl (L 8 rfl rfl) (by decide) ?_
            refine U.x rfl rfl rfl rfl (L 9 rfl rfl) (by decide) ?_
            refine U.x rfl rfl rfl rfl (L 10 rfl rfl) (by decide) ?_
            refine U.x rfl rfl rfl rfl (L 11 rfl rfl) (by decide) ?_
            refine U.x rfl rfl rfl rfl (L 12 rfl rfl) (by decide) ?_
            refine U.x rfl rfl rfl rfl (L 13 rfl rfl) (by decide) ?_
            refine U.x rfl rfl rfl rfl (L 14 rfl rfl) (by decide) ?_
            refine U.p rfl rfl (.inl rfl) (S.pickT rfl (L 15 rfl rfl) K) ?_
            refine U.done (Nat.le_of_ble_eq_true rfl) ?_
            refine sqN ?_
            exact ⟨_, V42, rfl, ⟨true, rfl, (.refl _), ow44, h338⟩, (allCons (L 39 rfl rfl) (allCons (L 40 rfl rfl) (allCons (L 41 rfl rfl) (allCons (L 36 rfl rfl) (allCons (L 42 rfl rfl) (allCons (L 43 rfl rfl) (allCons (L 44 rfl rfl) (allCons (L 45 rfl rfl) (allCons (L 0 rfl rfl) allNil)))))))))⟩
          · have h339 := ifF g337 h51
            refine U.p rfl rfl (.inr ⟨_, _, _, rfl, rfl, ((L 0 rfl rfl).trans (congrArg Value.bool g337))⟩) (S.move rfl (L 7 rfl rfl)) ?_
            refine U.p rfl rfl (.inr ⟨_, _, _, rfl, rfl, ((L 1 rfl rfl).trans (congrArg Value.bool g337))⟩) (S.move rfl (L 10 rfl rfl)) ?_
            obtain ⟨x340, hx341, h342⟩ := bindS h339
            obtain ⟨b343, o344, n345, c346, hv347⟩ := ow44.ospt (k := 0) rfl hx341
            obtain ⟨_, hv348, _⟩ := ow44.osel (k := 0) rfl hv347 hx341
            refine U.p rfl rfl (.inr ⟨_, _, _, rfl, rfl, ((L 2 rfl rfl).trans (congrArg Value.bool g337))⟩) (S.index rfl ((L 1 rfl rfl).trans hv348) (L 0 rfl rfl) Try.underlying47 ti52 (ix_ge hx341) (ix_lt hx341)) ?_
            obtain ⟨cs349, hv350, hlt351, hr352, hc353⟩ := ow44.osel (k := 0) rfl hv347 hx341
            obtain rfl : cs349 = [.int .i64 x340.e.t, .int .i64 x340.e.act.kind, .int .i64 x340.e.act.at_, .int .i64 x340.e.act.val, .int .i64 x340.e.act.what, .bool x340.e.act.volatile, .bool x340.e.act.final, .int .i64 x340.e.rf, .int .i64 x340.e.id, .int .i64 x340.at_] := hr352
            refine U.k rfl rfl (.inr ⟨_, _, _, rfl, rfl, ((L 3 rfl rfl).trans (congrArg Value.bool g337))⟩) (S.loadN (cs := [.int .i64 x340.e.t, .int .i64 x340.e.act.kind, .int .i64 x340.e.act.at_, .int .i64 x340.e.act.val, .int .i64 x340.e.act.what, .bool x340.e.act.volatile, .bool x340.e.act.final, .int .i64 x340.e.rf, .int .i64 x340.e.id, .int .i64 x340.at_]) rfl (L 0 rfl rfl) Try.underlying52 rfl ti52 rfl hc353) (fun _ => (okH.nil (fun r h => by cases h; exact hlt351))) ?_
            obtain ⟨x354, hx355, h356⟩ := bindS h342
            refine O.call (V := V42) rfl rfl (.inr ⟨_, _, _, rfl, rfl, ((L 4 rfl rfl).trans (congrArg Value.bool g337))⟩) rfl en44 (aC (L 0 rfl rfl) aN) (wk_ref21_Reads V42 _ x340 ow44 _ hx355) (fun v357 V358 le359 hp360 => by obtain ⟨rfl, ow361⟩ := hp360; exact (fun _ => (okH.cons (Or.inl rfl) (okH.nil (fun r h => nomatch h))))) (fun v357 V358 le359 hp360 => ?_)
            obtain ⟨rfl, ow361⟩ := hp360
            refine U.p rfl rfl (.inr ⟨_, _, _, rfl, rfl, ((L 5 rfl rfl).trans (congrArg Value.bool g337))⟩) (S.not rfl (L 0 rfl rfl)) ?_
            refine U.p rfl rfl (.inl rfl) (S.pickF rfl ((L 6 rfl rfl).trans (congrArg Value.bool g337)) (L 0 rfl rfl)) ?_
            refine U.p rfl rfl (.inl rfl) (S.move rfl (L 0 rfl rfl)) ?_
            refine bcase (b := !x354) (fun g362 => ?_) (fun g362 => ?_)
            · have h363 := ifT g362 h356
              have k364 : x354 = false := by simpa using g362
              refine U.x rfl rfl rfl rfl ((L 0 rfl rfl).trans (congrArg Value.bool g362)) (by decide) ?_
              refine U.x rfl rfl rfl rfl ((L 1 rfl rfl).trans (congrArg Value.bool g362)) (by decide) ?_
              refine U.x rfl rfl rfl rfl ((L 2 rfl rfl).trans (congrArg Value.bool g362)) (by decide) ?_
              refine U.x rfl rfl rfl rfl ((L 3 rfl rfl).trans (congrArg Value.bool g362)) (by decide) ?_
              refine U.x rfl rfl rfl rfl ((L 4 rfl rfl).trans (congrArg Value.bool g362)) (by decide) ?_
              refine U.x rfl rfl rfl rfl ((L 5 rfl rfl).trans (congrArg Value.bool g362)) (by decide) ?_
              refine U.p rfl rfl (.inl rfl) (S.pickT rfl ((L 6 rfl rfl).trans (congrArg Value.bool g362)) K) ?_
              refine U.p rfl rfl (.inl rfl) (S.move rfl (L 0 rfl rfl)) ?_
              refine U.x rfl rfl rfl rfl (L 0 rfl rfl) (by decide) ?_
              refine U.x rfl rfl rfl rfl (L 1 rfl rfl) (by decide) ?_
              refine U.x rfl rfl rfl rfl (L 2 rfl rfl) (by decide) ?_
              refine U.x rfl rfl rfl rfl (L 3 rfl rfl) (by decide) ?_
              refine U.x rfl rfl rfl rfl (L 4 rfl rfl) (by decide) ?_
              refine U.x rfl rfl rfl rfl (L 5 rfl rfl) (by decide) ?_
              refine U.x rfl rfl rfl rfl (L 6 rfl rfl) (by decide) ?_
              refine U.x rfl rfl rfl rfl (L 7 rfl rfl) (by decide) ?_
              refine U.x rfl rfl rfl rfl (L 8 rfl rfl) (by decide) ?_
              refine U.x rfl rfl rfl rfl (L 9 rfl rfl) (by decide) ?_
              refine U.x rfl rfl rfl rfl (L 10 rfl rfl) (by decide) ?_
              refine U.x rfl rfl rfl rfl (L 11 rfl rfl) (by decide) ?_
              refine U.x rfl rfl rfl rfl (L 12 rfl rfl) (by decide) ?_
              refine U.x rfl rfl rfl rfl (L 13 rfl rfl) (by decide) ?_
              refine U.x rfl rfl rfl rfl (L 14 rfl rfl) (by decide) ?_
              refine U.p rfl rfl (.inl rfl) (S.pickT rfl (L 15 rfl rfl) K) ?_
              refine U.done (Nat.le_of_ble_eq_true rfl) ?_
              refine sqN ?_
              exact ⟨_, V358, rfl, ⟨true, rfl, le359, ow361, h363⟩, (allCons (L 39 rfl rfl) (allCons (L 40 rfl rfl) (allCons (L 41 rfl rfl) (allCons (L 36 rfl rfl) (allCons (L 42 rfl rfl) (allCons (L 43 rfl rfl) (allCons (L 44 rfl rfl) (allCons (L 45 rfl rfl) (allCons (L 0 rfl rfl) allNil)))))))))⟩
            · have h365 := ifF g362 h356
              have k366 : x354 = true := by simpa using g362
              refine U.p rfl rfl (.inr ⟨_, _, _, rfl, rfl, ((L 0 rfl rfl).trans (congrArg Value.bool g362))⟩) (S.move rfl (L 15 rfl rfl)) ?_
              refine U.p rfl rfl (.inr ⟨_, _, _, rfl, rfl, ((L 1 rfl rfl).trans (congrArg Value.bool g362))⟩) (S.move rfl (L 13 rfl rfl)) ?_
              obtain ⟨x367, hx368, h369⟩ := bindS h365
              obtain ⟨_, hv370, _⟩ := ow361.osel (k := 0) rfl hv347 hx368
              refine U.p rfl rfl (.inr ⟨_, _, _, rfl, rfl, ((L 2 rfl rfl).trans (congrArg Value.bool g362))⟩) (S.index rfl ((L 1 rfl rfl).trans hv370) (L 0 rfl rfl) Try.underlying47 ti52 (ix_ge hx368) (ix_lt hx368)) ?_
              obtain ⟨cs371, hv372, hlt373, hr374, hc375⟩ := ow361.osel (k := 0) rfl hv347 hx368
              obtain rfl : cs371 = [.int .i64 x367.e.t, .int .i64 x367.e.act.kind, .int .i64 x367.e.act.at_, .int .i64 x367.e.act.val, .int .i64 x367.e.act.what, .bool x367.e.act.volatile, .bool x367.e.act.final, .int .i64 x367.e.rf, .int .i64 x367.e.id, .int .i64 x367.at_] := hr374
              refine U.k rfl rfl (.inr ⟨_, _, _, rfl, rfl, ((L 3 rfl rfl).trans (congrArg Value.bool g362))⟩) (S.loadN (cs := [.int .i64 x367.e.t, .int .i64 x367.e.act.kind, .int .i64 x367.e.act.at_, .int .i64 x367.e.act.val, .int .i64 x367.e.act.what, .bool x367.e.act.volatile, .bool x367.e.act.final, .int .i64 x367.e.rf, .int .i64 x367.e.id, .int .i64 x367.at_]) rfl (L 0 rfl rfl) Try.underlying52 rfl ti52 rfl hc375) (fun _ => (okH.cons (Or.inl rfl) (okH.cons trivial (okH.nil (fun r h => by cases h; exact hlt373))))) ?_
              obtain ⟨x376, hx377, h378⟩ := bindS h369
              refine O.call (V := V358) rfl rfl (.inr ⟨_, _, _, rfl, rfl, ((L 4 rfl rfl).trans (congrArg Value.bool g362))⟩) rfl en45 (aC (L 0 rfl rfl) aN) (wk_ref21_Writes V358 _ x367 ow361 _ hx377) (fun v379 V380 le381 hp382 => by obtain ⟨rfl, ow383⟩ := hp382; exact (fun _ => (okH.cons (Or.inl rfl) (okH.cons rfl (okH.cons (Or.inl rfl) (okH.nil (fun r h => nomatch h))))))) (fun v379 V380 le381 hp382 => ?_)
              obtain ⟨rfl, ow383⟩ := hp382
              refine U.p rfl rfl (.inr ⟨_, _, _, rfl, rfl, ((L 5 rfl rfl).trans (congrArg Value.bool g362))⟩) (S.not rfl (L 0 rfl rfl)) ?_
              refine U.p rfl rfl (.inl rfl) (S.pickF rfl ((L 6 rfl rfl).trans (congrArg Value.bool g362)) (L 0 rfl rfl)) ?_
              refine U.p rfl rfl (.inl rfl) (S.move rfl (L 0 rfl rfl)) ?_
              refine bcase (b := !x376) (fun g384 => ?_) (fun g384 => ?_)
              · have h385 := ifT g384 h378
                have k386 : x376 = false := by simpa using g384
                refine U.x rfl rfl rfl rfl ((L 0 rfl rfl).trans (congrArg Value.bool g384)) (by decide) ?_
                refine U.x rfl rfl rfl rfl ((L 1 rfl rfl).trans (congrArg Value.bool g384)) (by decide) ?_
                refine U.x rfl rfl rfl rfl ((L 2 rfl rfl).trans (congrArg Value.bool g384)) (by decide) ?_
                refine U.x rfl rfl rfl rfl ((L 3 rfl rfl).trans (congrArg Value.bool g384)) (by decide) ?_
                refine U.x rfl rfl rfl rfl ((L 4 rfl rfl).trans (congrArg Value.bool g384)) (by decide) ?_
                refine U.x rfl rfl rfl rfl ((L 5 rfl rfl).trans (congrArg Value.bool g384)) (by decide) ?_
                refine U.x rfl rfl rfl rfl ((L 6 rfl rfl).trans (congrArg Value.bool g384)) (by decide) ?_
                refine U.x rfl rfl rfl rfl ((L 7 rfl rfl).trans (congrArg Value.bool g384)) (by decide) ?_
                refine U.x rfl rfl rfl rfl ((L 8 rfl rfl).trans (congrArg Value.bool g384)) (by decide) ?_
                refine U.x rfl rfl rfl rfl ((L 9 rfl rfl).trans (congrArg Value.bool g384)) (by decide) ?_
                refine U.x rfl rfl rfl rfl ((L 10 rfl rfl).trans (congrArg Value.bool g384)) (by decide) ?_
                refine U.x rfl rfl rfl rfl ((L 11 rfl rfl).trans (congrArg Value.bool g384)) (by decide) ?_
                refine U.x rfl rfl rfl rfl ((L 12 rfl rfl).trans (congrArg Value.bool g384)) (by decide) ?_
                refine U.x rfl rfl rfl rfl ((L 13 rfl rfl).trans (congrArg Value.bool g384)) (by decide) ?_
                refine U.x rfl rfl rfl rfl ((L 14 rfl rfl).trans (congrArg Value.bool g384)) (by decide) ?_
                refine U.p rfl rfl (.inl rfl) (S.pickT rfl ((L 15 rfl rfl).trans (congrArg Value.bool g384)) K) ?_
                refine U.done (Nat.le_of_ble_eq_true rfl) ?_
                refine sqN ?_
                exact ⟨_, V380, rfl, ⟨true, rfl, (le359.trans le381), ow383, h385⟩, (allCons (L 39 rfl rfl) (allCons (L 40 rfl rfl) (allCons (L 41 rfl rfl) (allCons (L 36 rfl rfl) (allCons (L 42 rfl rfl) (allCons (L 43 rfl rfl) (allCons (L 44 rfl rfl) (allCons (L 45 rfl rfl) (allCons (L 0 rfl rfl) allNil)))))))))⟩
              · have h387 := ifF g384 h378
                have k388 : x376 = true := by simpa using g384
                refine U.p rfl rfl (.inr ⟨_, _, _, rfl, rfl, ((L 0 rfl rfl).trans (congrArg Value.bool g384))⟩) (S.move rfl (L 23 rfl rfl)) ?_
                refine U.p rfl rfl (.inr ⟨_, _, _, rfl, rfl, ((L 1 rfl rfl).trans (congrArg Value.bool g384))⟩) (S.move rfl (L 21 rfl rfl)) ?_
                obtain ⟨x389, hx390, h391⟩ := bindS h387
                obtain ⟨_, hv392, _⟩ := ow383.osel (k := 0) rfl hv347 hx390
                refine U.p rfl rfl (.inr ⟨_, _, _, rfl, rfl, ((L 2 rfl rfl).trans (congrArg Value.bool g384))⟩) (S.index rfl ((L 1 rfl rfl).trans hv392) (L 0 rfl rfl) Try.underlying47 ti52 (ix_ge hx390) (ix_lt hx390)) ?_
                refine U.p (v := .pointer (some ⟨b343, o344 + Int.toNat x39 * 10, none⟩)) rfl rfl (.inr ⟨_, _, _, rfl, rfl, ((L 3 rfl rfl).trans (congrArg Value.bool g384))⟩) (S.fieldAddr rfl (L 0 rfl rfl) Try.underlying52 rfl ti31 rfl rfl) ?_
                refine U.p (v := .pointer (some ⟨b343, o344 + Int.toNat x39 * 10 + 1, none⟩)) rfl rfl (.inr ⟨_, _, _, rfl, rfl, ((L 4 rfl rfl).trans (congrArg Value.bool g384))⟩) (S.fieldAddr rfl (L 0 rfl rfl) Try.underlying31 rfl ti29 rfl rfl) ?_
                refine U.p (v := .pointer (some ⟨b343, o344 + Int.toNat x39 * 10 + 2, none⟩)) rfl rfl (.inr ⟨_, _, _, rfl, rfl, ((L 5 rfl rfl).trans (congrArg Value.bool g384))⟩) (S.fieldAddr rfl (L 0 rfl rfl) Try.underlying29 rfl ti3 rfl rfl) ?_
                obtain ⟨cs393, hv394, hlt395, hr396, hc397⟩ := ow383.osel (k := 0) rfl hv347 hx390
                obtain rfl : cs393 = [.int .i64 x389.e.t, .int .i64 x389.e.act.kind, .int .i64 x389.e.act.at_, .int .i64 x389.e.act.val, .int .i64 x389.e.act.what, .bool x389.e.act.volatile, .bool x389.e.act.final, .int .i64 x389.e.rf, .int .i64 x389.e.id, .int .i64 x389.at_] := hr396
                refine U.k rfl rfl (.inr ⟨_, _, _, rfl, rfl, ((L 6 rfl rfl).trans (congrArg Value.bool g384))⟩) (S.load rfl (L 0 rfl rfl) Try.underlying3 rfl (hc397 2 _ rfl)) (fun _ => (okH.cons (Or.inl rfl) (okH.cons trivial (okH.cons (Or.inl rfl) (okH.cons trivial (okH.nil (fun r h => by cases h; exact hlt395))))))) ?_
                refine U.p rfl rfl (.inr ⟨_, _, _, rfl, rfl, ((L 7 rfl rfl).trans (congrArg Value.bool g384))⟩) (S.move rfl (L 30 rfl rfl)) ?_
                refine U.p rfl rfl (.inr ⟨_, _, _, rfl, rfl, ((L 8 rfl rfl).trans (congrArg Value.bool g384))⟩) (S.move rfl (L 33 rfl rfl)) ?_
                obtain ⟨x398, hx399, h400⟩ := bindS h391
                obtain ⟨_, hv401, _⟩ := ow383.osel (k := 0) rfl hv347 hx399
                refine U.p rfl rfl (.inr ⟨_, _, _, rfl, rfl, ((L 9 rfl rfl).trans (congrArg Value.bool g384))⟩) (S.index rfl ((L 1 rfl rfl).trans hv401) (L 0 rfl rfl) Try.underlying47 ti52 (ix_ge hx399) (ix_lt hx399)) ?_
                refine U.p (v := .pointer (some ⟨b343, o344 + Int.toNat x24 * 10, none⟩)) rfl rfl (.inr ⟨_, _, _, rfl, rfl, ((L 10 rfl rfl).trans (congrArg Value.bool g384))⟩) (S.fieldAddr rfl (L 0 rfl rfl) Try.underlying52 rfl ti31 rfl rfl) ?_
                refine U.p (v := .pointer (some ⟨b343, o344 + Int.toNat x24 * 10 + 1, none⟩)) rfl rfl (.inr ⟨_, _, _, rfl, rfl, ((L 11 rfl rfl).trans (congrArg Value.bool g384))⟩) (S.fieldAddr rfl (L 0 rfl rfl) Try.underlying31 rfl ti29 rfl rfl) ?_
                refine U.p (v := .pointer (some ⟨b343, o344 + Int.toNat x24 * 10 + 2, none⟩)) rfl rfl (.inr ⟨_, _, _, rfl, rfl, ((L 12 rfl rfl).trans (congrArg Value.bool g384))⟩) (S.fieldAddr rfl (L 0 rfl rfl) Try.underlying29 rfl ti3 rfl rfl) ?_
                obtain ⟨cs402, hv403, hlt404, hr405, hc406⟩ := ow383.osel (k := 0) rfl hv347 hx399
                obtain rfl : cs402 = [.int .i64 x398.e.t, .int .i64 x398.e.act.kind, .int .i64 x398.e.act.at_, .int .i64 x398.e.act.val, .int .i64 x398.e.act.what, .bool x398.e.act.volatile, .bool x398.e.act.final, .int .i64 x398.e.rf, .int .i64 x398.e.id, .int .i64 x398.at_] := hr405
                refine U.k rfl rfl (.inr ⟨_, _, _, rfl, rfl, ((L 13 rfl rfl).trans (congrArg Value.bool g384))⟩) (S.load rfl (L 0 rfl rfl) Try.underlying3 rfl (hc406 2 _ rfl)) (fun _ => (okH.cons trivial (okH.cons (Or.inl rfl) (okH.cons trivial (okH.cons (Or.inl rfl) (okH.cons trivial (okH.nil (fun r h => by cases h; exact hlt404)))))))) ?_
                refine U.p rfl rfl (.inr ⟨_, _, _, rfl, rfl, ((L 14 rfl rfl).trans (congrArg Value.bool g384))⟩) (S.neqI rfl (L 7 rfl rfl) (L 0 rfl rfl)) ?_
                refine U.p rfl rfl (.inl rfl) (S.pickF rfl ((L 15 rfl rfl).trans (congrArg Value.bool g384)) (L 0 rfl rfl)) ?_
                refine U.done (Nat.le_of_ble_eq_true rfl) ?_
                refine sqN ?_
                exact ⟨_, V380, rfl, ⟨decide (x389.e.act.at_ ≠ x398.e.act.at_), rfl, (le359.trans le381), ow383, h400⟩, (allCons (L 39 rfl rfl) (allCons (L 40 rfl rfl) (allCons (L 41 rfl rfl) (allCons (L 36 rfl rfl) (allCons (L 42 rfl rfl) (allCons (L 43 rfl rfl) (allCons (L 44 rfl rfl) (allCons (L 45 rfl rfl) (allCons (L 0 rfl rfl) allNil)))))))))⟩
    · have h407 := ifF c50 h49
      refine WP.exit ?_
      refine sqE (sqE (blkE (blkN (sqN ?_))))
      have h408 := exitS h407 e47
      refine WP.ureg rfl ?_
      refine U.p rfl rfl (.inl rfl) (S.add rfl (L 5 rfl rfl) K) ?_
      refine U.p rfl rfl (.inl rfl) (S.move rfl (L 0 rfl rfl)) ?_
      refine U.done (Nat.le_of_ble_eq_true rfl) ?_
      refine sqN ?_
      exact ⟨_, V42, rfl, ⟨m32, Nat.lt_succ_self _, w64 (x24 + 1), rfl, (le30.trans le43), ow44, backS h408 e34⟩, (allCons (L 3 rfl rfl) (allCons (L 4 rfl rfl) (allCons (L 6 rfl rfl) (allCons (L 0 rfl rfl) allNil))))⟩
  · have h409 := ifF c37 h36
    refine WP.exit ?_
    refine sqE (sqE (blkE (sqN ?_)))
    have h410 := exitS h409 e34
    refine WP.usreg rfl ?_
    refine U.p rfl rfl (.inl rfl) (S.assign rfl K) ?_
    refine U.done (Nat.le_of_ble_eq_true rfl) ?_
    refine WP.ret ?_
    refine fin.slot (.inr rfl) rfl (L 0 rfl rfl) ⟨V29, rfl, ((le8.trans le18).trans le30), ?_⟩
    have ow411 := ow31.drop 0 rfl
    have ow412 := ow411.drop 0 rfl
    have e413 := Option.some.inj h410
    subst e413
    exact ⟨rfl, ow412⟩

set_option maxHeartbeats 4000000 in
set_option maxRecDepth 10000 in
theorem wk_order_Run_happens_3 (V : Vw) (Rs : List At) (p0 : List (List TEvent)) (p1 : List Torder_node) (v1 : Value) (v3 : Value) (f2 : Fz (RT.sl RT_TEvent) V v1 p0) (ow : Ow V (.os RT_Torder_node v3 p1 :: Rs)) (r : List (List Bool)) (h : order_Run_happens_3 p0 p1 = some r) : ∃ v V', Cl Try.prog 0 37 #[v1, v3] V.H v V'.H ∧ V.le V' ∧ (∃ (v5 : Value) (hs6 : List Value), v = v5 ∧ Ow V' (.oss (RO.os RT.bool) v5 hs6 r :: .os RT_Torder_node v3 p1 :: Rs)) := by
  refine Ct.of (Nat.zero_le _) Try.func37 rfl (Nat.le_of_ble_eq_true rfl) ?_
  unfold order_Run_happens_3 at h
  refine WP.usreg rfl ?_
  refine U.p rfl rfl (.inl rfl) (S.assign rfl K) ?_
  refine U.done (Nat.le_of_ble_eq_true rfl) ?_
  refine WP.usreg rfl ?_
  refine U.p rfl rfl (.inl rfl) (S.move rfl (L 2 rfl rfl)) ?_
  refine O.lit (R := (RT.fn fnt46)) ow rfl rfl (.inl rfl) rfl Try.underlying66 ti46 rfl rfl rfl (Nat.le_of_ble_eq_true rfl) rfl (aC Fu (aC Fu aN)) (.cons _ _ 1 _ (by simp [topV]) ⟨_, rfl, rfl, _, rfl⟩ (.cons _ _ 5 _ (by simp [topV]) ⟨_, rfl, rfl, _, rfl⟩ .nil)) (fun _ => nd) (fun v8 V9 le10 ow11 => ?_)
  have ow13 := ow11.pick 1 rfl
  obtain ⟨x14, hx15, h16⟩ := bindS h
  refine O.call (V := V9) rfl rfl (.inl rfl) rfl en25 (aC (L 1 rfl rfl) (aC (L 0 rfl rfl) aN)) (wk_order_join V9 _ p1 [1, 5] v3 v8 ow13 _ hx15) (fun _ _ _ _ => nd) (fun v17 V18 le19 hp20 => ?_)
  obtain ⟨_, hs23, rfl, ow21⟩ := hp20
  obtain ⟨x25, hx26, h27⟩ := bindS h16
  refine O.call (V := V18) rfl rfl (.inl rfl) rfl en55 (aC (L 0 rfl rfl) aN) (wk_order_graph_closed V18 _ x14 v17 hs23 ow21 _ hx26) (fun _ _ _ _ => nd) (fun v28 V29 le30 hp31 => ?_)
  obtain ⟨_, hs34, rfl, ow32⟩ := hp31
  refine U.p rfl rfl (.inl rfl) (S.assign rfl (L 0 rfl rfl)) ?_
  refine U.done (Nat.le_of_ble_eq_true rfl) ?_
  refine WP.ret ?_
  refine fin.slot (.inr rfl) rfl (L 0 rfl rfl) ⟨V29, rfl, ((le10.trans le19).trans le30), ?_⟩
  have ow36 := ow32.drop 1 rfl
  have ow37 := ow36.drop 2 rfl
  have e38 := Option.some.inj h27
  subst e38
  exact ⟨v28, hs34, rfl, ow37⟩

set_option maxHeartbeats 4000000 in
set_option maxRecDepth 10000 in
theorem wk_order_Run_Racy_2 (V : Vw) (Rs : List At) (p0 : List (List TEvent)) (v1 : Value) (f2 : Fz (RT.sl RT_TEvent) V v1 p0) (ow : Ow V (Rs)) (r : Bool) (h : order_Run_Racy_2 p0 = some r) : ∃ v V', Cl Try.prog 0 17 #[v1] V.H v V'.H ∧ V.le V' ∧ (v = .bool r ∧ Ow V' (Rs)) := by
  refine Ct.of (Nat.zero_le _) Try.func17 rfl (Nat.le_of_ble_eq_true rfl) ?_
  unfold order_Run_Racy_2 at h
  refine WP.usreg rfl ?_
  refine U.p rfl rfl (.inl rfl) (S.assign rfl K) ?_
  refine U.done (Nat.le_of_ble_eq_true rfl) ?_
  refine WP.usreg rfl ?_
  refine U.p rfl rfl (.inl rfl) (S.move rfl (L 1 rfl rfl)) ?_
  obtain ⟨x3, hx4, h5⟩ := bindS h
  refine O.call (V := V) rfl rfl (.inl rfl) rfl en23 (aC (L 0 rfl rfl) (aC Fu aN)) (wk_order_Run_nodes_2 V _ p0 v1 f2 ow _ hx4) (fun _ _ _ _ => nd) (fun v6 V7 le8 hp9 => ?_)
  obtain ⟨_, rfl, ow10⟩ := hp9
  refine U.p rfl rfl (.inl rfl) (S.assign rfl (L 0 rfl rfl)) ?_
  refine U.done (Nat.le_of_ble_eq_true rfl) ?_
  refine WP.usreg rfl ?_
  refine U.p rfl rfl (.inl rfl) (S.move rfl (L 4 rfl rfl)) ?_
  refine U.p rfl rfl (.inl rfl) (S.move rfl (L 1 rfl rfl)) ?_
  have f13 := f2.up le8
  obtain ⟨x14, hx15, h16⟩ := bindS h5
  refine O.call (V := V7) rfl rfl (.inl rfl) rfl en37 (aC (L 1 rfl rfl) (aC (L 0 rfl rfl) aN)) (wk_order_Run_happens_3 V7 _ p0 x3 v1 v6 f13 ow10 _ hx15) (fun _ _ _ _ => nd) (fun v17 V18 le19 hp20 => ?_)
  obtain ⟨_, hs23, rfl, ow21⟩ := hp20
  refine U.p rfl rfl (.inl rfl) (S.assign rfl (L 0 rfl rfl)) ?_
  refine U.done (Nat.le_of_ble_eq_true rfl) ?_
  refine WP.seq ?_
  refine WP.usreg rfl ?_
  refine U.p rfl rfl (.inl rfl) (S.move rfl (L 4 rfl rfl)) ?_
  refine U.p rfl rfl (.inl rfl) (ow21.oslen (k := 1) rfl rfl (L 0 rfl rfl) Try.underlying38) ?_
  refine U.p rfl rfl (.inl rfl) (S.move rfl K) ?_
  refine U.done (Nat.le_of_ble_eq_true rfl) ?_
  refine WP.blk ?_
  obtain ⟨V32, eV36, le33, f34, ow35⟩ := ow21.osfz (k := 1) rfl
  rw [← eV36]
  unfold order_Run_Racy_2_l1 at h16
  obtain ⟨n39, hn38⟩ := loopO_some.1 h16
  refine WP.loopI2 (fun n l V' => ∃ (xs25 : List Torder_node) (v26 : Value) (xs28 : List Torder_node) (v29 : Value) (x31 : Int), l = [(3, v26), (4, v17), (15, v29), (16, .int .i64 (x3.length : Int)), (17, .int .i64 x31)] ∧ V32.le V' ∧ Fz RT_Torder_node V' v26 xs25 ∧ Fz RT_Torder_node V' v29 xs28 ∧ Ow V' (.oss (RO.os RT.bool) v17 hs23 x14 :: Rs) ∧ itO (fun s => order_Run_Racy_2_l1b x3 x14 s.1 s.2.1 s.2.2) n (xs25, xs28, x31) = some r) n39 _ ⟨x3, v6, x3, v6, 0, rfl, .refl _, f34, f34, ow35, hn38⟩ (allCons (L 7 rfl rfl) (allCons (L 3 rfl rfl) (allCons (L 2 rfl rfl) (allCons (L 1 rfl rfl) (allCons (L 0 rfl rfl) allNil))))) ?_
  rintro _ _ V40 ⟨xs25, v26, xs28, v29, x31, rfl, le41, f27, f30, ow42, h46⟩
  obtain ⟨m43, q44, rfl, h47, e45⟩ := itS h46
  replace h47 : order_Run_Racy_2_l1b x3 x14 xs25 xs28 x31 = some q44 := h47
  unfold order_Run_Racy_2_l1b at h47
  refine WP.usreg rfl ?_
  refine U.p rfl rfl (.inl rfl) (S.lss rfl (L 4 rfl rfl) (L 3 rfl rfl)) ?_
  refine U.done (Nat.le_of_ble_eq_true rfl) ?_
  refine WP.seq ?_
  refine WP.cond _ (L 0 rfl rfl) rfl (fun c48 => ?_) (fun c48 => ?_)
  · have h49 := ifT c48 h47
    refine WP.skip ?_
    refine sqN ?_
    refine WP.seq ?_
    refine WP.blk ?_
    refine WP.usreg rfl ?_
    refine U.p rfl rfl (.inl rfl) (S.move rfl (L 5 rfl rfl)) ?_
    obtain ⟨x50, hx51, h52⟩ := bindS h49
    obtain ⟨b53, o54, c55, cs56, hv57, hf58, hr59, hc60⟩ := f30.at hx51
    obtain rfl : cs56 = [.int .i64 x50.e.t, .int .i64 x50.e.act.kind, .int .i64 x50.e.act.at_, .int .i64 x50.e.act.val, .int .i64 x50.e.act.what, .bool x50.e.act.volatile, .bool x50.e.act.final, .int .i64 x50.e.rf, .int .i64 x50.e.id, .int .i64 x50.at_] := hr59
    refine U.p rfl rfl (.inl rfl) (S.index rfl ((L 4 rfl rfl).trans hv57) (L 6 rfl rfl) Try.underlying38 ti45 (ix_ge hx51) (ix_lt hx51)) ?_
    refine U.k rfl rfl (.inl rfl) (S.loadN (cs := [.int .i64 x50.e.t, .int .i64 x50.e.act.kind, .int .i64 x50.e.act.at_, .int .i64 x50.e.act.val, .int .i64 x50.e.act.what, .bool x50.e.act.volatile, .bool x50.e.act.final, .int .i64 x50.e.rf, .int .i64 x50.e.id, .int .i64 x50.at_]) rfl (L 0 rfl rfl) Try.underlying45 rfl ti45 rfl (fun j v hj => hc60 j v hj)) nd ?_
    refine O.alloc ow42 rfl rfl (.inl rfl) rfl ti45 rfl rfl nd (fun b61 V62 le63 ow64 => ?_)
    refine U.p rfl rfl (.inl rfl) (S.assign rfl (L 3 rfl rfl)) ?_
    refine O.store (k := 0) (cs := [.int .i64 x50.e.t, .int .i64 x50.e.act.kind, .int .i64 x50.e.act.at_, .int .i64 x50.e.act.val, .int .i64 x50.e.act.what, .bool x50.e.act.volatile, .bool x50.e.act.final, .int .i64 x50.e.rf, .int .i64 x50.e.id, .int .i64 x50.at_]) (c' := [.int .i64 x50.e.t, .int .i64 x50.e.act.kind, .int .i64 x50.e.act.at_, .int .i64 x50.e.act.val, .int .i64 x50.e.act.what, .bool x50.e.act.volatile, .bool x50.e.act.final, .int .i64 x50.e.rf, .int .i64 x50.e.id, .int .i64 x50.at_]) ow64 rfl rfl rfl (.inl rfl) rfl (L 1 rfl rfl) (L 2 rfl rfl) ti45 (by simp [topV]) rfl rfl (Nat.le_of_ble_eq_true rfl) rfl rfl nd (fun V66 le67 ow68 => ?_)
    refine U.done (Nat.le_of_ble_eq_true rfl) ?_
    refine WP.usreg rfl ?_
    refine U.p rfl rfl (.inl rfl) (S.move rfl (L 6 rfl rfl)) ?_
    refine U.p rfl rfl (.inl rfl) (S.move rfl (L 1 rfl rfl)) ?_
    have f69 := f27.up (le63.trans le67)
    obtain ⟨xs70, hx71, h72⟩ := bindS h52
    refine O.subF f69 hx71 rfl rfl (.inl rfl) rfl (L 1 rfl rfl) Try.underlying38 ti45 ⟨.inl ⟨rfl, rfl⟩, .inr ⟨_, _, rfl, (L 0 rfl rfl)⟩, .inl rfl⟩ (fun v73 f75 => ?_)
    refine U.p rfl rfl (.inl rfl) (f75.1.len rfl (L 0 rfl rfl) Try.underlying38) ?_
    refine U.p rfl rfl (.inl rfl) (S.move rfl K) ?_
    refine U.done (Nat.le_of_ble_eq_true rfl) ?_
    refine WP.blk ?_
    have ow77 := ow68.pick 0 rfl
    have ow78 := ow77.pick 1 rfl
    unfold order_Run_Racy_2_l2 at h72
    obtain ⟨n80, hn79⟩ := loopO_some.1 h72
    refine WP.loopI2 (fun n l V' => ∃ (x76 : Int), l = [(3, v26), (4, v17), (5, .int .i64 x31), (6, .pointer (some ⟨b61, 0, none⟩)), (15, v29), (16, .int .i64 (x3.length : Int)), (17, .int .i64 x31), (24, v73), (25, .int .i64 (xs70.length : Int)), (26, .int .i64 x76)] ∧ V66.le V' ∧ Ow V' (.oss (RO.os RT.bool) v17 hs23 x14 :: .pt b61 (.cells 10 [.int .i64 x50.e.t, .int .i64 x50.e.act.kind, .int .i64 x50.e.act.at_, .int .i64 x50.e.act.val, .int .i64 x50.e.act.what, .bool x50.e.act.volatile, .bool x50.e.act.final, .int .i64 x50.e.rf, .int .i64 x50.e.id, .int .i64 x50.at_]) :: Rs) ∧ itO (fun s => order_Run_Racy_2_l2b x14 xs25 xs28 x31 x50 xs70 s) n x76 = some q44) n80 _ ⟨0, rfl, .refl _, ow78, hn79⟩ (allCons (L 11 rfl rfl) (allCons (L 12 rfl rfl) (allCons (L 5 rfl rfl) (allCons (L 6 rfl rfl) (allCons (L 13 rfl rfl) (allCons (L 14 rfl rfl) (allCons (L 15 rfl rfl) (allCons (L 2 rfl rfl) (allCons (L 1 rfl rfl) (allCons (L 0 rfl rfl) allNil)))))))))) ?_
    rintro _ _ V81 ⟨x76, rfl, le82, ow83, h87⟩
    obtain ⟨m84, q85, rfl, h88, e86⟩ := itS h87
    replace h88 : order_Run_Racy_2_l2b x14 xs25 xs28 x31 x50 xs70 x76 = some q85 := h88
    unfold order_Run_Racy_2_l2b at h88
    refine WP.usreg rfl ?_
    refine U.p rfl rfl (.inl rfl) (S.lss rfl (L 9 rfl rfl) (L 8 rfl rfl)) ?_
    refine U.done (Nat.le_of_ble_eq_true rfl) ?_
    refine WP.seq ?_
    refine WP.cond _ (L 0 rfl rfl) rfl (fun c89 => ?_) (fun c89 => ?_)
    · have h90 := ifT c89 h88
      refine WP.skip ?_
      refine sqN ?_
      refine WP.seq ?_
      refine WP.blk ?_
      refine WP.usreg rfl ?_
      refine U.p rfl rfl (.inl rfl) (S.move rfl (L 10 rfl rfl)) ?_
      obtain ⟨x91, hx92, h93⟩ := bindS h90
      obtain ⟨b94, o95, c96, cs97, hv98, hf99, hr100, hc101⟩ := f75.at hx92
      obtain rfl : cs97 = [.int .i64 x91.e.t, .int .i64 x91.e.act.kind, .int .i64 x91.e.act.at_, .int .i64 x91.e.act.val, .int .i64 x91.e.act.what, .bool x91.e.act.volatile, .bool x91.e.act.final, .int .i64 x91.e.rf, .int .i64 x91.e.id, .int .i64 x91.at_] := hr100
      refine U.p rfl rfl (.inl rfl) (S.index rfl ((L 9 rfl rfl).trans hv98) (L 11 rfl rfl) Try.underlying38 ti45 (ix_ge hx92) (ix_lt hx92)) ?_
      refine U.k rfl rfl (.inl rfl) (S.loadN (cs := [.int .i64 x91.e.t, .int .i64 x91.e.act.kind, .int .i64 x91.e.act.at_, .int .i64 x91.e.act.val, .int .i64 x91.e.act.what, .bool x91.e.act.volatile, .bool x91.e.act.final, .int .i64 x91.e.rf, .int .i64 x91.e.id, .int .i64 x91.at_]) rfl (L 0 rfl rfl) Try.underlying45 rfl ti45 rfl (fun j v hj => le82.cell hf99 (hc101 j v hj))) nd ?_
      refine O.alloc ow83 rfl rfl (.inl rfl) rfl ti45 rfl rfl nd (fun b102 V103 le104 ow105 => ?_)
      refine U.p rfl rfl (.inl rfl) (S.assign rfl (L 3 rfl rfl)) ?_
      refine O.store (k := 0) (cs := [.int .i64 x91.e.t, .int .i64 x91.e.act.kind, .int .i64 x91.e.act.at_, .int .i64 x91.e.act.val, .int .i64 x91.e.act.what, .bool x91.e.act.volatile, .bool x91.e.act.final, .int .i64 x91.e.rf, .int .i64 x91.e.id, .int .i64 x91.at_]) (c' := [.int .i64 x91.e.t, .int .i64 x91.e.act.kind, .int .i64 x91.e.act.at_, .int .i64 x91.e.act.val, .int .i64 x91.e.act.what, .bool x91.e.act.volatile, .bool x91.e.act.final, .int .i64 x91.e.rf, .int .i64 x91.e.id, .int .i64 x91.at_]) ow105 rfl rfl rfl (.inl rfl) rfl (L 1 rfl rfl) (L 2 rfl rfl) ti45 (by simp [topV]) rfl rfl (Nat.le_of_ble_eq_true rfl) rfl rfl nd (fun V107 le108 ow109 => ?_)
      refine U.done (Nat.le_of_ble_eq_true rfl) ?_
      refine WP.usreg rfl ?_
      refine U.p (v := .pointer (some ⟨b61, 0, none⟩)) rfl rfl (.inl rfl) (S.fieldAddr rfl (L 9 rfl rfl) Try.underlying45 rfl ti31 rfl rfl) ?_
      refine U.p (v := .pointer (some ⟨b61, 1, none⟩)) rfl rfl (.inl rfl) (S.fieldAddr rfl (L 0 rfl rfl) Try.underlying31 rfl ti29 rfl rfl) ?_
      refine U.k rfl rfl (.inl rfl) (S.loadN (cs := [.int .i64 x50.e.act.kind, .int .i64 x50.e.act.at_, .int .i64 x50.e.act.val, .int .i64 x50.e.act.what, .bool x50.e.act.volatile, .bool x50.e.act.final]) rfl (L 0 rfl rfl) Try.underlying29 rfl ti29 rfl (cellsOfOwn (ow109.own (k := 2) rfl) 1 rfl)) nd ?_
      obtain ⟨x110, hx111, h112⟩ := bindS h93
      refine O.call (V := V107) rfl rfl (.inl rfl) rfl en36 (aC (L 0 rfl rfl) aN) (wk_order_syncs V107 _ x50.e.act ow109 _ hx111) (fun _ _ _ _ => nd) (fun v113 V114 le115 hp116 => ?_)
      obtain ⟨rfl, ow117⟩ := hp116
      refine U.p rfl rfl (.inl rfl) (S.not rfl (L 0 rfl rfl)) ?_
      refine U.p rfl rfl (.inl rfl) (S.move rfl (L 0 rfl rfl)) ?_
      obtain ⟨y118, hy119, h120⟩ := bindS h112
      refine U.joinX 12 (fun e H => ∃ (u121 u122 u123 u124 u125 : Value), ∃ V' : Vw, H = V'.H ∧ V114.le V' ∧ e = [(42, .bool y118), (41, u121), (40, u122), (39, u123), (38, u124), (37, u125)] ∧ Ow V' (.pt b102 (.cells 10 [.int .i64 x91.e.t, .int .i64 x91.e.act.kind, .int .i64 x91.e.act.at_, .int .i64 x91.e.act.val, .int .i64 x91.e.act.what, .bool x91.e.act.volatile, .bool x91.e.act.final, .int .i64 x91.e.rf, .int .i64 x91.e.id, .int .i64 x91.at_]) :: .oss (RO.os RT.bool) v17 hs23 x14 :: .pt b61 (.cells 10 [.int .i64 x50.e.t, .int .i64 x50.e.act.kind, .int .i64 x50.e.act.at_, .int .i64 x50.e.act.val, .int .i64 x50.e.act.what, .bool x50.e.act.volatile, .bool x50.e.act.final, .int .i64 x50.e.rf, .int .i64 x50.e.id, .int .i64 x50.at_]) :: Rs)) ?_ ?_
      · rintro _ _ ⟨u121, u122, u123, u124, u125, V126, rfl, le127, rfl, ow128⟩
        refine U.p rfl rfl (.inl rfl) (S.assign rfl (L 0 rfl rfl)) ?_
        refine U.done (Nat.le_of_ble_eq_true rfl) ?_
        refine WP.usreg rfl ?_
        refine U.p rfl rfl (.inl rfl) (S.move rfl (L 0 rfl rfl)) ?_
        refine U.p rfl rfl (.inl rfl) (S.move rfl (L 0 rfl rfl)) ?_
        refine U.joinX 10 (fun e H => ∃ (u129 u130 u131 u132 u133 u134 u135 : Value), H = V126.H ∧ e = [(52, .bool (y118 && (decide (x50.e.t ≠ x91.e.t)))), (51, u129), (50, u130), (49, u131), (48, u132), (47, u133), (46, u134), (45, u135)]) ?_ ?_
        · rintro _ _ ⟨u129, u130, u131, u132, u133, u134, u135, rfl, rfl⟩
          refine U.p rfl rfl (.inl rfl) (S.move rfl (L 0 rfl rfl)) ?_
          refine U.joinX 21 (fun e H => ∃ (u139 u140 u141 u142 u143 u144 u145 u146 u147 : Value), H = V126.H ∧ e = [(63, .bool ((y118 && (decide (x50.e.t ≠ x91.e.t))) && (decide (x50.e.act.at_ = x91.e.act.at_)))), (62, u139), (61, u140), (60, u141), (59, u142), (58, u143), (57, u144), (56, u145), (55, u146), (54, u147)]) ?_ ?_
          · rintro _ _ ⟨u139, u140, u141, u142, u143, u144, u145, u146, u147, rfl, rfl⟩
            refine U.p rfl rfl (.inl rfl) (S.move rfl (L 0 rfl rfl)) ?_
            obtain ⟨y151, hy152, h153⟩ := bindS h120
            refine U.joinX 33 (fun e H => ∃ (u154 u155 u156 u157 u158 u159 u160 u161 u162 u163 : Value), ∃ V' : Vw, H = V'.H ∧ V126.le V' ∧ e = [(75, .bool y151), (74, u154), (73, u155), (72, u156), (71, u157), (70, u158), (69, u159), (68, u160), (67, u161), (66, u162), (65, u163)] ∧ Ow V' (.pt b102 (.cells 10 [.int .i64 x91.e.t, .int .i64 x91.e.act.kind, .int .i64 x91.e.act.at_, .int .i64 x91.e.act.val, .int .i64 x91.e.act.what, .bool x91.e.act.volatile, .bool x91.e.act.final, .int .i64 x91.e.rf, .int .i64 x91.e.id, .int .i64 x91.at_]) :: .oss (RO.os RT.bool) v17 hs23 x14 :: .pt b61 (.cells 10 [.int .i64 x50.e.t, .int .i64 x50.e.act.kind, .int .i64 x50.e.act.at_, .int .i64 x50.e.act.val, .int .i64 x50.e.act.what, .bool x50.e.act.volatile, .bool x50.e.act.final, .int .i64 x50.e.rf, .int .i64 x50.e.id, .int .i64 x50.at_]) :: Rs)) ?_ ?_
            · rintro _ _ ⟨u154, u155, u156, u157, u158, u159, u160, u161, u162, u163, V164, rfl, le165, rfl, ow166⟩
              refine U.p rfl rfl (.inl rfl) (S.move rfl (L 0 rfl rfl)) ?_
              obtain ⟨y167, hy168, h169⟩ := bindS h153
              refine U.joinX 43 (fun e H => ∃ (u170 u171 u172 u173 u174 u175 u176 u177 : Value), H = V164.H ∧ e = [(85, .bool y167), (84, u170), (83, u171), (82, u172), (81, u173), (80, u174), (79, u175), (78, u176), (77, u177)]) ?_ ?_
              · rintro _ _ ⟨u170, u171, u172, u173, u174, u175, u176, u177, rfl, rfl⟩
                refine U.p rfl rfl (.inl rfl) (S.move rfl (L 0 rfl rfl)) ?_
                obtain ⟨y181, hy182, h183⟩ := bindS h169
                refine U.joinX 53 (fun e H => ∃ (u184 u185 u186 u187 u188 u189 u190 u191 : Value), H = V164.H ∧ e = [(95, .bool y181), (94, u184), (93, u185), (92, u186), (91, u187), (90, u188), (89, u189), (88, u190), (87, u191)]) ?_ ?_
                · rintro _ _ ⟨u184, u185, u186, u187, u188, u189, u190, u191, rfl, rfl⟩
                  refine U.done (Nat.le_of_ble_eq_true rfl) ?_
                  refine WP.cond _ (L 0 rfl rfl) rfl (fun c195 => ?_) (fun c195 => ?_)
                  · have h196 := ifT c195 h183
                    refine WP.usreg rfl ?_
                    refine U.p rfl rfl (.inl rfl) (S.assign rfl K) ?_
                    refine U.done (Nat.le_of_ble_eq_true rfl) ?_
                    refine WP.ret ?_
                    refine blkR (sqR (sqR (blkR (blkR (sqR (sqR (blkR (sqR ?_))))))))
                    have h197 := exitS h196 e86
                    have h198 := exitS h197 e45
                    refine fin.slot (.inr rfl) rfl (L 0 rfl rfl) ⟨V164, rfl, (((((((((((le8.trans le19).trans le33).trans le41).trans le63).trans le67).trans le82).trans le104).trans le108).trans le115).trans le127).trans le165), ?_⟩
                    have ow199 := ow166.drop 0 rfl
                    have ow200 := ow199.drop 0 rfl
                    have ow201 := ow200.drop 0 rfl
                    have e202 := Option.some.inj h198
                    subst e202
                    exact ⟨rfl, ow201⟩
                  · have h203 := ifF c195 h183
                    refine WP.skip ?_
                    refine blkN (sqN ?_)
                    refine WP.ureg rfl ?_
                    refine U.p rfl rfl (.inl rfl) (S.add rfl (L 81 rfl rfl) K) ?_
                    refine U.p rfl rfl (.inl rfl) (S.move rfl (L 0 rfl rfl)) ?_
                    refine U.done (Nat.le_of_ble_eq_true rfl) ?_
                    refine sqN ?_
                    have ow204 := ow166.drop 0 rfl
                    exact ⟨_, V164, rfl, ⟨m84, Nat.lt_succ_self _, w64 (x76 + 1), rfl, (((((le82.trans le104).trans le108).trans le115).trans le127).trans le165), ow204, backS h203 e86⟩, (allCons (L 74 rfl rfl) (allCons (L 75 rfl rfl) (allCons (L 76 rfl rfl) (allCons (L 77 rfl rfl) (allCons (L 78 rfl rfl) (allCons (L 79 rfl rfl) (allCons (L 80 rfl rfl) (allCons (L 81 rfl rfl) (allCons (L 82 rfl rfl) (allCons (L 0 rfl rfl) allNil))))))))))⟩
                · intro kk
                  refine bcase (b := y167) (fun g205 => ?_) (fun g205 => ?_)
                  · have h206 := ifT g205 hy182
                    refine U.p rfl rfl (.inr ⟨_, _, _, rfl, rfl, ((L 0 rfl rfl).trans (congrArg Value.bool g205))⟩) (S.move rfl (L 64 rfl rfl)) ?_
                    refine U.p rfl rfl (.inr ⟨_, _, _, rfl, rfl, ((L 1 rfl rfl).trans (congrArg Value.bool g205))⟩) (S.move rfl (L 58 rfl rfl)) ?_
                    obtain ⟨x207, hx208, h209⟩ := bindS h206
                    obtain ⟨b210, o211, n212, c213, hv214⟩ := ow166.sspt (k := 1) rfl hx208
                    refine U.p rfl rfl (.inr ⟨_, _, _, rfl, rfl, ((L 2 rfl rfl).trans (congrArg Value.bool g205))⟩) (S.index rfl ((L 1 rfl rfl).trans (ow166.sslen' (k := 1) rfl hv214)) (L 0 rfl rfl) Try.underlying42 ti53 (ix_ge hx208) (ix_lt hx208)) ?_
                    obtain ⟨h215, hh216, ow217⟩ := ow166.ssopen (k := 1) rfl hx208
                    have hcl219 := ow217.shcell (k := 2) rfl hv214 hh216
                    refine U.k rfl rfl (.inr ⟨_, _, _, rfl, rfl, ((L 3 rfl rfl).trans (congrArg Value.bool g205))⟩) (S.load rfl (L 0 rfl rfl) Try.underlying53 rfl hcl219.2) nd ?_
                    refine U.p rfl rfl (.inr ⟨_, _, _, rfl, rfl, ((L 4 rfl rfl).trans (congrArg Value.bool g205))⟩) (S.move rfl (L 69 rfl rfl)) ?_
                    obtain ⟨x220, hx221, h222⟩ := bindS h209
                    obtain ⟨b223, o224, n225, c226, hv227⟩ := ow217.ospt (k := 0) rfl hx221
                    obtain ⟨_, hv228, _⟩ := ow217.osel (k := 0) rfl hv227 hx221
                    refine U.p rfl rfl (.inr ⟨_, _, _, rfl, rfl, ((L 5 rfl rfl).trans (congrArg Value.bool g205))⟩) (S.index rfl ((L 1 rfl rfl).trans hv228) (L 0 rfl rfl) Try.underlying53 ti4 (ix_ge hx221) (ix_lt hx221)) ?_
                    obtain ⟨cs229, hv230, hlt231, hr232, hc233⟩ := ow217.osel (k := 0) rfl hv227 hx221
                    obtain rfl : cs229 = [.bool x220] := hr232
                    refine U.k rfl rfl (.inr ⟨_, _, _, rfl, rfl, ((L 6 rfl rfl).trans (congrArg Value.bool g205))⟩) (S.load rfl (L 0 rfl rfl) Try.underlying4 rfl (hc233 0 _ rfl)) nd ?_
                    refine U.p rfl rfl (.inr ⟨_, _, _, rfl, rfl, ((L 7 rfl rfl).trans (congrArg Value.bool g205))⟩) (S.not rfl (L 0 rfl rfl)) ?_
                    refine U.p rfl rfl (.inl rfl) (S.pickT rfl ((L 8 rfl rfl).trans (congrArg Value.bool g205)) (L 0 rfl rfl)) ?_
                    have ow234 := ow217.ssclose' (k := 2) (j := 0) rfl rfl (by decide) hh216 hx208
                    have e235 := Option.some.inj h222
                    subst e235
                    exact kk [(95, .bool (!x220)), (94, .bool (!x220)), (93, .bool x220), (92, .pointer (some ⟨b223, o224 + Int.toNat x31 * 1, none⟩)), (91, .int .i64 x31), (90, h215), (89, .pointer (some ⟨b210, o211 + Int.toNat x76 * 1, none⟩)), (88, .int .i64 x76), (87, v17)] _ ⟨.bool (!x220), .bool x220, .pointer (some ⟨b223, o224 + Int.toNat x31 * 1, none⟩), .int .i64 x31, h215, .pointer (some ⟨b210, o211 + Int.toNat x76 * 1, none⟩), .int .i64 x76, v17, rfl, rfl⟩
                  · have h236 := ifF g205 hy182
                    refine U.x rfl rfl rfl rfl ((L 0 rfl rfl).trans (congrArg Value.bool g205)) (by decide) ?_
                    refine U.x rfl rfl rfl rfl ((L 1 rfl rfl).trans (congrArg Value.bool g205)) (by decide) ?_
                    refine U.x rfl rfl rfl rfl ((L 2 rfl rfl).trans (congrArg Value.bool g205)) (by decide) ?_
                    refine U.x rfl rfl rfl rfl ((L 3 rfl rfl).trans (congrArg Value.bool g205)) (by decide) ?_
                    refine U.x rfl rfl rfl rfl ((L 4 rfl rfl).trans (congrArg Value.bool g205)) (by decide) ?_
                    refine U.x rfl rfl rfl rfl ((L 5 rfl rfl).trans (congrArg Value.bool g205)) (by decide) ?_
                    refine U.x rfl rfl rfl rfl ((L 6 rfl rfl).trans (congrArg Value.bool g205)) (by decide) ?_
                    refine U.x rfl rfl rfl rfl ((L 7 rfl rfl).trans (congrArg Value.bool g205)) (by decide) ?_
                    refine U.p rfl rfl (.inl rfl) (S.pickF rfl ((L 8 rfl rfl).trans (congrArg Value.bool g205)) K) ?_
                    have e237 := Option.some.inj h236
                    subst e237
                    exact kk [(95, .bool false), (94, .tuple #[]), (93, .tuple #[]), (92, .tuple #[]), (91, .tuple #[]), (90, .tuple #[]), (89, .tuple #[]), (88, .tuple #[]), (87, .tuple #[])] _ ⟨.tuple #[], .tuple #[], .tuple #[], .tuple #[], .tuple #[], .tuple #[], .tuple #[], .tuple #[], rfl, rfl⟩
              · intro kk
                refine bcase (b := y151) (fun g238 => ?_) (fun g238 => ?_)
                · have h239 := ifT g238 hy168
                  refine U.p rfl rfl (.inr ⟨_, _, _, rfl, rfl, ((L 0 rfl rfl).trans (congrArg Value.bool g238))⟩) (S.move rfl (L 54 rfl rfl)) ?_
                  refine U.p rfl rfl (.inr ⟨_, _, _, rfl, rfl, ((L 1 rfl rfl).trans (congrArg Value.bool g238))⟩) (S.move rfl (L 56 rfl rfl)) ?_
                  obtain ⟨x240, hx241, h242⟩ := bindS h239
                  obtain ⟨b243, o244, n245, c246, hv247⟩ := ow166.sspt (k := 1) rfl hx241
                  refine U.p rfl rfl (.inr ⟨_, _, _, rfl, rfl, ((L 2 rfl rfl).trans (congrArg Value.bool g238))⟩) (S.index rfl ((L 1 rfl rfl).trans (ow166.sslen' (k := 1) rfl hv247)) (L 0 rfl rfl) Try.underlying42 ti53 (ix_ge hx241) (ix_lt hx241)) ?_
                  obtain ⟨h248, hh249, ow250⟩ := ow166.ssopen (k := 1) rfl hx241
                  have hcl252 := ow250.shcell (k := 2) rfl hv247 hh249
                  refine U.k rfl rfl (.inr ⟨_, _, _, rfl, rfl, ((L 3 rfl rfl).trans (congrArg Value.bool g238))⟩) (S.load rfl (L 0 rfl rfl) Try.underlying53 rfl hcl252.2) nd ?_
                  refine U.p rfl rfl (.inr ⟨_, _, _, rfl, rfl, ((L 4 rfl rfl).trans (congrArg Value.bool g238))⟩) (S.move rfl (L 51 rfl rfl)) ?_
                  obtain ⟨x253, hx254, h255⟩ := bindS h242
                  obtain ⟨b256, o257, n258, c259, hv260⟩ := ow250.ospt (k := 0) rfl hx254
                  obtain ⟨_, hv261, _⟩ := ow250.osel (k := 0) rfl hv260 hx254
                  refine U.p rfl rfl (.inr ⟨_, _, _, rfl, rfl, ((L 5 rfl rfl).trans (congrArg Value.bool g238))⟩) (S.index rfl ((L 1 rfl rfl).trans hv261) (L 0 rfl rfl) Try.underlying53 ti4 (ix_ge hx254) (ix_lt hx254)) ?_
                  obtain ⟨cs262, hv263, hlt264, hr265, hc266⟩ := ow250.osel (k := 0) rfl hv260 hx254
                  obtain rfl : cs262 = [.bool x253] := hr265
                  refine U.k rfl rfl (.inr ⟨_, _, _, rfl, rfl, ((L 6 rfl rfl).trans (congrArg Value.bool g238))⟩) (S.load rfl (L 0 rfl rfl) Try.underlying4 rfl (hc266 0 _ rfl)) nd ?_
                  refine U.p rfl rfl (.inr ⟨_, _, _, rfl, rfl, ((L 7 rfl rfl).trans (congrArg Value.bool g238))⟩) (S.not rfl (L 0 rfl rfl)) ?_
                  refine U.p rfl rfl (.inl rfl) (S.pickT rfl ((L 8 rfl rfl).trans (congrArg Value.bool g238)) (L 0 rfl rfl)) ?_
                  have ow267 := ow250.ssclose' (k := 2) (j := 0) rfl rfl (by decide) hh249 hx241
                  have e268 := Option.some.inj h255
                  subst e268
                  exact kk [(85, .bool (!x253)), (84, .bool (!x253)), (83, .bool x253), (82, .pointer (some ⟨b256, o257 + Int.toNat x76 * 1, none⟩)), (81, .int .i64 x76), (80, h248), (79, .pointer (some ⟨b243, o244 + Int.toNat x31 * 1, none⟩)), (78, .int .i64 x31), (77, v17)] _ ⟨.bool (!x253), .bool x253, .pointer (some ⟨b256, o257 + Int.toNat x76 * 1, none⟩), .int .i64 x76, h248, .pointer (some ⟨b243, o244 + Int.toNat x31 * 1, none⟩), .int .i64 x31, v17, rfl, rfl⟩
                · have h269 := ifF g238 hy168
                  refine U.x rfl rfl rfl rfl ((L 0 rfl rfl).trans (congrArg Value.bool g238)) (by decide) ?_
                  refine U.x rfl rfl rfl rfl ((L 1 rfl rfl).trans (congrArg Value.bool g238)) (by decide) ?_
                  refine U.x rfl rfl rfl rfl ((L 2 rfl rfl).trans (congrArg Value.bool g238)) (by decide) ?_
                  refine U.x rfl rfl rfl rfl ((L 3 rfl rfl).trans (congrArg Value.bool g238)) (by decide) ?_
                  refine U.x rfl rfl rfl rfl ((L 4 rfl rfl).trans (congrArg Value.bool g238)) (by decide) ?_
                  refine U.x rfl rfl rfl rfl ((L 5 rfl rfl).trans (congrArg Value.bool g238)) (by decide) ?_
                  refine U.x rfl rfl rfl rfl ((L 6 rfl rfl).trans (congrArg Value.bool g238)) (by decide) ?_
                  refine U.x rfl rfl rfl rfl ((L 7 rfl rfl).trans (congrArg Value.bool g238)) (by decide) ?_
                  refine U.p rfl rfl (.inl rfl) (S.pickF rfl ((L 8 rfl rfl).trans (congrArg Value.bool g238)) K) ?_
                  have e270 := Option.some.inj h269
                  subst e270
                  exact kk [(85, .bool false), (84, .tuple #[]), (83, .tuple #[]), (82, .tuple #[]), (81, .tuple #[]), (80, .tuple #[]), (79, .tuple #[]), (78, .tuple #[]), (77, .tuple #[])] _ ⟨.tuple #[], .tuple #[], .tuple #[], .tuple #[], .tuple #[], .tuple #[], .tuple #[], .tuple #[], rfl, rfl⟩
            · intro kk
              refine bcase (b := (y118 && (decide (x50.e.t ≠ x91.e.t))) && (decide (x50.e.act.at_ = x91.e.act.at_))) (fun g271 => ?_) (fun g271 => ?_)
              · have h272 := ifT g271 hy152
                refine U.p (v := .pointer (some ⟨b61, 0, none⟩)) rfl rfl (.inr ⟨_, _, _, rfl, rfl, ((L 0 rfl rfl).trans (congrArg Value.bool g271))⟩) (S.fieldAddr rfl (L 44 rfl rfl) Try.underlying45 rfl ti31 rfl rfl) ?_
                refine U.p (v := .pointer (some ⟨b61, 1, none⟩)) rfl rfl (.inr ⟨_, _, _, rfl, rfl, ((L 1 rfl rfl).trans (congrArg Value.bool g271))⟩) (S.fieldAddr rfl (L 0 rfl rfl) Try.underlying31 rfl ti29 rfl rfl) ?_
                refine U.k rfl rfl (.inr ⟨_, _, _, rfl, rfl, ((L 2 rfl rfl).trans (congrArg Value.bool g271))⟩) (S.loadN (cs := [.int .i64 x50.e.act.kind, .int .i64 x50.e.act.at_, .int .i64 x50.e.act.val, .int .i64 x50.e.act.what, .bool x50.e.act.volatile, .bool x50.e.act.final]) rfl (L 0 rfl rfl) Try.underlying29 rfl ti29 rfl (cellsOfOwn (ow128.own (k := 2) rfl) 1 rfl)) nd ?_
                obtain ⟨x273, hx274, h275⟩ := bindS h272
                refine O.call (V := V126) rfl rfl (.inr ⟨_, _, _, rfl, rfl, ((L 3 rfl rfl).trans (congrArg Value.bool g271))⟩) rfl en39 (aC (L 0 rfl rfl) aN) (wk_order_writes V126 _ x50.e.act ow128 _ hx274) (fun _ _ _ _ => nd) (fun v276 V277 le278 hp279 => ?_)
                obtain ⟨rfl, ow280⟩ := hp279
                refine U.p rfl rfl (.inr ⟨_, _, _, rfl, rfl, ((L 4 rfl rfl).trans (congrArg Value.bool g271))⟩) (S.move rfl (L 0 rfl rfl)) ?_
                obtain ⟨y281, hy282, h283⟩ := bindS h275
                refine U.joinX 32 (fun e H => ∃ (u284 u285 u286 u287 : Value), ∃ V' : Vw, H = V'.H ∧ V277.le V' ∧ e = [(74, .bool y281), (73, u284), (72, u285), (71, u286), (70, u287)] ∧ Ow V' (.pt b102 (.cells 10 [.int .i64 x91.e.t, .int .i64 x91.e.act.kind, .int .i64 x91.e.act.at_, .int .i64 x91.e.act.val, .int .i64 x91.e.act.what, .bool x91.e.act.volatile, .bool x91.e.act.final, .int .i64 x91.e.rf, .int .i64 x91.e.id, .int .i64 x91.at_]) :: .oss (RO.os RT.bool) v17 hs23 x14 :: .pt b61 (.cells 10 [.int .i64 x50.e.t, .int .i64 x50.e.act.kind, .int .i64 x50.e.act.at_, .int .i64 x50.e.act.val, .int .i64 x50.e.act.what, .bool x50.e.act.volatile, .bool x50.e.act.final, .int .i64 x50.e.rf, .int .i64 x50.e.id, .int .i64 x50.at_]) :: Rs)) ?_ ?_
                · rintro _ _ ⟨u284, u285, u286, u287, V288, rfl, le289, rfl, ow290⟩
                  refine U.p rfl rfl (.inl rfl) (S.pickT rfl ((L 10 rfl rfl).trans (congrArg Value.bool g271)) (L 0 rfl rfl)) ?_
                  have e291 := Option.some.inj h283
                  subst e291
                  exact kk [(75, .bool y281), (74, .bool y281), (73, u284), (72, u285), (71, u286), (70, u287), (69, .bool x273), (68, .bool x273), (67, .agg #[.int .i64 x50.e.act.kind, .int .i64 x50.e.act.at_, .int .i64 x50.e.act.val, .int .i64 x50.e.act.what, .bool x50.e.act.volatile, .bool x50.e.act.final]), (66, .pointer (some ⟨b61, 1, none⟩)), (65, .pointer (some ⟨b61, 0, none⟩))] _ ⟨.bool y281, u284, u285, u286, u287, .bool x273, .bool x273, .agg #[.int .i64 x50.e.act.kind, .int .i64 x50.e.act.at_, .int .i64 x50.e.act.val, .int .i64 x50.e.act.what, .bool x50.e.act.volatile, .bool x50.e.act.final], .pointer (some ⟨b61, 1, none⟩), .pointer (some ⟨b61, 0, none⟩), V288, rfl, (le278.trans le289), rfl, ow290⟩
                · intro kk
                  refine bcase (b := x273) (fun g292 => ?_) (fun g292 => ?_)
                  · have h293 := ifT g292 hy282
                    refine U.x rfl rfl rfl rfl ((L 0 rfl rfl).trans (congrArg Value.bool g292)) (by decide) ?_
                    refine U.x rfl rfl rfl rfl ((L 1 rfl rfl).trans (congrArg Value.bool g292)) (by decide) ?_
                    refine U.x rfl rfl rfl rfl ((L 2 rfl rfl).trans (congrArg Value.bool g292)) (by decide) ?_
                    refine U.x rfl rfl rfl rfl ((L 3 rfl rfl).trans (congrArg Value.bool g292)) (by decide) ?_
                    refine U.p rfl rfl (.inr ⟨_, _, _, rfl, rfl, ((L 9 rfl rfl).trans (congrArg Value.bool g271))⟩) (S.pickT rfl ((L 4 rfl rfl).trans (congrArg Value.bool g292)) K) ?_
                    have e294 := Option.some.inj h293
                    subst e294
                    exact kk [(74, .bool true), (73, .tuple #[]), (72, .tuple #[]), (71, .tuple #[]), (70, .tuple #[])] _ ⟨.tuple #[], .tuple #[], .tuple #[], .tuple #[], V277, rfl, (.refl _), rfl, ow280⟩
                  · have h295 := ifF g292 hy282
                    refine U.p (v := .pointer (some ⟨b102, 0, none⟩)) rfl rfl (.inr ⟨_, _, _, rfl, rfl, ((L 0 rfl rfl).trans (congrArg Value.bool g292))⟩) (S.fieldAddr rfl (L 41 rfl rfl) Try.underlying45 rfl ti31 rfl rfl) ?_
                    refine U.p (v := .pointer (some ⟨b102, 1, none⟩)) rfl rfl (.inr ⟨_, _, _, rfl, rfl, ((L 1 rfl rfl).trans (congrArg Value.bool g292))⟩) (S.fieldAddr rfl (L 0 rfl rfl) Try.underlying31 rfl ti29 rfl rfl) ?_
                    refine U.k rfl rfl (.inr ⟨_, _, _, rfl, rfl, ((L 2 rfl rfl).trans (congrArg Value.bool g292))⟩) (S.loadN (cs := [.int .i64 x91.e.act.kind, .int .i64 x91.e.act.at_, .int .i64 x91.e.act.val, .int .i64 x91.e.act.what, .bool x91.e.act.volatile, .bool x91.e.act.final]) rfl (L 0 rfl rfl) Try.underlying29 rfl ti29 rfl (cellsOfOwn (ow280.own (k := 0) rfl) 1 rfl)) nd ?_
                    obtain ⟨x296, hx297, h298⟩ := bindS h295
                    refine O.call (V := V277) rfl rfl (.inr ⟨_, _, _, rfl, rfl, ((L 3 rfl rfl).trans (congrArg Value.bool g292))⟩) rfl en39 (aC (L 0 rfl rfl) aN) (wk_order_writes V277 _ x91.e.act ow280 _ hx297) (fun _ _ _ _ => nd) (fun v299 V300 le301 hp302 => ?_)
                    obtain ⟨rfl, ow303⟩ := hp302
                    refine U.p rfl rfl (.inr ⟨_, _, _, rfl, rfl, ((L 9 rfl rfl).trans (congrArg Value.bool g271))⟩) (S.pickF rfl ((L 4 rfl rfl).trans (congrArg Value.bool g292)) (L 0 rfl rfl)) ?_
                    have e304 := Option.some.inj h298
                    subst e304
                    exact kk [(74, .bool x296), (73, .bool x296), (72, .agg #[.int .i64 x91.e.act.kind, .int .i64 x91.e.act.at_, .int .i64 x91.e.act.val, .int .i64 x91.e.act.what, .bool x91.e.act.volatile, .bool x91.e.act.final]), (71, .pointer (some ⟨b102, 1, none⟩)), (70, .pointer (some ⟨b102, 0, none⟩))] _ ⟨.bool x296, .agg #[.int .i64 x91.e.act.kind, .int .i64 x91.e.act.at_, .int .i64 x91.e.act.val, .int .i64 x91.e.act.what, .bool x91.e.act.volatile, .bool x91.e.act.final], .pointer (some ⟨b102, 1, none⟩), .pointer (some ⟨b102, 0, none⟩), V300, rfl, le301, rfl, ow303⟩
              · have h305 := ifF g271 hy152
                refine U.x rfl rfl rfl rfl ((L 0 rfl rfl).trans (congrArg Value.bool g271)) (by decide) ?_
                refine U.x rfl rfl rfl rfl ((L 1 rfl rfl).trans (congrArg Value.bool g271)) (by decide) ?_
                refine U.x rfl rfl rfl rfl ((L 2 rfl rfl).trans (congrArg Value.bool g271)) (by decide) ?_
                refine U.x rfl rfl rfl rfl ((L 3 rfl rfl).trans (congrArg Value.bool g271)) (by decide) ?_
                refine U.x rfl rfl rfl rfl ((L 4 rfl rfl).trans (congrArg Value.bool g271)) (by decide) ?_
                refine U.z rfl rfl rfl rfl (L 0 rfl rfl) ?_
                refine U.z rfl rfl rfl rfl (L 1 rfl rfl) ?_
                refine U.z rfl rfl rfl rfl (L 2 rfl rfl) ?_
                refine U.z rfl rfl rfl rfl (L 3 rfl rfl) ?_
                refine U.x rfl rfl rfl rfl ((L 9 rfl rfl).trans (congrArg Value.bool g271)) (by decide) ?_
                refine U.p rfl rfl (.inl rfl) (S.pickF rfl ((L 10 rfl rfl).trans (congrArg Value.bool g271)) K) ?_
                have e306 := Option.some.inj h305
                subst e306
                exact kk [(75, .bool false), (74, .tuple #[]), (73, .tuple #[]), (72, .tuple #[]), (71, .tuple #[]), (70, .tuple #[]), (69, .tuple #[]), (68, .tuple #[]), (67, .tuple #[]), (66, .tuple #[]), (65, .tuple #[])] _ ⟨.tuple #[], .tuple #[], .tuple #[], .tuple #[], .tuple #[], .tuple #[], .tuple #[], .tuple #[], .tuple #[], .tuple #[], V126, rfl, (.refl _), rfl, ow128⟩
          · intro kk
            refine bcase (b := y118 && (decide (x50.e.t ≠ x91.e.t))) (fun g307 => ?_) (fun g307 => ?_)
            · skip
              refine U.p (v := .pointer (some ⟨b61, 0, none⟩)) rfl rfl (.inr ⟨_, _, _, rfl, rfl, ((L 0 rfl rfl).trans (congrArg Value.bool g307))⟩) (S.fieldAddr rfl (L 33 rfl rfl) Try.underlying45 rfl ti31 rfl rfl) ?_
              refine U.p (v := .pointer (some ⟨b61, 1, none⟩)) rfl rfl (.inr ⟨_, _, _, rfl, rfl, ((L 1 rfl rfl).trans (congrArg Value.bool g307))⟩) (S.fieldAddr rfl (L 0 rfl rfl) Try.underlying31 rfl ti29 rfl rfl) ?_
              refine U.p (v := .pointer (some ⟨b61, 2, none⟩)) rfl rfl (.inr ⟨_, _, _, rfl, rfl, ((L 2 rfl rfl).trans (congrArg Value.bool g307))⟩) (S.fieldAddr rfl (L 0 rfl rfl) Try.underlying29 rfl ti3 rfl rfl) ?_
              refine U.k rfl rfl (.inr ⟨_, _, _, rfl, rfl, ((L 3 rfl rfl).trans (congrArg Value.bool g307))⟩) (S.load rfl (L 0 rfl rfl) Try.underlying3 rfl ((ow128.own (k := 2) rfl).cell rfl)) nd ?_
              refine U.p (v := .pointer (some ⟨b102, 0, none⟩)) rfl rfl (.inr ⟨_, _, _, rfl, rfl, ((L 4 rfl rfl).trans (congrArg Value.bool g307))⟩) (S.fieldAddr rfl (L 29 rfl rfl) Try.underlying45 rfl ti31 rfl rfl) ?_
              refine U.p (v := .pointer (some ⟨b102, 1, none⟩)) rfl rfl (.inr ⟨_, _, _, rfl, rfl, ((L 5 rfl rfl).trans (congrArg Value.bool g307))⟩) (S.fieldAddr rfl (L 0 rfl rfl) Try.underlying31 rfl ti29 rfl rfl) ?_
              refine U.p (v := .pointer (some ⟨b102, 2, none⟩)) rfl rfl (.inr ⟨_, _, _, rfl, rfl, ((L 6 rfl rfl).trans (congrArg Value.bool g307))⟩) (S.fieldAddr rfl (L 0 rfl rfl) Try.underlying29 rfl ti3 rfl rfl) ?_
              refine U.k rfl rfl (.inr ⟨_, _, _, rfl, rfl, ((L 7 rfl rfl).trans (congrArg Value.bool g307))⟩) (S.load rfl (L 0 rfl rfl) Try.underlying3 rfl ((ow128.own (k := 0) rfl).cell rfl)) nd ?_
              refine U.p rfl rfl (.inr ⟨_, _, _, rfl, rfl, ((L 8 rfl rfl).trans (congrArg Value.bool g307))⟩) (S.eqlI rfl (L 4 rfl rfl) (L 0 rfl rfl)) ?_
              refine U.p rfl rfl (.inl rfl) (S.pickT rfl ((L 9 rfl rfl).trans (congrArg Value.bool g307)) (L 0 rfl rfl)) ?_
              exact kk [(63, .bool (decide (x50.e.act.at_ = x91.e.act.at_))), (62, .bool (decide (x50.e.act.at_ = x91.e.act.at_))), (61, .int .i64 x91.e.act.at_), (60, .pointer (some ⟨b102, 2, none⟩)), (59, .pointer (some ⟨b102, 1, none⟩)), (58, .pointer (some ⟨b102, 0, none⟩)), (57, .int .i64 x50.e.act.at_), (56, .pointer (some ⟨b61, 2, none⟩)), (55, .pointer (some ⟨b61, 1, none⟩)), (54, .pointer (some ⟨b61, 0, none⟩))] _ ⟨.bool (decide (x50.e.act.at_ = x91.e.act.at_)), .int .i64 x91.e.act.at_, .pointer (some ⟨b102, 2, none⟩), .pointer (some ⟨b102, 1, none⟩), .pointer (some ⟨b102, 0, none⟩), .int .i64 x50.e.act.at_, .pointer (some ⟨b61, 2, none⟩), .pointer (some ⟨b61, 1, none⟩), .pointer (some ⟨b61, 0, none⟩), rfl, (by rw [g307, Bool.true_and])⟩
            · skip
              refine U.x rfl rfl rfl rfl ((L 0 rfl rfl).trans (congrArg Value.bool g307)) (by decide) ?_
              refine U.x rfl rfl rfl rfl ((L 1 rfl rfl).trans (congrArg Value.bool g307)) (by decide) ?_
              refine U.x rfl rfl rfl rfl ((L 2 rfl rfl).trans (congrArg Value.bool g307)) (by decide) ?_
              refine U.x rfl rfl rfl rfl ((L 3 rfl rfl).trans (congrArg Value.bool g307)) (by decide) ?_
              refine U.x rfl rfl rfl rfl ((L 4 rfl rfl).trans (congrArg Value.bool g307)) (by decide) ?_
              refine U.x rfl rfl rfl rfl ((L 5 rfl rfl).trans (congrArg Value.bool g307)) (by decide) ?_
              refine U.x rfl rfl rfl rfl ((L 6 rfl rfl).trans (congrArg Value.bool g307)) (by decide) ?_
              refine U.x rfl rfl rfl rfl ((L 7 rfl rfl).trans (congrArg Value.bool g307)) (by decide) ?_
              refine U.x rfl rfl rfl rfl ((L 8 rfl rfl).trans (congrArg Value.bool g307)) (by decide) ?_
              refine U.p rfl rfl (.inl rfl) (S.pickF rfl ((L 9 rfl rfl).trans (congrArg Value.bool g307)) K) ?_
              exact kk [(63, .bool false), (62, .tuple #[]), (61, .tuple #[]), (60, .tuple #[]), (59, .tuple #[]), (58, .tuple #[]), (57, .tuple #[]), (56, .tuple #[]), (55, .tuple #[]), (54, .tuple #[])] _ ⟨.tuple #[], .tuple #[], .tuple #[], .tuple #[], .tuple #[], .tuple #[], .tuple #[], .tuple #[], .tuple #[], rfl, (by rw [g307, Bool.false_and])⟩
        · intro kk
          refine bcase (b := y118) (fun g308 => ?_) (fun g308 => ?_)
          · skip
            refine U.p (v := .pointer (some ⟨b61, 0, none⟩)) rfl rfl (.inr ⟨_, _, _, rfl, rfl, ((L 0 rfl rfl).trans (congrArg Value.bool g308))⟩) (S.fieldAddr rfl (L 24 rfl rfl) Try.underlying45 rfl ti31 rfl rfl) ?_
            refine U.p (v := .pointer (some ⟨b61, 0, none⟩)) rfl rfl (.inr ⟨_, _, _, rfl, rfl, ((L 1 rfl rfl).trans (congrArg Value.bool g308))⟩) (S.fieldAddr rfl (L 0 rfl rfl) Try.underlying31 rfl ti3 rfl rfl) ?_
            refine U.k rfl rfl (.inr ⟨_, _, _, rfl, rfl, ((L 2 rfl rfl).trans (congrArg Value.bool g308))⟩) (S.load rfl (L 0 rfl rfl) Try.underlying3 rfl ((ow128.own (k := 2) rfl).cell rfl)) nd ?_
            refine U.p (v := .pointer (some ⟨b102, 0, none⟩)) rfl rfl (.inr ⟨_, _, _, rfl, rfl, ((L 3 rfl rfl).trans (congrArg Value.bool g308))⟩) (S.fieldAddr rfl (L 19 rfl rfl) Try.underlying45 rfl ti31 rfl rfl) ?_
            refine U.p (v := .pointer (some ⟨b102, 0, none⟩)) rfl rfl (.inr ⟨_, _, _, rfl, rfl, ((L 4 rfl rfl).trans (congrArg Value.bool g308))⟩) (S.fieldAddr rfl (L 0 rfl rfl) Try.underlying31 rfl ti3 rfl rfl) ?_
            refine U.k rfl rfl (.inr ⟨_, _, _, rfl, rfl, ((L 5 rfl rfl).trans (congrArg Value.bool g308))⟩) (S.load rfl (L 0 rfl rfl) Try.underlying3 rfl ((ow128.own (k := 0) rfl).cell rfl)) nd ?_
            refine U.p rfl rfl (.inr ⟨_, _, _, rfl, rfl, ((L 6 rfl rfl).trans (congrArg Value.bool g308))⟩) (S.neqI rfl (L 3 rfl rfl) (L 0 rfl rfl)) ?_
            refine U.p rfl rfl (.inl rfl) (S.pickT rfl ((L 7 rfl rfl).trans (congrArg Value.bool g308)) (L 0 rfl rfl)) ?_
            exact kk [(52, .bool (decide (x50.e.t ≠ x91.e.t))), (51, .bool (decide (x50.e.t ≠ x91.e.t))), (50, .int .i64 x91.e.t), (49, .pointer (some ⟨b102, 0, none⟩)), (48, .pointer (some ⟨b102, 0, none⟩)), (47, .int .i64 x50.e.t), (46, .pointer (some ⟨b61, 0, none⟩)), (45, .pointer (some ⟨b61, 0, none⟩))] _ ⟨.bool (decide (x50.e.t ≠ x91.e.t)), .int .i64 x91.e.t, .pointer (some ⟨b102, 0, none⟩), .pointer (some ⟨b102, 0, none⟩), .int .i64 x50.e.t, .pointer (some ⟨b61, 0, none⟩), .pointer (some ⟨b61, 0, none⟩), rfl, (by rw [g308, Bool.true_and])⟩
          · skip
            refine U.x rfl rfl rfl rfl ((L 0 rfl rfl).trans (congrArg Value.bool g308)) (by decide) ?_
            refine U.x rfl rfl rfl rfl ((L 1 rfl rfl).trans (congrArg Value.bool g308)) (by decide) ?_
            refine U.x rfl rfl rfl rfl ((L 2 rfl rfl).trans (congrArg Value.bool g308)) (by decide) ?_
            refine U.x rfl rfl rfl rfl ((L 3 rfl rfl).trans (congrArg Value.bool g308)) (by decide) ?_
            refine U.x rfl rfl rfl rfl ((L 4 rfl rfl).trans (congrArg Value.bool g308)) (by decide) ?_
            refine U.x rfl rfl rfl rfl ((L 5 rfl rfl).trans (congrArg Value.bool g308)) (by decide) ?_
            refine U.x rfl rfl rfl rfl ((L 6 rfl rfl).trans (congrArg Value.bool g308)) (by decide) ?_
            refine U.p rfl rfl (.inl rfl) (S.pickF rfl ((L 7 rfl rfl).trans (congrArg Value.bool g308)) K) ?_
            exact kk [(52, .bool false), (51, .tuple #[]), (50, .tuple #[]), (49, .tuple #[]), (48, .tuple #[]), (47, .tuple #[]), (46, .tuple #[]), (45, .tuple #[])] _ ⟨.tuple #[], .tuple #[], .tuple #[], .tuple #[], .tuple #[], .tuple #[], .tuple #[], rfl, (by rw [g308, Bool.false_and])⟩
      · intro kk
        refine bcase (b := !x110) (fun g309 => ?_) (fun g309 => ?_)
        · have h310 := ifT g309 hy119
          have k311 : x110 = false := by simpa using g309
          refine U.x rfl rfl rfl rfl ((L 0 rfl rfl).trans (congrArg Value.bool g309)) (by decide) ?_
          refine U.x rfl rfl rfl rfl ((L 1 rfl rfl).trans (congrArg Value.bool g309)) (by decide) ?_
          refine U.x rfl rfl rfl rfl ((L 2 rfl rfl).trans (congrArg Value.bool g309)) (by decide) ?_
          refine U.x rfl rfl rfl rfl ((L 3 rfl rfl).trans (congrArg Value.bool g309)) (by decide) ?_
          refine U.x rfl rfl rfl rfl ((L 4 rfl rfl).trans (congrArg Value.bool g309)) (by decide) ?_
          refine U.p rfl rfl (.inl rfl) (S.pickT rfl ((L 5 rfl rfl).trans (congrArg Value.bool g309)) K) ?_
          have e312 := Option.some.inj h310
          subst e312
          exact kk [(42, .bool true), (41, .tuple #[]), (40, .tuple #[]), (39, .tuple #[]), (38, .tuple #[]), (37, .tuple #[])] _ ⟨.tuple #[], .tuple #[], .tuple #[], .tuple #[], .tuple #[], V114, rfl, (.refl _), rfl, ow117⟩
        · have h313 := ifF g309 hy119
          have k314 : x110 = true := by simpa using g309
          refine U.p (v := .pointer (some ⟨b102, 0, none⟩)) rfl rfl (.inr ⟨_, _, _, rfl, rfl, ((L 0 rfl rfl).trans (congrArg Value.bool g309))⟩) (S.fieldAddr rfl (L 7 rfl rfl) Try.underlying45 rfl ti31 rfl rfl) ?_
          refine U.p (v := .pointer (some ⟨b102, 1, none⟩)) rfl rfl (.inr ⟨_, _, _, rfl, rfl, ((L 1 rfl rfl).trans (congrArg Value.bool g309))⟩) (S.fieldAddr rfl (L 0 rfl rfl) Try.underlying31 rfl ti29 rfl rfl) ?_
          refine U.k rfl rfl (.inr ⟨_, _, _, rfl, rfl, ((L 2 rfl rfl).trans (congrArg Value.bool g309))⟩) (S.loadN (cs := [.int .i64 x91.e.act.kind, .int .i64 x91.e.act.at_, .int .i64 x91.e.act.val, .int .i64 x91.e.act.what, .bool x91.e.act.volatile, .bool x91.e.act.final]) rfl (L 0 rfl rfl) Try.underlying29 rfl ti29 rfl (cellsOfOwn (ow117.own (k := 0) rfl) 1 rfl)) nd ?_
          obtain ⟨x315, hx316, h317⟩ := bindS h313
          refine O.call (V := V114) rfl rfl (.inr ⟨_, _, _, rfl, rfl, ((L 3 rfl rfl).trans (congrArg Value.bool g309))⟩) rfl en36 (aC (L 0 rfl rfl) aN) (wk_order_syncs V114 _ x91.e.act ow117 _ hx316) (fun _ _ _ _ => nd) (fun v318 V319 le320 hp321 => ?_)
          obtain ⟨rfl, ow322⟩ := hp321
          refine U.p rfl rfl (.inr ⟨_, _, _, rfl, rfl, ((L 4 rfl rfl).trans (congrArg Value.bool g309))⟩) (S.not rfl (L 0 rfl rfl)) ?_
          refine U.p rfl rfl (.inl rfl) (S.pickF rfl ((L 5 rfl rfl).trans (congrArg Value.bool g309)) (L 0 rfl rfl)) ?_
          have e323 := Option.some.inj h317
          subst e323
          exact kk [(42, .bool (!x315)), (41, .bool (!x315)), (40, .bool x315), (39, .agg #[.int .i64 x91.e.act.kind, .int .i64 x91.e.act.at_, .int .i64 x91.e.act.val, .int .i64 x91.e.act.what, .bool x91.e.act.volatile, .bool x91.e.act.final]), (38, .pointer (some ⟨b102, 1, none⟩)), (37, .pointer (some ⟨b102, 0, none⟩))] _ ⟨.bool (!x315), .bool x315, .agg #[.int .i64 x91.e.act.kind, .int .i64 x91.e.act.at_, .int .i64 x91.e.act.val, .int .i64 x91.e.act.what, .bool x91.e.act.volatile, .bool x91.e.act.final], .pointer (some ⟨b102, 1, none⟩), .pointer (some ⟨b102, 0, none⟩), V319, rfl, le320, rfl, ow322⟩
    · have h324 := ifF c89 h88
      refine WP.exit ?_
      refine sqE (sqE (blkE (blkN (sqN ?_))))
      have h325 := exitS h324 e86
      refine WP.ureg rfl ?_
      refine U.p rfl rfl (.inl rfl) (S.add rfl (L 7 rfl rfl) K) ?_
      refine U.p rfl rfl (.inl rfl) (S.move rfl (L 0 rfl rfl)) ?_
      refine U.done (Nat.le_of_ble_eq_true rfl) ?_
      refine sqN ?_
      have ow326 := ow83.drop 1 rfl
      have f327 := f69.up le82
      have f328 := f30.up ((le63.trans le67).trans le82)
      exact ⟨_, V81, rfl, ⟨m43, Nat.lt_succ_self _, xs25, v26, xs28, v29, w64 (x31 + 1), rfl, (((le41.trans le63).trans le67).trans le82), f327, f328, ow326, backS h325 e45⟩, (allCons (L 3 rfl rfl) (allCons (L 4 rfl rfl) (allCons (L 7 rfl rfl) (allCons (L 8 rfl rfl) (allCons (L 0 rfl rfl) allNil)))))⟩
  · have h329 := ifF c48 h47
    refine WP.exit ?_
    refine sqE (sqE (blkE (sqN ?_)))
    have h330 := exitS h329 e45
    refine WP.usreg rfl ?_
    refine U.p rfl rfl (.inl rfl) (S.assign rfl K) ?_
    refine U.done (Nat.le_of_ble_eq_true rfl) ?_
    refine WP.ret ?_
    refine fin.slot (.inr rfl) rfl (L 0 rfl rfl) ⟨V40, rfl, (((le8.trans le19).trans le33).trans le41), ?_⟩
    have ow331 := ow42.drop 0 rfl
    have e332 := Option.some.inj h330
    subst e332
    exact ⟨rfl, ow331⟩

set_option maxHeartbeats 4000000 in
set_option maxRecDepth 10000 in
theorem wk_ref21_Racy (V : Vw) (Rs : List At) (p0 : List (List TEvent)) (v1 : Value) (f2 : Fz (RT.sl RT_TEvent) V v1 p0) (ow : Ow V (Rs)) (r : Bool) (h : ref21_Racy p0 = some r) : ∃ v V', Cl Try.prog 0 18 #[v1] V.H v V'.H ∧ V.le V' ∧ (v = .bool r ∧ Ow V' (Rs)) := by
  refine Ct.of (Nat.zero_le _) Try.func18 rfl (Nat.le_of_ble_eq_true rfl) ?_
  unfold ref21_Racy at h
  refine WP.usreg rfl ?_
  refine U.p rfl rfl (.inl rfl) (S.assign rfl K) ?_
  refine U.done (Nat.le_of_ble_eq_true rfl) ?_
  refine WP.usreg rfl ?_
  refine U.p rfl rfl (.inl rfl) (S.move rfl (L 1 rfl rfl)) ?_
  obtain ⟨x3, hx4, h5⟩ := bindS h
  refine O.call (V := V) rfl rfl (.inl rfl) rfl en32 (aC (L 0 rfl rfl) (aC K aN)) (wk_ref21_Nodes V _ p0 false v1 f2 ow _ hx4) (fun _ _ _ _ => nd) (fun v6 V7 le8 hp9 => ?_)
  obtain ⟨_, rfl, ow10⟩ := hp9
  refine U.p rfl rfl (.inl rfl) (S.assign rfl (L 0 rfl rfl)) ?_
  refine U.done (Nat.le_of_ble_eq_true rfl) ?_
  refine WP.usreg rfl ?_
  refine U.p rfl rfl (.inl rfl) (S.move rfl (L 0 rfl rfl)) ?_
  obtain ⟨x13, hx14, h15⟩ := bindS h5
  refine O.call (V := V7) rfl rfl (.inl rfl) rfl en43 (aC (L 0 rfl rfl) aN) (wk_ref21_Ahead V7 _ x3 v6 ow10 _ hx14) (fun _ _ _ _ => nd) (fun v16 V17 le18 hp19 => ?_)
  obtain ⟨_, hs22, rfl, ow20⟩ := hp19
  refine U.p rfl rfl (.inl rfl) (S.assign rfl (L 0 rfl rfl)) ?_
  refine U.done (Nat.le_of_ble_eq_true rfl) ?_
  refine WP.seq ?_
  refine WP.usreg rfl ?_
  refine U.p rfl rfl (.inl rfl) (S.move rfl (L 3 rfl rfl)) ?_
  refine U.p rfl rfl (.inl rfl) (ow20.oslen (k := 1) rfl rfl (L 0 rfl rfl) Try.underlying47) ?_
  refine U.p rfl rfl (.inl rfl) (S.move rfl K) ?_
  refine U.done (Nat.le_of_ble_eq_true rfl) ?_
  refine WP.blk ?_
  have ow25 := ow20.pick 0 rfl
  have ow26 := ow25.pick 1 rfl
  unfold ref21_Racy_l1 at h15
  obtain ⟨n28, hn27⟩ := loopO_some.1 h15
  refine WP.loopI2 (fun n l V' => ∃ (x24 : Int), l = [(3, v6), (4, v16), (13, v6), (14, .int .i64 (x3.length : Int)), (15, .int .i64 x24)] ∧ V17.le V' ∧ Ow V' (.os RT_Tref21_Node v6 x3 :: .oss (RO.os RT.bool) v16 hs22 x13 :: Rs) ∧ itO (fun s => ref21_Racy_l1b x3 x13 s) n x24 = some r) n28 _ ⟨0, rfl, .refl _, ow26, hn27⟩ (allCons (L 6 rfl rfl) (allCons (L 3 rfl rfl) (allCons (L 2 rfl rfl) (allCons (L 1 rfl rfl) (allCons (L 0 rfl rfl) allNil))))) ?_
  rintro _ _ V29 ⟨x24, rfl, le30, ow31, h35⟩
  obtain ⟨m32, q33, rfl, h36, e34⟩ := itS h35
  replace h36 : ref21_Racy_l1b x3 x13 x24 = some q33 := h36
  unfold ref21_Racy_l1b at h36
  refine WP.usreg rfl ?_
  refine U.p rfl rfl (.inl rfl) (S.lss rfl (L 4 rfl rfl) (L 3 rfl rfl)) ?_
  refine U.done (Nat.le_of_ble_eq_true rfl) ?_
  refine WP.seq ?_
  refine WP.cond _ (L 0 rfl rfl) rfl (fun c37 => ?_) (fun c37 => ?_)
  · have h38 := ifT c37 h36
    refine WP.skip ?_
    refine sqN ?_
    refine WP.seq ?_
    refine WP.blk ?_
    refine WP.usreg rfl ?_
    refine U.p rfl rfl (.inl rfl) (S.move rfl (L 5 rfl rfl)) ?_
    obtain ⟨x39, hx40, h41⟩ := bindS h38
    obtain ⟨b42, o43, n44, c45, hv46⟩ := ow31.ospt (k := 0) rfl hx40
    obtain ⟨_, hv47, _⟩ := ow31.osel (k := 0) rfl hv46 hx40
    refine U.p rfl rfl (.inl rfl) (S.index rfl ((L 4 rfl rfl).trans hv47) (L 6 rfl rfl) Try.underlying47 ti52 (ix_ge hx40) (ix_lt hx40)) ?_
    obtain ⟨cs48, hv49, hlt50, hr51, hc52⟩ := ow31.osel (k := 0) rfl hv46 hx40
    obtain rfl : cs48 = [.int .i64 x39.e.t, .int .i64 x39.e.act.kind, .int .i64 x39.e.act.at_, .int .i64 x39.e.act.val, .int .i64 x39.e.act.what, .bool x39.e.act.volatile, .bool x39.e.act.final, .int .i64 x39.e.rf, .int .i64 x39.e.id, .int .i64 x39.at_] := hr51
    refine U.k rfl rfl (.inl rfl) (S.loadN (cs := [.int .i64 x39.e.t, .int .i64 x39.e.act.kind, .int .i64 x39.e.act.at_, .int .i64 x39.e.act.val, .int .i64 x39.e.act.what, .bool x39.e.act.volatile, .bool x39.e.act.final, .int .i64 x39.e.rf, .int .i64 x39.e.id, .int .i64 x39.at_]) rfl (L 0 rfl rfl) Try.underlying52 rfl ti52 rfl hc52) nd ?_
    refine O.alloc ow31 rfl rfl (.inl rfl) rfl ti52 rfl rfl nd (fun b53 V54 le55 ow56 => ?_)
    refine U.p rfl rfl (.inl rfl) (S.assign rfl (L 3 rfl rfl)) ?_
    refine O.store (k := 0) (cs := [.int .i64 x39.e.t, .int .i64 x39.e.act.kind, .int .i64 x39.e.act.at_, .int .i64 x39.e.act.val, .int .i64 x39.e.act.what, .bool x39.e.act.volatile, .bool x39.e.act.final, .int .i64 x39.e.rf, .int .i64 x39.e.id, .int .i64 x39.at_]) (c' := [.int .i64 x39.e.t, .int .i64 x39.e.act.kind, .int .i64 x39.e.act.at_, .int .i64 x39.e.act.val, .int .i64 x39.e.act.what, .bool x39.e.act.volatile, .bool x39.e.act.final, .int .i64 x39.e.rf, .int .i64 x39.e.id, .int .i64 x39.at_]) ow56 rfl rfl rfl (.inl rfl) rfl (L 1 rfl rfl) (L 2 rfl rfl) ti52 (by simp [topV]) rfl rfl (Nat.le_of_ble_eq_true rfl) rfl rfl nd (fun V58 le59 ow60 => ?_)
    refine U.done (Nat.le_of_ble_eq_true rfl) ?_
    refine WP.usreg rfl ?_
    refine U.p rfl rfl (.inl rfl) (S.move rfl (L 6 rfl rfl)) ?_
    refine U.p rfl rfl (.inl rfl) (ow60.oslen (k := 1) rfl rfl (L 0 rfl rfl) Try.underlying47) ?_
    refine U.p rfl rfl (.inl rfl) (S.move rfl K) ?_
    refine U.done (Nat.le_of_ble_eq_true rfl) ?_
    refine WP.blk ?_
    have ow62 := ow60.pick 0 rfl
    have ow63 := ow62.pick 2 rfl
    have ow64 := ow63.pick 2 rfl
    unfold ref21_Racy_l2 at h41
    obtain ⟨n66, hn65⟩ := loopO_some.1 h41
    refine WP.loopI2 (fun n l V' => ∃ (x61 : Int), l = [(3, v6), (4, v16), (5, .int .i64 x24), (6, .pointer (some ⟨b53, 0, none⟩)), (13, v6), (14, .int .i64 (x3.length : Int)), (15, .int .i64 x24), (20, v6), (21, .int .i64 (x3.length : Int)), (22, .int .i64 x61)] ∧ V58.le V' ∧ Ow V' (.os RT_Tref21_Node v6 x3 :: .oss (RO.os RT.bool) v16 hs22 x13 :: .pt b53 (.cells 10 [.int .i64 x39.e.t, .int .i64 x39.e.act.kind, .int .i64 x39.e.act.at_, .int .i64 x39.e.act.val, .int .i64 x39.e.act.what, .bool x39.e.act.volatile, .bool x39.e.act.final, .int .i64 x39.e.rf, .int .i64 x39.e.id, .int .i64 x39.at_]) :: Rs) ∧ itO (fun s => ref21_Racy_l2b x3 x13 x24 x39 s) n x61 = some q33) n66 _ ⟨0, rfl, .refl _, ow64, hn65⟩ (allCons (L 9 rfl rfl) (allCons (L 10 rfl rfl) (allCons (L 3 rfl rfl) (allCons (L 4 rfl rfl) (allCons (L 11 rfl rfl) (allCons (L 12 rfl rfl) (allCons (L 13 rfl rfl) (allCons (L 2 rfl rfl) (allCons (L 1 rfl rfl) (allCons (L 0 rfl rfl) allNil)))))))))) ?_
    rintro _ _ V67 ⟨x61, rfl, le68, ow69, h73⟩
    obtain ⟨m70, q71, rfl, h74, e72⟩ := itS h73
    replace h74 : ref21_Racy_l2b x3 x13 x24 x39 x61 = some q71 := h74
    unfold ref21_Racy_l2b at h74
    refine WP.usreg rfl ?_
    refine U.p rfl rfl (.inl rfl) (S.lss rfl (L 9 rfl rfl) (L 8 rfl rfl)) ?_
    refine U.done (Nat.le_of_ble_eq_true rfl) ?_
    refine WP.seq ?_
    refine WP.cond _ (L 0 rfl rfl) rfl (fun c75 => ?_) (fun c75 => ?_)
    · have h76 := ifT c75 h74
      refine WP.skip ?_
      refine sqN ?_
      refine WP.seq ?_
      refine WP.blk ?_
      refine WP.usreg rfl ?_
      refine U.p rfl rfl (.inl rfl) (S.move rfl (L 10 rfl rfl)) ?_
      obtain ⟨x77, hx78, h79⟩ := bindS h76
      obtain ⟨_, hv80, _⟩ := ow69.osel (k := 0) rfl hv46 hx78
      refine U.p rfl rfl (.inl rfl) (S.index rfl ((L 9 rfl rfl).trans hv80) (L 11 rfl rfl) Try.underlying47 ti52 (ix_ge hx78) (ix_lt hx78)) ?_
      obtain ⟨cs81, hv82, hlt83, hr84, hc85⟩ := ow69.osel (k := 0) rfl hv46 hx78
      obtain rfl : cs81 = [.int .i64 x77.e.t, .int .i64 x77.e.act.kind, .int .i64 x77.e.act.at_, .int .i64 x77.e.act.val, .int .i64 x77.e.act.what, .bool x77.e.act.volatile, .bool x77.e.act.final, .int .i64 x77.e.rf, .int .i64 x77.e.id, .int .i64 x77.at_] := hr84
      refine U.k rfl rfl (.inl rfl) (S.loadN (cs := [.int .i64 x77.e.t, .int .i64 x77.e.act.kind, .int .i64 x77.e.act.at_, .int .i64 x77.e.act.val, .int .i64 x77.e.act.what, .bool x77.e.act.volatile, .bool x77.e.act.final, .int .i64 x77.e.rf, .int .i64 x77.e.id, .int .i64 x77.at_]) rfl (L 0 rfl rfl) Try.underlying52 rfl ti52 rfl hc85) nd ?_
      refine O.alloc ow69 rfl rfl (.inl rfl) rfl ti52 rfl rfl nd (fun b86 V87 le88 ow89 => ?_)
      refine U.p rfl rfl (.inl rfl) (S.assign rfl (L 3 rfl rfl)) ?_
      refine O.store (k := 0) (cs := [.int .i64 x77.e.t, .int .i64 x77.e.act.kind, .int .i64 x77.e.act.at_, .int .i64 x77.e.act.val, .int .i64 x77.e.act.what, .bool x77.e.act.volatile, .bool x77.e.act.final, .int .i64 x77.e.rf, .int .i64 x77.e.id, .int .i64 x77.at_]) (c' := [.int .i64 x77.e.t, .int .i64 x77.e.act.kind, .int .i64 x77.e.act.at_, .int .i64 x77.e.act.val, .int .i64 x77.e.act.what, .bool x77.e.act.volatile, .bool x77.e.act.final, .int .i64 x77.e.rf, .int .i64 x77.e.id, .int .i64 x77.at_]) ow89 rfl rfl rfl (.inl rfl) rfl (L 1 rfl rfl) (L 2 rfl rfl) ti52 (by simp [topV]) rfl rfl (Nat.le_of_ble_eq_true rfl) rfl rfl nd (fun V91 le92 ow93 => ?_)
      refine U.done (Nat.le_of_ble_eq_true rfl) ?_
      refine WP.usreg rfl ?_
      refine U.p rfl rfl (.inl rfl) (S.move rfl (L 8 rfl rfl)) ?_
      refine U.p rfl rfl (.inl rfl) (S.move rfl (L 1 rfl rfl)) ?_
      refine U.p rfl rfl (.inl rfl) (S.neqI rfl (L 1 rfl rfl) (L 0 rfl rfl)) ?_
      refine U.p rfl rfl (.inl rfl) (S.move rfl (L 0 rfl rfl)) ?_
      refine U.joinX 12 (fun e H => ∃ (u94 u95 u96 u97 u98 u99 u100 : Value), H = V91.H ∧ e = [(38, .bool ((decide (x24 ≠ x61)) && (decide (x39.e.t ≠ x77.e.t)))), (37, u94), (36, u95), (35, u96), (34, u97), (33, u98), (32, u99), (31, u100)]) ?_ ?_
      · rintro _ _ ⟨u94, u95, u96, u97, u98, u99, u100, rfl, rfl⟩
        refine U.p rfl rfl (.inl rfl) (S.move rfl (L 0 rfl rfl)) ?_
        refine U.joinX 23 (fun e H => ∃ (u104 u105 u106 u107 u108 u109 u110 u111 u112 : Value), H = V91.H ∧ e = [(49, .bool (((decide (x24 ≠ x61)) && (decide (x39.e.t ≠ x77.e.t))) && (decide (x39.e.act.at_ = x77.e.act.at_)))), (48, u104), (47, u105), (46, u106), (45, u107), (44, u108), (43, u109), (42, u110), (41, u111), (40, u112)]) ?_ ?_
        · rintro _ _ ⟨u104, u105, u106, u107, u108, u109, u110, u111, u112, rfl, rfl⟩
          refine U.p rfl rfl (.inl rfl) (S.move rfl (L 0 rfl rfl)) ?_
          obtain ⟨y116, hy117, h118⟩ := bindS h79
          refine U.joinX 31 (fun e H => ∃ (u119 u120 u121 u122 u123 u124 : Value), ∃ V' : Vw, H = V'.H ∧ V91.le V' ∧ e = [(57, .bool y116), (56, u119), (55, u120), (54, u121), (53, u122), (52, u123), (51, u124)] ∧ Ow V' (.pt b86 (.cells 10 [.int .i64 x77.e.t, .int .i64 x77.e.act.kind, .int .i64 x77.e.act.at_, .int .i64 x77.e.act.val, .int .i64 x77.e.act.what, .bool x77.e.act.volatile, .bool x77.e.act.final, .int .i64 x77.e.rf, .int .i64 x77.e.id, .int .i64 x77.at_]) :: .os RT_Tref21_Node v6 x3 :: .oss (RO.os RT.bool) v16 hs22 x13 :: .pt b53 (.cells 10 [.int .i64 x39.e.t, .int .i64 x39.e.act.kind, .int .i64 x39.e.act.at_, .int .i64 x39.e.act.val, .int .i64 x39.e.act.what, .bool x39.e.act.volatile, .bool x39.e.act.final, .int .i64 x39.e.rf, .int .i64 x39.e.id, .int .i64 x39.at_]) :: Rs)) ?_ ?_
          · rintro _ _ ⟨u119, u120, u121, u122, u123, u124, V125, rfl, le126, rfl, ow127⟩
            refine U.p rfl rfl (.inl rfl) (S.move rfl (L 0 rfl rfl)) ?_
            obtain ⟨y128, hy129, h130⟩ := bindS h118
            refine U.joinX 40 (fun e H => ∃ (u131 u132 u133 u134 u135 u136 u137 : Value), ∃ V' : Vw, H = V'.H ∧ V125.le V' ∧ e = [(66, .bool y128), (65, u131), (64, u132), (63, u133), (62, u134), (61, u135), (60, u136), (59, u137)] ∧ Ow V' (.pt b86 (.cells 10 [.int .i64 x77.e.t, .int .i64 x77.e.act.kind, .int .i64 x77.e.act.at_, .int .i64 x77.e.act.val, .int .i64 x77.e.act.what, .bool x77.e.act.volatile, .bool x77.e.act.final, .int .i64 x77.e.rf, .int .i64 x77.e.id, .int .i64 x77.at_]) :: .os RT_Tref21_Node v6 x3 :: .oss (RO.os RT.bool) v16 hs22 x13 :: .pt b53 (.cells 10 [.int .i64 x39.e.t, .int .i64 x39.e.act.kind, .int .i64 x39.e.act.at_, .int .i64 x39.e.act.val, .int .i64 x39.e.act.what, .bool x39.e.act.volatile, .bool x39.e.act.final, .int .i64 x39.e.rf, .int .i64 x39.e.id, .int .i64 x39.at_]) :: Rs)) ?_ ?_
            · rintro _ _ ⟨u131, u132, u133, u134, u135, u136, u137, V138, rfl, le139, rfl, ow140⟩
              refine U.p rfl rfl (.inl rfl) (S.move rfl (L 0 rfl rfl)) ?_
              obtain ⟨y141, hy142, h143⟩ := bindS h130
              refine U.joinX 50 (fun e H => ∃ (u144 u145 u146 u147 u148 u149 u150 u151 : Value), H = V138.H ∧ e = [(76, .bool y141), (75, u144), (74, u145), (73, u146), (72, u147), (71, u148), (70, u149), (69, u150), (68, u151)]) ?_ ?_
              · rintro _ _ ⟨u144, u145, u146, u147, u148, u149, u150, u151, rfl, rfl⟩
                refine U.p rfl rfl (.inl rfl) (S.move rfl (L 0 rfl rfl)) ?_
                obtain ⟨y155, hy156, h157⟩ := bindS h143
                refine U.joinX 60 (fun e H => ∃ (u158 u159 u160 u161 u162 u163 u164 u165 : Value), H = V138.H ∧ e = [(86, .bool y155), (85, u158), (84, u159), (83, u160), (82, u161), (81, u162), (80, u163), (79, u164), (78, u165)]) ?_ ?_
                · rintro _ _ ⟨u158, u159, u160, u161, u162, u163, u164, u165, rfl, rfl⟩
                  refine U.done (Nat.le_of_ble_eq_true rfl) ?_
                  refine WP.cond _ (L 0 rfl rfl) rfl (fun c169 => ?_) (fun c169 => ?_)
                  · have h170 := ifT c169 h157
                    refine WP.usreg rfl ?_
                    refine U.p rfl rfl (.inl rfl) (S.assign rfl K) ?_
                    refine U.done (Nat.le_of_ble_eq_true rfl) ?_
                    refine WP.ret ?_
                    refine blkR (sqR (sqR (blkR (blkR (sqR (sqR (blkR (sqR ?_))))))))
                    have h171 := exitS h170 e72
                    have h172 := exitS h171 e34
                    refine fin.slot (.inr rfl) rfl (L 0 rfl rfl) ⟨V138, rfl, (((((((((le8.trans le18).trans le30).trans le55).trans le59).trans le68).trans le88).trans le92).trans le126).trans le139), ?_⟩
                    have ow173 := ow140.drop 0 rfl
                    have ow174 := ow173.drop 0 rfl
                    have ow175 := ow174.drop 0 rfl
                    have ow176 := ow175.drop 0 rfl
                    have e177 := Option.some.inj h172
                    subst e177
                    exact ⟨rfl, ow176⟩
                  · have h178 := ifF c169 h157
                    refine WP.skip ?_
                    refine blkN (sqN ?_)
                    refine WP.ureg rfl ?_
                    refine U.p rfl rfl (.inl rfl) (S.add rfl (L 75 rfl rfl) K) ?_
                    refine U.p rfl rfl (.inl rfl) (S.move rfl (L 0 rfl rfl)) ?_
                    refine U.done (Nat.le_of_ble_eq_true rfl) ?_
                    refine sqN ?_
                    have ow179 := ow140.drop 0 rfl
                    exact ⟨_, V138, rfl, ⟨m70, Nat.lt_succ_self _, w64 (x61 + 1), rfl, ((((le68.trans le88).trans le92).trans le126).trans le139), ow179, backS h178 e72⟩, (allCons (L 68 rfl rfl) (allCons (L 69 rfl rfl) (allCons (L 70 rfl rfl) (allCons (L 71 rfl rfl) (allCons (L 72 rfl rfl) (allCons (L 73 rfl rfl) (allCons (L 74 rfl rfl) (allCons (L 75 rfl rfl) (allCons (L 76 rfl rfl) (allCons (L 0 rfl rfl) allNil))))))))))⟩
                · intro kk
                  refine bcase (b := y141) (fun g180 => ?_) (fun g180 => ?_)
                  · have h181 := ifT g180 hy156
                    refine U.p rfl rfl (.inr ⟨_, _, _, rfl, rfl, ((L 0 rfl rfl).trans (congrArg Value.bool g180))⟩) (S.move rfl (L 58 rfl rfl)) ?_
                    refine U.p rfl rfl (.inr ⟨_, _, _, rfl, rfl, ((L 1 rfl rfl).trans (congrArg Value.bool g180))⟩) (S.move rfl (L 52 rfl rfl)) ?_
                    obtain ⟨x182, hx183, h184⟩ := bindS h181
                    obtain ⟨b185, o186, n187, c188, hv189⟩ := ow140.sspt (k := 2) rfl hx183
                    refine U.p rfl rfl (.inr ⟨_, _, _, rfl, rfl, ((L 2 rfl rfl).trans (congrArg Value.bool g180))⟩) (S.index rfl ((L 1 rfl rfl).trans (ow140.sslen' (k := 2) rfl hv189)) (L 0 rfl rfl) Try.underlying41 ti53 (ix_ge hx183) (ix_lt hx183)) ?_
                    obtain ⟨h190, hh191, ow192⟩ := ow140.ssopen (k := 2) rfl hx183
                    have hcl194 := ow192.shcell (k := 3) rfl hv189 hh191
                    refine U.k rfl rfl (.inr ⟨_, _, _, rfl, rfl, ((L 3 rfl rfl).trans (congrArg Value.bool g180))⟩) (S.load rfl (L 0 rfl rfl) Try.underlying53 rfl hcl194.2) nd ?_
                    refine U.p rfl rfl (.inr ⟨_, _, _, rfl, rfl, ((L 4 rfl rfl).trans (congrArg Value.bool g180))⟩) (S.move rfl (L 63 rfl rfl)) ?_
                    obtain ⟨x195, hx196, h197⟩ := bindS h184
                    obtain ⟨b198, o199, n200, c201, hv202⟩ := ow192.ospt (k := 0) rfl hx196
                    obtain ⟨_, hv203, _⟩ := ow192.osel (k := 0) rfl hv202 hx196
                    refine U.p rfl rfl (.inr ⟨_, _, _, rfl, rfl, ((L 5 rfl rfl).trans (congrArg Value.bool g180))⟩) (S.index rfl ((L 1 rfl rfl).trans hv203) (L 0 rfl rfl) Try.underlying53 ti4 (ix_ge hx196) (ix_lt hx196)) ?_
                    obtain ⟨cs204, hv205, hlt206, hr207, hc208⟩ := ow192.osel (k := 0) rfl hv202 hx196
                    obtain rfl : cs204 = [.bool x195] := hr207
                    refine U.k rfl rfl (.inr ⟨_, _, _, rfl, rfl, ((L 6 rfl rfl).trans (congrArg Value.bool g180))⟩) (S.load rfl (L 0 rfl rfl) Try.underlying4 rfl (hc208 0 _ rfl)) nd ?_
                    refine U.p rfl rfl (.inr ⟨_, _, _, rfl, rfl, ((L 7 rfl rfl).trans (congrArg Value.bool g180))⟩) (S.not rfl (L 0 rfl rfl)) ?_
                    refine U.p rfl rfl (.inl rfl) (S.pickT rfl ((L 8 rfl rfl).trans (congrArg Value.bool g180)) (L 0 rfl rfl)) ?_
                    have ow209 := ow192.ssclose' (k := 3) (j := 0) rfl rfl (by decide) hh191 hx183
                    have e210 := Option.some.inj h197
                    subst e210
                    exact kk [(86, .bool (!x195)), (85, .bool (!x195)), (84, .bool x195), (83, .pointer (some ⟨b198, o199 + Int.toNat x24 * 1, none⟩)), (82, .int .i64 x24), (81, h190), (80, .pointer (some ⟨b185, o186 + Int.toNat x61 * 1, none⟩)), (79, .int .i64 x61), (78, v16)] _ ⟨.bool (!x195), .bool x195, .pointer (some ⟨b198, o199 + Int.toNat x24 * 1, none⟩), .int .i64 x24, h190, .pointer (some ⟨b185, o186 + Int.toNat x61 * 1, none⟩), .int .i64 x61, v16, rfl, rfl⟩
                  · have h211 := ifF g180 hy156
                    refine U.x rfl rfl rfl rfl ((L 0 rfl rfl).trans (congrArg Value.bool g180)) (by decide) ?_
                    refine U.x rfl rfl rfl rfl ((L 1 rfl rfl).trans (congrArg Value.bool g180)) (by decide) ?_
                    refine U.x rfl rfl rfl rfl ((L 2 rfl rfl).trans (congrArg Value.bool g180)) (by decide) ?_
                    refine U.x rfl rfl rfl rfl ((L 3 rfl rfl).trans (congrArg Value.bool g180)) (by decide) ?_
                    refine U.x rfl rfl rfl rfl ((L 4 rfl rfl).trans (congrArg Value.bool g180)) (by decide) ?_
                    refine U.x rfl rfl rfl rfl ((L 5 rfl rfl).trans (congrArg Value.bool g180)) (by decide) ?_
                    refine U.x rfl rfl rfl rfl ((L 6 rfl rfl).trans (congrArg Value.bool g180)) (by decide) ?_
                    refine U.x rfl rfl rfl rfl ((L 7 rfl rfl).trans (congrArg Value.bool g180)) (by decide) ?_
                    refine U.p rfl rfl (.inl rfl) (S.pickF rfl ((L 8 rfl rfl).trans (congrArg Value.bool g180)) K) ?_
                    have e212 := Option.some.inj h211
                    subst e212
                    exact kk [(86, .bool false), (85, .tuple #[]), (84, .tuple #[]), (83, .tuple #[]), (82, .tuple #[]), (81, .tuple #[]), (80, .tuple #[]), (79, .tuple #[]), (78, .tuple #[])] _ ⟨.tuple #[], .tuple #[], .tuple #[], .tuple #[], .tuple #[], .tuple #[], .tuple #[], .tuple #[], rfl, rfl⟩
              · intro kk
                refine bcase (b := y128) (fun g213 => ?_) (fun g213 => ?_)
                · have h214 := ifT g213 hy142
                  refine U.p rfl rfl (.inr ⟨_, _, _, rfl, rfl, ((L 0 rfl rfl).trans (congrArg Value.bool g213))⟩) (S.move rfl (L 48 rfl rfl)) ?_
                  refine U.p rfl rfl (.inr ⟨_, _, _, rfl, rfl, ((L 1 rfl rfl).trans (congrArg Value.bool g213))⟩) (S.move rfl (L 50 rfl rfl)) ?_
                  obtain ⟨x215, hx216, h217⟩ := bindS h214
                  obtain ⟨b218, o219, n220, c221, hv222⟩ := ow140.sspt (k := 2) rfl hx216
                  refine U.p rfl rfl (.inr ⟨_, _, _, rfl, rfl, ((L 2 rfl rfl).trans (congrArg Value.bool g213))⟩) (S.index rfl ((L 1 rfl rfl).trans (ow140.sslen' (k := 2) rfl hv222)) (L 0 rfl rfl) Try.underlying41 ti53 (ix_ge hx216) (ix_lt hx216)) ?_
                  obtain ⟨h223, hh224, ow225⟩ := ow140.ssopen (k := 2) rfl hx216
                  have hcl227 := ow225.shcell (k := 3) rfl hv222 hh224
                  refine U.k rfl rfl (.inr ⟨_, _, _, rfl, rfl, ((L 3 rfl rfl).trans (congrArg Value.bool g213))⟩) (S.load rfl (L 0 rfl rfl) Try.underlying53 rfl hcl227.2) nd ?_
                  refine U.p rfl rfl (.inr ⟨_, _, _, rfl, rfl, ((L 4 rfl rfl).trans (congrArg Value.bool g213))⟩) (S.move rfl (L 45 rfl rfl)) ?_
                  obtain ⟨x228, hx229, h230⟩ := bindS h217
                  obtain ⟨b231, o232, n233, c234, hv235⟩ := ow225.ospt (k := 0) rfl hx229
                  obtain ⟨_, hv236, _⟩ := ow225.osel (k := 0) rfl hv235 hx229
                  refine U.p rfl rfl (.inr ⟨_, _, _, rfl, rfl, ((L 5 rfl rfl).trans (congrArg Value.bool g213))⟩) (S.index rfl ((L 1 rfl rfl).trans hv236) (L 0 rfl rfl) Try.underlying53 ti4 (ix_ge hx229) (ix_lt hx229)) ?_
                  obtain ⟨cs237, hv238, hlt239, hr240, hc241⟩ := ow225.osel (k := 0) rfl hv235 hx229
                  obtain rfl : cs237 = [.bool x228] := hr240
                  refine U.k rfl rfl (.inr ⟨_, _, _, rfl, rfl, ((L 6 rfl rfl).trans (congrArg Value.bool g213))⟩) (S.load rfl (L 0 rfl rfl) Try.underlying4 rfl (hc241 0 _ rfl)) nd ?_
                  refine U.p rfl rfl (.inr ⟨_, _, _, rfl, rfl, ((L 7 rfl rfl).trans (congrArg Value.bool g213))⟩) (S.not rfl (L 0 rfl rfl)) ?_
                  refine U.p rfl rfl (.inl rfl) (S.pickT rfl ((L 8 rfl rfl).trans (congrArg Value.bool g213)) (L 0 rfl rfl)) ?_
                  have ow242 := ow225.ssclose' (k := 3) (j := 0) rfl rfl (by decide) hh224 hx216
                  have e243 := Option.some.inj h230
                  subst e243
                  exact kk [(76, .bool (!x228)), (75, .bool (!x228)), (74, .bool x228), (73, .pointer (some ⟨b231, o232 + Int.toNat x61 * 1, none⟩)), (72, .int .i64 x61), (71, h223), (70, .pointer (some ⟨b218, o219 + Int.toNat x24 * 1, none⟩)), (69, .int .i64 x24), (68, v16)] _ ⟨.bool (!x228), .bool x228, .pointer (some ⟨b231, o232 + Int.toNat x61 * 1, none⟩), .int .i64 x61, h223, .pointer (some ⟨b218, o219 + Int.toNat x24 * 1, none⟩), .int .i64 x24, v16, rfl, rfl⟩
                · have h244 := ifF g213 hy142
                  refine U.x rfl rfl rfl rfl ((L 0 rfl rfl).trans (congrArg Value.bool g213)) (by decide) ?_
                  refine U.x rfl rfl rfl rfl ((L 1 rfl rfl).trans (congrArg Value.bool g213)) (by decide) ?_
                  refine U.x rfl rfl rfl rfl ((L 2 rfl rfl).trans (congrArg Value.bool g213)) (by decide) ?_
                  refine U.x rfl rfl rfl rfl ((L 3 rfl rfl).trans (congrArg Value.bool g213)) (by decide) ?_
                  refine U.x rfl rfl rfl rfl ((L 4 rfl rfl).trans (congrArg Value.bool g213)) (by decide) ?_
                  refine U.x rfl rfl rfl rfl ((L 5 rfl rfl).trans (congrArg Value.bool g213)) (by decide) ?_
                  refine U.x rfl rfl rfl rfl ((L 6 rfl rfl).trans (congrArg Value.bool g213)) (by decide) ?_
                  refine U.x rfl rfl rfl rfl ((L 7 rfl rfl).trans (congrArg Value.bool g213)) (by decide) ?_
                  refine U.p rfl rfl (.inl rfl) (S.pickF rfl ((L 8 rfl rfl).trans (congrArg Value.bool g213)) K) ?_
                  have e245 := Option.some.inj h244
                  subst e245
                  exact kk [(76, .bool false), (75, .tuple #[]), (74, .tuple #[]), (73, .tuple #[]), (72, .tuple #[]), (71, .tuple #[]), (70, .tuple #[]), (69, .tuple #[]), (68, .tuple #[])] _ ⟨.tuple #[], .tuple #[], .tuple #[], .tuple #[], .tuple #[], .tuple #[], .tuple #[], .tuple #[], rfl, rfl⟩
            · intro kk
              refine bcase (b := y116) (fun g246 => ?_) (fun g246 => ?_)
              · have h247 := ifT g246 hy129
                refine U.k rfl rfl (.inr ⟨_, _, _, rfl, rfl, ((L 0 rfl rfl).trans (congrArg Value.bool g246))⟩) (S.loadB rfl (L 41 rfl rfl) Try.underlying52 rfl ti52 (ow127.own (k := 3) rfl).get rfl) nd ?_
                obtain ⟨x248, hx249, h250⟩ := bindS h247
                refine O.call (V := V125) rfl rfl (.inr ⟨_, _, _, rfl, rfl, ((L 1 rfl rfl).trans (congrArg Value.bool g246))⟩) rfl en47 (aC (L 0 rfl rfl) aN) (wk_ref21_Synced V125 _ x39 ow127 _ hx249) (fun _ _ _ _ => nd) (fun v251 V252 le253 hp254 => ?_)
                obtain ⟨rfl, ow255⟩ := hp254
                refine U.p rfl rfl (.inr ⟨_, _, _, rfl, rfl, ((L 2 rfl rfl).trans (congrArg Value.bool g246))⟩) (S.move rfl (L 0 rfl rfl)) ?_
                obtain ⟨y256, hy257, h258⟩ := bindS h250
                refine U.joinX 38 (fun e H => ∃ (u259 u260 : Value), ∃ V' : Vw, H = V'.H ∧ V252.le V' ∧ e = [(64, .bool y256), (63, u259), (62, u260)] ∧ Ow V' (.pt b86 (.cells 10 [.int .i64 x77.e.t, .int .i64 x77.e.act.kind, .int .i64 x77.e.act.at_, .int .i64 x77.e.act.val, .int .i64 x77.e.act.what, .bool x77.e.act.volatile, .bool x77.e.act.final, .int .i64 x77.e.rf, .int .i64 x77.e.id, .int .i64 x77.at_]) :: .os RT_Tref21_Node v6 x3 :: .oss (RO.os RT.bool) v16 hs22 x13 :: .pt b53 (.cells 10 [.int .i64 x39.e.t, .int .i64 x39.e.act.kind, .int .i64 x39.e.act.at_, .int .i64 x39.e.act.val, .int .i64 x39.e.act.what, .bool x39.e.act.volatile, .bool x39.e.act.final, .int .i64 x39.e.rf, .int .i64 x39.e.id, .int .i64 x39.at_]) :: Rs)) ?_ ?_
                · rintro _ _ ⟨u259, u260, V261, rfl, le262, rfl, ow263⟩
                  refine U.p rfl rfl (.inr ⟨_, _, _, rfl, rfl, ((L 6 rfl rfl).trans (congrArg Value.bool g246))⟩) (S.not rfl (L 0 rfl rfl)) ?_
                  refine U.p rfl rfl (.inl rfl) (S.pickT rfl ((L 7 rfl rfl).trans (congrArg Value.bool g246)) (L 0 rfl rfl)) ?_
                  have e264 := Option.some.inj h258
                  subst e264
                  exact kk [(66, .bool (!y256)), (65, .bool (!y256)), (64, .bool y256), (63, u259), (62, u260), (61, .bool x248), (60, .bool x248), (59, .agg #[.int .i64 x39.e.t, .int .i64 x39.e.act.kind, .int .i64 x39.e.act.at_, .int .i64 x39.e.act.val, .int .i64 x39.e.act.what, .bool x39.e.act.volatile, .bool x39.e.act.final, .int .i64 x39.e.rf, .int .i64 x39.e.id, .int .i64 x39.at_])] _ ⟨.bool (!y256), .bool y256, u259, u260, .bool x248, .bool x248, .agg #[.int .i64 x39.e.t, .int .i64 x39.e.act.kind, .int .i64 x39.e.act.at_, .int .i64 x39.e.act.val, .int .i64 x39.e.act.what, .bool x39.e.act.volatile, .bool x39.e.act.final, .int .i64 x39.e.rf, .int .i64 x39.e.id, .int .i64 x39.at_], V261, rfl, (le253.trans le262), rfl, ow263⟩
                · intro kk
                  refine bcase (b := x248) (fun g265 => ?_) (fun g265 => ?_)
                  · have h266 := ifT g265 hy257
                    refine U.k rfl rfl (.inr ⟨_, _, _, rfl, rfl, ((L 0 rfl rfl).trans (congrArg Value.bool g265))⟩) (S.loadB rfl (L 36 rfl rfl) Try.underlying52 rfl ti52 (ow255.own (k := 0) rfl).get rfl) nd ?_
                    obtain ⟨x267, hx268, h269⟩ := bindS h266
                    refine O.call (V := V252) rfl rfl (.inr ⟨_, _, _, rfl, rfl, ((L 1 rfl rfl).trans (congrArg Value.bool g265))⟩) rfl en47 (aC (L 0 rfl rfl) aN) (wk_ref21_Synced V252 _ x77 ow255 _ hx268) (fun _ _ _ _ => nd) (fun v270 V271 le272 hp273 => ?_)
                    obtain ⟨rfl, ow274⟩ := hp273
                    refine U.p rfl rfl (.inr ⟨_, _, _, rfl, rfl, ((L 5 rfl rfl).trans (congrArg Value.bool g246))⟩) (S.pickT rfl ((L 2 rfl rfl).trans (congrArg Value.bool g265)) (L 0 rfl rfl)) ?_
                    have e275 := Option.some.inj h269
                    subst e275
                    exact kk [(64, .bool x267), (63, .bool x267), (62, .agg #[.int .i64 x77.e.t, .int .i64 x77.e.act.kind, .int .i64 x77.e.act.at_, .int .i64 x77.e.act.val, .int .i64 x77.e.act.what, .bool x77.e.act.volatile, .bool x77.e.act.final, .int .i64 x77.e.rf, .int .i64 x77.e.id, .int .i64 x77.at_])] _ ⟨.bool x267, .agg #[.int .i64 x77.e.t, .int .i64 x77.e.act.kind, .int .i64 x77.e.act.at_, .int .i64 x77.e.act.val, .int .i64 x77.e.act.what, .bool x77.e.act.volatile, .bool x77.e.act.final, .int .i64 x77.e.rf, .int .i64 x77.e.id, .int .i64 x77.at_], V271, rfl, le272, rfl, ow274⟩
                  · have h276 := ifF g265 hy257
                    refine U.x rfl rfl rfl rfl ((L 0 rfl rfl).trans (congrArg Value.bool g265)) (by decide) ?_
                    refine U.x rfl rfl rfl rfl ((L 1 rfl rfl).trans (congrArg Value.bool g265)) (by decide) ?_
                    refine U.p rfl rfl (.inr ⟨_, _, _, rfl, rfl, ((L 5 rfl rfl).trans (congrArg Value.bool g246))⟩) (S.pickF rfl ((L 2 rfl rfl).trans (congrArg Value.bool g265)) K) ?_
                    have e277 := Option.some.inj h276
                    subst e277
                    exact kk [(64, .bool false), (63, .tuple #[]), (62, .tuple #[])] _ ⟨.tuple #[], .tuple #[], V252, rfl, (.refl _), rfl, ow255⟩
              · have h278 := ifF g246 hy129
                refine U.x rfl rfl rfl rfl ((L 0 rfl rfl).trans (congrArg Value.bool g246)) (by decide) ?_
                refine U.x rfl rfl rfl rfl ((L 1 rfl rfl).trans (congrArg Value.bool g246)) (by decide) ?_
                refine U.x rfl rfl rfl rfl ((L 2 rfl rfl).trans (congrArg Value.bool g246)) (by decide) ?_
                refine U.z rfl rfl rfl rfl (L 0 rfl rfl) ?_
                refine U.z rfl rfl rfl rfl (L 1 rfl rfl) ?_
                refine U.x rfl rfl rfl rfl ((L 5 rfl rfl).trans (congrArg Value.bool g246)) (by decide) ?_
                refine U.x rfl rfl rfl rfl ((L 6 rfl rfl).trans (congrArg Value.bool g246)) (by decide) ?_
                refine U.p rfl rfl (.inl rfl) (S.pickF rfl ((L 7 rfl rfl).trans (congrArg Value.bool g246)) K) ?_
                have e279 := Option.some.inj h278
                subst e279
                exact kk [(66, .bool false), (65, .tuple #[]), (64, .tuple #[]), (63, .tuple #[]), (62, .tuple #[]), (61, .tuple #[]), (60, .tuple #[]), (59, .tuple #[])] _ ⟨.tuple #[], .tuple #[], .tuple #[], .tuple #[], .tuple #[], .tuple #[], .tuple #[], V125, rfl, (.refl _), rfl, ow127⟩
          · intro kk
            refine bcase (b := ((decide (x24 ≠ x61)) && (decide (x39.e.t ≠ x77.e.t))) && (decide (x39.e.act.at_ = x77.e.act.at_))) (fun g280 => ?_) (fun g280 => ?_)
            · have h281 := ifT g280 hy117
              refine U.k rfl rfl (.inr ⟨_, _, _, rfl, rfl, ((L 0 rfl rfl).trans (congrArg Value.bool g280))⟩) (S.loadB rfl (L 33 rfl rfl) Try.underlying52 rfl ti52 (ow93.own (k := 3) rfl).get rfl) nd ?_
              obtain ⟨x282, hx283, h284⟩ := bindS h281
              refine O.call (V := V91) rfl rfl (.inr ⟨_, _, _, rfl, rfl, ((L 1 rfl rfl).trans (congrArg Value.bool g280))⟩) rfl en45 (aC (L 0 rfl rfl) aN) (wk_ref21_Writes V91 _ x39 ow93 _ hx283) (fun _ _ _ _ => nd) (fun v285 V286 le287 hp288 => ?_)
              obtain ⟨rfl, ow289⟩ := hp288
              refine U.p rfl rfl (.inr ⟨_, _, _, rfl, rfl, ((L 2 rfl rfl).trans (congrArg Value.bool g280))⟩) (S.move rfl (L 0 rfl rfl)) ?_
              obtain ⟨y290, hy291, h292⟩ := bindS h284
              refine U.joinX 30 (fun e H => ∃ (u293 u294 : Value), ∃ V' : Vw, H = V'.H ∧ V286.le V' ∧ e = [(56, .bool y290), (55, u293), (54, u294)] ∧ Ow V' (.pt b86 (.cells 10 [.int .i64 x77.e.t, .int .i64 x77.e.act.kind, .int .i64 x77.e.act.at_, .int .i64 x77.e.act.val, .int .i64 x77.e.act.what, .bool x77.e.act.volatile, .bool x77.e.act.final, .int .i64 x77.e.rf, .int .i64 x77.e.id, .int .i64 x77.at_]) :: .os RT_Tref21_Node v6 x3 :: .oss (RO.os RT.bool) v16 hs22 x13 :: .pt b53 (.cells 10 [.int .i64 x39.e.t, .int .i64 x39.e.act.kind, .int .i64 x39.e.act.at_, .int .i64 x39.e.act.val, .int .i64 x39.e.act.what, .bool x39.e.act.volatile, .bool x39.e.act.final, .int .i64 x39.e.rf, .int .i64 x39.e.id, .int .i64 x39.at_]) :: Rs)) ?_ ?_
              · rintro _ _ ⟨u293, u294, V295, rfl, le296, rfl, ow297⟩
                refine U.p rfl rfl (.inl rfl) (S.pickT rfl ((L 6 rfl rfl).trans (congrArg Value.bool g280)) (L 0 rfl rfl)) ?_
                have e298 := Option.some.inj h292
                subst e298
                exact kk [(57, .bool y290), (56, .bool y290), (55, u293), (54, u294), (53, .bool x282), (52, .bool x282), (51, .agg #[.int .i64 x39.e.t, .int .i64 x39.e.act.kind, .int .i64 x39.e.act.at_, .int .i64 x39.e.act.val, .int .i64 x39.e.act.what, .bool x39.e.act.volatile, .bool x39.e.act.final, .int .i64 x39.e.rf, .int .i64 x39.e.id, .int .i64 x39.at_])] _ ⟨.bool y290, u293, u294, .bool x282, .bool x282, .agg #[.int .i64 x39.e.t, .int .i64 x39.e.act.kind, .int .i64 x39.e.act.at_, .int .i64 x39.e.act.val, .int .i64 x39.e.act.what, .bool x39.e.act.volatile, .bool x39.e.act.final, .int .i64 x39.e.rf, .int .i64 x39.e.id, .int .i64 x39.at_], V295, rfl, (le287.trans le296), rfl, ow297⟩
              · intro kk
                refine bcase (b := x282) (fun g299 => ?_) (fun g299 => ?_)
                · have h300 := ifT g299 hy291
                  refine U.x rfl rfl rfl rfl ((L 0 rfl rfl).trans (congrArg Value.bool g299)) (by decide) ?_
                  refine U.x rfl rfl rfl rfl ((L 1 rfl rfl).trans (congrArg Value.bool g299)) (by decide) ?_
                  refine U.p rfl rfl (.inr ⟨_, _, _, rfl, rfl, ((L 5 rfl rfl).trans (congrArg Value.bool g280))⟩) (S.pickT rfl ((L 2 rfl rfl).trans (congrArg Value.bool g299)) K) ?_
                  have e301 := Option.some.inj h300
                  subst e301
                  exact kk [(56, .bool true), (55, .tuple #[]), (54, .tuple #[])] _ ⟨.tuple #[], .tuple #[], V286, rfl, (.refl _), rfl, ow289⟩
                · have h302 := ifF g299 hy291
                  refine U.k rfl rfl (.inr ⟨_, _, _, rfl, rfl, ((L 0 rfl rfl).trans (congrArg Value.bool g299))⟩) (S.loadB rfl (L 28 rfl rfl) Try.underlying52 rfl ti52 (ow289.own (k := 0) rfl).get rfl) nd ?_
                  obtain ⟨x303, hx304, h305⟩ := bindS h302
                  refine O.call (V := V286) rfl rfl (.inr ⟨_, _, _, rfl, rfl, ((L 1 rfl rfl).trans (congrArg Value.bool g299))⟩) rfl en45 (aC (L 0 rfl rfl) aN) (wk_ref21_Writes V286 _ x77 ow289 _ hx304) (fun _ _ _ _ => nd) (fun v306 V307 le308 hp309 => ?_)
                  obtain ⟨rfl, ow310⟩ := hp309
                  refine U.p rfl rfl (.inr ⟨_, _, _, rfl, rfl, ((L 5 rfl rfl).trans (congrArg Value.bool g280))⟩) (S.pickF rfl ((L 2 rfl rfl).trans (congrArg Value.bool g299)) (L 0 rfl rfl)) ?_
                  have e311 := Option.some.inj h305
                  subst e311
                  exact kk [(56, .bool x303), (55, .bool x303), (54, .agg #[.int .i64 x77.e.t, .int .i64 x77.e.act.kind, .int .i64 x77.e.act.at_, .int .i64 x77.e.act.val, .int .i64 x77.e.act.what, .bool x77.e.act.volatile, .bool x77.e.act.final, .int .i64 x77.e.rf, .int .i64 x77.e.id, .int .i64 x77.at_])] _ ⟨.bool x303, .agg #[.int .i64 x77.e.t, .int .i64 x77.e.act.kind, .int .i64 x77.e.act.at_, .int .i64 x77.e.act.val, .int .i64 x77.e.act.what, .bool x77.e.act.volatile, .bool x77.e.act.final, .int .i64 x77.e.rf, .int .i64 x77.e.id, .int .i64 x77.at_], V307, rfl, le308, rfl, ow310⟩
            · have h312 := ifF g280 hy117
              refine U.x rfl rfl rfl rfl ((L 0 rfl rfl).trans (congrArg Value.bool g280)) (by decide) ?_
              refine U.x rfl rfl rfl rfl ((L 1 rfl rfl).trans (congrArg Value.bool g280)) (by decide) ?_
              refine U.x rfl rfl rfl rfl ((L 2 rfl rfl).trans (congrArg Value.bool g280)) (by decide) ?_
              refine U.z rfl rfl rfl rfl (L 0 rfl rfl) ?_
              refine U.z rfl rfl rfl rfl (L 1 rfl rfl) ?_
              refine U.x rfl rfl rfl rfl ((L 5 rfl rfl).trans (congrArg Value.bool g280)) (by decide) ?_
              refine U.p rfl rfl (.inl rfl) (S.pickF rfl ((L 6 rfl rfl).trans (congrArg Value.bool g280)) K) ?_
              have e313 := Option.some.inj h312
              subst e313
              exact kk [(57, .bool false), (56, .tuple #[]), (55, .tuple #[]), (54, .tuple #[]), (53, .tuple #[]), (52, .tuple #[]), (51, .tuple #[])] _ ⟨.tuple #[], .tuple #[], .tuple #[], .tuple #[], .tuple #[], .tuple #[], V91, rfl, (.refl _), rfl, ow93⟩
        · intro kk
          refine bcase (b := (decide (x24 ≠ x61)) && (decide (x39.e.t ≠ x77.e.t))) (fun g314 => ?_) (fun g314 => ?_)
          · skip
            refine U.p (v := .pointer (some ⟨b53, 0, none⟩)) rfl rfl (.inr ⟨_, _, _, rfl, rfl, ((L 0 rfl rfl).trans (congrArg Value.bool g314))⟩) (S.fieldAddr rfl (L 22 rfl rfl) Try.underlying52 rfl ti31 rfl rfl) ?_
            refine U.p (v := .pointer (some ⟨b53, 1, none⟩)) rfl rfl (.inr ⟨_, _, _, rfl, rfl, ((L 1 rfl rfl).trans (congrArg Value.bool g314))⟩) (S.fieldAddr rfl (L 0 rfl rfl) Try.underlying31 rfl ti29 rfl rfl) ?_
            refine U.p (v := .pointer (some ⟨b53, 2, none⟩)) rfl rfl (.inr ⟨_, _, _, rfl, rfl, ((L 2 rfl rfl).trans (congrArg Value.bool g314))⟩) (S.fieldAddr rfl (L 0 rfl rfl) Try.underlying29 rfl ti3 rfl rfl) ?_
            refine U.k rfl rfl (.inr ⟨_, _, _, rfl, rfl, ((L 3 rfl rfl).trans (congrArg Value.bool g314))⟩) (S.load rfl (L 0 rfl rfl) Try.underlying3 rfl ((ow93.own (k := 3) rfl).cell rfl)) nd ?_
            refine U.p (v := .pointer (some ⟨b86, 0, none⟩)) rfl rfl (.inr ⟨_, _, _, rfl, rfl, ((L 4 rfl rfl).trans (congrArg Value.bool g314))⟩) (S.fieldAddr rfl (L 18 rfl rfl) Try.underlying52 rfl ti31 rfl rfl) ?_
            refine U.p (v := .pointer (some ⟨b86, 1, none⟩)) rfl rfl (.inr ⟨_, _, _, rfl, rfl, ((L 5 rfl rfl).trans (congrArg Value.bool g314))⟩) (S.fieldAddr rfl (L 0 rfl rfl) Try.underlying31 rfl ti29 rfl rfl) ?_
            refine U.p (v := .pointer (some ⟨b86, 2, none⟩)) rfl rfl (.inr ⟨_, _, _, rfl, rfl, ((L 6 rfl rfl).trans (congrArg Value.bool g314))⟩) (S.fieldAddr rfl (L 0 rfl rfl) Try.underlying29 rfl ti3 rfl rfl) ?_
            refine U.k rfl rfl (.inr ⟨_, _, _, rfl, rfl, ((L 7 rfl rfl).trans (congrArg Value.bool g314))⟩) (S.load rfl (L 0 rfl rfl) Try.underlying3 rfl ((ow93.own (k := 0) rfl).cell rfl)) nd ?_
            refine U.p rfl rfl (.inr ⟨_, _, _, rfl, rfl, ((L 8 rfl rfl).trans (congrArg Value.bool g314))⟩) (S.eqlI rfl (L 4 rfl rfl) (L 0 rfl rfl)) ?_
            refine U.p rfl rfl (.inl rfl) (S.pickT rfl ((L 9 rfl rfl).trans (congrArg Value.bool g314)) (L 0 rfl rfl)) ?_
            exact kk [(49, .bool (decide (x39.e.act.at_ = x77.e.act.at_))), (48, .bool (decide (x39.e.act.at_ = x77.e.act.at_))), (47, .int .i64 x77.e.act.at_), (46, .pointer (some ⟨b86, 2, none⟩)), (45, .pointer (some ⟨b86, 1, none⟩)), (44, .pointer (some ⟨b86, 0, none⟩)), (43, .int .i64 x39.e.act.at_), (42, .pointer (some ⟨b53, 2, none⟩)), (41, .pointer (some ⟨b53, 1, none⟩)), (40, .pointer (some ⟨b53, 0, none⟩))] _ ⟨.bool (decide (x39.e.act.at_ = x77.e.act.at_)), .int .i64 x77.e.act.at_, .pointer (some ⟨b86, 2, none⟩), .pointer (some ⟨b86, 1, none⟩), .pointer (some ⟨b86, 0, none⟩), .int .i64 x39.e.act.at_, .pointer (some ⟨b53, 2, none⟩), .pointer (some ⟨b53, 1, none⟩), .pointer (some ⟨b53, 0, none⟩), rfl, (by rw [g314, Bool.true_and])⟩
          · skip
            refine U.x rfl rfl rfl rfl ((L 0 rfl rfl).trans (congrArg Value.bool g314)) (by decide) ?_
            refine U.x rfl rfl rfl rfl ((L 1 rfl rfl).trans (congrArg Value.bool g314)) (by decide) ?_
            refine U.x rfl rfl rfl rfl ((L 2 rfl rfl).trans (congrArg Value.bool g314)) (by decide) ?_
            refine U.x rfl rfl rfl rfl ((L 3 rfl rfl).trans (congrArg Value.bool g314)) (by decide) ?_
            refine U.x rfl rfl rfl rfl ((L 4 rfl rfl).trans (congrArg Value.bool g314)) (by decide) ?_
            refine U.x rfl rfl rfl rfl ((L 5 rfl rfl).trans (congrArg Value.bool g314)) (by decide) ?_
            refine U.x rfl rfl rfl rfl ((L 6 rfl rfl).trans (congrArg Value.bool g314)) (by decide) ?_
            refine U.x rfl rfl rfl rfl ((L 7 rfl rfl).trans (congrArg Value.bool g314)) (by decide) ?_
            refine U.x rfl rfl rfl rfl ((L 8 rfl rfl).trans (congrArg Value.bool g314)) (by decide) ?_
            refine U.p rfl rfl (.inl rfl) (S.pickF rfl ((L 9 rfl rfl).trans (congrArg Value.bool g314)) K) ?_
            exact kk [(49, .bool false), (48, .tuple #[]), (47, .tuple #[]), (46, .tuple #[]), (45, .tuple #[]), (44, .tuple #[]), (43, .tuple #[]), (42, .tuple #[]), (41, .tuple #[]), (40, .tuple #[])] _ ⟨.tuple #[], .tuple #[], .tuple #[], .tuple #[], .tuple #[], .tuple #[], .tuple #[], .tuple #[], .tuple #[], rfl, (by rw [g314, Bool.false_and])⟩
      · intro kk
        refine bcase (b := decide (x24 ≠ x61)) (fun g315 => ?_) (fun g315 => ?_)
        · skip
          refine U.p (v := .pointer (some ⟨b53, 0, none⟩)) rfl rfl (.inr ⟨_, _, _, rfl, rfl, ((L 0 rfl rfl).trans (congrArg Value.bool g315))⟩) (S.fieldAddr rfl (L 13 rfl rfl) Try.underlying52 rfl ti31 rfl rfl) ?_
          refine U.p (v := .pointer (some ⟨b53, 0, none⟩)) rfl rfl (.inr ⟨_, _, _, rfl, rfl, ((L 1 rfl rfl).trans (congrArg Value.bool g315))⟩) (S.fieldAddr rfl (L 0 rfl rfl) Try.underlying31 rfl ti3 rfl rfl) ?_
          refine U.k rfl rfl (.inr ⟨_, _, _, rfl, rfl, ((L 2 rfl rfl).trans (congrArg Value.bool g315))⟩) (S.load rfl (L 0 rfl rfl) Try.underlying3 rfl ((ow93.own (k := 3) rfl).cell rfl)) nd ?_
          refine U.p (v := .pointer (some ⟨b86, 0, none⟩)) rfl rfl (.inr ⟨_, _, _, rfl, rfl, ((L 3 rfl rfl).trans (congrArg Value.bool g315))⟩) (S.fieldAddr rfl (L 8 rfl rfl) Try.underlying52 rfl ti31 rfl rfl) ?_
          refine U.p (v := .pointer (some ⟨b86, 0, none⟩)) rfl rfl (.inr ⟨_, _, _, rfl, rfl, ((L 4 rfl rfl).trans (congrArg Value.bool g315))⟩) (S.fieldAddr rfl (L 0 rfl rfl) Try.underlying31 rfl ti3 rfl rfl) ?_
          refine U.k rfl rfl (.inr ⟨_, _, _, rfl, rfl, ((L 5 rfl rfl).trans (congrArg Value.bool g315))⟩) (S.load rfl (L 0 rfl rfl) Try.underlying3 rfl ((ow93.own (k := 0) rfl).cell rfl)) nd ?_
          refine U.p rfl rfl (.inr ⟨_, _, _, rfl, rfl, ((L 6 rfl rfl).trans (congrArg Value.bool g315))⟩) (S.neqI rfl (L 3 rfl rfl) (L 0 rfl rfl)) ?_
          refine U.p rfl rfl (.inl rfl) (S.pickT rfl ((L 7 rfl rfl).trans (congrArg Value.bool g315)) (L 0 rfl rfl)) ?_
          exact kk [(38, .bool (decide (x39.e.t ≠ x77.e.t))), (37, .bool (decide (x39.e.t ≠ x77.e.t))), (36, .int .i64 x77.e.t), (35, .pointer (some ⟨b86, 0, none⟩)), (34, .pointer (some ⟨b86, 0, none⟩)), (33, .int .i64 x39.e.t), (32, .pointer (some ⟨b53, 0, none⟩)), (31, .pointer (some ⟨b53, 0, none⟩))] _ ⟨.bool (decide (x39.e.t ≠ x77.e.t)), .int .i64 x77.e.t, .pointer (some ⟨b86, 0, none⟩), .pointer (some ⟨b86, 0, none⟩), .int .i64 x39.e.t, .pointer (some ⟨b53, 0, none⟩), .pointer (some ⟨b53, 0, none⟩), rfl, (by rw [g315, Bool.true_and])⟩
        · skip
          refine U.x rfl rfl rfl rfl ((L 0 rfl rfl).trans (congrArg Value.bool g315)) (by decide) ?_
          refine U.x rfl rfl rfl rfl ((L 1 rfl rfl).trans (congrArg Value.bool g315)) (by decide) ?_
          refine U.x rfl rfl rfl rfl ((L 2 rfl rfl).trans (congrArg Value.bool g315)) (by decide) ?_
          refine U.x rfl rfl rfl rfl ((L 3 rfl rfl).trans (congrArg Value.bool g315)) (by decide) ?_
          refine U.x rfl rfl rfl rfl ((L 4 rfl rfl).trans (congrArg Value.bool g315)) (by decide) ?_
          refine U.x rfl rfl rfl rfl ((L 5 rfl rfl).trans (congrArg Value.bool g315)) (by decide) ?_
          refine U.x rfl rfl rfl rfl ((L 6 rfl rfl).trans (congrArg Value.bool g315)) (by decide) ?_
          refine U.p rfl rfl (.inl rfl) (S.pickF rfl ((L 7 rfl rfl).trans (congrArg Value.bool g315)) K) ?_
          exact kk [(38, .bool false), (37, .tuple #[]), (36, .tuple #[]), (35, .tuple #[]), (34, .tuple #[]), (33, .tuple #[]), (32, .tuple #[]), (31, .tuple #[])] _ ⟨.tuple #[], .tuple #[], .tuple #[], .tuple #[], .tuple #[], .tuple #[], .tuple #[], rfl, (by rw [g315, Bool.false_and])⟩
    · have h316 := ifF c75 h74
      refine WP.exit ?_
      refine sqE (sqE (blkE (blkN (sqN ?_))))
      have h317 := exitS h316 e72
      refine WP.ureg rfl ?_
      refine U.p rfl rfl (.inl rfl) (S.add rfl (L 7 rfl rfl) K) ?_
      refine U.p rfl rfl (.inl rfl) (S.move rfl (L 0 rfl rfl)) ?_
      refine U.done (Nat.le_of_ble_eq_true rfl) ?_
      refine sqN ?_
      have ow318 := ow69.drop 2 rfl
      exact ⟨_, V67, rfl, ⟨m32, Nat.lt_succ_self _, w64 (x24 + 1), rfl, (((le30.trans le55).trans le59).trans le68), ow318, backS h317 e34⟩, (allCons (L 3 rfl rfl) (allCons (L 4 rfl rfl) (allCons (L 7 rfl rfl) (allCons (L 8 rfl rfl) (allCons (L 0 rfl rfl) allNil)))))⟩
  · have h319 := ifF c37 h36
    refine WP.exit ?_
    refine sqE (sqE (blkE (sqN ?_)))
    have h320 := exitS h319 e34
    refine WP.usreg rfl ?_
    refine U.p rfl rfl (.inl rfl) (S.assign rfl K) ?_
    refine U.done (Nat.le_of_ble_eq_true rfl) ?_
    refine WP.ret ?_
    refine fin.slot (.inr rfl) rfl (L 0 rfl rfl) ⟨V29, rfl, ((le8.trans le18).trans le30), ?_⟩
    have ow321 := ow31.drop 0 rfl
    have ow322 := ow321.drop 0 rfl
    have e323 := Option.some.inj h320
    subst e323
    exact ⟨rfl, ow322⟩

set_option maxHeartbeats 4000000 in
set_option maxRecDepth 10000 in
theorem wk_law21_OrderHappens (V : Vw) (Rs : List At) (p0 : List (List TEvent)) (v1 : Value) (f2 : Fz (RT.sl RT_TEvent) V v1 p0) (ow : Ow V (Rs)) (r : Bool) (h : law21_OrderHappens p0 = some r) : ∃ v V', Cl Try.prog 0 5 #[v1] V.H v V'.H ∧ V.le V' ∧ (v = .bool r ∧ Ow V' (Rs)) := by
  refine Ct.of (Nat.zero_le _) Try.func5 rfl (Nat.le_of_ble_eq_true rfl) ?_
  unfold law21_OrderHappens at h
  refine WP.usreg rfl ?_
  refine U.p rfl rfl (.inl rfl) (S.assign rfl K) ?_
  refine U.done (Nat.le_of_ble_eq_true rfl) ?_
  refine WP.seq ?_
  refine WP.usreg rfl ?_
  obtain ⟨x3, hx4, h5⟩ := bindS h
  refine O.call (V := V) rfl rfl (.inl rfl) rfl en8 aN (wk_law21_alive V _ ow _ hx4) (fun _ _ _ _ => nd) (fun v6 V7 le8 hp9 => ?_)
  obtain ⟨rfl, ow10⟩ := hp9
  refine U.p rfl rfl (.inl rfl) (S.not rfl (L 0 rfl rfl)) ?_
  refine U.done (Nat.le_of_ble_eq_true rfl) ?_
  refine WP.cond _ (L 0 rfl rfl) rfl (fun c11 => ?_) (fun c11 => ?_)
  · have h12 := ifT c11 h5
    have k13 : x3 = false := by simpa using c11
    refine WP.usreg rfl ?_
    refine U.p rfl rfl (.inl rfl) (S.assign rfl K) ?_
    refine U.done (Nat.le_of_ble_eq_true rfl) ?_
    refine WP.ret ?_
    refine sqR ?_
    refine fin.slot (.inr rfl) rfl (L 0 rfl rfl) ⟨V7, rfl, le8, ?_⟩
    have e14 := Option.some.inj h12
    subst e14
    exact ⟨rfl, ow10⟩
  · have h15 := ifF c11 h5
    have k16 : x3 = true := by simpa using c11
    refine WP.skip ?_
    refine sqN ?_
    refine WP.seq ?_
    refine WP.usreg rfl ?_
    refine U.p rfl rfl (.inl rfl) (S.move rfl (L 3 rfl rfl)) ?_
    have f17 := f2.up le8
    obtain ⟨x18, hx19, h20⟩ := bindS h15
    refine O.call (V := V7) rfl rfl (.inl rfl) rfl en9 (aC (L 0 rfl rfl) aN) (wk_law21_great V7 _ p0 v1 f17 ow10 _ hx19) (fun _ _ _ _ => nd) (fun v21 V22 le23 hp24 => ?_)
    obtain ⟨rfl, ow25⟩ := hp24
    refine U.p rfl rfl (.inl rfl) (S.move rfl (L 0 rfl rfl)) ?_
    obtain ⟨y26, hy27, h28⟩ := bindS h20
    refine U.joinX 7 (fun e H => ∃ (u29 u30 u31 : Value), ∃ V' : Vw, H = V'.H ∧ V22.le V' ∧ e = [(12, .bool y26), (11, u29), (10, u30), (9, u31)] ∧ Ow V' (Rs)) ?_ ?_
    · rintro _ _ ⟨u29, u30, u31, V32, rfl, le33, rfl, ow34⟩
      refine U.done (Nat.le_of_ble_eq_true rfl) ?_
      refine WP.cond _ (L 0 rfl rfl) rfl (fun c35 => ?_) (fun c35 => ?_)
      · have h36 := ifT c35 h28
        refine WP.usreg rfl ?_
        refine U.p rfl rfl (.inl rfl) (S.assign rfl K) ?_
        refine U.done (Nat.le_of_ble_eq_true rfl) ?_
        refine WP.ret ?_
        refine sqR ?_
        refine fin.slot (.inr rfl) rfl (L 0 rfl rfl) ⟨V32, rfl, ((le8.trans le23).trans le33), ?_⟩
        have e37 := Option.some.inj h36
        subst e37
        exact ⟨rfl, ow34⟩
      · have h38 := ifF c35 h28
        refine WP.skip ?_
        refine sqN ?_
        refine WP.usreg rfl ?_
        refine U.p rfl rfl (.inl rfl) (S.move rfl (L 10 rfl rfl)) ?_
        refine U.p rfl rfl (.inl rfl) (S.assign rfl (L 0 rfl rfl)) ?_
        refine U.done (Nat.le_of_ble_eq_true rfl) ?_
        refine WP.usreg rfl ?_
        refine U.p rfl rfl (.inl rfl) (S.move rfl (L 0 rfl rfl)) ?_
        have f39 := f17.up (le23.trans le33)
        obtain ⟨x40, hx41, h42⟩ := bindS h38
        refine O.call (V := V32) rfl rfl (.inl rfl) rfl en15 (aC (L 0 rfl rfl) aN) (wk_order_Run_Consistent V32 _ p0 v1 f39 ow34 _ hx41) (fun _ _ _ _ => nd) (fun v43 V44 le45 hp46 => ?_)
        obtain ⟨rfl, ow47⟩ := hp46
        refine U.p rfl rfl (.inl rfl) (S.move rfl (L 14 rfl rfl)) ?_
        have f48 := f39.up le45
        obtain ⟨x49, hx50, h51⟩ := bindS h42
        refine O.call (V := V44) rfl rfl (.inl rfl) rfl en16 (aC (L 0 rfl rfl) aN) (wk_ref21_Consistent V44 _ p0 v1 f48 ow47 _ hx50) (fun _ _ _ _ => nd) (fun v52 V53 le54 hp55 => ?_)
        obtain ⟨rfl, ow56⟩ := hp55
        refine U.p rfl rfl (.inl rfl) (S.eqlB rfl (L 2 rfl rfl) (L 0 rfl rfl) Try.underlying4) ?_
        refine U.p rfl rfl (.inl rfl) (S.move rfl (L 0 rfl rfl)) ?_
        obtain ⟨y57, hy58, h59⟩ := bindS h51
        refine U.joinX 12 (fun e H => ∃ (u60 u61 u62 u63 u64 : Value), ∃ V' : Vw, H = V'.H ∧ V53.le V' ∧ e = [(25, .bool y57), (24, u60), (23, u61), (22, u62), (21, u63), (20, u64)] ∧ Ow V' (Rs)) ?_ ?_
        · rintro _ _ ⟨u60, u61, u62, u63, u64, V65, rfl, le66, rfl, ow67⟩
          refine U.p rfl rfl (.inl rfl) (S.assign rfl (L 0 rfl rfl)) ?_
          refine U.done (Nat.le_of_ble_eq_true rfl) ?_
          refine WP.ret ?_
          refine fin.slot (.inr rfl) rfl (L 0 rfl rfl) ⟨V65, rfl, (((((le8.trans le23).trans le33).trans le45).trans le54).trans le66), ?_⟩
          have e68 := Option.some.inj h59
          subst e68
          exact ⟨rfl, ow67⟩
        · intro kk
          refine bcase (b := x40 == x49) (fun g69 => ?_) (fun g69 => ?_)
          · have h70 := ifT g69 hy58
            refine U.p rfl rfl (.inr ⟨_, _, _, rfl, rfl, ((L 0 rfl rfl).trans (congrArg Value.bool g69))⟩) (S.move rfl (L 6 rfl rfl)) ?_
            have f71 := f48.up le54
            obtain ⟨x72, hx73, h74⟩ := bindS h70
            refine O.call (V := V53) rfl rfl (.inr ⟨_, _, _, rfl, rfl, ((L 1 rfl rfl).trans (congrArg Value.bool g69))⟩) rfl en17 (aC (L 0 rfl rfl) aN) (wk_order_Run_Racy_2 V53 _ p0 v1 f71 ow56 _ hx73) (fun _ _ _ _ => nd) (fun v75 V76 le77 hp78 => ?_)
            obtain ⟨rfl, ow79⟩ := hp78
            refine U.p rfl rfl (.inr ⟨_, _, _, rfl, rfl, ((L 2 rfl rfl).trans (congrArg Value.bool g69))⟩) (S.move rfl (L 20 rfl rfl)) ?_
            have f80 := f71.up le77
            obtain ⟨x81, hx82, h83⟩ := bindS h74
            refine O.call (V := V76) rfl rfl (.inr ⟨_, _, _, rfl, rfl, ((L 3 rfl rfl).trans (congrArg Value.bool g69))⟩) rfl en18 (aC (L 0 rfl rfl) aN) (wk_ref21_Racy V76 _ p0 v1 f80 ow79 _ hx82) (fun _ _ _ _ => nd) (fun v84 V85 le86 hp87 => ?_)
            obtain ⟨rfl, ow88⟩ := hp87
            refine U.p rfl rfl (.inr ⟨_, _, _, rfl, rfl, ((L 4 rfl rfl).trans (congrArg Value.bool g69))⟩) (S.eqlB rfl (L 2 rfl rfl) (L 0 rfl rfl) Try.underlying4) ?_
            refine U.p rfl rfl (.inl rfl) (S.pickT rfl ((L 5 rfl rfl).trans (congrArg Value.bool g69)) (L 0 rfl rfl)) ?_
            have e89 := Option.some.inj h83
            subst e89
            exact kk [(25, .bool (x72 == x81)), (24, .bool (x72 == x81)), (23, .bool x81), (22, v1), (21, .bool x72), (20, v1)] _ ⟨.bool (x72 == x81), .bool x81, v1, .bool x72, v1, V85, rfl, (le77.trans le86), rfl, ow88⟩
          · have h90 := ifF g69 hy58
            refine U.x rfl rfl rfl rfl ((L 0 rfl rfl).trans (congrArg Value.bool g69)) (by decide) ?_
            refine U.x rfl rfl rfl rfl ((L 1 rfl rfl).trans (congrArg Value.bool g69)) (by decide) ?_
            refine U.x rfl rfl rfl rfl ((L 2 rfl rfl).trans (congrArg Value.bool g69)) (by decide) ?_
            refine U.x rfl rfl rfl rfl ((L 3 rfl rfl).trans (congrArg Value.bool g69)) (by decide) ?_
            refine U.x rfl rfl rfl rfl ((L 4 rfl rfl).trans (congrArg Value.bool g69)) (by decide) ?_
            refine U.p rfl rfl (.inl rfl) (S.pickF rfl ((L 5 rfl rfl).trans (congrArg Value.bool g69)) K) ?_
            have e91 := Option.some.inj h90
            subst e91
            exact kk [(25, .bool false), (24, .tuple #[]), (23, .tuple #[]), (22, .tuple #[]), (21, .tuple #[]), (20, .tuple #[])] _ ⟨.tuple #[], .tuple #[], .tuple #[], .tuple #[], .tuple #[], V53, rfl, (.refl _), rfl, ow56⟩
    · intro kk
      refine bcase (b := x18) (fun g92 => ?_) (fun g92 => ?_)
      · have h93 := ifT g92 hy27
        refine U.x rfl rfl rfl rfl ((L 0 rfl rfl).trans (congrArg Value.bool g92)) (by decide) ?_
        refine U.x rfl rfl rfl rfl ((L 1 rfl rfl).trans (congrArg Value.bool g92)) (by decide) ?_
        refine U.x rfl rfl rfl rfl ((L 2 rfl rfl).trans (congrArg Value.bool g92)) (by decide) ?_
        refine U.p rfl rfl (.inl rfl) (S.pickT rfl ((L 3 rfl rfl).trans (congrArg Value.bool g92)) K) ?_
        have e94 := Option.some.inj h93
        subst e94
        exact kk [(12, .bool true), (11, .tuple #[]), (10, .tuple #[]), (9, .tuple #[])] _ ⟨.tuple #[], .tuple #[], .tuple #[], V22, rfl, (.refl _), rfl, ow25⟩
      · have h95 := ifF g92 hy27
        refine U.p rfl rfl (.inr ⟨_, _, _, rfl, rfl, ((L 0 rfl rfl).trans (congrArg Value.bool g92))⟩) (S.move rfl (L 6 rfl rfl)) ?_
        have f96 := f17.up le23
        obtain ⟨x97, hx98, h99⟩ := bindS h95
        refine O.call (V := V22) rfl rfl (.inr ⟨_, _, _, rfl, rfl, ((L 1 rfl rfl).trans (congrArg Value.bool g92))⟩) rfl en10 (aC (L 0 rfl rfl) aN) (wk_ref21_Good V22 _ p0 v1 f96 ow25 _ hx98) (fun _ _ _ _ => nd) (fun v100 V101 le102 hp103 => ?_)
        obtain ⟨rfl, ow104⟩ := hp103
        refine U.p rfl rfl (.inr ⟨_, _, _, rfl, rfl, ((L 2 rfl rfl).trans (congrArg Value.bool g92))⟩) (S.not rfl (L 0 rfl rfl)) ?_
        refine U.p rfl rfl (.inl rfl) (S.pickF rfl ((L 3 rfl rfl).trans (congrArg Value.bool g92)) (L 0 rfl rfl)) ?_
        have e105 := Option.some.inj h99
        subst e105
        exact kk [(12, .bool (!x97)), (11, .bool (!x97)), (10, .bool x97), (9, v1)] _ ⟨.bool (!x97), .bool x97, v1, V101, rfl, le102, rfl, ow104⟩

end Go.Vm.GH21
