/-
  What the functions compute is what the plain ones say, for all inputs at which those answer.
-/
import Derived.Test.YtdgkhadbanbmhaaEWG12
set_option linter.unusedSimpArgs false
set_option linter.unusedVariables false
namespace Go.Vm.G12
open Go Go.Proofs

set_option maxHeartbeats 4000000 in
theorem wk_ref08_ins (V : Vw) (Rs : List At) (p0 : TFunc) (p1 : TIns) (v1 : Value) (v3 : Value) (f2 : Fz RT_TIns V v1 p0.code) (f4 : Fz (RT.int .i64) V v3 p1.args) (ow : Ow V (Rs)) (r : Bool) (h : ref08_ins p0 p1 = some r) : ∃ v V', Cl Try.prog 0 16 #[.agg #[.string p0.name, .int .i64 p0.params, .int .i64 p0.regs, v1], .agg #[.int .i64 p1.op, .int .i64 p1.d, .int .i64 p1.a, .int .i64 p1.b, .int .i64 p1.imm, v3, .int .i64 p1.what, .bool p1.volatile, .bool p1.final]] V.H v V'.H ∧ V.le V' ∧ (v = .bool r ∧ Ow V' (Rs)) := by
  refine Ct.of (Nat.zero_le _) Try.func16 rfl (Nat.le_of_ble_eq_true rfl) ?_
  unfold ref08_ins at h
  refine WP.usreg rfl ?_
  refine O.box ow rfl rfl (.inl rfl) rfl (L 0 rfl rfl) (by simp [topV]) rfl nd (fun b5 V6 le7 ow8 => ?_)
  refine O.box ow8 rfl rfl (.inl rfl) rfl (L 2 rfl rfl) (by simp [topV]) rfl nd (fun b10 V11 le12 ow13 => ?_)
  refine U.p rfl rfl (.inl rfl) (S.assign rfl K) ?_
  refine U.done (Nat.le_of_ble_eq_true rfl) ?_
  refine WP.seq ?_
  refine WP.usreg rfl ?_
  refine U.p (v := .pointer (some ⟨b10, 0, none⟩)) rfl rfl (.inl rfl) (S.fieldAddr rfl (L 1 rfl rfl) Try.underlying42 rfl ti3 rfl rfl) ?_
  refine U.k rfl rfl (.inl rfl) (S.load rfl (L 0 rfl rfl) Try.underlying3 rfl ((ow13.own (k := 0) rfl).cell rfl)) nd ?_
  refine U.p rfl rfl (.inl rfl) (S.lss rfl (L 0 rfl rfl) K) ?_
  refine U.p rfl rfl (.inl rfl) (S.move rfl (L 0 rfl rfl)) ?_
  refine U.joinX 8 (fun e H => ∃ (u15 u16 u17 : Value), H = V11.H ∧ e = [(18, .bool ((decide (p1.op < 1)) || (decide (22 < p1.op)))), (17, u15), (16, u16), (15, u17)]) ?_ ?_
  · rintro _ _ ⟨u15, u16, u17, rfl, rfl⟩
    refine U.done (Nat.le_of_ble_eq_true rfl) ?_
    refine WP.cond _ (L 0 rfl rfl) rfl (fun c21 => ?_) (fun c21 => ?_)
    · have h22 := ifT c21 h
      refine WP.usreg rfl ?_
      refine U.p rfl rfl (.inl rfl) (S.assign rfl K) ?_
      refine U.done (Nat.le_of_ble_eq_true rfl) ?_
      refine WP.ret ?_
      refine sqR ?_
      refine fin.slot (.inr rfl) rfl (L 0 rfl rfl) ⟨V11, rfl, (le7.trans le12), ?_⟩
      have ow23 := ow13.drop 0 rfl
      have ow24 := ow23.drop 0 rfl
      have e25 := Option.some.inj h22
      subst e25
      exact ⟨rfl, ow24⟩
    · have h26 := ifF c21 h
      refine WP.skip ?_
      refine sqN ?_
      refine WP.usreg rfl ?_
      refine U.p (v := .pointer (some ⟨b10, 0, none⟩)) rfl rfl (.inl rfl) (S.fieldAddr rfl (L 9 rfl rfl) Try.underlying42 rfl ti3 rfl rfl) ?_
      refine U.k rfl rfl (.inl rfl) (S.load rfl (L 0 rfl rfl) Try.underlying3 rfl ((ow13.own (k := 0) rfl).cell rfl)) nd ?_
      obtain ⟨x27, hx28, h29⟩ := bindS h26
      refine O.call (V := V11) rfl rfl (.inl rfl) rfl en24 (aC (L 0 rfl rfl) aN) (wk_ref08_has V11 _ p1.op ow13 _ hx28) (fun _ _ _ _ => nd) (fun v30 V31 le32 hp33 => ?_)
      obtain ⟨rfl, ow34⟩ := hp33
      refine U.p rfl rfl (.inl rfl) (S.move rfl (L 0 rfl rfl)) ?_
      refine U.p rfl rfl (.inl rfl) (S.extract rfl (L 0 rfl rfl) rfl (Nat.le_of_ble_eq_true rfl)) ?_
      refine U.p rfl rfl (.inl rfl) (S.extract rfl (L 1 rfl rfl) rfl (Nat.le_of_ble_eq_true rfl)) ?_
      refine U.p rfl rfl (.inl rfl) (S.extract rfl (L 2 rfl rfl) rfl (Nat.le_of_ble_eq_true rfl)) ?_
      refine U.p rfl rfl (.inl rfl) (S.extract rfl (L 3 rfl rfl) rfl (Nat.le_of_ble_eq_true rfl)) ?_
      refine U.p rfl rfl (.inl rfl) (S.assign rfl (L 3 rfl rfl)) ?_
      refine U.p rfl rfl (.inl rfl) (S.assign rfl (L 3 rfl rfl)) ?_
      refine U.p rfl rfl (.inl rfl) (S.assign rfl (L 3 rfl rfl)) ?_
      refine U.p rfl rfl (.inl rfl) (S.assign rfl (L 3 rfl rfl)) ?_
      refine U.done (Nat.le_of_ble_eq_true rfl) ?_
      refine WP.seqI (fun l V' => ∃ (x35 : Bool), l = [(2, .pointer (some ⟨b5, 0, none⟩)), (3, .pointer (some ⟨b10, 0, none⟩)), (5, .bool x27.1), (6, .bool x35), (7, .bool x27.2.2.1), (8, .bool x27.2.2.2)] ∧ V31.le V' ∧ Ow V' (.pt b5 (.cells 0 [.string p0.name, .int .i64 p0.params, .int .i64 p0.regs, v1]) :: .pt b10 (.cells 0 [.int .i64 p1.op, .int .i64 p1.d, .int .i64 p1.a, .int .i64 p1.b, .int .i64 p1.imm, v3, .int .i64 p1.what, .bool p1.volatile, .bool p1.final]) :: Rs) ∧ ref08_ins_k1 p0 p1 x27 x35 = some r) ?_ ?_
      · rintro _ V36 ⟨x35, rfl, le37, ow38, h39⟩
        unfold ref08_ins_k1 at h39
        refine WP.seq ?_
        refine WP.usreg rfl ?_
        refine U.p rfl rfl (.inl rfl) (S.move rfl (L 2 rfl rfl)) ?_
        refine U.p (v := .pointer (some ⟨b10, 0, none⟩)) rfl rfl (.inl rfl) (S.fieldAddr rfl (L 2 rfl rfl) Try.underlying42 rfl ti3 rfl rfl) ?_
        refine U.k rfl rfl (.inl rfl) (S.load rfl (L 0 rfl rfl) Try.underlying3 rfl ((ow38.own (k := 1) rfl).cell rfl)) nd ?_
        refine U.p rfl rfl (.inl rfl) (S.eqlI rfl (L 0 rfl rfl) K) ?_
        refine U.p (v := .pointer (some ⟨b10, 1, none⟩)) rfl rfl (.inl rfl) (S.fieldAddr rfl (L 5 rfl rfl) Try.underlying42 rfl ti3 rfl rfl) ?_
        refine U.k rfl rfl (.inl rfl) (S.load rfl (L 0 rfl rfl) Try.underlying3 rfl ((ow38.own (k := 1) rfl).cell rfl)) nd ?_
        refine U.p (v := .pointer (some ⟨b5, 2, none⟩)) rfl rfl (.inl rfl) (S.fieldAddr rfl (L 6 rfl rfl) Try.underlying33 rfl ti3 rfl rfl) ?_
        refine U.k rfl rfl (.inl rfl) (S.load rfl (L 0 rfl rfl) Try.underlying3 rfl ((ow38.own (k := 0) rfl).cell rfl)) nd ?_
        obtain ⟨x40, hx41, h42⟩ := bindS h39
        refine O.call (V := V36) rfl rfl (.inl rfl) rfl en25 (aC (L 7 rfl rfl) (aC (L 4 rfl rfl) (aC (L 2 rfl rfl) (aC (L 0 rfl rfl) aN)))) (wk_ref08_register V36 _ x27.1 (decide (p1.op = 14)) p1.d p0.regs ow38 _ hx41) (fun _ _ _ _ => nd) (fun v43 V44 le45 hp46 => ?_)
        obtain ⟨rfl, ow47⟩ := hp46
        refine U.p rfl rfl (.inl rfl) (S.not rfl (L 0 rfl rfl)) ?_
        refine U.p rfl rfl (.inl rfl) (S.move rfl (L 0 rfl rfl)) ?_
        obtain ⟨y48, hy49, h50⟩ := bindS h42
        refine U.joinX 32 (fun e H => ∃ (u51 u52 u53 u54 u55 u56 u57 u58 u59 u60 u61 u62 u63 u64 u65 u66 u67 u68 u69 u70 : Value), ∃ V' : Vw, H = V'.H ∧ V44.le V' ∧ e = [(72, .bool y48), (71, u51), (70, u52), (69, u53), (68, u54), (67, u55), (66, u56), (65, u57), (64, u58), (63, u59), (62, u60), (61, u61), (60, u62), (59, u63), (58, u64), (57, u65), (56, u66), (55, u67), (54, u68), (53, u69), (52, u70)] ∧ Ow V' (.pt b5 (.cells 0 [.string p0.name, .int .i64 p0.params, .int .i64 p0.regs, v1]) :: .pt b10 (.cells 0 [.int .i64 p1.op, .int .i64 p1.d, .int .i64 p1.a, .int .i64 p1.b, .int .i64 p1.imm, v3, .int .i64 p1.what, .bool p1.volatile, .bool p1.final]) :: Rs)) ?_ ?_
        · rintro _ _ ⟨u51, u52, u53, u54, u55, u56, u57, u58, u59, u60, u61, u62, u63, u64, u65, u66, u67, u68, u69, u70, V71, rfl, le72, rfl, ow73⟩
          refine U.p rfl rfl (.inl rfl) (S.move rfl (L 0 rfl rfl)) ?_
          obtain ⟨y74, hy75, h76⟩ := bindS h50
          refine U.joinX 41 (fun e H => ∃ (u77 u78 u79 u80 u81 u82 u83 : Value), ∃ V' : Vw, H = V'.H ∧ V71.le V' ∧ e = [(81, .bool y74), (80, u77), (79, u78), (78, u79), (77, u80), (76, u81), (75, u82), (74, u83)] ∧ Ow V' (.pt b5 (.cells 0 [.string p0.name, .int .i64 p0.params, .int .i64 p0.regs, v1]) :: .pt b10 (.cells 0 [.int .i64 p1.op, .int .i64 p1.d, .int .i64 p1.a, .int .i64 p1.b, .int .i64 p1.imm, v3, .int .i64 p1.what, .bool p1.volatile, .bool p1.final]) :: Rs)) ?_ ?_
          · rintro _ _ ⟨u77, u78, u79, u80, u81, u82, u83, V84, rfl, le85, rfl, ow86⟩
            refine U.done (Nat.le_of_ble_eq_true rfl) ?_
            refine WP.cond _ (L 0 rfl rfl) rfl (fun c87 => ?_) (fun c87 => ?_)
            · have h88 := ifT c87 h76
              refine WP.usreg rfl ?_
              refine U.p rfl rfl (.inl rfl) (S.assign rfl K) ?_
              refine U.done (Nat.le_of_ble_eq_true rfl) ?_
              refine WP.ret ?_
              refine sqR ?_
              refine fin.slot (.inr rfl) rfl (L 0 rfl rfl) ⟨V84, rfl, ((((((le7.trans le12).trans le32).trans le37).trans le45).trans le72).trans le85), ?_⟩
              have ow89 := ow86.drop 0 rfl
              have ow90 := ow89.drop 0 rfl
              have e91 := Option.some.inj h88
              subst e91
              exact ⟨rfl, ow90⟩
            · have h92 := ifF c87 h76
              refine WP.skip ?_
              refine sqN ?_
              refine WP.seq ?_
              refine WP.usreg rfl ?_
              refine U.p (v := .pointer (some ⟨b10, 5, none⟩)) rfl rfl (.inl rfl) (S.fieldAddr rfl (L 42 rfl rfl) Try.underlying42 rfl ti23 rfl rfl) ?_
              refine U.k rfl rfl (.inl rfl) (S.load rfl (L 0 rfl rfl) Try.underlying23 rfl ((ow86.own (k := 1) rfl).cell rfl)) nd ?_
              refine U.p rfl rfl (.inl rfl) (f4.1.len rfl (L 0 rfl rfl) Try.underlying23) ?_
              refine U.p rfl rfl (.inl rfl) (S.move rfl K) ?_
              refine U.done (Nat.le_of_ble_eq_true rfl) ?_
              refine WP.blk ?_
              unfold ref08_ins_l1 at h92
              obtain ⟨n95, hn94⟩ := loopO_some.1 h92
              refine WP.loopI2 (fun n l V' => ∃ (x93 : Int), l = [(2, .pointer (some ⟨b5, 0, none⟩)), (3, .pointer (some ⟨b10, 0, none⟩)), (8, .bool x27.2.2.2), (83, v3), (84, .int .i64 (p1.args.length : Int)), (85, .int .i64 x93)] ∧ V84.le V' ∧ Ow V' (.pt b5 (.cells 0 [.string p0.name, .int .i64 p0.params, .int .i64 p0.regs, v1]) :: .pt b10 (.cells 0 [.int .i64 p1.op, .int .i64 p1.d, .int .i64 p1.a, .int .i64 p1.b, .int .i64 p1.imm, v3, .int .i64 p1.what, .bool p1.volatile, .bool p1.final]) :: Rs) ∧ itO (fun s => ref08_ins_l1b p0 p1 x27 s) n x93 = some r) n95 _ ⟨0, rfl, .refl _, ow86, hn94⟩ (allCons (L 45 rfl rfl) (allCons (L 46 rfl rfl) (allCons (L 50 rfl rfl) (allCons (L 2 rfl rfl) (allCons (L 1 rfl rfl) (allCons (L 0 rfl rfl) allNil)))))) ?_
              rintro _ _ V96 ⟨x93, rfl, le97, ow98, h102⟩
              obtain ⟨m99, q100, rfl, h103, e101⟩ := itS h102
              replace h103 : ref08_ins_l1b p0 p1 x27 x93 = some q100 := h103
              unfold ref08_ins_l1b at h103
              refine WP.usreg rfl ?_
              refine U.p rfl rfl (.inl rfl) (S.lss rfl (L 5 rfl rfl) (L 4 rfl rfl)) ?_
              refine U.done (Nat.le_of_ble_eq_true rfl) ?_
              refine WP.seq ?_
              refine WP.cond _ (L 0 rfl rfl) rfl (fun c104 => ?_) (fun c104 => ?_)
              · have h105 := ifT c104 h103
                refine WP.skip ?_
                refine sqN ?_
                refine WP.seq ?_
                refine WP.blk ?_
                refine WP.usreg rfl ?_
                obtain ⟨x106, hx107, h108⟩ := bindS h105
                obtain ⟨b109, o110, c111, cs112, hv113, hf114, hr115, hc116⟩ := f4.at hx107
                obtain rfl : cs112 = [.int .i64 x106] := hr115
                refine U.p rfl rfl (.inl rfl) (S.index rfl ((L 4 rfl rfl).trans hv113) (L 6 rfl rfl) Try.underlying23 ti3 (ix_ge hx107) (ix_lt hx107)) ?_
                refine U.k rfl rfl (.inl rfl) (S.load rfl (L 0 rfl rfl) Try.underlying3 rfl ((((((((le7.trans le12).trans le32).trans le37).trans le45).trans le72).trans le85).trans le97).cell hf114 (hc116 0 _ rfl))) nd ?_
                refine U.p rfl rfl (.inl rfl) (S.assign rfl (L 0 rfl rfl)) ?_
                refine U.done (Nat.le_of_ble_eq_true rfl) ?_
                refine WP.usreg rfl ?_
                refine U.p (v := .pointer (some ⟨b10, 0, none⟩)) rfl rfl (.inl rfl) (S.fieldAddr rfl (L 5 rfl rfl) Try.underlying42 rfl ti3 rfl rfl) ?_
                refine U.k rfl rfl (.inl rfl) (S.load rfl (L 0 rfl rfl) Try.underlying3 rfl ((ow98.own (k := 1) rfl).cell rfl)) nd ?_
                refine U.p rfl rfl (.inl rfl) (S.neqI rfl (L 0 rfl rfl) K) ?_
                refine U.p rfl rfl (.inl rfl) (S.move rfl (L 0 rfl rfl)) ?_
                refine U.joinX 7 (fun e H => ∃ (u117 u118 : Value), H = V96.H ∧ e = [(95, .bool ((decide (p1.op ≠ 14)) || (decide (x106 < 0)))), (94, u117), (93, u118)]) ?_ ?_
                · rintro _ _ ⟨u117, u118, rfl, rfl⟩
                  refine U.p rfl rfl (.inl rfl) (S.move rfl (L 0 rfl rfl)) ?_
                  refine U.joinX 13 (fun e H => ∃ (u122 u123 u124 u125 : Value), H = V96.H ∧ e = [(101, .bool (((decide (p1.op ≠ 14)) || (decide (x106 < 0))) || (decide (p0.regs ≤ x106)))), (100, u122), (99, u123), (98, u124), (97, u125)]) ?_ ?_
                  · rintro _ _ ⟨u122, u123, u124, u125, rfl, rfl⟩
                    refine U.done (Nat.le_of_ble_eq_true rfl) ?_
                    refine WP.cond _ (L 0 rfl rfl) rfl (fun c129 => ?_) (fun c129 => ?_)
                    · have h130 := ifT c129 h108
                      refine WP.usreg rfl ?_
                      refine U.p rfl rfl (.inl rfl) (S.assign rfl K) ?_
                      refine U.done (Nat.le_of_ble_eq_true rfl) ?_
                      refine WP.ret ?_
                      refine blkR (sqR (sqR (blkR (sqR ?_))))
                      have h131 := exitS h130 e101
                      refine fin.slot (.inr rfl) rfl (L 0 rfl rfl) ⟨V96, rfl, (((((((le7.trans le12).trans le32).trans le37).trans le45).trans le72).trans le85).trans le97), ?_⟩
                      have ow132 := ow98.drop 0 rfl
                      have ow133 := ow132.drop 0 rfl
                      have e134 := Option.some.inj h131
                      subst e134
                      exact ⟨rfl, ow133⟩
                    · have h135 := ifF c129 h108
                      refine WP.skip ?_
                      refine blkN (sqN ?_)
                      refine WP.ureg rfl ?_
                      refine U.p rfl rfl (.inl rfl) (S.add rfl (L 22 rfl rfl) K) ?_
                      refine U.p rfl rfl (.inl rfl) (S.move rfl (L 0 rfl rfl)) ?_
                      refine U.done (Nat.le_of_ble_eq_true rfl) ?_
                      refine sqN ?_
                      exact ⟨_, V96, rfl, ⟨m99, Nat.lt_succ_self _, w64 (x93 + 1), rfl, le97, ow98, backS h135 e101⟩, (allCons (L 19 rfl rfl) (allCons (L 20 rfl rfl) (allCons (L 21 rfl rfl) (allCons (L 22 rfl rfl) (allCons (L 23 rfl rfl) (allCons (L 0 rfl rfl) allNil))))))⟩
                  · intro kk
                    refine bcase (b := (decide (p1.op ≠ 14)) || (decide (x106 < 0))) (fun g136 => ?_) (fun g136 => ?_)
                    · skip
                      refine U.x rfl rfl rfl rfl ((L 0 rfl rfl).trans (congrArg Value.bool g136)) (by decide) ?_
                      refine U.x rfl rfl rfl rfl ((L 1 rfl rfl).trans (congrArg Value.bool g136)) (by decide) ?_
                      refine U.x rfl rfl rfl rfl ((L 2 rfl rfl).trans (congrArg Value.bool g136)) (by decide) ?_
                      refine U.x rfl rfl rfl rfl ((L 3 rfl rfl).trans (congrArg Value.bool g136)) (by decide) ?_
                      refine U.p rfl rfl (.inl rfl) (S.pickT rfl ((L 4 rfl rfl).trans (congrArg Value.bool g136)) K) ?_
                      exact kk [(101, .bool true), (100, .tuple #[]), (99, .tuple #[]), (98, .tuple #[]), (97, .tuple #[])] _ ⟨.tuple #[], .tuple #[], .tuple #[], .tuple #[], rfl, (by rw [g136, Bool.true_or])⟩
                    · skip
                      refine U.p rfl rfl (.inr ⟨_, _, _, rfl, rfl, ((L 0 rfl rfl).trans (congrArg Value.bool g136))⟩) (S.move rfl (L 8 rfl rfl)) ?_
                      refine U.p (v := .pointer (some ⟨b5, 2, none⟩)) rfl rfl (.inr ⟨_, _, _, rfl, rfl, ((L 1 rfl rfl).trans (congrArg Value.bool g136))⟩) (S.fieldAddr rfl (L 13 rfl rfl) Try.underlying33 rfl ti3 rfl rfl) ?_
                      refine U.k rfl rfl (.inr ⟨_, _, _, rfl, rfl, ((L 2 rfl rfl).trans (congrArg Value.bool g136))⟩) (S.load rfl (L 0 rfl rfl) Try.underlying3 rfl ((ow98.own (k := 0) rfl).cell rfl)) nd ?_
                      refine U.p rfl rfl (.inr ⟨_, _, _, rfl, rfl, ((L 3 rfl rfl).trans (congrArg Value.bool g136))⟩) (S.geq rfl (L 2 rfl rfl) (L 0 rfl rfl)) ?_
                      refine U.p rfl rfl (.inl rfl) (S.pickF rfl ((L 4 rfl rfl).trans (congrArg Value.bool g136)) (L 0 rfl rfl)) ?_
                      exact kk [(101, .bool (decide (p0.regs ≤ x106))), (100, .bool (decide (p0.regs ≤ x106))), (99, .int .i64 p0.regs), (98, .pointer (some ⟨b5, 2, none⟩)), (97, .int .i64 x106)] _ ⟨.bool (decide (p0.regs ≤ x106)), .int .i64 p0.regs, .pointer (some ⟨b5, 2, none⟩), .int .i64 x106, rfl, (by rw [g136, Bool.false_or])⟩
                · intro kk
                  refine bcase (b := decide (p1.op ≠ 14)) (fun g137 => ?_) (fun g137 => ?_)
                  · skip
                    refine U.x rfl rfl rfl rfl ((L 0 rfl rfl).trans (congrArg Value.bool g137)) (by decide) ?_
                    refine U.x rfl rfl rfl rfl ((L 1 rfl rfl).trans (congrArg Value.bool g137)) (by decide) ?_
                    refine U.p rfl rfl (.inl rfl) (S.pickT rfl ((L 2 rfl rfl).trans (congrArg Value.bool g137)) K) ?_
                    exact kk [(95, .bool true), (94, .tuple #[]), (93, .tuple #[])] _ ⟨.tuple #[], .tuple #[], rfl, (by rw [g137, Bool.true_or])⟩
                  · skip
                    refine U.p rfl rfl (.inr ⟨_, _, _, rfl, rfl, ((L 0 rfl rfl).trans (congrArg Value.bool g137))⟩) (S.move rfl (L 4 rfl rfl)) ?_
                    refine U.p rfl rfl (.inr ⟨_, _, _, rfl, rfl, ((L 1 rfl rfl).trans (congrArg Value.bool g137))⟩) (S.lss rfl (L 0 rfl rfl) K) ?_
                    refine U.p rfl rfl (.inl rfl) (S.pickF rfl ((L 2 rfl rfl).trans (congrArg Value.bool g137)) (L 0 rfl rfl)) ?_
                    exact kk [(95, .bool (decide (x106 < 0))), (94, .bool (decide (x106 < 0))), (93, .int .i64 x106)] _ ⟨.bool (decide (x106 < 0)), .int .i64 x106, rfl, (by rw [g137, Bool.false_or])⟩
              · have h138 := ifF c104 h103
                refine WP.exit ?_
                refine sqE (sqE (blkE (sqN ?_)))
                have h139 := exitS h138 e101
                refine WP.seq ?_
                refine WP.usreg rfl ?_
                refine U.p (v := .pointer (some ⟨b10, 0, none⟩)) rfl rfl (.inl rfl) (S.fieldAddr rfl (L 2 rfl rfl) Try.underlying42 rfl ti3 rfl rfl) ?_
                refine U.k rfl rfl (.inl rfl) (S.load rfl (L 0 rfl rfl) Try.underlying3 rfl ((ow98.own (k := 1) rfl).cell rfl)) nd ?_
                refine U.p rfl rfl (.inl rfl) (S.neqI rfl (L 0 rfl rfl) K) ?_
                refine U.p rfl rfl (.inl rfl) (S.move rfl (L 0 rfl rfl)) ?_
                refine U.joinX 8 (fun e H => ∃ (u140 u141 u142 : Value), H = V96.H ∧ e = [(110, .bool ((decide (p1.op ≠ 9)) && (decide (p1.op ≠ 10)))), (109, u140), (108, u141), (107, u142)]) ?_ ?_
                · rintro _ _ ⟨u140, u141, u142, rfl, rfl⟩
                  refine U.p rfl rfl (.inl rfl) (S.move rfl (L 0 rfl rfl)) ?_
                  refine U.joinX 21 (fun e H => ∃ (u146 u147 u148 u149 u150 u151 u152 u153 u154 u155 u156 : Value), H = V96.H ∧ e = [(123, .bool (((decide (p1.op ≠ 9)) && (decide (p1.op ≠ 10))) && (((decide (p1.what ≠ 0)) || p1.volatile) || p1.final))), (122, u146), (121, u147), (120, u148), (119, u149), (118, u150), (117, u151), (116, u152), (115, u153), (114, u154), (113, u155), (112, u156)]) ?_ ?_
                  · rintro _ _ ⟨u146, u147, u148, u149, u150, u151, u152, u153, u154, u155, u156, rfl, rfl⟩
                    refine U.done (Nat.le_of_ble_eq_true rfl) ?_
                    refine WP.cond _ (L 0 rfl rfl) rfl (fun c160 => ?_) (fun c160 => ?_)
                    · have h161 := ifT c160 h139
                      refine WP.usreg rfl ?_
                      refine U.p rfl rfl (.inl rfl) (S.assign rfl K) ?_
                      refine U.done (Nat.le_of_ble_eq_true rfl) ?_
                      refine WP.ret ?_
                      refine sqR ?_
                      refine fin.slot (.inr rfl) rfl (L 0 rfl rfl) ⟨V96, rfl, (((((((le7.trans le12).trans le32).trans le37).trans le45).trans le72).trans le85).trans le97), ?_⟩
                      have ow162 := ow98.drop 0 rfl
                      have ow163 := ow162.drop 0 rfl
                      have e164 := Option.some.inj h161
                      subst e164
                      exact ⟨rfl, ow163⟩
                    · have h165 := ifF c160 h139
                      refine WP.skip ?_
                      refine sqN ?_
                      refine WP.seq ?_
                      refine WP.usreg rfl ?_
                      refine U.p (v := .pointer (some ⟨b10, 0, none⟩)) rfl rfl (.inl rfl) (S.fieldAddr rfl (L 23 rfl rfl) Try.underlying42 rfl ti3 rfl rfl) ?_
                      refine U.k rfl rfl (.inl rfl) (S.load rfl (L 0 rfl rfl) Try.underlying3 rfl ((ow98.own (k := 1) rfl).cell rfl)) nd ?_
                      refine U.done (Nat.le_of_ble_eq_true rfl) ?_
                      refine WP.blk ?_
                      refine WP.seqI (fun l V' => ∃ (x166 : Bool), l = [(2, .pointer (some ⟨b5, 0, none⟩)), (3, .pointer (some ⟨b10, 0, none⟩)), (8, .bool x27.2.2.2), (125, .int .i64 p1.op), (126, .bool x166)] ∧ V96.le V' ∧ Ow V' (.pt b5 (.cells 0 [.string p0.name, .int .i64 p0.params, .int .i64 p0.regs, v1]) :: .pt b10 (.cells 0 [.int .i64 p1.op, .int .i64 p1.d, .int .i64 p1.a, .int .i64 p1.b, .int .i64 p1.imm, v3, .int .i64 p1.what, .bool p1.volatile, .bool p1.final]) :: Rs) ∧ ref08_ins_k2 p0 p1 x27 x166 = some r) ?_ ?_
                      · rintro _ V167 ⟨x166, rfl, le168, ow169, h170⟩
                        unfold ref08_ins_k2 at h170
                        refine WP.cond _ (L 4 rfl rfl) rfl (fun c171 => ?_) (fun c171 => ?_)
                        · have h172 := ifT c171 h170
                          refine WP.usreg rfl ?_
                          refine U.p rfl rfl (.inl rfl) (S.assign rfl K) ?_
                          refine U.done (Nat.le_of_ble_eq_true rfl) ?_
                          refine WP.ret ?_
                          refine blkR (sqR ?_)
                          refine fin.slot (.inr rfl) rfl (L 0 rfl rfl) ⟨V167, rfl, ((((((((le7.trans le12).trans le32).trans le37).trans le45).trans le72).trans le85).trans le97).trans le168), ?_⟩
                          have ow173 := ow169.drop 0 rfl
                          have ow174 := ow173.drop 0 rfl
                          have e175 := Option.some.inj h172
                          subst e175
                          exact ⟨rfl, ow174⟩
                        · have h176 := ifF c171 h170
                          refine WP.usreg rfl ?_
                          refine U.p rfl rfl (.inl rfl) (S.eqlI rfl (L 3 rfl rfl) K) ?_
                          refine U.p rfl rfl (.inl rfl) (S.assign rfl (L 0 rfl rfl)) ?_
                          refine U.done (Nat.le_of_ble_eq_true rfl) ?_
                          refine WP.cond _ (L 0 rfl rfl) rfl (fun c177 => ?_) (fun c177 => ?_)
                          · have h178 := ifT c177 h176
                            refine WP.usreg rfl ?_
                            refine U.p (v := .pointer (some ⟨b10, 4, none⟩)) rfl rfl (.inl rfl) (S.fieldAddr rfl (L 3 rfl rfl) Try.underlying42 rfl ti3 rfl rfl) ?_
                            refine U.k rfl rfl (.inl rfl) (S.load rfl (L 0 rfl rfl) Try.underlying3 rfl ((ow169.own (k := 1) rfl).cell rfl)) nd ?_
                            refine U.p rfl rfl (.inl rfl) (S.gtr rfl (L 0 rfl rfl) K) ?_
                            refine U.p rfl rfl (.inl rfl) (S.assign rfl (L 0 rfl rfl)) ?_
                            refine U.done (Nat.le_of_ble_eq_true rfl) ?_
                            refine WP.ret ?_
                            refine blkR (sqR ?_)
                            refine fin.slot (.inr rfl) rfl (L 0 rfl rfl) ⟨V167, rfl, ((((((((le7.trans le12).trans le32).trans le37).trans le45).trans le72).trans le85).trans le97).trans le168), ?_⟩
                            have ow179 := ow169.drop 0 rfl
                            have ow180 := ow179.drop 0 rfl
                            have e181 := Option.some.inj h178
                            subst e181
                            exact ⟨rfl, ow180⟩
                          · have h182 := ifF c177 h176
                            refine WP.usreg rfl ?_
                            refine U.p rfl rfl (.inl rfl) (S.eqlI rfl (L 5 rfl rfl) K) ?_
                            refine U.p rfl rfl (.inl rfl) (S.assign rfl (L 0 rfl rfl)) ?_
                            refine U.done (Nat.le_of_ble_eq_true rfl) ?_
                            refine WP.cond _ (L 0 rfl rfl) rfl (fun c183 => ?_) (fun c183 => ?_)
                            · have h184 := ifT c183 h182
                              refine WP.usreg rfl ?_
                              refine U.p (v := .pointer (some ⟨b10, 4, none⟩)) rfl rfl (.inl rfl) (S.fieldAddr rfl (L 5 rfl rfl) Try.underlying42 rfl ti3 rfl rfl) ?_
                              refine U.k rfl rfl (.inl rfl) (S.load rfl (L 0 rfl rfl) Try.underlying3 rfl ((ow169.own (k := 1) rfl).cell rfl)) nd ?_
                              refine U.p rfl rfl (.inl rfl) (S.eqlI rfl (L 0 rfl rfl) K) ?_
                              refine U.p rfl rfl (.inl rfl) (S.move rfl (L 0 rfl rfl)) ?_
                              refine U.joinX 8 (fun e H => ∃ (u185 u186 u187 : Value), H = V167.H ∧ e = [(146, .bool ((decide (p1.imm = 0)) || (decide (p1.imm = 1)))), (145, u185), (144, u186), (143, u187)]) ?_ ?_
                              · rintro _ _ ⟨u185, u186, u187, rfl, rfl⟩
                                refine U.p rfl rfl (.inl rfl) (S.assign rfl (L 0 rfl rfl)) ?_
                                refine U.done (Nat.le_of_ble_eq_true rfl) ?_
                                refine WP.ret ?_
                                refine blkR (sqR ?_)
                                refine fin.slot (.inr rfl) rfl (L 0 rfl rfl) ⟨V167, rfl, ((((((((le7.trans le12).trans le32).trans le37).trans le45).trans le72).trans le85).trans le97).trans le168), ?_⟩
                                have ow191 := ow169.drop 0 rfl
                                have ow192 := ow191.drop 0 rfl
                                have e193 := Option.some.inj h184
                                subst e193
                                exact ⟨rfl, ow192⟩
                              · intro kk
                                refine bcase (b := decide (p1.imm = 0)) (fun g194 => ?_) (fun g194 => ?_)
                                · skip
                                  refine U.x rfl rfl rfl rfl ((L 0 rfl rfl).trans (congrArg Value.bool g194)) (by decide) ?_
                                  refine U.x rfl rfl rfl rfl ((L 1 rfl rfl).trans (congrArg Value.bool g194)) (by decide) ?_
                                  refine U.x rfl rfl rfl rfl ((L 2 rfl rfl).trans (congrArg Value.bool g194)) (by decide) ?_
                                  refine U.p rfl rfl (.inl rfl) (S.pickT rfl ((L 3 rfl rfl).trans (congrArg Value.bool g194)) K) ?_
                                  exact kk [(146, .bool true), (145, .tuple #[]), (144, .tuple #[]), (143, .tuple #[])] _ ⟨.tuple #[], .tuple #[], .tuple #[], rfl, (by rw [g194, Bool.true_or])⟩
                                · skip
                                  refine U.p (v := .pointer (some ⟨b10, 4, none⟩)) rfl rfl (.inr ⟨_, _, _, rfl, rfl, ((L 0 rfl rfl).trans (congrArg Value.bool g194))⟩) (S.fieldAddr rfl (L 9 rfl rfl) Try.underlying42 rfl ti3 rfl rfl) ?_
                                  refine U.k rfl rfl (.inr ⟨_, _, _, rfl, rfl, ((L 1 rfl rfl).trans (congrArg Value.bool g194))⟩) (S.load rfl (L 0 rfl rfl) Try.underlying3 rfl ((ow169.own (k := 1) rfl).cell rfl)) nd ?_
                                  refine U.p rfl rfl (.inr ⟨_, _, _, rfl, rfl, ((L 2 rfl rfl).trans (congrArg Value.bool g194))⟩) (S.eqlI rfl (L 0 rfl rfl) K) ?_
                                  refine U.p rfl rfl (.inl rfl) (S.pickF rfl ((L 3 rfl rfl).trans (congrArg Value.bool g194)) (L 0 rfl rfl)) ?_
                                  exact kk [(146, .bool (decide (p1.imm = 1))), (145, .bool (decide (p1.imm = 1))), (144, .int .i64 p1.imm), (143, .pointer (some ⟨b10, 4, none⟩))] _ ⟨.bool (decide (p1.imm = 1)), .int .i64 p1.imm, .pointer (some ⟨b10, 4, none⟩), rfl, (by rw [g194, Bool.false_or])⟩
                            · have h195 := ifF c183 h182
                              refine WP.skip ?_
                              refine blkN (sqN ?_)
                              refine WP.seq ?_
                              refine WP.usreg rfl ?_
                              refine U.p rfl rfl (.inl rfl) (S.move rfl (L 6 rfl rfl)) ?_
                              refine U.done (Nat.le_of_ble_eq_true rfl) ?_
                              refine WP.cond _ (L 0 rfl rfl) rfl (fun c196 => ?_) (fun c196 => ?_)
                              · have h197 := ifT c196 h195
                                refine WP.usreg rfl ?_
                                refine U.k rfl rfl (.inl rfl) (S.loadB rfl (L 5 rfl rfl) Try.underlying33 rfl ti33 (ow169.own (k := 0) rfl).get rfl) nd ?_
                                refine U.p (v := .pointer (some ⟨b10, 4, none⟩)) rfl rfl (.inl rfl) (S.fieldAddr rfl (L 7 rfl rfl) Try.underlying42 rfl ti3 rfl rfl) ?_
                                refine U.k rfl rfl (.inl rfl) (S.load rfl (L 0 rfl rfl) Try.underlying3 rfl ((ow169.own (k := 1) rfl).cell rfl)) nd ?_
                                have f198 := f2.up ((((((((le7.trans le12).trans le32).trans le37).trans le45).trans le72).trans le85).trans le97).trans le168)
                                obtain ⟨x199, hx200, h201⟩ := bindS h197
                                refine O.call (V := V167) rfl rfl (.inl rfl) rfl en17 (aC (L 2 rfl rfl) (aC (L 0 rfl rfl) aN)) (wk_ref08_count V167 _ p0 p1.imm v1 f198 ow169 _ hx200) (fun _ _ _ _ => nd) (fun v202 V203 le204 hp205 => ?_)
                                obtain ⟨rfl, ow206⟩ := hp205
                                refine U.p rfl rfl (.inl rfl) (S.gtr rfl (L 0 rfl rfl) K) ?_
                                refine U.p rfl rfl (.inl rfl) (S.assign rfl (L 0 rfl rfl)) ?_
                                refine U.done (Nat.le_of_ble_eq_true rfl) ?_
                                refine WP.ret ?_
                                refine sqR ?_
                                refine fin.slot (.inr rfl) rfl (L 0 rfl rfl) ⟨V203, rfl, (((((((((le7.trans le12).trans le32).trans le37).trans le45).trans le72).trans le85).trans le97).trans le168).trans le204), ?_⟩
                                have ow207 := ow206.drop 0 rfl
                                have ow208 := ow207.drop 0 rfl
                                have e209 := Option.some.inj h201
                                subst e209
                                exact ⟨rfl, ow208⟩
                              · have h210 := ifF c196 h195
                                refine WP.skip ?_
                                refine sqN ?_
                                refine WP.usreg rfl ?_
                                refine U.p (v := .pointer (some ⟨b10, 4, none⟩)) rfl rfl (.inl rfl) (S.fieldAddr rfl (L 6 rfl rfl) Try.underlying42 rfl ti3 rfl rfl) ?_
                                refine U.k rfl rfl (.inl rfl) (S.load rfl (L 0 rfl rfl) Try.underlying3 rfl ((ow169.own (k := 1) rfl).cell rfl)) nd ?_
                                refine U.p rfl rfl (.inl rfl) (S.eqlI rfl (L 0 rfl rfl) K) ?_
                                refine U.p rfl rfl (.inl rfl) (S.assign rfl (L 0 rfl rfl)) ?_
                                refine U.done (Nat.le_of_ble_eq_true rfl) ?_
                                refine WP.ret ?_
                                refine fin.slot (.inr rfl) rfl (L 0 rfl rfl) ⟨V167, rfl, ((((((((le7.trans le12).trans le32).trans le37).trans le45).trans le72).trans le85).trans le97).trans le168), ?_⟩
                                have ow211 := ow169.drop 0 rfl
                                have ow212 := ow211.drop 0 rfl
                                have e213 := Option.some.inj h210
                                subst e213
                                exact ⟨rfl, ow212⟩
                      · skip
                        refine WP.usreg rfl ?_
                        refine U.p rfl rfl (.inl rfl) (S.eqlI rfl (L 0 rfl rfl) K) ?_
                        refine U.p rfl rfl (.inl rfl) (S.assign rfl (L 0 rfl rfl)) ?_
                        refine U.done (Nat.le_of_ble_eq_true rfl) ?_
                        refine WP.cond _ (L 0 rfl rfl) rfl (fun c214 => ?_) (fun c214 => ?_)
                        · have h215 := ifT c214 h165
                          refine WP.skip ?_
                          refine sqN ?_
                          exact ⟨_, V96, rfl, ⟨true, rfl, (.refl _), ow98, h215⟩, (allCons (L 26 rfl rfl) (allCons (L 27 rfl rfl) (allCons (L 28 rfl rfl) (allCons (L 2 rfl rfl) (allCons ((L 0 rfl rfl).trans (congrArg Value.bool c214)) allNil)))))⟩
                        · have h216 := ifF c214 h165
                          refine WP.usreg rfl ?_
                          refine U.p rfl rfl (.inl rfl) (S.eqlI rfl (L 2 rfl rfl) K) ?_
                          refine U.p rfl rfl (.inl rfl) (S.assign rfl (L 0 rfl rfl)) ?_
                          refine U.done (Nat.le_of_ble_eq_true rfl) ?_
                          refine WP.cond _ (L 0 rfl rfl) rfl (fun c217 => ?_) (fun c217 => ?_)
                          · have h218 := ifT c217 h216
                            refine WP.skip ?_
                            refine sqN ?_
                            exact ⟨_, V96, rfl, ⟨true, rfl, (.refl _), ow98, h218⟩, (allCons (L 28 rfl rfl) (allCons (L 29 rfl rfl) (allCons (L 30 rfl rfl) (allCons (L 4 rfl rfl) (allCons ((L 0 rfl rfl).trans (congrArg Value.bool c217)) allNil)))))⟩
                          · have h219 := ifF c217 h216
                            refine WP.usreg rfl ?_
                            refine U.p rfl rfl (.inl rfl) (S.eqlI rfl (L 4 rfl rfl) K) ?_
                            refine U.p rfl rfl (.inl rfl) (S.assign rfl (L 0 rfl rfl)) ?_
                            refine U.done (Nat.le_of_ble_eq_true rfl) ?_
                            refine WP.cond _ (L 0 rfl rfl) rfl (fun c220 => ?_) (fun c220 => ?_)
                            · have h221 := ifT c220 h219
                              refine WP.skip ?_
                              refine sqN ?_
                              exact ⟨_, V96, rfl, ⟨true, rfl, (.refl _), ow98, h221⟩, (allCons (L 30 rfl rfl) (allCons (L 31 rfl rfl) (allCons (L 32 rfl rfl) (allCons (L 6 rfl rfl) (allCons ((L 0 rfl rfl).trans (congrArg Value.bool c220)) allNil)))))⟩
                            · have h222 := ifF c220 h219
                              refine WP.usreg rfl ?_
                              refine U.p rfl rfl (.inl rfl) (S.eqlI rfl (L 6 rfl rfl) K) ?_
                              refine U.p rfl rfl (.inl rfl) (S.assign rfl (L 0 rfl rfl)) ?_
                              refine U.done (Nat.le_of_ble_eq_true rfl) ?_
                              refine WP.cond _ (L 0 rfl rfl) rfl (fun c223 => ?_) (fun c223 => ?_)
                              · have h224 := ifT c223 h222
                                refine WP.skip ?_
                                refine sqN ?_
                                exact ⟨_, V96, rfl, ⟨true, rfl, (.refl _), ow98, h224⟩, (allCons (L 32 rfl rfl) (allCons (L 33 rfl rfl) (allCons (L 34 rfl rfl) (allCons (L 8 rfl rfl) (allCons ((L 0 rfl rfl).trans (congrArg Value.bool c223)) allNil)))))⟩
                              · have h225 := ifF c223 h222
                                refine WP.ureg rfl ?_
                                refine U.p rfl rfl (.inl rfl) (S.eqlI rfl (L 8 rfl rfl) K) ?_
                                refine U.p rfl rfl (.inl rfl) (S.assign rfl (L 0 rfl rfl)) ?_
                                refine U.done (Nat.le_of_ble_eq_true rfl) ?_
                                refine sqN ?_
                                exact ⟨_, V96, rfl, ⟨decide (p1.op = 21), rfl, (.refl _), ow98, h225⟩, (allCons (L 34 rfl rfl) (allCons (L 35 rfl rfl) (allCons (L 36 rfl rfl) (allCons (L 10 rfl rfl) (allCons (L 0 rfl rfl) allNil)))))⟩
                  · intro kk
                    refine bcase (b := (decide (p1.op ≠ 9)) && (decide (p1.op ≠ 10))) (fun g226 => ?_) (fun g226 => ?_)
                    · skip
                      refine U.p (v := .pointer (some ⟨b10, 6, none⟩)) rfl rfl (.inr ⟨_, _, _, rfl, rfl, ((L 0 rfl rfl).trans (congrArg Value.bool g226))⟩) (S.fieldAddr rfl (L 11 rfl rfl) Try.underlying42 rfl ti3 rfl rfl) ?_
                      refine U.k rfl rfl (.inr ⟨_, _, _, rfl, rfl, ((L 1 rfl rfl).trans (congrArg Value.bool g226))⟩) (S.load rfl (L 0 rfl rfl) Try.underlying3 rfl ((ow98.own (k := 1) rfl).cell rfl)) nd ?_
                      refine U.p rfl rfl (.inr ⟨_, _, _, rfl, rfl, ((L 2 rfl rfl).trans (congrArg Value.bool g226))⟩) (S.neqI rfl (L 0 rfl rfl) K) ?_
                      refine U.p rfl rfl (.inr ⟨_, _, _, rfl, rfl, ((L 3 rfl rfl).trans (congrArg Value.bool g226))⟩) (S.move rfl (L 0 rfl rfl)) ?_
                      refine U.joinX 16 (fun e H => ∃ (u227 u228 : Value), H = V96.H ∧ e = [(118, .bool ((decide (p1.what ≠ 0)) || p1.volatile)), (117, u227), (116, u228)]) ?_ ?_
                      · rintro _ _ ⟨u227, u228, rfl, rfl⟩
                        refine U.p rfl rfl (.inr ⟨_, _, _, rfl, rfl, ((L 7 rfl rfl).trans (congrArg Value.bool g226))⟩) (S.move rfl (L 0 rfl rfl)) ?_
                        refine U.joinX 20 (fun e H => ∃ (u232 u233 : Value), H = V96.H ∧ e = [(122, .bool (((decide (p1.what ≠ 0)) || p1.volatile) || p1.final)), (121, u232), (120, u233)]) ?_ ?_
                        · rintro _ _ ⟨u232, u233, rfl, rfl⟩
                          refine U.p rfl rfl (.inl rfl) (S.pickT rfl ((L 11 rfl rfl).trans (congrArg Value.bool g226)) (L 0 rfl rfl)) ?_
                          exact kk [(123, .bool (((decide (p1.what ≠ 0)) || p1.volatile) || p1.final)), (122, .bool (((decide (p1.what ≠ 0)) || p1.volatile) || p1.final)), (121, u232), (120, u233), (119, .bool ((decide (p1.what ≠ 0)) || p1.volatile)), (118, .bool ((decide (p1.what ≠ 0)) || p1.volatile)), (117, u227), (116, u228), (115, .bool (decide (p1.what ≠ 0))), (114, .bool (decide (p1.what ≠ 0))), (113, .int .i64 p1.what), (112, .pointer (some ⟨b10, 6, none⟩))] _ ⟨.bool (((decide (p1.what ≠ 0)) || p1.volatile) || p1.final), u232, u233, .bool ((decide (p1.what ≠ 0)) || p1.volatile), .bool ((decide (p1.what ≠ 0)) || p1.volatile), u227, u228, .bool (decide (p1.what ≠ 0)), .bool (decide (p1.what ≠ 0)), .int .i64 p1.what, .pointer (some ⟨b10, 6, none⟩), rfl, (by rw [g226, Bool.true_and])⟩
                        · intro kk
                          refine bcase (b := (decide (p1.what ≠ 0)) || p1.volatile) (fun g237 => ?_) (fun g237 => ?_)
                          · skip
                            refine U.x rfl rfl rfl rfl ((L 0 rfl rfl).trans (congrArg Value.bool g237)) (by decide) ?_
                            refine U.x rfl rfl rfl rfl ((L 1 rfl rfl).trans (congrArg Value.bool g237)) (by decide) ?_
                            refine U.p rfl rfl (.inr ⟨_, _, _, rfl, rfl, ((L 10 rfl rfl).trans (congrArg Value.bool g226))⟩) (S.pickT rfl ((L 2 rfl rfl).trans (congrArg Value.bool g237)) K) ?_
                            exact kk [(122, .bool true), (121, .tuple #[]), (120, .tuple #[])] _ ⟨.tuple #[], .tuple #[], rfl, (by rw [g237, Bool.true_or])⟩
                          · skip
                            refine U.p (v := .pointer (some ⟨b10, 8, none⟩)) rfl rfl (.inr ⟨_, _, _, rfl, rfl, ((L 0 rfl rfl).trans (congrArg Value.bool g237))⟩) (S.fieldAddr rfl (L 19 rfl rfl) Try.underlying42 rfl ti4 rfl rfl) ?_
                            refine U.k rfl rfl (.inr ⟨_, _, _, rfl, rfl, ((L 1 rfl rfl).trans (congrArg Value.bool g237))⟩) (S.load rfl (L 0 rfl rfl) Try.underlying4 rfl ((ow98.own (k := 1) rfl).cell rfl)) nd ?_
                            refine U.p rfl rfl (.inr ⟨_, _, _, rfl, rfl, ((L 10 rfl rfl).trans (congrArg Value.bool g226))⟩) (S.pickF rfl ((L 2 rfl rfl).trans (congrArg Value.bool g237)) (L 0 rfl rfl)) ?_
                            exact kk [(122, .bool p1.final), (121, .bool p1.final), (120, .pointer (some ⟨b10, 8, none⟩))] _ ⟨.bool p1.final, .pointer (some ⟨b10, 8, none⟩), rfl, (by rw [g237, Bool.false_or])⟩
                      · intro kk
                        refine bcase (b := decide (p1.what ≠ 0)) (fun g238 => ?_) (fun g238 => ?_)
                        · skip
                          refine U.x rfl rfl rfl rfl ((L 0 rfl rfl).trans (congrArg Value.bool g238)) (by decide) ?_
                          refine U.x rfl rfl rfl rfl ((L 1 rfl rfl).trans (congrArg Value.bool g238)) (by decide) ?_
                          refine U.p rfl rfl (.inr ⟨_, _, _, rfl, rfl, ((L 6 rfl rfl).trans (congrArg Value.bool g226))⟩) (S.pickT rfl ((L 2 rfl rfl).trans (congrArg Value.bool g238)) K) ?_
                          exact kk [(118, .bool true), (117, .tuple #[]), (116, .tuple #[])] _ ⟨.tuple #[], .tuple #[], rfl, (by rw [g238, Bool.true_or])⟩
                        · skip
                          refine U.p (v := .pointer (some ⟨b10, 7, none⟩)) rfl rfl (.inr ⟨_, _, _, rfl, rfl, ((L 0 rfl rfl).trans (congrArg Value.bool g238))⟩) (S.fieldAddr rfl (L 15 rfl rfl) Try.underlying42 rfl ti4 rfl rfl) ?_
                          refine U.k rfl rfl (.inr ⟨_, _, _, rfl, rfl, ((L 1 rfl rfl).trans (congrArg Value.bool g238))⟩) (S.load rfl (L 0 rfl rfl) Try.underlying4 rfl ((ow98.own (k := 1) rfl).cell rfl)) nd ?_
                          refine U.p rfl rfl (.inr ⟨_, _, _, rfl, rfl, ((L 6 rfl rfl).trans (congrArg Value.bool g226))⟩) (S.pickF rfl ((L 2 rfl rfl).trans (congrArg Value.bool g238)) (L 0 rfl rfl)) ?_
                          exact kk [(118, .bool p1.volatile), (117, .bool p1.volatile), (116, .pointer (some ⟨b10, 7, none⟩))] _ ⟨.bool p1.volatile, .pointer (some ⟨b10, 7, none⟩), rfl, (by rw [g238, Bool.false_or])⟩
                    · skip
                      refine U.x rfl rfl rfl rfl ((L 0 rfl rfl).trans (congrArg Value.bool g226)) (by decide) ?_
                      refine U.x rfl rfl rfl rfl ((L 1 rfl rfl).trans (congrArg Value.bool g226)) (by decide) ?_
                      refine U.x rfl rfl rfl rfl ((L 2 rfl rfl).trans (congrArg Value.bool g226)) (by decide) ?_
                      refine U.x rfl rfl rfl rfl ((L 3 rfl rfl).trans (congrArg Value.bool g226)) (by decide) ?_
                      refine U.z rfl rfl rfl rfl (L 0 rfl rfl) ?_
                      refine U.z rfl rfl rfl rfl (L 1 rfl rfl) ?_
                      refine U.x rfl rfl rfl rfl ((L 6 rfl rfl).trans (congrArg Value.bool g226)) (by decide) ?_
                      refine U.x rfl rfl rfl rfl ((L 7 rfl rfl).trans (congrArg Value.bool g226)) (by decide) ?_
                      refine U.z rfl rfl rfl rfl (L 0 rfl rfl) ?_
                      refine U.z rfl rfl rfl rfl (L 1 rfl rfl) ?_
                      refine U.x rfl rfl rfl rfl ((L 10 rfl rfl).trans (congrArg Value.bool g226)) (by decide) ?_
                      refine U.p rfl rfl (.inl rfl) (S.pickF rfl ((L 11 rfl rfl).trans (congrArg Value.bool g226)) K) ?_
                      exact kk [(123, .bool false), (122, .tuple #[]), (121, .tuple #[]), (120, .tuple #[]), (119, .tuple #[]), (118, .tuple #[]), (117, .tuple #[]), (116, .tuple #[]), (115, .tuple #[]), (114, .tuple #[]), (113, .tuple #[]), (112, .tuple #[])] _ ⟨.tuple #[], .tuple #[], .tuple #[], .tuple #[], .tuple #[], .tuple #[], .tuple #[], .tuple #[], .tuple #[], .tuple #[], .tuple #[], rfl, (by rw [g226, Bool.false_and])⟩
                · intro kk
                  refine bcase (b := decide (p1.op ≠ 9)) (fun g239 => ?_) (fun g239 => ?_)
                  · skip
                    refine U.p (v := .pointer (some ⟨b10, 0, none⟩)) rfl rfl (.inr ⟨_, _, _, rfl, rfl, ((L 0 rfl rfl).trans (congrArg Value.bool g239))⟩) (S.fieldAddr rfl (L 6 rfl rfl) Try.underlying42 rfl ti3 rfl rfl) ?_
                    refine U.k rfl rfl (.inr ⟨_, _, _, rfl, rfl, ((L 1 rfl rfl).trans (congrArg Value.bool g239))⟩) (S.load rfl (L 0 rfl rfl) Try.underlying3 rfl ((ow98.own (k := 1) rfl).cell rfl)) nd ?_
                    refine U.p rfl rfl (.inr ⟨_, _, _, rfl, rfl, ((L 2 rfl rfl).trans (congrArg Value.bool g239))⟩) (S.neqI rfl (L 0 rfl rfl) K) ?_
                    refine U.p rfl rfl (.inl rfl) (S.pickT rfl ((L 3 rfl rfl).trans (congrArg Value.bool g239)) (L 0 rfl rfl)) ?_
                    exact kk [(110, .bool (decide (p1.op ≠ 10))), (109, .bool (decide (p1.op ≠ 10))), (108, .int .i64 p1.op), (107, .pointer (some ⟨b10, 0, none⟩))] _ ⟨.bool (decide (p1.op ≠ 10)), .int .i64 p1.op, .pointer (some ⟨b10, 0, none⟩), rfl, (by rw [g239, Bool.true_and])⟩
                  · skip
                    refine U.x rfl rfl rfl rfl ((L 0 rfl rfl).trans (congrArg Value.bool g239)) (by decide) ?_
                    refine U.x rfl rfl rfl rfl ((L 1 rfl rfl).trans (congrArg Value.bool g239)) (by decide) ?_
                    refine U.x rfl rfl rfl rfl ((L 2 rfl rfl).trans (congrArg Value.bool g239)) (by decide) ?_
                    refine U.p rfl rfl (.inl rfl) (S.pickF rfl ((L 3 rfl rfl).trans (congrArg Value.bool g239)) K) ?_
                    exact kk [(110, .bool false), (109, .tuple #[]), (108, .tuple #[]), (107, .tuple #[])] _ ⟨.tuple #[], .tuple #[], .tuple #[], rfl, (by rw [g239, Bool.false_and])⟩
          · intro kk
            refine bcase (b := y48) (fun g240 => ?_) (fun g240 => ?_)
            · have h241 := ifT g240 hy75
              refine U.x rfl rfl rfl rfl ((L 0 rfl rfl).trans (congrArg Value.bool g240)) (by decide) ?_
              refine U.x rfl rfl rfl rfl ((L 1 rfl rfl).trans (congrArg Value.bool g240)) (by decide) ?_
              refine U.x rfl rfl rfl rfl ((L 2 rfl rfl).trans (congrArg Value.bool g240)) (by decide) ?_
              refine U.x rfl rfl rfl rfl ((L 3 rfl rfl).trans (congrArg Value.bool g240)) (by decide) ?_
              refine U.x rfl rfl rfl rfl ((L 4 rfl rfl).trans (congrArg Value.bool g240)) (by decide) ?_
              refine U.x rfl rfl rfl rfl ((L 5 rfl rfl).trans (congrArg Value.bool g240)) (by decide) ?_
              refine U.x rfl rfl rfl rfl ((L 6 rfl rfl).trans (congrArg Value.bool g240)) (by decide) ?_
              refine U.p rfl rfl (.inl rfl) (S.pickT rfl ((L 7 rfl rfl).trans (congrArg Value.bool g240)) K) ?_
              have e242 := Option.some.inj h241
              subst e242
              exact kk [(81, .bool true), (80, .tuple #[]), (79, .tuple #[]), (78, .tuple #[]), (77, .tuple #[]), (76, .tuple #[]), (75, .tuple #[]), (74, .tuple #[])] _ ⟨.tuple #[], .tuple #[], .tuple #[], .tuple #[], .tuple #[], .tuple #[], .tuple #[], V71, rfl, (.refl _), rfl, ow73⟩
            · have h243 := ifF g240 hy75
              refine U.p rfl rfl (.inr ⟨_, _, _, rfl, rfl, ((L 0 rfl rfl).trans (congrArg Value.bool g240))⟩) (S.move rfl (L 37 rfl rfl)) ?_
              refine U.p (v := .pointer (some ⟨b10, 3, none⟩)) rfl rfl (.inr ⟨_, _, _, rfl, rfl, ((L 1 rfl rfl).trans (congrArg Value.bool g240))⟩) (S.fieldAddr rfl (L 35 rfl rfl) Try.underlying42 rfl ti3 rfl rfl) ?_
              refine U.k rfl rfl (.inr ⟨_, _, _, rfl, rfl, ((L 2 rfl rfl).trans (congrArg Value.bool g240))⟩) (S.load rfl (L 0 rfl rfl) Try.underlying3 rfl ((ow73.own (k := 1) rfl).cell rfl)) nd ?_
              refine U.p (v := .pointer (some ⟨b5, 2, none⟩)) rfl rfl (.inr ⟨_, _, _, rfl, rfl, ((L 3 rfl rfl).trans (congrArg Value.bool g240))⟩) (S.fieldAddr rfl (L 36 rfl rfl) Try.underlying33 rfl ti3 rfl rfl) ?_
              refine U.k rfl rfl (.inr ⟨_, _, _, rfl, rfl, ((L 4 rfl rfl).trans (congrArg Value.bool g240))⟩) (S.load rfl (L 0 rfl rfl) Try.underlying3 rfl ((ow73.own (k := 0) rfl).cell rfl)) nd ?_
              obtain ⟨x244, hx245, h246⟩ := bindS h243
              refine O.call (V := V71) rfl rfl (.inr ⟨_, _, _, rfl, rfl, ((L 5 rfl rfl).trans (congrArg Value.bool g240))⟩) rfl en25 (aC (L 4 rfl rfl) (aC K (aC (L 2 rfl rfl) (aC (L 0 rfl rfl) aN)))) (wk_ref08_register V71 _ x27.2.2.1 false p1.b p0.regs ow73 _ hx245) (fun _ _ _ _ => nd) (fun v247 V248 le249 hp250 => ?_)
              obtain ⟨rfl, ow251⟩ := hp250
              refine U.p rfl rfl (.inr ⟨_, _, _, rfl, rfl, ((L 6 rfl rfl).trans (congrArg Value.bool g240))⟩) (S.not rfl (L 0 rfl rfl)) ?_
              refine U.p rfl rfl (.inl rfl) (S.pickF rfl ((L 7 rfl rfl).trans (congrArg Value.bool g240)) (L 0 rfl rfl)) ?_
              have e252 := Option.some.inj h246
              subst e252
              exact kk [(81, .bool (!x244)), (80, .bool (!x244)), (79, .bool x244), (78, .int .i64 p0.regs), (77, .pointer (some ⟨b5, 2, none⟩)), (76, .int .i64 p1.b), (75, .pointer (some ⟨b10, 3, none⟩)), (74, .bool x27.2.2.1)] _ ⟨.bool (!x244), .bool x244, .int .i64 p0.regs, .pointer (some ⟨b5, 2, none⟩), .int .i64 p1.b, .pointer (some ⟨b10, 3, none⟩), .bool x27.2.2.1, V248, rfl, le249, rfl, ow251⟩
        · intro kk
          refine bcase (b := !x40) (fun g253 => ?_) (fun g253 => ?_)
          · have h254 := ifT g253 hy49
            have k255 : x40 = false := by simpa using g253
            refine U.x rfl rfl rfl rfl ((L 0 rfl rfl).trans (congrArg Value.bool g253)) (by decide) ?_
            refine U.x rfl rfl rfl rfl ((L 1 rfl rfl).trans (congrArg Value.bool g253)) (by decide) ?_
            refine U.x rfl rfl rfl rfl ((L 2 rfl rfl).trans (congrArg Value.bool g253)) (by decide) ?_
            refine U.x rfl rfl rfl rfl ((L 3 rfl rfl).trans (congrArg Value.bool g253)) (by decide) ?_
            refine U.x rfl rfl rfl rfl ((L 4 rfl rfl).trans (congrArg Value.bool g253)) (by decide) ?_
            refine U.z rfl rfl rfl rfl (L 0 rfl rfl) ?_
            refine U.z rfl rfl rfl rfl (L 1 rfl rfl) ?_
            refine U.z rfl rfl rfl rfl (L 2 rfl rfl) ?_
            refine U.x rfl rfl rfl rfl ((L 8 rfl rfl).trans (congrArg Value.bool g253)) (by decide) ?_
            refine U.x rfl rfl rfl rfl ((L 9 rfl rfl).trans (congrArg Value.bool g253)) (by decide) ?_
            refine U.z rfl rfl rfl rfl (L 0 rfl rfl) ?_
            refine U.z rfl rfl rfl rfl (L 1 rfl rfl) ?_
            refine U.z rfl rfl rfl rfl (L 2 rfl rfl) ?_
            refine U.x rfl rfl rfl rfl ((L 13 rfl rfl).trans (congrArg Value.bool g253)) (by decide) ?_
            refine U.x rfl rfl rfl rfl ((L 14 rfl rfl).trans (congrArg Value.bool g253)) (by decide) ?_
            refine U.x rfl rfl rfl rfl ((L 15 rfl rfl).trans (congrArg Value.bool g253)) (by decide) ?_
            refine U.x rfl rfl rfl rfl ((L 16 rfl rfl).trans (congrArg Value.bool g253)) (by decide) ?_
            refine U.x rfl rfl rfl rfl ((L 17 rfl rfl).trans (congrArg Value.bool g253)) (by decide) ?_
            refine U.x rfl rfl rfl rfl ((L 18 rfl rfl).trans (congrArg Value.bool g253)) (by decide) ?_
            refine U.x rfl rfl rfl rfl ((L 19 rfl rfl).trans (congrArg Value.bool g253)) (by decide) ?_
            refine U.p rfl rfl (.inl rfl) (S.pickT rfl ((L 20 rfl rfl).trans (congrArg Value.bool g253)) K) ?_
            have e256 := Option.some.inj h254
            subst e256
            exact kk [(72, .bool true), (71, .tuple #[]), (70, .tuple #[]), (69, .tuple #[]), (68, .tuple #[]), (67, .tuple #[]), (66, .tuple #[]), (65, .tuple #[]), (64, .tuple #[]), (63, .tuple #[]), (62, .tuple #[]), (61, .tuple #[]), (60, .tuple #[]), (59, .tuple #[]), (58, .tuple #[]), (57, .tuple #[]), (56, .tuple #[]), (55, .tuple #[]), (54, .tuple #[]), (53, .tuple #[]), (52, .tuple #[])] _ ⟨.tuple #[], .tuple #[], .tuple #[], .tuple #[], .tuple #[], .tuple #[], .tuple #[], .tuple #[], .tuple #[], .tuple #[], .tuple #[], .tuple #[], .tuple #[], .tuple #[], .tuple #[], .tuple #[], .tuple #[], .tuple #[], .tuple #[], .tuple #[], V44, rfl, (.refl _), rfl, ow47⟩
          · have h257 := ifF g253 hy49
            have k258 : x40 = true := by simpa using g253
            refine U.p rfl rfl (.inr ⟨_, _, _, rfl, rfl, ((L 0 rfl rfl).trans (congrArg Value.bool g253))⟩) (S.move rfl (L 14 rfl rfl)) ?_
            refine U.p (v := .pointer (some ⟨b10, 0, none⟩)) rfl rfl (.inr ⟨_, _, _, rfl, rfl, ((L 1 rfl rfl).trans (congrArg Value.bool g253))⟩) (S.fieldAddr rfl (L 13 rfl rfl) Try.underlying42 rfl ti3 rfl rfl) ?_
            refine U.k rfl rfl (.inr ⟨_, _, _, rfl, rfl, ((L 2 rfl rfl).trans (congrArg Value.bool g253))⟩) (S.load rfl (L 0 rfl rfl) Try.underlying3 rfl ((ow47.own (k := 1) rfl).cell rfl)) nd ?_
            refine U.p rfl rfl (.inr ⟨_, _, _, rfl, rfl, ((L 3 rfl rfl).trans (congrArg Value.bool g253))⟩) (S.eqlI rfl (L 0 rfl rfl) K) ?_
            refine U.p rfl rfl (.inr ⟨_, _, _, rfl, rfl, ((L 4 rfl rfl).trans (congrArg Value.bool g253))⟩) (S.move rfl (L 0 rfl rfl)) ?_
            refine U.joinX 20 (fun e H => ∃ (u259 u260 u261 : Value), H = V44.H ∧ e = [(60, .bool ((decide (p1.op = 9)) || (decide (p1.op = 10)))), (59, u259), (58, u260), (57, u261)]) ?_ ?_
            · rintro _ _ ⟨u259, u260, u261, rfl, rfl⟩
              refine U.p rfl rfl (.inr ⟨_, _, _, rfl, rfl, ((L 9 rfl rfl).trans (congrArg Value.bool g253))⟩) (S.move rfl (L 0 rfl rfl)) ?_
              refine U.joinX 25 (fun e H => ∃ (u265 u266 u267 : Value), H = V44.H ∧ e = [(65, .bool (((decide (p1.op = 9)) || (decide (p1.op = 10))) || (decide (p1.op = 15)))), (64, u265), (63, u266), (62, u267)]) ?_ ?_
              · rintro _ _ ⟨u265, u266, u267, rfl, rfl⟩
                refine U.p (v := .pointer (some ⟨b10, 2, none⟩)) rfl rfl (.inr ⟨_, _, _, rfl, rfl, ((L 14 rfl rfl).trans (congrArg Value.bool g253))⟩) (S.fieldAddr rfl (L 26 rfl rfl) Try.underlying42 rfl ti3 rfl rfl) ?_
                refine U.k rfl rfl (.inr ⟨_, _, _, rfl, rfl, ((L 15 rfl rfl).trans (congrArg Value.bool g253))⟩) (S.load rfl (L 0 rfl rfl) Try.underlying3 rfl ((ow47.own (k := 1) rfl).cell rfl)) nd ?_
                refine U.p (v := .pointer (some ⟨b5, 2, none⟩)) rfl rfl (.inr ⟨_, _, _, rfl, rfl, ((L 16 rfl rfl).trans (congrArg Value.bool g253))⟩) (S.fieldAddr rfl (L 27 rfl rfl) Try.underlying33 rfl ti3 rfl rfl) ?_
                refine U.k rfl rfl (.inr ⟨_, _, _, rfl, rfl, ((L 17 rfl rfl).trans (congrArg Value.bool g253))⟩) (S.load rfl (L 0 rfl rfl) Try.underlying3 rfl ((ow47.own (k := 0) rfl).cell rfl)) nd ?_
                obtain ⟨x271, hx272, h273⟩ := bindS h257
                refine O.call (V := V44) rfl rfl (.inr ⟨_, _, _, rfl, rfl, ((L 18 rfl rfl).trans (congrArg Value.bool g253))⟩) rfl en25 (aC (L 17 rfl rfl) (aC (L 4 rfl rfl) (aC (L 2 rfl rfl) (aC (L 0 rfl rfl) aN)))) (wk_ref08_register V44 _ x35 (((decide (p1.op = 9)) || (decide (p1.op = 10))) || (decide (p1.op = 15))) p1.a p0.regs ow47 _ hx272) (fun _ _ _ _ => nd) (fun v274 V275 le276 hp277 => ?_)
                obtain ⟨rfl, ow278⟩ := hp277
                refine U.p rfl rfl (.inr ⟨_, _, _, rfl, rfl, ((L 19 rfl rfl).trans (congrArg Value.bool g253))⟩) (S.not rfl (L 0 rfl rfl)) ?_
                refine U.p rfl rfl (.inl rfl) (S.pickF rfl ((L 20 rfl rfl).trans (congrArg Value.bool g253)) (L 0 rfl rfl)) ?_
                have e279 := Option.some.inj h273
                subst e279
                exact kk [(72, .bool (!x271)), (71, .bool (!x271)), (70, .bool x271), (69, .int .i64 p0.regs), (68, .pointer (some ⟨b5, 2, none⟩)), (67, .int .i64 p1.a), (66, .pointer (some ⟨b10, 2, none⟩)), (65, .bool (((decide (p1.op = 9)) || (decide (p1.op = 10))) || (decide (p1.op = 15)))), (64, u265), (63, u266), (62, u267), (61, .bool ((decide (p1.op = 9)) || (decide (p1.op = 10)))), (60, .bool ((decide (p1.op = 9)) || (decide (p1.op = 10)))), (59, u259), (58, u260), (57, u261), (56, .bool (decide (p1.op = 9))), (55, .bool (decide (p1.op = 9))), (54, .int .i64 p1.op), (53, .pointer (some ⟨b10, 0, none⟩)), (52, .bool x35)] _ ⟨.bool (!x271), .bool x271, .int .i64 p0.regs, .pointer (some ⟨b5, 2, none⟩), .int .i64 p1.a, .pointer (some ⟨b10, 2, none⟩), .bool (((decide (p1.op = 9)) || (decide (p1.op = 10))) || (decide (p1.op = 15))), u265, u266, u267, .bool ((decide (p1.op = 9)) || (decide (p1.op = 10))), .bool ((decide (p1.op = 9)) || (decide (p1.op = 10))), u259, u260, u261, .bool (decide (p1.op = 9)), .bool (decide (p1.op = 9)), .int .i64 p1.op, .pointer (some ⟨b10, 0, none⟩), .bool x35, V275, rfl, le276, rfl, ow278⟩
              · intro kk
                refine bcase (b := (decide (p1.op = 9)) || (decide (p1.op = 10))) (fun g280 => ?_) (fun g280 => ?_)
                · skip
                  refine U.x rfl rfl rfl rfl ((L 0 rfl rfl).trans (congrArg Value.bool g280)) (by decide) ?_
                  refine U.x rfl rfl rfl rfl ((L 1 rfl rfl).trans (congrArg Value.bool g280)) (by decide) ?_
                  refine U.x rfl rfl rfl rfl ((L 2 rfl rfl).trans (congrArg Value.bool g280)) (by decide) ?_
                  refine U.p rfl rfl (.inr ⟨_, _, _, rfl, rfl, ((L 13 rfl rfl).trans (congrArg Value.bool g253))⟩) (S.pickT rfl ((L 3 rfl rfl).trans (congrArg Value.bool g280)) K) ?_
                  exact kk [(65, .bool true), (64, .tuple #[]), (63, .tuple #[]), (62, .tuple #[])] _ ⟨.tuple #[], .tuple #[], .tuple #[], rfl, (by rw [g280, Bool.true_or])⟩
                · skip
                  refine U.p (v := .pointer (some ⟨b10, 0, none⟩)) rfl rfl (.inr ⟨_, _, _, rfl, rfl, ((L 0 rfl rfl).trans (congrArg Value.bool g280))⟩) (S.fieldAddr rfl (L 22 rfl rfl) Try.underlying42 rfl ti3 rfl rfl) ?_
                  refine U.k rfl rfl (.inr ⟨_, _, _, rfl, rfl, ((L 1 rfl rfl).trans (congrArg Value.bool g280))⟩) (S.load rfl (L 0 rfl rfl) Try.underlying3 rfl ((ow47.own (k := 1) rfl).cell rfl)) nd ?_
                  refine U.p rfl rfl (.inr ⟨_, _, _, rfl, rfl, ((L 2 rfl rfl).trans (congrArg Value.bool g280))⟩) (S.eqlI rfl (L 0 rfl rfl) K) ?_
                  refine U.p rfl rfl (.inr ⟨_, _, _, rfl, rfl, ((L 13 rfl rfl).trans (congrArg Value.bool g253))⟩) (S.pickF rfl ((L 3 rfl rfl).trans (congrArg Value.bool g280)) (L 0 rfl rfl)) ?_
                  exact kk [(65, .bool (decide (p1.op = 15))), (64, .bool (decide (p1.op = 15))), (63, .int .i64 p1.op), (62, .pointer (some ⟨b10, 0, none⟩))] _ ⟨.bool (decide (p1.op = 15)), .int .i64 p1.op, .pointer (some ⟨b10, 0, none⟩), rfl, (by rw [g280, Bool.false_or])⟩
            · intro kk
              refine bcase (b := decide (p1.op = 9)) (fun g281 => ?_) (fun g281 => ?_)
              · skip
                refine U.x rfl rfl rfl rfl ((L 0 rfl rfl).trans (congrArg Value.bool g281)) (by decide) ?_
                refine U.x rfl rfl rfl rfl ((L 1 rfl rfl).trans (congrArg Value.bool g281)) (by decide) ?_
                refine U.x rfl rfl rfl rfl ((L 2 rfl rfl).trans (congrArg Value.bool g281)) (by decide) ?_
                refine U.p rfl rfl (.inr ⟨_, _, _, rfl, rfl, ((L 8 rfl rfl).trans (congrArg Value.bool g253))⟩) (S.pickT rfl ((L 3 rfl rfl).trans (congrArg Value.bool g281)) K) ?_
                exact kk [(60, .bool true), (59, .tuple #[]), (58, .tuple #[]), (57, .tuple #[])] _ ⟨.tuple #[], .tuple #[], .tuple #[], rfl, (by rw [g281, Bool.true_or])⟩
              · skip
                refine U.p (v := .pointer (some ⟨b10, 0, none⟩)) rfl rfl (.inr ⟨_, _, _, rfl, rfl, ((L 0 rfl rfl).trans (congrArg Value.bool g281))⟩) (S.fieldAddr rfl (L 17 rfl rfl) Try.underlying42 rfl ti3 rfl rfl) ?_
                refine U.k rfl rfl (.inr ⟨_, _, _, rfl, rfl, ((L 1 rfl rfl).trans (congrArg Value.bool g281))⟩) (S.load rfl (L 0 rfl rfl) Try.underlying3 rfl ((ow47.own (k := 1) rfl).cell rfl)) nd ?_
                refine U.p rfl rfl (.inr ⟨_, _, _, rfl, rfl, ((L 2 rfl rfl).trans (congrArg Value.bool g281))⟩) (S.eqlI rfl (L 0 rfl rfl) K) ?_
                refine U.p rfl rfl (.inr ⟨_, _, _, rfl, rfl, ((L 8 rfl rfl).trans (congrArg Value.bool g253))⟩) (S.pickF rfl ((L 3 rfl rfl).trans (congrArg Value.bool g281)) (L 0 rfl rfl)) ?_
                exact kk [(60, .bool (decide (p1.op = 10))), (59, .bool (decide (p1.op = 10))), (58, .int .i64 p1.op), (57, .pointer (some ⟨b10, 0, none⟩))] _ ⟨.bool (decide (p1.op = 10)), .int .i64 p1.op, .pointer (some ⟨b10, 0, none⟩), rfl, (by rw [g281, Bool.false_or])⟩
      · skip
        refine WP.usreg rfl ?_
        refine U.p (v := .pointer (some ⟨b10, 0, none⟩)) rfl rfl (.inl rfl) (S.fieldAddr rfl (L 21 rfl rfl) Try.underlying42 rfl ti3 rfl rfl) ?_
        refine U.k rfl rfl (.inl rfl) (S.load rfl (L 0 rfl rfl) Try.underlying3 rfl ((ow34.own (k := 0) rfl).cell rfl)) nd ?_
        refine U.p rfl rfl (.inl rfl) (S.eqlI rfl (L 0 rfl rfl) K) ?_
        refine U.done (Nat.le_of_ble_eq_true rfl) ?_
        refine WP.cond _ (L 0 rfl rfl) rfl (fun c282 => ?_) (fun c282 => ?_)
        · have h283 := ifT c282 h29
          refine WP.seq ?_
          refine WP.usreg rfl ?_
          refine U.p (v := .pointer (some ⟨b10, 4, none⟩)) rfl rfl (.inl rfl) (S.fieldAddr rfl (L 24 rfl rfl) Try.underlying42 rfl ti3 rfl rfl) ?_
          refine U.k rfl rfl (.inl rfl) (S.load rfl (L 0 rfl rfl) Try.underlying3 rfl ((ow34.own (k := 0) rfl).cell rfl)) nd ?_
          refine U.p rfl rfl (.inl rfl) (S.lss rfl (L 0 rfl rfl) K) ?_
          refine U.p rfl rfl (.inl rfl) (S.move rfl (L 0 rfl rfl)) ?_
          refine U.joinX 8 (fun e H => ∃ (u284 u285 u286 : Value), H = V31.H ∧ e = [(37, .bool ((decide (p1.imm < 1)) || (decide (3 < p1.imm)))), (36, u284), (35, u285), (34, u286)]) ?_ ?_
          · rintro _ _ ⟨u284, u285, u286, rfl, rfl⟩
            refine U.done (Nat.le_of_ble_eq_true rfl) ?_
            refine WP.cond _ (L 0 rfl rfl) rfl (fun c290 => ?_) (fun c290 => ?_)
            · have h291 := ifT c290 h283
              refine WP.usreg rfl ?_
              refine U.p rfl rfl (.inl rfl) (S.assign rfl K) ?_
              refine U.done (Nat.le_of_ble_eq_true rfl) ?_
              refine WP.ret ?_
              refine sqR (sqR ?_)
              refine fin.slot (.inr rfl) rfl (L 0 rfl rfl) ⟨V31, rfl, ((le7.trans le12).trans le32), ?_⟩
              have ow292 := ow34.drop 0 rfl
              have ow293 := ow292.drop 0 rfl
              have e294 := Option.some.inj h291
              subst e294
              exact ⟨rfl, ow293⟩
            · have h295 := ifF c290 h283
              refine WP.skip ?_
              refine sqN ?_
              refine WP.ureg rfl ?_
              refine U.p (v := .pointer (some ⟨b10, 4, none⟩)) rfl rfl (.inl rfl) (S.fieldAddr rfl (L 32 rfl rfl) Try.underlying42 rfl ti3 rfl rfl) ?_
              refine U.k rfl rfl (.inl rfl) (S.load rfl (L 0 rfl rfl) Try.underlying3 rfl ((ow34.own (k := 0) rfl).cell rfl)) nd ?_
              refine U.p rfl rfl (.inl rfl) (S.eqlI rfl (L 0 rfl rfl) K) ?_
              refine U.p rfl rfl (.inl rfl) (S.assign rfl (L 0 rfl rfl)) ?_
              refine U.done (Nat.le_of_ble_eq_true rfl) ?_
              refine sqN ?_
              have ow296 := ow34.pick 0 rfl
              have ow297 := ow296.pick 1 rfl
              exact ⟨_, V31, rfl, ⟨decide (p1.imm = 3), rfl, (.refl _), ow297, h295⟩, (allCons (L 37 rfl rfl) (allCons (L 36 rfl rfl) (allCons (L 18 rfl rfl) (allCons (L 0 rfl rfl) (allCons (L 16 rfl rfl) (allCons (L 15 rfl rfl) allNil))))))⟩
          · intro kk
            refine bcase (b := decide (p1.imm < 1)) (fun g298 => ?_) (fun g298 => ?_)
            · skip
              refine U.x rfl rfl rfl rfl ((L 0 rfl rfl).trans (congrArg Value.bool g298)) (by decide) ?_
              refine U.x rfl rfl rfl rfl ((L 1 rfl rfl).trans (congrArg Value.bool g298)) (by decide) ?_
              refine U.x rfl rfl rfl rfl ((L 2 rfl rfl).trans (congrArg Value.bool g298)) (by decide) ?_
              refine U.p rfl rfl (.inl rfl) (S.pickT rfl ((L 3 rfl rfl).trans (congrArg Value.bool g298)) K) ?_
              exact kk [(37, .bool true), (36, .tuple #[]), (35, .tuple #[]), (34, .tuple #[])] _ ⟨.tuple #[], .tuple #[], .tuple #[], rfl, (by rw [g298, Bool.true_or])⟩
            · skip
              refine U.p (v := .pointer (some ⟨b10, 4, none⟩)) rfl rfl (.inr ⟨_, _, _, rfl, rfl, ((L 0 rfl rfl).trans (congrArg Value.bool g298))⟩) (S.fieldAddr rfl (L 28 rfl rfl) Try.underlying42 rfl ti3 rfl rfl) ?_
              refine U.k rfl rfl (.inr ⟨_, _, _, rfl, rfl, ((L 1 rfl rfl).trans (congrArg Value.bool g298))⟩) (S.load rfl (L 0 rfl rfl) Try.underlying3 rfl ((ow34.own (k := 0) rfl).cell rfl)) nd ?_
              refine U.p rfl rfl (.inr ⟨_, _, _, rfl, rfl, ((L 2 rfl rfl).trans (congrArg Value.bool g298))⟩) (S.gtr rfl (L 0 rfl rfl) K) ?_
              refine U.p rfl rfl (.inl rfl) (S.pickF rfl ((L 3 rfl rfl).trans (congrArg Value.bool g298)) (L 0 rfl rfl)) ?_
              exact kk [(37, .bool (decide (3 < p1.imm))), (36, .bool (decide (3 < p1.imm))), (35, .int .i64 p1.imm), (34, .pointer (some ⟨b10, 4, none⟩))] _ ⟨.bool (decide (3 < p1.imm)), .int .i64 p1.imm, .pointer (some ⟨b10, 4, none⟩), rfl, (by rw [g298, Bool.false_or])⟩
        · have h299 := ifF c282 h29
          refine WP.skip ?_
          refine sqN ?_
          have ow300 := ow34.pick 0 rfl
          have ow301 := ow300.pick 1 rfl
          exact ⟨_, V31, rfl, ⟨x27.2.1, rfl, (.refl _), ow301, h299⟩, (allCons (L 25 rfl rfl) (allCons (L 24 rfl rfl) (allCons (L 6 rfl rfl) (allCons (L 5 rfl rfl) (allCons (L 4 rfl rfl) (allCons (L 3 rfl rfl) allNil))))))⟩
  · intro kk
    refine bcase (b := decide (p1.op < 1)) (fun g302 => ?_) (fun g302 => ?_)
    · skip
      refine U.x rfl rfl rfl rfl ((L 0 rfl rfl).trans (congrArg Value.bool g302)) (by decide) ?_
      refine U.x rfl rfl rfl rfl ((L 1 rfl rfl).trans (congrArg Value.bool g302)) (by decide) ?_
      refine U.x rfl rfl rfl rfl ((L 2 rfl rfl).trans (congrArg Value.bool g302)) (by decide) ?_
      refine U.p rfl rfl (.inl rfl) (S.pickT rfl ((L 3 rfl rfl).trans (congrArg Value.bool g302)) K) ?_
      exact kk [(18, .bool true), (17, .tuple #[]), (16, .tuple #[]), (15, .tuple #[])] _ ⟨.tuple #[], .tuple #[], .tuple #[], rfl, (by rw [g302, Bool.true_or])⟩
    · skip
      refine U.p (v := .pointer (some ⟨b10, 0, none⟩)) rfl rfl (.inr ⟨_, _, _, rfl, rfl, ((L 0 rfl rfl).trans (congrArg Value.bool g302))⟩) (S.fieldAddr rfl (L 5 rfl rfl) Try.underlying42 rfl ti3 rfl rfl) ?_
      refine U.k rfl rfl (.inr ⟨_, _, _, rfl, rfl, ((L 1 rfl rfl).trans (congrArg Value.bool g302))⟩) (S.load rfl (L 0 rfl rfl) Try.underlying3 rfl ((ow13.own (k := 0) rfl).cell rfl)) nd ?_
      refine U.p rfl rfl (.inr ⟨_, _, _, rfl, rfl, ((L 2 rfl rfl).trans (congrArg Value.bool g302))⟩) (S.gtr rfl (L 0 rfl rfl) K) ?_
      refine U.p rfl rfl (.inl rfl) (S.pickF rfl ((L 3 rfl rfl).trans (congrArg Value.bool g302)) (L 0 rfl rfl)) ?_
      exact kk [(18, .bool (decide (22 < p1.op))), (17, .bool (decide (22 < p1.op))), (16, .int .i64 p1.op), (15, .pointer (some ⟨b10, 0, none⟩))] _ ⟨.bool (decide (22 < p1.op)), .int .i64 p1.op, .pointer (some ⟨b10, 0, none⟩), rfl, (by rw [g302, Bool.false_or])⟩

set_option maxHeartbeats 4000000 in
theorem wk_ref08_Good (V : Vw) (Rs : List At) (p0 : TFunc) (v1 : Value) (f2 : Fz RT_TIns V v1 p0.code) (ow : Ow V (Rs)) (r : Bool) (h : ref08_Good p0 = some r) : ∃ v V', Cl Try.prog 0 11 #[.agg #[.string p0.name, .int .i64 p0.params, .int .i64 p0.regs, v1]] V.H v V'.H ∧ V.le V' ∧ (v = .bool r ∧ Ow V' (Rs)) := by
  refine Ct.of (Nat.zero_le _) Try.func11 rfl (Nat.le_of_ble_eq_true rfl) ?_
  unfold ref08_Good at h
  refine WP.usreg rfl ?_
  refine O.box ow rfl rfl (.inl rfl) rfl (L 0 rfl rfl) (by simp [topV]) rfl nd (fun b3 V4 le5 ow6 => ?_)
  refine U.p rfl rfl (.inl rfl) (S.assign rfl K) ?_
  refine U.done (Nat.le_of_ble_eq_true rfl) ?_
  refine WP.usreg rfl ?_
  refine U.p (v := .pointer (some ⟨b3, 3, none⟩)) rfl rfl (.inl rfl) (S.fieldAddr rfl (L 1 rfl rfl) Try.underlying33 rfl ti31 rfl rfl) ?_
  refine U.k rfl rfl (.inl rfl) (S.load rfl (L 0 rfl rfl) Try.underlying31 rfl ((ow6.own (k := 0) rfl).cell rfl)) nd ?_
  refine U.p rfl rfl (.inl rfl) (f2.1.len rfl (L 0 rfl rfl) Try.underlying31) ?_
  refine U.p rfl rfl (.inl rfl) (S.assign rfl (L 0 rfl rfl)) ?_
  refine U.done (Nat.le_of_ble_eq_true rfl) ?_
  refine WP.seq ?_
  refine WP.usreg rfl ?_
  refine U.p rfl rfl (.inl rfl) (S.move rfl (L 0 rfl rfl)) ?_
  refine U.p rfl rfl (.inl rfl) (S.eqlI rfl (L 0 rfl rfl) K) ?_
  refine U.p rfl rfl (.inl rfl) (S.move rfl (L 0 rfl rfl)) ?_
  refine U.joinX 7 (fun e H => ∃ (u8 u9 u10 : Value), H = V4.H ∧ e = [(16, .bool ((decide ((p0.code.length : Int) = 0)) || (decide (p0.params < 0)))), (15, u8), (14, u9), (13, u10)]) ?_ ?_
  · rintro _ _ ⟨u8, u9, u10, rfl, rfl⟩
    refine U.p rfl rfl (.inl rfl) (S.move rfl (L 0 rfl rfl)) ?_
    refine U.joinX 14 (fun e H => ∃ (u14 u15 u16 u17 u18 : Value), H = V4.H ∧ e = [(23, .bool (((decide ((p0.code.length : Int) = 0)) || (decide (p0.params < 0))) || (decide (p0.regs < p0.params)))), (22, u14), (21, u15), (20, u16), (19, u17), (18, u18)]) ?_ ?_
    · rintro _ _ ⟨u14, u15, u16, u17, u18, rfl, rfl⟩
      refine U.done (Nat.le_of_ble_eq_true rfl) ?_
      refine WP.cond _ (L 0 rfl rfl) rfl (fun c22 => ?_) (fun c22 => ?_)
      · have h23 := ifT c22 h
        refine WP.usreg rfl ?_
        refine U.p rfl rfl (.inl rfl) (S.assign rfl K) ?_
        refine U.done (Nat.le_of_ble_eq_true rfl) ?_
        refine WP.ret ?_
        refine sqR ?_
        refine fin.slot (.inr rfl) rfl (L 0 rfl rfl) ⟨V4, rfl, le5, ?_⟩
        have ow24 := ow6.drop 0 rfl
        have e25 := Option.some.inj h23
        subst e25
        exact ⟨rfl, ow24⟩
      · have h26 := ifF c22 h
        refine WP.skip ?_
        refine sqN ?_
        refine WP.usreg rfl ?_
        refine U.p (v := .pointer (some ⟨b3, 3, none⟩)) rfl rfl (.inl rfl) (S.fieldAddr rfl (L 19 rfl rfl) Try.underlying33 rfl ti31 rfl rfl) ?_
        refine U.k rfl rfl (.inl rfl) (S.load rfl (L 0 rfl rfl) Try.underlying31 rfl ((ow6.own (k := 0) rfl).cell rfl)) nd ?_
        refine U.p rfl rfl (.inl rfl) (S.move rfl (L 16 rfl rfl)) ?_
        refine U.p rfl rfl (.inl rfl) (S.sub rfl (L 0 rfl rfl) K) ?_
        obtain ⟨x27, hx28, h29⟩ := bindS h26
        obtain ⟨b30, o31, c32, cs33, hv34, hf35, hr36, hc37⟩ := f2.at hx28
        obtain ⟨v38, rfl, f39⟩ := hr36
        refine U.p rfl rfl (.inl rfl) (S.index rfl ((L 2 rfl rfl).trans hv34) (L 0 rfl rfl) Try.underlying31 ti42 (ix_ge hx28) (ix_lt hx28)) ?_
        refine U.p (v := .pointer (some ⟨b30, o31 + Int.toNat (w64 ((p0.code.length : Int) - 1)) * 9, none⟩)) rfl rfl (.inl rfl) (S.fieldAddr rfl (L 0 rfl rfl) Try.underlying42 rfl ti3 rfl rfl) ?_
        refine U.k rfl rfl (.inl rfl) (S.load rfl (L 0 rfl rfl) Try.underlying3 rfl (le5.cell hf35 (hc37 0 _ rfl))) nd ?_
        refine U.p rfl rfl (.inl rfl) (S.assign rfl (L 0 rfl rfl)) ?_
        refine U.done (Nat.le_of_ble_eq_true rfl) ?_
        refine WP.seq ?_
        refine WP.usreg rfl ?_
        refine U.p rfl rfl (.inl rfl) (S.move rfl (L 0 rfl rfl)) ?_
        refine U.p rfl rfl (.inl rfl) (S.neqI rfl (L 0 rfl rfl) K) ?_
        refine U.p rfl rfl (.inl rfl) (S.move rfl (L 0 rfl rfl)) ?_
        refine U.joinX 6 (fun e H => ∃ (u40 u41 : Value), H = V4.H ∧ e = [(36, .bool ((decide (x27.op ≠ 12)) && (decide (x27.op ≠ 15)))), (35, u40), (34, u41)]) ?_ ?_
        · rintro _ _ ⟨u40, u41, rfl, rfl⟩
          refine U.p rfl rfl (.inl rfl) (S.move rfl (L 0 rfl rfl)) ?_
          refine U.joinX 10 (fun e H => ∃ (u45 u46 : Value), H = V4.H ∧ e = [(40, .bool (((decide (x27.op ≠ 12)) && (decide (x27.op ≠ 15))) && (decide (x27.op ≠ 16)))), (39, u45), (38, u46)]) ?_ ?_
          · rintro _ _ ⟨u45, u46, rfl, rfl⟩
            refine U.done (Nat.le_of_ble_eq_true rfl) ?_
            refine WP.cond _ (L 0 rfl rfl) rfl (fun c50 => ?_) (fun c50 => ?_)
            · have h51 := ifT c50 h29
              refine WP.usreg rfl ?_
              refine U.p rfl rfl (.inl rfl) (S.assign rfl K) ?_
              refine U.done (Nat.le_of_ble_eq_true rfl) ?_
              refine WP.ret ?_
              refine sqR ?_
              refine fin.slot (.inr rfl) rfl (L 0 rfl rfl) ⟨V4, rfl, le5, ?_⟩
              have ow52 := ow6.drop 0 rfl
              have e53 := Option.some.inj h51
              subst e53
              exact ⟨rfl, ow52⟩
            · have h54 := ifF c50 h29
              refine WP.skip ?_
              refine sqN ?_
              refine WP.seq ?_
              refine WP.usreg rfl ?_
              refine U.p (v := .pointer (some ⟨b3, 3, none⟩)) rfl rfl (.inl rfl) (S.fieldAddr rfl (L 37 rfl rfl) Try.underlying33 rfl ti31 rfl rfl) ?_
              refine U.k rfl rfl (.inl rfl) (S.load rfl (L 0 rfl rfl) Try.underlying31 rfl ((ow6.own (k := 0) rfl).cell rfl)) nd ?_
              refine U.p rfl rfl (.inl rfl) (f2.1.len rfl (L 0 rfl rfl) Try.underlying31) ?_
              refine U.p rfl rfl (.inl rfl) (S.move rfl K) ?_
              refine U.done (Nat.le_of_ble_eq_true rfl) ?_
              refine WP.blk ?_
              unfold ref08_Good_l1 at h54
              obtain ⟨n57, hn56⟩ := loopO_some.1 h54
              refine WP.loopI2 (fun n l V' => ∃ (x55 : Int), l = [(1, .pointer (some ⟨b3, 0, none⟩)), (42, v1), (43, .int .i64 (p0.code.length : Int)), (44, .int .i64 x55)] ∧ V4.le V' ∧ Ow V' (.pt b3 (.cells 0 [.string p0.name, .int .i64 p0.params, .int .i64 p0.regs, v1]) :: Rs) ∧ itO (fun s => ref08_Good_l1b p0 s) n x55 = some r) n57 _ ⟨0, rfl, .refl _, ow6, hn56⟩ (allCons (L 41 rfl rfl) (allCons (L 2 rfl rfl) (allCons (L 1 rfl rfl) (allCons (L 0 rfl rfl) allNil)))) ?_
              rintro _ _ V58 ⟨x55, rfl, le59, ow60, h64⟩
              obtain ⟨m61, q62, rfl, h65, e63⟩ := itS h64
              replace h65 : ref08_Good_l1b p0 x55 = some q62 := h65
              unfold ref08_Good_l1b at h65
              refine WP.usreg rfl ?_
              refine U.p rfl rfl (.inl rfl) (S.lss rfl (L 3 rfl rfl) (L 2 rfl rfl)) ?_
              refine U.done (Nat.le_of_ble_eq_true rfl) ?_
              refine WP.seq ?_
              refine WP.cond _ (L 0 rfl rfl) rfl (fun c66 => ?_) (fun c66 => ?_)
              · have h67 := ifT c66 h65
                refine WP.skip ?_
                refine sqN ?_
                refine WP.seq ?_
                refine WP.blk ?_
                refine WP.usreg rfl ?_
                obtain ⟨x68, hx69, h70⟩ := bindS h67
                obtain ⟨b71, o72, c73, cs74, hv75, hf76, hr77, hc78⟩ := f2.at hx69
                obtain ⟨v79, rfl, f80⟩ := hr77
                refine U.p rfl rfl (.inl rfl) (S.index rfl ((L 2 rfl rfl).trans hv75) (L 4 rfl rfl) Try.underlying31 ti42 (ix_ge hx69) (ix_lt hx69)) ?_
                refine U.k rfl rfl (.inl rfl) (S.loadN (cs := [.int .i64 x68.op, .int .i64 x68.d, .int .i64 x68.a, .int .i64 x68.b, .int .i64 x68.imm, v79, .int .i64 x68.what, .bool x68.volatile, .bool x68.final]) rfl (L 0 rfl rfl) Try.underlying42 rfl ti42 rfl (fun j v hj => (le5.trans le59).cell hf76 (hc78 j v hj))) nd ?_
                refine O.alloc ow60 rfl rfl (.inl rfl) rfl ti42 rfl rfl nd (fun b81 V82 le83 ow84 => ?_)
                refine O.store (k := 0) (cs := [.int .i64 x68.op, .int .i64 x68.d, .int .i64 x68.a, .int .i64 x68.b, .int .i64 x68.imm, v79, .int .i64 x68.what, .bool x68.volatile, .bool x68.final]) (c' := [.int .i64 x68.op, .int .i64 x68.d, .int .i64 x68.a, .int .i64 x68.b, .int .i64 x68.imm, v79, .int .i64 x68.what, .bool x68.volatile, .bool x68.final]) ow84 rfl rfl rfl (.inl rfl) rfl (L 0 rfl rfl) (L 1 rfl rfl) ti42 (by simp [topV]) rfl rfl (Nat.le_of_ble_eq_true rfl) (by have q0 := f80.one; simp only [List.all_cons, List.all_nil, q0]; rfl) rfl nd (fun V86 le87 ow88 => ?_)
                refine U.done (Nat.le_of_ble_eq_true rfl) ?_
                refine WP.usreg rfl ?_
                refine U.k rfl rfl (.inl rfl) (S.loadB rfl (L 4 rfl rfl) Try.underlying33 rfl ti33 (ow88.own (k := 1) rfl).get rfl) nd ?_
                refine U.k rfl rfl (.inl rfl) (S.loadB rfl (L 1 rfl rfl) Try.underlying42 rfl ti42 (ow88.own (k := 0) rfl).get rfl) nd ?_
                have f89 := f2.up (((le5.trans le59).trans le83).trans le87)
                have f90 := f80.up (((le5.trans le59).trans le83).trans le87)
                obtain ⟨x91, hx92, h93⟩ := bindS h70
                refine O.call (V := V86) rfl rfl (.inl rfl) rfl en16 (aC (L 1 rfl rfl) (aC (L 0 rfl rfl) aN)) (wk_ref08_ins V86 _ p0 x68 v1 v79 f89 f90 ow88 _ hx92) (fun _ _ _ _ => nd) (fun v94 V95 le96 hp97 => ?_)
                obtain ⟨rfl, ow98⟩ := hp97
                refine U.p rfl rfl (.inl rfl) (S.not rfl (L 0 rfl rfl)) ?_
                refine U.p rfl rfl (.inl rfl) (S.move rfl (L 0 rfl rfl)) ?_
                obtain ⟨y99, hy100, h101⟩ := bindS h93
                refine U.joinX 16 (fun e H => ∃ (u102 u103 u104 u105 u106 u107 u108 u109 u110 u111 : Value), ∃ V' : Vw, H = V'.H ∧ V95.le V' ∧ e = [(63, .bool y99), (62, u102), (61, u103), (60, u104), (59, u105), (58, u106), (57, u107), (56, u108), (55, u109), (54, u110), (53, u111)] ∧ Ow V' (.pt b81 (.cells 9 [.int .i64 x68.op, .int .i64 x68.d, .int .i64 x68.a, .int .i64 x68.b, .int .i64 x68.imm, v79, .int .i64 x68.what, .bool x68.volatile, .bool x68.final]) :: .pt b3 (.cells 0 [.string p0.name, .int .i64 p0.params, .int .i64 p0.regs, v1]) :: Rs)) ?_ ?_
                · rintro _ _ ⟨u102, u103, u104, u105, u106, u107, u108, u109, u110, u111, V112, rfl, le113, rfl, ow114⟩
                  refine U.done (Nat.le_of_ble_eq_true rfl) ?_
                  refine WP.cond _ (L 0 rfl rfl) rfl (fun c115 => ?_) (fun c115 => ?_)
                  · have h116 := ifT c115 h101
                    refine WP.usreg rfl ?_
                    refine U.p rfl rfl (.inl rfl) (S.assign rfl K) ?_
                    refine U.done (Nat.le_of_ble_eq_true rfl) ?_
                    refine WP.ret ?_
                    refine blkR (sqR (sqR (blkR (sqR ?_))))
                    have h117 := exitS h116 e63
                    refine fin.slot (.inr rfl) rfl (L 0 rfl rfl) ⟨V112, rfl, (((((le5.trans le59).trans le83).trans le87).trans le96).trans le113), ?_⟩
                    have ow118 := ow114.drop 0 rfl
                    have ow119 := ow118.drop 0 rfl
                    have e120 := Option.some.inj h117
                    subst e120
                    exact ⟨rfl, ow119⟩
                  · have h121 := ifF c115 h101
                    refine WP.skip ?_
                    refine blkN (sqN ?_)
                    refine WP.ureg rfl ?_
                    refine U.p rfl rfl (.inl rfl) (S.add rfl (L 23 rfl rfl) K) ?_
                    refine U.p rfl rfl (.inl rfl) (S.move rfl (L 0 rfl rfl)) ?_
                    refine U.done (Nat.le_of_ble_eq_true rfl) ?_
                    refine sqN ?_
                    have ow122 := ow114.drop 0 rfl
                    exact ⟨_, V112, rfl, ⟨m61, Nat.lt_succ_self _, w64 (x55 + 1), rfl, ((((le59.trans le83).trans le87).trans le96).trans le113), ow122, backS h121 e63⟩, (allCons (L 22 rfl rfl) (allCons (L 23 rfl rfl) (allCons (L 24 rfl rfl) (allCons (L 0 rfl rfl) allNil))))⟩
                · intro kk
                  refine bcase (b := !x91) (fun g123 => ?_) (fun g123 => ?_)
                  · have h124 := ifT g123 hy100
                    have k125 : x91 = false := by simpa using g123
                    refine U.x rfl rfl rfl rfl ((L 0 rfl rfl).trans (congrArg Value.bool g123)) (by decide) ?_
                    refine U.x rfl rfl rfl rfl ((L 1 rfl rfl).trans (congrArg Value.bool g123)) (by decide) ?_
                    refine U.x rfl rfl rfl rfl ((L 2 rfl rfl).trans (congrArg Value.bool g123)) (by decide) ?_
                    refine U.x rfl rfl rfl rfl ((L 3 rfl rfl).trans (congrArg Value.bool g123)) (by decide) ?_
                    refine U.z rfl rfl rfl rfl (L 0 rfl rfl) ?_
                    refine U.z rfl rfl rfl rfl (L 1 rfl rfl) ?_
                    refine U.z rfl rfl rfl rfl (L 2 rfl rfl) ?_
                    refine U.z rfl rfl rfl rfl (L 3 rfl rfl) ?_
                    refine U.z rfl rfl rfl rfl (L 4 rfl rfl) ?_
                    refine U.x rfl rfl rfl rfl ((L 9 rfl rfl).trans (congrArg Value.bool g123)) (by decide) ?_
                    refine U.p rfl rfl (.inl rfl) (S.pickT rfl ((L 10 rfl rfl).trans (congrArg Value.bool g123)) K) ?_
                    have e126 := Option.some.inj h124
                    subst e126
                    exact kk [(63, .bool true), (62, .tuple #[]), (61, .tuple #[]), (60, .tuple #[]), (59, .tuple #[]), (58, .tuple #[]), (57, .tuple #[]), (56, .tuple #[]), (55, .tuple #[]), (54, .tuple #[]), (53, .tuple #[])] _ ⟨.tuple #[], .tuple #[], .tuple #[], .tuple #[], .tuple #[], .tuple #[], .tuple #[], .tuple #[], .tuple #[], .tuple #[], V95, rfl, (.refl _), rfl, ow98⟩
                  · have h127 := ifF g123 hy100
                    have k128 : x91 = true := by simpa using g123
                    refine U.p (v := .pointer (some ⟨b81, 0, none⟩)) rfl rfl (.inr ⟨_, _, _, rfl, rfl, ((L 0 rfl rfl).trans (congrArg Value.bool g123))⟩) (S.fieldAddr rfl (L 5 rfl rfl) Try.underlying42 rfl ti3 rfl rfl) ?_
                    refine U.k rfl rfl (.inr ⟨_, _, _, rfl, rfl, ((L 1 rfl rfl).trans (congrArg Value.bool g123))⟩) (S.load rfl (L 0 rfl rfl) Try.underlying3 rfl ((ow98.own (k := 0) rfl).cell rfl)) nd ?_
                    refine U.p rfl rfl (.inr ⟨_, _, _, rfl, rfl, ((L 2 rfl rfl).trans (congrArg Value.bool g123))⟩) (S.eqlI rfl (L 0 rfl rfl) K) ?_
                    refine U.p rfl rfl (.inr ⟨_, _, _, rfl, rfl, ((L 3 rfl rfl).trans (congrArg Value.bool g123))⟩) (S.move rfl (L 0 rfl rfl)) ?_
                    obtain ⟨y129, hy130, h131⟩ := bindS h127
                    refine U.joinX 15 (fun e H => ∃ (u132 u133 u134 u135 u136 : Value), ∃ V' : Vw, H = V'.H ∧ V95.le V' ∧ e = [(62, .bool y129), (61, u132), (60, u133), (59, u134), (58, u135), (57, u136)] ∧ Ow V' (.pt b81 (.cells 9 [.int .i64 x68.op, .int .i64 x68.d, .int .i64 x68.a, .int .i64 x68.b, .int .i64 x68.imm, v79, .int .i64 x68.what, .bool x68.volatile, .bool x68.final]) :: .pt b3 (.cells 0 [.string p0.name, .int .i64 p0.params, .int .i64 p0.regs, v1]) :: Rs)) ?_ ?_
                    · rintro _ _ ⟨u132, u133, u134, u135, u136, V137, rfl, le138, rfl, ow139⟩
                      refine U.p rfl rfl (.inl rfl) (S.pickF rfl ((L 10 rfl rfl).trans (congrArg Value.bool g123)) (L 0 rfl rfl)) ?_
                      have e140 := Option.some.inj h131
                      subst e140
                      exact kk [(63, .bool y129), (62, .bool y129), (61, u132), (60, u133), (59, u134), (58, u135), (57, u136), (56, .bool (decide (x68.op = 11))), (55, .bool (decide (x68.op = 11))), (54, .int .i64 x68.op), (53, .pointer (some ⟨b81, 0, none⟩))] _ ⟨.bool y129, u132, u133, u134, u135, u136, .bool (decide (x68.op = 11)), .bool (decide (x68.op = 11)), .int .i64 x68.op, .pointer (some ⟨b81, 0, none⟩), V137, rfl, le138, rfl, ow139⟩
                    · intro kk
                      refine bcase (b := decide (x68.op = 11)) (fun g141 => ?_) (fun g141 => ?_)
                      · have h142 := ifT g141 hy130
                        refine U.k rfl rfl (.inr ⟨_, _, _, rfl, rfl, ((L 0 rfl rfl).trans (congrArg Value.bool g141))⟩) (S.loadB rfl (L 13 rfl rfl) Try.underlying33 rfl ti33 (ow98.own (k := 1) rfl).get rfl) nd ?_
                        refine U.p (v := .pointer (some ⟨b81, 4, none⟩)) rfl rfl (.inr ⟨_, _, _, rfl, rfl, ((L 1 rfl rfl).trans (congrArg Value.bool g141))⟩) (S.fieldAddr rfl (L 10 rfl rfl) Try.underlying42 rfl ti3 rfl rfl) ?_
                        refine U.k rfl rfl (.inr ⟨_, _, _, rfl, rfl, ((L 2 rfl rfl).trans (congrArg Value.bool g141))⟩) (S.load rfl (L 0 rfl rfl) Try.underlying3 rfl ((ow98.own (k := 0) rfl).cell rfl)) nd ?_
                        have f143 := f89.up le96
                        obtain ⟨x144, hx145, h146⟩ := bindS h142
                        refine O.call (V := V95) rfl rfl (.inr ⟨_, _, _, rfl, rfl, ((L 3 rfl rfl).trans (congrArg Value.bool g141))⟩) rfl en17 (aC (L 2 rfl rfl) (aC (L 0 rfl rfl) aN)) (wk_ref08_count V95 _ p0 x68.imm v1 f143 ow98 _ hx145) (fun _ _ _ _ => nd) (fun v147 V148 le149 hp150 => ?_)
                        obtain ⟨rfl, ow151⟩ := hp150
                        refine U.p rfl rfl (.inr ⟨_, _, _, rfl, rfl, ((L 4 rfl rfl).trans (congrArg Value.bool g141))⟩) (S.neqI rfl (L 0 rfl rfl) K) ?_
                        refine U.p rfl rfl (.inr ⟨_, _, _, rfl, rfl, ((L 9 rfl rfl).trans (congrArg Value.bool g123))⟩) (S.pickT rfl ((L 5 rfl rfl).trans (congrArg Value.bool g141)) (L 0 rfl rfl)) ?_
                        have e152 := Option.some.inj h146
                        subst e152
                        exact kk [(62, .bool (decide (x144 ≠ 1))), (61, .bool (decide (x144 ≠ 1))), (60, .int .i64 x144), (59, .int .i64 x68.imm), (58, .pointer (some ⟨b81, 4, none⟩)), (57, .agg #[.string p0.name, .int .i64 p0.params, .int .i64 p0.regs, v1])] _ ⟨.bool (decide (x144 ≠ 1)), .int .i64 x144, .int .i64 x68.imm, .pointer (some ⟨b81, 4, none⟩), .agg #[.string p0.name, .int .i64 p0.params, .int .i64 p0.regs, v1], V148, rfl, le149, rfl, ow151⟩
                      · have h153 := ifF g141 hy130
                        refine U.x rfl rfl rfl rfl ((L 0 rfl rfl).trans (congrArg Value.bool g141)) (by decide) ?_
                        refine U.x rfl rfl rfl rfl ((L 1 rfl rfl).trans (congrArg Value.bool g141)) (by decide) ?_
                        refine U.x rfl rfl rfl rfl ((L 2 rfl rfl).trans (congrArg Value.bool g141)) (by decide) ?_
                        refine U.x rfl rfl rfl rfl ((L 3 rfl rfl).trans (congrArg Value.bool g141)) (by decide) ?_
                        refine U.x rfl rfl rfl rfl ((L 4 rfl rfl).trans (congrArg Value.bool g141)) (by decide) ?_
                        refine U.p rfl rfl (.inr ⟨_, _, _, rfl, rfl, ((L 9 rfl rfl).trans (congrArg Value.bool g123))⟩) (S.pickF rfl ((L 5 rfl rfl).trans (congrArg Value.bool g141)) K) ?_
                        have e154 := Option.some.inj h153
                        subst e154
                        exact kk [(62, .bool false), (61, .tuple #[]), (60, .tuple #[]), (59, .tuple #[]), (58, .tuple #[]), (57, .tuple #[])] _ ⟨.tuple #[], .tuple #[], .tuple #[], .tuple #[], .tuple #[], V95, rfl, (.refl _), rfl, ow98⟩
              · have h155 := ifF c66 h65
                refine WP.exit ?_
                refine sqE (sqE (blkE (sqN ?_)))
                have h156 := exitS h155 e63
                refine WP.usreg rfl ?_
                refine U.p rfl rfl (.inl rfl) (S.assign rfl K) ?_
                refine U.done (Nat.le_of_ble_eq_true rfl) ?_
                refine WP.ret ?_
                refine fin.slot (.inr rfl) rfl (L 0 rfl rfl) ⟨V58, rfl, (le5.trans le59), ?_⟩
                have ow157 := ow60.drop 0 rfl
                have e158 := Option.some.inj h156
                subst e158
                exact ⟨rfl, ow157⟩
          · intro kk
            refine bcase (b := (decide (x27.op ≠ 12)) && (decide (x27.op ≠ 15))) (fun g159 => ?_) (fun g159 => ?_)
            · skip
              refine U.p rfl rfl (.inr ⟨_, _, _, rfl, rfl, ((L 0 rfl rfl).trans (congrArg Value.bool g159))⟩) (S.move rfl (L 7 rfl rfl)) ?_
              refine U.p rfl rfl (.inr ⟨_, _, _, rfl, rfl, ((L 1 rfl rfl).trans (congrArg Value.bool g159))⟩) (S.neqI rfl (L 0 rfl rfl) K) ?_
              refine U.p rfl rfl (.inl rfl) (S.pickT rfl ((L 2 rfl rfl).trans (congrArg Value.bool g159)) (L 0 rfl rfl)) ?_
              exact kk [(40, .bool (decide (x27.op ≠ 16))), (39, .bool (decide (x27.op ≠ 16))), (38, .int .i64 x27.op)] _ ⟨.bool (decide (x27.op ≠ 16)), .int .i64 x27.op, rfl, (by rw [g159, Bool.true_and])⟩
            · skip
              refine U.x rfl rfl rfl rfl ((L 0 rfl rfl).trans (congrArg Value.bool g159)) (by decide) ?_
              refine U.x rfl rfl rfl rfl ((L 1 rfl rfl).trans (congrArg Value.bool g159)) (by decide) ?_
              refine U.p rfl rfl (.inl rfl) (S.pickF rfl ((L 2 rfl rfl).trans (congrArg Value.bool g159)) K) ?_
              exact kk [(40, .bool false), (39, .tuple #[]), (38, .tuple #[])] _ ⟨.tuple #[], .tuple #[], rfl, (by rw [g159, Bool.false_and])⟩
        · intro kk
          refine bcase (b := decide (x27.op ≠ 12)) (fun g160 => ?_) (fun g160 => ?_)
          · skip
            refine U.p rfl rfl (.inr ⟨_, _, _, rfl, rfl, ((L 0 rfl rfl).trans (congrArg Value.bool g160))⟩) (S.move rfl (L 3 rfl rfl)) ?_
            refine U.p rfl rfl (.inr ⟨_, _, _, rfl, rfl, ((L 1 rfl rfl).trans (congrArg Value.bool g160))⟩) (S.neqI rfl (L 0 rfl rfl) K) ?_
            refine U.p rfl rfl (.inl rfl) (S.pickT rfl ((L 2 rfl rfl).trans (congrArg Value.bool g160)) (L 0 rfl rfl)) ?_
            exact kk [(36, .bool (decide (x27.op ≠ 15))), (35, .bool (decide (x27.op ≠ 15))), (34, .int .i64 x27.op)] _ ⟨.bool (decide (x27.op ≠ 15)), .int .i64 x27.op, rfl, (by rw [g160, Bool.true_and])⟩
          · skip
            refine U.x rfl rfl rfl rfl ((L 0 rfl rfl).trans (congrArg Value.bool g160)) (by decide) ?_
            refine U.x rfl rfl rfl rfl ((L 1 rfl rfl).trans (congrArg Value.bool g160)) (by decide) ?_
            refine U.p rfl rfl (.inl rfl) (S.pickF rfl ((L 2 rfl rfl).trans (congrArg Value.bool g160)) K) ?_
            exact kk [(36, .bool false), (35, .tuple #[]), (34, .tuple #[])] _ ⟨.tuple #[], .tuple #[], rfl, (by rw [g160, Bool.false_and])⟩
    · intro kk
      refine bcase (b := (decide ((p0.code.length : Int) = 0)) || (decide (p0.params < 0))) (fun g161 => ?_) (fun g161 => ?_)
      · skip
        refine U.x rfl rfl rfl rfl ((L 0 rfl rfl).trans (congrArg Value.bool g161)) (by decide) ?_
        refine U.x rfl rfl rfl rfl ((L 1 rfl rfl).trans (congrArg Value.bool g161)) (by decide) ?_
        refine U.x rfl rfl rfl rfl ((L 2 rfl rfl).trans (congrArg Value.bool g161)) (by decide) ?_
        refine U.x rfl rfl rfl rfl ((L 3 rfl rfl).trans (congrArg Value.bool g161)) (by decide) ?_
        refine U.x rfl rfl rfl rfl ((L 4 rfl rfl).trans (congrArg Value.bool g161)) (by decide) ?_
        refine U.p rfl rfl (.inl rfl) (S.pickT rfl ((L 5 rfl rfl).trans (congrArg Value.bool g161)) K) ?_
        exact kk [(23, .bool true), (22, .tuple #[]), (21, .tuple #[]), (20, .tuple #[]), (19, .tuple #[]), (18, .tuple #[])] _ ⟨.tuple #[], .tuple #[], .tuple #[], .tuple #[], .tuple #[], rfl, (by rw [g161, Bool.true_or])⟩
      · skip
        refine U.p (v := .pointer (some ⟨b3, 1, none⟩)) rfl rfl (.inr ⟨_, _, _, rfl, rfl, ((L 0 rfl rfl).trans (congrArg Value.bool g161))⟩) (S.fieldAddr rfl (L 13 rfl rfl) Try.underlying33 rfl ti3 rfl rfl) ?_
        refine U.k rfl rfl (.inr ⟨_, _, _, rfl, rfl, ((L 1 rfl rfl).trans (congrArg Value.bool g161))⟩) (S.load rfl (L 0 rfl rfl) Try.underlying3 rfl ((ow6.own (k := 0) rfl).cell rfl)) nd ?_
        refine U.p (v := .pointer (some ⟨b3, 2, none⟩)) rfl rfl (.inr ⟨_, _, _, rfl, rfl, ((L 2 rfl rfl).trans (congrArg Value.bool g161))⟩) (S.fieldAddr rfl (L 15 rfl rfl) Try.underlying33 rfl ti3 rfl rfl) ?_
        refine U.k rfl rfl (.inr ⟨_, _, _, rfl, rfl, ((L 3 rfl rfl).trans (congrArg Value.bool g161))⟩) (S.load rfl (L 0 rfl rfl) Try.underlying3 rfl ((ow6.own (k := 0) rfl).cell rfl)) nd ?_
        refine U.p rfl rfl (.inr ⟨_, _, _, rfl, rfl, ((L 4 rfl rfl).trans (congrArg Value.bool g161))⟩) (S.gtr rfl (L 2 rfl rfl) (L 0 rfl rfl)) ?_
        refine U.p rfl rfl (.inl rfl) (S.pickF rfl ((L 5 rfl rfl).trans (congrArg Value.bool g161)) (L 0 rfl rfl)) ?_
        exact kk [(23, .bool (decide (p0.regs < p0.params))), (22, .bool (decide (p0.regs < p0.params))), (21, .int .i64 p0.regs), (20, .pointer (some ⟨b3, 2, none⟩)), (19, .int .i64 p0.params), (18, .pointer (some ⟨b3, 1, none⟩))] _ ⟨.bool (decide (p0.regs < p0.params)), .int .i64 p0.regs, .pointer (some ⟨b3, 2, none⟩), .int .i64 p0.params, .pointer (some ⟨b3, 1, none⟩), rfl, (by rw [g161, Bool.false_or])⟩
  · intro kk
    refine bcase (b := decide ((p0.code.length : Int) = 0)) (fun g162 => ?_) (fun g162 => ?_)
    · skip
      refine U.x rfl rfl rfl rfl ((L 0 rfl rfl).trans (congrArg Value.bool g162)) (by decide) ?_
      refine U.x rfl rfl rfl rfl ((L 1 rfl rfl).trans (congrArg Value.bool g162)) (by decide) ?_
      refine U.x rfl rfl rfl rfl ((L 2 rfl rfl).trans (congrArg Value.bool g162)) (by decide) ?_
      refine U.p rfl rfl (.inl rfl) (S.pickT rfl ((L 3 rfl rfl).trans (congrArg Value.bool g162)) K) ?_
      exact kk [(16, .bool true), (15, .tuple #[]), (14, .tuple #[]), (13, .tuple #[])] _ ⟨.tuple #[], .tuple #[], .tuple #[], rfl, (by rw [g162, Bool.true_or])⟩
    · skip
      refine U.p (v := .pointer (some ⟨b3, 1, none⟩)) rfl rfl (.inr ⟨_, _, _, rfl, rfl, ((L 0 rfl rfl).trans (congrArg Value.bool g162))⟩) (S.fieldAddr rfl (L 8 rfl rfl) Try.underlying33 rfl ti3 rfl rfl) ?_
      refine U.k rfl rfl (.inr ⟨_, _, _, rfl, rfl, ((L 1 rfl rfl).trans (congrArg Value.bool g162))⟩) (S.load rfl (L 0 rfl rfl) Try.underlying3 rfl ((ow6.own (k := 0) rfl).cell rfl)) nd ?_
      refine U.p rfl rfl (.inr ⟨_, _, _, rfl, rfl, ((L 2 rfl rfl).trans (congrArg Value.bool g162))⟩) (S.lss rfl (L 0 rfl rfl) K) ?_
      refine U.p rfl rfl (.inl rfl) (S.pickF rfl ((L 3 rfl rfl).trans (congrArg Value.bool g162)) (L 0 rfl rfl)) ?_
      exact kk [(16, .bool (decide (p0.params < 0))), (15, .bool (decide (p0.params < 0))), (14, .int .i64 p0.params), (13, .pointer (some ⟨b3, 1, none⟩))] _ ⟨.bool (decide (p0.params < 0)), .int .i64 p0.params, .pointer (some ⟨b3, 1, none⟩), rfl, (by rw [g162, Bool.false_or])⟩

set_option maxHeartbeats 4000000 in
theorem wk_law12_FenceStays (V : Vw) (Rs : List At) (p0 : TModule) (p1 : Tfence_Options) (v1 : Value) (v3 : Value) (f2 : Fz RT_TFunc V v1 p0.funcs) (f4 : Fz (RT.int .i64) V v3 p0.threads) (ow : Ow V (Rs)) (r : Bool) (h : law12_FenceStays p0 p1 = some r) : ∃ v V', Cl Try.prog 0 3 #[.agg #[v1, v3], .agg #[.bool p1.naive, .bool p1.bare, .bool p1.merged]] V.H v V'.H ∧ V.le V' ∧ (v = .bool r ∧ Ow V' (Rs)) := by
  refine Ct.of (Nat.zero_le _) Try.func3 rfl (Nat.le_of_ble_eq_true rfl) ?_
  unfold law12_FenceStays at h
  refine WP.usreg rfl ?_
  refine O.box ow rfl rfl (.inl rfl) rfl (L 0 rfl rfl) (by simp [topV]) rfl nd (fun b5 V6 le7 ow8 => ?_)
  refine O.box ow8 rfl rfl (.inl rfl) rfl (L 2 rfl rfl) (by simp [topV]) rfl nd (fun b10 V11 le12 ow13 => ?_)
  refine U.p rfl rfl (.inl rfl) (S.assign rfl K) ?_
  refine U.done (Nat.le_of_ble_eq_true rfl) ?_
  refine WP.seq ?_
  refine WP.usreg rfl ?_
  obtain ⟨x15, hx16, h17⟩ := bindS h
  refine O.call (V := V11) rfl rfl (.inl rfl) rfl en6 aN (wk_law12_alive V11 _ ow13 _ hx16) (fun _ _ _ _ => nd) (fun v18 V19 le20 hp21 => ?_)
  obtain ⟨rfl, ow22⟩ := hp21
  refine U.p rfl rfl (.inl rfl) (S.not rfl (L 0 rfl rfl)) ?_
  refine U.done (Nat.le_of_ble_eq_true rfl) ?_
  refine WP.cond _ (L 0 rfl rfl) rfl (fun c23 => ?_) (fun c23 => ?_)
  · have h24 := ifT c23 h17
    have k25 : x15 = false := by simpa using c23
    refine WP.usreg rfl ?_
    refine U.p rfl rfl (.inl rfl) (S.assign rfl K) ?_
    refine U.done (Nat.le_of_ble_eq_true rfl) ?_
    refine WP.ret ?_
    refine sqR ?_
    refine fin.slot (.inr rfl) rfl (L 0 rfl rfl) ⟨V19, rfl, ((le7.trans le12).trans le20), ?_⟩
    have ow26 := ow22.drop 0 rfl
    have ow27 := ow26.drop 0 rfl
    have e28 := Option.some.inj h24
    subst e28
    exact ⟨rfl, ow27⟩
  · have h29 := ifF c23 h17
    have k30 : x15 = true := by simpa using c23
    refine WP.skip ?_
    refine sqN ?_
    refine WP.seq ?_
    refine WP.usreg rfl ?_
    refine U.k rfl rfl (.inl rfl) (S.loadB rfl (L 4 rfl rfl) Try.underlying25 rfl ti25 (ow22.own (k := 1) rfl).get rfl) nd ?_
    have f31 := f2.up ((le7.trans le12).trans le20)
    have f32 := f4.up ((le7.trans le12).trans le20)
    obtain ⟨x33, hx34, h35⟩ := bindS h29
    refine O.call (V := V19) rfl rfl (.inl rfl) rfl en7 (aC (L 0 rfl rfl) aN) (wk_law12_great V19 _ p0 v1 v3 f31 f32 ow22 _ hx34) (fun _ _ _ _ => nd) (fun v36 V37 le38 hp39 => ?_)
    obtain ⟨rfl, ow40⟩ := hp39
    refine U.done (Nat.le_of_ble_eq_true rfl) ?_
    refine WP.cond _ (L 0 rfl rfl) rfl (fun c41 => ?_) (fun c41 => ?_)
    · have h42 := ifT c41 h35
      refine WP.usreg rfl ?_
      refine U.p rfl rfl (.inl rfl) (S.assign rfl K) ?_
      refine U.done (Nat.le_of_ble_eq_true rfl) ?_
      refine WP.ret ?_
      refine sqR ?_
      refine fin.slot (.inr rfl) rfl (L 0 rfl rfl) ⟨V37, rfl, (((le7.trans le12).trans le20).trans le38), ?_⟩
      have ow43 := ow40.drop 0 rfl
      have ow44 := ow43.drop 0 rfl
      have e45 := Option.some.inj h42
      subst e45
      exact ⟨rfl, ow44⟩
    · have h46 := ifF c41 h35
      refine WP.skip ?_
      refine sqN ?_
      refine WP.usreg rfl ?_
      refine U.k rfl rfl (.inl rfl) (S.loadB rfl (L 6 rfl rfl) Try.underlying25 rfl ti25 (ow40.own (k := 1) rfl).get rfl) nd ?_
      refine U.k rfl rfl (.inl rfl) (S.loadB rfl (L 6 rfl rfl) Try.underlying27 rfl ti27 (ow40.own (k := 0) rfl).get rfl) nd ?_
      have f47 := f31.up le38
      have f48 := f32.up le38
      obtain ⟨x49, hx50, h51⟩ := bindS h46
      refine O.call (V := V37) rfl rfl (.inl rfl) rfl en8 (aC (L 1 rfl rfl) (aC (L 0 rfl rfl) aN)) (wk_fence_Module V37 _ p0 p1 v1 v3 f47 f48 ow40 _ hx50) (fun _ _ _ _ => nd) (fun v52 V53 le54 hp55 => ?_)
      obtain ⟨v57, v59, rfl, f58, f60, ow56⟩ := hp55
      refine O.alloc ow56 rfl rfl (.inl rfl) rfl ti25 rfl rfl nd (fun b61 V62 le63 ow64 => ?_)
      refine O.store (k := 0) (cs := [v57, v59]) (c' := [v57, v59]) ow64 rfl rfl rfl (.inl rfl) rfl (L 0 rfl rfl) (L 1 rfl rfl) ti25 (by simp [topV]) rfl rfl (Nat.le_of_ble_eq_true rfl) (by have q0 := f58.one; have q1 := f60.one; simp only [List.all_cons, List.all_nil, q0, q1]; rfl) rfl nd (fun V66 le67 ow68 => ?_)
      refine U.done (Nat.le_of_ble_eq_true rfl) ?_
      refine WP.seq ?_
      refine WP.usreg rfl ?_
      refine U.p (v := .pointer (some ⟨b5, 0, none⟩)) rfl rfl (.inl rfl) (S.fieldAddr rfl (L 10 rfl rfl) Try.underlying25 rfl ti22 rfl rfl) ?_
      refine U.k rfl rfl (.inl rfl) (S.load rfl (L 0 rfl rfl) Try.underlying22 rfl ((ow68.own (k := 2) rfl).cell rfl)) nd ?_
      refine U.p rfl rfl (.inl rfl) (f47.1.len rfl (L 0 rfl rfl) Try.underlying22) ?_
      refine U.p rfl rfl (.inl rfl) (S.move rfl K) ?_
      refine U.done (Nat.le_of_ble_eq_true rfl) ?_
      refine WP.blk ?_
      have ow70 := ow68.drop 1 rfl
      have ow71 := ow70.drop 1 rfl
      unfold law12_FenceStays_l1 at h51
      obtain ⟨n73, hn72⟩ := loopO_some.1 h51
      refine WP.loopI2 (fun n l V' => ∃ (x69 : Int), l = [(5, .pointer (some ⟨b61, 0, none⟩)), (16, v1), (17, .int .i64 (p0.funcs.length : Int)), (18, .int .i64 x69)] ∧ V66.le V' ∧ Ow V' (.pt b61 (.cells 2 [v57, v59]) :: Rs) ∧ itO (fun s => law12_FenceStays_l1b p0 x49 s) n x69 = some r) n73 _ ⟨0, rfl, .refl _, ow71, hn72⟩ (allCons (L 4 rfl rfl) (allCons (L 2 rfl rfl) (allCons (L 1 rfl rfl) (allCons (L 0 rfl rfl) allNil)))) ?_
      rintro _ _ V74 ⟨x69, rfl, le75, ow76, h80⟩
      obtain ⟨m77, q78, rfl, h81, e79⟩ := itS h80
      replace h81 : law12_FenceStays_l1b p0 x49 x69 = some q78 := h81
      unfold law12_FenceStays_l1b at h81
      refine WP.usreg rfl ?_
      refine U.p rfl rfl (.inl rfl) (S.lss rfl (L 3 rfl rfl) (L 2 rfl rfl)) ?_
      refine U.done (Nat.le_of_ble_eq_true rfl) ?_
      refine WP.seq ?_
      refine WP.cond _ (L 0 rfl rfl) rfl (fun c82 => ?_) (fun c82 => ?_)
      · have h83 := ifT c82 h81
        refine WP.skip ?_
        refine sqN ?_
        refine WP.seq ?_
        refine WP.blk ?_
        refine WP.usreg rfl ?_
        refine U.p rfl rfl (.inl rfl) (S.move rfl (L 4 rfl rfl)) ?_
        obtain ⟨x84, hx85, h86⟩ := bindS h83
        obtain ⟨b87, o88, c89, cs90, hv91, hf92, hr93, hc94⟩ := f47.at hx85
        obtain ⟨v95, rfl, f96⟩ := hr93
        refine U.p rfl rfl (.inl rfl) (S.index rfl ((L 3 rfl rfl).trans hv91) (L 5 rfl rfl) Try.underlying22 ti33 (ix_ge hx85) (ix_lt hx85)) ?_
        refine U.k rfl rfl (.inl rfl) (S.loadN (cs := [.string x84.name, .int .i64 x84.params, .int .i64 x84.regs, v95]) rfl (L 0 rfl rfl) Try.underlying33 rfl ti33 rfl (fun j v hj => (((le54.trans le63).trans le67).trans le75).cell hf92 (hc94 j v hj))) nd ?_
        refine O.alloc ow76 rfl rfl (.inl rfl) rfl ti33 rfl rfl nd (fun b97 V98 le99 ow100 => ?_)
        refine U.p rfl rfl (.inl rfl) (S.assign rfl (L 3 rfl rfl)) ?_
        refine O.store (k := 0) (cs := [.string x84.name, .int .i64 x84.params, .int .i64 x84.regs, v95]) (c' := [.string x84.name, .int .i64 x84.params, .int .i64 x84.regs, v95]) ow100 rfl rfl rfl (.inl rfl) rfl (L 1 rfl rfl) (L 2 rfl rfl) ti33 (by simp [topV]) rfl rfl (Nat.le_of_ble_eq_true rfl) (by have q0 := f96.one; simp only [List.all_cons, List.all_nil, q0]; rfl) rfl nd (fun V102 le103 ow104 => ?_)
        refine U.done (Nat.le_of_ble_eq_true rfl) ?_
        refine WP.seqI (fun l V' => ∃ (x105 : Bool), l = [(5, .pointer (some ⟨b61, 0, none⟩)), (16, v1), (17, .int .i64 (p0.funcs.length : Int)), (18, .int .i64 x69), (45, .bool x105)] ∧ V102.le V' ∧ Ow V' (.pt b61 (.cells 2 [v57, v59]) :: Rs) ∧ law12_FenceStays_k1 x69 x105 = some q78) ?_ ?_
        · rintro _ V106 ⟨x105, rfl, le107, ow108, h109⟩
          unfold law12_FenceStays_k1 at h109
          refine WP.cond _ (L 4 rfl rfl) rfl (fun c110 => ?_) (fun c110 => ?_)
          · have h111 := ifT c110 h109
            refine WP.usreg rfl ?_
            refine U.p rfl rfl (.inl rfl) (S.assign rfl K) ?_
            refine U.done (Nat.le_of_ble_eq_true rfl) ?_
            refine WP.ret ?_
            refine blkR (sqR (sqR (blkR (sqR ?_))))
            have h112 := exitS h111 e79
            refine fin.slot (.inr rfl) rfl (L 0 rfl rfl) ⟨V106, rfl, ((((((((((le7.trans le12).trans le20).trans le38).trans le54).trans le63).trans le67).trans le75).trans le99).trans le103).trans le107), ?_⟩
            have ow113 := ow108.drop 0 rfl
            have e114 := Option.some.inj h112
            subst e114
            exact ⟨rfl, ow113⟩
          · have h115 := ifF c110 h109
            refine WP.skip ?_
            refine blkN (sqN ?_)
            refine WP.ureg rfl ?_
            refine U.p rfl rfl (.inl rfl) (S.add rfl (L 3 rfl rfl) K) ?_
            refine U.p rfl rfl (.inl rfl) (S.move rfl (L 0 rfl rfl)) ?_
            refine U.done (Nat.le_of_ble_eq_true rfl) ?_
            refine sqN ?_
            exact ⟨_, V106, rfl, ⟨m77, Nat.lt_succ_self _, w64 (x69 + 1), rfl, (((le75.trans le99).trans le103).trans le107), ow108, backS h115 e79⟩, (allCons (L 2 rfl rfl) (allCons (L 3 rfl rfl) (allCons (L 4 rfl rfl) (allCons (L 0 rfl rfl) allNil))))⟩
        · skip
          refine WP.udreg rfl rfl rfl ?_
          refine U.k rfl rfl (.inl rfl) (S.loadB rfl (L 1 rfl rfl) Try.underlying33 rfl ti33 (ow104.own (k := 0) rfl).get rfl) (fun _ => (okH.nil (fun r h => by cases h; exact (ow104.own (k := 0) rfl).lt))) ?_
          have f116 := f96.up (((((le54.trans le63).trans le67).trans le75).trans le99).trans le103)
          obtain ⟨x117, hx118, h119⟩ := bindS h86
          refine O.call (V := V102) rfl rfl (.inl rfl) rfl en10 (aC (L 0 rfl rfl) aN) (wk_law12_bare V102 _ x84 v95 f116 ow104 _ hx118) (fun v120 V121 le122 hp123 => by obtain ⟨v125, rfl, f126, ow124⟩ := hp123; exact (fun _ => (okH.cons (Or.inl rfl) (okH.nil (fun r h => nomatch h))))) (fun v120 V121 le122 hp123 => ?_)
          obtain ⟨v125, rfl, f126, ow124⟩ := hp123
          refine U.p (v := .pointer (some ⟨b61, 0, none⟩)) rfl rfl (.inl rfl) (S.fieldAddr rfl (L 8 rfl rfl) Try.underlying25 rfl ti22 rfl rfl) ?_
          refine U.k rfl rfl (.inl rfl) (S.load rfl (L 0 rfl rfl) Try.underlying22 rfl ((ow124.own (k := 1) rfl).cell rfl)) (fun _ => (okH.cons (Or.inr ((ow124.own (k := 1) rfl).get.trans (ow104.own (k := 1) rfl).get.symm)) (okH.cons trivial (okH.nil (fun r h => by cases h; exact (ow124.own (k := 1) rfl).lt))))) ?_
          refine U.p rfl rfl (.inl rfl) (S.move rfl (L 4 rfl rfl)) ?_
          obtain ⟨x127, hx128, h129⟩ := bindS h119
          obtain ⟨b130, o131, c132, cs133, hv134, hf135, hr136, hc137⟩ := f58.at hx128
          obtain ⟨v138, rfl, f139⟩ := hr136
          refine U.p rfl rfl (.inl rfl) (S.index rfl ((L 1 rfl rfl).trans hv134) (L 0 rfl rfl) Try.underlying22 ti33 (ix_ge hx128) (ix_lt hx128)) ?_
          refine U.k rfl rfl (.inl rfl) (S.loadN (cs := [.string x127.name, .int .i64 x127.params, .int .i64 x127.regs, v138]) rfl (L 0 rfl rfl) Try.underlying33 rfl ti33 rfl (fun j v hj => (((((le63.trans le67).trans le75).trans le99).trans le103).trans le122).cell hf135 (hc137 j v hj))) (fun _ => (okH.cons trivial (okH.cons (Or.inr (le122.get _ (((((le63.trans le67).trans le75).trans le99).trans le103).sub _ hf135))) (okH.cons trivial (okH.nil (fun r h => by cases h; exact (V121.wf _ ((((((le63.trans le67).trans le75).trans le99).trans le103).trans le122).sub _ hf135)))))))) ?_
          have f140 := f139.up (((((le63.trans le67).trans le75).trans le99).trans le103).trans le122)
          obtain ⟨x141, hx142, h143⟩ := bindS h129
          refine O.call (V := V121) rfl rfl (.inl rfl) rfl en10 (aC (L 0 rfl rfl) aN) (wk_law12_bare V121 _ x127 v138 f140 ow124 _ hx142) (fun v144 V145 le146 hp147 => by obtain ⟨v149, rfl, f150, ow148⟩ := hp147; exact (fun _ => (okH.cons (Or.inl rfl) (okH.cons (Or.inl rfl) (okH.cons rfl (okH.cons (Or.inl rfl) (okH.nil (fun r h => nomatch h)))))))) (fun v144 V145 le146 hp147 => ?_)
          obtain ⟨v149, rfl, f150, ow148⟩ := hp147
          have f151 := f126.up le146
          obtain ⟨x152, hx153, h154⟩ := bindS h143
          refine O.call (V := V145) rfl rfl (.inl rfl) rfl en9 (aC (L 6 rfl rfl) (aC (L 0 rfl rfl) aN)) (wk_ref11_Same V145 _ x117 x141 v125 v149 f151 f150 ow148 _ hx153) (fun v155 V156 le157 hp158 => by obtain ⟨rfl, ow159⟩ := hp158; exact (fun _ => (okH.cons rfl (okH.cons (Or.inl rfl) (okH.cons (Or.inl rfl) (okH.cons rfl (okH.cons (Or.inl rfl) (okH.nil (fun r h => nomatch h))))))))) (fun v155 V156 le157 hp158 => ?_)
          obtain ⟨rfl, ow159⟩ := hp158
          refine U.p rfl rfl (.inl rfl) (S.not rfl (L 0 rfl rfl)) ?_
          refine U.p rfl rfl (.inl rfl) (S.move rfl (L 0 rfl rfl)) ?_
          refine bcase (b := !x152) (fun g160 => ?_) (fun g160 => ?_)
          · have h161 := ifT g160 h154
            have k162 : x152 = false := by simpa using g160
            refine U.x rfl rfl rfl rfl ((L 0 rfl rfl).trans (congrArg Value.bool g160)) (by decide) ?_
            refine U.x rfl rfl rfl rfl ((L 1 rfl rfl).trans (congrArg Value.bool g160)) (by decide) ?_
            refine U.x rfl rfl rfl rfl ((L 2 rfl rfl).trans (congrArg Value.bool g160)) (by decide) ?_
            refine U.z rfl rfl rfl rfl (L 0 rfl rfl) ?_
            refine U.z rfl rfl rfl rfl (L 1 rfl rfl) ?_
            refine U.z rfl rfl rfl rfl (L 2 rfl rfl) ?_
            refine U.z rfl rfl rfl rfl (L 3 rfl rfl) ?_
            refine U.z rfl rfl rfl rfl (L 4 rfl rfl) ?_
            refine U.z rfl rfl rfl rfl (L 5 rfl rfl) ?_
            refine U.z rfl rfl rfl rfl (L 6 rfl rfl) ?_
            refine U.x rfl rfl rfl rfl ((L 10 rfl rfl).trans (congrArg Value.bool g160)) (by decide) ?_
            refine U.p rfl rfl (.inl rfl) (S.pickT rfl ((L 11 rfl rfl).trans (congrArg Value.bool g160)) K) ?_
            refine U.done (Nat.le_of_ble_eq_true rfl) ?_
            refine sqN ?_
            have ow163 := ow159.drop 0 rfl
            exact ⟨_, V156, rfl, ⟨true, rfl, ((le122.trans le146).trans le157), ow163, h161⟩, (allCons (L 29 rfl rfl) (allCons (L 30 rfl rfl) (allCons (L 31 rfl rfl) (allCons (L 32 rfl rfl) (allCons (L 0 rfl rfl) allNil)))))⟩
          · have h164 := ifF g160 h154
            have k165 : x152 = true := by simpa using g160
            refine U.k rfl rfl (.inr ⟨_, _, _, rfl, rfl, ((L 0 rfl rfl).trans (congrArg Value.bool g160))⟩) (S.loadB rfl (L 12 rfl rfl) Try.underlying33 rfl ti33 (ow159.own (k := 0) rfl).get rfl) (fun _ => (okH.cons (Or.inl rfl) (okH.cons (Or.inl rfl) (okH.cons trivial (okH.cons trivial (okH.cons (Or.inl rfl) (okH.cons trivial (okH.nil (fun r h => by cases h; exact (ow159.own (k := 0) rfl).lt))))))))) ?_
            have f166 := f116.up ((le122.trans le146).trans le157)
            obtain ⟨x167, hx168, h169⟩ := bindS h164
            refine O.call (V := V156) rfl rfl (.inr ⟨_, _, _, rfl, rfl, ((L 1 rfl rfl).trans (congrArg Value.bool g160))⟩) rfl en11 (aC (L 0 rfl rfl) aN) (wk_ref08_Good V156 _ x84 v95 f166 ow159 _ hx168) (fun v170 V171 le172 hp173 => by obtain ⟨rfl, ow174⟩ := hp173; exact (fun _ => (okH.cons (Or.inl rfl) (okH.cons rfl (okH.cons rfl (okH.cons (Or.inl rfl) (okH.cons (Or.inl rfl) (okH.cons rfl (okH.cons (Or.inl rfl) (okH.nil (fun r h => nomatch h))))))))))) (fun v170 V171 le172 hp173 => ?_)
            obtain ⟨rfl, ow174⟩ := hp173
            refine U.p rfl rfl (.inr ⟨_, _, _, rfl, rfl, ((L 2 rfl rfl).trans (congrArg Value.bool g160))⟩) (S.move rfl (L 0 rfl rfl)) ?_
            refine bcase (b := x167) (fun g175 => ?_) (fun g175 => ?_)
            · have h176 := ifT g175 h169
              refine U.p (v := .pointer (some ⟨b61, 0, none⟩)) rfl rfl (.inr ⟨_, _, _, rfl, rfl, ((L 0 rfl rfl).trans (congrArg Value.bool g175))⟩) (S.fieldAddr rfl (L 20 rfl rfl) Try.underlying25 rfl ti22 rfl rfl) ?_
              refine U.k rfl rfl (.inr ⟨_, _, _, rfl, rfl, ((L 1 rfl rfl).trans (congrArg Value.bool g175))⟩) (S.load rfl (L 0 rfl rfl) Try.underlying22 rfl ((ow174.own (k := 1) rfl).cell rfl)) (fun _ => (okH.cons (Or.inl rfl) (okH.cons trivial (okH.cons (Or.inl rfl) (okH.cons (Or.inl rfl) (okH.cons trivial (okH.cons trivial (okH.cons (Or.inl rfl) (okH.cons trivial (okH.nil (fun r h => by cases h; exact (ow174.own (k := 1) rfl).lt))))))))))) ?_
              refine U.p rfl rfl (.inr ⟨_, _, _, rfl, rfl, ((L 2 rfl rfl).trans (congrArg Value.bool g175))⟩) (S.move rfl (L 16 rfl rfl)) ?_
              obtain ⟨x177, hx178, h179⟩ := bindS h176
              obtain ⟨b180, o181, c182, cs183, hv184, hf185, hr186, hc187⟩ := f58.at hx178
              obtain ⟨v188, rfl, f189⟩ := hr186
              refine U.p rfl rfl (.inr ⟨_, _, _, rfl, rfl, ((L 3 rfl rfl).trans (congrArg Value.bool g175))⟩) (S.index rfl ((L 1 rfl rfl).trans hv184) (L 0 rfl rfl) Try.underlying22 ti33 (ix_ge hx178) (ix_lt hx178)) ?_
              refine U.k rfl rfl (.inr ⟨_, _, _, rfl, rfl, ((L 4 rfl rfl).trans (congrArg Value.bool g175))⟩) (S.loadN (cs := [.string x177.name, .int .i64 x177.params, .int .i64 x177.regs, v188]) rfl (L 0 rfl rfl) Try.underlying33 rfl ti33 rfl (fun j v hj => ((((((((le63.trans le67).trans le75).trans le99).trans le103).trans le122).trans le146).trans le157).trans le172).cell hf185 (hc187 j v hj))) (fun _ => (okH.cons trivial (okH.cons (Or.inl rfl) (okH.cons trivial (okH.cons (Or.inl rfl) (okH.cons (Or.inl rfl) (okH.cons trivial (okH.cons trivial (okH.cons (Or.inl rfl) (okH.cons trivial (okH.nil (fun r h => by cases h; exact (V171.wf _ (((((((((le63.trans le67).trans le75).trans le99).trans le103).trans le122).trans le146).trans le157).trans le172).sub _ hf185)))))))))))))) ?_
              have f190 := f189.up ((((((((le63.trans le67).trans le75).trans le99).trans le103).trans le122).trans le146).trans le157).trans le172)
              obtain ⟨x191, hx192, h193⟩ := bindS h179
              refine O.call (V := V171) rfl rfl (.inr ⟨_, _, _, rfl, rfl, ((L 5 rfl rfl).trans (congrArg Value.bool g175))⟩) rfl en11 (aC (L 0 rfl rfl) aN) (wk_ref08_Good V171 _ x177 v188 f190 ow174 _ hx192) (fun v194 V195 le196 hp197 => by obtain ⟨rfl, ow198⟩ := hp197; exact (fun _ => (okH.cons (Or.inl rfl) (okH.cons (Or.inl rfl) (okH.cons rfl (okH.cons (Or.inl rfl) (okH.cons rfl (okH.cons rfl (okH.cons (Or.inl rfl) (okH.cons (Or.inl rfl) (okH.cons rfl (okH.cons (Or.inl rfl) (okH.nil (fun r h => nomatch h)))))))))))))) (fun v194 V195 le196 hp197 => ?_)
              obtain ⟨rfl, ow198⟩ := hp197
              refine U.p rfl rfl (.inr ⟨_, _, _, rfl, rfl, ((L 6 rfl rfl).trans (congrArg Value.bool g175))⟩) (S.not rfl (L 0 rfl rfl)) ?_
              refine U.p rfl rfl (.inr ⟨_, _, _, rfl, rfl, ((L 10 rfl rfl).trans (congrArg Value.bool g160))⟩) (S.pickT rfl ((L 7 rfl rfl).trans (congrArg Value.bool g175)) (L 0 rfl rfl)) ?_
              refine U.p rfl rfl (.inl rfl) (S.pickF rfl ((L 11 rfl rfl).trans (congrArg Value.bool g160)) (L 0 rfl rfl)) ?_
              refine U.done (Nat.le_of_ble_eq_true rfl) ?_
              refine sqN ?_
              have ow199 := ow198.drop 0 rfl
              exact ⟨_, V195, rfl, ⟨!x191, rfl, ((((le122.trans le146).trans le157).trans le172).trans le196), ow199, h193⟩, (allCons (L 29 rfl rfl) (allCons (L 30 rfl rfl) (allCons (L 31 rfl rfl) (allCons (L 32 rfl rfl) (allCons (L 0 rfl rfl) allNil)))))⟩
            · have h200 := ifF g175 h169
              refine U.x rfl rfl rfl rfl ((L 0 rfl rfl).trans (congrArg Value.bool g175)) (by decide) ?_
              refine U.x rfl rfl rfl rfl ((L 1 rfl rfl).trans (congrArg Value.bool g175)) (by decide) ?_
              refine U.x rfl rfl rfl rfl ((L 2 rfl rfl).trans (congrArg Value.bool g175)) (by decide) ?_
              refine U.x rfl rfl rfl rfl ((L 3 rfl rfl).trans (congrArg Value.bool g175)) (by decide) ?_
              refine U.x rfl rfl rfl rfl ((L 4 rfl rfl).trans (congrArg Value.bool g175)) (by decide) ?_
              refine U.x rfl rfl rfl rfl ((L 5 rfl rfl).trans (congrArg Value.bool g175)) (by decide) ?_
              refine U.x rfl rfl rfl rfl ((L 6 rfl rfl).trans (congrArg Value.bool g175)) (by decide) ?_
              refine U.p rfl rfl (.inr ⟨_, _, _, rfl, rfl, ((L 10 rfl rfl).trans (congrArg Value.bool g160))⟩) (S.pickF rfl ((L 7 rfl rfl).trans (congrArg Value.bool g175)) K) ?_
              refine U.p rfl rfl (.inl rfl) (S.pickF rfl ((L 11 rfl rfl).trans (congrArg Value.bool g160)) (L 0 rfl rfl)) ?_
              refine U.done (Nat.le_of_ble_eq_true rfl) ?_
              refine sqN ?_
              have ow201 := ow174.drop 0 rfl
              exact ⟨_, V171, rfl, ⟨false, rfl, (((le122.trans le146).trans le157).trans le172), ow201, h200⟩, (allCons (L 29 rfl rfl) (allCons (L 30 rfl rfl) (allCons (L 31 rfl rfl) (allCons (L 32 rfl rfl) (allCons (L 0 rfl rfl) allNil)))))⟩
      · have h202 := ifF c82 h81
        refine WP.exit ?_
        refine sqE (sqE (blkE (sqN ?_)))
        have h203 := exitS h202 e79
        refine WP.usreg rfl ?_
        refine U.p rfl rfl (.inl rfl) (S.assign rfl K) ?_
        refine U.done (Nat.le_of_ble_eq_true rfl) ?_
        refine WP.ret ?_
        refine fin.slot (.inr rfl) rfl (L 0 rfl rfl) ⟨V74, rfl, (((((((le7.trans le12).trans le20).trans le38).trans le54).trans le63).trans le67).trans le75), ?_⟩
        have ow204 := ow76.drop 0 rfl
        have e205 := Option.some.inj h203
        subst e205
        exact ⟨rfl, ow204⟩

set_option maxHeartbeats 4000000 in
theorem wk_ref12_one (V : Vw) (Rs : List At) (p0 : Int) (p1 : Int) (ow : Ow V (Rs)) (r : TIns) (h : ref12_one p0 p1 = some r) : ∃ v V', Cl Try.prog 0 26 #[.int .i64 p0, .int .i64 p1] V.H v V'.H ∧ V.le V' ∧ (∃ (v1 : Value), v = .agg #[.int .i64 r.op, .int .i64 r.d, .int .i64 r.a, .int .i64 r.b, .int .i64 r.imm, v1, .int .i64 r.what, .bool r.volatile, .bool r.final] ∧ Fz (RT.int .i64) V' v1 r.args ∧ Ow V' (Rs)) := by
  refine Ct.of (Nat.zero_le _) Try.func26 rfl (Nat.le_of_ble_eq_true rfl) ?_
  unfold ref12_one at h
  refine WP.usreg rfl ?_
  refine O.alloc ow rfl rfl (.inl rfl) rfl ti42 rfl rfl nd (fun b3 V4 le5 ow6 => ?_)
  refine U.done (Nat.le_of_ble_eq_true rfl) ?_
  refine WP.usreg rfl ?_
  refine U.p rfl rfl (.inl rfl) (S.move rfl (L 2 rfl rfl)) ?_
  refine U.p rfl rfl (.inl rfl) (S.move rfl (L 2 rfl rfl)) ?_
  refine U.p (v := .agg #[.int .i64 21, .int .i64 (-1), .int .i64 p1, .int .i64 (-1), .int .i64 p0, .slice none 0 0, .int .i64 0, .bool false, .bool false]) rfl rfl (.inl rfl) (S.build (vs := [.int .i64 21, .int .i64 (-1), .int .i64 p1, .int .i64 (-1), .int .i64 p0]) rfl ti42 rfl pl42 (aC K (aC K (aC (L 1 rfl rfl) (aC K (aC (L 0 rfl rfl) aN))))) (allC (by simp [topV]) (allC (by simp [topV]) (allC (by simp [topV]) (allC (by simp [topV]) (allC (by simp [topV]) allN))))) rfl) ?_
  refine O.store (k := 0) (cs := [.int .i64 21, .int .i64 (-1), .int .i64 p1, .int .i64 (-1), .int .i64 p0, .slice none 0 0, .int .i64 0, .bool false, .bool false]) (c' := [.int .i64 21, .int .i64 (-1), .int .i64 p1, .int .i64 (-1), .int .i64 p0, .slice none 0 0, .int .i64 0, .bool false, .bool false]) ow6 rfl rfl rfl (.inl rfl) rfl (L 3 rfl rfl) (L 0 rfl rfl) ti42 (by simp [topV]) rfl rfl (Nat.le_of_ble_eq_true rfl) rfl rfl nd (fun V8 le9 ow10 => ?_)
  refine U.done (Nat.le_of_ble_eq_true rfl) ?_
  refine WP.ret ?_
  refine fin.cellN (.inr rfl) rfl (L 3 rfl rfl) Try.underlying42 rfl ti42 (ow10.own (k := 0) rfl).get rfl ⟨V8, rfl, (le5.trans le9), ?_⟩
  have ow11 := ow10.drop 0 rfl
  have e12 := Option.some.inj h
  subst e12
  exact ⟨(.slice none 0 0), rfl, Fz.nil, ow11⟩

set_option maxHeartbeats 4000000 in
theorem wk_ref12_Of (V : Vw) (Rs : List At) (p0 : TIns) (p1 : Bool) (p2 : Bool) (v1 : Value) (f2 : Fz (RT.int .i64) V v1 p0.args) (ow : Ow V (Rs)) (r : List TIns) (h : ref12_Of p0 p1 p2 = some r) : ∃ v V', Cl Try.prog 0 18 #[.agg #[.int .i64 p0.op, .int .i64 p0.d, .int .i64 p0.a, .int .i64 p0.b, .int .i64 p0.imm, v1, .int .i64 p0.what, .bool p0.volatile, .bool p0.final], .bool p1, .bool p2] V.H v V'.H ∧ V.le V' ∧ (∃ (v3 : Value), v = v3 ∧ Ow V' (.os RT_TIns v3 r :: Rs)) := by
  refine Ct.of (Nat.zero_le _) Try.func18 rfl (Nat.le_of_ble_eq_true rfl) ?_
  unfold ref12_Of at h
  refine WP.usreg rfl ?_
  refine O.box ow rfl rfl (.inl rfl) rfl (L 0 rfl rfl) (by simp [topV]) rfl nd (fun b5 V6 le7 ow8 => ?_)
  refine U.p rfl rfl (.inl rfl) (S.assign rfl K) ?_
  refine U.done (Nat.le_of_ble_eq_true rfl) ?_
  refine WP.seq ?_
  refine WP.usreg rfl ?_
  refine U.p (v := .pointer (some ⟨b5, 0, none⟩)) rfl rfl (.inl rfl) (S.fieldAddr rfl (L 1 rfl rfl) Try.underlying42 rfl ti3 rfl rfl) ?_
  refine U.k rfl rfl (.inl rfl) (S.load rfl (L 0 rfl rfl) Try.underlying3 rfl ((ow8.own (k := 0) rfl).cell rfl)) nd ?_
  refine U.p rfl rfl (.inl rfl) (S.eqlI rfl (L 0 rfl rfl) K) ?_
  refine U.done (Nat.le_of_ble_eq_true rfl) ?_
  refine WP.cond _ (L 0 rfl rfl) rfl (fun c10 => ?_) (fun c10 => ?_)
  · have h11 := ifT c10 h
    refine WP.seq ?_
    refine WP.usreg rfl ?_
    refine U.p (v := .pointer (some ⟨b5, 4, none⟩)) rfl rfl (.inl rfl) (S.fieldAddr rfl (L 4 rfl rfl) Try.underlying42 rfl ti3 rfl rfl) ?_
    refine U.k rfl rfl (.inl rfl) (S.load rfl (L 0 rfl rfl) Try.underlying3 rfl ((ow8.own (k := 0) rfl).cell rfl)) nd ?_
    refine U.p rfl rfl (.inl rfl) (S.eqlI rfl (L 0 rfl rfl) K) ?_
    refine U.p rfl rfl (.inl rfl) (S.move rfl (L 0 rfl rfl)) ?_
    refine U.joinX 6 (fun e H => ∃ (u12 : Value), H = V6.H ∧ e = [(15, .bool ((decide (p0.imm = 1)) && p2)), (14, u12)]) ?_ ?_
    · rintro _ _ ⟨u12, rfl, rfl⟩
      refine U.done (Nat.le_of_ble_eq_true rfl) ?_
      refine WP.cond _ (L 0 rfl rfl) rfl (fun c16 => ?_) (fun c16 => ?_)
      · have h17 := ifT c16 h11
        refine WP.usreg rfl ?_
        refine U.p rfl rfl (.inl rfl) (S.assign rfl K) ?_
        refine U.done (Nat.le_of_ble_eq_true rfl) ?_
        refine WP.ret ?_
        refine sqR (sqR ?_)
        have ow18 := ow8.nil RT_TIns
        refine fin.slot (.inr rfl) rfl (L 0 rfl rfl) ⟨V6, rfl, le7, ?_⟩
        have ow20 := ow18.drop 1 rfl
        have e21 := Option.some.inj h17
        subst e21
        exact ⟨(.slice none 0 0), rfl, ow20⟩
      · have h22 := ifF c16 h11
        refine WP.skip ?_
        refine sqN ?_
        refine WP.usreg rfl ?_
        obtain ⟨x23, hx24, h25⟩ := bindS h22
        refine O.call (V := V6) rfl rfl (.inl rfl) rfl en26 (aC K (aC K aN)) (wk_ref12_one V6 _ 2 (-1) ow8 _ hx24) (fun _ _ _ _ => nd) (fun v26 V27 le28 hp29 => ?_)
        obtain ⟨v31, rfl, f32, ow30⟩ := hp29
        refine O.lit (R := RT_TIns) ow30 rfl rfl (.inl rfl) rfl Try.underlying31 ti42 rfl rfl rfl (Nat.le_of_ble_eq_true rfl) rfl (aC (L 0 rfl rfl) aN) (.cons _ _ x23 _ (by simp [topV]) ⟨_, rfl, f32⟩ .nil) (fun _ => nd) (fun v33 V34 le35 ow36 => ?_)
        refine U.p rfl rfl (.inl rfl) (S.assign rfl (L 0 rfl rfl)) ?_
        refine U.done (Nat.le_of_ble_eq_true rfl) ?_
        refine WP.ret ?_
        refine sqR ?_
        refine fin.slot (.inr rfl) rfl (L 0 rfl rfl) ⟨V34, rfl, ((le7.trans le28).trans le35), ?_⟩
        have ow38 := ow36.drop 1 rfl
        have e39 := Option.some.inj h25
        subst e39
        exact ⟨v33, rfl, ow38⟩
    · intro kk
      refine bcase (b := decide (p0.imm = 1)) (fun g40 => ?_) (fun g40 => ?_)
      · skip
        refine U.p rfl rfl (.inr ⟨_, _, _, rfl, rfl, ((L 0 rfl rfl).trans (congrArg Value.bool g40))⟩) (S.move rfl (L 11 rfl rfl)) ?_
        refine U.p rfl rfl (.inl rfl) (S.pickT rfl ((L 1 rfl rfl).trans (congrArg Value.bool g40)) (L 0 rfl rfl)) ?_
        exact kk [(15, .bool p2), (14, .bool p2)] _ ⟨.bool p2, rfl, (by rw [g40, Bool.true_and])⟩
      · skip
        refine U.x rfl rfl rfl rfl ((L 0 rfl rfl).trans (congrArg Value.bool g40)) (by decide) ?_
        refine U.p rfl rfl (.inl rfl) (S.pickF rfl ((L 1 rfl rfl).trans (congrArg Value.bool g40)) K) ?_
        exact kk [(15, .bool false), (14, .tuple #[])] _ ⟨.tuple #[], rfl, (by rw [g40, Bool.false_and])⟩
  · have h41 := ifF c10 h
    refine WP.skip ?_
    refine sqN ?_
    refine WP.seq ?_
    refine WP.usreg rfl ?_
    refine U.p (v := .pointer (some ⟨b5, 0, none⟩)) rfl rfl (.inl rfl) (S.fieldAddr rfl (L 4 rfl rfl) Try.underlying42 rfl ti3 rfl rfl) ?_
    refine U.k rfl rfl (.inl rfl) (S.load rfl (L 0 rfl rfl) Try.underlying3 rfl ((ow8.own (k := 0) rfl).cell rfl)) nd ?_
    refine U.p rfl rfl (.inl rfl) (S.eqlI rfl (L 0 rfl rfl) K) ?_
    refine U.p rfl rfl (.inl rfl) (S.move rfl (L 0 rfl rfl)) ?_
    refine U.joinX 7 (fun e H => ∃ (u42 u43 : Value), H = V6.H ∧ e = [(24, .bool ((decide (p0.op = 9)) && p0.volatile)), (23, u42), (22, u43)]) ?_ ?_
    · rintro _ _ ⟨u42, u43, rfl, rfl⟩
      refine U.done (Nat.le_of_ble_eq_true rfl) ?_
      refine WP.cond _ (L 0 rfl rfl) rfl (fun c47 => ?_) (fun c47 => ?_)
      · have h48 := ifT c47 h41
        refine WP.seq ?_
        refine WP.usreg rfl ?_
        refine U.p rfl rfl (.inl rfl) (S.move rfl (L 13 rfl rfl)) ?_
        refine U.done (Nat.le_of_ble_eq_true rfl) ?_
        refine WP.cond _ (L 0 rfl rfl) rfl (fun c49 => ?_) (fun c49 => ?_)
        · have h50 := ifT c49 h48
          refine WP.usdreg rfl rfl rfl ?_
          refine U.k rfl rfl (.inl rfl) (S.loadB rfl (L 12 rfl rfl) Try.underlying42 rfl ti42 (ow8.own (k := 0) rfl).get rfl) (fun _ => (okH.nil (fun r h => by cases h; exact (ow8.own (k := 0) rfl).lt))) ?_
          obtain ⟨x51, hx52, h53⟩ := bindS h50
          refine O.call (V := V6) rfl rfl (.inl rfl) rfl en26 (aC K (aC K aN)) (wk_ref12_one V6 _ 2 (-1) ow8 _ hx52) (fun v54 V55 le56 hp57 => by obtain ⟨v59, rfl, f60, ow58⟩ := hp57; exact (fun _ => (okH.cons (Or.inr (((ow58.own (k := 0) rfl).get.trans (ow8.own (k := 0) rfl).get.symm))) (okH.nil (fun r h => nomatch h))))) (fun v54 V55 le56 hp57 => ?_)
          obtain ⟨v59, rfl, f60, ow58⟩ := hp57
          have f61 := f2.up (le7.trans le56)
          refine O.lit (R := RT_TIns) ow58 rfl rfl (.inl rfl) rfl Try.underlying31 ti42 rfl rfl rfl (Nat.le_of_ble_eq_true rfl) rfl (aC (L 1 rfl rfl) (aC (L 0 rfl rfl) aN)) (.cons _ _ p0 _ (by simp [topV]) ⟨_, rfl, f61⟩ (.cons _ _ x51 _ (by simp [topV]) ⟨_, rfl, f60⟩ .nil)) (fun _ => (fun _ => (okH.cons trivial (okH.cons trivial (okH.nil (fun r h => nomatch h)))))) (fun v62 V63 le64 ow65 => ?_)
          refine U.p rfl rfl (.inl rfl) (S.assign rfl (L 0 rfl rfl)) ?_
          refine U.done (Nat.le_of_ble_eq_true rfl) ?_
          refine WP.ret ?_
          refine sqR (sqR ?_)
          refine fin.slot (.inr rfl) rfl (L 0 rfl rfl) ⟨V63, rfl, ((le7.trans le56).trans le64), ?_⟩
          have ow67 := ow65.drop 1 rfl
          have e68 := Option.some.inj h53
          subst e68
          exact ⟨v62, rfl, ow67⟩
        · have h69 := ifF c49 h48
          refine WP.skip ?_
          refine sqN ?_
          refine WP.usdreg rfl rfl rfl ?_
          obtain ⟨x70, hx71, h72⟩ := bindS h69
          refine O.call (V := V6) rfl rfl (.inl rfl) rfl en26 (aC K (aC K aN)) (wk_ref12_one V6 _ 1 (-1) ow8 _ hx71) (fun v73 V74 le75 hp76 => by obtain ⟨v78, rfl, f79, ow77⟩ := hp76; exact (fun _ => (okH.nil (fun r h => nomatch h)))) (fun v73 V74 le75 hp76 => ?_)
          obtain ⟨v78, rfl, f79, ow77⟩ := hp76
          refine U.k rfl rfl (.inl rfl) (S.loadB rfl (L 13 rfl rfl) Try.underlying42 rfl ti42 (ow77.own (k := 0) rfl).get rfl) (fun _ => (okH.cons (Or.inr ((ow77.own (k := 0) rfl).get.trans (ow8.own (k := 0) rfl).get.symm)) (okH.nil (fun r h => by cases h; exact (ow77.own (k := 0) rfl).lt)))) ?_
          refine U.p (v := .pointer (some ⟨b5, 1, none⟩)) rfl rfl (.inl rfl) (S.fieldAddr rfl (L 14 rfl rfl) Try.underlying42 rfl ti3 rfl rfl) ?_
          refine U.k rfl rfl (.inl rfl) (S.load rfl (L 0 rfl rfl) Try.underlying3 rfl ((ow77.own (k := 0) rfl).cell rfl)) (fun _ => (okH.cons trivial (okH.cons (Or.inr ((ow77.own (k := 0) rfl).get.trans (ow8.own (k := 0) rfl).get.symm)) (okH.nil (fun r h => by cases h; exact (ow77.own (k := 0) rfl).lt))))) ?_
          obtain ⟨x80, hx81, h82⟩ := bindS h72
          refine O.call (V := V74) rfl rfl (.inl rfl) rfl en26 (aC K (aC (L 0 rfl rfl) aN)) (wk_ref12_one V74 _ 3 p0.d ow77 _ hx81) (fun v83 V84 le85 hp86 => by obtain ⟨v88, rfl, f89, ow87⟩ := hp86; exact (fun _ => (okH.cons (Or.inl rfl) (okH.cons (Or.inr (((ow87.own (k := 0) rfl).get.trans (ow77.own (k := 0) rfl).get.symm))) (okH.cons rfl (okH.nil (fun r h => nomatch h))))))) (fun v83 V84 le85 hp86 => ?_)
          obtain ⟨v88, rfl, f89, ow87⟩ := hp86
          have f90 := f79.up le85
          have f91 := f2.up ((le7.trans le75).trans le85)
          refine O.lit (R := RT_TIns) ow87 rfl rfl (.inl rfl) rfl Try.underlying31 ti42 rfl rfl rfl (Nat.le_of_ble_eq_true rfl) rfl (aC (L 4 rfl rfl) (aC (L 3 rfl rfl) (aC (L 0 rfl rfl) aN))) (.cons _ _ x70 _ (by simp [topV]) ⟨_, rfl, f90⟩ (.cons _ _ p0 _ (by simp [topV]) ⟨_, rfl, f91⟩ (.cons _ _ x80 _ (by simp [topV]) ⟨_, rfl, f89⟩ .nil))) (fun _ => (fun _ => (okH.cons trivial (okH.cons trivial (okH.cons trivial (okH.cons trivial (okH.nil (fun r h => nomatch h)))))))) (fun v92 V93 le94 ow95 => ?_)
          refine U.p rfl rfl (.inl rfl) (S.assign rfl (L 0 rfl rfl)) ?_
          refine U.done (Nat.le_of_ble_eq_true rfl) ?_
          refine WP.ret ?_
          refine sqR ?_
          refine fin.slot (.inr rfl) rfl (L 0 rfl rfl) ⟨V93, rfl, (((le7.trans le75).trans le85).trans le94), ?_⟩
          have ow97 := ow95.drop 1 rfl
          have e98 := Option.some.inj h82
          subst e98
          exact ⟨v92, rfl, ow97⟩
      · have h99 := ifF c47 h41
        refine WP.skip ?_
        refine sqN ?_
        refine WP.seq ?_
        refine WP.usreg rfl ?_
        refine U.p (v := .pointer (some ⟨b5, 0, none⟩)) rfl rfl (.inl rfl) (S.fieldAddr rfl (L 11 rfl rfl) Try.underlying42 rfl ti3 rfl rfl) ?_
        refine U.k rfl rfl (.inl rfl) (S.load rfl (L 0 rfl rfl) Try.underlying3 rfl ((ow8.own (k := 0) rfl).cell rfl)) nd ?_
        refine U.p rfl rfl (.inl rfl) (S.eqlI rfl (L 0 rfl rfl) K) ?_
        refine U.p rfl rfl (.inl rfl) (S.move rfl (L 0 rfl rfl)) ?_
        refine U.joinX 7 (fun e H => ∃ (u100 u101 : Value), H = V6.H ∧ e = [(41, .bool ((decide (p0.op = 10)) && p0.volatile)), (40, u100), (39, u101)]) ?_ ?_
        · rintro _ _ ⟨u100, u101, rfl, rfl⟩
          refine U.p rfl rfl (.inl rfl) (S.move rfl (L 0 rfl rfl)) ?_
          refine U.joinX 10 (fun e H => ∃ (u105 : Value), H = V6.H ∧ e = [(44, .bool (((decide (p0.op = 10)) && p0.volatile) && p1)), (43, u105)]) ?_ ?_
          · rintro _ _ ⟨u105, rfl, rfl⟩
            refine U.done (Nat.le_of_ble_eq_true rfl) ?_
            refine WP.cond _ (L 0 rfl rfl) rfl (fun c109 => ?_) (fun c109 => ?_)
            · have h110 := ifT c109 h99
              refine WP.usdreg rfl rfl rfl ?_
              obtain ⟨x111, hx112, h113⟩ := bindS h110
              refine O.call (V := V6) rfl rfl (.inl rfl) rfl en26 (aC K (aC K aN)) (wk_ref12_one V6 _ 2 (-1) ow8 _ hx112) (fun v114 V115 le116 hp117 => by obtain ⟨v119, rfl, f120, ow118⟩ := hp117; exact (fun _ => (okH.nil (fun r h => nomatch h)))) (fun v114 V115 le116 hp117 => ?_)
              obtain ⟨v119, rfl, f120, ow118⟩ := hp117
              refine U.k rfl rfl (.inl rfl) (S.loadB rfl (L 22 rfl rfl) Try.underlying42 rfl ti42 (ow118.own (k := 0) rfl).get rfl) (fun _ => (okH.cons (Or.inr ((ow118.own (k := 0) rfl).get.trans (ow8.own (k := 0) rfl).get.symm)) (okH.nil (fun r h => by cases h; exact (ow118.own (k := 0) rfl).lt)))) ?_
              obtain ⟨x121, hx122, h123⟩ := bindS h113
              refine O.call (V := V115) rfl rfl (.inl rfl) rfl en26 (aC K (aC K aN)) (wk_ref12_one V115 _ 1 (-1) ow118 _ hx122) (fun v124 V125 le126 hp127 => by obtain ⟨v129, rfl, f130, ow128⟩ := hp127; exact (fun _ => (okH.cons (Or.inr (((ow128.own (k := 0) rfl).get.trans (ow118.own (k := 0) rfl).get.symm))) (okH.cons rfl (okH.nil (fun r h => nomatch h)))))) (fun v124 V125 le126 hp127 => ?_)
              obtain ⟨v129, rfl, f130, ow128⟩ := hp127
              have f131 := f120.up le126
              have f132 := f2.up ((le7.trans le116).trans le126)
              refine O.lit (R := RT_TIns) ow128 rfl rfl (.inl rfl) rfl Try.underlying31 ti42 rfl rfl rfl (Nat.le_of_ble_eq_true rfl) rfl (aC (L 2 rfl rfl) (aC (L 1 rfl rfl) (aC (L 0 rfl rfl) aN))) (.cons _ _ x111 _ (by simp [topV]) ⟨_, rfl, f131⟩ (.cons _ _ p0 _ (by simp [topV]) ⟨_, rfl, f132⟩ (.cons _ _ x121 _ (by simp [topV]) ⟨_, rfl, f130⟩ .nil))) (fun _ => (fun _ => (okH.cons trivial (okH.cons trivial (okH.cons trivial (okH.nil (fun r h => nomatch h))))))) (fun v133 V134 le135 ow136 => ?_)
              refine U.p rfl rfl (.inl rfl) (S.assign rfl (L 0 rfl rfl)) ?_
              refine U.done (Nat.le_of_ble_eq_true rfl) ?_
              refine WP.ret ?_
              refine sqR ?_
              refine fin.slot (.inr rfl) rfl (L 0 rfl rfl) ⟨V134, rfl, (((le7.trans le116).trans le126).trans le135), ?_⟩
              have ow138 := ow136.drop 1 rfl
              have e139 := Option.some.inj h123
              subst e139
              exact ⟨v133, rfl, ow138⟩
            · have h140 := ifF c109 h99
              refine WP.skip ?_
              refine sqN ?_
              refine WP.seq ?_
              refine WP.usreg rfl ?_
              refine U.p (v := .pointer (some ⟨b5, 0, none⟩)) rfl rfl (.inl rfl) (S.fieldAddr rfl (L 21 rfl rfl) Try.underlying42 rfl ti3 rfl rfl) ?_
              refine U.k rfl rfl (.inl rfl) (S.load rfl (L 0 rfl rfl) Try.underlying3 rfl ((ow8.own (k := 0) rfl).cell rfl)) nd ?_
              refine U.p rfl rfl (.inl rfl) (S.eqlI rfl (L 0 rfl rfl) K) ?_
              refine U.p rfl rfl (.inl rfl) (S.move rfl (L 0 rfl rfl)) ?_
              refine U.joinX 7 (fun e H => ∃ (u141 u142 : Value), H = V6.H ∧ e = [(55, .bool ((decide (p0.op = 10)) && p0.volatile)), (54, u141), (53, u142)]) ?_ ?_
              · rintro _ _ ⟨u141, u142, rfl, rfl⟩
                refine U.p rfl rfl (.inl rfl) (S.move rfl (L 0 rfl rfl)) ?_
                refine U.joinX 12 (fun e H => ∃ (u146 u147 u148 : Value), H = V6.H ∧ e = [(60, .bool (((decide (p0.op = 10)) && p0.volatile) || (decide (p0.op = 18)))), (59, u146), (58, u147), (57, u148)]) ?_ ?_
                · rintro _ _ ⟨u146, u147, u148, rfl, rfl⟩
                  refine U.p rfl rfl (.inl rfl) (S.move rfl (L 0 rfl rfl)) ?_
                  refine U.joinX 17 (fun e H => ∃ (u152 u153 u154 : Value), H = V6.H ∧ e = [(65, .bool ((((decide (p0.op = 10)) && p0.volatile) || (decide (p0.op = 18))) || (decide (p0.op = 19)))), (64, u152), (63, u153), (62, u154)]) ?_ ?_
                  · rintro _ _ ⟨u152, u153, u154, rfl, rfl⟩
                    refine U.done (Nat.le_of_ble_eq_true rfl) ?_
                    refine WP.cond _ (L 0 rfl rfl) rfl (fun c158 => ?_) (fun c158 => ?_)
                    · have h159 := ifT c158 h140
                      refine WP.usdreg rfl rfl rfl ?_
                      obtain ⟨x160, hx161, h162⟩ := bindS h159
                      refine O.call (V := V6) rfl rfl (.inl rfl) rfl en26 (aC K (aC K aN)) (wk_ref12_one V6 _ 1 (-1) ow8 _ hx161) (fun v163 V164 le165 hp166 => by obtain ⟨v168, rfl, f169, ow167⟩ := hp166; exact (fun _ => (okH.nil (fun r h => nomatch h)))) (fun v163 V164 le165 hp166 => ?_)
                      obtain ⟨v168, rfl, f169, ow167⟩ := hp166
                      refine U.k rfl rfl (.inl rfl) (S.loadB rfl (L 39 rfl rfl) Try.underlying42 rfl ti42 (ow167.own (k := 0) rfl).get rfl) (fun _ => (okH.cons (Or.inr ((ow167.own (k := 0) rfl).get.trans (ow8.own (k := 0) rfl).get.symm)) (okH.nil (fun r h => by cases h; exact (ow167.own (k := 0) rfl).lt)))) ?_
                      have f170 := f2.up (le7.trans le165)
                      refine O.lit (R := RT_TIns) ow167 rfl rfl (.inl rfl) rfl Try.underlying31 ti42 rfl rfl rfl (Nat.le_of_ble_eq_true rfl) rfl (aC (L 1 rfl rfl) (aC (L 0 rfl rfl) aN)) (.cons _ _ x160 _ (by simp [topV]) ⟨_, rfl, f169⟩ (.cons _ _ p0 _ (by simp [topV]) ⟨_, rfl, f170⟩ .nil)) (fun _ => (fun _ => (okH.cons trivial (okH.cons trivial (okH.nil (fun r h => nomatch h)))))) (fun v171 V172 le173 ow174 => ?_)
                      refine U.p rfl rfl (.inl rfl) (S.assign rfl (L 0 rfl rfl)) ?_
                      refine U.done (Nat.le_of_ble_eq_true rfl) ?_
                      refine WP.ret ?_
                      refine sqR ?_
                      refine fin.slot (.inr rfl) rfl (L 0 rfl rfl) ⟨V172, rfl, ((le7.trans le165).trans le173), ?_⟩
                      have ow176 := ow174.drop 1 rfl
                      have e177 := Option.some.inj h162
                      subst e177
                      exact ⟨v171, rfl, ow176⟩
                    · have h178 := ifF c158 h140
                      refine WP.skip ?_
                      refine sqN ?_
                      refine WP.usreg rfl ?_
                      refine U.k rfl rfl (.inl rfl) (S.loadB rfl (L 38 rfl rfl) Try.underlying42 rfl ti42 (ow8.own (k := 0) rfl).get rfl) nd ?_
                      have f179 := f2.up le7
                      refine O.lit (R := RT_TIns) ow8 rfl rfl (.inl rfl) rfl Try.underlying31 ti42 rfl rfl rfl (Nat.le_of_ble_eq_true rfl) rfl (aC (L 0 rfl rfl) aN) (.cons _ _ p0 _ (by simp [topV]) ⟨_, rfl, f179⟩ .nil) (fun _ => nd) (fun v180 V181 le182 ow183 => ?_)
                      refine U.p rfl rfl (.inl rfl) (S.assign rfl (L 0 rfl rfl)) ?_
                      refine U.done (Nat.le_of_ble_eq_true rfl) ?_
                      refine WP.ret ?_
                      refine fin.slot (.inr rfl) rfl (L 0 rfl rfl) ⟨V181, rfl, (le7.trans le182), ?_⟩
                      have ow185 := ow183.drop 1 rfl
                      have e186 := Option.some.inj h178
                      subst e186
                      exact ⟨v180, rfl, ow185⟩
                  · intro kk
                    refine bcase (b := ((decide (p0.op = 10)) && p0.volatile) || (decide (p0.op = 18))) (fun g187 => ?_) (fun g187 => ?_)
                    · skip
                      refine U.x rfl rfl rfl rfl ((L 0 rfl rfl).trans (congrArg Value.bool g187)) (by decide) ?_
                      refine U.x rfl rfl rfl rfl ((L 1 rfl rfl).trans (congrArg Value.bool g187)) (by decide) ?_
                      refine U.x rfl rfl rfl rfl ((L 2 rfl rfl).trans (congrArg Value.bool g187)) (by decide) ?_
                      refine U.p rfl rfl (.inl rfl) (S.pickT rfl ((L 3 rfl rfl).trans (congrArg Value.bool g187)) K) ?_
                      exact kk [(65, .bool true), (64, .tuple #[]), (63, .tuple #[]), (62, .tuple #[])] _ ⟨.tuple #[], .tuple #[], .tuple #[], rfl, (by rw [g187, Bool.true_or])⟩
                    · skip
                      refine U.p (v := .pointer (some ⟨b5, 0, none⟩)) rfl rfl (.inr ⟨_, _, _, rfl, rfl, ((L 0 rfl rfl).trans (congrArg Value.bool g187))⟩) (S.fieldAddr rfl (L 34 rfl rfl) Try.underlying42 rfl ti3 rfl rfl) ?_
                      refine U.k rfl rfl (.inr ⟨_, _, _, rfl, rfl, ((L 1 rfl rfl).trans (congrArg Value.bool g187))⟩) (S.load rfl (L 0 rfl rfl) Try.underlying3 rfl ((ow8.own (k := 0) rfl).cell rfl)) nd ?_
                      refine U.p rfl rfl (.inr ⟨_, _, _, rfl, rfl, ((L 2 rfl rfl).trans (congrArg Value.bool g187))⟩) (S.eqlI rfl (L 0 rfl rfl) K) ?_
                      refine U.p rfl rfl (.inl rfl) (S.pickF rfl ((L 3 rfl rfl).trans (congrArg Value.bool g187)) (L 0 rfl rfl)) ?_
                      exact kk [(65, .bool (decide (p0.op = 19))), (64, .bool (decide (p0.op = 19))), (63, .int .i64 p0.op), (62, .pointer (some ⟨b5, 0, none⟩))] _ ⟨.bool (decide (p0.op = 19)), .int .i64 p0.op, .pointer (some ⟨b5, 0, none⟩), rfl, (by rw [g187, Bool.false_or])⟩
                · intro kk
                  refine bcase (b := (decide (p0.op = 10)) && p0.volatile) (fun g188 => ?_) (fun g188 => ?_)
                  · skip
                    refine U.x rfl rfl rfl rfl ((L 0 rfl rfl).trans (congrArg Value.bool g188)) (by decide) ?_
                    refine U.x rfl rfl rfl rfl ((L 1 rfl rfl).trans (congrArg Value.bool g188)) (by decide) ?_
                    refine U.x rfl rfl rfl rfl ((L 2 rfl rfl).trans (congrArg Value.bool g188)) (by decide) ?_
                    refine U.p rfl rfl (.inl rfl) (S.pickT rfl ((L 3 rfl rfl).trans (congrArg Value.bool g188)) K) ?_
                    exact kk [(60, .bool true), (59, .tuple #[]), (58, .tuple #[]), (57, .tuple #[])] _ ⟨.tuple #[], .tuple #[], .tuple #[], rfl, (by rw [g188, Bool.true_or])⟩
                  · skip
                    refine U.p (v := .pointer (some ⟨b5, 0, none⟩)) rfl rfl (.inr ⟨_, _, _, rfl, rfl, ((L 0 rfl rfl).trans (congrArg Value.bool g188))⟩) (S.fieldAddr rfl (L 29 rfl rfl) Try.underlying42 rfl ti3 rfl rfl) ?_
                    refine U.k rfl rfl (.inr ⟨_, _, _, rfl, rfl, ((L 1 rfl rfl).trans (congrArg Value.bool g188))⟩) (S.load rfl (L 0 rfl rfl) Try.underlying3 rfl ((ow8.own (k := 0) rfl).cell rfl)) nd ?_
                    refine U.p rfl rfl (.inr ⟨_, _, _, rfl, rfl, ((L 2 rfl rfl).trans (congrArg Value.bool g188))⟩) (S.eqlI rfl (L 0 rfl rfl) K) ?_
                    refine U.p rfl rfl (.inl rfl) (S.pickF rfl ((L 3 rfl rfl).trans (congrArg Value.bool g188)) (L 0 rfl rfl)) ?_
                    exact kk [(60, .bool (decide (p0.op = 18))), (59, .bool (decide (p0.op = 18))), (58, .int .i64 p0.op), (57, .pointer (some ⟨b5, 0, none⟩))] _ ⟨.bool (decide (p0.op = 18)), .int .i64 p0.op, .pointer (some ⟨b5, 0, none⟩), rfl, (by rw [g188, Bool.false_or])⟩
              · intro kk
                refine bcase (b := decide (p0.op = 10)) (fun g189 => ?_) (fun g189 => ?_)
                · skip
                  refine U.p (v := .pointer (some ⟨b5, 7, none⟩)) rfl rfl (.inr ⟨_, _, _, rfl, rfl, ((L 0 rfl rfl).trans (congrArg Value.bool g189))⟩) (S.fieldAddr rfl (L 25 rfl rfl) Try.underlying42 rfl ti4 rfl rfl) ?_
                  refine U.k rfl rfl (.inr ⟨_, _, _, rfl, rfl, ((L 1 rfl rfl).trans (congrArg Value.bool g189))⟩) (S.load rfl (L 0 rfl rfl) Try.underlying4 rfl ((ow8.own (k := 0) rfl).cell rfl)) nd ?_
                  refine U.p rfl rfl (.inl rfl) (S.pickT rfl ((L 2 rfl rfl).trans (congrArg Value.bool g189)) (L 0 rfl rfl)) ?_
                  exact kk [(55, .bool p0.volatile), (54, .bool p0.volatile), (53, .pointer (some ⟨b5, 7, none⟩))] _ ⟨.bool p0.volatile, .pointer (some ⟨b5, 7, none⟩), rfl, (by rw [g189, Bool.true_and])⟩
                · skip
                  refine U.x rfl rfl rfl rfl ((L 0 rfl rfl).trans (congrArg Value.bool g189)) (by decide) ?_
                  refine U.x rfl rfl rfl rfl ((L 1 rfl rfl).trans (congrArg Value.bool g189)) (by decide) ?_
                  refine U.p rfl rfl (.inl rfl) (S.pickF rfl ((L 2 rfl rfl).trans (congrArg Value.bool g189)) K) ?_
                  exact kk [(55, .bool false), (54, .tuple #[]), (53, .tuple #[])] _ ⟨.tuple #[], .tuple #[], rfl, (by rw [g189, Bool.false_and])⟩
          · intro kk
            refine bcase (b := (decide (p0.op = 10)) && p0.volatile) (fun g190 => ?_) (fun g190 => ?_)
            · skip
              refine U.p rfl rfl (.inr ⟨_, _, _, rfl, rfl, ((L 0 rfl rfl).trans (congrArg Value.bool g190))⟩) (S.move rfl (L 21 rfl rfl)) ?_
              refine U.p rfl rfl (.inl rfl) (S.pickT rfl ((L 1 rfl rfl).trans (congrArg Value.bool g190)) (L 0 rfl rfl)) ?_
              exact kk [(44, .bool p1), (43, .bool p1)] _ ⟨.bool p1, rfl, (by rw [g190, Bool.true_and])⟩
            · skip
              refine U.x rfl rfl rfl rfl ((L 0 rfl rfl).trans (congrArg Value.bool g190)) (by decide) ?_
              refine U.p rfl rfl (.inl rfl) (S.pickF rfl ((L 1 rfl rfl).trans (congrArg Value.bool g190)) K) ?_
              exact kk [(44, .bool false), (43, .tuple #[])] _ ⟨.tuple #[], rfl, (by rw [g190, Bool.false_and])⟩
        · intro kk
          refine bcase (b := decide (p0.op = 10)) (fun g191 => ?_) (fun g191 => ?_)
          · skip
            refine U.p (v := .pointer (some ⟨b5, 7, none⟩)) rfl rfl (.inr ⟨_, _, _, rfl, rfl, ((L 0 rfl rfl).trans (congrArg Value.bool g191))⟩) (S.fieldAddr rfl (L 15 rfl rfl) Try.underlying42 rfl ti4 rfl rfl) ?_
            refine U.k rfl rfl (.inr ⟨_, _, _, rfl, rfl, ((L 1 rfl rfl).trans (congrArg Value.bool g191))⟩) (S.load rfl (L 0 rfl rfl) Try.underlying4 rfl ((ow8.own (k := 0) rfl).cell rfl)) nd ?_
            refine U.p rfl rfl (.inl rfl) (S.pickT rfl ((L 2 rfl rfl).trans (congrArg Value.bool g191)) (L 0 rfl rfl)) ?_
            exact kk [(41, .bool p0.volatile), (40, .bool p0.volatile), (39, .pointer (some ⟨b5, 7, none⟩))] _ ⟨.bool p0.volatile, .pointer (some ⟨b5, 7, none⟩), rfl, (by rw [g191, Bool.true_and])⟩
          · skip
            refine U.x rfl rfl rfl rfl ((L 0 rfl rfl).trans (congrArg Value.bool g191)) (by decide) ?_
            refine U.x rfl rfl rfl rfl ((L 1 rfl rfl).trans (congrArg Value.bool g191)) (by decide) ?_
            refine U.p rfl rfl (.inl rfl) (S.pickF rfl ((L 2 rfl rfl).trans (congrArg Value.bool g191)) K) ?_
            exact kk [(41, .bool false), (40, .tuple #[]), (39, .tuple #[])] _ ⟨.tuple #[], .tuple #[], rfl, (by rw [g191, Bool.false_and])⟩
    · intro kk
      refine bcase (b := decide (p0.op = 9)) (fun g192 => ?_) (fun g192 => ?_)
      · skip
        refine U.p (v := .pointer (some ⟨b5, 7, none⟩)) rfl rfl (.inr ⟨_, _, _, rfl, rfl, ((L 0 rfl rfl).trans (congrArg Value.bool g192))⟩) (S.fieldAddr rfl (L 8 rfl rfl) Try.underlying42 rfl ti4 rfl rfl) ?_
        refine U.k rfl rfl (.inr ⟨_, _, _, rfl, rfl, ((L 1 rfl rfl).trans (congrArg Value.bool g192))⟩) (S.load rfl (L 0 rfl rfl) Try.underlying4 rfl ((ow8.own (k := 0) rfl).cell rfl)) nd ?_
        refine U.p rfl rfl (.inl rfl) (S.pickT rfl ((L 2 rfl rfl).trans (congrArg Value.bool g192)) (L 0 rfl rfl)) ?_
        exact kk [(24, .bool p0.volatile), (23, .bool p0.volatile), (22, .pointer (some ⟨b5, 7, none⟩))] _ ⟨.bool p0.volatile, .pointer (some ⟨b5, 7, none⟩), rfl, (by rw [g192, Bool.true_and])⟩
      · skip
        refine U.x rfl rfl rfl rfl ((L 0 rfl rfl).trans (congrArg Value.bool g192)) (by decide) ?_
        refine U.x rfl rfl rfl rfl ((L 1 rfl rfl).trans (congrArg Value.bool g192)) (by decide) ?_
        refine U.p rfl rfl (.inl rfl) (S.pickF rfl ((L 2 rfl rfl).trans (congrArg Value.bool g192)) K) ?_
        exact kk [(24, .bool false), (23, .tuple #[]), (22, .tuple #[])] _ ⟨.tuple #[], .tuple #[], rfl, (by rw [g192, Bool.false_and])⟩

set_option maxHeartbeats 4000000 in
theorem wk_ref12_weak (V : Vw) (Rs : List At) (p0 : TIns) (v1 : Value) (f2 : Fz (RT.int .i64) V v1 p0.args) (ow : Ow V (Rs)) (r : Bool) (h : ref12_weak p0 = some r) : ∃ v V', Cl Try.prog 0 19 #[.agg #[.int .i64 p0.op, .int .i64 p0.d, .int .i64 p0.a, .int .i64 p0.b, .int .i64 p0.imm, v1, .int .i64 p0.what, .bool p0.volatile, .bool p0.final]] V.H v V'.H ∧ V.le V' ∧ (v = .bool r ∧ Ow V' (Rs)) := by
  refine Ct.of (Nat.zero_le _) Try.func19 rfl (Nat.le_of_ble_eq_true rfl) ?_
  unfold ref12_weak at h
  refine WP.usreg rfl ?_
  refine O.box ow rfl rfl (.inl rfl) rfl (L 0 rfl rfl) (by simp [topV]) rfl nd (fun b3 V4 le5 ow6 => ?_)
  refine U.p rfl rfl (.inl rfl) (S.assign rfl K) ?_
  refine U.done (Nat.le_of_ble_eq_true rfl) ?_
  refine WP.usreg rfl ?_
  refine U.p (v := .pointer (some ⟨b3, 0, none⟩)) rfl rfl (.inl rfl) (S.fieldAddr rfl (L 1 rfl rfl) Try.underlying42 rfl ti3 rfl rfl) ?_
  refine U.k rfl rfl (.inl rfl) (S.load rfl (L 0 rfl rfl) Try.underlying3 rfl ((ow6.own (k := 0) rfl).cell rfl)) nd ?_
  refine U.p rfl rfl (.inl rfl) (S.eqlI rfl (L 0 rfl rfl) K) ?_
  refine U.p rfl rfl (.inl rfl) (S.move rfl (L 0 rfl rfl)) ?_
  refine U.joinX 13 (fun e H => ∃ (u8 u9 u10 u11 u12 u13 u14 u15 : Value), H = V4.H ∧ e = [(15, .bool ((decide (p0.op = 21)) && ((decide (p0.imm = 1)) || (decide (p0.imm = 2))))), (14, u8), (13, u9), (12, u10), (11, u11), (10, u12), (9, u13), (8, u14), (7, u15)]) ?_ ?_
  · rintro _ _ ⟨u8, u9, u10, u11, u12, u13, u14, u15, rfl, rfl⟩
    refine U.p rfl rfl (.inl rfl) (S.assign rfl (L 0 rfl rfl)) ?_
    refine U.done (Nat.le_of_ble_eq_true rfl) ?_
    refine WP.ret ?_
    refine fin.slot (.inr rfl) rfl (L 0 rfl rfl) ⟨V4, rfl, le5, ?_⟩
    have ow19 := ow6.drop 0 rfl
    have e20 := Option.some.inj h
    subst e20
    exact ⟨rfl, ow19⟩
  · intro kk
    refine bcase (b := decide (p0.op = 21)) (fun g21 => ?_) (fun g21 => ?_)
    · skip
      refine U.p (v := .pointer (some ⟨b3, 4, none⟩)) rfl rfl (.inr ⟨_, _, _, rfl, rfl, ((L 0 rfl rfl).trans (congrArg Value.bool g21))⟩) (S.fieldAddr rfl (L 5 rfl rfl) Try.underlying42 rfl ti3 rfl rfl) ?_
      refine U.k rfl rfl (.inr ⟨_, _, _, rfl, rfl, ((L 1 rfl rfl).trans (congrArg Value.bool g21))⟩) (S.load rfl (L 0 rfl rfl) Try.underlying3 rfl ((ow6.own (k := 0) rfl).cell rfl)) nd ?_
      refine U.p rfl rfl (.inr ⟨_, _, _, rfl, rfl, ((L 2 rfl rfl).trans (congrArg Value.bool g21))⟩) (S.eqlI rfl (L 0 rfl rfl) K) ?_
      refine U.p rfl rfl (.inr ⟨_, _, _, rfl, rfl, ((L 3 rfl rfl).trans (congrArg Value.bool g21))⟩) (S.move rfl (L 0 rfl rfl)) ?_
      refine U.joinX 12 (fun e H => ∃ (u22 u23 u24 : Value), H = V4.H ∧ e = [(14, .bool ((decide (p0.imm = 1)) || (decide (p0.imm = 2)))), (13, u22), (12, u23), (11, u24)]) ?_ ?_
      · rintro _ _ ⟨u22, u23, u24, rfl, rfl⟩
        refine U.p rfl rfl (.inl rfl) (S.pickT rfl ((L 8 rfl rfl).trans (congrArg Value.bool g21)) (L 0 rfl rfl)) ?_
        exact kk [(15, .bool ((decide (p0.imm = 1)) || (decide (p0.imm = 2)))), (14, .bool ((decide (p0.imm = 1)) || (decide (p0.imm = 2)))), (13, u22), (12, u23), (11, u24), (10, .bool (decide (p0.imm = 1))), (9, .bool (decide (p0.imm = 1))), (8, .int .i64 p0.imm), (7, .pointer (some ⟨b3, 4, none⟩))] _ ⟨.bool ((decide (p0.imm = 1)) || (decide (p0.imm = 2))), u22, u23, u24, .bool (decide (p0.imm = 1)), .bool (decide (p0.imm = 1)), .int .i64 p0.imm, .pointer (some ⟨b3, 4, none⟩), rfl, (by rw [g21, Bool.true_and])⟩
      · intro kk
        refine bcase (b := decide (p0.imm = 1)) (fun g28 => ?_) (fun g28 => ?_)
        · skip
          refine U.x rfl rfl rfl rfl ((L 0 rfl rfl).trans (congrArg Value.bool g28)) (by decide) ?_
          refine U.x rfl rfl rfl rfl ((L 1 rfl rfl).trans (congrArg Value.bool g28)) (by decide) ?_
          refine U.x rfl rfl rfl rfl ((L 2 rfl rfl).trans (congrArg Value.bool g28)) (by decide) ?_
          refine U.p rfl rfl (.inr ⟨_, _, _, rfl, rfl, ((L 7 rfl rfl).trans (congrArg Value.bool g21))⟩) (S.pickT rfl ((L 3 rfl rfl).trans (congrArg Value.bool g28)) K) ?_
          exact kk [(14, .bool true), (13, .tuple #[]), (12, .tuple #[]), (11, .tuple #[])] _ ⟨.tuple #[], .tuple #[], .tuple #[], rfl, (by rw [g28, Bool.true_or])⟩
        · skip
          refine U.p (v := .pointer (some ⟨b3, 4, none⟩)) rfl rfl (.inr ⟨_, _, _, rfl, rfl, ((L 0 rfl rfl).trans (congrArg Value.bool g28))⟩) (S.fieldAddr rfl (L 9 rfl rfl) Try.underlying42 rfl ti3 rfl rfl) ?_
          refine U.k rfl rfl (.inr ⟨_, _, _, rfl, rfl, ((L 1 rfl rfl).trans (congrArg Value.bool g28))⟩) (S.load rfl (L 0 rfl rfl) Try.underlying3 rfl ((ow6.own (k := 0) rfl).cell rfl)) nd ?_
          refine U.p rfl rfl (.inr ⟨_, _, _, rfl, rfl, ((L 2 rfl rfl).trans (congrArg Value.bool g28))⟩) (S.eqlI rfl (L 0 rfl rfl) K) ?_
          refine U.p rfl rfl (.inr ⟨_, _, _, rfl, rfl, ((L 7 rfl rfl).trans (congrArg Value.bool g21))⟩) (S.pickF rfl ((L 3 rfl rfl).trans (congrArg Value.bool g28)) (L 0 rfl rfl)) ?_
          exact kk [(14, .bool (decide (p0.imm = 2))), (13, .bool (decide (p0.imm = 2))), (12, .int .i64 p0.imm), (11, .pointer (some ⟨b3, 4, none⟩))] _ ⟨.bool (decide (p0.imm = 2)), .int .i64 p0.imm, .pointer (some ⟨b3, 4, none⟩), rfl, (by rw [g28, Bool.false_or])⟩
    · skip
      refine U.x rfl rfl rfl rfl ((L 0 rfl rfl).trans (congrArg Value.bool g21)) (by decide) ?_
      refine U.x rfl rfl rfl rfl ((L 1 rfl rfl).trans (congrArg Value.bool g21)) (by decide) ?_
      refine U.x rfl rfl rfl rfl ((L 2 rfl rfl).trans (congrArg Value.bool g21)) (by decide) ?_
      refine U.x rfl rfl rfl rfl ((L 3 rfl rfl).trans (congrArg Value.bool g21)) (by decide) ?_
      refine U.z rfl rfl rfl rfl (L 0 rfl rfl) ?_
      refine U.z rfl rfl rfl rfl (L 1 rfl rfl) ?_
      refine U.z rfl rfl rfl rfl (L 2 rfl rfl) ?_
      refine U.x rfl rfl rfl rfl ((L 7 rfl rfl).trans (congrArg Value.bool g21)) (by decide) ?_
      refine U.p rfl rfl (.inl rfl) (S.pickF rfl ((L 8 rfl rfl).trans (congrArg Value.bool g21)) K) ?_
      exact kk [(15, .bool false), (14, .tuple #[]), (13, .tuple #[]), (12, .tuple #[]), (11, .tuple #[]), (10, .tuple #[]), (9, .tuple #[]), (8, .tuple #[]), (7, .tuple #[])] _ ⟨.tuple #[], .tuple #[], .tuple #[], .tuple #[], .tuple #[], .tuple #[], .tuple #[], .tuple #[], rfl, (by rw [g21, Bool.false_and])⟩

set_option maxHeartbeats 4000000 in
theorem wk_ref12_Code (V : Vw) (Rs : List At) (p0 : TFunc) (p1 : Bool) (p2 : Bool) (p3 : Bool) (v1 : Value) (f2 : Fz RT_TIns V v1 p0.code) (ow : Ow V (Rs)) (r : List TIns) (h : ref12_Code p0 p1 p2 p3 = some r) : ∃ v V', Cl Try.prog 0 12 #[.agg #[.string p0.name, .int .i64 p0.params, .int .i64 p0.regs, v1], .bool p1, .bool p2, .bool p3] V.H v V'.H ∧ V.le V' ∧ (∃ (v3 : Value), v = v3 ∧ Ow V' (.os RT_TIns v3 r :: Rs)) := by
  refine Ct.of (Nat.zero_le _) Try.func12 rfl (Nat.le_of_ble_eq_true rfl) ?_
  unfold ref12_Code at h
  refine WP.usreg rfl ?_
  refine O.box ow rfl rfl (.inl rfl) rfl (L 0 rfl rfl) (by simp [topV]) rfl nd (fun b5 V6 le7 ow8 => ?_)
  refine U.p rfl rfl (.inl rfl) (S.assign rfl K) ?_
  refine U.done (Nat.le_of_ble_eq_true rfl) ?_
  refine WP.usreg rfl ?_
  refine U.p rfl rfl (.inl rfl) (S.assign rfl K) ?_
  refine U.done (Nat.le_of_ble_eq_true rfl) ?_
  refine WP.seq ?_
  refine WP.usreg rfl ?_
  refine U.p (v := .pointer (some ⟨b5, 3, none⟩)) rfl rfl (.inl rfl) (S.fieldAddr rfl (L 2 rfl rfl) Try.underlying33 rfl ti31 rfl rfl) ?_
  refine U.k rfl rfl (.inl rfl) (S.load rfl (L 0 rfl rfl) Try.underlying31 rfl ((ow8.own (k := 0) rfl).cell rfl)) nd ?_
  refine U.p rfl rfl (.inl rfl) (f2.1.len rfl (L 0 rfl rfl) Try.underlying31) ?_
  refine U.p rfl rfl (.inl rfl) (S.move rfl K) ?_
  refine U.done (Nat.le_of_ble_eq_true rfl) ?_
  refine WP.blk ?_
  have ow14 := ow8.nil RT_TIns
  have ow16 := ow14.drop 1 rfl
  unfold ref12_Code_l1 at h
  obtain ⟨n18, hn17⟩ := loopO_some.1 h
  refine WP.loopI2 (fun n l V' => ∃ (v11 : Value) (xs12 : List TIns) (x13 : Int), l = [(1, .bool p1), (2, .bool p2), (3, .bool p3), (9, v11), (16, v1), (17, .int .i64 (p0.code.length : Int)), (18, .int .i64 x13)] ∧ V6.le V' ∧ Ow V' (.os RT_TIns v11 xs12 :: Rs) ∧ itO (fun s => ref12_Code_l1b p0 p1 p2 p3 s.1 s.2) n (xs12, x13) = some r) n18 _ ⟨(.slice none 0 0), [], 0, rfl, .refl _, ow16, hn17⟩ (allCons (L 8 rfl rfl) (allCons (L 9 rfl rfl) (allCons (L 10 rfl rfl) (allCons (L 4 rfl rfl) (allCons (L 2 rfl rfl) (allCons (L 1 rfl rfl) (allCons (L 0 rfl rfl) allNil))))))) ?_
  rintro _ _ V19 ⟨v11, xs12, x13, rfl, le20, ow21, h25⟩
  obtain ⟨m22, q23, rfl, h26, e24⟩ := itS h25
  replace h26 : ref12_Code_l1b p0 p1 p2 p3 xs12 x13 = some q23 := h26
  unfold ref12_Code_l1b at h26
  refine WP.usreg rfl ?_
  refine U.p rfl rfl (.inl rfl) (S.lss rfl (L 6 rfl rfl) (L 5 rfl rfl)) ?_
  refine U.done (Nat.le_of_ble_eq_true rfl) ?_
  refine WP.seq ?_
  refine WP.cond _ (L 0 rfl rfl) rfl (fun c27 => ?_) (fun c27 => ?_)
  · have h28 := ifT c27 h26
    refine WP.skip ?_
    refine sqN ?_
    refine WP.seq ?_
    refine WP.blk ?_
    refine WP.usreg rfl ?_
    obtain ⟨x29, hx30, h31⟩ := bindS h28
    obtain ⟨b32, o33, c34, cs35, hv36, hf37, hr38, hc39⟩ := f2.at hx30
    obtain ⟨v40, rfl, f41⟩ := hr38
    refine U.p rfl rfl (.inl rfl) (S.index rfl ((L 5 rfl rfl).trans hv36) (L 7 rfl rfl) Try.underlying31 ti42 (ix_ge hx30) (ix_lt hx30)) ?_
    refine U.k rfl rfl (.inl rfl) (S.loadN (cs := [.int .i64 x29.op, .int .i64 x29.d, .int .i64 x29.a, .int .i64 x29.b, .int .i64 x29.imm, v40, .int .i64 x29.what, .bool x29.volatile, .bool x29.final]) rfl (L 0 rfl rfl) Try.underlying42 rfl ti42 rfl (fun j v hj => (le7.trans le20).cell hf37 (hc39 j v hj))) nd ?_
    refine O.alloc ow21 rfl rfl (.inl rfl) rfl ti42 rfl rfl nd (fun b42 V43 le44 ow45 => ?_)
    refine O.store (k := 0) (cs := [.int .i64 x29.op, .int .i64 x29.d, .int .i64 x29.a, .int .i64 x29.b, .int .i64 x29.imm, v40, .int .i64 x29.what, .bool x29.volatile, .bool x29.final]) (c' := [.int .i64 x29.op, .int .i64 x29.d, .int .i64 x29.a, .int .i64 x29.b, .int .i64 x29.imm, v40, .int .i64 x29.what, .bool x29.volatile, .bool x29.final]) ow45 rfl rfl rfl (.inl rfl) rfl (L 0 rfl rfl) (L 1 rfl rfl) ti42 (by simp [topV]) rfl rfl (Nat.le_of_ble_eq_true rfl) (by have q0 := f41.one; simp only [List.all_cons, List.all_nil, q0]; rfl) rfl nd (fun V47 le48 ow49 => ?_)
    refine U.done (Nat.le_of_ble_eq_true rfl) ?_
    refine WP.ureg rfl ?_
    refine U.p rfl rfl (.inl rfl) (S.move rfl (L 7 rfl rfl)) ?_
    refine U.k rfl rfl (.inl rfl) (S.loadB rfl (L 1 rfl rfl) Try.underlying42 rfl ti42 (ow49.own (k := 0) rfl).get rfl) nd ?_
    refine U.p rfl rfl (.inl rfl) (S.move rfl (L 6 rfl rfl)) ?_
    refine U.p rfl rfl (.inl rfl) (S.move rfl (L 8 rfl rfl)) ?_
    have f50 := f41.up (((le7.trans le20).trans le44).trans le48)
    obtain ⟨x51, hx52, h53⟩ := bindS h31
    refine O.call (V := V47) rfl rfl (.inl rfl) rfl en18 (aC (L 2 rfl rfl) (aC (L 1 rfl rfl) (aC (L 0 rfl rfl) aN))) (wk_ref12_Of V47 _ x29 p1 p2 v40 f50 ow49 _ hx52) (fun _ _ _ _ => nd) (fun v54 V55 le56 hp57 => ?_)
    obtain ⟨_, rfl, ow58⟩ := hp57
    obtain ⟨xs61, hx62, h63⟩ := bindS h53
    refine O.append (k := 2) ow58 rfl rfl rfl (.inl rfl) rfl (L 4 rfl rfl) (L 0 rfl rfl) Try.underlying31 ti42 rfl rfl (Nat.le_of_ble_eq_true rfl) (ow58.src (k := 0) rfl Try.underlying31) hx62 (fun _ _ => nd) (fun v64 V65 le66 ow67 => ?_)
    refine U.p rfl rfl (.inl rfl) (S.assign rfl (L 0 rfl rfl)) ?_
    refine U.done (Nat.le_of_ble_eq_true rfl) ?_
    refine blkN (sqN ?_)
    refine WP.ureg rfl ?_
    refine U.p rfl rfl (.inl rfl) (S.add rfl (L 17 rfl rfl) K) ?_
    refine U.p rfl rfl (.inl rfl) (S.move rfl (L 0 rfl rfl)) ?_
    refine U.done (Nat.le_of_ble_eq_true rfl) ?_
    refine sqN ?_
    have ow69 := ow67.drop 0 rfl
    have ow70 := ow69.drop 0 rfl
    exact ⟨_, V65, rfl, ⟨m22, Nat.lt_succ_self _, v64, xs61, w64 (x13 + 1), rfl, ((((le20.trans le44).trans le48).trans le56).trans le66), ow70, backS h63 e24⟩, (allCons (L 13 rfl rfl) (allCons (L 14 rfl rfl) (allCons (L 15 rfl rfl) (allCons (L 2 rfl rfl) (allCons (L 17 rfl rfl) (allCons (L 18 rfl rfl) (allCons (L 0 rfl rfl) allNil)))))))⟩
  · have h71 := ifF c27 h26
    refine WP.exit ?_
    refine sqE (sqE (blkE (sqN ?_)))
    have h72 := exitS h71 e24
    refine WP.seq ?_
    refine WP.usreg rfl ?_
    refine U.p rfl rfl (.inl rfl) (S.move rfl (L 3 rfl rfl)) ?_
    refine U.p rfl rfl (.inl rfl) (S.not rfl (L 0 rfl rfl)) ?_
    refine U.done (Nat.le_of_ble_eq_true rfl) ?_
    refine WP.cond _ (L 0 rfl rfl) rfl (fun c73 => ?_) (fun c73 => ?_)
    · have h74 := ifT c73 h72
      have k75 : p3 = false := by simpa using c73
      refine WP.usreg rfl ?_
      refine U.p rfl rfl (.inl rfl) (S.move rfl (L 6 rfl rfl)) ?_
      refine U.p rfl rfl (.inl rfl) (S.assign rfl (L 0 rfl rfl)) ?_
      refine U.done (Nat.le_of_ble_eq_true rfl) ?_
      refine WP.ret ?_
      refine sqR ?_
      refine fin.slot (.inr rfl) rfl (L 0 rfl rfl) ⟨V19, rfl, (le7.trans le20), ?_⟩
      have e76 := Option.some.inj h74
      subst e76
      exact ⟨v11, rfl, ow21⟩
    · have h77 := ifF c73 h72
      have k78 : p3 = true := by simpa using c73
      refine WP.skip ?_
      refine sqN ?_
      refine WP.usreg rfl ?_
      refine U.p rfl rfl (.inl rfl) (S.assign rfl K) ?_
      refine U.done (Nat.le_of_ble_eq_true rfl) ?_
      refine WP.seq ?_
      refine WP.usreg rfl ?_
      refine U.p rfl rfl (.inl rfl) (S.assign rfl K) ?_
      refine U.done (Nat.le_of_ble_eq_true rfl) ?_
      refine WP.blk ?_
      have ow83 := ow21.nil RT_TIns
      have ow85 := ow83.pick 0 rfl
      have ow86 := ow85.pick 1 rfl
      unfold ref12_Code_l2 at h77
      obtain ⟨n88, hn87⟩ := loopO_some.1 h77
      refine WP.loopI2 (fun n l V' => ∃ (v80 : Value) (xs81 : List TIns) (x82 : Int), l = [(9, v11), (12, v80), (13, .int .i64 x82)] ∧ V19.le V' ∧ Ow V' (.os RT_TIns v11 xs12 :: .os RT_TIns v80 xs81 :: Rs) ∧ itO (fun s => ref12_Code_l2b xs12 s.1 s.2) n (xs81, x82) = some r) n88 _ ⟨(.slice none 0 0), [], 0, rfl, .refl _, ow86, hn87⟩ (allCons (L 8 rfl rfl) (allCons (L 1 rfl rfl) (allCons (L 0 rfl rfl) allNil))) ?_
      rintro _ _ V89 ⟨v80, xs81, x82, rfl, le90, ow91, h95⟩
      obtain ⟨m92, q93, rfl, h96, e94⟩ := itS h95
      replace h96 : ref12_Code_l2b xs12 xs81 x82 = some q93 := h96
      unfold ref12_Code_l2b at h96
      refine WP.seq ?_
      refine WP.usreg rfl ?_
      refine U.p rfl rfl (.inl rfl) (S.move rfl (L 2 rfl rfl)) ?_
      refine U.p rfl rfl (.inl rfl) (S.move rfl (L 1 rfl rfl)) ?_
      refine U.p rfl rfl (.inl rfl) (ow91.oslen (k := 0) rfl rfl (L 0 rfl rfl) Try.underlying31) ?_
      refine U.p rfl rfl (.inl rfl) (S.lss rfl (L 2 rfl rfl) (L 0 rfl rfl)) ?_
      refine U.done (Nat.le_of_ble_eq_true rfl) ?_
      refine WP.cond _ (L 0 rfl rfl) rfl (fun c97 => ?_) (fun c97 => ?_)
      · have h98 := ifT c97 h96
        refine WP.skip ?_
        refine sqN ?_
        refine WP.blk ?_
        refine WP.usreg rfl ?_
        refine U.p rfl rfl (.inl rfl) (S.move rfl (L 4 rfl rfl)) ?_
        refine U.p rfl rfl (.inl rfl) (S.move rfl (L 7 rfl rfl)) ?_
        obtain ⟨x99, hx100, h101⟩ := bindS h98
        obtain ⟨b102, o103, n104, c105, hv106⟩ := ow91.ospt (k := 0) rfl hx100
        obtain ⟨_, hv107, _⟩ := ow91.osel (k := 0) rfl hv106 hx100
        refine U.p rfl rfl (.inl rfl) (S.index rfl ((L 1 rfl rfl).trans hv107) (L 0 rfl rfl) Try.underlying31 ti42 (ix_ge hx100) (ix_lt hx100)) ?_
        obtain ⟨cs108, hv109, hlt110, hr111, hc112⟩ := ow91.osel (k := 0) rfl hv106 hx100
        obtain ⟨v113, rfl, f114⟩ := hr111
        refine U.k rfl rfl (.inl rfl) (S.loadN (cs := [.int .i64 x99.op, .int .i64 x99.d, .int .i64 x99.a, .int .i64 x99.b, .int .i64 x99.imm, v113, .int .i64 x99.what, .bool x99.volatile, .bool x99.final]) rfl (L 0 rfl rfl) Try.underlying42 rfl ti42 rfl hc112) nd ?_
        refine O.alloc ow91 rfl rfl (.inl rfl) rfl ti42 rfl rfl nd (fun b115 V116 le117 ow118 => ?_)
        refine O.store (k := 0) (cs := [.int .i64 x99.op, .int .i64 x99.d, .int .i64 x99.a, .int .i64 x99.b, .int .i64 x99.imm, v113, .int .i64 x99.what, .bool x99.volatile, .bool x99.final]) (c' := [.int .i64 x99.op, .int .i64 x99.d, .int .i64 x99.a, .int .i64 x99.b, .int .i64 x99.imm, v113, .int .i64 x99.what, .bool x99.volatile, .bool x99.final]) ow118 rfl rfl rfl (.inl rfl) rfl (L 0 rfl rfl) (L 1 rfl rfl) ti42 (by simp [topV]) rfl rfl (Nat.le_of_ble_eq_true rfl) (by have q0 := f114.one; simp only [List.all_cons, List.all_nil, q0]; rfl) rfl nd (fun V120 le121 ow122 => ?_)
        refine U.done (Nat.le_of_ble_eq_true rfl) ?_
        refine WP.usreg rfl ?_
        refine U.p rfl rfl (.inl rfl) (S.move rfl (L 11 rfl rfl)) ?_
        refine U.p rfl rfl (.inl rfl) (S.add rfl (L 0 rfl rfl) K) ?_
        refine U.p rfl rfl (.inl rfl) (S.assign rfl (L 0 rfl rfl)) ?_
        refine U.done (Nat.le_of_ble_eq_true rfl) ?_
        refine WP.seq ?_
        refine WP.blk ?_
        have ow125 := ow122.pick 0 rfl
        have ow126 := ow125.pick 2 rfl
        have ow127 := ow126.pick 2 rfl
        unfold ref12_Code_l3 at h101
        obtain ⟨n129, hn128⟩ := loopO_some.1 h101
        refine WP.loopI2 (fun n l V' => ∃ (x123 : Int) (x124 : Int), l = [(9, v11), (12, v80), (13, .int .i64 x123), (14, .pointer (some ⟨b115, 0, none⟩))] ∧ V120.le V' ∧ Ow V' (.os RT_TIns v11 xs12 :: .os RT_TIns v80 xs81 :: .pt b115 (.cells 9 [.int .i64 x99.op, .int .i64 x99.d, .int .i64 x99.a, .int .i64 x99.b, .int .i64 x124, v113, .int .i64 x99.what, .bool x99.volatile, .bool x99.final]) :: Rs) ∧ itO (fun s => ref12_Code_l3b xs12 xs81 x99 s.1 s.2) n (x123, x124) = some q93) n129 _ ⟨w64 (x82 + 1), x99.imm, rfl, .refl _, ow127, hn128⟩ (allCons (L 12 rfl rfl) (allCons (L 13 rfl rfl) (allCons (L 0 rfl rfl) (allCons (L 3 rfl rfl) allNil)))) ?_
        rintro _ _ V130 ⟨x123, x124, rfl, le131, ow132, h136⟩
        obtain ⟨m133, q134, rfl, h137, e135⟩ := itS h136
        replace h137 : ref12_Code_l3b xs12 xs81 x99 x123 x124 = some q134 := h137
        unfold ref12_Code_l3b at h137
        refine WP.seq ?_
        refine WP.usreg rfl ?_
        refine U.k rfl rfl (.inl rfl) (S.loadB rfl (L 3 rfl rfl) Try.underlying42 rfl ti42 (ow132.own (k := 2) rfl).get rfl) nd ?_
        have f138 := f114.up ((le117.trans le121).trans le131)
        obtain ⟨x139, hx140, h141⟩ := bindS h137
        refine O.call (V := V130) rfl rfl (.inl rfl) rfl en19 (aC (L 0 rfl rfl) aN) (wk_ref12_weak V130 _ (⟨x99.op, x99.d, x99.a, x99.b, x124, x99.args, x99.what, x99.volatile, x99.final⟩ : TIns) v113 f138 ow132 _ hx140) (fun _ _ _ _ => nd) (fun v142 V143 le144 hp145 => ?_)
        obtain ⟨rfl, ow146⟩ := hp145
        refine U.p rfl rfl (.inl rfl) (S.move rfl (L 0 rfl rfl)) ?_
        refine U.joinX 8 (fun e H => ∃ (u147 u148 u149 u150 : Value), H = V143.H ∧ e = [(49, .bool (x139 && (decide (x123 < (xs12.length : Int))))), (48, u147), (47, u148), (46, u149), (45, u150)]) ?_ ?_
        · rintro _ _ ⟨u147, u148, u149, u150, rfl, rfl⟩
          refine U.p rfl rfl (.inl rfl) (S.move rfl (L 0 rfl rfl)) ?_
          obtain ⟨y154, hy155, h156⟩ := bindS h141
          refine U.joinX 15 (fun e H => ∃ (u157 u158 u159 u160 u161 : Value), ∃ V' : Vw, H = V'.H ∧ V143.le V' ∧ e = [(56, .bool y154), (55, u157), (54, u158), (53, u159), (52, u160), (51, u161)] ∧ Ow V' (.os RT_TIns v11 xs12 :: .os RT_TIns v80 xs81 :: .pt b115 (.cells 9 [.int .i64 x99.op, .int .i64 x99.d, .int .i64 x99.a, .int .i64 x99.b, .int .i64 x124, v113, .int .i64 x99.what, .bool x99.volatile, .bool x99.final]) :: Rs)) ?_ ?_
          · rintro _ _ ⟨u157, u158, u159, u160, u161, V162, rfl, le163, rfl, ow164⟩
            refine U.done (Nat.le_of_ble_eq_true rfl) ?_
            refine WP.cond _ (L 0 rfl rfl) rfl (fun c165 => ?_) (fun c165 => ?_)
            · have h166 := ifT c165 h156
              refine WP.skip ?_
              refine sqN ?_
              refine WP.blk ?_
              refine WP.seqI (fun l V' => ∃ (x167 : Int), l = [(9, v11), (12, v80), (13, .int .i64 x123), (14, .pointer (some ⟨b115, 0, none⟩))] ∧ V162.le V' ∧ Ow V' (.os RT_TIns v11 xs12 :: .os RT_TIns v80 xs81 :: .pt b115 (.cells 9 [.int .i64 x99.op, .int .i64 x99.d, .int .i64 x99.a, .int .i64 x99.b, .int .i64 x167, v113, .int .i64 x99.what, .bool x99.volatile, .bool x99.final]) :: Rs) ∧ ref12_Code_k1 x123 x167 = some q134) ?_ ?_
              · rintro _ V168 ⟨x167, rfl, le169, ow170, h171⟩
                unfold ref12_Code_k1 at h171
                refine WP.ureg rfl ?_
                refine U.p rfl rfl (.inl rfl) (S.move rfl (L 2 rfl rfl)) ?_
                refine U.p rfl rfl (.inl rfl) (S.add rfl (L 0 rfl rfl) K) ?_
                refine U.p rfl rfl (.inl rfl) (S.assign rfl (L 0 rfl rfl)) ?_
                refine U.done (Nat.le_of_ble_eq_true rfl) ?_
                refine blkN (sqN ?_)
                exact ⟨_, V168, rfl, ⟨m133, Nat.lt_succ_self _, w64 (x123 + 1), x167, rfl, (((le131.trans le144).trans le163).trans le169), ow170, backS h171 e135⟩, (allCons (L 3 rfl rfl) (allCons (L 4 rfl rfl) (allCons (L 0 rfl rfl) (allCons (L 6 rfl rfl) allNil))))⟩
              · skip
                refine WP.usdreg rfl rfl rfl ?_
                refine U.p rfl rfl (.inl rfl) (S.move rfl (L 15 rfl rfl)) ?_
                refine U.p rfl rfl (.inl rfl) (S.move rfl (L 18 rfl rfl)) ?_
                obtain ⟨x172, hx173, h174⟩ := bindS h166
                obtain ⟨_, hv175, _⟩ := ow164.osel (k := 0) rfl hv106 hx173
                refine U.p rfl rfl (.inl rfl) (S.index rfl ((L 1 rfl rfl).trans hv175) (L 0 rfl rfl) Try.underlying31 ti42 (ix_ge hx173) (ix_lt hx173)) ?_
                refine U.p (v := .pointer (some ⟨b102, o103 + Int.toNat x123 * 9 + 4, none⟩)) rfl rfl (.inl rfl) (S.fieldAddr rfl (L 0 rfl rfl) Try.underlying42 rfl ti3 rfl rfl) ?_
                obtain ⟨cs176, hv177, hlt178, hr179, hc180⟩ := ow164.osel (k := 0) rfl hv106 hx173
                obtain ⟨v181, rfl, f182⟩ := hr179
                refine U.k rfl rfl (.inl rfl) (S.load rfl (L 0 rfl rfl) Try.underlying3 rfl (hc180 4 _ rfl)) (fun _ => (okH.nil (fun r h => by cases h; exact hlt178))) ?_
                refine U.p (v := .pointer (some ⟨b115, 4, none⟩)) rfl rfl (.inl rfl) (S.fieldAddr rfl (L 23 rfl rfl) Try.underlying42 rfl ti3 rfl rfl) ?_
                refine U.k rfl rfl (.inl rfl) (S.load rfl (L 0 rfl rfl) Try.underlying3 rfl ((ow164.own (k := 2) rfl).cell rfl)) (fun _ => (okH.cons trivial (okH.nil (fun r h => by cases h; exact (ow164.own (k := 2) rfl).lt)))) ?_
                refine U.p rfl rfl (.inl rfl) (S.lss rfl (L 2 rfl rfl) (L 0 rfl rfl)) ?_
                refine U.done (Nat.le_of_ble_eq_true rfl) ?_
                refine WP.cond _ (L 0 rfl rfl) rfl (fun c183 => ?_) (fun c183 => ?_)
                · have h184 := ifT c183 h174
                  refine WP.ureg rfl ?_
                  refine U.p rfl rfl (.inl rfl) (S.move rfl (L 23 rfl rfl)) ?_
                  refine U.p rfl rfl (.inl rfl) (S.move rfl (L 26 rfl rfl)) ?_
                  obtain ⟨x185, hx186, h187⟩ := bindS h184
                  obtain ⟨_, hv188, _⟩ := ow164.osel (k := 0) rfl hv106 hx186
                  refine U.p rfl rfl (.inl rfl) (S.index rfl ((L 1 rfl rfl).trans hv188) (L 0 rfl rfl) Try.underlying31 ti42 (ix_ge hx186) (ix_lt hx186)) ?_
                  refine U.p (v := .pointer (some ⟨b102, o103 + Int.toNat x123 * 9 + 4, none⟩)) rfl rfl (.inl rfl) (S.fieldAddr rfl (L 0 rfl rfl) Try.underlying42 rfl ti3 rfl rfl) ?_
                  obtain ⟨cs189, hv190, hlt191, hr192, hc193⟩ := ow164.osel (k := 0) rfl hv106 hx186
                  obtain ⟨v194, rfl, f195⟩ := hr192
                  refine U.k rfl rfl (.inl rfl) (S.load rfl (L 0 rfl rfl) Try.underlying3 rfl (hc193 4 _ rfl)) nd ?_
                  refine U.p (v := .pointer (some ⟨b115, 4, none⟩)) rfl rfl (.inl rfl) (S.fieldAddr rfl (L 31 rfl rfl) Try.underlying42 rfl ti3 rfl rfl) ?_
                  refine O.store (k := 2) (cs := [.int .i64 x185.imm]) (c' := [.int .i64 x99.op, .int .i64 x99.d, .int .i64 x99.a, .int .i64 x99.b, .int .i64 x185.imm, v113, .int .i64 x99.what, .bool x99.volatile, .bool x99.final]) ow164 rfl rfl rfl (.inl rfl) rfl (L 0 rfl rfl) (L 1 rfl rfl) ti3 (by simp [topV]) rfl rfl (Nat.le_of_ble_eq_true rfl) rfl rfl nd (fun V196 le197 ow198 => ?_)
                  refine U.done (Nat.le_of_ble_eq_true rfl) ?_
                  refine sqN ?_
                  exact ⟨_, V196, rfl, ⟨x185.imm, rfl, le197, ow198, h187⟩, (allCons (L 29 rfl rfl) (allCons (L 30 rfl rfl) (allCons (L 31 rfl rfl) (allCons (L 32 rfl rfl) allNil))))⟩
                · have h199 := ifF c183 h174
                  refine WP.skip ?_
                  refine sqN ?_
                  exact ⟨_, V162, rfl, ⟨x124, rfl, (.refl _), ow164, h199⟩, (allCons (L 23 rfl rfl) (allCons (L 24 rfl rfl) (allCons (L 25 rfl rfl) (allCons (L 26 rfl rfl) allNil))))⟩
            · have h200 := ifF c165 h156
              refine WP.exit ?_
              refine sqE (sqE (blkE (sqN ?_)))
              have h201 := exitS h200 e135
              refine WP.ureg rfl ?_
              refine U.p rfl rfl (.inl rfl) (S.move rfl (L 16 rfl rfl)) ?_
              refine U.k rfl rfl (.inl rfl) (S.loadB rfl (L 19 rfl rfl) Try.underlying42 rfl ti42 (ow164.own (k := 2) rfl).get rfl) nd ?_
              have f202 := f138.up (le144.trans le163)
              refine O.lit (R := RT_TIns) ow164 rfl rfl (.inl rfl) rfl Try.underlying31 ti42 rfl rfl rfl (Nat.le_of_ble_eq_true rfl) rfl (aC (L 0 rfl rfl) aN) (.cons _ _ (⟨x99.op, x99.d, x99.a, x99.b, x124, x99.args, x99.what, x99.volatile, x99.final⟩ : TIns) _ (by simp [topV]) ⟨_, rfl, f202⟩ .nil) (fun _ => nd) (fun v203 V204 le205 ow206 => ?_)
              obtain ⟨xs208, hx209, h210⟩ := bindS h201
              refine O.append (k := 2) ow206 rfl rfl rfl (.inl rfl) rfl (L 2 rfl rfl) (L 0 rfl rfl) Try.underlying31 ti42 rfl rfl (Nat.le_of_ble_eq_true rfl) (ow206.src (k := 0) rfl Try.underlying31) hx209 (fun _ _ => nd) (fun v211 V212 le213 ow214 => ?_)
              refine U.p rfl rfl (.inl rfl) (S.assign rfl (L 0 rfl rfl)) ?_
              refine U.done (Nat.le_of_ble_eq_true rfl) ?_
              refine blkN (sqN ?_)
              have ow216 := ow214.drop 0 rfl
              have ow217 := ow216.drop 2 rfl
              exact ⟨_, V212, rfl, ⟨m92, Nat.lt_succ_self _, v211, xs208, x123, rfl, (((((((le90.trans le117).trans le121).trans le131).trans le144).trans le163).trans le205).trans le213), ow217, backS h210 e94⟩, (allCons (L 20 rfl rfl) (allCons (L 0 rfl rfl) (allCons (L 22 rfl rfl) allNil)))⟩
          · intro kk
            refine bcase (b := x139 && (decide (x123 < (xs12.length : Int)))) (fun g218 => ?_) (fun g218 => ?_)
            · have h219 := ifT g218 hy155
              refine U.p rfl rfl (.inr ⟨_, _, _, rfl, rfl, ((L 0 rfl rfl).trans (congrArg Value.bool g218))⟩) (S.move rfl (L 9 rfl rfl)) ?_
              refine U.p rfl rfl (.inr ⟨_, _, _, rfl, rfl, ((L 1 rfl rfl).trans (congrArg Value.bool g218))⟩) (S.move rfl (L 12 rfl rfl)) ?_
              obtain ⟨x220, hx221, h222⟩ := bindS h219
              obtain ⟨_, hv223, _⟩ := ow146.osel (k := 0) rfl hv106 hx221
              refine U.p rfl rfl (.inr ⟨_, _, _, rfl, rfl, ((L 2 rfl rfl).trans (congrArg Value.bool g218))⟩) (S.index rfl ((L 1 rfl rfl).trans hv223) (L 0 rfl rfl) Try.underlying31 ti42 (ix_ge hx221) (ix_lt hx221)) ?_
              obtain ⟨cs224, hv225, hlt226, hr227, hc228⟩ := ow146.osel (k := 0) rfl hv106 hx221
              obtain ⟨v229, rfl, f230⟩ := hr227
              refine U.k rfl rfl (.inr ⟨_, _, _, rfl, rfl, ((L 3 rfl rfl).trans (congrArg Value.bool g218))⟩) (S.loadN (cs := [.int .i64 x220.op, .int .i64 x220.d, .int .i64 x220.a, .int .i64 x220.b, .int .i64 x220.imm, v229, .int .i64 x220.what, .bool x220.volatile, .bool x220.final]) rfl (L 0 rfl rfl) Try.underlying42 rfl ti42 rfl hc228) nd ?_
              obtain ⟨x231, hx232, h233⟩ := bindS h222
              refine O.call (V := V143) rfl rfl (.inr ⟨_, _, _, rfl, rfl, ((L 4 rfl rfl).trans (congrArg Value.bool g218))⟩) rfl en19 (aC (L 0 rfl rfl) aN) (wk_ref12_weak V143 _ x220 v229 f230 ow146 _ hx232) (fun _ _ _ _ => nd) (fun v234 V235 le236 hp237 => ?_)
              obtain ⟨rfl, ow238⟩ := hp237
              refine U.p rfl rfl (.inl rfl) (S.pickT rfl ((L 5 rfl rfl).trans (congrArg Value.bool g218)) (L 0 rfl rfl)) ?_
              have e239 := Option.some.inj h233
              subst e239
              exact kk [(56, .bool x231), (55, .bool x231), (54, .agg #[.int .i64 x220.op, .int .i64 x220.d, .int .i64 x220.a, .int .i64 x220.b, .int .i64 x220.imm, v229, .int .i64 x220.what, .bool x220.volatile, .bool x220.final]), (53, .pointer (some ⟨b102, o103 + Int.toNat x123 * 9, none⟩)), (52, .int .i64 x123), (51, v11)] _ ⟨.bool x231, .agg #[.int .i64 x220.op, .int .i64 x220.d, .int .i64 x220.a, .int .i64 x220.b, .int .i64 x220.imm, v229, .int .i64 x220.what, .bool x220.volatile, .bool x220.final], .pointer (some ⟨b102, o103 + Int.toNat x123 * 9, none⟩), .int .i64 x123, v11, V235, rfl, le236, rfl, ow238⟩
            · have h240 := ifF g218 hy155
              refine U.x rfl rfl rfl rfl ((L 0 rfl rfl).trans (congrArg Value.bool g218)) (by decide) ?_
              refine U.x rfl rfl rfl rfl ((L 1 rfl rfl).trans (congrArg Value.bool g218)) (by decide) ?_
              refine U.x rfl rfl rfl rfl ((L 2 rfl rfl).trans (congrArg Value.bool g218)) (by decide) ?_
              refine U.x rfl rfl rfl rfl ((L 3 rfl rfl).trans (congrArg Value.bool g218)) (by decide) ?_
              refine U.x rfl rfl rfl rfl ((L 4 rfl rfl).trans (congrArg Value.bool g218)) (by decide) ?_
              refine U.p rfl rfl (.inl rfl) (S.pickF rfl ((L 5 rfl rfl).trans (congrArg Value.bool g218)) K) ?_
              have e241 := Option.some.inj h240
              subst e241
              exact kk [(56, .bool false), (55, .tuple #[]), (54, .tuple #[]), (53, .tuple #[]), (52, .tuple #[]), (51, .tuple #[])] _ ⟨.tuple #[], .tuple #[], .tuple #[], .tuple #[], .tuple #[], V143, rfl, (.refl _), rfl, ow146⟩
        · intro kk
          refine bcase (b := x139) (fun g242 => ?_) (fun g242 => ?_)
          · skip
            refine U.p rfl rfl (.inr ⟨_, _, _, rfl, rfl, ((L 0 rfl rfl).trans (congrArg Value.bool g242))⟩) (S.move rfl (L 5 rfl rfl)) ?_
            refine U.p rfl rfl (.inr ⟨_, _, _, rfl, rfl, ((L 1 rfl rfl).trans (congrArg Value.bool g242))⟩) (S.move rfl (L 4 rfl rfl)) ?_
            refine U.p rfl rfl (.inr ⟨_, _, _, rfl, rfl, ((L 2 rfl rfl).trans (congrArg Value.bool g242))⟩) (ow146.oslen (k := 0) rfl rfl (L 0 rfl rfl) Try.underlying31) ?_
            refine U.p rfl rfl (.inr ⟨_, _, _, rfl, rfl, ((L 3 rfl rfl).trans (congrArg Value.bool g242))⟩) (S.lss rfl (L 2 rfl rfl) (L 0 rfl rfl)) ?_
            refine U.p rfl rfl (.inl rfl) (S.pickT rfl ((L 4 rfl rfl).trans (congrArg Value.bool g242)) (L 0 rfl rfl)) ?_
            exact kk [(49, .bool (decide (x123 < (xs12.length : Int)))), (48, .bool (decide (x123 < (xs12.length : Int)))), (47, .int .i64 (xs12.length : Int)), (46, v11), (45, .int .i64 x123)] _ ⟨.bool (decide (x123 < (xs12.length : Int))), .int .i64 (xs12.length : Int), v11, .int .i64 x123, rfl, (by rw [g242, Bool.true_and])⟩
          · skip
            refine U.x rfl rfl rfl rfl ((L 0 rfl rfl).trans (congrArg Value.bool g242)) (by decide) ?_
            refine U.x rfl rfl rfl rfl ((L 1 rfl rfl).trans (congrArg Value.bool g242)) (by decide) ?_
            refine U.x rfl rfl rfl rfl ((L 2 rfl rfl).trans (congrArg Value.bool g242)) (by decide) ?_
            refine U.x rfl rfl rfl rfl ((L 3 rfl rfl).trans (congrArg Value.bool g242)) (by decide) ?_
            refine U.p rfl rfl (.inl rfl) (S.pickF rfl ((L 4 rfl rfl).trans (congrArg Value.bool g242)) K) ?_
            exact kk [(49, .bool false), (48, .tuple #[]), (47, .tuple #[]), (46, .tuple #[]), (45, .tuple #[])] _ ⟨.tuple #[], .tuple #[], .tuple #[], .tuple #[], rfl, (by rw [g242, Bool.false_and])⟩
      · have h243 := ifF c97 h96
        refine WP.exit ?_
        refine sqE (sqE (blkE (sqN ?_)))
        have h244 := exitS h243 e94
        refine WP.usreg rfl ?_
        refine U.p rfl rfl (.inl rfl) (S.move rfl (L 5 rfl rfl)) ?_
        refine U.p rfl rfl (.inl rfl) (S.assign rfl (L 0 rfl rfl)) ?_
        refine U.done (Nat.le_of_ble_eq_true rfl) ?_
        refine WP.ret ?_
        refine fin.slot (.inr rfl) rfl (L 0 rfl rfl) ⟨V89, rfl, ((le7.trans le20).trans le90), ?_⟩
        have ow245 := ow91.drop 0 rfl
        have e246 := Option.some.inj h244
        subst e246
        exact ⟨v80, rfl, ow245⟩

set_option maxHeartbeats 4000000 in
theorem wk_fence_Count (V : Vw) (Rs : List At) (p0 : TModule) (p1 : Int) (v1 : Value) (v3 : Value) (f2 : Fz RT_TFunc V v1 p0.funcs) (f4 : Fz (RT.int .i64) V v3 p0.threads) (ow : Ow V (Rs)) (r : Int) (h : fence_Count p0 p1 = some r) : ∃ v V', Cl Try.prog 0 14 #[.agg #[v1, v3], .int .i64 p1] V.H v V'.H ∧ V.le V' ∧ (v = .int .i64 r ∧ Ow V' (Rs)) := by
  refine Ct.of (Nat.zero_le _) Try.func14 rfl (Nat.le_of_ble_eq_true rfl) ?_
  unfold fence_Count at h
  refine WP.usreg rfl ?_
  refine O.box ow rfl rfl (.inl rfl) rfl (L 0 rfl rfl) (by simp [topV]) rfl nd (fun b5 V6 le7 ow8 => ?_)
  refine U.p rfl rfl (.inl rfl) (S.assign rfl K) ?_
  refine U.done (Nat.le_of_ble_eq_true rfl) ?_
  refine WP.usreg rfl ?_
  refine U.p rfl rfl (.inl rfl) (S.assign rfl K) ?_
  refine U.done (Nat.le_of_ble_eq_true rfl) ?_
  refine WP.seq ?_
  refine WP.usreg rfl ?_
  refine U.p (v := .pointer (some ⟨b5, 0, none⟩)) rfl rfl (.inl rfl) (S.fieldAddr rfl (L 2 rfl rfl) Try.underlying25 rfl ti22 rfl rfl) ?_
  refine U.k rfl rfl (.inl rfl) (S.load rfl (L 0 rfl rfl) Try.underlying22 rfl ((ow8.own (k := 0) rfl).cell rfl)) nd ?_
  refine U.p rfl rfl (.inl rfl) (f2.1.len rfl (L 0 rfl rfl) Try.underlying22) ?_
  refine U.p rfl rfl (.inl rfl) (S.move rfl K) ?_
  refine U.done (Nat.le_of_ble_eq_true rfl) ?_
  refine WP.blk ?_
  have ow12 := ow8.drop 0 rfl
  unfold fence_Count_l1 at h
  obtain ⟨n14, hn13⟩ := loopO_some.1 h
  refine WP.loopI2 (fun n l V' => ∃ (x10 : Int) (x11 : Int), l = [(1, .int .i64 p1), (5, .int .i64 x10), (11, v1), (12, .int .i64 (p0.funcs.length : Int)), (13, .int .i64 x11)] ∧ V6.le V' ∧ Ow V' (Rs) ∧ itO (fun s => fence_Count_l1b p0 p1 s.1 s.2) n (x10, x11) = some r) n14 _ ⟨0, 0, rfl, .refl _, ow12, hn13⟩ (allCons (L 8 rfl rfl) (allCons (L 4 rfl rfl) (allCons (L 2 rfl rfl) (allCons (L 1 rfl rfl) (allCons (L 0 rfl rfl) allNil))))) ?_
  rintro _ _ V15 ⟨x10, x11, rfl, le16, ow17, h21⟩
  obtain ⟨m18, q19, rfl, h22, e20⟩ := itS h21
  replace h22 : fence_Count_l1b p0 p1 x10 x11 = some q19 := h22
  unfold fence_Count_l1b at h22
  refine WP.usreg rfl ?_
  refine U.p rfl rfl (.inl rfl) (S.lss rfl (L 4 rfl rfl) (L 3 rfl rfl)) ?_
  refine U.done (Nat.le_of_ble_eq_true rfl) ?_
  refine WP.seq ?_
  refine WP.cond _ (L 0 rfl rfl) rfl (fun c23 => ?_) (fun c23 => ?_)
  · have h24 := ifT c23 h22
    refine WP.skip ?_
    refine sqN ?_
    refine WP.seq ?_
    refine WP.blk ?_
    refine WP.usreg rfl ?_
    obtain ⟨x25, hx26, h27⟩ := bindS h24
    obtain ⟨b28, o29, c30, cs31, hv32, hf33, hr34, hc35⟩ := f2.at hx26
    obtain ⟨v36, rfl, f37⟩ := hr34
    refine U.p rfl rfl (.inl rfl) (S.index rfl ((L 3 rfl rfl).trans hv32) (L 5 rfl rfl) Try.underlying22 ti33 (ix_ge hx26) (ix_lt hx26)) ?_
    refine U.k rfl rfl (.inl rfl) (S.loadN (cs := [.string x25.name, .int .i64 x25.params, .int .i64 x25.regs, v36]) rfl (L 0 rfl rfl) Try.underlying33 rfl ti33 rfl (fun j v hj => (le7.trans le16).cell hf33 (hc35 j v hj))) nd ?_
    refine O.alloc ow17 rfl rfl (.inl rfl) rfl ti33 rfl rfl nd (fun b38 V39 le40 ow41 => ?_)
    refine O.store (k := 0) (cs := [.string x25.name, .int .i64 x25.params, .int .i64 x25.regs, v36]) (c' := [.string x25.name, .int .i64 x25.params, .int .i64 x25.regs, v36]) ow41 rfl rfl rfl (.inl rfl) rfl (L 0 rfl rfl) (L 1 rfl rfl) ti33 (by simp [topV]) rfl rfl (Nat.le_of_ble_eq_true rfl) (by have q0 := f37.one; simp only [List.all_cons, List.all_nil, q0]; rfl) rfl nd (fun V43 le44 ow45 => ?_)
    refine U.done (Nat.le_of_ble_eq_true rfl) ?_
    refine WP.usreg rfl ?_
    refine U.p (v := .pointer (some ⟨b38, 3, none⟩)) rfl rfl (.inl rfl) (S.fieldAddr rfl (L 0 rfl rfl) Try.underlying33 rfl ti31 rfl rfl) ?_
    refine U.k rfl rfl (.inl rfl) (S.load rfl (L 0 rfl rfl) Try.underlying31 rfl ((ow45.own (k := 0) rfl).cell rfl)) nd ?_
    refine U.p rfl rfl (.inl rfl) (f37.1.len rfl (L 0 rfl rfl) Try.underlying31) ?_
    refine U.p rfl rfl (.inl rfl) (S.move rfl K) ?_
    refine U.done (Nat.le_of_ble_eq_true rfl) ?_
    refine WP.blk ?_
    have ow48 := ow45.drop 0 rfl
    unfold fence_Count_l2 at h27
    obtain ⟨n50, hn49⟩ := loopO_some.1 h27
    refine WP.loopI2 (fun n l V' => ∃ (x46 : Int) (x47 : Int), l = [(1, .int .i64 p1), (5, .int .i64 x46), (11, v1), (12, .int .i64 (p0.funcs.length : Int)), (13, .int .i64 x11), (18, v36), (19, .int .i64 (x25.code.length : Int)), (20, .int .i64 x47)] ∧ V43.le V' ∧ Ow V' (Rs) ∧ itO (fun s => fence_Count_l2b p1 x11 x25 s.1 s.2) n (x46, x47) = some q19) n50 _ ⟨x10, 0, rfl, .refl _, ow48, hn49⟩ (allCons (L 8 rfl rfl) (allCons (L 9 rfl rfl) (allCons (L 10 rfl rfl) (allCons (L 11 rfl rfl) (allCons (L 12 rfl rfl) (allCons (L 2 rfl rfl) (allCons (L 1 rfl rfl) (allCons (L 0 rfl rfl) allNil)))))))) ?_
    rintro _ _ V51 ⟨x46, x47, rfl, le52, ow53, h57⟩
    obtain ⟨m54, q55, rfl, h58, e56⟩ := itS h57
    replace h58 : fence_Count_l2b p1 x11 x25 x46 x47 = some q55 := h58
    unfold fence_Count_l2b at h58
    refine WP.usreg rfl ?_
    refine U.p rfl rfl (.inl rfl) (S.lss rfl (L 7 rfl rfl) (L 6 rfl rfl)) ?_
    refine U.done (Nat.le_of_ble_eq_true rfl) ?_
    refine WP.seq ?_
    refine WP.cond _ (L 0 rfl rfl) rfl (fun c59 => ?_) (fun c59 => ?_)
    · have h60 := ifT c59 h58
      refine WP.skip ?_
      refine sqN ?_
      refine WP.seqI (fun l V' => ∃ (x61 : Int), l = [(1, .int .i64 p1), (5, .int .i64 x61), (11, v1), (12, .int .i64 (p0.funcs.length : Int)), (13, .int .i64 x11), (18, v36), (19, .int .i64 (x25.code.length : Int)), (20, .int .i64 x47)] ∧ V51.le V' ∧ Ow V' (Rs) ∧ fence_Count_k1 x47 x61 = some q55) ?_ ?_
      · rintro _ V62 ⟨x61, rfl, le63, ow64, h65⟩
        unfold fence_Count_k1 at h65
        refine WP.ureg rfl ?_
        refine U.p rfl rfl (.inl rfl) (S.add rfl (L 7 rfl rfl) K) ?_
        refine U.p rfl rfl (.inl rfl) (S.move rfl (L 0 rfl rfl)) ?_
        refine U.done (Nat.le_of_ble_eq_true rfl) ?_
        refine sqN ?_
        exact ⟨_, V62, rfl, ⟨m54, Nat.lt_succ_self _, x61, w64 (x47 + 1), rfl, (le52.trans le63), ow64, backS h65 e56⟩, (allCons (L 2 rfl rfl) (allCons (L 3 rfl rfl) (allCons (L 4 rfl rfl) (allCons (L 5 rfl rfl) (allCons (L 6 rfl rfl) (allCons (L 7 rfl rfl) (allCons (L 8 rfl rfl) (allCons (L 0 rfl rfl) allNil))))))))⟩
      · skip
        refine WP.blk ?_
        refine WP.usreg rfl ?_
        obtain ⟨x66, hx67, h68⟩ := bindS h60
        obtain ⟨b69, o70, c71, cs72, hv73, hf74, hr75, hc76⟩ := f37.at hx67
        obtain ⟨v77, rfl, f78⟩ := hr75
        refine U.p rfl rfl (.inl rfl) (S.index rfl ((L 6 rfl rfl).trans hv73) (L 8 rfl rfl) Try.underlying31 ti42 (ix_ge hx67) (ix_lt hx67)) ?_
        refine U.k rfl rfl (.inl rfl) (S.loadN (cs := [.int .i64 x66.op, .int .i64 x66.d, .int .i64 x66.a, .int .i64 x66.b, .int .i64 x66.imm, v77, .int .i64 x66.what, .bool x66.volatile, .bool x66.final]) rfl (L 0 rfl rfl) Try.underlying42 rfl ti42 rfl (fun j v hj => ((((le7.trans le16).trans le40).trans le44).trans le52).cell hf74 (hc76 j v hj))) nd ?_
        refine O.alloc ow53 rfl rfl (.inl rfl) rfl ti42 rfl rfl nd (fun b79 V80 le81 ow82 => ?_)
        refine O.store (k := 0) (cs := [.int .i64 x66.op, .int .i64 x66.d, .int .i64 x66.a, .int .i64 x66.b, .int .i64 x66.imm, v77, .int .i64 x66.what, .bool x66.volatile, .bool x66.final]) (c' := [.int .i64 x66.op, .int .i64 x66.d, .int .i64 x66.a, .int .i64 x66.b, .int .i64 x66.imm, v77, .int .i64 x66.what, .bool x66.volatile, .bool x66.final]) ow82 rfl rfl rfl (.inl rfl) rfl (L 0 rfl rfl) (L 1 rfl rfl) ti42 (by simp [topV]) rfl rfl (Nat.le_of_ble_eq_true rfl) (by have q0 := f78.one; simp only [List.all_cons, List.all_nil, q0]; rfl) rfl nd (fun V84 le85 ow86 => ?_)
        refine U.done (Nat.le_of_ble_eq_true rfl) ?_
        refine WP.usreg rfl ?_
        refine U.p (v := .pointer (some ⟨b79, 0, none⟩)) rfl rfl (.inl rfl) (S.fieldAddr rfl (L 0 rfl rfl) Try.underlying42 rfl ti3 rfl rfl) ?_
        refine U.k rfl rfl (.inl rfl) (S.load rfl (L 0 rfl rfl) Try.underlying3 rfl ((ow86.own (k := 0) rfl).cell rfl)) nd ?_
        refine U.p rfl rfl (.inl rfl) (S.eqlI rfl (L 0 rfl rfl) K) ?_
        refine U.p rfl rfl (.inl rfl) (S.move rfl (L 0 rfl rfl)) ?_
        refine U.joinX 9 (fun e H => ∃ (u87 u88 u89 u90 : Value), H = V84.H ∧ e = [(32, .bool ((decide (x66.op = 21)) && (decide (x66.imm = p1)))), (31, u87), (30, u88), (29, u89), (28, u90)]) ?_ ?_
        · rintro _ _ ⟨u87, u88, u89, u90, rfl, rfl⟩
          refine U.done (Nat.le_of_ble_eq_true rfl) ?_
          refine WP.cond _ (L 0 rfl rfl) rfl (fun c94 => ?_) (fun c94 => ?_)
          · have h95 := ifT c94 h68
            refine WP.ureg rfl ?_
            refine U.p rfl rfl (.inl rfl) (S.move rfl (L 14 rfl rfl)) ?_
            refine U.p rfl rfl (.inl rfl) (S.add rfl (L 0 rfl rfl) K) ?_
            refine U.p rfl rfl (.inl rfl) (S.assign rfl (L 0 rfl rfl)) ?_
            refine U.done (Nat.le_of_ble_eq_true rfl) ?_
            refine blkN (sqN ?_)
            have ow96 := ow86.drop 0 rfl
            exact ⟨_, V84, rfl, ⟨w64 (x46 + 1), rfl, (le81.trans le85), ow96, h95⟩, (allCons (L 16 rfl rfl) (allCons (L 0 rfl rfl) (allCons (L 18 rfl rfl) (allCons (L 19 rfl rfl) (allCons (L 20 rfl rfl) (allCons (L 21 rfl rfl) (allCons (L 22 rfl rfl) (allCons (L 23 rfl rfl) allNil))))))))⟩
          · have h97 := ifF c94 h68
            refine WP.skip ?_
            refine blkN (sqN ?_)
            have ow98 := ow86.drop 0 rfl
            exact ⟨_, V84, rfl, ⟨x46, rfl, (le81.trans le85), ow98, h97⟩, (allCons (L 13 rfl rfl) (allCons (L 14 rfl rfl) (allCons (L 15 rfl rfl) (allCons (L 16 rfl rfl) (allCons (L 17 rfl rfl) (allCons (L 18 rfl rfl) (allCons (L 19 rfl rfl) (allCons (L 20 rfl rfl) allNil))))))))⟩
        · intro kk
          refine bcase (b := decide (x66.op = 21)) (fun g99 => ?_) (fun g99 => ?_)
          · skip
            refine U.p (v := .pointer (some ⟨b79, 4, none⟩)) rfl rfl (.inr ⟨_, _, _, rfl, rfl, ((L 0 rfl rfl).trans (congrArg Value.bool g99))⟩) (S.fieldAddr rfl (L 4 rfl rfl) Try.underlying42 rfl ti3 rfl rfl) ?_
            refine U.k rfl rfl (.inr ⟨_, _, _, rfl, rfl, ((L 1 rfl rfl).trans (congrArg Value.bool g99))⟩) (S.load rfl (L 0 rfl rfl) Try.underlying3 rfl ((ow86.own (k := 0) rfl).cell rfl)) nd ?_
            refine U.p rfl rfl (.inr ⟨_, _, _, rfl, rfl, ((L 2 rfl rfl).trans (congrArg Value.bool g99))⟩) (S.move rfl (L 10 rfl rfl)) ?_
            refine U.p rfl rfl (.inr ⟨_, _, _, rfl, rfl, ((L 3 rfl rfl).trans (congrArg Value.bool g99))⟩) (S.eqlI rfl (L 1 rfl rfl) (L 0 rfl rfl)) ?_
            refine U.p rfl rfl (.inl rfl) (S.pickT rfl ((L 4 rfl rfl).trans (congrArg Value.bool g99)) (L 0 rfl rfl)) ?_
            exact kk [(32, .bool (decide (x66.imm = p1))), (31, .bool (decide (x66.imm = p1))), (30, .int .i64 p1), (29, .int .i64 x66.imm), (28, .pointer (some ⟨b79, 4, none⟩))] _ ⟨.bool (decide (x66.imm = p1)), .int .i64 p1, .int .i64 x66.imm, .pointer (some ⟨b79, 4, none⟩), rfl, (by rw [g99, Bool.true_and])⟩
          · skip
            refine U.x rfl rfl rfl rfl ((L 0 rfl rfl).trans (congrArg Value.bool g99)) (by decide) ?_
            refine U.x rfl rfl rfl rfl ((L 1 rfl rfl).trans (congrArg Value.bool g99)) (by decide) ?_
            refine U.x rfl rfl rfl rfl ((L 2 rfl rfl).trans (congrArg Value.bool g99)) (by decide) ?_
            refine U.x rfl rfl rfl rfl ((L 3 rfl rfl).trans (congrArg Value.bool g99)) (by decide) ?_
            refine U.p rfl rfl (.inl rfl) (S.pickF rfl ((L 4 rfl rfl).trans (congrArg Value.bool g99)) K) ?_
            exact kk [(32, .bool false), (31, .tuple #[]), (30, .tuple #[]), (29, .tuple #[]), (28, .tuple #[])] _ ⟨.tuple #[], .tuple #[], .tuple #[], .tuple #[], rfl, (by rw [g99, Bool.false_and])⟩
    · have h100 := ifF c59 h58
      refine WP.exit ?_
      refine sqE (sqE (blkE (blkN (sqN ?_))))
      have h101 := exitS h100 e56
      refine WP.ureg rfl ?_
      refine U.p rfl rfl (.inl rfl) (S.add rfl (L 5 rfl rfl) K) ?_
      refine U.p rfl rfl (.inl rfl) (S.move rfl (L 0 rfl rfl)) ?_
      refine U.done (Nat.le_of_ble_eq_true rfl) ?_
      refine sqN ?_
      exact ⟨_, V51, rfl, ⟨m18, Nat.lt_succ_self _, x46, w64 (x11 + 1), rfl, (((le16.trans le40).trans le44).trans le52), ow53, backS h101 e20⟩, (allCons (L 3 rfl rfl) (allCons (L 4 rfl rfl) (allCons (L 5 rfl rfl) (allCons (L 6 rfl rfl) (allCons (L 0 rfl rfl) allNil)))))⟩
  · have h102 := ifF c23 h22
    refine WP.exit ?_
    refine sqE (sqE (blkE (sqN ?_)))
    have h103 := exitS h102 e20
    refine WP.usreg rfl ?_
    refine U.p rfl rfl (.inl rfl) (S.move rfl (L 2 rfl rfl)) ?_
    refine U.p rfl rfl (.inl rfl) (S.assign rfl (L 0 rfl rfl)) ?_
    refine U.done (Nat.le_of_ble_eq_true rfl) ?_
    refine WP.ret ?_
    refine fin.slot (.inr rfl) rfl (L 0 rfl rfl) ⟨V15, rfl, (le7.trans le16), ?_⟩
    have e104 := Option.some.inj h103
    subst e104
    exact ⟨rfl, ow17⟩

set_option maxHeartbeats 4000000 in
theorem wk_law12_FenceIs (V : Vw) (Rs : List At) (p0 : TModule) (p1 : Tfence_Options) (v1 : Value) (v3 : Value) (f2 : Fz RT_TFunc V v1 p0.funcs) (f4 : Fz (RT.int .i64) V v3 p0.threads) (ow : Ow V (Rs)) (r : Bool) (h : law12_FenceIs p0 p1 = some r) : ∃ v V', Cl Try.prog 0 4 #[.agg #[v1, v3], .agg #[.bool p1.naive, .bool p1.bare, .bool p1.merged]] V.H v V'.H ∧ V.le V' ∧ (v = .bool r ∧ Ow V' (Rs)) := by
  refine Ct.of (Nat.zero_le _) Try.func4 rfl (Nat.le_of_ble_eq_true rfl) ?_
  unfold law12_FenceIs at h
  refine WP.usreg rfl ?_
  refine O.box ow rfl rfl (.inl rfl) rfl (L 0 rfl rfl) (by simp [topV]) rfl nd (fun b5 V6 le7 ow8 => ?_)
  refine O.box ow8 rfl rfl (.inl rfl) rfl (L 2 rfl rfl) (by simp [topV]) rfl nd (fun b10 V11 le12 ow13 => ?_)
  refine U.p rfl rfl (.inl rfl) (S.assign rfl K) ?_
  refine U.done (Nat.le_of_ble_eq_true rfl) ?_
  refine WP.seq ?_
  refine WP.usreg rfl ?_
  obtain ⟨x15, hx16, h17⟩ := bindS h
  refine O.call (V := V11) rfl rfl (.inl rfl) rfl en6 aN (wk_law12_alive V11 _ ow13 _ hx16) (fun _ _ _ _ => nd) (fun v18 V19 le20 hp21 => ?_)
  obtain ⟨rfl, ow22⟩ := hp21
  refine U.p rfl rfl (.inl rfl) (S.not rfl (L 0 rfl rfl)) ?_
  refine U.done (Nat.le_of_ble_eq_true rfl) ?_
  refine WP.cond _ (L 0 rfl rfl) rfl (fun c23 => ?_) (fun c23 => ?_)
  · have h24 := ifT c23 h17
    have k25 : x15 = false := by simpa using c23
    refine WP.usreg rfl ?_
    refine U.p rfl rfl (.inl rfl) (S.assign rfl K) ?_
    refine U.done (Nat.le_of_ble_eq_true rfl) ?_
    refine WP.ret ?_
    refine sqR ?_
    refine fin.slot (.inr rfl) rfl (L 0 rfl rfl) ⟨V19, rfl, ((le7.trans le12).trans le20), ?_⟩
    have ow26 := ow22.drop 0 rfl
    have ow27 := ow26.drop 0 rfl
    have e28 := Option.some.inj h24
    subst e28
    exact ⟨rfl, ow27⟩
  · have h29 := ifF c23 h17
    have k30 : x15 = true := by simpa using c23
    refine WP.skip ?_
    refine sqN ?_
    refine WP.seq ?_
    refine WP.usreg rfl ?_
    refine U.k rfl rfl (.inl rfl) (S.loadB rfl (L 4 rfl rfl) Try.underlying25 rfl ti25 (ow22.own (k := 1) rfl).get rfl) nd ?_
    have f31 := f2.up ((le7.trans le12).trans le20)
    have f32 := f4.up ((le7.trans le12).trans le20)
    obtain ⟨x33, hx34, h35⟩ := bindS h29
    refine O.call (V := V19) rfl rfl (.inl rfl) rfl en7 (aC (L 0 rfl rfl) aN) (wk_law12_great V19 _ p0 v1 v3 f31 f32 ow22 _ hx34) (fun _ _ _ _ => nd) (fun v36 V37 le38 hp39 => ?_)
    obtain ⟨rfl, ow40⟩ := hp39
    refine U.done (Nat.le_of_ble_eq_true rfl) ?_
    refine WP.cond _ (L 0 rfl rfl) rfl (fun c41 => ?_) (fun c41 => ?_)
    · have h42 := ifT c41 h35
      refine WP.usreg rfl ?_
      refine U.p rfl rfl (.inl rfl) (S.assign rfl K) ?_
      refine U.done (Nat.le_of_ble_eq_true rfl) ?_
      refine WP.ret ?_
      refine sqR ?_
      refine fin.slot (.inr rfl) rfl (L 0 rfl rfl) ⟨V37, rfl, (((le7.trans le12).trans le20).trans le38), ?_⟩
      have ow43 := ow40.drop 0 rfl
      have ow44 := ow43.drop 0 rfl
      have e45 := Option.some.inj h42
      subst e45
      exact ⟨rfl, ow44⟩
    · have h46 := ifF c41 h35
      refine WP.skip ?_
      refine sqN ?_
      refine WP.usreg rfl ?_
      refine U.k rfl rfl (.inl rfl) (S.loadB rfl (L 6 rfl rfl) Try.underlying25 rfl ti25 (ow40.own (k := 1) rfl).get rfl) nd ?_
      refine U.k rfl rfl (.inl rfl) (S.loadB rfl (L 6 rfl rfl) Try.underlying27 rfl ti27 (ow40.own (k := 0) rfl).get rfl) nd ?_
      have f47 := f31.up le38
      have f48 := f32.up le38
      obtain ⟨x49, hx50, h51⟩ := bindS h46
      refine O.call (V := V37) rfl rfl (.inl rfl) rfl en8 (aC (L 1 rfl rfl) (aC (L 0 rfl rfl) aN)) (wk_fence_Module V37 _ p0 p1 v1 v3 f47 f48 ow40 _ hx50) (fun _ _ _ _ => nd) (fun v52 V53 le54 hp55 => ?_)
      obtain ⟨v57, v59, rfl, f58, f60, ow56⟩ := hp55
      refine O.alloc ow56 rfl rfl (.inl rfl) rfl ti25 rfl rfl nd (fun b61 V62 le63 ow64 => ?_)
      refine O.store (k := 0) (cs := [v57, v59]) (c' := [v57, v59]) ow64 rfl rfl rfl (.inl rfl) rfl (L 0 rfl rfl) (L 1 rfl rfl) ti25 (by simp [topV]) rfl rfl (Nat.le_of_ble_eq_true rfl) (by have q0 := f58.one; have q1 := f60.one; simp only [List.all_cons, List.all_nil, q0, q1]; rfl) rfl nd (fun V66 le67 ow68 => ?_)
      refine U.done (Nat.le_of_ble_eq_true rfl) ?_
      refine WP.seq ?_
      refine WP.usreg rfl ?_
      refine U.p (v := .pointer (some ⟨b61, 0, none⟩)) rfl rfl (.inl rfl) (S.fieldAddr rfl (L 0 rfl rfl) Try.underlying25 rfl ti22 rfl rfl) ?_
      refine U.k rfl rfl (.inl rfl) (S.load rfl (L 0 rfl rfl) Try.underlying22 rfl ((ow68.own (k := 0) rfl).cell rfl)) nd ?_
      refine U.p rfl rfl (.inl rfl) (f58.1.len rfl (L 0 rfl rfl) Try.underlying22) ?_
      refine U.p (v := .pointer (some ⟨b5, 0, none⟩)) rfl rfl (.inl rfl) (S.fieldAddr rfl (L 13 rfl rfl) Try.underlying25 rfl ti22 rfl rfl) ?_
      refine U.k rfl rfl (.inl rfl) (S.load rfl (L 0 rfl rfl) Try.underlying22 rfl ((ow68.own (k := 2) rfl).cell rfl)) nd ?_
      refine U.p rfl rfl (.inl rfl) (f47.1.len rfl (L 0 rfl rfl) Try.underlying22) ?_
      refine U.p rfl rfl (.inl rfl) (S.neqI rfl (L 3 rfl rfl) (L 0 rfl rfl)) ?_
      refine U.p rfl rfl (.inl rfl) (S.move rfl (L 0 rfl rfl)) ?_
      refine U.joinX 16 (fun e H => ∃ (u69 u70 u71 u72 u73 u74 u75 : Value), H = V66.H ∧ e = [(36, .bool ((decide ((x49.funcs.length : Int) ≠ (p0.funcs.length : Int))) || (decide ((x49.threads.length : Int) ≠ (p0.threads.length : Int))))), (35, u69), (34, u70), (33, u71), (32, u72), (31, u73), (30, u74), (29, u75)]) ?_ ?_
      · rintro _ _ ⟨u69, u70, u71, u72, u73, u74, u75, rfl, rfl⟩
        refine U.done (Nat.le_of_ble_eq_true rfl) ?_
        refine WP.cond _ (L 0 rfl rfl) rfl (fun c79 => ?_) (fun c79 => ?_)
        · have h80 := ifT c79 h51
          refine WP.usreg rfl ?_
          refine U.p rfl rfl (.inl rfl) (S.assign rfl K) ?_
          refine U.done (Nat.le_of_ble_eq_true rfl) ?_
          refine WP.ret ?_
          refine sqR ?_
          refine fin.slot (.inr rfl) rfl (L 0 rfl rfl) ⟨V66, rfl, ((((((le7.trans le12).trans le20).trans le38).trans le54).trans le63).trans le67), ?_⟩
          have ow81 := ow68.drop 0 rfl
          have ow82 := ow81.drop 0 rfl
          have ow83 := ow82.drop 0 rfl
          have e84 := Option.some.inj h80
          subst e84
          exact ⟨rfl, ow83⟩
        · have h85 := ifF c79 h51
          refine WP.skip ?_
          refine sqN ?_
          refine WP.usreg rfl ?_
          refine O.alloc ow68 rfl rfl (.inl rfl) rfl ti38 rfl rfl nd (fun b86 V87 le88 ow89 => ?_)
          have ow91 := ow89.toOa (R := (RT.int .i64)) (k := 0) rfl (Rows.repl (r := [.int .i64 0]) (z := 0) rfl 4 rfl) (List.length_replicate)
          refine U.done (Nat.le_of_ble_eq_true rfl) ?_
          refine WP.seq ?_
          refine WP.usreg rfl ?_
          refine U.p (v := .pointer (some ⟨b5, 0, none⟩)) rfl rfl (.inl rfl) (S.fieldAddr rfl (L 27 rfl rfl) Try.underlying25 rfl ti22 rfl rfl) ?_
          refine U.k rfl rfl (.inl rfl) (S.load rfl (L 0 rfl rfl) Try.underlying22 rfl ((ow91.own (k := 3) rfl).cell rfl)) nd ?_
          refine U.p rfl rfl (.inl rfl) (f47.1.len rfl (L 0 rfl rfl) Try.underlying22) ?_
          refine U.p rfl rfl (.inl rfl) (S.move rfl K) ?_
          refine U.done (Nat.le_of_ble_eq_true rfl) ?_
          refine WP.blk ?_
          have ow95 := ow91.drop 3 rfl
          have ow96 := ow95.pick 0 rfl
          have ow97 := ow96.pick 1 rfl
          have ow98 := ow97.pick 2 rfl
          unfold law12_FenceIs_l1 at h85
          obtain ⟨n100, hn99⟩ := loopO_some.1 h85
          refine WP.loopI2 (fun n l V' => ∃ (xs93 : List Int) (x94 : Int), l = [(3, .pointer (some ⟨b10, 0, none⟩)), (5, .pointer (some ⟨b61, 0, none⟩)), (6, .pointer (some ⟨b86, 0, none⟩)), (38, v1), (39, .int .i64 (p0.funcs.length : Int)), (40, .int .i64 x94)] ∧ V87.le V' ∧ Ow V' (.pt b10 (.cells 0 [.bool p1.naive, .bool p1.bare, .bool p1.merged]) :: .pt b61 (.cells 2 [v57, v59]) :: .oa (RT.int .i64) b86 4 4 xs93 :: Rs) ∧ itO (fun s => law12_FenceIs_l1b p0 p1 x49 s.1 s.2) n (xs93, x94) = some r) n100 _ ⟨List.replicate 4 0, 0, rfl, .refl _, ow98, hn99⟩ (allCons (L 30 rfl rfl) (allCons (L 21 rfl rfl) (allCons (L 4 rfl rfl) (allCons (L 2 rfl rfl) (allCons (L 1 rfl rfl) (allCons (L 0 rfl rfl) allNil)))))) ?_
          rintro _ _ V101 ⟨xs93, x94, rfl, le102, ow103, h107⟩
          obtain ⟨m104, q105, rfl, h108, e106⟩ := itS h107
          replace h108 : law12_FenceIs_l1b p0 p1 x49 xs93 x94 = some q105 := h108
          unfold law12_FenceIs_l1b at h108
          refine WP.usreg rfl ?_
          refine U.p rfl rfl (.inl rfl) (S.lss rfl (L 5 rfl rfl) (L 4 rfl rfl)) ?_
          refine U.done (Nat.le_of_ble_eq_true rfl) ?_
          refine WP.seq ?_
          refine WP.cond _ (L 0 rfl rfl) rfl (fun c109 => ?_) (fun c109 => ?_)
          · have h110 := ifT c109 h108
            refine WP.skip ?_
            refine sqN ?_
            refine WP.seq ?_
            refine WP.blk ?_
            refine WP.usreg rfl ?_
            refine U.p rfl rfl (.inl rfl) (S.move rfl (L 6 rfl rfl)) ?_
            obtain ⟨x111, hx112, h113⟩ := bindS h110
            obtain ⟨b114, o115, c116, cs117, hv118, hf119, hr120, hc121⟩ := f47.at hx112
            obtain ⟨v122, rfl, f123⟩ := hr120
            refine U.p rfl rfl (.inl rfl) (S.index rfl ((L 5 rfl rfl).trans hv118) (L 7 rfl rfl) Try.underlying22 ti33 (ix_ge hx112) (ix_lt hx112)) ?_
            refine U.k rfl rfl (.inl rfl) (S.loadN (cs := [.string x111.name, .int .i64 x111.params, .int .i64 x111.regs, v122]) rfl (L 0 rfl rfl) Try.underlying33 rfl ti33 rfl (fun j v hj => ((((le54.trans le63).trans le67).trans le88).trans le102).cell hf119 (hc121 j v hj))) nd ?_
            refine O.alloc ow103 rfl rfl (.inl rfl) rfl ti33 rfl rfl nd (fun b124 V125 le126 ow127 => ?_)
            refine U.p rfl rfl (.inl rfl) (S.assign rfl (L 3 rfl rfl)) ?_
            refine O.store (k := 0) (cs := [.string x111.name, .int .i64 x111.params, .int .i64 x111.regs, v122]) (c' := [.string x111.name, .int .i64 x111.params, .int .i64 x111.regs, v122]) ow127 rfl rfl rfl (.inl rfl) rfl (L 1 rfl rfl) (L 2 rfl rfl) ti33 (by simp [topV]) rfl rfl (Nat.le_of_ble_eq_true rfl) (by have q0 := f123.one; simp only [List.all_cons, List.all_nil, q0]; rfl) rfl nd (fun V129 le130 ow131 => ?_)
            refine U.done (Nat.le_of_ble_eq_true rfl) ?_
            refine WP.usreg rfl ?_
            refine U.k rfl rfl (.inl rfl) (S.loadB rfl (L 1 rfl rfl) Try.underlying33 rfl ti33 (ow131.own (k := 0) rfl).get rfl) nd ?_
            refine O.alloc ow131 rfl rfl (.inl rfl) rfl ti33 rfl rfl nd (fun b132 V133 le134 ow135 => ?_)
            refine O.store (k := 0) (cs := [.string x111.name, .int .i64 x111.params, .int .i64 x111.regs, v122]) (c' := [.string x111.name, .int .i64 x111.params, .int .i64 x111.regs, v122]) ow135 rfl rfl rfl (.inl rfl) rfl (L 0 rfl rfl) (L 1 rfl rfl) ti33 (by simp [topV]) rfl rfl (Nat.le_of_ble_eq_true rfl) (by have q0 := f123.one; simp only [List.all_cons, List.all_nil, q0]; rfl) rfl nd (fun V137 le138 ow139 => ?_)
            refine U.done (Nat.le_of_ble_eq_true rfl) ?_
            refine WP.usreg rfl ?_
            refine U.k rfl rfl (.inl rfl) (S.loadB rfl (L 3 rfl rfl) Try.underlying33 rfl ti33 (ow139.own (k := 1) rfl).get rfl) nd ?_
            refine U.p (v := .pointer (some ⟨b10, 0, none⟩)) rfl rfl (.inl rfl) (S.fieldAddr rfl (L 9 rfl rfl) Try.underlying27 rfl ti4 rfl rfl) ?_
            refine U.k rfl rfl (.inl rfl) (S.load rfl (L 0 rfl rfl) Try.underlying4 rfl ((ow139.own (k := 2) rfl).cell rfl)) nd ?_
            refine U.p (v := .pointer (some ⟨b10, 1, none⟩)) rfl rfl (.inl rfl) (S.fieldAddr rfl (L 11 rfl rfl) Try.underlying27 rfl ti4 rfl rfl) ?_
            refine U.k rfl rfl (.inl rfl) (S.load rfl (L 0 rfl rfl) Try.underlying4 rfl ((ow139.own (k := 2) rfl).cell rfl)) nd ?_
            refine U.p (v := .pointer (some ⟨b10, 2, none⟩)) rfl rfl (.inl rfl) (S.fieldAddr rfl (L 13 rfl rfl) Try.underlying27 rfl ti4 rfl rfl) ?_
            refine U.k rfl rfl (.inl rfl) (S.load rfl (L 0 rfl rfl) Try.underlying4 rfl ((ow139.own (k := 2) rfl).cell rfl)) nd ?_
            have f140 := f123.up ((((((((le54.trans le63).trans le67).trans le88).trans le102).trans le126).trans le130).trans le134).trans le138)
            obtain ⟨x141, hx142, h143⟩ := bindS h113
            refine O.call (V := V137) rfl rfl (.inl rfl) rfl en12 (aC (L 6 rfl rfl) (aC (L 4 rfl rfl) (aC (L 2 rfl rfl) (aC (L 0 rfl rfl) aN)))) (wk_ref12_Code V137 _ x111 p1.naive p1.bare p1.merged v122 f140 ow139 _ hx142) (fun _ _ _ _ => nd) (fun v144 V145 le146 hp147 => ?_)
            obtain ⟨_, rfl, ow148⟩ := hp147
            refine U.p (v := .pointer (some ⟨b132, 3, none⟩)) rfl rfl (.inl rfl) (S.fieldAddr rfl (L 8 rfl rfl) Try.underlying33 rfl ti31 rfl rfl) ?_
            refine O.store (k := 1) (cs := [v144]) (c' := [.string x111.name, .int .i64 x111.params, .int .i64 x111.regs, v144]) ow148 rfl rfl rfl (.inl rfl) rfl (L 0 rfl rfl) (L 1 rfl rfl) ti31 (ow148.osne (k := 0) rfl) (by rw [ow148.oscells (k := 0) rfl]) rfl (Nat.le_of_ble_eq_true rfl) (by have q0 := (ow148.osone (k := 0) rfl); simp only [List.all_cons, List.all_nil, q0]; rfl) rfl nd (fun V151 le152 ow153 => ?_)
            refine U.done (Nat.le_of_ble_eq_true rfl) ?_
            refine WP.seq ?_
            refine WP.seqI (fun l V' => ∃ (xs154 : List TIns) (v155 : Value) (x157 : Bool), l = [(3, .pointer (some ⟨b10, 0, none⟩)), (5, .pointer (some ⟨b61, 0, none⟩)), (6, .pointer (some ⟨b86, 0, none⟩)), (9, .pointer (some ⟨b132, 0, none⟩)), (38, v1), (39, .int .i64 (p0.funcs.length : Int)), (40, .int .i64 x94), (70, .bool x157)] ∧ V151.le V' ∧ Fz RT_TIns V' v155 xs154 ∧ Ow V' (.pt b10 (.cells 0 [.bool p1.naive, .bool p1.bare, .bool p1.merged]) :: .pt b61 (.cells 2 [v57, v59]) :: .oa (RT.int .i64) b86 4 4 xs93 :: .pt b132 (.cells 4 [.string x111.name, .int .i64 x111.params, .int .i64 x111.regs, v155]) :: Rs) ∧ law12_FenceIs_k1 xs93 x94 xs154 x157 = some q105) ?_ ?_
            · rintro _ V158 ⟨xs154, v155, x157, rfl, le159, f156, ow160, h161⟩
              unfold law12_FenceIs_k1 at h161
              refine WP.cond _ (L 7 rfl rfl) rfl (fun c162 => ?_) (fun c162 => ?_)
              · have h163 := ifT c162 h161
                refine WP.usreg rfl ?_
                refine U.p rfl rfl (.inl rfl) (S.assign rfl K) ?_
                refine U.done (Nat.le_of_ble_eq_true rfl) ?_
                refine WP.ret ?_
                refine sqR (blkR (sqR (sqR (blkR (sqR ?_)))))
                have h164 := exitS h163 e106
                refine fin.slot (.inr rfl) rfl (L 0 rfl rfl) ⟨V158, rfl, (((((((((((((((le7.trans le12).trans le20).trans le38).trans le54).trans le63).trans le67).trans le88).trans le102).trans le126).trans le130).trans le134).trans le138).trans le146).trans le152).trans le159), ?_⟩
                have ow165 := ow160.drop 0 rfl
                have ow166 := ow165.drop 0 rfl
                have ow167 := ow166.drop 0 rfl
                have ow168 := ow167.drop 0 rfl
                have e169 := Option.some.inj h164
                subst e169
                exact ⟨rfl, ow168⟩
              · have h170 := ifF c162 h161
                refine WP.skip ?_
                refine sqN ?_
                refine WP.usreg rfl ?_
                refine U.p (v := .pointer (some ⟨b132, 3, none⟩)) rfl rfl (.inl rfl) (S.fieldAddr rfl (L 3 rfl rfl) Try.underlying33 rfl ti31 rfl rfl) ?_
                refine U.k rfl rfl (.inl rfl) (S.load rfl (L 0 rfl rfl) Try.underlying31 rfl ((ow160.own (k := 3) rfl).cell rfl)) nd ?_
                refine U.p rfl rfl (.inl rfl) (f156.1.len rfl (L 0 rfl rfl) Try.underlying31) ?_
                refine U.p rfl rfl (.inl rfl) (S.move rfl K) ?_
                refine U.done (Nat.le_of_ble_eq_true rfl) ?_
                refine WP.blk ?_
                have ow173 := ow160.drop 3 rfl
                unfold law12_FenceIs_l2 at h170
                obtain ⟨n175, hn174⟩ := loopO_some.1 h170
                refine WP.loopI2 (fun n l V' => ∃ (xs171 : List Int) (x172 : Int), l = [(3, .pointer (some ⟨b10, 0, none⟩)), (5, .pointer (some ⟨b61, 0, none⟩)), (6, .pointer (some ⟨b86, 0, none⟩)), (38, v1), (39, .int .i64 (p0.funcs.length : Int)), (40, .int .i64 x94), (72, v155), (73, .int .i64 (xs154.length : Int)), (74, .int .i64 x172)] ∧ V158.le V' ∧ Ow V' (.pt b10 (.cells 0 [.bool p1.naive, .bool p1.bare, .bool p1.merged]) :: .pt b61 (.cells 2 [v57, v59]) :: .oa (RT.int .i64) b86 4 4 xs171 :: Rs) ∧ itO (fun s => law12_FenceIs_l2b x94 xs154 s.1 s.2) n (xs171, x172) = some q105) n175 _ ⟨xs93, 0, rfl, .refl _, ow173, hn174⟩ (allCons (L 4 rfl rfl) (allCons (L 5 rfl rfl) (allCons (L 6 rfl rfl) (allCons (L 8 rfl rfl) (allCons (L 9 rfl rfl) (allCons (L 10 rfl rfl) (allCons (L 2 rfl rfl) (allCons (L 1 rfl rfl) (allCons (L 0 rfl rfl) allNil))))))))) ?_
                rintro _ _ V176 ⟨xs171, x172, rfl, le177, ow178, h182⟩
                obtain ⟨m179, q180, rfl, h183, e181⟩ := itS h182
                replace h183 : law12_FenceIs_l2b x94 xs154 xs171 x172 = some q180 := h183
                unfold law12_FenceIs_l2b at h183
                refine WP.usreg rfl ?_
                refine U.p rfl rfl (.inl rfl) (S.lss rfl (L 8 rfl rfl) (L 7 rfl rfl)) ?_
                refine U.done (Nat.le_of_ble_eq_true rfl) ?_
                refine WP.seq ?_
                refine WP.cond _ (L 0 rfl rfl) rfl (fun c184 => ?_) (fun c184 => ?_)
                · have h185 := ifT c184 h183
                  refine WP.skip ?_
                  refine sqN ?_
                  refine WP.seqI (fun l V' => ∃ (xs186 : List Int), l = [(3, .pointer (some ⟨b10, 0, none⟩)), (5, .pointer (some ⟨b61, 0, none⟩)), (6, .pointer (some ⟨b86, 0, none⟩)), (38, v1), (39, .int .i64 (p0.funcs.length : Int)), (40, .int .i64 x94), (72, v155), (73, .int .i64 (xs154.length : Int)), (74, .int .i64 x172)] ∧ V176.le V' ∧ Ow V' (.pt b10 (.cells 0 [.bool p1.naive, .bool p1.bare, .bool p1.merged]) :: .pt b61 (.cells 2 [v57, v59]) :: .oa (RT.int .i64) b86 4 4 xs186 :: Rs) ∧ law12_FenceIs_k2 x172 xs186 = some q180) ?_ ?_
                  · rintro _ V187 ⟨xs186, rfl, le188, ow189, h190⟩
                    unfold law12_FenceIs_k2 at h190
                    refine WP.ureg rfl ?_
                    refine U.p rfl rfl (.inl rfl) (S.add rfl (L 8 rfl rfl) K) ?_
                    refine U.p rfl rfl (.inl rfl) (S.move rfl (L 0 rfl rfl)) ?_
                    refine U.done (Nat.le_of_ble_eq_true rfl) ?_
                    refine sqN ?_
                    exact ⟨_, V187, rfl, ⟨m179, Nat.lt_succ_self _, xs186, w64 (x172 + 1), rfl, (le177.trans le188), ow189, backS h190 e181⟩, (allCons (L 2 rfl rfl) (allCons (L 3 rfl rfl) (allCons (L 4 rfl rfl) (allCons (L 5 rfl rfl) (allCons (L 6 rfl rfl) (allCons (L 7 rfl rfl) (allCons (L 8 rfl rfl) (allCons (L 9 rfl rfl) (allCons (L 0 rfl rfl) allNil)))))))))⟩
                  · skip
                    refine WP.blk ?_
                    refine WP.usreg rfl ?_
                    obtain ⟨x191, hx192, h193⟩ := bindS h185
                    obtain ⟨b194, o195, c196, cs197, hv198, hf199, hr200, hc201⟩ := f156.at hx192
                    obtain ⟨v202, rfl, f203⟩ := hr200
                    refine U.p rfl rfl (.inl rfl) (S.index rfl ((L 7 rfl rfl).trans hv198) (L 9 rfl rfl) Try.underlying31 ti42 (ix_ge hx192) (ix_lt hx192)) ?_
                    refine U.k rfl rfl (.inl rfl) (S.loadN (cs := [.int .i64 x191.op, .int .i64 x191.d, .int .i64 x191.a, .int .i64 x191.b, .int .i64 x191.imm, v202, .int .i64 x191.what, .bool x191.volatile, .bool x191.final]) rfl (L 0 rfl rfl) Try.underlying42 rfl ti42 rfl (fun j v hj => le177.cell hf199 (hc201 j v hj))) nd ?_
                    refine O.alloc ow178 rfl rfl (.inl rfl) rfl ti42 rfl rfl nd (fun b204 V205 le206 ow207 => ?_)
                    refine O.store (k := 0) (cs := [.int .i64 x191.op, .int .i64 x191.d, .int .i64 x191.a, .int .i64 x191.b, .int .i64 x191.imm, v202, .int .i64 x191.what, .bool x191.volatile, .bool x191.final]) (c' := [.int .i64 x191.op, .int .i64 x191.d, .int .i64 x191.a, .int .i64 x191.b, .int .i64 x191.imm, v202, .int .i64 x191.what, .bool x191.volatile, .bool x191.final]) ow207 rfl rfl rfl (.inl rfl) rfl (L 0 rfl rfl) (L 1 rfl rfl) ti42 (by simp [topV]) rfl rfl (Nat.le_of_ble_eq_true rfl) (by have q0 := f203.one; simp only [List.all_cons, List.all_nil, q0]; rfl) rfl nd (fun V209 le210 ow211 => ?_)
                    refine U.done (Nat.le_of_ble_eq_true rfl) ?_
                    refine WP.usreg rfl ?_
                    refine U.p (v := .pointer (some ⟨b204, 0, none⟩)) rfl rfl (.inl rfl) (S.fieldAddr rfl (L 0 rfl rfl) Try.underlying42 rfl ti3 rfl rfl) ?_
                    refine U.k rfl rfl (.inl rfl) (S.load rfl (L 0 rfl rfl) Try.underlying3 rfl ((ow211.own (k := 0) rfl).cell rfl)) nd ?_
                    refine U.p rfl rfl (.inl rfl) (S.eqlI rfl (L 0 rfl rfl) K) ?_
                    refine U.p rfl rfl (.inl rfl) (S.move rfl (L 0 rfl rfl)) ?_
                    refine U.joinX 8 (fun e H => ∃ (u212 u213 u214 : Value), H = V209.H ∧ e = [(85, .bool ((decide (x191.op = 21)) && (decide (0 ≤ x191.imm)))), (84, u212), (83, u213), (82, u214)]) ?_ ?_
                    · rintro _ _ ⟨u212, u213, u214, rfl, rfl⟩
                      refine U.p rfl rfl (.inl rfl) (S.move rfl (L 0 rfl rfl)) ?_
                      refine U.joinX 13 (fun e H => ∃ (u218 u219 u220 : Value), H = V209.H ∧ e = [(90, .bool (((decide (x191.op = 21)) && (decide (0 ≤ x191.imm))) && (decide (x191.imm < 4)))), (89, u218), (88, u219), (87, u220)]) ?_ ?_
                      · rintro _ _ ⟨u218, u219, u220, rfl, rfl⟩
                        refine U.done (Nat.le_of_ble_eq_true rfl) ?_
                        refine WP.cond _ (L 0 rfl rfl) rfl (fun c224 => ?_) (fun c224 => ?_)
                        · have h225 := ifT c224 h193
                          refine WP.ureg rfl ?_
                          refine U.p (v := .pointer (some ⟨b204, 4, none⟩)) rfl rfl (.inl rfl) (S.fieldAddr rfl (L 13 rfl rfl) Try.underlying42 rfl ti3 rfl rfl) ?_
                          refine U.k rfl rfl (.inl rfl) (S.load rfl (L 0 rfl rfl) Try.underlying3 rfl ((ow211.own (k := 0) rfl).cell rfl)) nd ?_
                          obtain ⟨x226, hx227, h228⟩ := bindS h225
                          refine U.p rfl rfl (.inl rfl) (S.indexA rfl (L 21 rfl rfl) (L 0 rfl rfl) Try.underlying38 ti3 (ix_ge hx227) (by have q1 := ix_lt hx227; have q2 := ow211.oalen (k := 3) rfl; omega)) ?_
                          obtain ⟨cs229, hlt231, hr232, hc233⟩ := ow211.oael (k := 3) rfl hx227
                          obtain rfl : cs229 = [.int .i64 x226] := hr232
                          refine U.k rfl rfl (.inl rfl) (S.load rfl (L 0 rfl rfl) Try.underlying3 rfl (hc233 0 _ rfl)) nd ?_
                          refine U.p rfl rfl (.inl rfl) (S.add rfl (L 0 rfl rfl) K) ?_
                          obtain ⟨x234, hx235, h236⟩ := bindS h228
                          refine U.p rfl rfl (.inl rfl) (S.indexA rfl (L 24 rfl rfl) (L 3 rfl rfl) Try.underlying38 ti3 (ix_ge hx235) (by have q1 := ix_lt hx235; have q2 := ow211.oalen (k := 3) rfl; omega)) ?_
                          obtain ⟨cs237, hlt239, hr240, hc241⟩ := ow211.oael (k := 3) rfl hx235
                          obtain rfl : cs237 = [.int .i64 x234] := hr240
                          refine O.storeA (k := 3) (R := (RT.int .i64)) (j := 0) (y := w64 (x226 + 1)) (cs := [.int .i64 (w64 (x226 + 1))]) ow211 rfl  rfl rfl (.inl rfl) rfl (L 0 rfl rfl) (L 1 rfl rfl) ti3 hx235 (by simp [topV]) rfl rfl rfl (full rfl) (fun _ _ => nd) (fun V242 le243 ow244 => ?_)
                          refine U.done (Nat.le_of_ble_eq_true rfl) ?_
                          refine blkN (sqN ?_)
                          have ow245 := ow244.drop 0 rfl
                          exact ⟨_, V242, rfl, ⟨xs171.set (Int.toNat x191.imm) (w64 (x226 + 1)), rfl, ((le206.trans le210).trans le243), ow245, h236⟩, (allCons (L 23 rfl rfl) (allCons (L 24 rfl rfl) (allCons (L 25 rfl rfl) (allCons (L 26 rfl rfl) (allCons (L 27 rfl rfl) (allCons (L 28 rfl rfl) (allCons (L 29 rfl rfl) (allCons (L 30 rfl rfl) (allCons (L 31 rfl rfl) allNil)))))))))⟩
                        · have h246 := ifF c224 h193
                          refine WP.skip ?_
                          refine blkN (sqN ?_)
                          have ow247 := ow211.drop 0 rfl
                          exact ⟨_, V209, rfl, ⟨xs171, rfl, (le206.trans le210), ow247, h246⟩, (allCons (L 17 rfl rfl) (allCons (L 18 rfl rfl) (allCons (L 19 rfl rfl) (allCons (L 20 rfl rfl) (allCons (L 21 rfl rfl) (allCons (L 22 rfl rfl) (allCons (L 23 rfl rfl) (allCons (L 24 rfl rfl) (allCons (L 25 rfl rfl) allNil)))))))))⟩
                      · intro kk
                        refine bcase (b := (decide (x191.op = 21)) && (decide (0 ≤ x191.imm))) (fun g248 => ?_) (fun g248 => ?_)
                        · skip
                          refine U.p (v := .pointer (some ⟨b204, 4, none⟩)) rfl rfl (.inr ⟨_, _, _, rfl, rfl, ((L 0 rfl rfl).trans (congrArg Value.bool g248))⟩) (S.fieldAddr rfl (L 9 rfl rfl) Try.underlying42 rfl ti3 rfl rfl) ?_
                          refine U.k rfl rfl (.inr ⟨_, _, _, rfl, rfl, ((L 1 rfl rfl).trans (congrArg Value.bool g248))⟩) (S.load rfl (L 0 rfl rfl) Try.underlying3 rfl ((ow211.own (k := 0) rfl).cell rfl)) nd ?_
                          refine U.p rfl rfl (.inr ⟨_, _, _, rfl, rfl, ((L 2 rfl rfl).trans (congrArg Value.bool g248))⟩) (S.lss rfl (L 0 rfl rfl) K) ?_
                          refine U.p rfl rfl (.inl rfl) (S.pickT rfl ((L 3 rfl rfl).trans (congrArg Value.bool g248)) (L 0 rfl rfl)) ?_
                          exact kk [(90, .bool (decide (x191.imm < 4))), (89, .bool (decide (x191.imm < 4))), (88, .int .i64 x191.imm), (87, .pointer (some ⟨b204, 4, none⟩))] _ ⟨.bool (decide (x191.imm < 4)), .int .i64 x191.imm, .pointer (some ⟨b204, 4, none⟩), rfl, (by rw [g248, Bool.true_and])⟩
                        · skip
                          refine U.x rfl rfl rfl rfl ((L 0 rfl rfl).trans (congrArg Value.bool g248)) (by decide) ?_
                          refine U.x rfl rfl rfl rfl ((L 1 rfl rfl).trans (congrArg Value.bool g248)) (by decide) ?_
                          refine U.x rfl rfl rfl rfl ((L 2 rfl rfl).trans (congrArg Value.bool g248)) (by decide) ?_
                          refine U.p rfl rfl (.inl rfl) (S.pickF rfl ((L 3 rfl rfl).trans (congrArg Value.bool g248)) K) ?_
                          exact kk [(90, .bool false), (89, .tuple #[]), (88, .tuple #[]), (87, .tuple #[])] _ ⟨.tuple #[], .tuple #[], .tuple #[], rfl, (by rw [g248, Bool.false_and])⟩
                    · intro kk
                      refine bcase (b := decide (x191.op = 21)) (fun g249 => ?_) (fun g249 => ?_)
                      · skip
                        refine U.p (v := .pointer (some ⟨b204, 4, none⟩)) rfl rfl (.inr ⟨_, _, _, rfl, rfl, ((L 0 rfl rfl).trans (congrArg Value.bool g249))⟩) (S.fieldAddr rfl (L 4 rfl rfl) Try.underlying42 rfl ti3 rfl rfl) ?_
                        refine U.k rfl rfl (.inr ⟨_, _, _, rfl, rfl, ((L 1 rfl rfl).trans (congrArg Value.bool g249))⟩) (S.load rfl (L 0 rfl rfl) Try.underlying3 rfl ((ow211.own (k := 0) rfl).cell rfl)) nd ?_
                        refine U.p rfl rfl (.inr ⟨_, _, _, rfl, rfl, ((L 2 rfl rfl).trans (congrArg Value.bool g249))⟩) (S.geq rfl (L 0 rfl rfl) K) ?_
                        refine U.p rfl rfl (.inl rfl) (S.pickT rfl ((L 3 rfl rfl).trans (congrArg Value.bool g249)) (L 0 rfl rfl)) ?_
                        exact kk [(85, .bool (decide (0 ≤ x191.imm))), (84, .bool (decide (0 ≤ x191.imm))), (83, .int .i64 x191.imm), (82, .pointer (some ⟨b204, 4, none⟩))] _ ⟨.bool (decide (0 ≤ x191.imm)), .int .i64 x191.imm, .pointer (some ⟨b204, 4, none⟩), rfl, (by rw [g249, Bool.true_and])⟩
                      · skip
                        refine U.x rfl rfl rfl rfl ((L 0 rfl rfl).trans (congrArg Value.bool g249)) (by decide) ?_
                        refine U.x rfl rfl rfl rfl ((L 1 rfl rfl).trans (congrArg Value.bool g249)) (by decide) ?_
                        refine U.x rfl rfl rfl rfl ((L 2 rfl rfl).trans (congrArg Value.bool g249)) (by decide) ?_
                        refine U.p rfl rfl (.inl rfl) (S.pickF rfl ((L 3 rfl rfl).trans (congrArg Value.bool g249)) K) ?_
                        exact kk [(85, .bool false), (84, .tuple #[]), (83, .tuple #[]), (82, .tuple #[])] _ ⟨.tuple #[], .tuple #[], .tuple #[], rfl, (by rw [g249, Bool.false_and])⟩
                · have h250 := ifF c184 h183
                  refine WP.exit ?_
                  refine sqE (sqE (blkE (blkN (sqN ?_))))
                  have h251 := exitS h250 e181
                  refine WP.ureg rfl ?_
                  refine U.p rfl rfl (.inl rfl) (S.add rfl (L 6 rfl rfl) K) ?_
                  refine U.p rfl rfl (.inl rfl) (S.move rfl (L 0 rfl rfl)) ?_
                  refine U.done (Nat.le_of_ble_eq_true rfl) ?_
                  refine sqN ?_
                  exact ⟨_, V176, rfl, ⟨m104, Nat.lt_succ_self _, xs171, w64 (x94 + 1), rfl, ((((((((le102.trans le126).trans le130).trans le134).trans le138).trans le146).trans le152).trans le159).trans le177), ow178, backS h251 e106⟩, (allCons (L 3 rfl rfl) (allCons (L 4 rfl rfl) (allCons (L 5 rfl rfl) (allCons (L 6 rfl rfl) (allCons (L 7 rfl rfl) (allCons (L 0 rfl rfl) allNil))))))⟩
            · skip
              refine WP.udreg rfl rfl rfl ?_
              refine U.p (v := .pointer (some ⟨b61, 0, none⟩)) rfl rfl (.inl rfl) (S.fieldAddr rfl (L 18 rfl rfl) Try.underlying25 rfl ti22 rfl rfl) ?_
              refine U.k rfl rfl (.inl rfl) (S.load rfl (L 0 rfl rfl) Try.underlying22 rfl ((ow153.own (k := 4) rfl).cell rfl)) (fun _ => (okH.nil (fun r h => by cases h; exact (ow153.own (k := 4) rfl).lt))) ?_
              refine U.p rfl rfl (.inl rfl) (S.move rfl (L 13 rfl rfl)) ?_
              obtain ⟨x252, hx253, h254⟩ := bindS h143
              obtain ⟨b255, o256, c257, cs258, hv259, hf260, hr261, hc262⟩ := f58.at hx253
              obtain ⟨v263, rfl, f264⟩ := hr261
              refine U.p rfl rfl (.inl rfl) (S.index rfl ((L 1 rfl rfl).trans hv259) (L 0 rfl rfl) Try.underlying22 ti33 (ix_ge hx253) (ix_lt hx253)) ?_
              refine U.k rfl rfl (.inl rfl) (S.loadN (cs := [.string x252.name, .int .i64 x252.params, .int .i64 x252.regs, v263]) rfl (L 0 rfl rfl) Try.underlying33 rfl ti33 rfl (fun j v hj => (((((((((le63.trans le67).trans le88).trans le102).trans le126).trans le130).trans le134).trans le138).trans le146).trans le152).cell hf260 (hc262 j v hj))) (fun _ => (okH.cons trivial (okH.nil (fun r h => by cases h; exact (V151.wf _ ((((((((((le63.trans le67).trans le88).trans le102).trans le126).trans le130).trans le134).trans le138).trans le146).trans le152).sub _ hf260)))))) ?_
              refine U.k rfl rfl (.inl rfl) (S.loadB rfl (L 14 rfl rfl) Try.underlying33 rfl ti33 (ow153.own (k := 1) rfl).get rfl) (fun _ => (okH.cons trivial (okH.cons trivial (okH.nil (fun r h => by cases h; exact (ow153.own (k := 1) rfl).lt))))) ?_
              have f265 := f264.up (((((((((le63.trans le67).trans le88).trans le102).trans le126).trans le130).trans le134).trans le138).trans le146).trans le152)
              obtain ⟨V266, eV270, le267, f268, ow269⟩ := ow153.osfz (k := 0) rfl
              rw [← eV270]
              have f271 := f265.up le267
              obtain ⟨x272, hx273, h274⟩ := bindS h254
              refine O.call (V := V266) rfl rfl (.inl rfl) rfl en9 (aC (L 1 rfl rfl) (aC (L 0 rfl rfl) aN)) (wk_ref11_Same V266 _ x252 (⟨x111.name, x111.params, x111.regs, x141⟩ : TFunc) v263 v144 f271 f268 ow269 _ hx273) (fun v275 V276 le277 hp278 => by obtain ⟨rfl, ow279⟩ := hp278; exact (fun _ => (okH.cons (Or.inl rfl) (okH.cons (Or.inl rfl) (okH.cons (Or.inl rfl) (okH.nil (fun r h => nomatch h))))))) (fun v275 V276 le277 hp278 => ?_)
              obtain ⟨rfl, ow279⟩ := hp278
              refine U.p rfl rfl (.inl rfl) (S.not rfl (L 0 rfl rfl)) ?_
              refine U.p rfl rfl (.inl rfl) (S.move rfl (L 0 rfl rfl)) ?_
              refine bcase (b := !x272) (fun g280 => ?_) (fun g280 => ?_)
              · have h281 := ifT g280 h274
                have k282 : x272 = false := by simpa using g280
                refine U.x rfl rfl rfl rfl ((L 0 rfl rfl).trans (congrArg Value.bool g280)) (by decide) ?_
                refine U.x rfl rfl rfl rfl ((L 1 rfl rfl).trans (congrArg Value.bool g280)) (by decide) ?_
                refine U.x rfl rfl rfl rfl ((L 2 rfl rfl).trans (congrArg Value.bool g280)) (by decide) ?_
                refine U.x rfl rfl rfl rfl ((L 3 rfl rfl).trans (congrArg Value.bool g280)) (by decide) ?_
                refine U.x rfl rfl rfl rfl ((L 4 rfl rfl).trans (congrArg Value.bool g280)) (by decide) ?_
                refine U.x rfl rfl rfl rfl ((L 5 rfl rfl).trans (congrArg Value.bool g280)) (by decide) ?_
                refine U.p rfl rfl (.inl rfl) (S.pickT rfl ((L 6 rfl rfl).trans (congrArg Value.bool g280)) K) ?_
                refine U.done (Nat.le_of_ble_eq_true rfl) ?_
                refine sqN ?_
                have ow283 := ow279.drop 1 rfl
                have ow284 := ow283.pick 0 rfl
                have ow285 := ow284.pick 3 rfl
                have ow286 := ow285.pick 3 rfl
                have ow287 := ow286.pick 3 rfl
                have f288 := f268.up le277
                exact ⟨_, V276, rfl, ⟨x141, v144, true, rfl, (le267.trans le277), f288, ow287, h281⟩, (allCons (L 33 rfl rfl) (allCons (L 34 rfl rfl) (allCons (L 35 rfl rfl) (allCons (L 25 rfl rfl) (allCons (L 36 rfl rfl) (allCons (L 37 rfl rfl) (allCons (L 38 rfl rfl) (allCons (L 0 rfl rfl) allNil))))))))⟩
              · have h289 := ifF g280 h274
                have k290 : x272 = true := by simpa using g280
                refine U.k rfl rfl (.inr ⟨_, _, _, rfl, rfl, ((L 0 rfl rfl).trans (congrArg Value.bool g280))⟩) (S.loadB rfl (L 21 rfl rfl) Try.underlying33 rfl ti33 (ow279.own (k := 1) rfl).get rfl) (fun _ => (okH.cons (Or.inl rfl) (okH.cons trivial (okH.cons trivial (okH.cons trivial (okH.nil (fun r h => by cases h; exact (ow279.own (k := 1) rfl).lt))))))) ?_
                refine U.k rfl rfl (.inr ⟨_, _, _, rfl, rfl, ((L 1 rfl rfl).trans (congrArg Value.bool g280))⟩) (S.loadB rfl (L 27 rfl rfl) Try.underlying27 rfl ti27 (ow279.own (k := 2) rfl).get rfl) (fun _ => (okH.cons trivial (okH.cons (Or.inl rfl) (okH.cons trivial (okH.cons trivial (okH.cons trivial (okH.nil (fun r h => by cases h; exact (ow279.own (k := 2) rfl).lt)))))))) ?_
                have f291 := f140.up (((le146.trans le152).trans le267).trans le277)
                obtain ⟨x292, hx293, h294⟩ := bindS h289
                refine O.call (V := V276) rfl rfl (.inr ⟨_, _, _, rfl, rfl, ((L 2 rfl rfl).trans (congrArg Value.bool g280))⟩) rfl en13 (aC (L 1 rfl rfl) (aC (L 0 rfl rfl) aN)) (wk_fence_Func V276 _ x111 p1 v122 f291 ow279 _ hx293) (fun v295 V296 le297 hp298 => by obtain ⟨v300, rfl, f301, ow299⟩ := hp298; exact (fun _ => (okH.cons (Or.inl rfl) (okH.cons (Or.inl rfl) (okH.cons rfl (okH.cons (Or.inl rfl) (okH.cons (Or.inl rfl) (okH.cons (Or.inl rfl) (okH.nil (fun r h => nomatch h)))))))))) (fun v295 V296 le297 hp298 => ?_)
                obtain ⟨v300, rfl, f301, ow299⟩ := hp298
                refine U.k rfl rfl (.inr ⟨_, _, _, rfl, rfl, ((L 3 rfl rfl).trans (congrArg Value.bool g280))⟩) (S.loadB rfl (L 21 rfl rfl) Try.underlying33 rfl ti33 (ow299.own (k := 0) rfl).get rfl) (fun _ => (okH.cons (Or.inr ((ow299.own (k := 0) rfl).get.trans (ow279.own (k := 0) rfl).get.symm)) (okH.cons trivial (okH.cons trivial (okH.cons (Or.inl rfl) (okH.cons trivial (okH.cons trivial (okH.cons trivial (okH.nil (fun r h => by cases h; exact (ow299.own (k := 0) rfl).lt)))))))))) ?_
                have f302 := f268.up (le277.trans le297)
                obtain ⟨x303, hx304, h305⟩ := bindS h294
                refine O.call (V := V296) rfl rfl (.inr ⟨_, _, _, rfl, rfl, ((L 4 rfl rfl).trans (congrArg Value.bool g280))⟩) rfl en9 (aC (L 1 rfl rfl) (aC (L 0 rfl rfl) aN)) (wk_ref11_Same V296 _ x292 (⟨x111.name, x111.params, x111.regs, x141⟩ : TFunc) v300 v144 f301 f302 ow299 _ hx304) (fun v306 V307 le308 hp309 => by obtain ⟨rfl, ow310⟩ := hp309; exact (fun _ => (okH.cons (Or.inl rfl) (okH.cons rfl (okH.cons (Or.inl rfl) (okH.cons (Or.inl rfl) (okH.cons rfl (okH.cons (Or.inl rfl) (okH.cons (Or.inl rfl) (okH.cons (Or.inl rfl) (okH.nil (fun r h => nomatch h)))))))))))) (fun v306 V307 le308 hp309 => ?_)
                obtain ⟨rfl, ow310⟩ := hp309
                refine U.p rfl rfl (.inr ⟨_, _, _, rfl, rfl, ((L 5 rfl rfl).trans (congrArg Value.bool g280))⟩) (S.not rfl (L 0 rfl rfl)) ?_
                refine U.p rfl rfl (.inl rfl) (S.pickF rfl ((L 6 rfl rfl).trans (congrArg Value.bool g280)) (L 0 rfl rfl)) ?_
                refine U.done (Nat.le_of_ble_eq_true rfl) ?_
                refine sqN ?_
                have ow311 := ow310.drop 1 rfl
                have ow312 := ow311.pick 0 rfl
                have ow313 := ow312.pick 3 rfl
                have ow314 := ow313.pick 3 rfl
                have ow315 := ow314.pick 3 rfl
                have f316 := f302.up le308
                exact ⟨_, V307, rfl, ⟨x141, v144, !x303, rfl, (((le267.trans le277).trans le297).trans le308), f316, ow315, h305⟩, (allCons (L 33 rfl rfl) (allCons (L 34 rfl rfl) (allCons (L 35 rfl rfl) (allCons (L 25 rfl rfl) (allCons (L 36 rfl rfl) (allCons (L 37 rfl rfl) (allCons (L 38 rfl rfl) (allCons (L 0 rfl rfl) allNil))))))))⟩
          · have h317 := ifF c109 h108
            refine WP.exit ?_
            refine sqE (sqE (blkE (sqN ?_)))
            have h318 := exitS h317 e106
            refine WP.seq ?_
            refine WP.usreg rfl ?_
            refine O.oaload (k := 2) ow103 rfl rfl rfl (.inl rfl) rfl (L 3 rfl rfl) Try.underlying38 rfl ti38 rfl (fun hlt320 => nd) (fun cs319 hlt320 hr321 hl323 => ?_)
            refine U.p rfl rfl (.inl rfl) (S.move rfl K) ?_
            refine U.done (Nat.le_of_ble_eq_true rfl) ?_
            refine WP.blk ?_
            have ow325 := ow103.drop 0 rfl
            have ow326 := ow325.drop 1 rfl
            unfold law12_FenceIs_l3 at h318
            obtain ⟨n328, hn327⟩ := loopO_some.1 h318
            refine WP.loopI2 (fun n l V' => ∃ (x324 : Int), l = [(5, .pointer (some ⟨b61, 0, none⟩)), (99, .agg (cs319).toArray), (100, .int .i64 x324)] ∧ V101.le V' ∧ Ow V' (.pt b61 (.cells 2 [v57, v59]) :: Rs) ∧ itO (fun s => law12_FenceIs_l3b x49 xs93 s) n x324 = some r) n328 _ ⟨0, rfl, .refl _, ow326, hn327⟩ (allCons (L 4 rfl rfl) (allCons (L 1 rfl rfl) (allCons (L 0 rfl rfl) allNil))) ?_
            rintro _ _ V329 ⟨x324, rfl, le330, ow331, h335⟩
            obtain ⟨m332, q333, rfl, h336, e334⟩ := itS h335
            replace h336 : law12_FenceIs_l3b x49 xs93 x324 = some q333 := h336
            unfold law12_FenceIs_l3b at h336
            refine WP.usreg rfl ?_
            refine U.p rfl rfl (.inl rfl) (S.lss rfl (L 2 rfl rfl) K) ?_
            refine U.done (Nat.le_of_ble_eq_true rfl) ?_
            refine WP.seq ?_
            refine WP.cond _ (L 0 rfl rfl) rfl (fun c337 => ?_) (fun c337 => ?_)
            · have h338 := ifT c337 h336
              refine WP.skip ?_
              refine sqN ?_
              refine WP.seq ?_
              refine WP.blk ?_
              refine WP.usreg rfl ?_
              refine U.p rfl rfl (.inl rfl) (S.move rfl (L 3 rfl rfl)) ?_
              obtain ⟨x339, hx340, h341⟩ := bindS h338
              refine O.indexV hr321 rfl rfl rfl (.inl rfl) rfl (L 3 rfl rfl) (L 4 rfl rfl) Try.underlying38 hl323 Try.underlying3 rfl ti3 hx340 (fun u342 hr343 => ?_)
              obtain rfl : u342 = .int .i64 x339 := (List.cons.inj hr343).1
              refine U.p rfl rfl (.inl rfl) (S.assign rfl (L 1 rfl rfl)) ?_
              refine U.p rfl rfl (.inl rfl) (S.assign rfl (L 1 rfl rfl)) ?_
              refine U.done (Nat.le_of_ble_eq_true rfl) ?_
              refine WP.usreg rfl ?_
              refine U.k rfl rfl (.inl rfl) (S.loadB rfl (L 5 rfl rfl) Try.underlying25 rfl ti25 (ow331.own (k := 0) rfl).get rfl) nd ?_
              refine U.p rfl rfl (.inl rfl) (S.move rfl (L 2 rfl rfl)) ?_
              have f345 := f58.up ((((le63.trans le67).trans le88).trans le102).trans le330)
              have f346 := f60.up ((((le63.trans le67).trans le88).trans le102).trans le330)
              obtain ⟨x347, hx348, h349⟩ := bindS h341
              refine O.call (V := V329) rfl rfl (.inl rfl) rfl en14 (aC (L 1 rfl rfl) (aC (L 0 rfl rfl) aN)) (wk_fence_Count V329 _ x49 x324 v57 v59 f345 f346 ow331 _ hx348) (fun _ _ _ _ => nd) (fun v350 V351 le352 hp353 => ?_)
              obtain ⟨rfl, ow354⟩ := hp353
              refine U.p rfl rfl (.inl rfl) (S.move rfl (L 3 rfl rfl)) ?_
              refine U.p rfl rfl (.inl rfl) (S.neqI rfl (L 1 rfl rfl) (L 0 rfl rfl)) ?_
              refine U.done (Nat.le_of_ble_eq_true rfl) ?_
              refine WP.cond _ (L 0 rfl rfl) rfl (fun c355 => ?_) (fun c355 => ?_)
              · have h356 := ifT c355 h349
                refine WP.usreg rfl ?_
                refine U.p rfl rfl (.inl rfl) (S.assign rfl K) ?_
                refine U.done (Nat.le_of_ble_eq_true rfl) ?_
                refine WP.ret ?_
                refine blkR (sqR (sqR (blkR (sqR ?_))))
                have h357 := exitS h356 e334
                refine fin.slot (.inr rfl) rfl (L 0 rfl rfl) ⟨V351, rfl, ((((((((((le7.trans le12).trans le20).trans le38).trans le54).trans le63).trans le67).trans le88).trans le102).trans le330).trans le352), ?_⟩
                have ow358 := ow354.drop 0 rfl
                have e359 := Option.some.inj h357
                subst e359
                exact ⟨rfl, ow358⟩
              · have h360 := ifF c355 h349
                refine WP.skip ?_
                refine blkN (sqN ?_)
                refine WP.ureg rfl ?_
                refine U.p rfl rfl (.inl rfl) (S.add rfl (L 12 rfl rfl) K) ?_
                refine U.p rfl rfl (.inl rfl) (S.move rfl (L 0 rfl rfl)) ?_
                refine U.done (Nat.le_of_ble_eq_true rfl) ?_
                refine sqN ?_
                exact ⟨_, V351, rfl, ⟨m332, Nat.lt_succ_self _, w64 (x324 + 1), rfl, (le330.trans le352), ow354, backS h360 e334⟩, (allCons (L 12 rfl rfl) (allCons (L 13 rfl rfl) (allCons (L 0 rfl rfl) allNil)))⟩
            · have h361 := ifF c337 h336
              refine WP.exit ?_
              refine sqE (sqE (blkE (sqN ?_)))
              have h362 := exitS h361 e334
              refine WP.usreg rfl ?_
              refine U.p rfl rfl (.inl rfl) (S.assign rfl K) ?_
              refine U.done (Nat.le_of_ble_eq_true rfl) ?_
              refine WP.ret ?_
              refine fin.slot (.inr rfl) rfl (L 0 rfl rfl) ⟨V329, rfl, (((((((((le7.trans le12).trans le20).trans le38).trans le54).trans le63).trans le67).trans le88).trans le102).trans le330), ?_⟩
              have ow363 := ow331.drop 0 rfl
              have e364 := Option.some.inj h362
              subst e364
              exact ⟨rfl, ow363⟩
      · intro kk
        refine bcase (b := decide ((x49.funcs.length : Int) ≠ (p0.funcs.length : Int))) (fun g365 => ?_) (fun g365 => ?_)
        · skip
          refine U.x rfl rfl rfl rfl ((L 0 rfl rfl).trans (congrArg Value.bool g365)) (by decide) ?_
          refine U.x rfl rfl rfl rfl ((L 1 rfl rfl).trans (congrArg Value.bool g365)) (by decide) ?_
          refine U.x rfl rfl rfl rfl ((L 2 rfl rfl).trans (congrArg Value.bool g365)) (by decide) ?_
          refine U.x rfl rfl rfl rfl ((L 3 rfl rfl).trans (congrArg Value.bool g365)) (by decide) ?_
          refine U.x rfl rfl rfl rfl ((L 4 rfl rfl).trans (congrArg Value.bool g365)) (by decide) ?_
          refine U.x rfl rfl rfl rfl ((L 5 rfl rfl).trans (congrArg Value.bool g365)) (by decide) ?_
          refine U.x rfl rfl rfl rfl ((L 6 rfl rfl).trans (congrArg Value.bool g365)) (by decide) ?_
          refine U.p rfl rfl (.inl rfl) (S.pickT rfl ((L 7 rfl rfl).trans (congrArg Value.bool g365)) K) ?_
          exact kk [(36, .bool true), (35, .tuple #[]), (34, .tuple #[]), (33, .tuple #[]), (32, .tuple #[]), (31, .tuple #[]), (30, .tuple #[]), (29, .tuple #[])] _ ⟨.tuple #[], .tuple #[], .tuple #[], .tuple #[], .tuple #[], .tuple #[], .tuple #[], rfl, (by rw [g365, Bool.true_or])⟩
        · skip
          refine U.p (v := .pointer (some ⟨b61, 1, none⟩)) rfl rfl (.inr ⟨_, _, _, rfl, rfl, ((L 0 rfl rfl).trans (congrArg Value.bool g365))⟩) (S.fieldAddr rfl (L 8 rfl rfl) Try.underlying25 rfl ti23 rfl rfl) ?_
          refine U.k rfl rfl (.inr ⟨_, _, _, rfl, rfl, ((L 1 rfl rfl).trans (congrArg Value.bool g365))⟩) (S.load rfl (L 0 rfl rfl) Try.underlying23 rfl ((ow68.own (k := 0) rfl).cell rfl)) nd ?_
          refine U.p rfl rfl (.inr ⟨_, _, _, rfl, rfl, ((L 2 rfl rfl).trans (congrArg Value.bool g365))⟩) (f60.1.len rfl (L 0 rfl rfl) Try.underlying23) ?_
          refine U.p (v := .pointer (some ⟨b5, 1, none⟩)) rfl rfl (.inr ⟨_, _, _, rfl, rfl, ((L 3 rfl rfl).trans (congrArg Value.bool g365))⟩) (S.fieldAddr rfl (L 21 rfl rfl) Try.underlying25 rfl ti23 rfl rfl) ?_
          refine U.k rfl rfl (.inr ⟨_, _, _, rfl, rfl, ((L 4 rfl rfl).trans (congrArg Value.bool g365))⟩) (S.load rfl (L 0 rfl rfl) Try.underlying23 rfl ((ow68.own (k := 2) rfl).cell rfl)) nd ?_
          refine U.p rfl rfl (.inr ⟨_, _, _, rfl, rfl, ((L 5 rfl rfl).trans (congrArg Value.bool g365))⟩) (f48.1.len rfl (L 0 rfl rfl) Try.underlying23) ?_
          refine U.p rfl rfl (.inr ⟨_, _, _, rfl, rfl, ((L 6 rfl rfl).trans (congrArg Value.bool g365))⟩) (S.neqI rfl (L 3 rfl rfl) (L 0 rfl rfl)) ?_
          refine U.p rfl rfl (.inl rfl) (S.pickF rfl ((L 7 rfl rfl).trans (congrArg Value.bool g365)) (L 0 rfl rfl)) ?_
          exact kk [(36, .bool (decide ((x49.threads.length : Int) ≠ (p0.threads.length : Int)))), (35, .bool (decide ((x49.threads.length : Int) ≠ (p0.threads.length : Int)))), (34, .int .i64 (p0.threads.length : Int)), (33, v3), (32, .pointer (some ⟨b5, 1, none⟩)), (31, .int .i64 (x49.threads.length : Int)), (30, v59), (29, .pointer (some ⟨b61, 1, none⟩))] _ ⟨.bool (decide ((x49.threads.length : Int) ≠ (p0.threads.length : Int))), .int .i64 (p0.threads.length : Int), v3, .pointer (some ⟨b5, 1, none⟩), .int .i64 (x49.threads.length : Int), v59, .pointer (some ⟨b61, 1, none⟩), rfl, (by rw [g365, Bool.false_or])⟩

end Go.Vm.G12
