/-
  What the functions compute is what the plain ones say, for all inputs at which those answer.
-/
import Derived.Test.YtllkfanfdbnogaaEWG10s
set_option linter.unusedSimpArgs false
set_option linter.unusedVariables false
namespace Go.Vm.G10s
open Go Go.Proofs

set_option maxHeartbeats 4000000 in
set_option maxRecDepth 10000 in
theorem wk_law10_great (V : Vw) (Rs : List At) (p0 : TFunc) (v1 : Value) (f2 : Fz RT_TIns V v1 p0.code) (ow : Ow V (Rs)) (r : Bool) (h : law10_great p0 = some r) : ∃ v V', Cl Try.prog 0 9 #[.agg #[.string p0.name, .int .i64 p0.params, .int .i64 p0.regs, v1]] V.H v V'.H ∧ V.le V' ∧ (v = .bool r ∧ Ow V' (Rs)) := by
  refine Ct.of (Nat.zero_le _) Try.func9 rfl (Nat.le_of_ble_eq_true rfl) ?_
  unfold law10_great at h
  refine WP.usreg rfl ?_
  refine O.box ow rfl rfl (.inl rfl) rfl (L 0 rfl rfl) (by simp [topV]) rfl nd (fun b3 V4 le5 ow6 => ?_)
  refine U.p rfl rfl (.inl rfl) (S.assign rfl K) ?_
  refine U.done (Nat.le_of_ble_eq_true rfl) ?_
  refine WP.seq ?_
  refine WP.usreg rfl ?_
  refine U.p (v := .pointer (some ⟨b3, 3, none⟩)) rfl rfl (.inl rfl) (S.fieldAddr rfl (L 1 rfl rfl) Try.underlying24 rfl ti22 rfl rfl) ?_
  refine U.k rfl rfl (.inl rfl) (S.load rfl (L 0 rfl rfl) Try.underlying22 rfl ((ow6.own (k := 0) rfl).cell rfl)) nd ?_
  refine U.p rfl rfl (.inl rfl) (f2.1.len rfl (L 0 rfl rfl) Try.underlying22) ?_
  refine U.p rfl rfl (.inl rfl) (S.move rfl K) ?_
  refine U.done (Nat.le_of_ble_eq_true rfl) ?_
  refine WP.blk ?_
  unfold law10_great_l1 at h
  obtain ⟨n10, hn9⟩ := loopO_some.1 h
  refine WP.loopI2 (fun n l V' => ∃ (x8 : Int), l = [(1, .pointer (some ⟨b3, 0, none⟩)), (6, v1), (7, .int .i64 (p0.code.length : Int)), (8, .int .i64 x8)] ∧ V4.le V' ∧ Ow V' (.pt b3 (.cells 0 [.string p0.name, .int .i64 p0.params, .int .i64 p0.regs, v1]) :: Rs) ∧ itO (fun s => law10_great_l1b p0 s) n x8 = some r) n10 _ ⟨0, rfl, .refl _, ow6, hn9⟩ (allCons (L 5 rfl rfl) (allCons (L 2 rfl rfl) (allCons (L 1 rfl rfl) (allCons (L 0 rfl rfl) allNil)))) ?_
  rintro _ _ V11 ⟨x8, rfl, le12, ow13, h17⟩
  obtain ⟨m14, q15, rfl, h18, e16⟩ := itS h17
  replace h18 : law10_great_l1b p0 x8 = some q15 := h18
  unfold law10_great_l1b at h18
  refine WP.usreg rfl ?_
  refine U.p rfl rfl (.inl rfl) (S.lss rfl (L 3 rfl rfl) (L 2 rfl rfl)) ?_
  refine U.done (Nat.le_of_ble_eq_true rfl) ?_
  refine WP.seq ?_
  refine WP.cond _ (L 0 rfl rfl) rfl (fun c19 => ?_) (fun c19 => ?_)
  · have h20 := ifT c19 h18
    refine WP.skip ?_
    refine sqN ?_
    refine WP.seq ?_
    refine WP.blk ?_
    refine WP.usreg rfl ?_
    obtain ⟨x21, hx22, h23⟩ := bindS h20
    obtain ⟨b24, o25, c26, cs27, hv28, hf29, hr30, hc31⟩ := f2.at hx22
    obtain ⟨v32, rfl, f33⟩ := hr30
    refine U.p rfl rfl (.inl rfl) (S.index rfl ((L 2 rfl rfl).trans hv28) (L 4 rfl rfl) Try.underlying22 ti33 (ix_ge hx22) (ix_lt hx22)) ?_
    refine U.k rfl rfl (.inl rfl) (S.loadN (cs := [.int .i64 x21.op, .int .i64 x21.d, .int .i64 x21.a, .int .i64 x21.b, .int .i64 x21.imm, v32, .int .i64 x21.what, .bool x21.volatile, .bool x21.final]) rfl (L 0 rfl rfl) Try.underlying33 rfl ti33 rfl (fun j v hj => (le5.trans le12).cell hf29 (hc31 j v hj))) nd ?_
    refine O.alloc ow13 rfl rfl (.inl rfl) rfl ti33 rfl rfl nd (fun b34 V35 le36 ow37 => ?_)
    refine O.store (k := 0) (cs := [.int .i64 x21.op, .int .i64 x21.d, .int .i64 x21.a, .int .i64 x21.b, .int .i64 x21.imm, v32, .int .i64 x21.what, .bool x21.volatile, .bool x21.final]) (c' := [.int .i64 x21.op, .int .i64 x21.d, .int .i64 x21.a, .int .i64 x21.b, .int .i64 x21.imm, v32, .int .i64 x21.what, .bool x21.volatile, .bool x21.final]) ow37 rfl rfl rfl (.inl rfl) rfl (L 0 rfl rfl) (L 1 rfl rfl) ti33 (by simp [topV]) rfl rfl (Nat.le_of_ble_eq_true rfl) (by have q0 := f33.one; simp only [List.all_cons, List.all_nil, q0]; rfl) rfl nd (fun V39 le40 ow41 => ?_)
    refine U.done (Nat.le_of_ble_eq_true rfl) ?_
    refine WP.usreg rfl ?_
    refine U.p (v := .pointer (some ⟨b34, 5, none⟩)) rfl rfl (.inl rfl) (S.fieldAddr rfl (L 0 rfl rfl) Try.underlying33 rfl ti31 rfl rfl) ?_
    refine U.k rfl rfl (.inl rfl) (S.load rfl (L 0 rfl rfl) Try.underlying31 rfl ((ow41.own (k := 0) rfl).cell rfl)) nd ?_
    refine U.p rfl rfl (.inl rfl) (f33.1.len rfl (L 0 rfl rfl) Try.underlying31) ?_
    refine U.p rfl rfl (.inl rfl) (S.gtr rfl (L 0 rfl rfl) K) ?_
    refine U.done (Nat.le_of_ble_eq_true rfl) ?_
    refine WP.cond _ (L 0 rfl rfl) rfl (fun c42 => ?_) (fun c42 => ?_)
    · have h43 := ifT c42 h23
      refine WP.usreg rfl ?_
      refine U.p rfl rfl (.inl rfl) (S.assign rfl K) ?_
      refine U.done (Nat.le_of_ble_eq_true rfl) ?_
      refine WP.ret ?_
      refine blkR (sqR (sqR (blkR (sqR ?_))))
      have h44 := exitS h43 e16
      refine fin.slot (.inr rfl) rfl (L 0 rfl rfl) ⟨V39, rfl, (((le5.trans le12).trans le36).trans le40), ?_⟩
      have ow45 := ow41.drop 0 rfl
      have ow46 := ow45.drop 0 rfl
      have e47 := Option.some.inj h44
      subst e47
      exact ⟨rfl, ow46⟩
    · have h48 := ifF c42 h23
      refine WP.skip ?_
      refine blkN (sqN ?_)
      refine WP.ureg rfl ?_
      refine U.p rfl rfl (.inl rfl) (S.add rfl (L 11 rfl rfl) K) ?_
      refine U.p rfl rfl (.inl rfl) (S.move rfl (L 0 rfl rfl)) ?_
      refine U.done (Nat.le_of_ble_eq_true rfl) ?_
      refine sqN ?_
      have ow49 := ow41.drop 0 rfl
      exact ⟨_, V39, rfl, ⟨m14, Nat.lt_succ_self _, w64 (x8 + 1), rfl, ((le12.trans le36).trans le40), ow49, backS h48 e16⟩, (allCons (L 10 rfl rfl) (allCons (L 11 rfl rfl) (allCons (L 12 rfl rfl) (allCons (L 0 rfl rfl) allNil))))⟩
  · have h50 := ifF c19 h18
    refine WP.exit ?_
    refine sqE (sqE (blkE (sqN ?_)))
    have h51 := exitS h50 e16
    refine WP.usreg rfl ?_
    refine U.p (v := .pointer (some ⟨b3, 3, none⟩)) rfl rfl (.inl rfl) (S.fieldAddr rfl (L 1 rfl rfl) Try.underlying24 rfl ti22 rfl rfl) ?_
    refine U.k rfl rfl (.inl rfl) (S.load rfl (L 0 rfl rfl) Try.underlying22 rfl ((ow13.own (k := 0) rfl).cell rfl)) nd ?_
    refine U.p rfl rfl (.inl rfl) (f2.1.len rfl (L 0 rfl rfl) Try.underlying22) ?_
    refine U.p rfl rfl (.inl rfl) (S.gtr rfl (L 0 rfl rfl) K) ?_
    refine U.p rfl rfl (.inl rfl) (S.move rfl (L 0 rfl rfl)) ?_
    refine U.joinX 9 (fun e H => ∃ (u52 u53 u54 : Value), H = V11.H ∧ e = [(25, .bool ((decide (40 < (p0.code.length : Int))) || (decide (12 < p0.regs)))), (24, u52), (23, u53), (22, u54)]) ?_ ?_
    · rintro _ _ ⟨u52, u53, u54, rfl, rfl⟩
      refine U.p rfl rfl (.inl rfl) (S.move rfl (L 0 rfl rfl)) ?_
      obtain ⟨y58, hy59, h60⟩ := bindS h51
      refine U.joinX 14 (fun e H => ∃ (u61 u62 u63 : Value), ∃ V' : Vw, H = V'.H ∧ V11.le V' ∧ e = [(30, .bool y58), (29, u61), (28, u62), (27, u63)] ∧ Ow V' (.pt b3 (.cells 0 [.string p0.name, .int .i64 p0.params, .int .i64 p0.regs, v1]) :: Rs)) ?_ ?_
      · rintro _ _ ⟨u61, u62, u63, V64, rfl, le65, rfl, ow66⟩
        refine U.p rfl rfl (.inl rfl) (S.assign rfl (L 0 rfl rfl)) ?_
        refine U.done (Nat.le_of_ble_eq_true rfl) ?_
        refine WP.ret ?_
        refine fin.slot (.inr rfl) rfl (L 0 rfl rfl) ⟨V64, rfl, ((le5.trans le12).trans le65), ?_⟩
        have ow67 := ow66.drop 0 rfl
        have e68 := Option.some.inj h60
        subst e68
        exact ⟨rfl, ow67⟩
      · intro kk
        refine bcase (b := (decide (40 < (p0.code.length : Int))) || (decide (12 < p0.regs))) (fun g69 => ?_) (fun g69 => ?_)
        · have h70 := ifT g69 hy59
          refine U.x rfl rfl rfl rfl ((L 0 rfl rfl).trans (congrArg Value.bool g69)) (by decide) ?_
          refine U.x rfl rfl rfl rfl ((L 1 rfl rfl).trans (congrArg Value.bool g69)) (by decide) ?_
          refine U.x rfl rfl rfl rfl ((L 2 rfl rfl).trans (congrArg Value.bool g69)) (by decide) ?_
          refine U.p rfl rfl (.inl rfl) (S.pickT rfl ((L 3 rfl rfl).trans (congrArg Value.bool g69)) K) ?_
          have e71 := Option.some.inj h70
          subst e71
          exact kk [(30, .bool true), (29, .tuple #[]), (28, .tuple #[]), (27, .tuple #[])] _ ⟨.tuple #[], .tuple #[], .tuple #[], V11, rfl, (.refl _), rfl, ow13⟩
        · have h72 := ifF g69 hy59
          refine U.k rfl rfl (.inr ⟨_, _, _, rfl, rfl, ((L 0 rfl rfl).trans (congrArg Value.bool g69))⟩) (S.loadB rfl (L 11 rfl rfl) Try.underlying24 rfl ti24 (ow13.own (k := 0) rfl).get rfl) nd ?_
          have f73 := f2.up (le5.trans le12)
          obtain ⟨x74, hx75, h76⟩ := bindS h72
          refine O.call (V := V11) rfl rfl (.inr ⟨_, _, _, rfl, rfl, ((L 1 rfl rfl).trans (congrArg Value.bool g69))⟩) rfl en20 (aC (L 0 rfl rfl) aN) (wk_ref08_Good V11 _ p0 v1 f73 ow13 _ hx75) (fun _ _ _ _ => nd) (fun v77 V78 le79 hp80 => ?_)
          obtain ⟨rfl, ow81⟩ := hp80
          refine U.p rfl rfl (.inr ⟨_, _, _, rfl, rfl, ((L 2 rfl rfl).trans (congrArg Value.bool g69))⟩) (S.not rfl (L 0 rfl rfl)) ?_
          refine U.p rfl rfl (.inl rfl) (S.pickF rfl ((L 3 rfl rfl).trans (congrArg Value.bool g69)) (L 0 rfl rfl)) ?_
          have e82 := Option.some.inj h76
          subst e82
          exact kk [(30, .bool (!x74)), (29, .bool (!x74)), (28, .bool x74), (27, .agg #[.string p0.name, .int .i64 p0.params, .int .i64 p0.regs, v1])] _ ⟨.bool (!x74), .bool x74, .agg #[.string p0.name, .int .i64 p0.params, .int .i64 p0.regs, v1], V78, rfl, le79, rfl, ow81⟩
    · intro kk
      refine bcase (b := decide (40 < (p0.code.length : Int))) (fun g83 => ?_) (fun g83 => ?_)
      · skip
        refine U.x rfl rfl rfl rfl ((L 0 rfl rfl).trans (congrArg Value.bool g83)) (by decide) ?_
        refine U.x rfl rfl rfl rfl ((L 1 rfl rfl).trans (congrArg Value.bool g83)) (by decide) ?_
        refine U.x rfl rfl rfl rfl ((L 2 rfl rfl).trans (congrArg Value.bool g83)) (by decide) ?_
        refine U.p rfl rfl (.inl rfl) (S.pickT rfl ((L 3 rfl rfl).trans (congrArg Value.bool g83)) K) ?_
        exact kk [(25, .bool true), (24, .tuple #[]), (23, .tuple #[]), (22, .tuple #[])] _ ⟨.tuple #[], .tuple #[], .tuple #[], rfl, (by rw [g83, Bool.true_or])⟩
      · skip
        refine U.p (v := .pointer (some ⟨b3, 2, none⟩)) rfl rfl (.inr ⟨_, _, _, rfl, rfl, ((L 0 rfl rfl).trans (congrArg Value.bool g83))⟩) (S.fieldAddr rfl (L 6 rfl rfl) Try.underlying24 rfl ti3 rfl rfl) ?_
        refine U.k rfl rfl (.inr ⟨_, _, _, rfl, rfl, ((L 1 rfl rfl).trans (congrArg Value.bool g83))⟩) (S.load rfl (L 0 rfl rfl) Try.underlying3 rfl ((ow13.own (k := 0) rfl).cell rfl)) nd ?_
        refine U.p rfl rfl (.inr ⟨_, _, _, rfl, rfl, ((L 2 rfl rfl).trans (congrArg Value.bool g83))⟩) (S.gtr rfl (L 0 rfl rfl) K) ?_
        refine U.p rfl rfl (.inl rfl) (S.pickF rfl ((L 3 rfl rfl).trans (congrArg Value.bool g83)) (L 0 rfl rfl)) ?_
        exact kk [(25, .bool (decide (12 < p0.regs))), (24, .bool (decide (12 < p0.regs))), (23, .int .i64 p0.regs), (22, .pointer (some ⟨b3, 2, none⟩))] _ ⟨.bool (decide (12 < p0.regs)), .int .i64 p0.regs, .pointer (some ⟨b3, 2, none⟩), rfl, (by rw [g83, Bool.false_or])⟩

set_option maxHeartbeats 4000000 in
set_option maxRecDepth 10000 in
theorem wk_flow_grow_c1 (V : Vw) (Rs : List At) (p0 : Tflow_Span) (p1 : Int) (b1 : Nat) (z2 : Nat) (ow : Ow V (.pt b1 (.cells z2 [.int .i64 p1]) :: Rs)) (r : Bool) (h : flow_grow_c1 p0 p1 = some r) : ∃ v V', Cl Try.prog 0 36 #[.agg #[.int .i64 p0.reg, .int .i64 p0.from_, .int .i64 p0.to_], .pointer (some ⟨b1, 0, none⟩)] V.H v V'.H ∧ V.le V' ∧ (v = .bool r ∧ Ow V' (.pt b1 (.cells z2 [.int .i64 p1]) :: Rs)) := by
  refine Ct.of (Nat.zero_le _) Try.func36 rfl (Nat.le_of_ble_eq_true rfl) ?_
  unfold flow_grow_c1 at h
  refine WP.usreg rfl ?_
  refine O.box ow rfl rfl (.inl rfl) rfl (L 0 rfl rfl) (by simp [topV]) rfl nd (fun b4 V5 le6 ow7 => ?_)
  refine U.p rfl rfl (.inl rfl) (S.assign rfl K) ?_
  refine U.done (Nat.le_of_ble_eq_true rfl) ?_
  refine WP.usreg rfl ?_
  refine U.p (v := .pointer (some ⟨b4, 0, none⟩)) rfl rfl (.inl rfl) (S.fieldAddr rfl (L 1 rfl rfl) Try.underlying44 rfl ti3 rfl rfl) ?_
  refine U.k rfl rfl (.inl rfl) (S.load rfl (L 0 rfl rfl) Try.underlying3 rfl ((ow7.own (k := 0) rfl).cell rfl)) nd ?_
  refine U.k rfl rfl (.inl rfl) (S.load rfl (L 5 rfl rfl) Try.underlying3 rfl ((ow7.own (k := 1) rfl).cell rfl)) nd ?_
  refine U.p rfl rfl (.inl rfl) (S.eqlI rfl (L 1 rfl rfl) (L 0 rfl rfl)) ?_
  refine U.p rfl rfl (.inl rfl) (S.assign rfl (L 0 rfl rfl)) ?_
  refine U.done (Nat.le_of_ble_eq_true rfl) ?_
  refine WP.ret ?_
  refine fin.slot (.inr rfl) rfl (L 0 rfl rfl) ⟨V5, rfl, le6, ?_⟩
  have ow9 := ow7.drop 0 rfl
  have e10 := Option.some.inj h
  subst e10
  exact ⟨rfl, ow9⟩

set_option maxHeartbeats 4000000 in
set_option maxRecDepth 10000 in
theorem wk_slices_IndexFunc_2 (V : Vw) (Rs : List At) (p0 : List Tflow_Span) (p1_10 : Int) (v1 : Value) (b3 : Nat) (z4 : Nat) (f2 : Fz RT_Tflow_Span V v1 p0) (ow : Ow V (.pt b3 (.cells z4 [.int .i64 p1_10]) :: Rs)) (r : Int) (h : slices_IndexFunc_2 p0 p1_10 = some r) : ∃ v V', Cl Try.prog 0 35 #[v1, .func (.func 36) #[] #[.pointer (some ⟨b3, 0, none⟩)]] V.H v V'.H ∧ V.le V' ∧ (v = .int .i64 r ∧ Ow V' (.pt b3 (.cells z4 [.int .i64 p1_10]) :: Rs)) := by
  refine Ct.of (Nat.zero_le _) Try.func35 rfl (Nat.le_of_ble_eq_true rfl) ?_
  unfold slices_IndexFunc_2 at h
  refine WP.usreg rfl ?_
  refine U.p rfl rfl (.inl rfl) (S.assign rfl K) ?_
  refine U.done (Nat.le_of_ble_eq_true rfl) ?_
  refine WP.seq ?_
  refine WP.usreg rfl ?_
  refine U.p rfl rfl (.inl rfl) (S.move rfl (L 1 rfl rfl)) ?_
  refine U.p rfl rfl (.inl rfl) (f2.1.len rfl (L 0 rfl rfl) Try.underlying39) ?_
  refine U.p rfl rfl (.inl rfl) (S.move rfl K) ?_
  refine U.done (Nat.le_of_ble_eq_true rfl) ?_
  refine WP.blk ?_
  unfold slices_IndexFunc_2_l1 at h
  obtain ⟨n8, hn7⟩ := loopO_some.1 h
  refine WP.loopI2 (fun n l V' => ∃ (x6 : Int), l = [(0, v1), (1, .func (.func 36) #[] #[.pointer (some ⟨b3, 0, none⟩)]), (7, .int .i64 (p0.length : Int)), (8, .int .i64 x6)] ∧ V.le V' ∧ Ow V' (.pt b3 (.cells z4 [.int .i64 p1_10]) :: Rs) ∧ itO (fun s => slices_IndexFunc_2_l1b p0 p1_10 s) n x6 = some r) n8 _ ⟨0, rfl, .refl _, ow, hn7⟩ (allCons (L 4 rfl rfl) (allCons (L 5 rfl rfl) (allCons (L 1 rfl rfl) (allCons (L 0 rfl rfl) allNil)))) ?_
  rintro _ _ V9 ⟨x6, rfl, le10, ow11, h15⟩
  obtain ⟨m12, q13, rfl, h16, e14⟩ := itS h15
  replace h16 : slices_IndexFunc_2_l1b p0 p1_10 x6 = some q13 := h16
  unfold slices_IndexFunc_2_l1b at h16
  refine WP.usreg rfl ?_
  refine U.p rfl rfl (.inl rfl) (S.lss rfl (L 3 rfl rfl) (L 2 rfl rfl)) ?_
  refine U.done (Nat.le_of_ble_eq_true rfl) ?_
  refine WP.seq ?_
  refine WP.cond _ (L 0 rfl rfl) rfl (fun c17 => ?_) (fun c17 => ?_)
  · have h18 := ifT c17 h16
    refine WP.skip ?_
    refine sqN ?_
    refine WP.seq ?_
    refine WP.blk ?_
    refine WP.usreg rfl ?_
    refine U.p rfl rfl (.inl rfl) (S.move rfl (L 4 rfl rfl)) ?_
    refine U.p rfl rfl (.inl rfl) (S.assign rfl (L 0 rfl rfl)) ?_
    refine U.done (Nat.le_of_ble_eq_true rfl) ?_
    refine WP.usreg rfl ?_
    refine U.p rfl rfl (.inl rfl) (S.move rfl (L 4 rfl rfl)) ?_
    refine U.p rfl rfl (.inl rfl) (S.move rfl (L 4 rfl rfl)) ?_
    refine U.p rfl rfl (.inl rfl) (S.move rfl (L 2 rfl rfl)) ?_
    obtain ⟨x19, hx20, h21⟩ := bindS h18
    obtain ⟨b22, o23, c24, cs25, hv26, hf27, hr28, hc29⟩ := f2.at hx20
    obtain rfl : cs25 = [.int .i64 x19.reg, .int .i64 x19.from_, .int .i64 x19.to_] := hr28
    refine U.p rfl rfl (.inl rfl) (S.index rfl ((L 1 rfl rfl).trans hv26) (L 0 rfl rfl) Try.underlying39 ti44 (ix_ge hx20) (ix_lt hx20)) ?_
    refine U.k rfl rfl (.inl rfl) (S.loadN (cs := [.int .i64 x19.reg, .int .i64 x19.from_, .int .i64 x19.to_]) rfl (L 0 rfl rfl) Try.underlying44 rfl ti44 rfl (fun j v hj => le10.cell hf27 (hc29 j v hj))) nd ?_
    obtain ⟨x30, hx31, h32⟩ := bindS h21
    refine O.callv (V := V9) rfl rfl (.inl rfl) rfl (L 4 rfl rfl) en36 (aC (L 0 rfl rfl) aN) (wk_flow_grow_c1 V9 _ x19 p1_10 b3 z4 ow11 _ hx31) (fun _ _ _ _ => nd) (fun v33 V34 le35 hp36 => ?_)
    obtain ⟨rfl, ow37⟩ := hp36
    refine U.done (Nat.le_of_ble_eq_true rfl) ?_
    refine WP.cond _ (L 0 rfl rfl) rfl (fun c38 => ?_) (fun c38 => ?_)
    · have h39 := ifT c38 h32
      refine WP.usreg rfl ?_
      refine U.p rfl rfl (.inl rfl) (S.move rfl (L 6 rfl rfl)) ?_
      refine U.p rfl rfl (.inl rfl) (S.assign rfl (L 0 rfl rfl)) ?_
      refine U.done (Nat.le_of_ble_eq_true rfl) ?_
      refine WP.ret ?_
      refine blkR (sqR (sqR (blkR (sqR ?_))))
      have h40 := exitS h39 e14
      refine fin.slot (.inr rfl) rfl (L 0 rfl rfl) ⟨V34, rfl, (le10.trans le35), ?_⟩
      have e41 := Option.some.inj h40
      subst e41
      exact ⟨rfl, ow37⟩
    · have h42 := ifF c38 h32
      refine WP.skip ?_
      refine blkN (sqN ?_)
      refine WP.ureg rfl ?_
      refine U.p rfl rfl (.inl rfl) (S.add rfl (L 12 rfl rfl) K) ?_
      refine U.p rfl rfl (.inl rfl) (S.move rfl (L 0 rfl rfl)) ?_
      refine U.done (Nat.le_of_ble_eq_true rfl) ?_
      refine sqN ?_
      exact ⟨_, V34, rfl, ⟨m12, Nat.lt_succ_self _, w64 (x6 + 1), rfl, (le10.trans le35), ow37, backS h42 e14⟩, (allCons (L 11 rfl rfl) (allCons (L 12 rfl rfl) (allCons (L 13 rfl rfl) (allCons (L 0 rfl rfl) allNil))))⟩
  · have h43 := ifF c17 h16
    refine WP.exit ?_
    refine sqE (sqE (blkE (sqN ?_)))
    have h44 := exitS h43 e14
    refine WP.usreg rfl ?_
    refine U.p rfl rfl (.inl rfl) (S.assign rfl K) ?_
    refine U.done (Nat.le_of_ble_eq_true rfl) ?_
    refine WP.ret ?_
    refine fin.slot (.inr rfl) rfl (L 0 rfl rfl) ⟨V9, rfl, le10, ?_⟩
    have e45 := Option.some.inj h44
    subst e45
    exact ⟨rfl, ow11⟩

set_option maxHeartbeats 4000000 in
set_option maxRecDepth 10000 in
theorem wk_slices_IndexFunc_3 (V : Vw) (Rs : List At) (p0 : List Tflow_Span) (p1_10 : Int) (v1 : Value) (b3 : Nat) (z4 : Nat) (ow : Ow V (.os RT_Tflow_Span v1 p0 :: .pt b3 (.cells z4 [.int .i64 p1_10]) :: Rs)) (r : Int) (h : slices_IndexFunc_3 p0 p1_10 = some r) : ∃ v V', Cl Try.prog 0 35 #[v1, .func (.func 36) #[] #[.pointer (some ⟨b3, 0, none⟩)]] V.H v V'.H ∧ V.le V' ∧ (v = .int .i64 r ∧ Ow V' (.os RT_Tflow_Span v1 p0 :: .pt b3 (.cells z4 [.int .i64 p1_10]) :: Rs)) := by
  refine Ct.of (Nat.zero_le _) Try.func35 rfl (Nat.le_of_ble_eq_true rfl) ?_
  unfold slices_IndexFunc_3 at h
  refine WP.usreg rfl ?_
  refine U.p rfl rfl (.inl rfl) (S.assign rfl K) ?_
  refine U.done (Nat.le_of_ble_eq_true rfl) ?_
  refine WP.seq ?_
  refine WP.usreg rfl ?_
  refine U.p rfl rfl (.inl rfl) (S.move rfl (L 1 rfl rfl)) ?_
  refine U.p rfl rfl (.inl rfl) (ow.oslen (k := 0) rfl rfl (L 0 rfl rfl) Try.underlying39) ?_
  refine U.p rfl rfl (.inl rfl) (S.move rfl K) ?_
  refine U.done (Nat.le_of_ble_eq_true rfl) ?_
  refine WP.blk ?_
  unfold slices_IndexFunc_3_l1 at h
  obtain ⟨n8, hn7⟩ := loopO_some.1 h
  refine WP.loopI2 (fun n l V' => ∃ (x6 : Int), l = [(0, v1), (1, .func (.func 36) #[] #[.pointer (some ⟨b3, 0, none⟩)]), (7, .int .i64 (p0.length : Int)), (8, .int .i64 x6)] ∧ V.le V' ∧ Ow V' (.os RT_Tflow_Span v1 p0 :: .pt b3 (.cells z4 [.int .i64 p1_10]) :: Rs) ∧ itO (fun s => slices_IndexFunc_3_l1b p0 p1_10 s) n x6 = some r) n8 _ ⟨0, rfl, .refl _, ow, hn7⟩ (allCons (L 4 rfl rfl) (allCons (L 5 rfl rfl) (allCons (L 1 rfl rfl) (allCons (L 0 rfl rfl) allNil)))) ?_
  rintro _ _ V9 ⟨x6, rfl, le10, ow11, h15⟩
  obtain ⟨m12, q13, rfl, h16, e14⟩ := itS h15
  replace h16 : slices_IndexFunc_3_l1b p0 p1_10 x6 = some q13 := h16
  unfold slices_IndexFunc_3_l1b at h16
  refine WP.usreg rfl ?_
  refine U.p rfl rfl (.inl rfl) (S.lss rfl (L 3 rfl rfl) (L 2 rfl rfl)) ?_
  refine U.done (Nat.le_of_ble_eq_true rfl) ?_
  refine WP.seq ?_
  refine WP.cond _ (L 0 rfl rfl) rfl (fun c17 => ?_) (fun c17 => ?_)
  · have h18 := ifT c17 h16
    refine WP.skip ?_
    refine sqN ?_
    refine WP.seq ?_
    refine WP.blk ?_
    refine WP.usreg rfl ?_
    refine U.p rfl rfl (.inl rfl) (S.move rfl (L 4 rfl rfl)) ?_
    refine U.p rfl rfl (.inl rfl) (S.assign rfl (L 0 rfl rfl)) ?_
    refine U.done (Nat.le_of_ble_eq_true rfl) ?_
    refine WP.usreg rfl ?_
    refine U.p rfl rfl (.inl rfl) (S.move rfl (L 4 rfl rfl)) ?_
    refine U.p rfl rfl (.inl rfl) (S.move rfl (L 4 rfl rfl)) ?_
    refine U.p rfl rfl (.inl rfl) (S.move rfl (L 2 rfl rfl)) ?_
    obtain ⟨x19, hx20, h21⟩ := bindS h18
    obtain ⟨b22, o23, n24, c25, hv26⟩ := ow11.ospt (k := 0) rfl hx20
    obtain ⟨_, hv27, _⟩ := ow11.osel (k := 0) rfl hv26 hx20
    refine U.p rfl rfl (.inl rfl) (S.index rfl ((L 1 rfl rfl).trans hv27) (L 0 rfl rfl) Try.underlying39 ti44 (ix_ge hx20) (ix_lt hx20)) ?_
    obtain ⟨cs28, hv29, hlt30, hr31, hc32⟩ := ow11.osel (k := 0) rfl hv26 hx20
    obtain rfl : cs28 = [.int .i64 x19.reg, .int .i64 x19.from_, .int .i64 x19.to_] := hr31
    refine U.k rfl rfl (.inl rfl) (S.loadN (cs := [.int .i64 x19.reg, .int .i64 x19.from_, .int .i64 x19.to_]) rfl (L 0 rfl rfl) Try.underlying44 rfl ti44 rfl hc32) nd ?_
    have ow33 := ow11.pick 1 rfl
    obtain ⟨x34, hx35, h36⟩ := bindS h21
    refine O.callv (V := V9) rfl rfl (.inl rfl) rfl (L 4 rfl rfl) en36 (aC (L 0 rfl rfl) aN) (wk_flow_grow_c1 V9 _ x19 p1_10 b3 z4 ow33 _ hx35) (fun _ _ _ _ => nd) (fun v37 V38 le39 hp40 => ?_)
    obtain ⟨rfl, ow41⟩ := hp40
    refine U.done (Nat.le_of_ble_eq_true rfl) ?_
    refine WP.cond _ (L 0 rfl rfl) rfl (fun c42 => ?_) (fun c42 => ?_)
    · have h43 := ifT c42 h36
      refine WP.usreg rfl ?_
      refine U.p rfl rfl (.inl rfl) (S.move rfl (L 6 rfl rfl)) ?_
      refine U.p rfl rfl (.inl rfl) (S.assign rfl (L 0 rfl rfl)) ?_
      refine U.done (Nat.le_of_ble_eq_true rfl) ?_
      refine WP.ret ?_
      refine blkR (sqR (sqR (blkR (sqR ?_))))
      have h44 := exitS h43 e14
      refine fin.slot (.inr rfl) rfl (L 0 rfl rfl) ⟨V38, rfl, (le10.trans le39), ?_⟩
      have ow45 := ow41.pick 0 rfl
      have ow46 := ow45.pick 1 rfl
      have e47 := Option.some.inj h44
      subst e47
      exact ⟨rfl, ow46⟩
    · have h48 := ifF c42 h36
      refine WP.skip ?_
      refine blkN (sqN ?_)
      refine WP.ureg rfl ?_
      refine U.p rfl rfl (.inl rfl) (S.add rfl (L 12 rfl rfl) K) ?_
      refine U.p rfl rfl (.inl rfl) (S.move rfl (L 0 rfl rfl)) ?_
      refine U.done (Nat.le_of_ble_eq_true rfl) ?_
      refine sqN ?_
      have ow49 := ow41.pick 0 rfl
      have ow50 := ow49.pick 1 rfl
      exact ⟨_, V38, rfl, ⟨m12, Nat.lt_succ_self _, w64 (x6 + 1), rfl, (le10.trans le39), ow50, backS h48 e14⟩, (allCons (L 11 rfl rfl) (allCons (L 12 rfl rfl) (allCons (L 13 rfl rfl) (allCons (L 0 rfl rfl) allNil))))⟩
  · have h51 := ifF c17 h16
    refine WP.exit ?_
    refine sqE (sqE (blkE (sqN ?_)))
    have h52 := exitS h51 e14
    refine WP.usreg rfl ?_
    refine U.p rfl rfl (.inl rfl) (S.assign rfl K) ?_
    refine U.done (Nat.le_of_ble_eq_true rfl) ?_
    refine WP.ret ?_
    refine fin.slot (.inr rfl) rfl (L 0 rfl rfl) ⟨V9, rfl, le10, ?_⟩
    have e53 := Option.some.inj h52
    subst e53
    exact ⟨rfl, ow11⟩

set_option maxHeartbeats 4000000 in
set_option maxRecDepth 10000 in
theorem wk_flow_grow (V : Vw) (Rs : List At) (p0 : List Tflow_Span) (p1 : Int) (p2 : Int) (v1 : Value) (ow : Ow V (.os RT_Tflow_Span v1 p0 :: Rs)) (r : List Tflow_Span) (h : flow_grow p0 p1 p2 = some r) : ∃ v V', Cl Try.prog 0 26 #[v1, .int .i64 p1, .int .i64 p2] V.H v V'.H ∧ V.le V' ∧ (∃ (v3 : Value), v = v3 ∧ Ow V' (.os RT_Tflow_Span v3 r :: Rs)) := by
  refine Ct.of (Nat.zero_le _) Try.func26 rfl (Nat.le_of_ble_eq_true rfl) ?_
  unfold flow_grow at h
  refine WP.usreg rfl ?_
  refine O.box ow rfl rfl (.inl rfl) rfl (L 1 rfl rfl) (by simp [topV]) rfl nd (fun b5 V6 le7 ow8 => ?_)
  refine U.p rfl rfl (.inl rfl) (S.assign rfl K) ?_
  refine U.done (Nat.le_of_ble_eq_true rfl) ?_
  refine WP.usreg rfl ?_
  refine U.p rfl rfl (.inl rfl) (S.move rfl (L 2 rfl rfl)) ?_
  refine U.p (v := .func (.func 36) #[] #[.pointer (some ⟨b5, 0, none⟩)]) rfl rfl (.inl rfl) (S.makeFunc' rfl (amN) (am1 (L 2 rfl rfl))) ?_
  have ow10 := ow8.pick 1 rfl
  obtain ⟨x11, hx12, h13⟩ := bindS h
  refine O.call (V := V6) rfl rfl (.inl rfl) rfl en35 (aC (L 1 rfl rfl) (aC (L 0 rfl rfl) aN)) (wk_slices_IndexFunc_3 V6 _ p0 p1 v1 b5 0 ow10 _ hx12) (fun _ _ _ _ => nd) (fun v14 V15 le16 hp17 => ?_)
  obtain ⟨rfl, ow18⟩ := hp17
  refine U.p rfl rfl (.inl rfl) (S.assign rfl (L 0 rfl rfl)) ?_
  refine U.done (Nat.le_of_ble_eq_true rfl) ?_
  refine WP.seq ?_
  refine WP.usreg rfl ?_
  refine U.p rfl rfl (.inl rfl) (S.move rfl (L 0 rfl rfl)) ?_
  refine U.p rfl rfl (.inl rfl) (S.lss rfl (L 0 rfl rfl) K) ?_
  refine U.done (Nat.le_of_ble_eq_true rfl) ?_
  refine WP.cond _ (L 0 rfl rfl) rfl (fun c19 => ?_) (fun c19 => ?_)
  · have h20 := ifT c19 h13
    refine WP.usreg rfl ?_
    refine U.p rfl rfl (.inl rfl) (S.move rfl (L 8 rfl rfl)) ?_
    refine U.k rfl rfl (.inl rfl) (S.load rfl (L 8 rfl rfl) Try.underlying3 rfl ((ow18.own (k := 1) rfl).cell rfl)) nd ?_
    refine U.p rfl rfl (.inl rfl) (S.move rfl (L 12 rfl rfl)) ?_
    refine U.p rfl rfl (.inl rfl) (S.move rfl (L 13 rfl rfl)) ?_
    refine U.p (v := .agg #[.int .i64 p1, .int .i64 p2, .int .i64 p2]) rfl rfl (.inl rfl) (S.build (vs := [.int .i64 p1, .int .i64 p2, .int .i64 p2]) rfl ti44 rfl pl44 (aC (L 2 rfl rfl) (aC (L 1 rfl rfl) (aC (L 0 rfl rfl) aN))) (allC (by simp [topV]) (allC (by simp [topV]) (allC (by simp [topV]) allN))) rfl) ?_
    refine O.lit (R := RT_Tflow_Span) ow18 rfl rfl (.inl rfl) rfl Try.underlying39 ti44 rfl rfl rfl (Nat.le_of_ble_eq_true rfl) rfl (aC (L 0 rfl rfl) aN) (.cons _ _ (⟨p1, p2, p2⟩ : Tflow_Span) _ (by simp [topV]) rfl .nil) (fun _ => nd) (fun v21 V22 le23 ow24 => ?_)
    obtain ⟨xs26, hx27, h28⟩ := bindS h20
    refine O.append (k := 1) ow24 rfl rfl rfl (.inl rfl) rfl (L 5 rfl rfl) (L 0 rfl rfl) Try.underlying39 ti44 rfl rfl (Nat.le_of_ble_eq_true rfl) (ow24.src (k := 0) rfl Try.underlying39) hx27 (fun _ _ => nd) (fun v29 V30 le31 ow32 => ?_)
    refine U.p rfl rfl (.inl rfl) (S.assign rfl (L 0 rfl rfl)) ?_
    refine U.done (Nat.le_of_ble_eq_true rfl) ?_
    refine WP.ret ?_
    refine sqR ?_
    refine fin.slot (.inr rfl) rfl (L 0 rfl rfl) ⟨V30, rfl, (((le7.trans le16).trans le23).trans le31), ?_⟩
    have ow34 := ow32.drop 0 rfl
    have ow35 := ow34.drop 1 rfl
    have e36 := Option.some.inj h28
    subst e36
    exact ⟨v29, rfl, ow35⟩
  · have h37 := ifF c19 h13
    refine WP.skip ?_
    refine sqN ?_
    refine WP.usdreg rfl rfl rfl ?_
    refine U.p rfl rfl (.inl rfl) (S.move rfl (L 8 rfl rfl)) ?_
    refine U.p rfl rfl (.inl rfl) (S.move rfl (L 3 rfl rfl)) ?_
    refine U.p rfl rfl (.inl rfl) (S.move rfl (L 10 rfl rfl)) ?_
    refine U.p rfl rfl (.inl rfl) (S.move rfl (L 5 rfl rfl)) ?_
    refine U.p rfl rfl (.inl rfl) (S.move rfl (L 12 rfl rfl)) ?_
    refine U.p rfl rfl (.inl rfl) (S.move rfl (L 7 rfl rfl)) ?_
    obtain ⟨x38, hx39, h40⟩ := bindS h37
    obtain ⟨b41, o42, n43, c44, hv45⟩ := ow18.ospt (k := 0) rfl hx39
    obtain ⟨_, hv46, _⟩ := ow18.osel (k := 0) rfl hv45 hx39
    refine U.p rfl rfl (.inl rfl) (S.index rfl ((L 1 rfl rfl).trans hv46) (L 0 rfl rfl) Try.underlying39 ti44 (ix_ge hx39) (ix_lt hx39)) ?_
    refine U.p (v := .pointer (some ⟨b41, o42 + Int.toNat x11 * 3 + 1, none⟩)) rfl rfl (.inl rfl) (S.fieldAddr rfl (L 0 rfl rfl) Try.underlying44 rfl ti3 rfl rfl) ?_
    obtain ⟨cs47, hv48, hlt49, hr50, hc51⟩ := ow18.osel (k := 0) rfl hv45 hx39
    obtain rfl : cs47 = [.int .i64 x38.reg, .int .i64 x38.from_, .int .i64 x38.to_] := hr50
    refine U.k rfl rfl (.inl rfl) (S.load rfl (L 0 rfl rfl) Try.underlying3 rfl (hc51 1 _ rfl)) (fun _ => (okH.nil (fun r h => by cases h; exact hlt49))) ?_
    refine U.p rfl rfl (.inl rfl) (S.move rfl (L 19 rfl rfl)) ?_
    refine U.p rfl rfl (.inl rfl) (S.minI rfl (L 1 rfl rfl) (L 0 rfl rfl)) ?_
    refine U.p rfl rfl (.inl rfl) (S.move rfl (L 19 rfl rfl)) ?_
    refine U.p rfl rfl (.inl rfl) (S.move rfl (L 14 rfl rfl)) ?_
    obtain ⟨x52, hx53, h54⟩ := bindS h40
    obtain ⟨_, hv55, _⟩ := ow18.osel (k := 0) rfl hv45 hx53
    refine U.p rfl rfl (.inl rfl) (S.index rfl ((L 1 rfl rfl).trans hv55) (L 0 rfl rfl) Try.underlying39 ti44 (ix_ge hx53) (ix_lt hx53)) ?_
    refine U.p (v := .pointer (some ⟨b41, o42 + Int.toNat x11 * 3 + 2, none⟩)) rfl rfl (.inl rfl) (S.fieldAddr rfl (L 0 rfl rfl) Try.underlying44 rfl ti3 rfl rfl) ?_
    obtain ⟨cs56, hv57, hlt58, hr59, hc60⟩ := ow18.osel (k := 0) rfl hv45 hx53
    obtain rfl : cs56 = [.int .i64 x52.reg, .int .i64 x52.from_, .int .i64 x52.to_] := hr59
    refine U.k rfl rfl (.inl rfl) (S.load rfl (L 0 rfl rfl) Try.underlying3 rfl (hc60 2 _ rfl)) (fun _ => (okH.cons trivial (okH.nil (fun r h => by cases h; exact hlt58)))) ?_
    refine U.p rfl rfl (.inl rfl) (S.move rfl (L 26 rfl rfl)) ?_
    refine U.p rfl rfl (.inl rfl) (S.maxI rfl (L 1 rfl rfl) (L 0 rfl rfl)) ?_
    obtain ⟨x61, hx62, h63⟩ := bindS h54
    obtain ⟨_, hv64, _⟩ := ow18.osel (k := 0) rfl hv45 hx62
    refine U.p rfl rfl (.inl rfl) (S.index rfl ((L 17 rfl rfl).trans hv64) (L 16 rfl rfl) Try.underlying39 ti44 (ix_ge hx62) (ix_lt hx62)) ?_
    refine U.p (v := .pointer (some ⟨b41, o42 + Int.toNat x11 * 3 + 1, none⟩)) rfl rfl (.inl rfl) (S.fieldAddr rfl (L 0 rfl rfl) Try.underlying44 rfl ti3 rfl rfl) ?_
    obtain ⟨cs65, hv66, hlt67, hr68, hc69⟩ := ow18.osel (k := 0) rfl hv45 hx62
    obtain rfl : cs65 = [.int .i64 x61.reg, .int .i64 x61.from_, .int .i64 x61.to_] := hr68
    refine O.storeE (k := 0) (R := RT_Tflow_Span) (j := 1) (y := (⟨x61.reg, min x38.from_ p2, x61.to_⟩ : Tflow_Span)) (cs := [.int .i64 (min x38.from_ p2)]) ow18 rfl hv66 rfl rfl (.inl rfl) rfl (L 0 rfl rfl) (L 9 rfl rfl) ti3 hx62 (by simp [topV]) rfl rfl rfl (fun r hr => by obtain rfl : r = _ := hr; exact ⟨Nat.le_of_ble_eq_true rfl, rfl⟩) (fun H1 hs => (fun _ => (okH.cons (Or.inl rfl) (okH.cons (Or.inl rfl) (okH.nil (fun r h => nomatch h)))))) (fun V70 le71 ow72 => ?_)
    obtain ⟨x73, hx74, h75⟩ := bindS h63
    obtain ⟨_, hv76, _⟩ := ow72.osel (k := 0) rfl hv45 hx74
    refine U.p rfl rfl (.inl rfl) (S.index rfl ((L 17 rfl rfl).trans hv76) (L 16 rfl rfl) Try.underlying39 ti44 (ix_ge hx74) (ix_lt hx74)) ?_
    refine U.p (v := .pointer (some ⟨b41, o42 + Int.toNat x11 * 3 + 2, none⟩)) rfl rfl (.inl rfl) (S.fieldAddr rfl (L 0 rfl rfl) Try.underlying44 rfl ti3 rfl rfl) ?_
    obtain ⟨cs77, hv78, hlt79, hr80, hc81⟩ := ow72.osel (k := 0) rfl hv45 hx74
    obtain rfl : cs77 = [.int .i64 x73.reg, .int .i64 x73.from_, .int .i64 x73.to_] := hr80
    refine O.storeE (k := 0) (R := RT_Tflow_Span) (j := 2) (y := (⟨x73.reg, x73.from_, max x52.to_ p2⟩ : Tflow_Span)) (cs := [.int .i64 (max x52.to_ p2)]) ow72 rfl hv78 rfl rfl (.inl rfl) rfl (L 0 rfl rfl) (L 4 rfl rfl) ti3 hx74 (by simp [topV]) rfl rfl rfl (fun r hr => by obtain rfl : r = _ := hr; exact ⟨Nat.le_of_ble_eq_true rfl, rfl⟩) (fun H1 hs => (fun _ => (okH.cons rfl (okH.cons (Or.inl rfl) (okH.cons (Or.inl rfl) (okH.nil (fun r h => nomatch h))))))) (fun V82 le83 ow84 => ?_)
    refine U.done (Nat.le_of_ble_eq_true rfl) ?_
    refine WP.usreg rfl ?_
    refine U.p rfl rfl (.inl rfl) (S.move rfl (L 30 rfl rfl)) ?_
    refine U.p rfl rfl (.inl rfl) (S.assign rfl (L 0 rfl rfl)) ?_
    refine U.done (Nat.le_of_ble_eq_true rfl) ?_
    refine WP.ret ?_
    refine fin.slot (.inr rfl) rfl (L 0 rfl rfl) ⟨V82, rfl, (((le7.trans le16).trans le71).trans le83), ?_⟩
    have ow85 := ow84.drop 1 rfl
    have e86 := Option.some.inj h75
    subst e86
    exact ⟨v1, rfl, ow85⟩

set_option maxHeartbeats 4000000 in
set_option maxRecDepth 10000 in
theorem wk_math_bits_Len64 (V : Vw) (Rs : List At) (p0 : Int) (ow : Ow V (Rs)) (r : Int) (h : math_bits_Len64 p0 = some r) : ∃ v V', Cl Try.prog 0 50 #[.int .u64 p0] V.H v V'.H ∧ V.le V' ∧ (v = .int .i64 r ∧ Ow V' (Rs)) := by
  refine Ct.of (Nat.zero_le _) Try.func50 rfl (Nat.le_of_ble_eq_true rfl) ?_
  unfold math_bits_Len64 at h
  refine WP.usreg rfl ?_
  refine U.p rfl rfl (.inl rfl) (S.assign rfl K) ?_
  refine U.done (Nat.le_of_ble_eq_true rfl) ?_
  refine WP.seqI (fun l V' => ∃ (x1 : Int) (x2 : Int), l = [(0, .int .u64 x1), (2, .int .i64 x2)] ∧ V.le V' ∧ Ow V' (Rs) ∧ math_bits_Len64_k1 x1 x2 = some r) ?_ ?_
  · rintro _ V3 ⟨x1, x2, rfl, le4, ow5, h6⟩
    unfold math_bits_Len64_k1 at h6
    refine WP.seqI (fun l V' => ∃ (x7 : Int) (x8 : Int), l = [(0, .int .u64 x7), (2, .int .i64 x8)] ∧ V3.le V' ∧ Ow V' (Rs) ∧ math_bits_Len64_k2 x7 x8 = some r) ?_ ?_
    · rintro _ V9 ⟨x7, x8, rfl, le10, ow11, h12⟩
      unfold math_bits_Len64_k2 at h12
      refine WP.seqI (fun l V' => ∃ (x13 : Int) (x14 : Int), l = [(0, .int .u64 x13), (2, .int .i64 x14)] ∧ V9.le V' ∧ Ow V' (Rs) ∧ math_bits_Len64_k3 x13 x14 = some r) ?_ ?_
      · rintro _ V15 ⟨x13, x14, rfl, le16, ow17, h18⟩
        unfold math_bits_Len64_k3 at h18
        refine WP.usreg rfl ?_
        refine U.p rfl rfl (.inl rfl) (S.move rfl (L 1 rfl rfl)) ?_
        refine U.p rfl rfl (.inl rfl) (S.move rfl (L 1 rfl rfl)) ?_
        refine U.p rfl rfl (.inl rfl) (S.conv rfl (L 0 rfl rfl) Try.underlying80 Try.underlying5) ?_
        obtain ⟨x19, hx20, h21⟩ := bindS h18
        refine U.p rfl rfl (.inl rfl) (S.indexS hx20 rfl K (L 0 rfl rfl) Try.underlying9) ?_
        refine U.p rfl rfl (.inl rfl) (S.conv rfl (L 0 rfl rfl) Try.underlying5 Try.underlying3) ?_
        refine U.p rfl rfl (.inl rfl) (S.add rfl (L 4 rfl rfl) (L 0 rfl rfl)) ?_
        refine U.p rfl rfl (.inl rfl) (S.assign rfl (L 0 rfl rfl)) ?_
        refine U.done (Nat.le_of_ble_eq_true rfl) ?_
        refine WP.ret ?_
        refine fin.slot (.inr rfl) rfl (L 0 rfl rfl) ⟨V15, rfl, ((le4.trans le10).trans le16), ?_⟩
        have e22 := Option.some.inj h21
        subst e22
        exact ⟨rfl, ow17⟩
      · skip
        refine WP.usreg rfl ?_
        refine U.p rfl rfl (.inl rfl) (S.move rfl (L 0 rfl rfl)) ?_
        refine U.p rfl rfl (.inl rfl) (S.geq rfl (L 0 rfl rfl) K) ?_
        refine U.done (Nat.le_of_ble_eq_true rfl) ?_
        refine WP.cond _ (L 0 rfl rfl) rfl (fun c23 => ?_) (fun c23 => ?_)
        · have h24 := ifT c23 h12
          refine WP.usreg rfl ?_
          refine U.p rfl rfl (.inl rfl) (S.move rfl (L 2 rfl rfl)) ?_
          obtain ⟨x25, hx26, h27⟩ := bindS h24
          refine U.p rfl rfl (.inl rfl) (S.shr hx26 rfl (L 0 rfl rfl) K) ?_
          refine U.p rfl rfl (.inl rfl) (S.assign rfl (L 0 rfl rfl)) ?_
          refine U.done (Nat.le_of_ble_eq_true rfl) ?_
          refine WP.ureg rfl ?_
          refine U.p rfl rfl (.inl rfl) (S.move rfl (L 6 rfl rfl)) ?_
          refine U.p rfl rfl (.inl rfl) (S.add rfl (L 0 rfl rfl) K) ?_
          refine U.p rfl rfl (.inl rfl) (S.assign rfl (L 0 rfl rfl)) ?_
          refine U.done (Nat.le_of_ble_eq_true rfl) ?_
          refine sqN ?_
          exact ⟨_, V9, rfl, ⟨x25, w64 (x8 + 8), rfl, (.refl _), ow11, h27⟩, (allCons (L 3 rfl rfl) (allCons (L 0 rfl rfl) allNil))⟩
        · have h28 := ifF c23 h12
          refine WP.skip ?_
          refine sqN ?_
          exact ⟨_, V9, rfl, ⟨x7, x8, rfl, (.refl _), ow11, h28⟩, (allCons (L 2 rfl rfl) (allCons (L 3 rfl rfl) allNil))⟩
    · skip
      refine WP.usreg rfl ?_
      refine U.p rfl rfl (.inl rfl) (S.move rfl (L 0 rfl rfl)) ?_
      refine U.p rfl rfl (.inl rfl) (S.geq rfl (L 0 rfl rfl) K) ?_
      refine U.done (Nat.le_of_ble_eq_true rfl) ?_
      refine WP.cond _ (L 0 rfl rfl) rfl (fun c29 => ?_) (fun c29 => ?_)
      · have h30 := ifT c29 h6
        refine WP.usreg rfl ?_
        refine U.p rfl rfl (.inl rfl) (S.move rfl (L 2 rfl rfl)) ?_
        obtain ⟨x31, hx32, h33⟩ := bindS h30
        refine U.p rfl rfl (.inl rfl) (S.shr hx32 rfl (L 0 rfl rfl) K) ?_
        refine U.p rfl rfl (.inl rfl) (S.assign rfl (L 0 rfl rfl)) ?_
        refine U.done (Nat.le_of_ble_eq_true rfl) ?_
        refine WP.ureg rfl ?_
        refine U.p rfl rfl (.inl rfl) (S.move rfl (L 6 rfl rfl)) ?_
        refine U.p rfl rfl (.inl rfl) (S.add rfl (L 0 rfl rfl) K) ?_
        refine U.p rfl rfl (.inl rfl) (S.assign rfl (L 0 rfl rfl)) ?_
        refine U.done (Nat.le_of_ble_eq_true rfl) ?_
        refine sqN ?_
        exact ⟨_, V3, rfl, ⟨x31, w64 (x2 + 16), rfl, (.refl _), ow5, h33⟩, (allCons (L 3 rfl rfl) (allCons (L 0 rfl rfl) allNil))⟩
      · have h34 := ifF c29 h6
        refine WP.skip ?_
        refine sqN ?_
        exact ⟨_, V3, rfl, ⟨x1, x2, rfl, (.refl _), ow5, h34⟩, (allCons (L 2 rfl rfl) (allCons (L 3 rfl rfl) allNil))⟩
  · skip
    refine WP.usreg rfl ?_
    refine U.p rfl rfl (.inl rfl) (S.move rfl (L 1 rfl rfl)) ?_
    refine U.p rfl rfl (.inl rfl) (S.geq rfl (L 0 rfl rfl) K) ?_
    refine U.done (Nat.le_of_ble_eq_true rfl) ?_
    refine WP.cond _ (L 0 rfl rfl) rfl (fun c35 => ?_) (fun c35 => ?_)
    · have h36 := ifT c35 h
      refine WP.usreg rfl ?_
      refine U.p rfl rfl (.inl rfl) (S.move rfl (L 3 rfl rfl)) ?_
      obtain ⟨x37, hx38, h39⟩ := bindS h36
      refine U.p rfl rfl (.inl rfl) (S.shr hx38 rfl (L 0 rfl rfl) K) ?_
      refine U.p rfl rfl (.inl rfl) (S.assign rfl (L 0 rfl rfl)) ?_
      refine U.done (Nat.le_of_ble_eq_true rfl) ?_
      refine WP.ureg rfl ?_
      refine U.p rfl rfl (.inl rfl) (S.assign rfl K) ?_
      refine U.done (Nat.le_of_ble_eq_true rfl) ?_
      refine sqN ?_
      exact ⟨_, V, rfl, ⟨x37, 32, rfl, (.refl _), ow, h39⟩, (allCons (L 1 rfl rfl) (allCons (L 0 rfl rfl) allNil))⟩
    · have h40 := ifF c35 h
      refine WP.skip ?_
      refine sqN ?_
      exact ⟨_, V, rfl, ⟨p0, 0, rfl, (.refl _), ow, h40⟩, (allCons (L 3 rfl rfl) (allCons (L 2 rfl rfl) allNil))⟩

set_option maxHeartbeats 4000000 in
set_option maxRecDepth 10000 in
theorem wk_math_bits_Len (V : Vw) (Rs : List At) (p0 : Int) (ow : Ow V (Rs)) (r : Int) (h : math_bits_Len p0 = some r) : ∃ v V', Cl Try.prog 0 38 #[.int .u64 p0] V.H v V'.H ∧ V.le V' ∧ (v = .int .i64 r ∧ Ow V' (Rs)) := by
  refine Ct.of (Nat.zero_le _) Try.func38 rfl (Nat.le_of_ble_eq_true rfl) ?_
  unfold math_bits_Len at h
  refine WP.usreg rfl ?_
  refine U.p rfl rfl (.inl rfl) (S.assign rfl K) ?_
  refine U.done (Nat.le_of_ble_eq_true rfl) ?_
  refine WP.seq ?_
  refine WP.cond false K rfl (fun h => by cases h) (fun _ => ?_)
  refine WP.skip ?_
  refine sqN ?_
  refine WP.usreg rfl ?_
  refine U.p rfl rfl (.inl rfl) (S.move rfl (L 1 rfl rfl)) ?_
  obtain ⟨x1, hx2, h3⟩ := bindS h
  refine O.call (V := V) rfl rfl (.inl rfl) rfl en50 (aC (L 0 rfl rfl) aN) (wk_math_bits_Len64 V _ p0 ow _ hx2) (fun _ _ _ _ => nd) (fun v4 V5 le6 hp7 => ?_)
  obtain ⟨rfl, ow8⟩ := hp7
  refine U.p rfl rfl (.inl rfl) (S.assign rfl (L 0 rfl rfl)) ?_
  refine U.done (Nat.le_of_ble_eq_true rfl) ?_
  refine WP.ret ?_
  refine fin.slot (.inr rfl) rfl (L 0 rfl rfl) ⟨V5, rfl, le6, ?_⟩
  have e9 := Option.some.inj h3
  subst e9
  exact ⟨rfl, ow8⟩

set_option maxHeartbeats 4000000 in
set_option maxRecDepth 10000 in
theorem wk_flow_Spans_c1 (V : Vw) (Rs : List At) (p0 : Tflow_Span) (p1 : Tflow_Span) (ow : Ow V (Rs)) (r : Int) (h : flow_Spans_c1 p0 p1 = some r) : ∃ v V', Cl Try.prog 0 28 #[.agg #[.int .i64 p0.reg, .int .i64 p0.from_, .int .i64 p0.to_], .agg #[.int .i64 p1.reg, .int .i64 p1.from_, .int .i64 p1.to_]] V.H v V'.H ∧ V.le V' ∧ (v = .int .i64 r ∧ Ow V' (Rs)) := by
  refine Ct.of (Nat.zero_le _) Try.func28 rfl (Nat.le_of_ble_eq_true rfl) ?_
  unfold flow_Spans_c1 at h
  refine WP.usreg rfl ?_
  refine O.box ow rfl rfl (.inl rfl) rfl (L 0 rfl rfl) (by simp [topV]) rfl nd (fun b1 V2 le3 ow4 => ?_)
  refine O.box ow4 rfl rfl (.inl rfl) rfl (L 2 rfl rfl) (by simp [topV]) rfl nd (fun b6 V7 le8 ow9 => ?_)
  refine U.p rfl rfl (.inl rfl) (S.assign rfl K) ?_
  refine U.done (Nat.le_of_ble_eq_true rfl) ?_
  refine WP.seq ?_
  refine WP.usreg rfl ?_
  refine U.p (v := .pointer (some ⟨b1, 1, none⟩)) rfl rfl (.inl rfl) (S.fieldAddr rfl (L 2 rfl rfl) Try.underlying44 rfl ti3 rfl rfl) ?_
  refine U.k rfl rfl (.inl rfl) (S.load rfl (L 0 rfl rfl) Try.underlying3 rfl ((ow9.own (k := 1) rfl).cell rfl)) nd ?_
  refine U.p (v := .pointer (some ⟨b6, 1, none⟩)) rfl rfl (.inl rfl) (S.fieldAddr rfl (L 3 rfl rfl) Try.underlying44 rfl ti3 rfl rfl) ?_
  refine U.k rfl rfl (.inl rfl) (S.load rfl (L 0 rfl rfl) Try.underlying3 rfl ((ow9.own (k := 0) rfl).cell rfl)) nd ?_
  refine U.p rfl rfl (.inl rfl) (S.neqI rfl (L 2 rfl rfl) (L 0 rfl rfl)) ?_
  refine U.done (Nat.le_of_ble_eq_true rfl) ?_
  refine WP.cond _ (L 0 rfl rfl) rfl (fun c11 => ?_) (fun c11 => ?_)
  · have h12 := ifT c11 h
    refine WP.usreg rfl ?_
    refine U.p (v := .pointer (some ⟨b1, 1, none⟩)) rfl rfl (.inl rfl) (S.fieldAddr rfl (L 7 rfl rfl) Try.underlying44 rfl ti3 rfl rfl) ?_
    refine U.k rfl rfl (.inl rfl) (S.load rfl (L 0 rfl rfl) Try.underlying3 rfl ((ow9.own (k := 1) rfl).cell rfl)) nd ?_
    refine U.p (v := .pointer (some ⟨b6, 1, none⟩)) rfl rfl (.inl rfl) (S.fieldAddr rfl (L 8 rfl rfl) Try.underlying44 rfl ti3 rfl rfl) ?_
    refine U.k rfl rfl (.inl rfl) (S.load rfl (L 0 rfl rfl) Try.underlying3 rfl ((ow9.own (k := 0) rfl).cell rfl)) nd ?_
    refine U.p rfl rfl (.inl rfl) (S.sub rfl (L 2 rfl rfl) (L 0 rfl rfl)) ?_
    refine U.p rfl rfl (.inl rfl) (S.assign rfl (L 0 rfl rfl)) ?_
    refine U.done (Nat.le_of_ble_eq_true rfl) ?_
    refine WP.ret ?_
    refine sqR ?_
    refine fin.slot (.inr rfl) rfl (L 0 rfl rfl) ⟨V7, rfl, (le3.trans le8), ?_⟩
    have ow13 := ow9.drop 0 rfl
    have ow14 := ow13.drop 0 rfl
    have e15 := Option.some.inj h12
    subst e15
    exact ⟨rfl, ow14⟩
  · have h16 := ifF c11 h
    refine WP.skip ?_
    refine sqN ?_
    refine WP.usreg rfl ?_
    refine U.p (v := .pointer (some ⟨b1, 0, none⟩)) rfl rfl (.inl rfl) (S.fieldAddr rfl (L 7 rfl rfl) Try.underlying44 rfl ti3 rfl rfl) ?_
    refine U.k rfl rfl (.inl rfl) (S.load rfl (L 0 rfl rfl) Try.underlying3 rfl ((ow9.own (k := 1) rfl).cell rfl)) nd ?_
    refine U.p (v := .pointer (some ⟨b6, 0, none⟩)) rfl rfl (.inl rfl) (S.fieldAddr rfl (L 8 rfl rfl) Try.underlying44 rfl ti3 rfl rfl) ?_
    refine U.k rfl rfl (.inl rfl) (S.load rfl (L 0 rfl rfl) Try.underlying3 rfl ((ow9.own (k := 0) rfl).cell rfl)) nd ?_
    refine U.p rfl rfl (.inl rfl) (S.sub rfl (L 2 rfl rfl) (L 0 rfl rfl)) ?_
    refine U.p rfl rfl (.inl rfl) (S.assign rfl (L 0 rfl rfl)) ?_
    refine U.done (Nat.le_of_ble_eq_true rfl) ?_
    refine WP.ret ?_
    refine fin.slot (.inr rfl) rfl (L 0 rfl rfl) ⟨V7, rfl, (le3.trans le8), ?_⟩
    have ow17 := ow9.drop 0 rfl
    have ow18 := ow17.drop 0 rfl
    have e19 := Option.some.inj h16
    subst e19
    exact ⟨rfl, ow18⟩

set_option maxHeartbeats 4000000 in
set_option maxRecDepth 10000 in
theorem wk_slices_insertionSortCmpFunc (V : Vw) (Rs : List At) (p0 : List Tflow_Span) (p1 : Int) (p2 : Int) (v1 : Value) (ow : Ow V (.os RT_Tflow_Span v1 p0 :: Rs)) (r : List Tflow_Span) (h : slices_insertionSortCmpFunc p0 p1 p2 = some r) : ∃ v V', Cl Try.prog 0 41 #[v1, .int .i64 p1, .int .i64 p2, .func (.func 28) #[] #[]] V.H v V'.H ∧ V.le V' ∧ (Ow V' (.os RT_Tflow_Span v1 r :: Rs)) := by
  refine Ct.of (Nat.zero_le _) Try.func41 rfl (Nat.le_of_ble_eq_true rfl) ?_
  unfold slices_insertionSortCmpFunc at h
  refine WP.usreg rfl ?_
  refine U.p rfl rfl (.inl rfl) (S.move rfl (L 1 rfl rfl)) ?_
  refine U.p rfl rfl (.inl rfl) (S.add rfl (L 0 rfl rfl) K) ?_
  refine U.p rfl rfl (.inl rfl) (S.assign rfl (L 0 rfl rfl)) ?_
  refine U.done (Nat.le_of_ble_eq_true rfl) ?_
  refine WP.blk ?_
  unfold slices_insertionSortCmpFunc_l1 at h
  obtain ⟨n6, hn5⟩ := loopO_some.1 h
  refine WP.loopI2 (fun n l V' => ∃ (xs3 : List Tflow_Span) (x4 : Int), l = [(0, v1), (1, .int .i64 p1), (2, .int .i64 p2), (3, .func (.func 28) #[] #[]), (8, .int .i64 x4)] ∧ V.le V' ∧ Ow V' (.os RT_Tflow_Span v1 xs3 :: Rs) ∧ itO (fun s => slices_insertionSortCmpFunc_l1b p1 p2 s.1 s.2) n (xs3, x4) = some r) n6 _ ⟨p0, w64 (p1 + 1), rfl, .refl _, ow, hn5⟩ (allCons (L 3 rfl rfl) (allCons (L 4 rfl rfl) (allCons (L 5 rfl rfl) (allCons (L 6 rfl rfl) (allCons (L 0 rfl rfl) allNil))))) ?_
  rintro _ _ V7 ⟨xs3, x4, rfl, le8, ow9, h13⟩
  obtain ⟨m10, q11, rfl, h14, e12⟩ := itS h13
  replace h14 : slices_insertionSortCmpFunc_l1b p1 p2 xs3 x4 = some q11 := h14
  unfold slices_insertionSortCmpFunc_l1b at h14
  refine WP.seq ?_
  refine WP.usreg rfl ?_
  refine U.p rfl rfl (.inl rfl) (S.move rfl (L 4 rfl rfl)) ?_
  refine U.p rfl rfl (.inl rfl) (S.move rfl (L 3 rfl rfl)) ?_
  refine U.p rfl rfl (.inl rfl) (S.lss rfl (L 1 rfl rfl) (L 0 rfl rfl)) ?_
  refine U.done (Nat.le_of_ble_eq_true rfl) ?_
  refine WP.cond _ (L 0 rfl rfl) rfl (fun c15 => ?_) (fun c15 => ?_)
  · have h16 := ifT c15 h14
    refine WP.skip ?_
    refine sqN ?_
    refine WP.seq ?_
    refine WP.blk ?_
    refine WP.usreg rfl ?_
    refine U.p rfl rfl (.inl rfl) (S.move rfl (L 7 rfl rfl)) ?_
    refine U.p rfl rfl (.inl rfl) (S.assign rfl (L 0 rfl rfl)) ?_
    refine U.done (Nat.le_of_ble_eq_true rfl) ?_
    refine WP.blk ?_
    unfold slices_insertionSortCmpFunc_l2 at h16
    obtain ⟨n20, hn19⟩ := loopO_some.1 h16
    refine WP.loopI2 (fun n l V' => ∃ (xs17 : List Tflow_Span) (x18 : Int), l = [(0, v1), (1, .int .i64 p1), (2, .int .i64 p2), (3, .func (.func 28) #[] #[]), (8, .int .i64 x4), (9, .int .i64 x18)] ∧ V7.le V' ∧ Ow V' (.os RT_Tflow_Span v1 xs17 :: Rs) ∧ itO (fun s => slices_insertionSortCmpFunc_l2b p1 x4 s.1 s.2) n (xs17, x18) = some q11) n20 _ ⟨xs3, x4, rfl, .refl _, ow9, hn19⟩ (allCons (L 5 rfl rfl) (allCons (L 6 rfl rfl) (allCons (L 7 rfl rfl) (allCons (L 8 rfl rfl) (allCons (L 9 rfl rfl) (allCons (L 0 rfl rfl) allNil)))))) ?_
    rintro _ _ V21 ⟨xs17, x18, rfl, le22, ow23, h27⟩
    obtain ⟨m24, q25, rfl, h28, e26⟩ := itS h27
    replace h28 : slices_insertionSortCmpFunc_l2b p1 x4 xs17 x18 = some q25 := h28
    unfold slices_insertionSortCmpFunc_l2b at h28
    refine WP.seq ?_
    refine WP.seqI (fun l V' => ∃ (x29 : Bool), l = [(0, v1), (1, .int .i64 p1), (2, .int .i64 p2), (3, .func (.func 28) #[] #[]), (8, .int .i64 x4), (9, .int .i64 x18), (34, .bool x29)] ∧ V21.le V' ∧ Ow V' (.os RT_Tflow_Span v1 xs17 :: Rs) ∧ slices_insertionSortCmpFunc_k1 x4 xs17 x18 x29 = some q25) ?_ ?_
    · rintro _ V30 ⟨x29, rfl, le31, ow32, h33⟩
      unfold slices_insertionSortCmpFunc_k1 at h33
      refine WP.cond _ (L 6 rfl rfl) rfl (fun c34 => ?_) (fun c34 => ?_)
      · have h35 := ifT c34 h33
        refine WP.skip ?_
        refine sqN ?_
        refine WP.seq ?_
        refine WP.blk ?_
        refine WP.udreg rfl rfl rfl ?_
        refine U.p rfl rfl (.inl rfl) (S.move rfl (L 0 rfl rfl)) ?_
        refine U.p rfl rfl (.inl rfl) (S.move rfl (L 6 rfl rfl)) ?_
        refine U.p rfl rfl (.inl rfl) (S.move rfl (L 2 rfl rfl)) ?_
        refine U.p rfl rfl (.inl rfl) (S.move rfl (L 8 rfl rfl)) ?_
        refine U.p rfl rfl (.inl rfl) (S.sub rfl (L 0 rfl rfl) K) ?_
        refine U.p rfl rfl (.inl rfl) (S.move rfl (L 5 rfl rfl)) ?_
        refine U.p rfl rfl (.inl rfl) (S.move rfl (L 11 rfl rfl)) ?_
        refine U.p rfl rfl (.inl rfl) (S.sub rfl (L 0 rfl rfl) K) ?_
        obtain ⟨x36, hx37, h38⟩ := bindS h35
        obtain ⟨b39, o40, n41, c42, hv43⟩ := ow32.ospt (k := 0) rfl hx37
        obtain ⟨_, hv44, _⟩ := ow32.osel (k := 0) rfl hv43 hx37
        refine U.p rfl rfl (.inl rfl) (S.index rfl ((L 2 rfl rfl).trans hv44) (L 0 rfl rfl) Try.underlying39 ti44 (ix_ge hx37) (ix_lt hx37)) ?_
        obtain ⟨cs45, hv46, hlt47, hr48, hc49⟩ := ow32.osel (k := 0) rfl hv43 hx37
        obtain rfl : cs45 = [.int .i64 x36.reg, .int .i64 x36.from_, .int .i64 x36.to_] := hr48
        refine U.k rfl rfl (.inl rfl) (S.loadN (cs := [.int .i64 x36.reg, .int .i64 x36.from_, .int .i64 x36.to_]) rfl (L 0 rfl rfl) Try.underlying44 rfl ti44 rfl hc49) (fun _ => (okH.nil (fun r h => by cases h; exact hlt47))) ?_
        refine U.p rfl rfl (.inl rfl) (S.move rfl (L 10 rfl rfl)) ?_
        refine U.p rfl rfl (.inl rfl) (S.move rfl (L 16 rfl rfl)) ?_
        obtain ⟨x50, hx51, h52⟩ := bindS h38
        obtain ⟨_, hv53, _⟩ := ow32.osel (k := 0) rfl hv43 hx51
        refine U.p rfl rfl (.inl rfl) (S.index rfl ((L 1 rfl rfl).trans hv53) (L 0 rfl rfl) Try.underlying39 ti44 (ix_ge hx51) (ix_lt hx51)) ?_
        obtain ⟨cs54, hv55, hlt56, hr57, hc58⟩ := ow32.osel (k := 0) rfl hv43 hx51
        obtain rfl : cs54 = [.int .i64 x50.reg, .int .i64 x50.from_, .int .i64 x50.to_] := hr57
        refine U.k rfl rfl (.inl rfl) (S.loadN (cs := [.int .i64 x50.reg, .int .i64 x50.from_, .int .i64 x50.to_]) rfl (L 0 rfl rfl) Try.underlying44 rfl ti44 rfl hc58) (fun _ => (okH.cons trivial (okH.nil (fun r h => by cases h; exact hlt56)))) ?_
        obtain ⟨x59, hx60, h61⟩ := bindS h52
        obtain ⟨_, hv62, _⟩ := ow32.osel (k := 0) rfl hv43 hx60
        refine U.p rfl rfl (.inl rfl) (S.index rfl ((L 13 rfl rfl).trans hv62) (L 12 rfl rfl) Try.underlying39 ti44 (ix_ge hx60) (ix_lt hx60)) ?_
        obtain ⟨cs63, hv64, hlt65, hr66, hc67⟩ := ow32.osel (k := 0) rfl hv43 hx60
        obtain rfl : cs63 = [.int .i64 x59.reg, .int .i64 x59.from_, .int .i64 x59.to_] := hr66
        refine O.storeE (k := 0) (R := RT_Tflow_Span) (j := 0) (y := x36) (cs := [.int .i64 x36.reg, .int .i64 x36.from_, .int .i64 x36.to_]) ow32 rfl hv64 rfl rfl (.inl rfl) rfl (L 0 rfl rfl) (L 5 rfl rfl) ti44 hx60 (by simp [topV]) rfl rfl rfl (full rfl) (fun H1 hs => (fun _ => (okH.cons (Or.inl rfl) (okH.cons (Or.inl rfl) (okH.nil (fun r h => nomatch h)))))) (fun V68 le69 ow70 => ?_)
        obtain ⟨x71, hx72, h73⟩ := bindS h61
        obtain ⟨_, hv74, _⟩ := ow70.osel (k := 0) rfl hv43 hx72
        refine U.p rfl rfl (.inl rfl) (S.index rfl ((L 12 rfl rfl).trans hv74) (L 10 rfl rfl) Try.underlying39 ti44 (ix_ge hx72) (ix_lt hx72)) ?_
        obtain ⟨cs75, hv76, hlt77, hr78, hc79⟩ := ow70.osel (k := 0) rfl hv43 hx72
        obtain rfl : cs75 = [.int .i64 x71.reg, .int .i64 x71.from_, .int .i64 x71.to_] := hr78
        refine O.storeE (k := 0) (R := RT_Tflow_Span) (j := 0) (y := x50) (cs := [.int .i64 x50.reg, .int .i64 x50.from_, .int .i64 x50.to_]) ow70 rfl hv76 rfl rfl (.inl rfl) rfl (L 0 rfl rfl) (L 2 rfl rfl) ti44 hx72 (by simp [topV]) rfl rfl rfl (full rfl) (fun H1 hs => (fun _ => (okH.cons rfl (okH.cons (Or.inl rfl) (okH.cons (Or.inl rfl) (okH.nil (fun r h => nomatch h))))))) (fun V80 le81 ow82 => ?_)
        refine U.done (Nat.le_of_ble_eq_true rfl) ?_
        refine blkN (sqN ?_)
        refine WP.ureg rfl ?_
        refine U.p rfl rfl (.inl rfl) (S.move rfl (L 21 rfl rfl)) ?_
        refine U.p rfl rfl (.inl rfl) (S.sub rfl (L 0 rfl rfl) K) ?_
        refine U.p rfl rfl (.inl rfl) (S.assign rfl (L 0 rfl rfl)) ?_
        refine U.done (Nat.le_of_ble_eq_true rfl) ?_
        refine sqN ?_
        exact ⟨_, V80, rfl, ⟨m24, Nat.lt_succ_self _, (xs17.set (Int.toNat x18) x36).set (Int.toNat (w64 (x18 - 1))) x50, w64 (x18 - 1), rfl, (((le22.trans le31).trans le69).trans le81), ow82, backS h73 e26⟩, (allCons (L 19 rfl rfl) (allCons (L 20 rfl rfl) (allCons (L 21 rfl rfl) (allCons (L 22 rfl rfl) (allCons (L 23 rfl rfl) (allCons (L 0 rfl rfl) allNil))))))⟩
      · have h83 := ifF c34 h33
        refine WP.exit ?_
        refine sqE (sqE (blkE (blkN (sqN ?_))))
        have h84 := exitS h83 e26
        refine WP.ureg rfl ?_
        refine U.p rfl rfl (.inl rfl) (S.move rfl (L 4 rfl rfl)) ?_
        refine U.p rfl rfl (.inl rfl) (S.add rfl (L 0 rfl rfl) K) ?_
        refine U.p rfl rfl (.inl rfl) (S.assign rfl (L 0 rfl rfl)) ?_
        refine U.done (Nat.le_of_ble_eq_true rfl) ?_
        refine sqN ?_
        exact ⟨_, V30, rfl, ⟨m10, Nat.lt_succ_self _, xs17, w64 (x4 + 1), rfl, ((le8.trans le22).trans le31), ow32, backS h84 e12⟩, (allCons (L 3 rfl rfl) (allCons (L 4 rfl rfl) (allCons (L 5 rfl rfl) (allCons (L 6 rfl rfl) (allCons (L 0 rfl rfl) allNil)))))⟩
    · skip
      refine WP.udreg rfl rfl rfl ?_
      refine U.p rfl rfl (.inl rfl) (S.move rfl (L 5 rfl rfl)) ?_
      refine U.p rfl rfl (.inl rfl) (S.move rfl (L 2 rfl rfl)) ?_
      refine U.p rfl rfl (.inl rfl) (S.gtr rfl (L 1 rfl rfl) (L 0 rfl rfl)) ?_
      refine U.p rfl rfl (.inl rfl) (S.move rfl (L 0 rfl rfl)) ?_
      refine bcase (b := decide (p1 < x18)) (fun g85 => ?_) (fun g85 => ?_)
      · have h86 := ifT g85 h28
        refine U.p rfl rfl (.inr ⟨_, _, _, rfl, rfl, ((L 0 rfl rfl).trans (congrArg Value.bool g85))⟩) (S.move rfl (L 7 rfl rfl)) ?_
        refine U.p rfl rfl (.inr ⟨_, _, _, rfl, rfl, ((L 1 rfl rfl).trans (congrArg Value.bool g85))⟩) (S.move rfl (L 5 rfl rfl)) ?_
        refine U.p rfl rfl (.inr ⟨_, _, _, rfl, rfl, ((L 2 rfl rfl).trans (congrArg Value.bool g85))⟩) (S.move rfl (L 11 rfl rfl)) ?_
        obtain ⟨x87, hx88, h89⟩ := bindS h86
        obtain ⟨b90, o91, n92, c93, hv94⟩ := ow23.ospt (k := 0) rfl hx88
        obtain ⟨_, hv95, _⟩ := ow23.osel (k := 0) rfl hv94 hx88
        refine U.p rfl rfl (.inr ⟨_, _, _, rfl, rfl, ((L 3 rfl rfl).trans (congrArg Value.bool g85))⟩) (S.index rfl ((L 1 rfl rfl).trans hv95) (L 0 rfl rfl) Try.underlying39 ti44 (ix_ge hx88) (ix_lt hx88)) ?_
        obtain ⟨cs96, hv97, hlt98, hr99, hc100⟩ := ow23.osel (k := 0) rfl hv94 hx88
        obtain rfl : cs96 = [.int .i64 x87.reg, .int .i64 x87.from_, .int .i64 x87.to_] := hr99
        refine U.k rfl rfl (.inr ⟨_, _, _, rfl, rfl, ((L 4 rfl rfl).trans (congrArg Value.bool g85))⟩) (S.loadN (cs := [.int .i64 x87.reg, .int .i64 x87.from_, .int .i64 x87.to_]) rfl (L 0 rfl rfl) Try.underlying44 rfl ti44 rfl hc100) (fun _ => (okH.nil (fun r h => by cases h; exact hlt98))) ?_
        refine U.p rfl rfl (.inr ⟨_, _, _, rfl, rfl, ((L 5 rfl rfl).trans (congrArg Value.bool g85))⟩) (S.move rfl (L 9 rfl rfl)) ?_
        refine U.p rfl rfl (.inr ⟨_, _, _, rfl, rfl, ((L 6 rfl rfl).trans (congrArg Value.bool g85))⟩) (S.move rfl (L 15 rfl rfl)) ?_
        refine U.p rfl rfl (.inr ⟨_, _, _, rfl, rfl, ((L 7 rfl rfl).trans (congrArg Value.bool g85))⟩) (S.sub rfl (L 0 rfl rfl) K) ?_
        obtain ⟨x101, hx102, h103⟩ := bindS h89
        obtain ⟨_, hv104, _⟩ := ow23.osel (k := 0) rfl hv94 hx102
        refine U.p rfl rfl (.inr ⟨_, _, _, rfl, rfl, ((L 8 rfl rfl).trans (congrArg Value.bool g85))⟩) (S.index rfl ((L 2 rfl rfl).trans hv104) (L 0 rfl rfl) Try.underlying39 ti44 (ix_ge hx102) (ix_lt hx102)) ?_
        obtain ⟨cs105, hv106, hlt107, hr108, hc109⟩ := ow23.osel (k := 0) rfl hv94 hx102
        obtain rfl : cs105 = [.int .i64 x101.reg, .int .i64 x101.from_, .int .i64 x101.to_] := hr108
        refine U.k rfl rfl (.inr ⟨_, _, _, rfl, rfl, ((L 9 rfl rfl).trans (congrArg Value.bool g85))⟩) (S.loadN (cs := [.int .i64 x101.reg, .int .i64 x101.from_, .int .i64 x101.to_]) rfl (L 0 rfl rfl) Try.underlying44 rfl ti44 rfl hc109) (fun _ => (okH.cons trivial (okH.nil (fun r h => by cases h; exact hlt107)))) ?_
        obtain ⟨x110, hx111, h112⟩ := bindS h103
        refine O.callv (V := V21) rfl rfl (.inr ⟨_, _, _, rfl, rfl, ((L 10 rfl rfl).trans (congrArg Value.bool g85))⟩) rfl (L 9 rfl rfl) en28 (aC (L 5 rfl rfl) (aC (L 0 rfl rfl) aN)) (wk_flow_Spans_c1 V21 _ x87 x101 ow23 _ hx111) (fun v113 V114 le115 hp116 => by obtain ⟨rfl, ow117⟩ := hp116; exact (fun _ => (okH.cons (Or.inl rfl) (okH.cons (Or.inl rfl) (okH.nil (fun r h => nomatch h)))))) (fun v113 V114 le115 hp116 => ?_)
        obtain ⟨rfl, ow117⟩ := hp116
        refine U.p rfl rfl (.inr ⟨_, _, _, rfl, rfl, ((L 11 rfl rfl).trans (congrArg Value.bool g85))⟩) (S.lss rfl (L 0 rfl rfl) K) ?_
        refine U.p rfl rfl (.inl rfl) (S.pickT rfl ((L 12 rfl rfl).trans (congrArg Value.bool g85)) (L 0 rfl rfl)) ?_
        refine U.done (Nat.le_of_ble_eq_true rfl) ?_
        refine sqN ?_
        exact ⟨_, V114, rfl, ⟨decide (x110 < 0), rfl, le115, ow117, h112⟩, (allCons (L 17 rfl rfl) (allCons (L 18 rfl rfl) (allCons (L 19 rfl rfl) (allCons (L 20 rfl rfl) (allCons (L 21 rfl rfl) (allCons (L 22 rfl rfl) (allCons (L 0 rfl rfl) allNil)))))))⟩
      · have h118 := ifF g85 h28
        refine U.x rfl rfl rfl rfl ((L 0 rfl rfl).trans (congrArg Value.bool g85)) (by decide) ?_
        refine U.x rfl rfl rfl rfl ((L 1 rfl rfl).trans (congrArg Value.bool g85)) (by decide) ?_
        refine U.x rfl rfl rfl rfl ((L 2 rfl rfl).trans (congrArg Value.bool g85)) (by decide) ?_
        refine U.x rfl rfl rfl rfl ((L 3 rfl rfl).trans (congrArg Value.bool g85)) (by decide) ?_
        refine U.x rfl rfl rfl rfl ((L 4 rfl rfl).trans (congrArg Value.bool g85)) (by decide) ?_
        refine U.x rfl rfl rfl rfl ((L 5 rfl rfl).trans (congrArg Value.bool g85)) (by decide) ?_
        refine U.x rfl rfl rfl rfl ((L 6 rfl rfl).trans (congrArg Value.bool g85)) (by decide) ?_
        refine U.x rfl rfl rfl rfl ((L 7 rfl rfl).trans (congrArg Value.bool g85)) (by decide) ?_
        refine U.x rfl rfl rfl rfl ((L 8 rfl rfl).trans (congrArg Value.bool g85)) (by decide) ?_
        refine U.x rfl rfl rfl rfl ((L 9 rfl rfl).trans (congrArg Value.bool g85)) (by decide) ?_
        refine U.x rfl rfl rfl rfl ((L 10 rfl rfl).trans (congrArg Value.bool g85)) (by decide) ?_
        refine U.x rfl rfl rfl rfl ((L 11 rfl rfl).trans (congrArg Value.bool g85)) (by decide) ?_
        refine U.p rfl rfl (.inl rfl) (S.pickF rfl ((L 12 rfl rfl).trans (congrArg Value.bool g85)) K) ?_
        refine U.done (Nat.le_of_ble_eq_true rfl) ?_
        refine sqN ?_
        exact ⟨_, V21, rfl, ⟨false, rfl, (.refl _), ow23, h118⟩, (allCons (L 17 rfl rfl) (allCons (L 18 rfl rfl) (allCons (L 19 rfl rfl) (allCons (L 20 rfl rfl) (allCons (L 21 rfl rfl) (allCons (L 22 rfl rfl) (allCons (L 0 rfl rfl) allNil)))))))⟩
  · have h119 := ifF c15 h14
    refine WP.exit ?_
    refine sqE (sqE (blkE ?_))
    have h120 := exitS h119 e12
    refine fin.slots' (.inl rfl) fsN rfl ⟨V7, rfl, le8, ?_⟩
    have e121 := Option.some.inj h120
    subst e121
    exact ow9

set_option maxHeartbeats 4000000 in
set_option maxRecDepth 10000 in
theorem wk_slices_siftDownCmpFunc (V : Vw) (Rs : List At) (p0 : List Tflow_Span) (p1 : Int) (p2 : Int) (p3 : Int) (v1 : Value) (ow : Ow V (.os RT_Tflow_Span v1 p0 :: Rs)) (r : List Tflow_Span) (h : slices_siftDownCmpFunc p0 p1 p2 p3 = some r) : ∃ v V', Cl Try.prog 0 51 #[v1, .int .i64 p1, .int .i64 p2, .int .i64 p3, .func (.func 28) #[] #[]] V.H v V'.H ∧ V.le V' ∧ (Ow V' (.os RT_Tflow_Span v1 r :: Rs)) := by
  refine Ct.of (Nat.zero_le _) Try.func51 rfl (Nat.le_of_ble_eq_true rfl) ?_
  unfold slices_siftDownCmpFunc at h
  refine WP.usreg rfl ?_
  refine U.p rfl rfl (.inl rfl) (S.move rfl (L 1 rfl rfl)) ?_
  refine U.p rfl rfl (.inl rfl) (S.assign rfl (L 0 rfl rfl)) ?_
  refine U.done (Nat.le_of_ble_eq_true rfl) ?_
  refine WP.blk ?_
  unfold slices_siftDownCmpFunc_l1 at h
  obtain ⟨n6, hn5⟩ := loopO_some.1 h
  refine WP.loopI2 (fun n l V' => ∃ (xs3 : List Tflow_Span) (x4 : Int), l = [(0, v1), (2, .int .i64 p2), (3, .int .i64 p3), (4, .func (.func 28) #[] #[]), (10, .int .i64 x4)] ∧ V.le V' ∧ Ow V' (.os RT_Tflow_Span v1 xs3 :: Rs) ∧ itO (fun s => slices_siftDownCmpFunc_l1b p2 p3 s.1 s.2) n (xs3, x4) = some r) n6 _ ⟨p0, p1, rfl, .refl _, ow, hn5⟩ (allCons (L 2 rfl rfl) (allCons (L 4 rfl rfl) (allCons (L 5 rfl rfl) (allCons (L 6 rfl rfl) (allCons (L 0 rfl rfl) allNil))))) ?_
  rintro _ _ V7 ⟨xs3, x4, rfl, le8, ow9, h13⟩
  obtain ⟨m10, q11, rfl, h14, e12⟩ := itS h13
  replace h14 : slices_siftDownCmpFunc_l1b p2 p3 xs3 x4 = some q11 := h14
  unfold slices_siftDownCmpFunc_l1b at h14
  refine WP.blk ?_
  refine WP.usreg rfl ?_
  refine U.p rfl rfl (.inl rfl) (S.move rfl (L 4 rfl rfl)) ?_
  refine U.p rfl rfl (.inl rfl) (S.mul rfl K (L 0 rfl rfl)) ?_
  refine U.p rfl rfl (.inl rfl) (S.add rfl (L 0 rfl rfl) K) ?_
  refine U.p rfl rfl (.inl rfl) (S.assign rfl (L 0 rfl rfl)) ?_
  refine U.done (Nat.le_of_ble_eq_true rfl) ?_
  refine WP.seq ?_
  refine WP.usreg rfl ?_
  refine U.p rfl rfl (.inl rfl) (S.move rfl (L 0 rfl rfl)) ?_
  refine U.p rfl rfl (.inl rfl) (S.move rfl (L 6 rfl rfl)) ?_
  refine U.p rfl rfl (.inl rfl) (S.geq rfl (L 1 rfl rfl) (L 0 rfl rfl)) ?_
  refine U.done (Nat.le_of_ble_eq_true rfl) ?_
  refine WP.cond _ (L 0 rfl rfl) rfl (fun c15 => ?_) (fun c15 => ?_)
  · have h16 := ifT c15 h14
    refine WP.exit ?_
    refine sqE (blkO rfl (sqE (blkE ?_)))
    have h17 := exitS h16 e12
    refine fin.slots' (.inl rfl) fsN rfl ⟨V7, rfl, le8, ?_⟩
    have e18 := Option.some.inj h17
    subst e18
    exact ow9
  · have h19 := ifF c15 h14
    refine WP.skip ?_
    refine sqN ?_
    refine WP.seqI (fun l V' => ∃ (x20 : Int), l = [(0, v1), (2, .int .i64 p2), (3, .int .i64 p3), (4, .func (.func 28) #[] #[]), (10, .int .i64 x4), (11, .int .i64 x20)] ∧ V7.le V' ∧ Ow V' (.os RT_Tflow_Span v1 xs3 :: Rs) ∧ slices_siftDownCmpFunc_k1 p3 xs3 x4 x20 = some q11) ?_ ?_
    · rintro _ V21 ⟨x20, rfl, le22, ow23, h24⟩
      unfold slices_siftDownCmpFunc_k1 at h24
      refine WP.seq ?_
      refine WP.usdreg rfl rfl rfl ?_
      refine U.p rfl rfl (.inl rfl) (S.move rfl (L 3 rfl rfl)) ?_
      refine U.p rfl rfl (.inl rfl) (S.move rfl (L 1 rfl rfl)) ?_
      refine U.p rfl rfl (.inl rfl) (S.move rfl (L 4 rfl rfl)) ?_
      refine U.p rfl rfl (.inl rfl) (S.move rfl (L 7 rfl rfl)) ?_
      refine U.p rfl rfl (.inl rfl) (S.add rfl (L 1 rfl rfl) (L 0 rfl rfl)) ?_
      obtain ⟨x25, hx26, h27⟩ := bindS h24
      obtain ⟨b28, o29, n30, c31, hv32⟩ := ow23.ospt (k := 0) rfl hx26
      obtain ⟨_, hv33, _⟩ := ow23.osel (k := 0) rfl hv32 hx26
      refine U.p rfl rfl (.inl rfl) (S.index rfl ((L 3 rfl rfl).trans hv33) (L 0 rfl rfl) Try.underlying39 ti44 (ix_ge hx26) (ix_lt hx26)) ?_
      obtain ⟨cs34, hv35, hlt36, hr37, hc38⟩ := ow23.osel (k := 0) rfl hv32 hx26
      obtain rfl : cs34 = [.int .i64 x25.reg, .int .i64 x25.from_, .int .i64 x25.to_] := hr37
      refine U.k rfl rfl (.inl rfl) (S.loadN (cs := [.int .i64 x25.reg, .int .i64 x25.from_, .int .i64 x25.to_]) rfl (L 0 rfl rfl) Try.underlying44 rfl ti44 rfl hc38) (fun _ => (okH.nil (fun r h => by cases h; exact hlt36))) ?_
      refine U.p rfl rfl (.inl rfl) (S.move rfl (L 7 rfl rfl)) ?_
      refine U.p rfl rfl (.inl rfl) (S.move rfl (L 10 rfl rfl)) ?_
      refine U.p rfl rfl (.inl rfl) (S.move rfl (L 14 rfl rfl)) ?_
      refine U.p rfl rfl (.inl rfl) (S.add rfl (L 1 rfl rfl) (L 0 rfl rfl)) ?_
      obtain ⟨x39, hx40, h41⟩ := bindS h27
      obtain ⟨_, hv42, _⟩ := ow23.osel (k := 0) rfl hv32 hx40
      refine U.p rfl rfl (.inl rfl) (S.index rfl ((L 3 rfl rfl).trans hv42) (L 0 rfl rfl) Try.underlying39 ti44 (ix_ge hx40) (ix_lt hx40)) ?_
      obtain ⟨cs43, hv44, hlt45, hr46, hc47⟩ := ow23.osel (k := 0) rfl hv32 hx40
      obtain rfl : cs43 = [.int .i64 x39.reg, .int .i64 x39.from_, .int .i64 x39.to_] := hr46
      refine U.k rfl rfl (.inl rfl) (S.loadN (cs := [.int .i64 x39.reg, .int .i64 x39.from_, .int .i64 x39.to_]) rfl (L 0 rfl rfl) Try.underlying44 rfl ti44 rfl hc47) (fun _ => (okH.cons trivial (okH.nil (fun r h => by cases h; exact hlt45)))) ?_
      obtain ⟨x48, hx49, h50⟩ := bindS h41
      refine O.callv (V := V21) rfl rfl (.inl rfl) rfl (L 12 rfl rfl) en28 (aC (L 6 rfl rfl) (aC (L 0 rfl rfl) aN)) (wk_flow_Spans_c1 V21 _ x25 x39 ow23 _ hx49) (fun v51 V52 le53 hp54 => by obtain ⟨rfl, ow55⟩ := hp54; exact (fun _ => (okH.cons (Or.inl rfl) (okH.cons (Or.inl rfl) (okH.nil (fun r h => nomatch h)))))) (fun v51 V52 le53 hp54 => ?_)
      obtain ⟨rfl, ow55⟩ := hp54
      refine U.p rfl rfl (.inl rfl) (S.lss rfl (L 0 rfl rfl) K) ?_
      refine U.p rfl rfl (.inl rfl) (S.not rfl (L 0 rfl rfl)) ?_
      refine U.done (Nat.le_of_ble_eq_true rfl) ?_
      refine WP.cond _ (L 0 rfl rfl) rfl (fun c56 => ?_) (fun c56 => ?_)
      · have h57 := ifT c56 h50
        have k58 : (decide (x48 < 0)) = false := by simpa using c56
        refine WP.ret ?_
        refine sqR (blkR (sqR (blkR ?_)))
        have h59 := exitS h57 e12
        refine fin.slots' (.inr rfl) fsN rfl ⟨V52, rfl, ((le8.trans le22).trans le53), ?_⟩
        have e60 := Option.some.inj h59
        subst e60
        exact ow55
      · have h61 := ifF c56 h50
        have k62 : (decide (x48 < 0)) = true := by simpa using c56
        refine WP.skip ?_
        refine sqN ?_
        refine WP.usdreg rfl rfl rfl ?_
        refine U.p rfl rfl (.inl rfl) (S.move rfl (L 16 rfl rfl)) ?_
        refine U.p rfl rfl (.inl rfl) (S.move rfl (L 19 rfl rfl)) ?_
        refine U.p rfl rfl (.inl rfl) (S.move rfl (L 22 rfl rfl)) ?_
        refine U.p rfl rfl (.inl rfl) (S.add rfl (L 1 rfl rfl) (L 0 rfl rfl)) ?_
        refine U.p rfl rfl (.inl rfl) (S.move rfl (L 20 rfl rfl)) ?_
        refine U.p rfl rfl (.inl rfl) (S.move rfl (L 23 rfl rfl)) ?_
        refine U.p rfl rfl (.inl rfl) (S.move rfl (L 27 rfl rfl)) ?_
        refine U.p rfl rfl (.inl rfl) (S.add rfl (L 1 rfl rfl) (L 0 rfl rfl)) ?_
        refine U.p rfl rfl (.inl rfl) (S.move rfl (L 24 rfl rfl)) ?_
        refine U.p rfl rfl (.inl rfl) (S.move rfl (L 27 rfl rfl)) ?_
        refine U.p rfl rfl (.inl rfl) (S.move rfl (L 31 rfl rfl)) ?_
        refine U.p rfl rfl (.inl rfl) (S.add rfl (L 1 rfl rfl) (L 0 rfl rfl)) ?_
        obtain ⟨x63, hx64, h65⟩ := bindS h61
        obtain ⟨_, hv66, _⟩ := ow55.osel (k := 0) rfl hv32 hx64
        refine U.p rfl rfl (.inl rfl) (S.index rfl ((L 3 rfl rfl).trans hv66) (L 0 rfl rfl) Try.underlying39 ti44 (ix_ge hx64) (ix_lt hx64)) ?_
        obtain ⟨cs67, hv68, hlt69, hr70, hc71⟩ := ow55.osel (k := 0) rfl hv32 hx64
        obtain rfl : cs67 = [.int .i64 x63.reg, .int .i64 x63.from_, .int .i64 x63.to_] := hr70
        refine U.k rfl rfl (.inl rfl) (S.loadN (cs := [.int .i64 x63.reg, .int .i64 x63.from_, .int .i64 x63.to_]) rfl (L 0 rfl rfl) Try.underlying44 rfl ti44 rfl hc71) (fun _ => (okH.nil (fun r h => by cases h; exact hlt69))) ?_
        refine U.p rfl rfl (.inl rfl) (S.move rfl (L 30 rfl rfl)) ?_
        refine U.p rfl rfl (.inl rfl) (S.move rfl (L 33 rfl rfl)) ?_
        refine U.p rfl rfl (.inl rfl) (S.move rfl (L 36 rfl rfl)) ?_
        refine U.p rfl rfl (.inl rfl) (S.add rfl (L 1 rfl rfl) (L 0 rfl rfl)) ?_
        obtain ⟨x72, hx73, h74⟩ := bindS h65
        obtain ⟨_, hv75, _⟩ := ow55.osel (k := 0) rfl hv32 hx73
        refine U.p rfl rfl (.inl rfl) (S.index rfl ((L 3 rfl rfl).trans hv75) (L 0 rfl rfl) Try.underlying39 ti44 (ix_ge hx73) (ix_lt hx73)) ?_
        obtain ⟨cs76, hv77, hlt78, hr79, hc80⟩ := ow55.osel (k := 0) rfl hv32 hx73
        obtain rfl : cs76 = [.int .i64 x72.reg, .int .i64 x72.from_, .int .i64 x72.to_] := hr79
        refine U.k rfl rfl (.inl rfl) (S.loadN (cs := [.int .i64 x72.reg, .int .i64 x72.from_, .int .i64 x72.to_]) rfl (L 0 rfl rfl) Try.underlying44 rfl ti44 rfl hc80) (fun _ => (okH.cons trivial (okH.nil (fun r h => by cases h; exact hlt78)))) ?_
        obtain ⟨x81, hx82, h83⟩ := bindS h74
        obtain ⟨_, hv84, _⟩ := ow55.osel (k := 0) rfl hv32 hx82
        refine U.p rfl rfl (.inl rfl) (S.index rfl ((L 19 rfl rfl).trans hv84) (L 16 rfl rfl) Try.underlying39 ti44 (ix_ge hx82) (ix_lt hx82)) ?_
        obtain ⟨cs85, hv86, hlt87, hr88, hc89⟩ := ow55.osel (k := 0) rfl hv32 hx82
        obtain rfl : cs85 = [.int .i64 x81.reg, .int .i64 x81.from_, .int .i64 x81.to_] := hr88
        refine O.storeE (k := 0) (R := RT_Tflow_Span) (j := 0) (y := x63) (cs := [.int .i64 x63.reg, .int .i64 x63.from_, .int .i64 x63.to_]) ow55 rfl hv86 rfl rfl (.inl rfl) rfl (L 0 rfl rfl) (L 7 rfl rfl) ti44 hx82 (by simp [topV]) rfl rfl rfl (full rfl) (fun H1 hs => (fun _ => (okH.cons (Or.inl rfl) (okH.cons (Or.inl rfl) (okH.nil (fun r h => nomatch h)))))) (fun V90 le91 ow92 => ?_)
        obtain ⟨x93, hx94, h95⟩ := bindS h83
        obtain ⟨_, hv96, _⟩ := ow92.osel (k := 0) rfl hv32 hx94
        refine U.p rfl rfl (.inl rfl) (S.index rfl ((L 16 rfl rfl).trans hv96) (L 13 rfl rfl) Try.underlying39 ti44 (ix_ge hx94) (ix_lt hx94)) ?_
        obtain ⟨cs97, hv98, hlt99, hr100, hc101⟩ := ow92.osel (k := 0) rfl hv32 hx94
        obtain rfl : cs97 = [.int .i64 x93.reg, .int .i64 x93.from_, .int .i64 x93.to_] := hr100
        refine O.storeE (k := 0) (R := RT_Tflow_Span) (j := 0) (y := x72) (cs := [.int .i64 x72.reg, .int .i64 x72.from_, .int .i64 x72.to_]) ow92 rfl hv98 rfl rfl (.inl rfl) rfl (L 0 rfl rfl) (L 2 rfl rfl) ti44 hx94 (by simp [topV]) rfl rfl rfl (full rfl) (fun H1 hs => (fun _ => (okH.cons rfl (okH.cons (Or.inl rfl) (okH.cons (Or.inl rfl) (okH.nil (fun r h => nomatch h))))))) (fun V102 le103 ow104 => ?_)
        refine U.done (Nat.le_of_ble_eq_true rfl) ?_
        refine WP.ureg rfl ?_
        refine U.p rfl rfl (.inl rfl) (S.move rfl (L 43 rfl rfl)) ?_
        refine U.p rfl rfl (.inl rfl) (S.assign rfl (L 0 rfl rfl)) ?_
        refine U.done (Nat.le_of_ble_eq_true rfl) ?_
        refine blkN (sqN ?_)
        exact ⟨_, V102, rfl, ⟨m10, Nat.lt_succ_self _, (xs3.set (Int.toNat (w64 (p3 + x4))) x63).set (Int.toNat (w64 (p3 + x20))) x72, x20, rfl, ((((le8.trans le22).trans le53).trans le91).trans le103), ow104, backS h95 e12⟩, (allCons (L 40 rfl rfl) (allCons (L 41 rfl rfl) (allCons (L 42 rfl rfl) (allCons (L 43 rfl rfl) (allCons (L 0 rfl rfl) allNil)))))⟩
    · skip
      refine WP.seqI (fun l V' => ∃ (x105 : Bool), l = [(0, v1), (2, .int .i64 p2), (3, .int .i64 p3), (4, .func (.func 28) #[] #[]), (10, .int .i64 x4), (11, .int .i64 (w64 ((w64 (2 * x4)) + 1))), (40, .bool x105)] ∧ V7.le V' ∧ Ow V' (.os RT_Tflow_Span v1 xs3 :: Rs) ∧ slices_siftDownCmpFunc_k2 p3 xs3 x4 x105 = some q11) ?_ ?_
      · rintro _ V106 ⟨x105, rfl, le107, ow108, h109⟩
        unfold slices_siftDownCmpFunc_k2 at h109
        refine WP.cond _ (L 6 rfl rfl) rfl (fun c110 => ?_) (fun c110 => ?_)
        · have h111 := ifT c110 h109
          refine WP.ureg rfl ?_
          refine U.p rfl rfl (.inl rfl) (S.move rfl (L 5 rfl rfl)) ?_
          refine U.p rfl rfl (.inl rfl) (S.add rfl (L 0 rfl rfl) K) ?_
          refine U.p rfl rfl (.inl rfl) (S.assign rfl (L 0 rfl rfl)) ?_
          refine U.done (Nat.le_of_ble_eq_true rfl) ?_
          refine sqN ?_
          exact ⟨_, V106, rfl, ⟨w64 ((w64 ((w64 (2 * x4)) + 1)) + 1), rfl, le107, ow108, h111⟩, (allCons (L 3 rfl rfl) (allCons (L 4 rfl rfl) (allCons (L 5 rfl rfl) (allCons (L 6 rfl rfl) (allCons (L 7 rfl rfl) (allCons (L 0 rfl rfl) allNil))))))⟩
        · have h112 := ifF c110 h109
          refine WP.skip ?_
          refine sqN ?_
          exact ⟨_, V106, rfl, ⟨w64 ((w64 (2 * x4)) + 1), rfl, le107, ow108, h112⟩, (allCons (L 0 rfl rfl) (allCons (L 1 rfl rfl) (allCons (L 2 rfl rfl) (allCons (L 3 rfl rfl) (allCons (L 4 rfl rfl) (allCons (L 5 rfl rfl) allNil))))))⟩
      · skip
        refine WP.udreg rfl rfl rfl ?_
        refine U.p rfl rfl (.inl rfl) (S.move rfl (L 3 rfl rfl)) ?_
        refine U.p rfl rfl (.inl rfl) (S.add rfl (L 0 rfl rfl) K) ?_
        refine U.p rfl rfl (.inl rfl) (S.move rfl (L 10 rfl rfl)) ?_
        refine U.p rfl rfl (.inl rfl) (S.lss rfl (L 1 rfl rfl) (L 0 rfl rfl)) ?_
        refine U.p rfl rfl (.inl rfl) (S.move rfl (L 0 rfl rfl)) ?_
        refine bcase (b := decide ((w64 ((w64 ((w64 (2 * x4)) + 1)) + 1)) < p2)) (fun g113 => ?_) (fun g113 => ?_)
        · have h114 := ifT g113 h19
          refine U.p rfl rfl (.inr ⟨_, _, _, rfl, rfl, ((L 0 rfl rfl).trans (congrArg Value.bool g113))⟩) (S.move rfl (L 15 rfl rfl)) ?_
          refine U.p rfl rfl (.inr ⟨_, _, _, rfl, rfl, ((L 1 rfl rfl).trans (congrArg Value.bool g113))⟩) (S.move rfl (L 13 rfl rfl)) ?_
          refine U.p rfl rfl (.inr ⟨_, _, _, rfl, rfl, ((L 2 rfl rfl).trans (congrArg Value.bool g113))⟩) (S.move rfl (L 16 rfl rfl)) ?_
          refine U.p rfl rfl (.inr ⟨_, _, _, rfl, rfl, ((L 3 rfl rfl).trans (congrArg Value.bool g113))⟩) (S.move rfl (L 11 rfl rfl)) ?_
          refine U.p rfl rfl (.inr ⟨_, _, _, rfl, rfl, ((L 4 rfl rfl).trans (congrArg Value.bool g113))⟩) (S.add rfl (L 1 rfl rfl) (L 0 rfl rfl)) ?_
          obtain ⟨x115, hx116, h117⟩ := bindS h114
          obtain ⟨b118, o119, n120, c121, hv122⟩ := ow9.ospt (k := 0) rfl hx116
          obtain ⟨_, hv123, _⟩ := ow9.osel (k := 0) rfl hv122 hx116
          refine U.p rfl rfl (.inr ⟨_, _, _, rfl, rfl, ((L 5 rfl rfl).trans (congrArg Value.bool g113))⟩) (S.index rfl ((L 3 rfl rfl).trans hv123) (L 0 rfl rfl) Try.underlying39 ti44 (ix_ge hx116) (ix_lt hx116)) ?_
          obtain ⟨cs124, hv125, hlt126, hr127, hc128⟩ := ow9.osel (k := 0) rfl hv122 hx116
          obtain rfl : cs124 = [.int .i64 x115.reg, .int .i64 x115.from_, .int .i64 x115.to_] := hr127
          refine U.k rfl rfl (.inr ⟨_, _, _, rfl, rfl, ((L 6 rfl rfl).trans (congrArg Value.bool g113))⟩) (S.loadN (cs := [.int .i64 x115.reg, .int .i64 x115.from_, .int .i64 x115.to_]) rfl (L 0 rfl rfl) Try.underlying44 rfl ti44 rfl hc128) (fun _ => (okH.nil (fun r h => by cases h; exact hlt126))) ?_
          refine U.p rfl rfl (.inr ⟨_, _, _, rfl, rfl, ((L 7 rfl rfl).trans (congrArg Value.bool g113))⟩) (S.move rfl (L 19 rfl rfl)) ?_
          refine U.p rfl rfl (.inr ⟨_, _, _, rfl, rfl, ((L 8 rfl rfl).trans (congrArg Value.bool g113))⟩) (S.move rfl (L 22 rfl rfl)) ?_
          refine U.p rfl rfl (.inr ⟨_, _, _, rfl, rfl, ((L 9 rfl rfl).trans (congrArg Value.bool g113))⟩) (S.move rfl (L 17 rfl rfl)) ?_
          refine U.p rfl rfl (.inr ⟨_, _, _, rfl, rfl, ((L 10 rfl rfl).trans (congrArg Value.bool g113))⟩) (S.add rfl (L 1 rfl rfl) (L 0 rfl rfl)) ?_
          refine U.p rfl rfl (.inr ⟨_, _, _, rfl, rfl, ((L 11 rfl rfl).trans (congrArg Value.bool g113))⟩) (S.add rfl (L 0 rfl rfl) K) ?_
          obtain ⟨x129, hx130, h131⟩ := bindS h117
          obtain ⟨_, hv132, _⟩ := ow9.osel (k := 0) rfl hv122 hx130
          refine U.p rfl rfl (.inr ⟨_, _, _, rfl, rfl, ((L 12 rfl rfl).trans (congrArg Value.bool g113))⟩) (S.index rfl ((L 4 rfl rfl).trans hv132) (L 0 rfl rfl) Try.underlying39 ti44 (ix_ge hx130) (ix_lt hx130)) ?_
          obtain ⟨cs133, hv134, hlt135, hr136, hc137⟩ := ow9.osel (k := 0) rfl hv122 hx130
          obtain rfl : cs133 = [.int .i64 x129.reg, .int .i64 x129.from_, .int .i64 x129.to_] := hr136
          refine U.k rfl rfl (.inr ⟨_, _, _, rfl, rfl, ((L 13 rfl rfl).trans (congrArg Value.bool g113))⟩) (S.loadN (cs := [.int .i64 x129.reg, .int .i64 x129.from_, .int .i64 x129.to_]) rfl (L 0 rfl rfl) Try.underlying44 rfl ti44 rfl hc137) (fun _ => (okH.cons trivial (okH.nil (fun r h => by cases h; exact hlt135)))) ?_
          obtain ⟨x138, hx139, h140⟩ := bindS h131
          refine O.callv (V := V7) rfl rfl (.inr ⟨_, _, _, rfl, rfl, ((L 14 rfl rfl).trans (congrArg Value.bool g113))⟩) rfl (L 13 rfl rfl) en28 (aC (L 7 rfl rfl) (aC (L 0 rfl rfl) aN)) (wk_flow_Spans_c1 V7 _ x115 x129 ow9 _ hx139) (fun v141 V142 le143 hp144 => by obtain ⟨rfl, ow145⟩ := hp144; exact (fun _ => (okH.cons (Or.inl rfl) (okH.cons (Or.inl rfl) (okH.nil (fun r h => nomatch h)))))) (fun v141 V142 le143 hp144 => ?_)
          obtain ⟨rfl, ow145⟩ := hp144
          refine U.p rfl rfl (.inr ⟨_, _, _, rfl, rfl, ((L 15 rfl rfl).trans (congrArg Value.bool g113))⟩) (S.lss rfl (L 0 rfl rfl) K) ?_
          refine U.p rfl rfl (.inl rfl) (S.pickT rfl ((L 16 rfl rfl).trans (congrArg Value.bool g113)) (L 0 rfl rfl)) ?_
          refine U.done (Nat.le_of_ble_eq_true rfl) ?_
          refine sqN ?_
          exact ⟨_, V142, rfl, ⟨decide (x138 < 0), rfl, le143, ow145, h140⟩, (allCons (L 29 rfl rfl) (allCons (L 30 rfl rfl) (allCons (L 31 rfl rfl) (allCons (L 32 rfl rfl) (allCons (L 33 rfl rfl) (allCons (L 25 rfl rfl) (allCons (L 0 rfl rfl) allNil)))))))⟩
        · have h146 := ifF g113 h19
          refine U.x rfl rfl rfl rfl ((L 0 rfl rfl).trans (congrArg Value.bool g113)) (by decide) ?_
          refine U.x rfl rfl rfl rfl ((L 1 rfl rfl).trans (congrArg Value.bool g113)) (by decide) ?_
          refine U.x rfl rfl rfl rfl ((L 2 rfl rfl).trans (congrArg Value.bool g113)) (by decide) ?_
          refine U.x rfl rfl rfl rfl ((L 3 rfl rfl).trans (congrArg Value.bool g113)) (by decide) ?_
          refine U.x rfl rfl rfl rfl ((L 4 rfl rfl).trans (congrArg Value.bool g113)) (by decide) ?_
          refine U.x rfl rfl rfl rfl ((L 5 rfl rfl).trans (congrArg Value.bool g113)) (by decide) ?_
          refine U.x rfl rfl rfl rfl ((L 6 rfl rfl).trans (congrArg Value.bool g113)) (by decide) ?_
          refine U.x rfl rfl rfl rfl ((L 7 rfl rfl).trans (congrArg Value.bool g113)) (by decide) ?_
          refine U.x rfl rfl rfl rfl ((L 8 rfl rfl).trans (congrArg Value.bool g113)) (by decide) ?_
          refine U.x rfl rfl rfl rfl ((L 9 rfl rfl).trans (congrArg Value.bool g113)) (by decide) ?_
          refine U.x rfl rfl rfl rfl ((L 10 rfl rfl).trans (congrArg Value.bool g113)) (by decide) ?_
          refine U.x rfl rfl rfl rfl ((L 11 rfl rfl).trans (congrArg Value.bool g113)) (by decide) ?_
          refine U.x rfl rfl rfl rfl ((L 12 rfl rfl).trans (congrArg Value.bool g113)) (by decide) ?_
          refine U.x rfl rfl rfl rfl ((L 13 rfl rfl).trans (congrArg Value.bool g113)) (by decide) ?_
          refine U.x rfl rfl rfl rfl ((L 14 rfl rfl).trans (congrArg Value.bool g113)) (by decide) ?_
          refine U.x rfl rfl rfl rfl ((L 15 rfl rfl).trans (congrArg Value.bool g113)) (by decide) ?_
          refine U.p rfl rfl (.inl rfl) (S.pickF rfl ((L 16 rfl rfl).trans (congrArg Value.bool g113)) K) ?_
          refine U.done (Nat.le_of_ble_eq_true rfl) ?_
          refine sqN ?_
          exact ⟨_, V7, rfl, ⟨false, rfl, (.refl _), ow9, h146⟩, (allCons (L 29 rfl rfl) (allCons (L 30 rfl rfl) (allCons (L 31 rfl rfl) (allCons (L 32 rfl rfl) (allCons (L 33 rfl rfl) (allCons (L 25 rfl rfl) (allCons (L 0 rfl rfl) allNil)))))))⟩

set_option maxHeartbeats 4000000 in
set_option maxRecDepth 10000 in
theorem wk_slices_heapSortCmpFunc (V : Vw) (Rs : List At) (p0 : List Tflow_Span) (p1 : Int) (p2 : Int) (v1 : Value) (ow : Ow V (.os RT_Tflow_Span v1 p0 :: Rs)) (r : List Tflow_Span) (h : slices_heapSortCmpFunc p0 p1 p2 = some r) : ∃ v V', Cl Try.prog 0 42 #[v1, .int .i64 p1, .int .i64 p2, .func (.func 28) #[] #[]] V.H v V'.H ∧ V.le V' ∧ (Ow V' (.os RT_Tflow_Span v1 r :: Rs)) := by
  refine Ct.of (Nat.zero_le _) Try.func42 rfl (Nat.le_of_ble_eq_true rfl) ?_
  unfold slices_heapSortCmpFunc at h
  refine WP.usreg rfl ?_
  refine U.p rfl rfl (.inl rfl) (S.move rfl (L 1 rfl rfl)) ?_
  refine U.p rfl rfl (.inl rfl) (S.assign rfl (L 0 rfl rfl)) ?_
  refine U.done (Nat.le_of_ble_eq_true rfl) ?_
  refine WP.usreg rfl ?_
  refine U.p rfl rfl (.inl rfl) (S.assign rfl K) ?_
  refine U.done (Nat.le_of_ble_eq_true rfl) ?_
  refine WP.usreg rfl ?_
  refine U.p rfl rfl (.inl rfl) (S.move rfl (L 5 rfl rfl)) ?_
  refine U.p rfl rfl (.inl rfl) (S.move rfl (L 5 rfl rfl)) ?_
  refine U.p rfl rfl (.inl rfl) (S.sub rfl (L 1 rfl rfl) (L 0 rfl rfl)) ?_
  refine U.p rfl rfl (.inl rfl) (S.assign rfl (L 0 rfl rfl)) ?_
  refine U.done (Nat.le_of_ble_eq_true rfl) ?_
  refine WP.seq ?_
  refine WP.usreg rfl ?_
  refine U.p rfl rfl (.inl rfl) (S.move rfl (L 0 rfl rfl)) ?_
  refine U.p rfl rfl (.inl rfl) (S.sub rfl (L 0 rfl rfl) K) ?_
  obtain ⟨x3, hx4, h5⟩ := bindS h
  refine U.p rfl rfl (.inl rfl) (S.quo hx4 rfl (L 0 rfl rfl) K) ?_
  refine U.p rfl rfl (.inl rfl) (S.assign rfl (L 0 rfl rfl)) ?_
  refine U.done (Nat.le_of_ble_eq_true rfl) ?_
  refine WP.blk ?_
  unfold slices_heapSortCmpFunc_l1 at h5
  obtain ⟨n9, hn8⟩ := loopO_some.1 h5
  refine WP.loopI2 (fun n l V' => ∃ (xs6 : List Tflow_Span) (x7 : Int), l = [(0, v1), (3, .func (.func 28) #[] #[]), (8, .int .i64 p1), (9, .int .i64 0), (10, .int .i64 (w64 (p2 - p1))), (11, .int .i64 x7)] ∧ V.le V' ∧ Ow V' (.os RT_Tflow_Span v1 xs6 :: Rs) ∧ itO (fun s => slices_heapSortCmpFunc_l1b p1 p2 s.1 s.2) n (xs6, x7) = some r) n9 _ ⟨p0, x3, rfl, .refl _, ow, hn8⟩ (allCons (L 11 rfl rfl) (allCons (L 14 rfl rfl) (allCons (L 9 rfl rfl) (allCons (L 8 rfl rfl) (allCons (L 4 rfl rfl) (allCons (L 0 rfl rfl) allNil)))))) ?_
  rintro _ _ V10 ⟨xs6, x7, rfl, le11, ow12, h16⟩
  obtain ⟨m13, q14, rfl, h17, e15⟩ := itS h16
  replace h17 : slices_heapSortCmpFunc_l1b p1 p2 xs6 x7 = some q14 := h17
  unfold slices_heapSortCmpFunc_l1b at h17
  refine WP.seq ?_
  refine WP.usreg rfl ?_
  refine U.p rfl rfl (.inl rfl) (S.move rfl (L 5 rfl rfl)) ?_
  refine U.p rfl rfl (.inl rfl) (S.geq rfl (L 0 rfl rfl) K) ?_
  refine U.done (Nat.le_of_ble_eq_true rfl) ?_
  refine WP.cond _ (L 0 rfl rfl) rfl (fun c18 => ?_) (fun c18 => ?_)
  · have h19 := ifT c18 h17
    refine WP.skip ?_
    refine sqN ?_
    refine WP.seq ?_
    refine WP.blk ?_
    refine WP.ureg rfl ?_
    refine U.p rfl rfl (.inl rfl) (S.move rfl (L 2 rfl rfl)) ?_
    refine U.p rfl rfl (.inl rfl) (S.move rfl (L 8 rfl rfl)) ?_
    refine U.p rfl rfl (.inl rfl) (S.move rfl (L 8 rfl rfl)) ?_
    refine U.p rfl rfl (.inl rfl) (S.move rfl (L 7 rfl rfl)) ?_
    refine U.p rfl rfl (.inl rfl) (S.move rfl (L 7 rfl rfl)) ?_
    obtain ⟨x20, hx21, h22⟩ := bindS h19
    refine O.call (V := V10) rfl rfl (.inl rfl) rfl en51 (aC (L 4 rfl rfl) (aC (L 3 rfl rfl) (aC (L 2 rfl rfl) (aC (L 1 rfl rfl) (aC (L 0 rfl rfl) aN))))) (wk_slices_siftDownCmpFunc V10 _ xs6 x7 (w64 (p2 - p1)) p1 v1 ow12 _ hx21) (fun _ _ _ _ => nd) (fun v23 V24 le25 hp26 => ?_)
    have ow27 := hp26
    refine U.done (Nat.le_of_ble_eq_true rfl) ?_
    refine blkN (sqN ?_)
    refine WP.ureg rfl ?_
    refine U.p rfl rfl (.inl rfl) (S.move rfl (L 13 rfl rfl)) ?_
    refine U.p rfl rfl (.inl rfl) (S.sub rfl (L 0 rfl rfl) K) ?_
    refine U.p rfl rfl (.inl rfl) (S.assign rfl (L 0 rfl rfl)) ?_
    refine U.done (Nat.le_of_ble_eq_true rfl) ?_
    refine sqN ?_
    exact ⟨_, V24, rfl, ⟨m13, Nat.lt_succ_self _, x20, w64 (x7 - 1), rfl, (le11.trans le25), ow27, backS h22 e15⟩, (allCons (L 11 rfl rfl) (allCons (L 12 rfl rfl) (allCons (L 13 rfl rfl) (allCons (L 14 rfl rfl) (allCons (L 15 rfl rfl) (allCons (L 0 rfl rfl) allNil))))))⟩
  · have h28 := ifF c18 h17
    refine WP.exit ?_
    refine sqE (sqE (blkE (sqN ?_)))
    have h29 := exitS h28 e15
    refine WP.usreg rfl ?_
    refine U.p rfl rfl (.inl rfl) (S.move rfl (L 6 rfl rfl)) ?_
    refine U.p rfl rfl (.inl rfl) (S.sub rfl (L 0 rfl rfl) K) ?_
    refine U.p rfl rfl (.inl rfl) (S.assign rfl (L 0 rfl rfl)) ?_
    refine U.done (Nat.le_of_ble_eq_true rfl) ?_
    refine WP.blk ?_
    unfold slices_heapSortCmpFunc_l2 at h29
    obtain ⟨n33, hn32⟩ := loopO_some.1 h29
    refine WP.loopI2 (fun n l V' => ∃ (xs30 : List Tflow_Span) (x31 : Int), l = [(0, v1), (3, .func (.func 28) #[] #[]), (8, .int .i64 p1), (9, .int .i64 0), (12, .int .i64 x31)] ∧ V10.le V' ∧ Ow V' (.os RT_Tflow_Span v1 xs30 :: Rs) ∧ itO (fun s => slices_heapSortCmpFunc_l2b p1 s.1 s.2) n (xs30, x31) = some r) n33 _ ⟨xs6, w64 ((w64 (p2 - p1)) - 1), rfl, .refl _, ow12, hn32⟩ (allCons (L 5 rfl rfl) (allCons (L 6 rfl rfl) (allCons (L 7 rfl rfl) (allCons (L 8 rfl rfl) (allCons (L 0 rfl rfl) allNil))))) ?_
    rintro _ _ V34 ⟨xs30, x31, rfl, le35, ow36, h40⟩
    obtain ⟨m37, q38, rfl, h41, e39⟩ := itS h40
    replace h41 : slices_heapSortCmpFunc_l2b p1 xs30 x31 = some q38 := h41
    unfold slices_heapSortCmpFunc_l2b at h41
    refine WP.seq ?_
    refine WP.usreg rfl ?_
    refine U.p rfl rfl (.inl rfl) (S.move rfl (L 4 rfl rfl)) ?_
    refine U.p rfl rfl (.inl rfl) (S.geq rfl (L 0 rfl rfl) K) ?_
    refine U.done (Nat.le_of_ble_eq_true rfl) ?_
    refine WP.cond _ (L 0 rfl rfl) rfl (fun c42 => ?_) (fun c42 => ?_)
    · have h43 := ifT c42 h41
      refine WP.skip ?_
      refine sqN ?_
      refine WP.seq ?_
      refine WP.blk ?_
      refine WP.usdreg rfl rfl rfl ?_
      refine U.p rfl rfl (.inl rfl) (S.move rfl (L 2 rfl rfl)) ?_
      refine U.p rfl rfl (.inl rfl) (S.move rfl (L 5 rfl rfl)) ?_
      refine U.p rfl rfl (.inl rfl) (S.move rfl (L 4 rfl rfl)) ?_
      refine U.p rfl rfl (.inl rfl) (S.move rfl (L 7 rfl rfl)) ?_
      refine U.p rfl rfl (.inl rfl) (S.move rfl (L 10 rfl rfl)) ?_
      refine U.p rfl rfl (.inl rfl) (S.add rfl (L 1 rfl rfl) (L 0 rfl rfl)) ?_
      refine U.p rfl rfl (.inl rfl) (S.move rfl (L 8 rfl rfl)) ?_
      refine U.p rfl rfl (.inl rfl) (S.move rfl (L 11 rfl rfl)) ?_
      refine U.p rfl rfl (.inl rfl) (S.move rfl (L 14 rfl rfl)) ?_
      refine U.p rfl rfl (.inl rfl) (S.add rfl (L 1 rfl rfl) (L 0 rfl rfl)) ?_
      obtain ⟨x44, hx45, h46⟩ := bindS h43
      obtain ⟨b47, o48, n49, c50, hv51⟩ := ow36.ospt (k := 0) rfl hx45
      obtain ⟨_, hv52, _⟩ := ow36.osel (k := 0) rfl hv51 hx45
      refine U.p rfl rfl (.inl rfl) (S.index rfl ((L 3 rfl rfl).trans hv52) (L 0 rfl rfl) Try.underlying39 ti44 (ix_ge hx45) (ix_lt hx45)) ?_
      obtain ⟨cs53, hv54, hlt55, hr56, hc57⟩ := ow36.osel (k := 0) rfl hv51 hx45
      obtain rfl : cs53 = [.int .i64 x44.reg, .int .i64 x44.from_, .int .i64 x44.to_] := hr56
      refine U.k rfl rfl (.inl rfl) (S.loadN (cs := [.int .i64 x44.reg, .int .i64 x44.from_, .int .i64 x44.to_]) rfl (L 0 rfl rfl) Try.underlying44 rfl ti44 rfl hc57) (fun _ => (okH.nil (fun r h => by cases h; exact hlt55))) ?_
      refine U.p rfl rfl (.inl rfl) (S.move rfl (L 14 rfl rfl)) ?_
      refine U.p rfl rfl (.inl rfl) (S.move rfl (L 17 rfl rfl)) ?_
      obtain ⟨x58, hx59, h60⟩ := bindS h46
      obtain ⟨_, hv61, _⟩ := ow36.osel (k := 0) rfl hv51 hx59
      refine U.p rfl rfl (.inl rfl) (S.index rfl ((L 1 rfl rfl).trans hv61) (L 0 rfl rfl) Try.underlying39 ti44 (ix_ge hx59) (ix_lt hx59)) ?_
      obtain ⟨cs62, hv63, hlt64, hr65, hc66⟩ := ow36.osel (k := 0) rfl hv51 hx59
      obtain rfl : cs62 = [.int .i64 x58.reg, .int .i64 x58.from_, .int .i64 x58.to_] := hr65
      refine U.k rfl rfl (.inl rfl) (S.loadN (cs := [.int .i64 x58.reg, .int .i64 x58.from_, .int .i64 x58.to_]) rfl (L 0 rfl rfl) Try.underlying44 rfl ti44 rfl hc66) (fun _ => (okH.cons trivial (okH.nil (fun r h => by cases h; exact hlt64)))) ?_
      obtain ⟨x67, hx68, h69⟩ := bindS h60
      obtain ⟨_, hv70, _⟩ := ow36.osel (k := 0) rfl hv51 hx68
      refine U.p rfl rfl (.inl rfl) (S.index rfl ((L 15 rfl rfl).trans hv70) (L 14 rfl rfl) Try.underlying39 ti44 (ix_ge hx68) (ix_lt hx68)) ?_
      obtain ⟨cs71, hv72, hlt73, hr74, hc75⟩ := ow36.osel (k := 0) rfl hv51 hx68
      obtain rfl : cs71 = [.int .i64 x67.reg, .int .i64 x67.from_, .int .i64 x67.to_] := hr74
      refine O.storeE (k := 0) (R := RT_Tflow_Span) (j := 0) (y := x44) (cs := [.int .i64 x44.reg, .int .i64 x44.from_, .int .i64 x44.to_]) ow36 rfl hv72 rfl rfl (.inl rfl) rfl (L 0 rfl rfl) (L 5 rfl rfl) ti44 hx68 (by simp [topV]) rfl rfl rfl (full rfl) (fun H1 hs => (fun _ => (okH.cons (Or.inl rfl) (okH.cons (Or.inl rfl) (okH.nil (fun r h => nomatch h)))))) (fun V76 le77 ow78 => ?_)
      obtain ⟨x79, hx80, h81⟩ := bindS h69
      obtain ⟨_, hv82, _⟩ := ow78.osel (k := 0) rfl hv51 hx80
      refine U.p rfl rfl (.inl rfl) (S.index rfl ((L 14 rfl rfl).trans hv82) (L 11 rfl rfl) Try.underlying39 ti44 (ix_ge hx80) (ix_lt hx80)) ?_
      obtain ⟨cs83, hv84, hlt85, hr86, hc87⟩ := ow78.osel (k := 0) rfl hv51 hx80
      obtain rfl : cs83 = [.int .i64 x79.reg, .int .i64 x79.from_, .int .i64 x79.to_] := hr86
      refine O.storeE (k := 0) (R := RT_Tflow_Span) (j := 0) (y := x58) (cs := [.int .i64 x58.reg, .int .i64 x58.from_, .int .i64 x58.to_]) ow78 rfl hv84 rfl rfl (.inl rfl) rfl (L 0 rfl rfl) (L 2 rfl rfl) ti44 hx80 (by simp [topV]) rfl rfl rfl (full rfl) (fun H1 hs => (fun _ => (okH.cons rfl (okH.cons (Or.inl rfl) (okH.cons (Or.inl rfl) (okH.nil (fun r h => nomatch h))))))) (fun V88 le89 ow90 => ?_)
      refine U.done (Nat.le_of_ble_eq_true rfl) ?_
      refine WP.ureg rfl ?_
      refine U.p rfl rfl (.inl rfl) (S.move rfl (L 20 rfl rfl)) ?_
      refine U.p rfl rfl (.inl rfl) (S.move rfl (L 24 rfl rfl)) ?_
      refine U.p rfl rfl (.inl rfl) (S.move rfl (L 26 rfl rfl)) ?_
      refine U.p rfl rfl (.inl rfl) (S.move rfl (L 25 rfl rfl)) ?_
      refine U.p rfl rfl (.inl rfl) (S.move rfl (L 25 rfl rfl)) ?_
      obtain ⟨x91, hx92, h93⟩ := bindS h81
      refine O.call (V := V88) rfl rfl (.inl rfl) rfl en51 (aC (L 4 rfl rfl) (aC (L 3 rfl rfl) (aC (L 2 rfl rfl) (aC (L 1 rfl rfl) (aC (L 0 rfl rfl) aN))))) (wk_slices_siftDownCmpFunc V88 _ ((xs30.set (Int.toNat p1) x44).set (Int.toNat (w64 (p1 + x31))) x58) 0 x31 p1 v1 ow90 _ hx92) (fun _ _ _ _ => nd) (fun v94 V95 le96 hp97 => ?_)
      have ow98 := hp97
      refine U.done (Nat.le_of_ble_eq_true rfl) ?_
      refine blkN (sqN ?_)
      refine WP.ureg rfl ?_
      refine U.p rfl rfl (.inl rfl) (S.move rfl (L 30 rfl rfl)) ?_
      refine U.p rfl rfl (.inl rfl) (S.sub rfl (L 0 rfl rfl) K) ?_
      refine U.p rfl rfl (.inl rfl) (S.assign rfl (L 0 rfl rfl)) ?_
      refine U.done (Nat.le_of_ble_eq_true rfl) ?_
      refine sqN ?_
      exact ⟨_, V95, rfl, ⟨m37, Nat.lt_succ_self _, x91, w64 (x31 - 1), rfl, (((le35.trans le77).trans le89).trans le96), ow98, backS h93 e39⟩, (allCons (L 29 rfl rfl) (allCons (L 30 rfl rfl) (allCons (L 31 rfl rfl) (allCons (L 32 rfl rfl) (allCons (L 0 rfl rfl) allNil)))))⟩
    · have h99 := ifF c42 h41
      refine WP.exit ?_
      refine sqE (sqE (blkE ?_))
      have h100 := exitS h99 e39
      refine fin.slots' (.inl rfl) fsN rfl ⟨V34, rfl, (le11.trans le35), ?_⟩
      have e101 := Option.some.inj h100
      subst e101
      exact ow36

set_option maxHeartbeats 4000000 in
set_option maxRecDepth 10000 in
theorem wk_slices_order2CmpFunc (V : Vw) (Rs : List At) (p0 : List Tflow_Span) (p1 : Int) (p2 : Int) (p3 : Int) (v1 : Value) (b3 : Nat) (z4 : Nat) (ow : Ow V (.os RT_Tflow_Span v1 p0 :: .pt b3 (.cells z4 [.int .i64 p3]) :: Rs)) (r : Int × Int × Int) (h : slices_order2CmpFunc p0 p1 p2 p3 = some r) : ∃ v V', Cl Try.prog 0 56 #[v1, .int .i64 p1, .int .i64 p2, .pointer (some ⟨b3, 0, none⟩), .func (.func 28) #[] #[]] V.H v V'.H ∧ V.le V' ∧ (v = .tuple #[.int .i64 r.1, .int .i64 r.2.1] ∧ Ow V' (.os RT_Tflow_Span v1 p0 :: .pt b3 (.cells z4 [.int .i64 r.2.2]) :: Rs)) := by
  refine Ct.of (Nat.zero_le _) Try.func56 rfl (Nat.le_of_ble_eq_true rfl) ?_
  unfold slices_order2CmpFunc at h
  refine WP.usreg rfl ?_
  refine U.p rfl rfl (.inl rfl) (S.assign rfl K) ?_
  refine U.p rfl rfl (.inl rfl) (S.assign rfl K) ?_
  refine U.done (Nat.le_of_ble_eq_true rfl) ?_
  refine WP.seq ?_
  refine WP.usdreg rfl rfl rfl ?_
  refine U.p rfl rfl (.inl rfl) (S.move rfl (L 6 rfl rfl)) ?_
  refine U.p rfl rfl (.inl rfl) (S.move rfl (L 3 rfl rfl)) ?_
  refine U.p rfl rfl (.inl rfl) (S.move rfl (L 6 rfl rfl)) ?_
  obtain ⟨x6, hx7, h8⟩ := bindS h
  obtain ⟨b9, o10, n11, c12, hv13⟩ := ow.ospt (k := 0) rfl hx7
  obtain ⟨_, hv14, _⟩ := ow.osel (k := 0) rfl hv13 hx7
  refine U.p rfl rfl (.inl rfl) (S.index rfl ((L 1 rfl rfl).trans hv14) (L 0 rfl rfl) Try.underlying39 ti44 (ix_ge hx7) (ix_lt hx7)) ?_
  obtain ⟨cs15, hv16, hlt17, hr18, hc19⟩ := ow.osel (k := 0) rfl hv13 hx7
  obtain rfl : cs15 = [.int .i64 x6.reg, .int .i64 x6.from_, .int .i64 x6.to_] := hr18
  refine U.k rfl rfl (.inl rfl) (S.loadN (cs := [.int .i64 x6.reg, .int .i64 x6.from_, .int .i64 x6.to_]) rfl (L 0 rfl rfl) Try.underlying44 rfl ti44 rfl hc19) (fun _ => (okH.nil (fun r h => by cases h; exact hlt17))) ?_
  refine U.p rfl rfl (.inl rfl) (S.move rfl (L 7 rfl rfl)) ?_
  refine U.p rfl rfl (.inl rfl) (S.move rfl (L 9 rfl rfl)) ?_
  obtain ⟨x20, hx21, h22⟩ := bindS h8
  obtain ⟨_, hv23, _⟩ := ow.osel (k := 0) rfl hv13 hx21
  refine U.p rfl rfl (.inl rfl) (S.index rfl ((L 1 rfl rfl).trans hv23) (L 0 rfl rfl) Try.underlying39 ti44 (ix_ge hx21) (ix_lt hx21)) ?_
  obtain ⟨cs24, hv25, hlt26, hr27, hc28⟩ := ow.osel (k := 0) rfl hv13 hx21
  obtain rfl : cs24 = [.int .i64 x20.reg, .int .i64 x20.from_, .int .i64 x20.to_] := hr27
  refine U.k rfl rfl (.inl rfl) (S.loadN (cs := [.int .i64 x20.reg, .int .i64 x20.from_, .int .i64 x20.to_]) rfl (L 0 rfl rfl) Try.underlying44 rfl ti44 rfl hc28) (fun _ => (okH.cons trivial (okH.nil (fun r h => by cases h; exact hlt26)))) ?_
  obtain ⟨x29, hx30, h31⟩ := bindS h22
  refine O.callv (V := V) rfl rfl (.inl rfl) rfl (L 8 rfl rfl) en28 (aC (L 4 rfl rfl) (aC (L 0 rfl rfl) aN)) (wk_flow_Spans_c1 V _ x6 x20 ow _ hx30) (fun v32 V33 le34 hp35 => by obtain ⟨rfl, ow36⟩ := hp35; exact (fun _ => (okH.cons (Or.inl rfl) (okH.cons (Or.inl rfl) (okH.nil (fun r h => nomatch h)))))) (fun v32 V33 le34 hp35 => ?_)
  obtain ⟨rfl, ow36⟩ := hp35
  refine U.p rfl rfl (.inl rfl) (S.lss rfl (L 0 rfl rfl) K) ?_
  refine U.done (Nat.le_of_ble_eq_true rfl) ?_
  refine WP.cond _ (L 0 rfl rfl) rfl (fun c37 => ?_) (fun c37 => ?_)
  · have h38 := ifT c37 h31
    refine WP.usreg rfl ?_
    refine U.p rfl rfl (.inl rfl) (S.move rfl (L 16 rfl rfl)) ?_
    refine U.p rfl rfl (.inl rfl) (S.nilCheck rfl (L 0 rfl rfl)) ?_
    refine U.k rfl rfl (.inl rfl) (S.load rfl (L 0 rfl rfl) Try.underlying3 rfl ((ow36.own (k := 1) rfl).cell rfl)) nd ?_
    refine U.p rfl rfl (.inl rfl) (S.add rfl (L 0 rfl rfl) K) ?_
    refine U.p rfl rfl (.inl rfl) (S.nilCheck rfl (L 3 rfl rfl)) ?_
    refine O.store (k := 1) (cs := [.int .i64 (w64 (p3 + 1))]) (c' := [.int .i64 (w64 (p3 + 1))]) ow36 rfl rfl rfl (.inl rfl) rfl (L 0 rfl rfl) (L 1 rfl rfl) ti3 (by simp [topV]) rfl rfl (Nat.le_of_ble_eq_true rfl) rfl rfl nd (fun V39 le40 ow41 => ?_)
    refine U.done (Nat.le_of_ble_eq_true rfl) ?_
    refine WP.usreg rfl ?_
    refine U.p rfl rfl (.inl rfl) (S.move rfl (L 20 rfl rfl)) ?_
    refine U.p rfl rfl (.inl rfl) (S.move rfl (L 20 rfl rfl)) ?_
    refine U.p rfl rfl (.inl rfl) (S.assign rfl (L 1 rfl rfl)) ?_
    refine U.p rfl rfl (.inl rfl) (S.assign rfl (L 1 rfl rfl)) ?_
    refine U.done (Nat.le_of_ble_eq_true rfl) ?_
    refine WP.ret ?_
    refine sqR ?_
    refine fin.slots' (.inr rfl) (fsC (L 1 rfl rfl) (fsC (L 0 rfl rfl) fsN)) rfl ⟨V39, rfl, (le34.trans le40), ?_⟩
    have e42 := Option.some.inj h38
    subst e42
    exact ⟨rfl, ow41⟩
  · have h43 := ifF c37 h31
    refine WP.skip ?_
    refine sqN ?_
    refine WP.usreg rfl ?_
    refine U.p rfl rfl (.inl rfl) (S.move rfl (L 14 rfl rfl)) ?_
    refine U.p rfl rfl (.inl rfl) (S.move rfl (L 16 rfl rfl)) ?_
    refine U.p rfl rfl (.inl rfl) (S.assign rfl (L 1 rfl rfl)) ?_
    refine U.p rfl rfl (.inl rfl) (S.assign rfl (L 1 rfl rfl)) ?_
    refine U.done (Nat.le_of_ble_eq_true rfl) ?_
    refine WP.ret ?_
    refine fin.slots' (.inr rfl) (fsC (L 1 rfl rfl) (fsC (L 0 rfl rfl) fsN)) rfl ⟨V33, rfl, le34, ?_⟩
    have e44 := Option.some.inj h43
    subst e44
    exact ⟨rfl, ow36⟩

set_option maxHeartbeats 4000000 in
set_option maxRecDepth 10000 in
theorem wk_slices_medianCmpFunc (V : Vw) (Rs : List At) (p0 : List Tflow_Span) (p1 : Int) (p2 : Int) (p3 : Int) (p4 : Int) (v1 : Value) (b3 : Nat) (z4 : Nat) (ow : Ow V (.os RT_Tflow_Span v1 p0 :: .pt b3 (.cells z4 [.int .i64 p4]) :: Rs)) (r : Int × Int) (h : slices_medianCmpFunc p0 p1 p2 p3 p4 = some r) : ∃ v V', Cl Try.prog 0 55 #[v1, .int .i64 p1, .int .i64 p2, .int .i64 p3, .pointer (some ⟨b3, 0, none⟩), .func (.func 28) #[] #[]] V.H v V'.H ∧ V.le V' ∧ (v = .int .i64 r.1 ∧ Ow V' (.os RT_Tflow_Span v1 p0 :: .pt b3 (.cells z4 [.int .i64 r.2]) :: Rs)) := by
  refine Ct.of (Nat.zero_le _) Try.func55 rfl (Nat.le_of_ble_eq_true rfl) ?_
  unfold slices_medianCmpFunc at h
  refine WP.usreg rfl ?_
  refine U.p rfl rfl (.inl rfl) (S.assign rfl K) ?_
  refine U.done (Nat.le_of_ble_eq_true rfl) ?_
  refine WP.usreg rfl ?_
  refine U.p rfl rfl (.inl rfl) (S.move rfl (L 1 rfl rfl)) ?_
  refine U.p rfl rfl (.inl rfl) (S.move rfl (L 3 rfl rfl)) ?_
  refine U.p rfl rfl (.inl rfl) (S.move rfl (L 5 rfl rfl)) ?_
  refine U.p rfl rfl (.inl rfl) (S.move rfl (L 8 rfl rfl)) ?_
  refine U.p rfl rfl (.inl rfl) (S.move rfl (L 10 rfl rfl)) ?_
  have ow6 := ow.pick 1 rfl
  have ow7 := ow6.pick 1 rfl
  obtain ⟨x8, hx9, h10⟩ := bindS h
  refine O.call (V := V) rfl rfl (.inl rfl) rfl en56 (aC (L 4 rfl rfl) (aC (L 3 rfl rfl) (aC (L 2 rfl rfl) (aC (L 1 rfl rfl) (aC (L 0 rfl rfl) aN))))) (wk_slices_order2CmpFunc V _ p0 p1 p2 p4 v1 b3 z4 ow7 _ hx9) (fun _ _ _ _ => nd) (fun v11 V12 le13 hp14 => ?_)
  obtain ⟨rfl, ow15⟩ := hp14
  refine U.p rfl rfl (.inl rfl) (S.move rfl (L 0 rfl rfl)) ?_
  refine U.p rfl rfl (.inl rfl) (S.extract rfl (L 0 rfl rfl) rfl (Nat.le_of_ble_eq_true rfl)) ?_
  refine U.p rfl rfl (.inl rfl) (S.extract rfl (L 1 rfl rfl) rfl (Nat.le_of_ble_eq_true rfl)) ?_
  refine U.p rfl rfl (.inl rfl) (S.assign rfl (L 1 rfl rfl)) ?_
  refine U.p rfl rfl (.inl rfl) (S.assign rfl (L 1 rfl rfl)) ?_
  refine U.done (Nat.le_of_ble_eq_true rfl) ?_
  refine WP.usreg rfl ?_
  refine U.p rfl rfl (.inl rfl) (S.move rfl (L 12 rfl rfl)) ?_
  refine U.p rfl rfl (.inl rfl) (S.move rfl (L 1 rfl rfl)) ?_
  refine U.p rfl rfl (.inl rfl) (S.move rfl (L 17 rfl rfl)) ?_
  refine U.p rfl rfl (.inl rfl) (S.move rfl (L 19 rfl rfl)) ?_
  refine U.p rfl rfl (.inl rfl) (S.move rfl (L 21 rfl rfl)) ?_
  have ow16 := ow15.pick 1 rfl
  have ow17 := ow16.pick 1 rfl
  obtain ⟨x18, hx19, h20⟩ := bindS h10
  refine O.call (V := V12) rfl rfl (.inl rfl) rfl en56 (aC (L 4 rfl rfl) (aC (L 3 rfl rfl) (aC (L 2 rfl rfl) (aC (L 1 rfl rfl) (aC (L 0 rfl rfl) aN))))) (wk_slices_order2CmpFunc V12 _ p0 x8.2.1 p3 x8.2.2 v1 b3 z4 ow17 _ hx19) (fun _ _ _ _ => nd) (fun v21 V22 le23 hp24 => ?_)
  obtain ⟨rfl, ow25⟩ := hp24
  refine U.p rfl rfl (.inl rfl) (S.move rfl (L 0 rfl rfl)) ?_
  refine U.p rfl rfl (.inl rfl) (S.extract rfl (L 0 rfl rfl) rfl (Nat.le_of_ble_eq_true rfl)) ?_
  refine U.p rfl rfl (.inl rfl) (S.extract rfl (L 1 rfl rfl) rfl (Nat.le_of_ble_eq_true rfl)) ?_
  refine U.p rfl rfl (.inl rfl) (S.assign rfl (L 1 rfl rfl)) ?_
  refine U.p rfl rfl (.inl rfl) (S.assign rfl (L 1 rfl rfl)) ?_
  refine U.done (Nat.le_of_ble_eq_true rfl) ?_
  refine WP.usreg rfl ?_
  refine U.p rfl rfl (.inl rfl) (S.move rfl (L 23 rfl rfl)) ?_
  refine U.p rfl rfl (.inl rfl) (S.move rfl (L 13 rfl rfl)) ?_
  refine U.p rfl rfl (.inl rfl) (S.move rfl (L 3 rfl rfl)) ?_
  refine U.p rfl rfl (.inl rfl) (S.move rfl (L 30 rfl rfl)) ?_
  refine U.p rfl rfl (.inl rfl) (S.move rfl (L 32 rfl rfl)) ?_
  have ow26 := ow25.pick 1 rfl
  have ow27 := ow26.pick 1 rfl
  obtain ⟨x28, hx29, h30⟩ := bindS h20
  refine O.call (V := V22) rfl rfl (.inl rfl) rfl en56 (aC (L 4 rfl rfl) (aC (L 3 rfl rfl) (aC (L 2 rfl rfl) (aC (L 1 rfl rfl) (aC (L 0 rfl rfl) aN))))) (wk_slices_order2CmpFunc V22 _ p0 x8.1 x18.1 x18.2.2 v1 b3 z4 ow27 _ hx29) (fun _ _ _ _ => nd) (fun v31 V32 le33 hp34 => ?_)
  obtain ⟨rfl, ow35⟩ := hp34
  refine U.p rfl rfl (.inl rfl) (S.move rfl (L 0 rfl rfl)) ?_
  refine U.p rfl rfl (.inl rfl) (S.extract rfl (L 0 rfl rfl) rfl (Nat.le_of_ble_eq_true rfl)) ?_
  refine U.p rfl rfl (.inl rfl) (S.extract rfl (L 1 rfl rfl) rfl (Nat.le_of_ble_eq_true rfl)) ?_
  refine U.p rfl rfl (.inl rfl) (S.assign rfl (L 1 rfl rfl)) ?_
  refine U.p rfl rfl (.inl rfl) (S.assign rfl (L 1 rfl rfl)) ?_
  refine U.done (Nat.le_of_ble_eq_true rfl) ?_
  refine WP.usreg rfl ?_
  refine U.p rfl rfl (.inl rfl) (S.move rfl (L 0 rfl rfl)) ?_
  refine U.p rfl rfl (.inl rfl) (S.assign rfl (L 0 rfl rfl)) ?_
  refine U.done (Nat.le_of_ble_eq_true rfl) ?_
  refine WP.ret ?_
  refine fin.slot (.inr rfl) rfl (L 0 rfl rfl) ⟨V32, rfl, ((le13.trans le23).trans le33), ?_⟩
  have e36 := Option.some.inj h30
  subst e36
  exact ⟨rfl, ow35⟩

set_option maxHeartbeats 4000000 in
set_option maxRecDepth 10000 in
theorem wk_slices_medianAdjacentCmpFunc (V : Vw) (Rs : List At) (p0 : List Tflow_Span) (p1 : Int) (p2 : Int) (v1 : Value) (b3 : Nat) (z4 : Nat) (ow : Ow V (.os RT_Tflow_Span v1 p0 :: .pt b3 (.cells z4 [.int .i64 p2]) :: Rs)) (r : Int × Int) (h : slices_medianAdjacentCmpFunc p0 p1 p2 = some r) : ∃ v V', Cl Try.prog 0 54 #[v1, .int .i64 p1, .pointer (some ⟨b3, 0, none⟩), .func (.func 28) #[] #[]] V.H v V'.H ∧ V.le V' ∧ (v = .int .i64 r.1 ∧ Ow V' (.os RT_Tflow_Span v1 p0 :: .pt b3 (.cells z4 [.int .i64 r.2]) :: Rs)) := by
  refine Ct.of (Nat.zero_le _) Try.func54 rfl (Nat.le_of_ble_eq_true rfl) ?_
  unfold slices_medianAdjacentCmpFunc at h
  refine WP.usreg rfl ?_
  refine U.p rfl rfl (.inl rfl) (S.assign rfl K) ?_
  refine U.done (Nat.le_of_ble_eq_true rfl) ?_
  refine WP.usreg rfl ?_
  refine U.p rfl rfl (.inl rfl) (S.move rfl (L 1 rfl rfl)) ?_
  refine U.p rfl rfl (.inl rfl) (S.move rfl (L 3 rfl rfl)) ?_
  refine U.p rfl rfl (.inl rfl) (S.sub rfl (L 0 rfl rfl) K) ?_
  refine U.p rfl rfl (.inl rfl) (S.move rfl (L 5 rfl rfl)) ?_
  refine U.p rfl rfl (.inl rfl) (S.move rfl (L 6 rfl rfl)) ?_
  refine U.p rfl rfl (.inl rfl) (S.add rfl (L 0 rfl rfl) K) ?_
  refine U.p rfl rfl (.inl rfl) (S.move rfl (L 9 rfl rfl)) ?_
  refine U.p rfl rfl (.inl rfl) (S.move rfl (L 11 rfl rfl)) ?_
  have ow6 := ow.pick 1 rfl
  have ow7 := ow6.pick 1 rfl
  obtain ⟨x8, hx9, h10⟩ := bindS h
  refine O.call (V := V) rfl rfl (.inl rfl) rfl en55 (aC (L 7 rfl rfl) (aC (L 5 rfl rfl) (aC (L 4 rfl rfl) (aC (L 2 rfl rfl) (aC (L 1 rfl rfl) (aC (L 0 rfl rfl) aN)))))) (wk_slices_medianCmpFunc V _ p0 (w64 (p1 - 1)) p1 (w64 (p1 + 1)) p2 v1 b3 z4 ow7 _ hx9) (fun _ _ _ _ => nd) (fun v11 V12 le13 hp14 => ?_)
  obtain ⟨rfl, ow15⟩ := hp14
  refine U.p rfl rfl (.inl rfl) (S.assign rfl (L 0 rfl rfl)) ?_
  refine U.done (Nat.le_of_ble_eq_true rfl) ?_
  refine WP.ret ?_
  refine fin.slot (.inr rfl) rfl (L 0 rfl rfl) ⟨V12, rfl, le13, ?_⟩
  have e16 := Option.some.inj h10
  subst e16
  exact ⟨rfl, ow15⟩

set_option maxHeartbeats 4000000 in
set_option maxRecDepth 10000 in
theorem wk_slices_choosePivotCmpFunc (V : Vw) (Rs : List At) (p0 : List Tflow_Span) (p1 : Int) (p2 : Int) (v1 : Value) (ow : Ow V (.os RT_Tflow_Span v1 p0 :: Rs)) (r : Int × Int) (h : slices_choosePivotCmpFunc p0 p1 p2 = some r) : ∃ v V', Cl Try.prog 0 44 #[v1, .int .i64 p1, .int .i64 p2, .func (.func 28) #[] #[]] V.H v V'.H ∧ V.le V' ∧ (v = .tuple #[.int .i64 r.1, .int .i64 r.2] ∧ Ow V' (.os RT_Tflow_Span v1 p0 :: Rs)) := by
  refine Ct.of (Nat.zero_le _) Try.func44 rfl (Nat.le_of_ble_eq_true rfl) ?_
  unfold slices_choosePivotCmpFunc at h
  refine WP.usreg rfl ?_
  refine U.p rfl rfl (.inl rfl) (S.assign rfl K) ?_
  refine U.p rfl rfl (.inl rfl) (S.assign rfl K) ?_
  refine U.done (Nat.le_of_ble_eq_true rfl) ?_
  refine WP.usreg rfl ?_
  refine U.p rfl rfl (.inl rfl) (S.move rfl (L 4 rfl rfl)) ?_
  refine U.p rfl rfl (.inl rfl) (S.move rfl (L 4 rfl rfl)) ?_
  refine U.p rfl rfl (.inl rfl) (S.sub rfl (L 1 rfl rfl) (L 0 rfl rfl)) ?_
  refine U.p rfl rfl (.inl rfl) (S.assign rfl (L 0 rfl rfl)) ?_
  refine U.done (Nat.le_of_ble_eq_true rfl) ?_
  refine WP.usreg rfl ?_
  refine O.alloc ow rfl rfl (.inl rfl) rfl ti3 rfl rfl nd (fun b3 V4 le5 ow6 => ?_)
  refine U.done (Nat.le_of_ble_eq_true rfl) ?_
  refine WP.usreg rfl ?_
  refine U.p rfl rfl (.inl rfl) (S.move rfl (L 8 rfl rfl)) ?_
  refine U.p rfl rfl (.inl rfl) (S.move rfl (L 2 rfl rfl)) ?_
  obtain ⟨x8, hx9, h10⟩ := bindS h
  refine U.p rfl rfl (.inl rfl) (S.quo hx9 rfl (L 0 rfl rfl) K) ?_
  refine U.p rfl rfl (.inl rfl) (S.mul rfl (L 0 rfl rfl) K) ?_
  refine U.p rfl rfl (.inl rfl) (S.add rfl (L 3 rfl rfl) (L 0 rfl rfl)) ?_
  refine U.p rfl rfl (.inl rfl) (S.assign rfl (L 0 rfl rfl)) ?_
  refine U.done (Nat.le_of_ble_eq_true rfl) ?_
  refine WP.usreg rfl ?_
  refine U.p rfl rfl (.inl rfl) (S.move rfl (L 14 rfl rfl)) ?_
  refine U.p rfl rfl (.inl rfl) (S.move rfl (L 8 rfl rfl)) ?_
  obtain ⟨x11, hx12, h13⟩ := bindS h10
  refine U.p rfl rfl (.inl rfl) (S.quo hx12 rfl (L 0 rfl rfl) K) ?_
  refine U.p rfl rfl (.inl rfl) (S.mul rfl (L 0 rfl rfl) K) ?_
  refine U.p rfl rfl (.inl rfl) (S.add rfl (L 3 rfl rfl) (L 0 rfl rfl)) ?_
  refine U.p rfl rfl (.inl rfl) (S.assign rfl (L 0 rfl rfl)) ?_
  refine U.done (Nat.le_of_ble_eq_true rfl) ?_
  refine WP.usreg rfl ?_
  refine U.p rfl rfl (.inl rfl) (S.move rfl (L 20 rfl rfl)) ?_
  refine U.p rfl rfl (.inl rfl) (S.move rfl (L 14 rfl rfl)) ?_
  obtain ⟨x14, hx15, h16⟩ := bindS h13
  refine U.p rfl rfl (.inl rfl) (S.quo hx15 rfl (L 0 rfl rfl) K) ?_
  refine U.p rfl rfl (.inl rfl) (S.mul rfl (L 0 rfl rfl) K) ?_
  refine U.p rfl rfl (.inl rfl) (S.add rfl (L 3 rfl rfl) (L 0 rfl rfl)) ?_
  refine U.p rfl rfl (.inl rfl) (S.assign rfl (L 0 rfl rfl)) ?_
  refine U.done (Nat.le_of_ble_eq_true rfl) ?_
  refine WP.seqI (fun l V' => ∃ (x17 : Int) (x18 : Int), l = [(11, .pointer (some ⟨b3, 0, none⟩)), (13, .int .i64 x18)] ∧ V4.le V' ∧ Ow V' (.os RT_Tflow_Span v1 p0 :: .pt b3 (.cells 1 [.int .i64 x17]) :: Rs) ∧ slices_choosePivotCmpFunc_k1 x17 x18 = some r) ?_ ?_
  · rintro _ V19 ⟨x17, x18, rfl, le20, ow21, h22⟩
    unfold slices_choosePivotCmpFunc_k1 at h22
    refine WP.usreg rfl ?_
    refine U.k rfl rfl (.inl rfl) (S.load rfl (L 0 rfl rfl) Try.underlying3 rfl ((ow21.own (k := 1) rfl).cell rfl)) nd ?_
    refine U.done (Nat.le_of_ble_eq_true rfl) ?_
    refine WP.blk ?_
    refine WP.usreg rfl ?_
    refine U.p rfl rfl (.inl rfl) (S.eqlI rfl (L 0 rfl rfl) K) ?_
    refine U.p rfl rfl (.inl rfl) (S.assign rfl (L 0 rfl rfl)) ?_
    refine U.done (Nat.le_of_ble_eq_true rfl) ?_
    refine WP.cond _ (L 0 rfl rfl) rfl (fun c23 => ?_) (fun c23 => ?_)
    · have h24 := ifT c23 h22
      refine WP.usreg rfl ?_
      refine U.p rfl rfl (.inl rfl) (S.move rfl (L 4 rfl rfl)) ?_
      refine U.p rfl rfl (.inl rfl) (S.assign rfl (L 0 rfl rfl)) ?_
      refine U.p rfl rfl (.inl rfl) (S.assign rfl K) ?_
      refine U.done (Nat.le_of_ble_eq_true rfl) ?_
      refine WP.ret ?_
      refine blkR ?_
      refine fin.slots' (.inr rfl) (fsC (L 1 rfl rfl) (fsC (L 0 rfl rfl) fsN)) rfl ⟨V19, rfl, (le5.trans le20), ?_⟩
      have ow25 := ow21.drop 1 rfl
      have e26 := Option.some.inj h24
      subst e26
      exact ⟨rfl, ow25⟩
    · have h27 := ifF c23 h22
      refine WP.usreg rfl ?_
      refine U.p rfl rfl (.inl rfl) (S.eqlI rfl (L 2 rfl rfl) K) ?_
      refine U.p rfl rfl (.inl rfl) (S.assign rfl (L 0 rfl rfl)) ?_
      refine U.done (Nat.le_of_ble_eq_true rfl) ?_
      refine WP.cond _ (L 0 rfl rfl) rfl (fun c28 => ?_) (fun c28 => ?_)
      · have h29 := ifT c28 h27
        refine WP.usreg rfl ?_
        refine U.p rfl rfl (.inl rfl) (S.move rfl (L 6 rfl rfl)) ?_
        refine U.p rfl rfl (.inl rfl) (S.assign rfl (L 0 rfl rfl)) ?_
        refine U.p rfl rfl (.inl rfl) (S.assign rfl K) ?_
        refine U.done (Nat.le_of_ble_eq_true rfl) ?_
        refine WP.ret ?_
        refine blkR ?_
        refine fin.slots' (.inr rfl) (fsC (L 1 rfl rfl) (fsC (L 0 rfl rfl) fsN)) rfl ⟨V19, rfl, (le5.trans le20), ?_⟩
        have ow30 := ow21.drop 1 rfl
        have e31 := Option.some.inj h29
        subst e31
        exact ⟨rfl, ow30⟩
      · have h32 := ifF c28 h27
        refine WP.usreg rfl ?_
        refine U.p rfl rfl (.inl rfl) (S.move rfl (L 6 rfl rfl)) ?_
        refine U.p rfl rfl (.inl rfl) (S.assign rfl (L 0 rfl rfl)) ?_
        refine U.p rfl rfl (.inl rfl) (S.assign rfl K) ?_
        refine U.done (Nat.le_of_ble_eq_true rfl) ?_
        refine WP.ret ?_
        refine blkR ?_
        refine fin.slots' (.inr rfl) (fsC (L 1 rfl rfl) (fsC (L 0 rfl rfl) fsN)) rfl ⟨V19, rfl, (le5.trans le20), ?_⟩
        have ow33 := ow21.drop 1 rfl
        have e34 := Option.some.inj h32
        subst e34
        exact ⟨rfl, ow33⟩
  · skip
    refine WP.usreg rfl ?_
    refine U.p rfl rfl (.inl rfl) (S.move rfl (L 19 rfl rfl)) ?_
    refine U.p rfl rfl (.inl rfl) (S.geq rfl (L 0 rfl rfl) K) ?_
    refine U.done (Nat.le_of_ble_eq_true rfl) ?_
    refine WP.cond _ (L 0 rfl rfl) rfl (fun c35 => ?_) (fun c35 => ?_)
    · have h36 := ifT c35 h16
      refine WP.seqI (fun l V' => ∃ (x37 : Int) (x38 : Int) (x39 : Int) (x40 : Int), l = [(0, v1), (3, .func (.func 28) #[] #[]), (11, .pointer (some ⟨b3, 0, none⟩)), (12, .int .i64 x38), (13, .int .i64 x39), (14, .int .i64 x40)] ∧ V4.le V' ∧ Ow V' (.os RT_Tflow_Span v1 p0 :: .pt b3 (.cells 1 [.int .i64 x37]) :: Rs) ∧ slices_choosePivotCmpFunc_k2 p0 x37 x38 x39 x40 = some r) ?_ ?_
      · rintro _ V41 ⟨x37, x38, x39, x40, rfl, le42, ow43, h44⟩
        unfold slices_choosePivotCmpFunc_k2 at h44
        refine WP.ureg rfl ?_
        refine U.p rfl rfl (.inl rfl) (S.move rfl (L 0 rfl rfl)) ?_
        refine U.p rfl rfl (.inl rfl) (S.move rfl (L 4 rfl rfl)) ?_
        refine U.p rfl rfl (.inl rfl) (S.move rfl (L 6 rfl rfl)) ?_
        refine U.p rfl rfl (.inl rfl) (S.move rfl (L 8 rfl rfl)) ?_
        refine U.p rfl rfl (.inl rfl) (S.move rfl (L 5 rfl rfl)) ?_
        have ow45 := ow43.pick 1 rfl
        have ow46 := ow45.pick 1 rfl
        obtain ⟨x47, hx48, h49⟩ := bindS h44
        refine O.call (V := V41) rfl rfl (.inl rfl) rfl en55 (aC (L 4 rfl rfl) (aC (L 3 rfl rfl) (aC (L 2 rfl rfl) (aC (L 1 rfl rfl) (aC (L 7 rfl rfl) (aC (L 0 rfl rfl) aN)))))) (wk_slices_medianCmpFunc V41 _ p0 x38 x39 x40 x37 v1 b3 1 ow46 _ hx48) (fun _ _ _ _ => nd) (fun v50 V51 le52 hp53 => ?_)
        obtain ⟨rfl, ow54⟩ := hp53
        refine U.p rfl rfl (.inl rfl) (S.assign rfl (L 0 rfl rfl)) ?_
        refine U.done (Nat.le_of_ble_eq_true rfl) ?_
        refine sqN ?_
        exact ⟨_, V51, rfl, ⟨x47.2, x47.1, rfl, (le42.trans le52), ow54, h49⟩, (allCons (L 9 rfl rfl) (allCons (L 0 rfl rfl) allNil))⟩
      · skip
        refine WP.usreg rfl ?_
        refine U.p rfl rfl (.inl rfl) (S.move rfl (L 21 rfl rfl)) ?_
        refine U.p rfl rfl (.inl rfl) (S.geq rfl (L 0 rfl rfl) K) ?_
        refine U.done (Nat.le_of_ble_eq_true rfl) ?_
        refine WP.cond _ (L 0 rfl rfl) rfl (fun c55 => ?_) (fun c55 => ?_)
        · have h56 := ifT c55 h36
          refine WP.usreg rfl ?_
          refine U.p rfl rfl (.inl rfl) (S.move rfl (L 29 rfl rfl)) ?_
          refine U.p rfl rfl (.inl rfl) (S.move rfl (L 17 rfl rfl)) ?_
          refine U.p rfl rfl (.inl rfl) (S.move rfl (L 34 rfl rfl)) ?_
          have ow57 := ow6.pick 1 rfl
          obtain ⟨x58, hx59, h60⟩ := bindS h56
          refine O.call (V := V4) rfl rfl (.inl rfl) rfl en54 (aC (L 2 rfl rfl) (aC (L 1 rfl rfl) (aC (L 25 rfl rfl) (aC (L 0 rfl rfl) aN)))) (wk_slices_medianAdjacentCmpFunc V4 _ p0 (w64 (p1 + (w64 (x8 * 1)))) 0 v1 b3 1 ow57 _ hx59) (fun _ _ _ _ => nd) (fun v61 V62 le63 hp64 => ?_)
          obtain ⟨rfl, ow65⟩ := hp64
          refine U.p rfl rfl (.inl rfl) (S.assign rfl (L 0 rfl rfl)) ?_
          refine U.done (Nat.le_of_ble_eq_true rfl) ?_
          refine WP.usreg rfl ?_
          refine U.p rfl rfl (.inl rfl) (S.move rfl (L 34 rfl rfl)) ?_
          refine U.p rfl rfl (.inl rfl) (S.move rfl (L 16 rfl rfl)) ?_
          refine U.p rfl rfl (.inl rfl) (S.move rfl (L 39 rfl rfl)) ?_
          have ow66 := ow65.pick 1 rfl
          have ow67 := ow66.pick 1 rfl
          obtain ⟨x68, hx69, h70⟩ := bindS h60
          refine O.call (V := V62) rfl rfl (.inl rfl) rfl en54 (aC (L 2 rfl rfl) (aC (L 1 rfl rfl) (aC (L 30 rfl rfl) (aC (L 0 rfl rfl) aN)))) (wk_slices_medianAdjacentCmpFunc V62 _ p0 (w64 (p1 + (w64 (x11 * 2)))) x58.2 v1 b3 1 ow67 _ hx69) (fun _ _ _ _ => nd) (fun v71 V72 le73 hp74 => ?_)
          obtain ⟨rfl, ow75⟩ := hp74
          refine U.p rfl rfl (.inl rfl) (S.assign rfl (L 0 rfl rfl)) ?_
          refine U.done (Nat.le_of_ble_eq_true rfl) ?_
          refine WP.ureg rfl ?_
          refine U.p rfl rfl (.inl rfl) (S.move rfl (L 39 rfl rfl)) ?_
          refine U.p rfl rfl (.inl rfl) (S.move rfl (L 15 rfl rfl)) ?_
          refine U.p rfl rfl (.inl rfl) (S.move rfl (L 44 rfl rfl)) ?_
          have ow76 := ow75.pick 1 rfl
          have ow77 := ow76.pick 1 rfl
          obtain ⟨x78, hx79, h80⟩ := bindS h70
          refine O.call (V := V72) rfl rfl (.inl rfl) rfl en54 (aC (L 2 rfl rfl) (aC (L 1 rfl rfl) (aC (L 35 rfl rfl) (aC (L 0 rfl rfl) aN)))) (wk_slices_medianAdjacentCmpFunc V72 _ p0 (w64 (p1 + (w64 (x14 * 3)))) x68.2 v1 b3 1 ow77 _ hx79) (fun _ _ _ _ => nd) (fun v81 V82 le83 hp84 => ?_)
          obtain ⟨rfl, ow85⟩ := hp84
          refine U.p rfl rfl (.inl rfl) (S.assign rfl (L 0 rfl rfl)) ?_
          refine U.done (Nat.le_of_ble_eq_true rfl) ?_
          refine sqN ?_
          exact ⟨_, V82, rfl, ⟨x78.2, x58.1, x68.1, x78.1, rfl, ((le63.trans le73).trans le83), ow85, h80⟩, (allCons (L 44 rfl rfl) (allCons (L 47 rfl rfl) (allCons (L 37 rfl rfl) (allCons (L 10 rfl rfl) (allCons (L 5 rfl rfl) (allCons (L 0 rfl rfl) allNil))))))⟩
        · have h86 := ifF c55 h36
          refine WP.skip ?_
          refine sqN ?_
          have ow87 := ow6.pick 0 rfl
          have ow88 := ow87.pick 1 rfl
          exact ⟨_, V4, rfl, ⟨0, w64 (p1 + (w64 (x8 * 1))), w64 (p1 + (w64 (x11 * 2))), w64 (p1 + (w64 (x14 * 3))), rfl, (.refl _), ow88, h86⟩, (allCons (L 29 rfl rfl) (allCons (L 32 rfl rfl) (allCons (L 22 rfl rfl) (allCons (L 16 rfl rfl) (allCons (L 10 rfl rfl) (allCons (L 4 rfl rfl) allNil))))))⟩
    · have h89 := ifF c35 h16
      refine WP.skip ?_
      refine sqN ?_
      have ow90 := ow6.pick 0 rfl
      have ow91 := ow90.pick 1 rfl
      exact ⟨_, V4, rfl, ⟨0, w64 (p1 + (w64 (x11 * 2))), rfl, (.refl _), ow91, h89⟩, (allCons (L 20 rfl rfl) (allCons (L 8 rfl rfl) allNil))⟩

set_option maxHeartbeats 4000000 in
set_option maxRecDepth 10000 in
theorem wk_slices_reverseRangeCmpFunc (V : Vw) (Rs : List At) (p0 : List Tflow_Span) (p1 : Int) (p2 : Int) (v1 : Value) (ow : Ow V (.os RT_Tflow_Span v1 p0 :: Rs)) (r : List Tflow_Span) (h : slices_reverseRangeCmpFunc p0 p1 p2 = some r) : ∃ v V', Cl Try.prog 0 45 #[v1, .int .i64 p1, .int .i64 p2, .func (.func 28) #[] #[]] V.H v V'.H ∧ V.le V' ∧ (Ow V' (.os RT_Tflow_Span v1 r :: Rs)) := by
  refine Ct.of (Nat.zero_le _) Try.func45 rfl (Nat.le_of_ble_eq_true rfl) ?_
  unfold slices_reverseRangeCmpFunc at h
  refine WP.usreg rfl ?_
  refine U.p rfl rfl (.inl rfl) (S.move rfl (L 1 rfl rfl)) ?_
  refine U.p rfl rfl (.inl rfl) (S.assign rfl (L 0 rfl rfl)) ?_
  refine U.done (Nat.le_of_ble_eq_true rfl) ?_
  refine WP.usreg rfl ?_
  refine U.p rfl rfl (.inl rfl) (S.move rfl (L 4 rfl rfl)) ?_
  refine U.p rfl rfl (.inl rfl) (S.sub rfl (L 0 rfl rfl) K) ?_
  refine U.p rfl rfl (.inl rfl) (S.assign rfl (L 0 rfl rfl)) ?_
  refine U.done (Nat.le_of_ble_eq_true rfl) ?_
  refine WP.blk ?_
  unfold slices_reverseRangeCmpFunc_l1 at h
  obtain ⟨n7, hn6⟩ := loopO_some.1 h
  refine WP.loopI2 (fun n l V' => ∃ (xs3 : List Tflow_Span) (x4 : Int) (x5 : Int), l = [(0, v1), (8, .int .i64 x4), (9, .int .i64 x5)] ∧ V.le V' ∧ Ow V' (.os RT_Tflow_Span v1 xs3 :: Rs) ∧ itO (fun s => slices_reverseRangeCmpFunc_l1b s.1 s.2.1 s.2.2) n (xs3, x4, x5) = some r) n7 _ ⟨p0, p1, w64 (p2 - 1), rfl, .refl _, ow, hn6⟩ (allCons (L 5 rfl rfl) (allCons (L 3 rfl rfl) (allCons (L 0 rfl rfl) allNil))) ?_
  rintro _ _ V8 ⟨xs3, x4, x5, rfl, le9, ow10, h14⟩
  obtain ⟨m11, q12, rfl, h15, e13⟩ := itS h14
  replace h15 : slices_reverseRangeCmpFunc_l1b xs3 x4 x5 = some q12 := h15
  unfold slices_reverseRangeCmpFunc_l1b at h15
  refine WP.seq ?_
  refine WP.usreg rfl ?_
  refine U.p rfl rfl (.inl rfl) (S.move rfl (L 1 rfl rfl)) ?_
  refine U.p rfl rfl (.inl rfl) (S.move rfl (L 3 rfl rfl)) ?_
  refine U.p rfl rfl (.inl rfl) (S.lss rfl (L 1 rfl rfl) (L 0 rfl rfl)) ?_
  refine U.done (Nat.le_of_ble_eq_true rfl) ?_
  refine WP.cond _ (L 0 rfl rfl) rfl (fun c16 => ?_) (fun c16 => ?_)
  · have h17 := ifT c16 h15
    refine WP.skip ?_
    refine sqN ?_
    refine WP.blk ?_
    refine WP.usdreg rfl rfl rfl ?_
    refine U.p rfl rfl (.inl rfl) (S.move rfl (L 3 rfl rfl)) ?_
    refine U.p rfl rfl (.inl rfl) (S.move rfl (L 5 rfl rfl)) ?_
    refine U.p rfl rfl (.inl rfl) (S.move rfl (L 5 rfl rfl)) ?_
    refine U.p rfl rfl (.inl rfl) (S.move rfl (L 8 rfl rfl)) ?_
    refine U.p rfl rfl (.inl rfl) (S.move rfl (L 7 rfl rfl)) ?_
    refine U.p rfl rfl (.inl rfl) (S.move rfl (L 10 rfl rfl)) ?_
    obtain ⟨x18, hx19, h20⟩ := bindS h17
    obtain ⟨b21, o22, n23, c24, hv25⟩ := ow10.ospt (k := 0) rfl hx19
    obtain ⟨_, hv26, _⟩ := ow10.osel (k := 0) rfl hv25 hx19
    refine U.p rfl rfl (.inl rfl) (S.index rfl ((L 1 rfl rfl).trans hv26) (L 0 rfl rfl) Try.underlying39 ti44 (ix_ge hx19) (ix_lt hx19)) ?_
    obtain ⟨cs27, hv28, hlt29, hr30, hc31⟩ := ow10.osel (k := 0) rfl hv25 hx19
    obtain rfl : cs27 = [.int .i64 x18.reg, .int .i64 x18.from_, .int .i64 x18.to_] := hr30
    refine U.k rfl rfl (.inl rfl) (S.loadN (cs := [.int .i64 x18.reg, .int .i64 x18.from_, .int .i64 x18.to_]) rfl (L 0 rfl rfl) Try.underlying44 rfl ti44 rfl hc31) (fun _ => (okH.nil (fun r h => by cases h; exact hlt29))) ?_
    refine U.p rfl rfl (.inl rfl) (S.move rfl (L 11 rfl rfl)) ?_
    refine U.p rfl rfl (.inl rfl) (S.move rfl (L 13 rfl rfl)) ?_
    obtain ⟨x32, hx33, h34⟩ := bindS h20
    obtain ⟨_, hv35, _⟩ := ow10.osel (k := 0) rfl hv25 hx33
    refine U.p rfl rfl (.inl rfl) (S.index rfl ((L 1 rfl rfl).trans hv35) (L 0 rfl rfl) Try.underlying39 ti44 (ix_ge hx33) (ix_lt hx33)) ?_
    obtain ⟨cs36, hv37, hlt38, hr39, hc40⟩ := ow10.osel (k := 0) rfl hv25 hx33
    obtain rfl : cs36 = [.int .i64 x32.reg, .int .i64 x32.from_, .int .i64 x32.to_] := hr39
    refine U.k rfl rfl (.inl rfl) (S.loadN (cs := [.int .i64 x32.reg, .int .i64 x32.from_, .int .i64 x32.to_]) rfl (L 0 rfl rfl) Try.underlying44 rfl ti44 rfl hc40) (fun _ => (okH.cons trivial (okH.nil (fun r h => by cases h; exact hlt38)))) ?_
    obtain ⟨x41, hx42, h43⟩ := bindS h34
    obtain ⟨_, hv44, _⟩ := ow10.osel (k := 0) rfl hv25 hx42
    refine U.p rfl rfl (.inl rfl) (S.index rfl ((L 11 rfl rfl).trans hv44) (L 10 rfl rfl) Try.underlying39 ti44 (ix_ge hx42) (ix_lt hx42)) ?_
    obtain ⟨cs45, hv46, hlt47, hr48, hc49⟩ := ow10.osel (k := 0) rfl hv25 hx42
    obtain rfl : cs45 = [.int .i64 x41.reg, .int .i64 x41.from_, .int .i64 x41.to_] := hr48
    refine O.storeE (k := 0) (R := RT_Tflow_Span) (j := 0) (y := x18) (cs := [.int .i64 x18.reg, .int .i64 x18.from_, .int .i64 x18.to_]) ow10 rfl hv46 rfl rfl (.inl rfl) rfl (L 0 rfl rfl) (L 5 rfl rfl) ti44 hx42 (by simp [topV]) rfl rfl rfl (full rfl) (fun H1 hs => (fun _ => (okH.cons (Or.inl rfl) (okH.cons (Or.inl rfl) (okH.nil (fun r h => nomatch h)))))) (fun V50 le51 ow52 => ?_)
    obtain ⟨x53, hx54, h55⟩ := bindS h43
    obtain ⟨_, hv56, _⟩ := ow52.osel (k := 0) rfl hv25 hx54
    refine U.p rfl rfl (.inl rfl) (S.index rfl ((L 10 rfl rfl).trans hv56) (L 9 rfl rfl) Try.underlying39 ti44 (ix_ge hx54) (ix_lt hx54)) ?_
    obtain ⟨cs57, hv58, hlt59, hr60, hc61⟩ := ow52.osel (k := 0) rfl hv25 hx54
    obtain rfl : cs57 = [.int .i64 x53.reg, .int .i64 x53.from_, .int .i64 x53.to_] := hr60
    refine O.storeE (k := 0) (R := RT_Tflow_Span) (j := 0) (y := x32) (cs := [.int .i64 x32.reg, .int .i64 x32.from_, .int .i64 x32.to_]) ow52 rfl hv58 rfl rfl (.inl rfl) rfl (L 0 rfl rfl) (L 2 rfl rfl) ti44 hx54 (by simp [topV]) rfl rfl rfl (full rfl) (fun H1 hs => (fun _ => (okH.cons rfl (okH.cons (Or.inl rfl) (okH.cons (Or.inl rfl) (okH.nil (fun r h => nomatch h))))))) (fun V62 le63 ow64 => ?_)
    refine U.done (Nat.le_of_ble_eq_true rfl) ?_
    refine WP.usreg rfl ?_
    refine U.p rfl rfl (.inl rfl) (S.move rfl (L 18 rfl rfl)) ?_
    refine U.p rfl rfl (.inl rfl) (S.add rfl (L 0 rfl rfl) K) ?_
    refine U.p rfl rfl (.inl rfl) (S.assign rfl (L 0 rfl rfl)) ?_
    refine U.done (Nat.le_of_ble_eq_true rfl) ?_
    refine WP.ureg rfl ?_
    refine U.p rfl rfl (.inl rfl) (S.move rfl (L 22 rfl rfl)) ?_
    refine U.p rfl rfl (.inl rfl) (S.sub rfl (L 0 rfl rfl) K) ?_
    refine U.p rfl rfl (.inl rfl) (S.assign rfl (L 0 rfl rfl)) ?_
    refine U.done (Nat.le_of_ble_eq_true rfl) ?_
    refine blkN (sqN ?_)
    exact ⟨_, V62, rfl, ⟨m11, Nat.lt_succ_self _, (xs3.set (Int.toNat x4) x18).set (Int.toNat x5) x32, w64 (x4 + 1), w64 (x5 - 1), rfl, ((le9.trans le51).trans le63), ow64, backS h55 e13⟩, (allCons (L 23 rfl rfl) (allCons (L 3 rfl rfl) (allCons (L 0 rfl rfl) allNil)))⟩
  · have h65 := ifF c16 h15
    refine WP.exit ?_
    refine sqE (sqE (blkE ?_))
    have h66 := exitS h65 e13
    refine fin.slots' (.inl rfl) fsN rfl ⟨V8, rfl, le9, ?_⟩
    have e67 := Option.some.inj h66
    subst e67
    exact ow10

set_option maxHeartbeats 4000000 in
set_option maxRecDepth 10000 in
theorem wk_slices_partialInsertionSortCmpFunc (V : Vw) (Rs : List At) (p0 : List Tflow_Span) (p1 : Int) (p2 : Int) (v1 : Value) (ow : Ow V (.os RT_Tflow_Span v1 p0 :: Rs)) (r : Bool × (List Tflow_Span)) (h : slices_partialInsertionSortCmpFunc p0 p1 p2 = some r) : ∃ v V', Cl Try.prog 0 46 #[v1, .int .i64 p1, .int .i64 p2, .func (.func 28) #[] #[]] V.H v V'.H ∧ V.le V' ∧ (v = .bool r.1 ∧ Ow V' (.os RT_Tflow_Span v1 r.2 :: Rs)) := by
  refine Ct.of (Nat.zero_le _) Try.func46 rfl (Nat.le_of_ble_eq_true rfl) ?_
  unfold slices_partialInsertionSortCmpFunc at h
  refine WP.usreg rfl ?_
  refine U.p rfl rfl (.inl rfl) (S.assign rfl K) ?_
  refine U.done (Nat.le_of_ble_eq_true rfl) ?_
  refine WP.usreg rfl ?_
  refine U.p rfl rfl (.inl rfl) (S.move rfl (L 2 rfl rfl)) ?_
  refine U.p rfl rfl (.inl rfl) (S.add rfl (L 0 rfl rfl) K) ?_
  refine U.p rfl rfl (.inl rfl) (S.assign rfl (L 0 rfl rfl)) ?_
  refine U.done (Nat.le_of_ble_eq_true rfl) ?_
  refine WP.seq ?_
  refine WP.usreg rfl ?_
  refine U.p rfl rfl (.inl rfl) (S.assign rfl K) ?_
  refine U.done (Nat.le_of_ble_eq_true rfl) ?_
  refine WP.blk ?_
  unfold slices_partialInsertionSortCmpFunc_l1 at h
  obtain ⟨n7, hn6⟩ := loopO_some.1 h
  refine WP.loopI2 (fun n l V' => ∃ (xs3 : List Tflow_Span) (x4 : Int) (x5 : Int), l = [(0, v1), (1, .int .i64 p1), (2, .int .i64 p2), (3, .func (.func 28) #[] #[]), (9, .int .i64 x4), (10, .int .i64 x5)] ∧ V.le V' ∧ Ow V' (.os RT_Tflow_Span v1 xs3 :: Rs) ∧ itO (fun s => slices_partialInsertionSortCmpFunc_l1b p1 p2 s.1 s.2.1 s.2.2) n (xs3, x4, x5) = some r) n7 _ ⟨p0, w64 (p1 + 1), 0, rfl, .refl _, ow, hn6⟩ (allCons (L 5 rfl rfl) (allCons (L 6 rfl rfl) (allCons (L 7 rfl rfl) (allCons (L 8 rfl rfl) (allCons (L 1 rfl rfl) (allCons (L 0 rfl rfl) allNil)))))) ?_
  rintro _ _ V8 ⟨xs3, x4, x5, rfl, le9, ow10, h14⟩
  obtain ⟨m11, q12, rfl, h15, e13⟩ := itS h14
  replace h15 : slices_partialInsertionSortCmpFunc_l1b p1 p2 xs3 x4 x5 = some q12 := h15
  unfold slices_partialInsertionSortCmpFunc_l1b at h15
  refine WP.seq ?_
  refine WP.usreg rfl ?_
  refine U.p rfl rfl (.inl rfl) (S.move rfl (L 5 rfl rfl)) ?_
  refine U.p rfl rfl (.inl rfl) (S.lss rfl (L 0 rfl rfl) K) ?_
  refine U.done (Nat.le_of_ble_eq_true rfl) ?_
  refine WP.cond _ (L 0 rfl rfl) rfl (fun c16 => ?_) (fun c16 => ?_)
  · have h17 := ifT c16 h15
    refine WP.skip ?_
    refine sqN ?_
    refine WP.seqI (fun l V' => ∃ (xs18 : List Tflow_Span) (x19 : Int), l = [(0, v1), (1, .int .i64 p1), (2, .int .i64 p2), (3, .func (.func 28) #[] #[]), (9, .int .i64 x19), (10, .int .i64 x5)] ∧ V8.le V' ∧ Ow V' (.os RT_Tflow_Span v1 xs18 :: Rs) ∧ slices_partialInsertionSortCmpFunc_k1 x5 xs18 x19 = some q12) ?_ ?_
    · rintro _ V20 ⟨xs18, x19, rfl, le21, ow22, h23⟩
      unfold slices_partialInsertionSortCmpFunc_k1 at h23
      refine WP.ureg rfl ?_
      refine U.p rfl rfl (.inl rfl) (S.move rfl (L 5 rfl rfl)) ?_
      refine U.p rfl rfl (.inl rfl) (S.add rfl (L 0 rfl rfl) K) ?_
      refine U.p rfl rfl (.inl rfl) (S.assign rfl (L 0 rfl rfl)) ?_
      refine U.done (Nat.le_of_ble_eq_true rfl) ?_
      refine sqN ?_
      exact ⟨_, V20, rfl, ⟨m11, Nat.lt_succ_self _, xs18, x19, w64 (x5 + 1), rfl, (le9.trans le21), ow22, backS h23 e13⟩, (allCons (L 3 rfl rfl) (allCons (L 4 rfl rfl) (allCons (L 5 rfl rfl) (allCons (L 6 rfl rfl) (allCons (L 7 rfl rfl) (allCons (L 0 rfl rfl) allNil))))))⟩
    · skip
      refine WP.blk ?_
      refine WP.seq ?_
      refine WP.blk ?_
      unfold slices_partialInsertionSortCmpFunc_l2 at h17
      obtain ⟨n26, hn25⟩ := loopO_some.1 h17
      refine WP.loopI2 (fun n l V' => ∃ (x24 : Int), l = [(0, v1), (1, .int .i64 p1), (2, .int .i64 p2), (3, .func (.func 28) #[] #[]), (9, .int .i64 x24), (10, .int .i64 x5)] ∧ V8.le V' ∧ Ow V' (.os RT_Tflow_Span v1 xs3 :: Rs) ∧ itO (fun s => slices_partialInsertionSortCmpFunc_l2b p1 p2 xs3 x5 s) n x24 = some q12) n26 _ ⟨x4, rfl, .refl _, ow10, hn25⟩ (allCons (L 2 rfl rfl) (allCons (L 3 rfl rfl) (allCons (L 4 rfl rfl) (allCons (L 5 rfl rfl) (allCons (L 6 rfl rfl) (allCons (L 7 rfl rfl) allNil)))))) ?_
      rintro _ _ V27 ⟨x24, rfl, le28, ow29, h33⟩
      obtain ⟨m30, q31, rfl, h34, e32⟩ := itS h33
      replace h34 : slices_partialInsertionSortCmpFunc_l2b p1 p2 xs3 x5 x24 = some q31 := h34
      unfold slices_partialInsertionSortCmpFunc_l2b at h34
      refine WP.seq ?_
      refine WP.seqI (fun l V' => ∃ (x35 : Bool), l = [(0, v1), (1, .int .i64 p1), (2, .int .i64 p2), (3, .func (.func 28) #[] #[]), (9, .int .i64 x24), (10, .int .i64 x5), (36, .bool x35)] ∧ V27.le V' ∧ Ow V' (.os RT_Tflow_Span v1 xs3 :: Rs) ∧ slices_partialInsertionSortCmpFunc_k2 p1 p2 xs3 x5 x24 x35 = some q31) ?_ ?_
      · rintro _ V36 ⟨x35, rfl, le37, ow38, h39⟩
        unfold slices_partialInsertionSortCmpFunc_k2 at h39
        refine WP.cond _ (L 6 rfl rfl) rfl (fun c40 => ?_) (fun c40 => ?_)
        · have h41 := ifT c40 h39
          refine WP.skip ?_
          refine sqN ?_
          refine WP.blk ?_
          refine WP.ureg rfl ?_
          refine U.p rfl rfl (.inl rfl) (S.move rfl (L 4 rfl rfl)) ?_
          refine U.p rfl rfl (.inl rfl) (S.add rfl (L 0 rfl rfl) K) ?_
          refine U.p rfl rfl (.inl rfl) (S.assign rfl (L 0 rfl rfl)) ?_
          refine U.done (Nat.le_of_ble_eq_true rfl) ?_
          refine blkN (sqN ?_)
          exact ⟨_, V36, rfl, ⟨m30, Nat.lt_succ_self _, w64 (x24 + 1), rfl, (le28.trans le37), ow38, backS h41 e32⟩, (allCons (L 3 rfl rfl) (allCons (L 4 rfl rfl) (allCons (L 5 rfl rfl) (allCons (L 6 rfl rfl) (allCons (L 0 rfl rfl) (allCons (L 8 rfl rfl) allNil))))))⟩
        · have h42 := ifF c40 h39
          refine WP.exit ?_
          refine sqE (sqE (blkE (sqN ?_)))
          have h43 := exitS h42 e32
          refine WP.seq ?_
          refine WP.usreg rfl ?_
          refine U.p rfl rfl (.inl rfl) (S.move rfl (L 4 rfl rfl)) ?_
          refine U.p rfl rfl (.inl rfl) (S.move rfl (L 3 rfl rfl)) ?_
          refine U.p rfl rfl (.inl rfl) (S.eqlI rfl (L 1 rfl rfl) (L 0 rfl rfl)) ?_
          refine U.done (Nat.le_of_ble_eq_true rfl) ?_
          refine WP.cond _ (L 0 rfl rfl) rfl (fun c44 => ?_) (fun c44 => ?_)
          · have h45 := ifT c44 h43
            refine WP.usreg rfl ?_
            refine U.p rfl rfl (.inl rfl) (S.assign rfl K) ?_
            refine U.done (Nat.le_of_ble_eq_true rfl) ?_
            refine WP.ret ?_
            refine sqR (blkR (sqR (sqR (blkR (sqR ?_)))))
            have h46 := exitS h45 e13
            refine fin.slot (.inr rfl) rfl (L 0 rfl rfl) ⟨V36, rfl, ((le9.trans le28).trans le37), ?_⟩
            have e47 := Option.some.inj h46
            subst e47
            exact ⟨rfl, ow38⟩
          · have h48 := ifF c44 h43
            refine WP.skip ?_
            refine sqN ?_
            refine WP.seq ?_
            refine WP.usreg rfl ?_
            refine U.p rfl rfl (.inl rfl) (S.move rfl (L 5 rfl rfl)) ?_
            refine U.p rfl rfl (.inl rfl) (S.move rfl (L 5 rfl rfl)) ?_
            refine U.p rfl rfl (.inl rfl) (S.sub rfl (L 1 rfl rfl) (L 0 rfl rfl)) ?_
            refine U.p rfl rfl (.inl rfl) (S.lss rfl (L 0 rfl rfl) K) ?_
            refine U.done (Nat.le_of_ble_eq_true rfl) ?_
            refine WP.cond _ (L 0 rfl rfl) rfl (fun c49 => ?_) (fun c49 => ?_)
            · have h50 := ifT c49 h48
              refine WP.usreg rfl ?_
              refine U.p rfl rfl (.inl rfl) (S.assign rfl K) ?_
              refine U.done (Nat.le_of_ble_eq_true rfl) ?_
              refine WP.ret ?_
              refine sqR (blkR (sqR (sqR (blkR (sqR ?_)))))
              have h51 := exitS h50 e13
              refine fin.slot (.inr rfl) rfl (L 0 rfl rfl) ⟨V36, rfl, ((le9.trans le28).trans le37), ?_⟩
              have e52 := Option.some.inj h51
              subst e52
              exact ⟨rfl, ow38⟩
            · have h53 := ifF c49 h48
              refine WP.skip ?_
              refine sqN ?_
              refine WP.usdreg rfl rfl rfl ?_
              refine U.p rfl rfl (.inl rfl) (S.move rfl (L 7 rfl rfl)) ?_
              refine U.p rfl rfl (.inl rfl) (S.move rfl (L 12 rfl rfl)) ?_
              refine U.p rfl rfl (.inl rfl) (S.move rfl (L 9 rfl rfl)) ?_
              refine U.p rfl rfl (.inl rfl) (S.move rfl (L 14 rfl rfl)) ?_
              refine U.p rfl rfl (.inl rfl) (S.sub rfl (L 0 rfl rfl) K) ?_
              refine U.p rfl rfl (.inl rfl) (S.move rfl (L 12 rfl rfl)) ?_
              refine U.p rfl rfl (.inl rfl) (S.move rfl (L 17 rfl rfl)) ?_
              refine U.p rfl rfl (.inl rfl) (S.sub rfl (L 0 rfl rfl) K) ?_
              obtain ⟨x54, hx55, h56⟩ := bindS h53
              obtain ⟨b57, o58, n59, c60, hv61⟩ := ow38.ospt (k := 0) rfl hx55
              obtain ⟨_, hv62, _⟩ := ow38.osel (k := 0) rfl hv61 hx55
              refine U.p rfl rfl (.inl rfl) (S.index rfl ((L 2 rfl rfl).trans hv62) (L 0 rfl rfl) Try.underlying39 ti44 (ix_ge hx55) (ix_lt hx55)) ?_
              obtain ⟨cs63, hv64, hlt65, hr66, hc67⟩ := ow38.osel (k := 0) rfl hv61 hx55
              obtain rfl : cs63 = [.int .i64 x54.reg, .int .i64 x54.from_, .int .i64 x54.to_] := hr66
              refine U.k rfl rfl (.inl rfl) (S.loadN (cs := [.int .i64 x54.reg, .int .i64 x54.from_, .int .i64 x54.to_]) rfl (L 0 rfl rfl) Try.underlying44 rfl ti44 rfl hc67) (fun _ => (okH.nil (fun r h => by cases h; exact hlt65))) ?_
              refine U.p rfl rfl (.inl rfl) (S.move rfl (L 17 rfl rfl)) ?_
              refine U.p rfl rfl (.inl rfl) (S.move rfl (L 22 rfl rfl)) ?_
              obtain ⟨x68, hx69, h70⟩ := bindS h56
              obtain ⟨_, hv71, _⟩ := ow38.osel (k := 0) rfl hv61 hx69
              refine U.p rfl rfl (.inl rfl) (S.index rfl ((L 1 rfl rfl).trans hv71) (L 0 rfl rfl) Try.underlying39 ti44 (ix_ge hx69) (ix_lt hx69)) ?_
              obtain ⟨cs72, hv73, hlt74, hr75, hc76⟩ := ow38.osel (k := 0) rfl hv61 hx69
              obtain rfl : cs72 = [.int .i64 x68.reg, .int .i64 x68.from_, .int .i64 x68.to_] := hr75
              refine U.k rfl rfl (.inl rfl) (S.loadN (cs := [.int .i64 x68.reg, .int .i64 x68.from_, .int .i64 x68.to_]) rfl (L 0 rfl rfl) Try.underlying44 rfl ti44 rfl hc76) (fun _ => (okH.cons trivial (okH.nil (fun r h => by cases h; exact hlt74)))) ?_
              obtain ⟨x77, hx78, h79⟩ := bindS h70
              obtain ⟨_, hv80, _⟩ := ow38.osel (k := 0) rfl hv61 hx78
              refine U.p rfl rfl (.inl rfl) (S.index rfl ((L 13 rfl rfl).trans hv80) (L 12 rfl rfl) Try.underlying39 ti44 (ix_ge hx78) (ix_lt hx78)) ?_
              obtain ⟨cs81, hv82, hlt83, hr84, hc85⟩ := ow38.osel (k := 0) rfl hv61 hx78
              obtain rfl : cs81 = [.int .i64 x77.reg, .int .i64 x77.from_, .int .i64 x77.to_] := hr84
              refine O.storeE (k := 0) (R := RT_Tflow_Span) (j := 0) (y := x54) (cs := [.int .i64 x54.reg, .int .i64 x54.from_, .int .i64 x54.to_]) ow38 rfl hv82 rfl rfl (.inl rfl) rfl (L 0 rfl rfl) (L 5 rfl rfl) ti44 hx78 (by simp [topV]) rfl rfl rfl (full rfl) (fun H1 hs => (fun _ => (okH.cons (Or.inl rfl) (okH.cons (Or.inl rfl) (okH.nil (fun r h => nomatch h)))))) (fun V86 le87 ow88 => ?_)
              obtain ⟨x89, hx90, h91⟩ := bindS h79
              obtain ⟨_, hv92, _⟩ := ow88.osel (k := 0) rfl hv61 hx90
              refine U.p rfl rfl (.inl rfl) (S.index rfl ((L 12 rfl rfl).trans hv92) (L 10 rfl rfl) Try.underlying39 ti44 (ix_ge hx90) (ix_lt hx90)) ?_
              obtain ⟨cs93, hv94, hlt95, hr96, hc97⟩ := ow88.osel (k := 0) rfl hv61 hx90
              obtain rfl : cs93 = [.int .i64 x89.reg, .int .i64 x89.from_, .int .i64 x89.to_] := hr96
              refine O.storeE (k := 0) (R := RT_Tflow_Span) (j := 0) (y := x68) (cs := [.int .i64 x68.reg, .int .i64 x68.from_, .int .i64 x68.to_]) ow88 rfl hv94 rfl rfl (.inl rfl) rfl (L 0 rfl rfl) (L 2 rfl rfl) ti44 hx90 (by simp [topV]) rfl rfl rfl (full rfl) (fun H1 hs => (fun _ => (okH.cons rfl (okH.cons (Or.inl rfl) (okH.cons (Or.inl rfl) (okH.nil (fun r h => nomatch h))))))) (fun V98 le99 ow100 => ?_)
              refine U.done (Nat.le_of_ble_eq_true rfl) ?_
              refine WP.seqI (fun l V' => ∃ (xs101 : List Tflow_Span), l = [(0, v1), (1, .int .i64 p1), (2, .int .i64 p2), (3, .func (.func 28) #[] #[]), (9, .int .i64 x24), (10, .int .i64 x5)] ∧ V98.le V' ∧ Ow V' (.os RT_Tflow_Span v1 xs101 :: Rs) ∧ slices_partialInsertionSortCmpFunc_k3 p2 x5 x24 xs101 = some q12) ?_ ?_
              · rintro _ V102 ⟨xs101, rfl, le103, ow104, h105⟩
                unfold slices_partialInsertionSortCmpFunc_k3 at h105
                refine WP.usreg rfl ?_
                refine U.p rfl rfl (.inl rfl) (S.move rfl (L 2 rfl rfl)) ?_
                refine U.p rfl rfl (.inl rfl) (S.move rfl (L 5 rfl rfl)) ?_
                refine U.p rfl rfl (.inl rfl) (S.sub rfl (L 1 rfl rfl) (L 0 rfl rfl)) ?_
                refine U.p rfl rfl (.inl rfl) (S.geq rfl (L 0 rfl rfl) K) ?_
                refine U.done (Nat.le_of_ble_eq_true rfl) ?_
                refine WP.cond _ (L 0 rfl rfl) rfl (fun c106 => ?_) (fun c106 => ?_)
                · have h107 := ifT c106 h105
                  refine WP.usreg rfl ?_
                  refine U.p rfl rfl (.inl rfl) (S.move rfl (L 8 rfl rfl)) ?_
                  refine U.p rfl rfl (.inl rfl) (S.add rfl (L 0 rfl rfl) K) ?_
                  refine U.p rfl rfl (.inl rfl) (S.assign rfl (L 0 rfl rfl)) ?_
                  refine U.done (Nat.le_of_ble_eq_true rfl) ?_
                  refine WP.blk ?_
                  unfold slices_partialInsertionSortCmpFunc_l3 at h107
                  obtain ⟨n111, hn110⟩ := loopO_some.1 h107
                  refine WP.loopI2 (fun n l V' => ∃ (xs108 : List Tflow_Span) (x109 : Int), l = [(0, v1), (1, .int .i64 p1), (2, .int .i64 p2), (3, .func (.func 28) #[] #[]), (9, .int .i64 x24), (10, .int .i64 x5), (12, .int .i64 x109)] ∧ V102.le V' ∧ Ow V' (.os RT_Tflow_Span v1 xs108 :: Rs) ∧ itO (fun s => slices_partialInsertionSortCmpFunc_l3b p2 x5 x24 s.1 s.2) n (xs108, x109) = some q12) n111 _ ⟨xs101, w64 (x24 + 1), rfl, .refl _, ow104, hn110⟩ (allCons (L 7 rfl rfl) (allCons (L 8 rfl rfl) (allCons (L 9 rfl rfl) (allCons (L 10 rfl rfl) (allCons (L 11 rfl rfl) (allCons (L 12 rfl rfl) (allCons (L 0 rfl rfl) allNil))))))) ?_
                  rintro _ _ V112 ⟨xs108, x109, rfl, le113, ow114, h118⟩
                  obtain ⟨m115, q116, rfl, h119, e117⟩ := itS h118
                  replace h119 : slices_partialInsertionSortCmpFunc_l3b p2 x5 x24 xs108 x109 = some q116 := h119
                  unfold slices_partialInsertionSortCmpFunc_l3b at h119
                  refine WP.seq ?_
                  refine WP.usreg rfl ?_
                  refine U.p rfl rfl (.inl rfl) (S.move rfl (L 6 rfl rfl)) ?_
                  refine U.p rfl rfl (.inl rfl) (S.move rfl (L 3 rfl rfl)) ?_
                  refine U.p rfl rfl (.inl rfl) (S.lss rfl (L 1 rfl rfl) (L 0 rfl rfl)) ?_
                  refine U.done (Nat.le_of_ble_eq_true rfl) ?_
                  refine WP.cond _ (L 0 rfl rfl) rfl (fun c120 => ?_) (fun c120 => ?_)
                  · have h121 := ifT c120 h119
                    refine WP.skip ?_
                    refine sqN ?_
                    refine WP.seq ?_
                    refine WP.blk ?_
                    refine WP.seq ?_
                    refine WP.usdreg rfl rfl rfl ?_
                    refine U.p rfl rfl (.inl rfl) (S.move rfl (L 6 rfl rfl)) ?_
                    refine U.p rfl rfl (.inl rfl) (S.move rfl (L 4 rfl rfl)) ?_
                    refine U.p rfl rfl (.inl rfl) (S.move rfl (L 11 rfl rfl)) ?_
                    obtain ⟨x122, hx123, h124⟩ := bindS h121
                    obtain ⟨_, hv125, _⟩ := ow114.osel (k := 0) rfl hv61 hx123
                    refine U.p rfl rfl (.inl rfl) (S.index rfl ((L 1 rfl rfl).trans hv125) (L 0 rfl rfl) Try.underlying39 ti44 (ix_ge hx123) (ix_lt hx123)) ?_
                    obtain ⟨cs126, hv127, hlt128, hr129, hc130⟩ := ow114.osel (k := 0) rfl hv61 hx123
                    obtain rfl : cs126 = [.int .i64 x122.reg, .int .i64 x122.from_, .int .i64 x122.to_] := hr129
                    refine U.k rfl rfl (.inl rfl) (S.loadN (cs := [.int .i64 x122.reg, .int .i64 x122.from_, .int .i64 x122.to_]) rfl (L 0 rfl rfl) Try.underlying44 rfl ti44 rfl hc130) (fun _ => (okH.nil (fun r h => by cases h; exact hlt128))) ?_
                    refine U.p rfl rfl (.inl rfl) (S.move rfl (L 8 rfl rfl)) ?_
                    refine U.p rfl rfl (.inl rfl) (S.move rfl (L 15 rfl rfl)) ?_
                    refine U.p rfl rfl (.inl rfl) (S.sub rfl (L 0 rfl rfl) K) ?_
                    obtain ⟨x131, hx132, h133⟩ := bindS h124
                    obtain ⟨_, hv134, _⟩ := ow114.osel (k := 0) rfl hv61 hx132
                    refine U.p rfl rfl (.inl rfl) (S.index rfl ((L 2 rfl rfl).trans hv134) (L 0 rfl rfl) Try.underlying39 ti44 (ix_ge hx132) (ix_lt hx132)) ?_
                    obtain ⟨cs135, hv136, hlt137, hr138, hc139⟩ := ow114.osel (k := 0) rfl hv61 hx132
                    obtain rfl : cs135 = [.int .i64 x131.reg, .int .i64 x131.from_, .int .i64 x131.to_] := hr138
                    refine U.k rfl rfl (.inl rfl) (S.loadN (cs := [.int .i64 x131.reg, .int .i64 x131.from_, .int .i64 x131.to_]) rfl (L 0 rfl rfl) Try.underlying44 rfl ti44 rfl hc139) (fun _ => (okH.cons trivial (okH.nil (fun r h => by cases h; exact hlt137)))) ?_
                    obtain ⟨x140, hx141, h142⟩ := bindS h133
                    refine O.callv (V := V112) rfl rfl (.inl rfl) rfl (L 9 rfl rfl) en28 (aC (L 5 rfl rfl) (aC (L 0 rfl rfl) aN)) (wk_flow_Spans_c1 V112 _ x122 x131 ow114 _ hx141) (fun v143 V144 le145 hp146 => by obtain ⟨rfl, ow147⟩ := hp146; exact (fun _ => (okH.cons (Or.inl rfl) (okH.cons (Or.inl rfl) (okH.nil (fun r h => nomatch h)))))) (fun v143 V144 le145 hp146 => ?_)
                    obtain ⟨rfl, ow147⟩ := hp146
                    refine U.p rfl rfl (.inl rfl) (S.lss rfl (L 0 rfl rfl) K) ?_
                    refine U.p rfl rfl (.inl rfl) (S.not rfl (L 0 rfl rfl)) ?_
                    refine U.done (Nat.le_of_ble_eq_true rfl) ?_
                    refine WP.cond _ (L 0 rfl rfl) rfl (fun c148 => ?_) (fun c148 => ?_)
                    · have h149 := ifT c148 h142
                      have k150 : (decide (x140 < 0)) = false := by simpa using c148
                      refine WP.exit ?_
                      refine sqE (blkO rfl (sqE (sqE (blkE (blkN (sqN ?_))))))
                      have h151 := exitS h149 e117
                      exact ⟨_, V144, rfl, ⟨xs108, x24, rfl, ((((((le28.trans le37).trans le87).trans le99).trans le103).trans le113).trans le145), ow147, h151⟩, (allCons (L 16 rfl rfl) (allCons (L 17 rfl rfl) (allCons (L 18 rfl rfl) (allCons (L 19 rfl rfl) (allCons (L 20 rfl rfl) (allCons (L 21 rfl rfl) allNil))))))⟩
                    · have h152 := ifF c148 h142
                      have k153 : (decide (x140 < 0)) = true := by simpa using c148
                      refine WP.skip ?_
                      refine sqN ?_
                      refine WP.udreg rfl rfl rfl ?_
                      refine U.p rfl rfl (.inl rfl) (S.move rfl (L 16 rfl rfl)) ?_
                      refine U.p rfl rfl (.inl rfl) (S.move rfl (L 23 rfl rfl)) ?_
                      refine U.p rfl rfl (.inl rfl) (S.move rfl (L 18 rfl rfl)) ?_
                      refine U.p rfl rfl (.inl rfl) (S.move rfl (L 25 rfl rfl)) ?_
                      refine U.p rfl rfl (.inl rfl) (S.sub rfl (L 0 rfl rfl) K) ?_
                      refine U.p rfl rfl (.inl rfl) (S.move rfl (L 21 rfl rfl)) ?_
                      refine U.p rfl rfl (.inl rfl) (S.move rfl (L 28 rfl rfl)) ?_
                      refine U.p rfl rfl (.inl rfl) (S.sub rfl (L 0 rfl rfl) K) ?_
                      obtain ⟨x154, hx155, h156⟩ := bindS h152
                      obtain ⟨_, hv157, _⟩ := ow147.osel (k := 0) rfl hv61 hx155
                      refine U.p rfl rfl (.inl rfl) (S.index rfl ((L 2 rfl rfl).trans hv157) (L 0 rfl rfl) Try.underlying39 ti44 (ix_ge hx155) (ix_lt hx155)) ?_
                      obtain ⟨cs158, hv159, hlt160, hr161, hc162⟩ := ow147.osel (k := 0) rfl hv61 hx155
                      obtain rfl : cs158 = [.int .i64 x154.reg, .int .i64 x154.from_, .int .i64 x154.to_] := hr161
                      refine U.k rfl rfl (.inl rfl) (S.loadN (cs := [.int .i64 x154.reg, .int .i64 x154.from_, .int .i64 x154.to_]) rfl (L 0 rfl rfl) Try.underlying44 rfl ti44 rfl hc162) (fun _ => (okH.nil (fun r h => by cases h; exact hlt160))) ?_
                      refine U.p rfl rfl (.inl rfl) (S.move rfl (L 26 rfl rfl)) ?_
                      refine U.p rfl rfl (.inl rfl) (S.move rfl (L 33 rfl rfl)) ?_
                      obtain ⟨x163, hx164, h165⟩ := bindS h156
                      obtain ⟨_, hv166, _⟩ := ow147.osel (k := 0) rfl hv61 hx164
                      refine U.p rfl rfl (.inl rfl) (S.index rfl ((L 1 rfl rfl).trans hv166) (L 0 rfl rfl) Try.underlying39 ti44 (ix_ge hx164) (ix_lt hx164)) ?_
                      obtain ⟨cs167, hv168, hlt169, hr170, hc171⟩ := ow147.osel (k := 0) rfl hv61 hx164
                      obtain rfl : cs167 = [.int .i64 x163.reg, .int .i64 x163.from_, .int .i64 x163.to_] := hr170
                      refine U.k rfl rfl (.inl rfl) (S.loadN (cs := [.int .i64 x163.reg, .int .i64 x163.from_, .int .i64 x163.to_]) rfl (L 0 rfl rfl) Try.underlying44 rfl ti44 rfl hc171) (fun _ => (okH.cons trivial (okH.nil (fun r h => by cases h; exact hlt169)))) ?_
                      obtain ⟨x172, hx173, h174⟩ := bindS h165
                      obtain ⟨_, hv175, _⟩ := ow147.osel (k := 0) rfl hv61 hx173
                      refine U.p rfl rfl (.inl rfl) (S.index rfl ((L 13 rfl rfl).trans hv175) (L 12 rfl rfl) Try.underlying39 ti44 (ix_ge hx173) (ix_lt hx173)) ?_
                      obtain ⟨cs176, hv177, hlt178, hr179, hc180⟩ := ow147.osel (k := 0) rfl hv61 hx173
                      obtain rfl : cs176 = [.int .i64 x172.reg, .int .i64 x172.from_, .int .i64 x172.to_] := hr179
                      refine O.storeE (k := 0) (R := RT_Tflow_Span) (j := 0) (y := x154) (cs := [.int .i64 x154.reg, .int .i64 x154.from_, .int .i64 x154.to_]) ow147 rfl hv177 rfl rfl (.inl rfl) rfl (L 0 rfl rfl) (L 5 rfl rfl) ti44 hx173 (by simp [topV]) rfl rfl rfl (full rfl) (fun H1 hs => (fun _ => (okH.cons (Or.inl rfl) (okH.cons (Or.inl rfl) (okH.nil (fun r h => nomatch h)))))) (fun V181 le182 ow183 => ?_)
                      obtain ⟨x184, hx185, h186⟩ := bindS h174
                      obtain ⟨_, hv187, _⟩ := ow183.osel (k := 0) rfl hv61 hx185
                      refine U.p rfl rfl (.inl rfl) (S.index rfl ((L 12 rfl rfl).trans hv187) (L 10 rfl rfl) Try.underlying39 ti44 (ix_ge hx185) (ix_lt hx185)) ?_
                      obtain ⟨cs188, hv189, hlt190, hr191, hc192⟩ := ow183.osel (k := 0) rfl hv61 hx185
                      obtain rfl : cs188 = [.int .i64 x184.reg, .int .i64 x184.from_, .int .i64 x184.to_] := hr191
                      refine O.storeE (k := 0) (R := RT_Tflow_Span) (j := 0) (y := x163) (cs := [.int .i64 x163.reg, .int .i64 x163.from_, .int .i64 x163.to_]) ow183 rfl hv189 rfl rfl (.inl rfl) rfl (L 0 rfl rfl) (L 2 rfl rfl) ti44 hx185 (by simp [topV]) rfl rfl rfl (full rfl) (fun H1 hs => (fun _ => (okH.cons rfl (okH.cons (Or.inl rfl) (okH.cons (Or.inl rfl) (okH.nil (fun r h => nomatch h))))))) (fun V193 le194 ow195 => ?_)
                      refine U.done (Nat.le_of_ble_eq_true rfl) ?_
                      refine blkN (sqN ?_)
                      refine WP.ureg rfl ?_
                      refine U.p rfl rfl (.inl rfl) (S.move rfl (L 38 rfl rfl)) ?_
                      refine U.p rfl rfl (.inl rfl) (S.add rfl (L 0 rfl rfl) K) ?_
                      refine U.p rfl rfl (.inl rfl) (S.assign rfl (L 0 rfl rfl)) ?_
                      refine U.done (Nat.le_of_ble_eq_true rfl) ?_
                      refine sqN ?_
                      exact ⟨_, V193, rfl, ⟨m115, Nat.lt_succ_self _, (xs108.set (Int.toNat x109) x154).set (Int.toNat (w64 (x109 - 1))) x163, w64 (x109 + 1), rfl, (((le113.trans le145).trans le182).trans le194), ow195, backS h186 e117⟩, (allCons (L 35 rfl rfl) (allCons (L 36 rfl rfl) (allCons (L 37 rfl rfl) (allCons (L 38 rfl rfl) (allCons (L 39 rfl rfl) (allCons (L 40 rfl rfl) (allCons (L 0 rfl rfl) allNil)))))))⟩
                  · have h196 := ifF c120 h119
                    refine WP.exit ?_
                    refine sqE (sqE (blkE (blkN (sqN ?_))))
                    have h197 := exitS h196 e117
                    exact ⟨_, V112, rfl, ⟨xs108, x24, rfl, (((((le28.trans le37).trans le87).trans le99).trans le103).trans le113), ow114, h197⟩, (allCons (L 3 rfl rfl) (allCons (L 4 rfl rfl) (allCons (L 5 rfl rfl) (allCons (L 6 rfl rfl) (allCons (L 7 rfl rfl) (allCons (L 8 rfl rfl) allNil))))))⟩
                · have h198 := ifF c106 h105
                  refine WP.skip ?_
                  refine blkN (sqN ?_)
                  exact ⟨_, V102, rfl, ⟨xs101, x24, rfl, ((((le28.trans le37).trans le87).trans le99).trans le103), ow104, h198⟩, (allCons (L 4 rfl rfl) (allCons (L 5 rfl rfl) (allCons (L 6 rfl rfl) (allCons (L 7 rfl rfl) (allCons (L 8 rfl rfl) (allCons (L 9 rfl rfl) allNil))))))⟩
              · skip
                refine WP.usreg rfl ?_
                refine U.p rfl rfl (.inl rfl) (S.move rfl (L 27 rfl rfl)) ?_
                refine U.p rfl rfl (.inl rfl) (S.move rfl (L 25 rfl rfl)) ?_
                refine U.p rfl rfl (.inl rfl) (S.sub rfl (L 1 rfl rfl) (L 0 rfl rfl)) ?_
                refine U.p rfl rfl (.inl rfl) (S.geq rfl (L 0 rfl rfl) K) ?_
                refine U.done (Nat.le_of_ble_eq_true rfl) ?_
                refine WP.cond _ (L 0 rfl rfl) rfl (fun c199 => ?_) (fun c199 => ?_)
                · have h200 := ifT c199 h91
                  refine WP.usreg rfl ?_
                  refine U.p rfl rfl (.inl rfl) (S.move rfl (L 31 rfl rfl)) ?_
                  refine U.p rfl rfl (.inl rfl) (S.sub rfl (L 0 rfl rfl) K) ?_
                  refine U.p rfl rfl (.inl rfl) (S.assign rfl (L 0 rfl rfl)) ?_
                  refine U.done (Nat.le_of_ble_eq_true rfl) ?_
                  refine WP.blk ?_
                  unfold slices_partialInsertionSortCmpFunc_l4 at h200
                  obtain ⟨n204, hn203⟩ := loopO_some.1 h200
                  refine WP.loopI2 (fun n l V' => ∃ (xs201 : List Tflow_Span) (x202 : Int), l = [(0, v1), (1, .int .i64 p1), (2, .int .i64 p2), (3, .func (.func 28) #[] #[]), (9, .int .i64 x24), (10, .int .i64 x5), (11, .int .i64 x202)] ∧ V98.le V' ∧ Ow V' (.os RT_Tflow_Span v1 xs201 :: Rs) ∧ itO (fun s => slices_partialInsertionSortCmpFunc_l4b p2 x5 x24 s.1 s.2) n (xs201, x202) = some q12) n204 _ ⟨(xs3.set (Int.toNat x24) x54).set (Int.toNat (w64 (x24 - 1))) x68, w64 (x24 - 1), rfl, .refl _, ow100, hn203⟩ (allCons (L 30 rfl rfl) (allCons (L 31 rfl rfl) (allCons (L 32 rfl rfl) (allCons (L 33 rfl rfl) (allCons (L 34 rfl rfl) (allCons (L 35 rfl rfl) (allCons (L 0 rfl rfl) allNil))))))) ?_
                  rintro _ _ V205 ⟨xs201, x202, rfl, le206, ow207, h211⟩
                  obtain ⟨m208, q209, rfl, h212, e210⟩ := itS h211
                  replace h212 : slices_partialInsertionSortCmpFunc_l4b p2 x5 x24 xs201 x202 = some q209 := h212
                  unfold slices_partialInsertionSortCmpFunc_l4b at h212
                  refine WP.seq ?_
                  refine WP.usreg rfl ?_
                  refine U.p rfl rfl (.inl rfl) (S.move rfl (L 6 rfl rfl)) ?_
                  refine U.p rfl rfl (.inl rfl) (S.geq rfl (L 0 rfl rfl) K) ?_
                  refine U.done (Nat.le_of_ble_eq_true rfl) ?_
                  refine WP.cond _ (L 0 rfl rfl) rfl (fun c213 => ?_) (fun c213 => ?_)
                  · have h214 := ifT c213 h212
                    refine WP.skip ?_
                    refine sqN ?_
                    refine WP.seq ?_
                    refine WP.blk ?_
                    refine WP.seq ?_
                    refine WP.usdreg rfl rfl rfl ?_
                    refine U.p rfl rfl (.inl rfl) (S.move rfl (L 5 rfl rfl)) ?_
                    refine U.p rfl rfl (.inl rfl) (S.move rfl (L 3 rfl rfl)) ?_
                    refine U.p rfl rfl (.inl rfl) (S.move rfl (L 10 rfl rfl)) ?_
                    obtain ⟨x215, hx216, h217⟩ := bindS h214
                    obtain ⟨_, hv218, _⟩ := ow207.osel (k := 0) rfl hv61 hx216
                    refine U.p rfl rfl (.inl rfl) (S.index rfl ((L 1 rfl rfl).trans hv218) (L 0 rfl rfl) Try.underlying39 ti44 (ix_ge hx216) (ix_lt hx216)) ?_
                    obtain ⟨cs219, hv220, hlt221, hr222, hc223⟩ := ow207.osel (k := 0) rfl hv61 hx216
                    obtain rfl : cs219 = [.int .i64 x215.reg, .int .i64 x215.from_, .int .i64 x215.to_] := hr222
                    refine U.k rfl rfl (.inl rfl) (S.loadN (cs := [.int .i64 x215.reg, .int .i64 x215.from_, .int .i64 x215.to_]) rfl (L 0 rfl rfl) Try.underlying44 rfl ti44 rfl hc223) (fun _ => (okH.nil (fun r h => by cases h; exact hlt221))) ?_
                    refine U.p rfl rfl (.inl rfl) (S.move rfl (L 7 rfl rfl)) ?_
                    refine U.p rfl rfl (.inl rfl) (S.move rfl (L 14 rfl rfl)) ?_
                    refine U.p rfl rfl (.inl rfl) (S.sub rfl (L 0 rfl rfl) K) ?_
                    obtain ⟨x224, hx225, h226⟩ := bindS h217
                    obtain ⟨_, hv227, _⟩ := ow207.osel (k := 0) rfl hv61 hx225
                    refine U.p rfl rfl (.inl rfl) (S.index rfl ((L 2 rfl rfl).trans hv227) (L 0 rfl rfl) Try.underlying39 ti44 (ix_ge hx225) (ix_lt hx225)) ?_
                    obtain ⟨cs228, hv229, hlt230, hr231, hc232⟩ := ow207.osel (k := 0) rfl hv61 hx225
                    obtain rfl : cs228 = [.int .i64 x224.reg, .int .i64 x224.from_, .int .i64 x224.to_] := hr231
                    refine U.k rfl rfl (.inl rfl) (S.loadN (cs := [.int .i64 x224.reg, .int .i64 x224.from_, .int .i64 x224.to_]) rfl (L 0 rfl rfl) Try.underlying44 rfl ti44 rfl hc232) (fun _ => (okH.cons trivial (okH.nil (fun r h => by cases h; exact hlt230)))) ?_
                    obtain ⟨x233, hx234, h235⟩ := bindS h226
                    refine O.callv (V := V205) rfl rfl (.inl rfl) rfl (L 9 rfl rfl) en28 (aC (L 5 rfl rfl) (aC (L 0 rfl rfl) aN)) (wk_flow_Spans_c1 V205 _ x215 x224 ow207 _ hx234) (fun v236 V237 le238 hp239 => by obtain ⟨rfl, ow240⟩ := hp239; exact (fun _ => (okH.cons (Or.inl rfl) (okH.cons (Or.inl rfl) (okH.nil (fun r h => nomatch h)))))) (fun v236 V237 le238 hp239 => ?_)
                    obtain ⟨rfl, ow240⟩ := hp239
                    refine U.p rfl rfl (.inl rfl) (S.lss rfl (L 0 rfl rfl) K) ?_
                    refine U.p rfl rfl (.inl rfl) (S.not rfl (L 0 rfl rfl)) ?_
                    refine U.done (Nat.le_of_ble_eq_true rfl) ?_
                    refine WP.cond _ (L 0 rfl rfl) rfl (fun c241 => ?_) (fun c241 => ?_)
                    · have h242 := ifT c241 h235
                      have k243 : (decide (x233 < 0)) = false := by simpa using c241
                      refine WP.exit ?_
                      refine sqE (blkO rfl (sqE (sqE (blkE (sqN ?_)))))
                      have h244 := exitS h242 e210
                      exact ⟨_, V237, rfl, ⟨xs201, rfl, (le206.trans le238), ow240, h244⟩, (allCons (L 15 rfl rfl) (allCons (L 16 rfl rfl) (allCons (L 17 rfl rfl) (allCons (L 18 rfl rfl) (allCons (L 19 rfl rfl) (allCons (L 20 rfl rfl) allNil))))))⟩
                    · have h245 := ifF c241 h235
                      have k246 : (decide (x233 < 0)) = true := by simpa using c241
                      refine WP.skip ?_
                      refine sqN ?_
                      refine WP.udreg rfl rfl rfl ?_
                      refine U.p rfl rfl (.inl rfl) (S.move rfl (L 15 rfl rfl)) ?_
                      refine U.p rfl rfl (.inl rfl) (S.move rfl (L 22 rfl rfl)) ?_
                      refine U.p rfl rfl (.inl rfl) (S.move rfl (L 17 rfl rfl)) ?_
                      refine U.p rfl rfl (.inl rfl) (S.move rfl (L 24 rfl rfl)) ?_
                      refine U.p rfl rfl (.inl rfl) (S.sub rfl (L 0 rfl rfl) K) ?_
                      refine U.p rfl rfl (.inl rfl) (S.move rfl (L 20 rfl rfl)) ?_
                      refine U.p rfl rfl (.inl rfl) (S.move rfl (L 27 rfl rfl)) ?_
                      refine U.p rfl rfl (.inl rfl) (S.sub rfl (L 0 rfl rfl) K) ?_
                      obtain ⟨x247, hx248, h249⟩ := bindS h245
                      obtain ⟨_, hv250, _⟩ := ow240.osel (k := 0) rfl hv61 hx248
                      refine U.p rfl rfl (.inl rfl) (S.index rfl ((L 2 rfl rfl).trans hv250) (L 0 rfl rfl) Try.underlying39 ti44 (ix_ge hx248) (ix_lt hx248)) ?_
                      obtain ⟨cs251, hv252, hlt253, hr254, hc255⟩ := ow240.osel (k := 0) rfl hv61 hx248
                      obtain rfl : cs251 = [.int .i64 x247.reg, .int .i64 x247.from_, .int .i64 x247.to_] := hr254
                      refine U.k rfl rfl (.inl rfl) (S.loadN (cs := [.int .i64 x247.reg, .int .i64 x247.from_, .int .i64 x247.to_]) rfl (L 0 rfl rfl) Try.underlying44 rfl ti44 rfl hc255) (fun _ => (okH.nil (fun r h => by cases h; exact hlt253))) ?_
                      refine U.p rfl rfl (.inl rfl) (S.move rfl (L 25 rfl rfl)) ?_
                      refine U.p rfl rfl (.inl rfl) (S.move rfl (L 32 rfl rfl)) ?_
                      obtain ⟨x256, hx257, h258⟩ := bindS h249
                      obtain ⟨_, hv259, _⟩ := ow240.osel (k := 0) rfl hv61 hx257
                      refine U.p rfl rfl (.inl rfl) (S.index rfl ((L 1 rfl rfl).trans hv259) (L 0 rfl rfl) Try.underlying39 ti44 (ix_ge hx257) (ix_lt hx257)) ?_
                      obtain ⟨cs260, hv261, hlt262, hr263, hc264⟩ := ow240.osel (k := 0) rfl hv61 hx257
                      obtain rfl : cs260 = [.int .i64 x256.reg, .int .i64 x256.from_, .int .i64 x256.to_] := hr263
                      refine U.k rfl rfl (.inl rfl) (S.loadN (cs := [.int .i64 x256.reg, .int .i64 x256.from_, .int .i64 x256.to_]) rfl (L 0 rfl rfl) Try.underlying44 rfl ti44 rfl hc264) (fun _ => (okH.cons trivial (okH.nil (fun r h => by cases h; exact hlt262)))) ?_
                      obtain ⟨x265, hx266, h267⟩ := bindS h258
                      obtain ⟨_, hv268, _⟩ := ow240.osel (k := 0) rfl hv61 hx266
                      refine U.p rfl rfl (.inl rfl) (S.index rfl ((L 13 rfl rfl).trans hv268) (L 12 rfl rfl) Try.underlying39 ti44 (ix_ge hx266) (ix_lt hx266)) ?_
                      obtain ⟨cs269, hv270, hlt271, hr272, hc273⟩ := ow240.osel (k := 0) rfl hv61 hx266
                      obtain rfl : cs269 = [.int .i64 x265.reg, .int .i64 x265.from_, .int .i64 x265.to_] := hr272
                      refine O.storeE (k := 0) (R := RT_Tflow_Span) (j := 0) (y := x247) (cs := [.int .i64 x247.reg, .int .i64 x247.from_, .int .i64 x247.to_]) ow240 rfl hv270 rfl rfl (.inl rfl) rfl (L 0 rfl rfl) (L 5 rfl rfl) ti44 hx266 (by simp [topV]) rfl rfl rfl (full rfl) (fun H1 hs => (fun _ => (okH.cons (Or.inl rfl) (okH.cons (Or.inl rfl) (okH.nil (fun r h => nomatch h)))))) (fun V274 le275 ow276 => ?_)
                      obtain ⟨x277, hx278, h279⟩ := bindS h267
                      obtain ⟨_, hv280, _⟩ := ow276.osel (k := 0) rfl hv61 hx278
                      refine U.p rfl rfl (.inl rfl) (S.index rfl ((L 12 rfl rfl).trans hv280) (L 10 rfl rfl) Try.underlying39 ti44 (ix_ge hx278) (ix_lt hx278)) ?_
                      obtain ⟨cs281, hv282, hlt283, hr284, hc285⟩ := ow276.osel (k := 0) rfl hv61 hx278
                      obtain rfl : cs281 = [.int .i64 x277.reg, .int .i64 x277.from_, .int .i64 x277.to_] := hr284
                      refine O.storeE (k := 0) (R := RT_Tflow_Span) (j := 0) (y := x256) (cs := [.int .i64 x256.reg, .int .i64 x256.from_, .int .i64 x256.to_]) ow276 rfl hv282 rfl rfl (.inl rfl) rfl (L 0 rfl rfl) (L 2 rfl rfl) ti44 hx278 (by simp [topV]) rfl rfl rfl (full rfl) (fun H1 hs => (fun _ => (okH.cons rfl (okH.cons (Or.inl rfl) (okH.cons (Or.inl rfl) (okH.nil (fun r h => nomatch h))))))) (fun V286 le287 ow288 => ?_)
                      refine U.done (Nat.le_of_ble_eq_true rfl) ?_
                      refine blkN (sqN ?_)
                      refine WP.ureg rfl ?_
                      refine U.p rfl rfl (.inl rfl) (S.move rfl (L 37 rfl rfl)) ?_
                      refine U.p rfl rfl (.inl rfl) (S.sub rfl (L 0 rfl rfl) K) ?_
                      refine U.p rfl rfl (.inl rfl) (S.assign rfl (L 0 rfl rfl)) ?_
                      refine U.done (Nat.le_of_ble_eq_true rfl) ?_
                      refine sqN ?_
                      exact ⟨_, V286, rfl, ⟨m208, Nat.lt_succ_self _, (xs201.set (Int.toNat x202) x247).set (Int.toNat (w64 (x202 - 1))) x256, w64 (x202 - 1), rfl, (((le206.trans le238).trans le275).trans le287), ow288, backS h279 e210⟩, (allCons (L 34 rfl rfl) (allCons (L 35 rfl rfl) (allCons (L 36 rfl rfl) (allCons (L 37 rfl rfl) (allCons (L 38 rfl rfl) (allCons (L 39 rfl rfl) (allCons (L 0 rfl rfl) allNil)))))))⟩
                  · have h289 := ifF c213 h212
                    refine WP.exit ?_
                    refine sqE (sqE (blkE (sqN ?_)))
                    have h290 := exitS h289 e210
                    exact ⟨_, V205, rfl, ⟨xs201, rfl, le206, ow207, h290⟩, (allCons (L 2 rfl rfl) (allCons (L 3 rfl rfl) (allCons (L 4 rfl rfl) (allCons (L 5 rfl rfl) (allCons (L 6 rfl rfl) (allCons (L 7 rfl rfl) allNil))))))⟩
                · have h291 := ifF c199 h91
                  refine WP.skip ?_
                  refine sqN ?_
                  exact ⟨_, V98, rfl, ⟨(xs3.set (Int.toNat x24) x54).set (Int.toNat (w64 (x24 - 1))) x68, rfl, (.refl _), ow100, h291⟩, (allCons (L 27 rfl rfl) (allCons (L 28 rfl rfl) (allCons (L 29 rfl rfl) (allCons (L 30 rfl rfl) (allCons (L 31 rfl rfl) (allCons (L 32 rfl rfl) allNil))))))⟩
      · skip
        refine WP.udreg rfl rfl rfl ?_
        refine U.p rfl rfl (.inl rfl) (S.move rfl (L 4 rfl rfl)) ?_
        refine U.p rfl rfl (.inl rfl) (S.move rfl (L 3 rfl rfl)) ?_
        refine U.p rfl rfl (.inl rfl) (S.lss rfl (L 1 rfl rfl) (L 0 rfl rfl)) ?_
        refine U.p rfl rfl (.inl rfl) (S.move rfl (L 0 rfl rfl)) ?_
        refine bcase (b := decide (x24 < p2)) (fun g292 => ?_) (fun g292 => ?_)
        · have h293 := ifT g292 h34
          refine U.p rfl rfl (.inr ⟨_, _, _, rfl, rfl, ((L 0 rfl rfl).trans (congrArg Value.bool g292))⟩) (S.move rfl (L 7 rfl rfl)) ?_
          refine U.p rfl rfl (.inr ⟨_, _, _, rfl, rfl, ((L 1 rfl rfl).trans (congrArg Value.bool g292))⟩) (S.move rfl (L 5 rfl rfl)) ?_
          refine U.p rfl rfl (.inr ⟨_, _, _, rfl, rfl, ((L 2 rfl rfl).trans (congrArg Value.bool g292))⟩) (S.move rfl (L 10 rfl rfl)) ?_
          obtain ⟨x294, hx295, h296⟩ := bindS h293
          obtain ⟨b297, o298, n299, c300, hv301⟩ := ow29.ospt (k := 0) rfl hx295
          obtain ⟨_, hv302, _⟩ := ow29.osel (k := 0) rfl hv301 hx295
          refine U.p rfl rfl (.inr ⟨_, _, _, rfl, rfl, ((L 3 rfl rfl).trans (congrArg Value.bool g292))⟩) (S.index rfl ((L 1 rfl rfl).trans hv302) (L 0 rfl rfl) Try.underlying39 ti44 (ix_ge hx295) (ix_lt hx295)) ?_
          obtain ⟨cs303, hv304, hlt305, hr306, hc307⟩ := ow29.osel (k := 0) rfl hv301 hx295
          obtain rfl : cs303 = [.int .i64 x294.reg, .int .i64 x294.from_, .int .i64 x294.to_] := hr306
          refine U.k rfl rfl (.inr ⟨_, _, _, rfl, rfl, ((L 4 rfl rfl).trans (congrArg Value.bool g292))⟩) (S.loadN (cs := [.int .i64 x294.reg, .int .i64 x294.from_, .int .i64 x294.to_]) rfl (L 0 rfl rfl) Try.underlying44 rfl ti44 rfl hc307) (fun _ => (okH.nil (fun r h => by cases h; exact hlt305))) ?_
          refine U.p rfl rfl (.inr ⟨_, _, _, rfl, rfl, ((L 5 rfl rfl).trans (congrArg Value.bool g292))⟩) (S.move rfl (L 9 rfl rfl)) ?_
          refine U.p rfl rfl (.inr ⟨_, _, _, rfl, rfl, ((L 6 rfl rfl).trans (congrArg Value.bool g292))⟩) (S.move rfl (L 14 rfl rfl)) ?_
          refine U.p rfl rfl (.inr ⟨_, _, _, rfl, rfl, ((L 7 rfl rfl).trans (congrArg Value.bool g292))⟩) (S.sub rfl (L 0 rfl rfl) K) ?_
          obtain ⟨x308, hx309, h310⟩ := bindS h296
          obtain ⟨_, hv311, _⟩ := ow29.osel (k := 0) rfl hv301 hx309
          refine U.p rfl rfl (.inr ⟨_, _, _, rfl, rfl, ((L 8 rfl rfl).trans (congrArg Value.bool g292))⟩) (S.index rfl ((L 2 rfl rfl).trans hv311) (L 0 rfl rfl) Try.underlying39 ti44 (ix_ge hx309) (ix_lt hx309)) ?_
          obtain ⟨cs312, hv313, hlt314, hr315, hc316⟩ := ow29.osel (k := 0) rfl hv301 hx309
          obtain rfl : cs312 = [.int .i64 x308.reg, .int .i64 x308.from_, .int .i64 x308.to_] := hr315
          refine U.k rfl rfl (.inr ⟨_, _, _, rfl, rfl, ((L 9 rfl rfl).trans (congrArg Value.bool g292))⟩) (S.loadN (cs := [.int .i64 x308.reg, .int .i64 x308.from_, .int .i64 x308.to_]) rfl (L 0 rfl rfl) Try.underlying44 rfl ti44 rfl hc316) (fun _ => (okH.cons trivial (okH.nil (fun r h => by cases h; exact hlt314)))) ?_
          obtain ⟨x317, hx318, h319⟩ := bindS h310
          refine O.callv (V := V27) rfl rfl (.inr ⟨_, _, _, rfl, rfl, ((L 10 rfl rfl).trans (congrArg Value.bool g292))⟩) rfl (L 9 rfl rfl) en28 (aC (L 5 rfl rfl) (aC (L 0 rfl rfl) aN)) (wk_flow_Spans_c1 V27 _ x294 x308 ow29 _ hx318) (fun v320 V321 le322 hp323 => by obtain ⟨rfl, ow324⟩ := hp323; exact (fun _ => (okH.cons (Or.inl rfl) (okH.cons (Or.inl rfl) (okH.nil (fun r h => nomatch h)))))) (fun v320 V321 le322 hp323 => ?_)
          obtain ⟨rfl, ow324⟩ := hp323
          refine U.p rfl rfl (.inr ⟨_, _, _, rfl, rfl, ((L 11 rfl rfl).trans (congrArg Value.bool g292))⟩) (S.lss rfl (L 0 rfl rfl) K) ?_
          refine U.p rfl rfl (.inr ⟨_, _, _, rfl, rfl, ((L 12 rfl rfl).trans (congrArg Value.bool g292))⟩) (S.not rfl (L 0 rfl rfl)) ?_
          refine U.p rfl rfl (.inl rfl) (S.pickT rfl ((L 13 rfl rfl).trans (congrArg Value.bool g292)) (L 0 rfl rfl)) ?_
          refine U.done (Nat.le_of_ble_eq_true rfl) ?_
          refine sqN ?_
          exact ⟨_, V321, rfl, ⟨!(decide (x317 < 0)), rfl, le322, ow324, h319⟩, (allCons (L 18 rfl rfl) (allCons (L 19 rfl rfl) (allCons (L 20 rfl rfl) (allCons (L 21 rfl rfl) (allCons (L 22 rfl rfl) (allCons (L 23 rfl rfl) (allCons (L 0 rfl rfl) allNil)))))))⟩
        · have h325 := ifF g292 h34
          refine U.x rfl rfl rfl rfl ((L 0 rfl rfl).trans (congrArg Value.bool g292)) (by decide) ?_
          refine U.x rfl rfl rfl rfl ((L 1 rfl rfl).trans (congrArg Value.bool g292)) (by decide) ?_
          refine U.x rfl rfl rfl rfl ((L 2 rfl rfl).trans (congrArg Value.bool g292)) (by decide) ?_
          refine U.x rfl rfl rfl rfl ((L 3 rfl rfl).trans (congrArg Value.bool g292)) (by decide) ?_
          refine U.x rfl rfl rfl rfl ((L 4 rfl rfl).trans (congrArg Value.bool g292)) (by decide) ?_
          refine U.x rfl rfl rfl rfl ((L 5 rfl rfl).trans (congrArg Value.bool g292)) (by decide) ?_
          refine U.x rfl rfl rfl rfl ((L 6 rfl rfl).trans (congrArg Value.bool g292)) (by decide) ?_
          refine U.x rfl rfl rfl rfl ((L 7 rfl rfl).trans (congrArg Value.bool g292)) (by decide) ?_
          refine U.x rfl rfl rfl rfl ((L 8 rfl rfl).trans (congrArg Value.bool g292)) (by decide) ?_
          refine U.x rfl rfl rfl rfl ((L 9 rfl rfl).trans (congrArg Value.bool g292)) (by decide) ?_
          refine U.x rfl rfl rfl rfl ((L 10 rfl rfl).trans (congrArg Value.bool g292)) (by decide) ?_
          refine U.x rfl rfl rfl rfl ((L 11 rfl rfl).trans (congrArg Value.bool g292)) (by decide) ?_
          refine U.x rfl rfl rfl rfl ((L 12 rfl rfl).trans (congrArg Value.bool g292)) (by decide) ?_
          refine U.p rfl rfl (.inl rfl) (S.pickF rfl ((L 13 rfl rfl).trans (congrArg Value.bool g292)) K) ?_
          refine U.done (Nat.le_of_ble_eq_true rfl) ?_
          refine sqN ?_
          exact ⟨_, V27, rfl, ⟨false, rfl, (.refl _), ow29, h325⟩, (allCons (L 18 rfl rfl) (allCons (L 19 rfl rfl) (allCons (L 20 rfl rfl) (allCons (L 21 rfl rfl) (allCons (L 22 rfl rfl) (allCons (L 23 rfl rfl) (allCons (L 0 rfl rfl) allNil)))))))⟩
  · have h326 := ifF c16 h15
    refine WP.exit ?_
    refine sqE (sqE (blkE (sqN ?_)))
    have h327 := exitS h326 e13
    refine WP.usreg rfl ?_
    refine U.p rfl rfl (.inl rfl) (S.assign rfl K) ?_
    refine U.done (Nat.le_of_ble_eq_true rfl) ?_
    refine WP.ret ?_
    refine fin.slot (.inr rfl) rfl (L 0 rfl rfl) ⟨V8, rfl, le9, ?_⟩
    have e328 := Option.some.inj h327
    subst e328
    exact ⟨rfl, ow10⟩

set_option maxHeartbeats 4000000 in
set_option maxRecDepth 10000 in
theorem wk_slices_partitionEqualCmpFunc (V : Vw) (Rs : List At) (p0 : List Tflow_Span) (p1 : Int) (p2 : Int) (p3 : Int) (v1 : Value) (ow : Ow V (.os RT_Tflow_Span v1 p0 :: Rs)) (r : Int × (List Tflow_Span)) (h : slices_partitionEqualCmpFunc p0 p1 p2 p3 = some r) : ∃ v V', Cl Try.prog 0 47 #[v1, .int .i64 p1, .int .i64 p2, .int .i64 p3, .func (.func 28) #[] #[]] V.H v V'.H ∧ V.le V' ∧ (v = .int .i64 r.1 ∧ Ow V' (.os RT_Tflow_Span v1 r.2 :: Rs)) := by
  refine Ct.of (Nat.zero_le _) Try.func47 rfl (Nat.le_of_ble_eq_true rfl) ?_
  unfold slices_partitionEqualCmpFunc at h
  refine WP.usreg rfl ?_
  refine U.p rfl rfl (.inl rfl) (S.assign rfl K) ?_
  refine U.done (Nat.le_of_ble_eq_true rfl) ?_
  refine WP.usdreg rfl rfl rfl ?_
  refine U.p rfl rfl (.inl rfl) (S.move rfl (L 1 rfl rfl)) ?_
  refine U.p rfl rfl (.inl rfl) (S.move rfl (L 3 rfl rfl)) ?_
  refine U.p rfl rfl (.inl rfl) (S.move rfl (L 3 rfl rfl)) ?_
  refine U.p rfl rfl (.inl rfl) (S.move rfl (L 7 rfl rfl)) ?_
  refine U.p rfl rfl (.inl rfl) (S.move rfl (L 5 rfl rfl)) ?_
  refine U.p rfl rfl (.inl rfl) (S.move rfl (L 9 rfl rfl)) ?_
  obtain ⟨x3, hx4, h5⟩ := bindS h
  obtain ⟨b6, o7, n8, c9, hv10⟩ := ow.ospt (k := 0) rfl hx4
  obtain ⟨_, hv11, _⟩ := ow.osel (k := 0) rfl hv10 hx4
  refine U.p rfl rfl (.inl rfl) (S.index rfl ((L 1 rfl rfl).trans hv11) (L 0 rfl rfl) Try.underlying39 ti44 (ix_ge hx4) (ix_lt hx4)) ?_
  obtain ⟨cs12, hv13, hlt14, hr15, hc16⟩ := ow.osel (k := 0) rfl hv10 hx4
  obtain rfl : cs12 = [.int .i64 x3.reg, .int .i64 x3.from_, .int .i64 x3.to_] := hr15
  refine U.k rfl rfl (.inl rfl) (S.loadN (cs := [.int .i64 x3.reg, .int .i64 x3.from_, .int .i64 x3.to_]) rfl (L 0 rfl rfl) Try.underlying44 rfl ti44 rfl hc16) (fun _ => (okH.nil (fun r h => by cases h; exact hlt14))) ?_
  refine U.p rfl rfl (.inl rfl) (S.move rfl (L 9 rfl rfl)) ?_
  refine U.p rfl rfl (.inl rfl) (S.move rfl (L 11 rfl rfl)) ?_
  obtain ⟨x17, hx18, h19⟩ := bindS h5
  obtain ⟨_, hv20, _⟩ := ow.osel (k := 0) rfl hv10 hx18
  refine U.p rfl rfl (.inl rfl) (S.index rfl ((L 1 rfl rfl).trans hv20) (L 0 rfl rfl) Try.underlying39 ti44 (ix_ge hx18) (ix_lt hx18)) ?_
  obtain ⟨cs21, hv22, hlt23, hr24, hc25⟩ := ow.osel (k := 0) rfl hv10 hx18
  obtain rfl : cs21 = [.int .i64 x17.reg, .int .i64 x17.from_, .int .i64 x17.to_] := hr24
  refine U.k rfl rfl (.inl rfl) (S.loadN (cs := [.int .i64 x17.reg, .int .i64 x17.from_, .int .i64 x17.to_]) rfl (L 0 rfl rfl) Try.underlying44 rfl ti44 rfl hc25) (fun _ => (okH.cons trivial (okH.nil (fun r h => by cases h; exact hlt23)))) ?_
  obtain ⟨x26, hx27, h28⟩ := bindS h19
  obtain ⟨_, hv29, _⟩ := ow.osel (k := 0) rfl hv10 hx27
  refine U.p rfl rfl (.inl rfl) (S.index rfl ((L 11 rfl rfl).trans hv29) (L 10 rfl rfl) Try.underlying39 ti44 (ix_ge hx27) (ix_lt hx27)) ?_
  obtain ⟨cs30, hv31, hlt32, hr33, hc34⟩ := ow.osel (k := 0) rfl hv10 hx27
  obtain rfl : cs30 = [.int .i64 x26.reg, .int .i64 x26.from_, .int .i64 x26.to_] := hr33
  refine O.storeE (k := 0) (R := RT_Tflow_Span) (j := 0) (y := x3) (cs := [.int .i64 x3.reg, .int .i64 x3.from_, .int .i64 x3.to_]) ow rfl hv31 rfl rfl (.inl rfl) rfl (L 0 rfl rfl) (L 5 rfl rfl) ti44 hx27 (by simp [topV]) rfl rfl rfl (full rfl) (fun H1 hs => (fun _ => (okH.cons (Or.inl rfl) (okH.cons (Or.inl rfl) (okH.nil (fun r h => nomatch h)))))) (fun V35 le36 ow37 => ?_)
  obtain ⟨x38, hx39, h40⟩ := bindS h28
  obtain ⟨_, hv41, _⟩ := ow37.osel (k := 0) rfl hv10 hx39
  refine U.p rfl rfl (.inl rfl) (S.index rfl ((L 10 rfl rfl).trans hv41) (L 9 rfl rfl) Try.underlying39 ti44 (ix_ge hx39) (ix_lt hx39)) ?_
  obtain ⟨cs42, hv43, hlt44, hr45, hc46⟩ := ow37.osel (k := 0) rfl hv10 hx39
  obtain rfl : cs42 = [.int .i64 x38.reg, .int .i64 x38.from_, .int .i64 x38.to_] := hr45
  refine O.storeE (k := 0) (R := RT_Tflow_Span) (j := 0) (y := x17) (cs := [.int .i64 x17.reg, .int .i64 x17.from_, .int .i64 x17.to_]) ow37 rfl hv43 rfl rfl (.inl rfl) rfl (L 0 rfl rfl) (L 2 rfl rfl) ti44 hx39 (by simp [topV]) rfl rfl rfl (full rfl) (fun H1 hs => (fun _ => (okH.cons rfl (okH.cons (Or.inl rfl) (okH.cons (Or.inl rfl) (okH.nil (fun r h => nomatch h))))))) (fun V47 le48 ow49 => ?_)
  refine U.done (Nat.le_of_ble_eq_true rfl) ?_
  refine WP.usreg rfl ?_
  refine U.p rfl rfl (.inl rfl) (S.move rfl (L 16 rfl rfl)) ?_
  refine U.p rfl rfl (.inl rfl) (S.add rfl (L 0 rfl rfl) K) ?_
  refine U.p rfl rfl (.inl rfl) (S.move rfl (L 19 rfl rfl)) ?_
  refine U.p rfl rfl (.inl rfl) (S.sub rfl (L 0 rfl rfl) K) ?_
  refine U.p rfl rfl (.inl rfl) (S.assign rfl (L 2 rfl rfl)) ?_
  refine U.p rfl rfl (.inl rfl) (S.assign rfl (L 1 rfl rfl)) ?_
  refine U.done (Nat.le_of_ble_eq_true rfl) ?_
  refine WP.seq ?_
  refine WP.blk ?_
  unfold slices_partitionEqualCmpFunc_l1 at h40
  obtain ⟨n54, hn53⟩ := loopO_some.1 h40
  refine WP.loopI2 (fun n l V' => ∃ (xs50 : List Tflow_Span) (x51 : Int) (x52 : Int), l = [(0, v1), (1, .int .i64 p1), (4, .func (.func 28) #[] #[]), (11, .int .i64 x51), (12, .int .i64 x52)] ∧ V47.le V' ∧ Ow V' (.os RT_Tflow_Span v1 xs50 :: Rs) ∧ itO (fun s => slices_partitionEqualCmpFunc_l1b p1 s.1 s.2.1 s.2.2) n (xs50, x51, x52) = some r) n54 _ ⟨(p0.set (Int.toNat p1) x3).set (Int.toNat p3) x17, w64 (p1 + 1), w64 (p2 - 1), rfl, .refl _, ow49, hn53⟩ (allCons (L 21 rfl rfl) (allCons (L 22 rfl rfl) (allCons (L 25 rfl rfl) (allCons (L 1 rfl rfl) (allCons (L 0 rfl rfl) allNil))))) ?_
  rintro _ _ V55 ⟨xs50, x51, x52, rfl, le56, ow57, h61⟩
  obtain ⟨m58, q59, rfl, h62, e60⟩ := itS h61
  replace h62 : slices_partitionEqualCmpFunc_l1b p1 xs50 x51 x52 = some q59 := h62
  unfold slices_partitionEqualCmpFunc_l1b at h62
  refine WP.blk ?_
  refine WP.seq ?_
  refine WP.blk ?_
  unfold slices_partitionEqualCmpFunc_l2 at h62
  obtain ⟨n65, hn64⟩ := loopO_some.1 h62
  refine WP.loopI2 (fun n l V' => ∃ (x63 : Int), l = [(0, v1), (1, .int .i64 p1), (4, .func (.func 28) #[] #[]), (11, .int .i64 x63), (12, .int .i64 x52)] ∧ V55.le V' ∧ Ow V' (.os RT_Tflow_Span v1 xs50 :: Rs) ∧ itO (fun s => slices_partitionEqualCmpFunc_l2b p1 xs50 x52 s) n x63 = some q59) n65 _ ⟨x51, rfl, .refl _, ow57, hn64⟩ (allCons (L 0 rfl rfl) (allCons (L 1 rfl rfl) (allCons (L 2 rfl rfl) (allCons (L 3 rfl rfl) (allCons (L 4 rfl rfl) allNil))))) ?_
  rintro _ _ V66 ⟨x63, rfl, le67, ow68, h72⟩
  obtain ⟨m69, q70, rfl, h73, e71⟩ := itS h72
  replace h73 : slices_partitionEqualCmpFunc_l2b p1 xs50 x52 x63 = some q70 := h73
  unfold slices_partitionEqualCmpFunc_l2b at h73
  refine WP.seq ?_
  refine WP.seqI (fun l V' => ∃ (x74 : Bool), l = [(0, v1), (1, .int .i64 p1), (4, .func (.func 28) #[] #[]), (11, .int .i64 x63), (12, .int .i64 x52), (47, .bool x74)] ∧ V66.le V' ∧ Ow V' (.os RT_Tflow_Span v1 xs50 :: Rs) ∧ slices_partitionEqualCmpFunc_k1 p1 xs50 x52 x63 x74 = some q70) ?_ ?_
  · rintro _ V75 ⟨x74, rfl, le76, ow77, h78⟩
    unfold slices_partitionEqualCmpFunc_k1 at h78
    refine WP.cond _ (L 5 rfl rfl) rfl (fun c79 => ?_) (fun c79 => ?_)
    · have h80 := ifT c79 h78
      refine WP.skip ?_
      refine sqN ?_
      refine WP.blk ?_
      refine WP.ureg rfl ?_
      refine U.p rfl rfl (.inl rfl) (S.move rfl (L 3 rfl rfl)) ?_
      refine U.p rfl rfl (.inl rfl) (S.add rfl (L 0 rfl rfl) K) ?_
      refine U.p rfl rfl (.inl rfl) (S.assign rfl (L 0 rfl rfl)) ?_
      refine U.done (Nat.le_of_ble_eq_true rfl) ?_
      refine blkN (sqN ?_)
      exact ⟨_, V75, rfl, ⟨m69, Nat.lt_succ_self _, w64 (x63 + 1), rfl, (le67.trans le76), ow77, backS h80 e71⟩, (allCons (L 3 rfl rfl) (allCons (L 4 rfl rfl) (allCons (L 5 rfl rfl) (allCons (L 0 rfl rfl) (allCons (L 7 rfl rfl) allNil)))))⟩
    · have h81 := ifF c79 h78
      refine WP.exit ?_
      refine sqE (sqE (blkE (sqN ?_)))
      have h82 := exitS h81 e71
      refine WP.seq ?_
      refine WP.blk ?_
      unfold slices_partitionEqualCmpFunc_l3 at h82
      obtain ⟨n85, hn84⟩ := loopO_some.1 h82
      refine WP.loopI2 (fun n l V' => ∃ (x83 : Int), l = [(0, v1), (1, .int .i64 p1), (4, .func (.func 28) #[] #[]), (11, .int .i64 x63), (12, .int .i64 x83)] ∧ V75.le V' ∧ Ow V' (.os RT_Tflow_Span v1 xs50 :: Rs) ∧ itO (fun s => slices_partitionEqualCmpFunc_l3b p1 xs50 x63 s) n x83 = some q59) n85 _ ⟨x52, rfl, .refl _, ow77, hn84⟩ (allCons (L 0 rfl rfl) (allCons (L 1 rfl rfl) (allCons (L 2 rfl rfl) (allCons (L 3 rfl rfl) (allCons (L 4 rfl rfl) allNil))))) ?_
      rintro _ _ V86 ⟨x83, rfl, le87, ow88, h92⟩
      obtain ⟨m89, q90, rfl, h93, e91⟩ := itS h92
      replace h93 : slices_partitionEqualCmpFunc_l3b p1 xs50 x63 x83 = some q90 := h93
      unfold slices_partitionEqualCmpFunc_l3b at h93
      refine WP.seq ?_
      refine WP.seqI (fun l V' => ∃ (x94 : Bool), l = [(0, v1), (1, .int .i64 p1), (4, .func (.func 28) #[] #[]), (11, .int .i64 x63), (12, .int .i64 x83), (65, .bool x94)] ∧ V86.le V' ∧ Ow V' (.os RT_Tflow_Span v1 xs50 :: Rs) ∧ slices_partitionEqualCmpFunc_k2 xs50 x63 x83 x94 = some q90) ?_ ?_
      · rintro _ V95 ⟨x94, rfl, le96, ow97, h98⟩
        unfold slices_partitionEqualCmpFunc_k2 at h98
        refine WP.cond _ (L 5 rfl rfl) rfl (fun c99 => ?_) (fun c99 => ?_)
        · have h100 := ifT c99 h98
          refine WP.skip ?_
          refine sqN ?_
          refine WP.blk ?_
          refine WP.ureg rfl ?_
          refine U.p rfl rfl (.inl rfl) (S.move rfl (L 4 rfl rfl)) ?_
          refine U.p rfl rfl (.inl rfl) (S.sub rfl (L 0 rfl rfl) K) ?_
          refine U.p rfl rfl (.inl rfl) (S.assign rfl (L 0 rfl rfl)) ?_
          refine U.done (Nat.le_of_ble_eq_true rfl) ?_
          refine blkN (sqN ?_)
          exact ⟨_, V95, rfl, ⟨m89, Nat.lt_succ_self _, w64 (x83 - 1), rfl, (le87.trans le96), ow97, backS h100 e91⟩, (allCons (L 3 rfl rfl) (allCons (L 4 rfl rfl) (allCons (L 5 rfl rfl) (allCons (L 6 rfl rfl) (allCons (L 0 rfl rfl) allNil)))))⟩
        · have h101 := ifF c99 h98
          refine WP.exit ?_
          refine sqE (sqE (blkE (sqN ?_)))
          have h102 := exitS h101 e91
          refine WP.seq ?_
          refine WP.usreg rfl ?_
          refine U.p rfl rfl (.inl rfl) (S.move rfl (L 3 rfl rfl)) ?_
          refine U.p rfl rfl (.inl rfl) (S.move rfl (L 5 rfl rfl)) ?_
          refine U.p rfl rfl (.inl rfl) (S.gtr rfl (L 1 rfl rfl) (L 0 rfl rfl)) ?_
          refine U.done (Nat.le_of_ble_eq_true rfl) ?_
          refine WP.cond _ (L 0 rfl rfl) rfl (fun c103 => ?_) (fun c103 => ?_)
          · have h104 := ifT c103 h102
            refine WP.exit ?_
            refine sqE (blkO rfl (sqE (blkE (sqN ?_))))
            have h105 := exitS h104 e60
            refine WP.usreg rfl ?_
            refine U.p rfl rfl (.inl rfl) (S.move rfl (L 6 rfl rfl)) ?_
            refine U.p rfl rfl (.inl rfl) (S.assign rfl (L 0 rfl rfl)) ?_
            refine U.done (Nat.le_of_ble_eq_true rfl) ?_
            refine WP.ret ?_
            refine fin.slot (.inr rfl) rfl (L 0 rfl rfl) ⟨V95, rfl, ((((((le36.trans le48).trans le56).trans le67).trans le76).trans le87).trans le96), ?_⟩
            have e106 := Option.some.inj h105
            subst e106
            exact ⟨rfl, ow97⟩
          · have h107 := ifF c103 h102
            refine WP.skip ?_
            refine sqN ?_
            refine WP.usdreg rfl rfl rfl ?_
            refine U.p rfl rfl (.inl rfl) (S.move rfl (L 3 rfl rfl)) ?_
            refine U.p rfl rfl (.inl rfl) (S.move rfl (L 7 rfl rfl)) ?_
            refine U.p rfl rfl (.inl rfl) (S.move rfl (L 5 rfl rfl)) ?_
            refine U.p rfl rfl (.inl rfl) (S.move rfl (L 10 rfl rfl)) ?_
            refine U.p rfl rfl (.inl rfl) (S.move rfl (L 7 rfl rfl)) ?_
            refine U.p rfl rfl (.inl rfl) (S.move rfl (L 12 rfl rfl)) ?_
            obtain ⟨x108, hx109, h110⟩ := bindS h107
            obtain ⟨_, hv111, _⟩ := ow97.osel (k := 0) rfl hv10 hx109
            refine U.p rfl rfl (.inl rfl) (S.index rfl ((L 1 rfl rfl).trans hv111) (L 0 rfl rfl) Try.underlying39 ti44 (ix_ge hx109) (ix_lt hx109)) ?_
            obtain ⟨cs112, hv113, hlt114, hr115, hc116⟩ := ow97.osel (k := 0) rfl hv10 hx109
            obtain rfl : cs112 = [.int .i64 x108.reg, .int .i64 x108.from_, .int .i64 x108.to_] := hr115
            refine U.k rfl rfl (.inl rfl) (S.loadN (cs := [.int .i64 x108.reg, .int .i64 x108.from_, .int .i64 x108.to_]) rfl (L 0 rfl rfl) Try.underlying44 rfl ti44 rfl hc116) (fun _ => (okH.nil (fun r h => by cases h; exact hlt114))) ?_
            refine U.p rfl rfl (.inl rfl) (S.move rfl (L 11 rfl rfl)) ?_
            refine U.p rfl rfl (.inl rfl) (S.move rfl (L 15 rfl rfl)) ?_
            obtain ⟨x117, hx118, h119⟩ := bindS h110
            obtain ⟨_, hv120, _⟩ := ow97.osel (k := 0) rfl hv10 hx118
            refine U.p rfl rfl (.inl rfl) (S.index rfl ((L 1 rfl rfl).trans hv120) (L 0 rfl rfl) Try.underlying39 ti44 (ix_ge hx118) (ix_lt hx118)) ?_
            obtain ⟨cs121, hv122, hlt123, hr124, hc125⟩ := ow97.osel (k := 0) rfl hv10 hx118
            obtain rfl : cs121 = [.int .i64 x117.reg, .int .i64 x117.from_, .int .i64 x117.to_] := hr124
            refine U.k rfl rfl (.inl rfl) (S.loadN (cs := [.int .i64 x117.reg, .int .i64 x117.from_, .int .i64 x117.to_]) rfl (L 0 rfl rfl) Try.underlying44 rfl ti44 rfl hc125) (fun _ => (okH.cons trivial (okH.nil (fun r h => by cases h; exact hlt123)))) ?_
            obtain ⟨x126, hx127, h128⟩ := bindS h119
            obtain ⟨_, hv129, _⟩ := ow97.osel (k := 0) rfl hv10 hx127
            refine U.p rfl rfl (.inl rfl) (S.index rfl ((L 11 rfl rfl).trans hv129) (L 10 rfl rfl) Try.underlying39 ti44 (ix_ge hx127) (ix_lt hx127)) ?_
            obtain ⟨cs130, hv131, hlt132, hr133, hc134⟩ := ow97.osel (k := 0) rfl hv10 hx127
            obtain rfl : cs130 = [.int .i64 x126.reg, .int .i64 x126.from_, .int .i64 x126.to_] := hr133
            refine O.storeE (k := 0) (R := RT_Tflow_Span) (j := 0) (y := x108) (cs := [.int .i64 x108.reg, .int .i64 x108.from_, .int .i64 x108.to_]) ow97 rfl hv131 rfl rfl (.inl rfl) rfl (L 0 rfl rfl) (L 5 rfl rfl) ti44 hx127 (by simp [topV]) rfl rfl rfl (full rfl) (fun H1 hs => (fun _ => (okH.cons (Or.inl rfl) (okH.cons (Or.inl rfl) (okH.nil (fun r h => nomatch h)))))) (fun V135 le136 ow137 => ?_)
            obtain ⟨x138, hx139, h140⟩ := bindS h128
            obtain ⟨_, hv141, _⟩ := ow137.osel (k := 0) rfl hv10 hx139
            refine U.p rfl rfl (.inl rfl) (S.index rfl ((L 10 rfl rfl).trans hv141) (L 9 rfl rfl) Try.underlying39 ti44 (ix_ge hx139) (ix_lt hx139)) ?_
            obtain ⟨cs142, hv143, hlt144, hr145, hc146⟩ := ow137.osel (k := 0) rfl hv10 hx139
            obtain rfl : cs142 = [.int .i64 x138.reg, .int .i64 x138.from_, .int .i64 x138.to_] := hr145
            refine O.storeE (k := 0) (R := RT_Tflow_Span) (j := 0) (y := x117) (cs := [.int .i64 x117.reg, .int .i64 x117.from_, .int .i64 x117.to_]) ow137 rfl hv143 rfl rfl (.inl rfl) rfl (L 0 rfl rfl) (L 2 rfl rfl) ti44 hx139 (by simp [topV]) rfl rfl rfl (full rfl) (fun H1 hs => (fun _ => (okH.cons rfl (okH.cons (Or.inl rfl) (okH.cons (Or.inl rfl) (okH.nil (fun r h => nomatch h))))))) (fun V147 le148 ow149 => ?_)
            refine U.done (Nat.le_of_ble_eq_true rfl) ?_
            refine WP.usreg rfl ?_
            refine U.p rfl rfl (.inl rfl) (S.move rfl (L 20 rfl rfl)) ?_
            refine U.p rfl rfl (.inl rfl) (S.add rfl (L 0 rfl rfl) K) ?_
            refine U.p rfl rfl (.inl rfl) (S.assign rfl (L 0 rfl rfl)) ?_
            refine U.done (Nat.le_of_ble_eq_true rfl) ?_
            refine WP.ureg rfl ?_
            refine U.p rfl rfl (.inl rfl) (S.move rfl (L 24 rfl rfl)) ?_
            refine U.p rfl rfl (.inl rfl) (S.sub rfl (L 0 rfl rfl) K) ?_
            refine U.p rfl rfl (.inl rfl) (S.assign rfl (L 0 rfl rfl)) ?_
            refine U.done (Nat.le_of_ble_eq_true rfl) ?_
            refine blkN (sqN ?_)
            exact ⟨_, V147, rfl, ⟨m58, Nat.lt_succ_self _, (xs50.set (Int.toNat x63) x108).set (Int.toNat x83) x117, w64 (x63 + 1), w64 (x83 - 1), rfl, ((((((le56.trans le67).trans le76).trans le87).trans le96).trans le136).trans le148), ow149, backS h140 e60⟩, (allCons (L 23 rfl rfl) (allCons (L 24 rfl rfl) (allCons (L 25 rfl rfl) (allCons (L 3 rfl rfl) (allCons (L 0 rfl rfl) allNil)))))⟩
      · skip
        refine WP.udreg rfl rfl rfl ?_
        refine U.p rfl rfl (.inl rfl) (S.move rfl (L 3 rfl rfl)) ?_
        refine U.p rfl rfl (.inl rfl) (S.move rfl (L 5 rfl rfl)) ?_
        refine U.p rfl rfl (.inl rfl) (S.leq rfl (L 1 rfl rfl) (L 0 rfl rfl)) ?_
        refine U.p rfl rfl (.inl rfl) (S.move rfl (L 0 rfl rfl)) ?_
        refine bcase (b := decide (x63 ≤ x83)) (fun g150 => ?_) (fun g150 => ?_)
        · have h151 := ifT g150 h93
          refine U.p rfl rfl (.inr ⟨_, _, _, rfl, rfl, ((L 0 rfl rfl).trans (congrArg Value.bool g150))⟩) (S.move rfl (L 6 rfl rfl)) ?_
          refine U.p rfl rfl (.inr ⟨_, _, _, rfl, rfl, ((L 1 rfl rfl).trans (congrArg Value.bool g150))⟩) (S.move rfl (L 5 rfl rfl)) ?_
          refine U.p rfl rfl (.inr ⟨_, _, _, rfl, rfl, ((L 2 rfl rfl).trans (congrArg Value.bool g150))⟩) (S.move rfl (L 7 rfl rfl)) ?_
          obtain ⟨x152, hx153, h154⟩ := bindS h151
          obtain ⟨_, hv155, _⟩ := ow88.osel (k := 0) rfl hv10 hx153
          refine U.p rfl rfl (.inr ⟨_, _, _, rfl, rfl, ((L 3 rfl rfl).trans (congrArg Value.bool g150))⟩) (S.index rfl ((L 1 rfl rfl).trans hv155) (L 0 rfl rfl) Try.underlying39 ti44 (ix_ge hx153) (ix_lt hx153)) ?_
          obtain ⟨cs156, hv157, hlt158, hr159, hc160⟩ := ow88.osel (k := 0) rfl hv10 hx153
          obtain rfl : cs156 = [.int .i64 x152.reg, .int .i64 x152.from_, .int .i64 x152.to_] := hr159
          refine U.k rfl rfl (.inr ⟨_, _, _, rfl, rfl, ((L 4 rfl rfl).trans (congrArg Value.bool g150))⟩) (S.loadN (cs := [.int .i64 x152.reg, .int .i64 x152.from_, .int .i64 x152.to_]) rfl (L 0 rfl rfl) Try.underlying44 rfl ti44 rfl hc160) (fun _ => (okH.nil (fun r h => by cases h; exact hlt158))) ?_
          refine U.p rfl rfl (.inr ⟨_, _, _, rfl, rfl, ((L 5 rfl rfl).trans (congrArg Value.bool g150))⟩) (S.move rfl (L 9 rfl rfl)) ?_
          refine U.p rfl rfl (.inr ⟨_, _, _, rfl, rfl, ((L 6 rfl rfl).trans (congrArg Value.bool g150))⟩) (S.move rfl (L 14 rfl rfl)) ?_
          obtain ⟨x161, hx162, h163⟩ := bindS h154
          obtain ⟨_, hv164, _⟩ := ow88.osel (k := 0) rfl hv10 hx162
          refine U.p rfl rfl (.inr ⟨_, _, _, rfl, rfl, ((L 7 rfl rfl).trans (congrArg Value.bool g150))⟩) (S.index rfl ((L 1 rfl rfl).trans hv164) (L 0 rfl rfl) Try.underlying39 ti44 (ix_ge hx162) (ix_lt hx162)) ?_
          obtain ⟨cs165, hv166, hlt167, hr168, hc169⟩ := ow88.osel (k := 0) rfl hv10 hx162
          obtain rfl : cs165 = [.int .i64 x161.reg, .int .i64 x161.from_, .int .i64 x161.to_] := hr168
          refine U.k rfl rfl (.inr ⟨_, _, _, rfl, rfl, ((L 8 rfl rfl).trans (congrArg Value.bool g150))⟩) (S.loadN (cs := [.int .i64 x161.reg, .int .i64 x161.from_, .int .i64 x161.to_]) rfl (L 0 rfl rfl) Try.underlying44 rfl ti44 rfl hc169) (fun _ => (okH.cons trivial (okH.nil (fun r h => by cases h; exact hlt167)))) ?_
          obtain ⟨x170, hx171, h172⟩ := bindS h163
          refine O.callv (V := V86) rfl rfl (.inr ⟨_, _, _, rfl, rfl, ((L 9 rfl rfl).trans (congrArg Value.bool g150))⟩) rfl (L 8 rfl rfl) en28 (aC (L 4 rfl rfl) (aC (L 0 rfl rfl) aN)) (wk_flow_Spans_c1 V86 _ x152 x161 ow88 _ hx171) (fun v173 V174 le175 hp176 => by obtain ⟨rfl, ow177⟩ := hp176; exact (fun _ => (okH.cons (Or.inl rfl) (okH.cons (Or.inl rfl) (okH.nil (fun r h => nomatch h)))))) (fun v173 V174 le175 hp176 => ?_)
          obtain ⟨rfl, ow177⟩ := hp176
          refine U.p rfl rfl (.inr ⟨_, _, _, rfl, rfl, ((L 10 rfl rfl).trans (congrArg Value.bool g150))⟩) (S.lss rfl (L 0 rfl rfl) K) ?_
          refine U.p rfl rfl (.inl rfl) (S.pickT rfl ((L 11 rfl rfl).trans (congrArg Value.bool g150)) (L 0 rfl rfl)) ?_
          refine U.done (Nat.le_of_ble_eq_true rfl) ?_
          refine sqN ?_
          exact ⟨_, V174, rfl, ⟨decide (x170 < 0), rfl, le175, ow177, h172⟩, (allCons (L 16 rfl rfl) (allCons (L 17 rfl rfl) (allCons (L 18 rfl rfl) (allCons (L 19 rfl rfl) (allCons (L 20 rfl rfl) (allCons (L 0 rfl rfl) allNil))))))⟩
        · have h178 := ifF g150 h93
          refine U.x rfl rfl rfl rfl ((L 0 rfl rfl).trans (congrArg Value.bool g150)) (by decide) ?_
          refine U.x rfl rfl rfl rfl ((L 1 rfl rfl).trans (congrArg Value.bool g150)) (by decide) ?_
          refine U.x rfl rfl rfl rfl ((L 2 rfl rfl).trans (congrArg Value.bool g150)) (by decide) ?_
          refine U.x rfl rfl rfl rfl ((L 3 rfl rfl).trans (congrArg Value.bool g150)) (by decide) ?_
          refine U.x rfl rfl rfl rfl ((L 4 rfl rfl).trans (congrArg Value.bool g150)) (by decide) ?_
          refine U.x rfl rfl rfl rfl ((L 5 rfl rfl).trans (congrArg Value.bool g150)) (by decide) ?_
          refine U.x rfl rfl rfl rfl ((L 6 rfl rfl).trans (congrArg Value.bool g150)) (by decide) ?_
          refine U.x rfl rfl rfl rfl ((L 7 rfl rfl).trans (congrArg Value.bool g150)) (by decide) ?_
          refine U.x rfl rfl rfl rfl ((L 8 rfl rfl).trans (congrArg Value.bool g150)) (by decide) ?_
          refine U.x rfl rfl rfl rfl ((L 9 rfl rfl).trans (congrArg Value.bool g150)) (by decide) ?_
          refine U.x rfl rfl rfl rfl ((L 10 rfl rfl).trans (congrArg Value.bool g150)) (by decide) ?_
          refine U.p rfl rfl (.inl rfl) (S.pickF rfl ((L 11 rfl rfl).trans (congrArg Value.bool g150)) K) ?_
          refine U.done (Nat.le_of_ble_eq_true rfl) ?_
          refine sqN ?_
          exact ⟨_, V86, rfl, ⟨false, rfl, (.refl _), ow88, h178⟩, (allCons (L 16 rfl rfl) (allCons (L 17 rfl rfl) (allCons (L 18 rfl rfl) (allCons (L 19 rfl rfl) (allCons (L 20 rfl rfl) (allCons (L 0 rfl rfl) allNil))))))⟩
  · skip
    refine WP.udreg rfl rfl rfl ?_
    refine U.p rfl rfl (.inl rfl) (S.move rfl (L 3 rfl rfl)) ?_
    refine U.p rfl rfl (.inl rfl) (S.move rfl (L 5 rfl rfl)) ?_
    refine U.p rfl rfl (.inl rfl) (S.leq rfl (L 1 rfl rfl) (L 0 rfl rfl)) ?_
    refine U.p rfl rfl (.inl rfl) (S.move rfl (L 0 rfl rfl)) ?_
    refine bcase (b := decide (x63 ≤ x52)) (fun g179 => ?_) (fun g179 => ?_)
    · have h180 := ifT g179 h73
      refine U.p rfl rfl (.inr ⟨_, _, _, rfl, rfl, ((L 0 rfl rfl).trans (congrArg Value.bool g179))⟩) (S.move rfl (L 6 rfl rfl)) ?_
      refine U.p rfl rfl (.inr ⟨_, _, _, rfl, rfl, ((L 1 rfl rfl).trans (congrArg Value.bool g179))⟩) (S.move rfl (L 5 rfl rfl)) ?_
      refine U.p rfl rfl (.inr ⟨_, _, _, rfl, rfl, ((L 2 rfl rfl).trans (congrArg Value.bool g179))⟩) (S.move rfl (L 7 rfl rfl)) ?_
      obtain ⟨x181, hx182, h183⟩ := bindS h180
      obtain ⟨_, hv184, _⟩ := ow68.osel (k := 0) rfl hv10 hx182
      refine U.p rfl rfl (.inr ⟨_, _, _, rfl, rfl, ((L 3 rfl rfl).trans (congrArg Value.bool g179))⟩) (S.index rfl ((L 1 rfl rfl).trans hv184) (L 0 rfl rfl) Try.underlying39 ti44 (ix_ge hx182) (ix_lt hx182)) ?_
      obtain ⟨cs185, hv186, hlt187, hr188, hc189⟩ := ow68.osel (k := 0) rfl hv10 hx182
      obtain rfl : cs185 = [.int .i64 x181.reg, .int .i64 x181.from_, .int .i64 x181.to_] := hr188
      refine U.k rfl rfl (.inr ⟨_, _, _, rfl, rfl, ((L 4 rfl rfl).trans (congrArg Value.bool g179))⟩) (S.loadN (cs := [.int .i64 x181.reg, .int .i64 x181.from_, .int .i64 x181.to_]) rfl (L 0 rfl rfl) Try.underlying44 rfl ti44 rfl hc189) (fun _ => (okH.nil (fun r h => by cases h; exact hlt187))) ?_
      refine U.p rfl rfl (.inr ⟨_, _, _, rfl, rfl, ((L 5 rfl rfl).trans (congrArg Value.bool g179))⟩) (S.move rfl (L 9 rfl rfl)) ?_
      refine U.p rfl rfl (.inr ⟨_, _, _, rfl, rfl, ((L 6 rfl rfl).trans (congrArg Value.bool g179))⟩) (S.move rfl (L 13 rfl rfl)) ?_
      obtain ⟨x190, hx191, h192⟩ := bindS h183
      obtain ⟨_, hv193, _⟩ := ow68.osel (k := 0) rfl hv10 hx191
      refine U.p rfl rfl (.inr ⟨_, _, _, rfl, rfl, ((L 7 rfl rfl).trans (congrArg Value.bool g179))⟩) (S.index rfl ((L 1 rfl rfl).trans hv193) (L 0 rfl rfl) Try.underlying39 ti44 (ix_ge hx191) (ix_lt hx191)) ?_
      obtain ⟨cs194, hv195, hlt196, hr197, hc198⟩ := ow68.osel (k := 0) rfl hv10 hx191
      obtain rfl : cs194 = [.int .i64 x190.reg, .int .i64 x190.from_, .int .i64 x190.to_] := hr197
      refine U.k rfl rfl (.inr ⟨_, _, _, rfl, rfl, ((L 8 rfl rfl).trans (congrArg Value.bool g179))⟩) (S.loadN (cs := [.int .i64 x190.reg, .int .i64 x190.from_, .int .i64 x190.to_]) rfl (L 0 rfl rfl) Try.underlying44 rfl ti44 rfl hc198) (fun _ => (okH.cons trivial (okH.nil (fun r h => by cases h; exact hlt196)))) ?_
      obtain ⟨x199, hx200, h201⟩ := bindS h192
      refine O.callv (V := V66) rfl rfl (.inr ⟨_, _, _, rfl, rfl, ((L 9 rfl rfl).trans (congrArg Value.bool g179))⟩) rfl (L 8 rfl rfl) en28 (aC (L 4 rfl rfl) (aC (L 0 rfl rfl) aN)) (wk_flow_Spans_c1 V66 _ x181 x190 ow68 _ hx200) (fun v202 V203 le204 hp205 => by obtain ⟨rfl, ow206⟩ := hp205; exact (fun _ => (okH.cons (Or.inl rfl) (okH.cons (Or.inl rfl) (okH.nil (fun r h => nomatch h)))))) (fun v202 V203 le204 hp205 => ?_)
      obtain ⟨rfl, ow206⟩ := hp205
      refine U.p rfl rfl (.inr ⟨_, _, _, rfl, rfl, ((L 10 rfl rfl).trans (congrArg Value.bool g179))⟩) (S.lss rfl (L 0 rfl rfl) K) ?_
      refine U.p rfl rfl (.inr ⟨_, _, _, rfl, rfl, ((L 11 rfl rfl).trans (congrArg Value.bool g179))⟩) (S.not rfl (L 0 rfl rfl)) ?_
      refine U.p rfl rfl (.inl rfl) (S.pickT rfl ((L 12 rfl rfl).trans (congrArg Value.bool g179)) (L 0 rfl rfl)) ?_
      refine U.done (Nat.le_of_ble_eq_true rfl) ?_
      refine sqN ?_
      exact ⟨_, V203, rfl, ⟨!(decide (x199 < 0)), rfl, le204, ow206, h201⟩, (allCons (L 17 rfl rfl) (allCons (L 18 rfl rfl) (allCons (L 19 rfl rfl) (allCons (L 20 rfl rfl) (allCons (L 21 rfl rfl) (allCons (L 0 rfl rfl) allNil))))))⟩
    · have h207 := ifF g179 h73
      refine U.x rfl rfl rfl rfl ((L 0 rfl rfl).trans (congrArg Value.bool g179)) (by decide) ?_
      refine U.x rfl rfl rfl rfl ((L 1 rfl rfl).trans (congrArg Value.bool g179)) (by decide) ?_
      refine U.x rfl rfl rfl rfl ((L 2 rfl rfl).trans (congrArg Value.bool g179)) (by decide) ?_
      refine U.x rfl rfl rfl rfl ((L 3 rfl rfl).trans (congrArg Value.bool g179)) (by decide) ?_
      refine U.x rfl rfl rfl rfl ((L 4 rfl rfl).trans (congrArg Value.bool g179)) (by decide) ?_
      refine U.x rfl rfl rfl rfl ((L 5 rfl rfl).trans (congrArg Value.bool g179)) (by decide) ?_
      refine U.x rfl rfl rfl rfl ((L 6 rfl rfl).trans (congrArg Value.bool g179)) (by decide) ?_
      refine U.x rfl rfl rfl rfl ((L 7 rfl rfl).trans (congrArg Value.bool g179)) (by decide) ?_
      refine U.x rfl rfl rfl rfl ((L 8 rfl rfl).trans (congrArg Value.bool g179)) (by decide) ?_
      refine U.x rfl rfl rfl rfl ((L 9 rfl rfl).trans (congrArg Value.bool g179)) (by decide) ?_
      refine U.x rfl rfl rfl rfl ((L 10 rfl rfl).trans (congrArg Value.bool g179)) (by decide) ?_
      refine U.x rfl rfl rfl rfl ((L 11 rfl rfl).trans (congrArg Value.bool g179)) (by decide) ?_
      refine U.p rfl rfl (.inl rfl) (S.pickF rfl ((L 12 rfl rfl).trans (congrArg Value.bool g179)) K) ?_
      refine U.done (Nat.le_of_ble_eq_true rfl) ?_
      refine sqN ?_
      exact ⟨_, V66, rfl, ⟨false, rfl, (.refl _), ow68, h207⟩, (allCons (L 17 rfl rfl) (allCons (L 18 rfl rfl) (allCons (L 19 rfl rfl) (allCons (L 20 rfl rfl) (allCons (L 21 rfl rfl) (allCons (L 0 rfl rfl) allNil))))))⟩

set_option maxHeartbeats 4000000 in
set_option maxRecDepth 10000 in
theorem wk_slices_partitionCmpFunc (V : Vw) (Rs : List At) (p0 : List Tflow_Span) (p1 : Int) (p2 : Int) (p3 : Int) (v1 : Value) (ow : Ow V (.os RT_Tflow_Span v1 p0 :: Rs)) (r : Int × Bool × (List Tflow_Span)) (h : slices_partitionCmpFunc p0 p1 p2 p3 = some r) : ∃ v V', Cl Try.prog 0 48 #[v1, .int .i64 p1, .int .i64 p2, .int .i64 p3, .func (.func 28) #[] #[]] V.H v V'.H ∧ V.le V' ∧ (v = .tuple #[.int .i64 r.1, .bool r.2.1] ∧ Ow V' (.os RT_Tflow_Span v1 r.2.2 :: Rs)) := by
  refine Ct.of (Nat.zero_le _) Try.func48 rfl (Nat.le_of_ble_eq_true rfl) ?_
  unfold slices_partitionCmpFunc at h
  refine WP.usreg rfl ?_
  refine U.p rfl rfl (.inl rfl) (S.assign rfl K) ?_
  refine U.p rfl rfl (.inl rfl) (S.assign rfl K) ?_
  refine U.done (Nat.le_of_ble_eq_true rfl) ?_
  refine WP.usdreg rfl rfl rfl ?_
  refine U.p rfl rfl (.inl rfl) (S.move rfl (L 2 rfl rfl)) ?_
  refine U.p rfl rfl (.inl rfl) (S.move rfl (L 4 rfl rfl)) ?_
  refine U.p rfl rfl (.inl rfl) (S.move rfl (L 4 rfl rfl)) ?_
  refine U.p rfl rfl (.inl rfl) (S.move rfl (L 8 rfl rfl)) ?_
  refine U.p rfl rfl (.inl rfl) (S.move rfl (L 6 rfl rfl)) ?_
  refine U.p rfl rfl (.inl rfl) (S.move rfl (L 10 rfl rfl)) ?_
  obtain ⟨x3, hx4, h5⟩ := bindS h
  obtain ⟨b6, o7, n8, c9, hv10⟩ := ow.ospt (k := 0) rfl hx4
  obtain ⟨_, hv11, _⟩ := ow.osel (k := 0) rfl hv10 hx4
  refine U.p rfl rfl (.inl rfl) (S.index rfl ((L 1 rfl rfl).trans hv11) (L 0 rfl rfl) Try.underlying39 ti44 (ix_ge hx4) (ix_lt hx4)) ?_
  obtain ⟨cs12, hv13, hlt14, hr15, hc16⟩ := ow.osel (k := 0) rfl hv10 hx4
  obtain rfl : cs12 = [.int .i64 x3.reg, .int .i64 x3.from_, .int .i64 x3.to_] := hr15
  refine U.k rfl rfl (.inl rfl) (S.loadN (cs := [.int .i64 x3.reg, .int .i64 x3.from_, .int .i64 x3.to_]) rfl (L 0 rfl rfl) Try.underlying44 rfl ti44 rfl hc16) (fun _ => (okH.nil (fun r h => by cases h; exact hlt14))) ?_
  refine U.p rfl rfl (.inl rfl) (S.move rfl (L 10 rfl rfl)) ?_
  refine U.p rfl rfl (.inl rfl) (S.move rfl (L 12 rfl rfl)) ?_
  obtain ⟨x17, hx18, h19⟩ := bindS h5
  obtain ⟨_, hv20, _⟩ := ow.osel (k := 0) rfl hv10 hx18
  refine U.p rfl rfl (.inl rfl) (S.index rfl ((L 1 rfl rfl).trans hv20) (L 0 rfl rfl) Try.underlying39 ti44 (ix_ge hx18) (ix_lt hx18)) ?_
  obtain ⟨cs21, hv22, hlt23, hr24, hc25⟩ := ow.osel (k := 0) rfl hv10 hx18
  obtain rfl : cs21 = [.int .i64 x17.reg, .int .i64 x17.from_, .int .i64 x17.to_] := hr24
  refine U.k rfl rfl (.inl rfl) (S.loadN (cs := [.int .i64 x17.reg, .int .i64 x17.from_, .int .i64 x17.to_]) rfl (L 0 rfl rfl) Try.underlying44 rfl ti44 rfl hc25) (fun _ => (okH.cons trivial (okH.nil (fun r h => by cases h; exact hlt23)))) ?_
  obtain ⟨x26, hx27, h28⟩ := bindS h19
  obtain ⟨_, hv29, _⟩ := ow.osel (k := 0) rfl hv10 hx27
  refine U.p rfl rfl (.inl rfl) (S.index rfl ((L 11 rfl rfl).trans hv29) (L 10 rfl rfl) Try.underlying39 ti44 (ix_ge hx27) (ix_lt hx27)) ?_
  obtain ⟨cs30, hv31, hlt32, hr33, hc34⟩ := ow.osel (k := 0) rfl hv10 hx27
  obtain rfl : cs30 = [.int .i64 x26.reg, .int .i64 x26.from_, .int .i64 x26.to_] := hr33
  refine O.storeE (k := 0) (R := RT_Tflow_Span) (j := 0) (y := x3) (cs := [.int .i64 x3.reg, .int .i64 x3.from_, .int .i64 x3.to_]) ow rfl hv31 rfl rfl (.inl rfl) rfl (L 0 rfl rfl) (L 5 rfl rfl) ti44 hx27 (by simp [topV]) rfl rfl rfl (full rfl) (fun H1 hs => (fun _ => (okH.cons (Or.inl rfl) (okH.cons (Or.inl rfl) (okH.nil (fun r h => nomatch h)))))) (fun V35 le36 ow37 => ?_)
  obtain ⟨x38, hx39, h40⟩ := bindS h28
  obtain ⟨_, hv41, _⟩ := ow37.osel (k := 0) rfl hv10 hx39
  refine U.p rfl rfl (.inl rfl) (S.index rfl ((L 10 rfl rfl).trans hv41) (L 9 rfl rfl) Try.underlying39 ti44 (ix_ge hx39) (ix_lt hx39)) ?_
  obtain ⟨cs42, hv43, hlt44, hr45, hc46⟩ := ow37.osel (k := 0) rfl hv10 hx39
  obtain rfl : cs42 = [.int .i64 x38.reg, .int .i64 x38.from_, .int .i64 x38.to_] := hr45
  refine O.storeE (k := 0) (R := RT_Tflow_Span) (j := 0) (y := x17) (cs := [.int .i64 x17.reg, .int .i64 x17.from_, .int .i64 x17.to_]) ow37 rfl hv43 rfl rfl (.inl rfl) rfl (L 0 rfl rfl) (L 2 rfl rfl) ti44 hx39 (by simp [topV]) rfl rfl rfl (full rfl) (fun H1 hs => (fun _ => (okH.cons rfl (okH.cons (Or.inl rfl) (okH.cons (Or.inl rfl) (okH.nil (fun r h => nomatch h))))))) (fun V47 le48 ow49 => ?_)
  refine U.done (Nat.le_of_ble_eq_true rfl) ?_
  refine WP.usreg rfl ?_
  refine U.p rfl rfl (.inl rfl) (S.move rfl (L 17 rfl rfl)) ?_
  refine U.p rfl rfl (.inl rfl) (S.add rfl (L 0 rfl rfl) K) ?_
  refine U.p rfl rfl (.inl rfl) (S.move rfl (L 20 rfl rfl)) ?_
  refine U.p rfl rfl (.inl rfl) (S.sub rfl (L 0 rfl rfl) K) ?_
  refine U.p rfl rfl (.inl rfl) (S.assign rfl (L 2 rfl rfl)) ?_
  refine U.p rfl rfl (.inl rfl) (S.assign rfl (L 1 rfl rfl)) ?_
  refine U.done (Nat.le_of_ble_eq_true rfl) ?_
  refine WP.seq ?_
  refine WP.blk ?_
  unfold slices_partitionCmpFunc_l1 at h40
  obtain ⟨n52, hn51⟩ := loopO_some.1 h40
  refine WP.loopI2 (fun n l V' => ∃ (x50 : Int), l = [(0, v1), (1, .int .i64 p1), (4, .func (.func 28) #[] #[]), (12, .int .i64 x50), (13, .int .i64 (w64 (p2 - 1)))] ∧ V47.le V' ∧ Ow V' (.os RT_Tflow_Span v1 ((p0.set (Int.toNat p1) x3).set (Int.toNat p3) x17) :: Rs) ∧ itO (fun s => slices_partitionCmpFunc_l1b p0 p1 p2 p3 x3 x17 s) n x50 = some r) n52 _ ⟨w64 (p1 + 1), rfl, .refl _, ow49, hn51⟩ (allCons (L 22 rfl rfl) (allCons (L 23 rfl rfl) (allCons (L 26 rfl rfl) (allCons (L 1 rfl rfl) (allCons (L 0 rfl rfl) allNil))))) ?_
  rintro _ _ V53 ⟨x50, rfl, le54, ow55, h59⟩
  obtain ⟨m56, q57, rfl, h60, e58⟩ := itS h59
  replace h60 : slices_partitionCmpFunc_l1b p0 p1 p2 p3 x3 x17 x50 = some q57 := h60
  unfold slices_partitionCmpFunc_l1b at h60
  refine WP.seq ?_
  refine WP.seqI (fun l V' => ∃ (x61 : Bool), l = [(0, v1), (1, .int .i64 p1), (4, .func (.func 28) #[] #[]), (12, .int .i64 x50), (13, .int .i64 (w64 (p2 - 1))), (47, .bool x61)] ∧ V53.le V' ∧ Ow V' (.os RT_Tflow_Span v1 ((p0.set (Int.toNat p1) x3).set (Int.toNat p3) x17) :: Rs) ∧ slices_partitionCmpFunc_k1 p0 p1 p2 p3 x3 x17 x50 x61 = some q57) ?_ ?_
  · rintro _ V62 ⟨x61, rfl, le63, ow64, h65⟩
    unfold slices_partitionCmpFunc_k1 at h65
    refine WP.cond _ (L 5 rfl rfl) rfl (fun c66 => ?_) (fun c66 => ?_)
    · have h67 := ifT c66 h65
      refine WP.skip ?_
      refine sqN ?_
      refine WP.blk ?_
      refine WP.ureg rfl ?_
      refine U.p rfl rfl (.inl rfl) (S.move rfl (L 3 rfl rfl)) ?_
      refine U.p rfl rfl (.inl rfl) (S.add rfl (L 0 rfl rfl) K) ?_
      refine U.p rfl rfl (.inl rfl) (S.assign rfl (L 0 rfl rfl)) ?_
      refine U.done (Nat.le_of_ble_eq_true rfl) ?_
      refine blkN (sqN ?_)
      exact ⟨_, V62, rfl, ⟨m56, Nat.lt_succ_self _, w64 (x50 + 1), rfl, (le54.trans le63), ow64, backS h67 e58⟩, (allCons (L 3 rfl rfl) (allCons (L 4 rfl rfl) (allCons (L 5 rfl rfl) (allCons (L 0 rfl rfl) (allCons (L 7 rfl rfl) allNil)))))⟩
    · have h68 := ifF c66 h65
      refine WP.exit ?_
      refine sqE (sqE (blkE (sqN ?_)))
      have h69 := exitS h68 e58
      refine WP.seq ?_
      refine WP.blk ?_
      unfold slices_partitionCmpFunc_l2 at h69
      obtain ⟨n72, hn71⟩ := loopO_some.1 h69
      refine WP.loopI2 (fun n l V' => ∃ (x70 : Int), l = [(0, v1), (1, .int .i64 p1), (4, .func (.func 28) #[] #[]), (12, .int .i64 x50), (13, .int .i64 x70)] ∧ V62.le V' ∧ Ow V' (.os RT_Tflow_Span v1 ((p0.set (Int.toNat p1) x3).set (Int.toNat p3) x17) :: Rs) ∧ itO (fun s => slices_partitionCmpFunc_l2b p0 p1 p3 x3 x17 x50 s) n x70 = some r) n72 _ ⟨w64 (p2 - 1), rfl, .refl _, ow64, hn71⟩ (allCons (L 0 rfl rfl) (allCons (L 1 rfl rfl) (allCons (L 2 rfl rfl) (allCons (L 3 rfl rfl) (allCons (L 4 rfl rfl) allNil))))) ?_
      rintro _ _ V73 ⟨x70, rfl, le74, ow75, h79⟩
      obtain ⟨m76, q77, rfl, h80, e78⟩ := itS h79
      replace h80 : slices_partitionCmpFunc_l2b p0 p1 p3 x3 x17 x50 x70 = some q77 := h80
      unfold slices_partitionCmpFunc_l2b at h80
      refine WP.seq ?_
      refine WP.seqI (fun l V' => ∃ (x81 : Bool), l = [(0, v1), (1, .int .i64 p1), (4, .func (.func 28) #[] #[]), (12, .int .i64 x50), (13, .int .i64 x70), (66, .bool x81)] ∧ V73.le V' ∧ Ow V' (.os RT_Tflow_Span v1 ((p0.set (Int.toNat p1) x3).set (Int.toNat p3) x17) :: Rs) ∧ slices_partitionCmpFunc_k2 p0 p1 p3 x3 x17 x50 x70 x81 = some q77) ?_ ?_
      · rintro _ V82 ⟨x81, rfl, le83, ow84, h85⟩
        unfold slices_partitionCmpFunc_k2 at h85
        refine WP.cond _ (L 5 rfl rfl) rfl (fun c86 => ?_) (fun c86 => ?_)
        · have h87 := ifT c86 h85
          refine WP.skip ?_
          refine sqN ?_
          refine WP.blk ?_
          refine WP.ureg rfl ?_
          refine U.p rfl rfl (.inl rfl) (S.move rfl (L 4 rfl rfl)) ?_
          refine U.p rfl rfl (.inl rfl) (S.sub rfl (L 0 rfl rfl) K) ?_
          refine U.p rfl rfl (.inl rfl) (S.assign rfl (L 0 rfl rfl)) ?_
          refine U.done (Nat.le_of_ble_eq_true rfl) ?_
          refine blkN (sqN ?_)
          exact ⟨_, V82, rfl, ⟨m76, Nat.lt_succ_self _, w64 (x70 - 1), rfl, (le74.trans le83), ow84, backS h87 e78⟩, (allCons (L 3 rfl rfl) (allCons (L 4 rfl rfl) (allCons (L 5 rfl rfl) (allCons (L 6 rfl rfl) (allCons (L 0 rfl rfl) allNil)))))⟩
        · have h88 := ifF c86 h85
          refine WP.exit ?_
          refine sqE (sqE (blkE (sqN ?_)))
          have h89 := exitS h88 e78
          refine WP.seq ?_
          refine WP.usreg rfl ?_
          refine U.p rfl rfl (.inl rfl) (S.move rfl (L 3 rfl rfl)) ?_
          refine U.p rfl rfl (.inl rfl) (S.move rfl (L 5 rfl rfl)) ?_
          refine U.p rfl rfl (.inl rfl) (S.gtr rfl (L 1 rfl rfl) (L 0 rfl rfl)) ?_
          refine U.done (Nat.le_of_ble_eq_true rfl) ?_
          refine WP.cond _ (L 0 rfl rfl) rfl (fun c90 => ?_) (fun c90 => ?_)
          · have h91 := ifT c90 h89
            refine WP.usdreg rfl rfl rfl ?_
            refine U.p rfl rfl (.inl rfl) (S.move rfl (L 3 rfl rfl)) ?_
            refine U.p rfl rfl (.inl rfl) (S.move rfl (L 8 rfl rfl)) ?_
            refine U.p rfl rfl (.inl rfl) (S.move rfl (L 5 rfl rfl)) ?_
            refine U.p rfl rfl (.inl rfl) (S.move rfl (L 7 rfl rfl)) ?_
            refine U.p rfl rfl (.inl rfl) (S.move rfl (L 7 rfl rfl)) ?_
            refine U.p rfl rfl (.inl rfl) (S.move rfl (L 9 rfl rfl)) ?_
            obtain ⟨x92, hx93, h94⟩ := bindS h91
            obtain ⟨_, hv95, _⟩ := ow84.osel (k := 0) rfl hv10 hx93
            refine U.p rfl rfl (.inl rfl) (S.index rfl ((L 1 rfl rfl).trans hv95) (L 0 rfl rfl) Try.underlying39 ti44 (ix_ge hx93) (ix_lt hx93)) ?_
            obtain ⟨cs96, hv97, hlt98, hr99, hc100⟩ := ow84.osel (k := 0) rfl hv10 hx93
            obtain rfl : cs96 = [.int .i64 x92.reg, .int .i64 x92.from_, .int .i64 x92.to_] := hr99
            refine U.k rfl rfl (.inl rfl) (S.loadN (cs := [.int .i64 x92.reg, .int .i64 x92.from_, .int .i64 x92.to_]) rfl (L 0 rfl rfl) Try.underlying44 rfl ti44 rfl hc100) (fun _ => (okH.nil (fun r h => by cases h; exact hlt98))) ?_
            refine U.p rfl rfl (.inl rfl) (S.move rfl (L 11 rfl rfl)) ?_
            refine U.p rfl rfl (.inl rfl) (S.move rfl (L 16 rfl rfl)) ?_
            obtain ⟨x101, hx102, h103⟩ := bindS h94
            obtain ⟨_, hv104, _⟩ := ow84.osel (k := 0) rfl hv10 hx102
            refine U.p rfl rfl (.inl rfl) (S.index rfl ((L 1 rfl rfl).trans hv104) (L 0 rfl rfl) Try.underlying39 ti44 (ix_ge hx102) (ix_lt hx102)) ?_
            obtain ⟨cs105, hv106, hlt107, hr108, hc109⟩ := ow84.osel (k := 0) rfl hv10 hx102
            obtain rfl : cs105 = [.int .i64 x101.reg, .int .i64 x101.from_, .int .i64 x101.to_] := hr108
            refine U.k rfl rfl (.inl rfl) (S.loadN (cs := [.int .i64 x101.reg, .int .i64 x101.from_, .int .i64 x101.to_]) rfl (L 0 rfl rfl) Try.underlying44 rfl ti44 rfl hc109) (fun _ => (okH.cons trivial (okH.nil (fun r h => by cases h; exact hlt107)))) ?_
            obtain ⟨x110, hx111, h112⟩ := bindS h103
            obtain ⟨_, hv113, _⟩ := ow84.osel (k := 0) rfl hv10 hx111
            refine U.p rfl rfl (.inl rfl) (S.index rfl ((L 11 rfl rfl).trans hv113) (L 10 rfl rfl) Try.underlying39 ti44 (ix_ge hx111) (ix_lt hx111)) ?_
            obtain ⟨cs114, hv115, hlt116, hr117, hc118⟩ := ow84.osel (k := 0) rfl hv10 hx111
            obtain rfl : cs114 = [.int .i64 x110.reg, .int .i64 x110.from_, .int .i64 x110.to_] := hr117
            refine O.storeE (k := 0) (R := RT_Tflow_Span) (j := 0) (y := x92) (cs := [.int .i64 x92.reg, .int .i64 x92.from_, .int .i64 x92.to_]) ow84 rfl hv115 rfl rfl (.inl rfl) rfl (L 0 rfl rfl) (L 5 rfl rfl) ti44 hx111 (by simp [topV]) rfl rfl rfl (full rfl) (fun H1 hs => (fun _ => (okH.cons (Or.inl rfl) (okH.cons (Or.inl rfl) (okH.nil (fun r h => nomatch h)))))) (fun V119 le120 ow121 => ?_)
            obtain ⟨x122, hx123, h124⟩ := bindS h112
            obtain ⟨_, hv125, _⟩ := ow121.osel (k := 0) rfl hv10 hx123
            refine U.p rfl rfl (.inl rfl) (S.index rfl ((L 10 rfl rfl).trans hv125) (L 9 rfl rfl) Try.underlying39 ti44 (ix_ge hx123) (ix_lt hx123)) ?_
            obtain ⟨cs126, hv127, hlt128, hr129, hc130⟩ := ow121.osel (k := 0) rfl hv10 hx123
            obtain rfl : cs126 = [.int .i64 x122.reg, .int .i64 x122.from_, .int .i64 x122.to_] := hr129
            refine O.storeE (k := 0) (R := RT_Tflow_Span) (j := 0) (y := x101) (cs := [.int .i64 x101.reg, .int .i64 x101.from_, .int .i64 x101.to_]) ow121 rfl hv127 rfl rfl (.inl rfl) rfl (L 0 rfl rfl) (L 2 rfl rfl) ti44 hx123 (by simp [topV]) rfl rfl rfl (full rfl) (fun H1 hs => (fun _ => (okH.cons rfl (okH.cons (Or.inl rfl) (okH.cons (Or.inl rfl) (okH.nil (fun r h => nomatch h))))))) (fun V131 le132 ow133 => ?_)
            refine U.done (Nat.le_of_ble_eq_true rfl) ?_
            refine WP.usreg rfl ?_
            refine U.p rfl rfl (.inl rfl) (S.move rfl (L 21 rfl rfl)) ?_
            refine U.p rfl rfl (.inl rfl) (S.assign rfl (L 0 rfl rfl)) ?_
            refine U.p rfl rfl (.inl rfl) (S.assign rfl K) ?_
            refine U.done (Nat.le_of_ble_eq_true rfl) ?_
            refine WP.ret ?_
            refine sqR ?_
            refine fin.slots' (.inr rfl) (fsC (L 1 rfl rfl) (fsC (L 0 rfl rfl) fsN)) rfl ⟨V131, rfl, (((((((le36.trans le48).trans le54).trans le63).trans le74).trans le83).trans le120).trans le132), ?_⟩
            have e134 := Option.some.inj h124
            subst e134
            exact ⟨rfl, ow133⟩
          · have h135 := ifF c90 h89
            refine WP.skip ?_
            refine sqN ?_
            refine WP.usdreg rfl rfl rfl ?_
            refine U.p rfl rfl (.inl rfl) (S.move rfl (L 3 rfl rfl)) ?_
            refine U.p rfl rfl (.inl rfl) (S.move rfl (L 7 rfl rfl)) ?_
            refine U.p rfl rfl (.inl rfl) (S.move rfl (L 5 rfl rfl)) ?_
            refine U.p rfl rfl (.inl rfl) (S.move rfl (L 10 rfl rfl)) ?_
            refine U.p rfl rfl (.inl rfl) (S.move rfl (L 7 rfl rfl)) ?_
            refine U.p rfl rfl (.inl rfl) (S.move rfl (L 12 rfl rfl)) ?_
            obtain ⟨x136, hx137, h138⟩ := bindS h135
            obtain ⟨_, hv139, _⟩ := ow84.osel (k := 0) rfl hv10 hx137
            refine U.p rfl rfl (.inl rfl) (S.index rfl ((L 1 rfl rfl).trans hv139) (L 0 rfl rfl) Try.underlying39 ti44 (ix_ge hx137) (ix_lt hx137)) ?_
            obtain ⟨cs140, hv141, hlt142, hr143, hc144⟩ := ow84.osel (k := 0) rfl hv10 hx137
            obtain rfl : cs140 = [.int .i64 x136.reg, .int .i64 x136.from_, .int .i64 x136.to_] := hr143
            refine U.k rfl rfl (.inl rfl) (S.loadN (cs := [.int .i64 x136.reg, .int .i64 x136.from_, .int .i64 x136.to_]) rfl (L 0 rfl rfl) Try.underlying44 rfl ti44 rfl hc144) (fun _ => (okH.nil (fun r h => by cases h; exact hlt142))) ?_
            refine U.p rfl rfl (.inl rfl) (S.move rfl (L 11 rfl rfl)) ?_
            refine U.p rfl rfl (.inl rfl) (S.move rfl (L 15 rfl rfl)) ?_
            obtain ⟨x145, hx146, h147⟩ := bindS h138
            obtain ⟨_, hv148, _⟩ := ow84.osel (k := 0) rfl hv10 hx146
            refine U.p rfl rfl (.inl rfl) (S.index rfl ((L 1 rfl rfl).trans hv148) (L 0 rfl rfl) Try.underlying39 ti44 (ix_ge hx146) (ix_lt hx146)) ?_
            obtain ⟨cs149, hv150, hlt151, hr152, hc153⟩ := ow84.osel (k := 0) rfl hv10 hx146
            obtain rfl : cs149 = [.int .i64 x145.reg, .int .i64 x145.from_, .int .i64 x145.to_] := hr152
            refine U.k rfl rfl (.inl rfl) (S.loadN (cs := [.int .i64 x145.reg, .int .i64 x145.from_, .int .i64 x145.to_]) rfl (L 0 rfl rfl) Try.underlying44 rfl ti44 rfl hc153) (fun _ => (okH.cons trivial (okH.nil (fun r h => by cases h; exact hlt151)))) ?_
            obtain ⟨x154, hx155, h156⟩ := bindS h147
            obtain ⟨_, hv157, _⟩ := ow84.osel (k := 0) rfl hv10 hx155
            refine U.p rfl rfl (.inl rfl) (S.index rfl ((L 11 rfl rfl).trans hv157) (L 10 rfl rfl) Try.underlying39 ti44 (ix_ge hx155) (ix_lt hx155)) ?_
            obtain ⟨cs158, hv159, hlt160, hr161, hc162⟩ := ow84.osel (k := 0) rfl hv10 hx155
            obtain rfl : cs158 = [.int .i64 x154.reg, .int .i64 x154.from_, .int .i64 x154.to_] := hr161
            refine O.storeE (k := 0) (R := RT_Tflow_Span) (j := 0) (y := x136) (cs := [.int .i64 x136.reg, .int .i64 x136.from_, .int .i64 x136.to_]) ow84 rfl hv159 rfl rfl (.inl rfl) rfl (L 0 rfl rfl) (L 5 rfl rfl) ti44 hx155 (by simp [topV]) rfl rfl rfl (full rfl) (fun H1 hs => (fun _ => (okH.cons (Or.inl rfl) (okH.cons (Or.inl rfl) (okH.nil (fun r h => nomatch h)))))) (fun V163 le164 ow165 => ?_)
            obtain ⟨x166, hx167, h168⟩ := bindS h156
            obtain ⟨_, hv169, _⟩ := ow165.osel (k := 0) rfl hv10 hx167
            refine U.p rfl rfl (.inl rfl) (S.index rfl ((L 10 rfl rfl).trans hv169) (L 9 rfl rfl) Try.underlying39 ti44 (ix_ge hx167) (ix_lt hx167)) ?_
            obtain ⟨cs170, hv171, hlt172, hr173, hc174⟩ := ow165.osel (k := 0) rfl hv10 hx167
            obtain rfl : cs170 = [.int .i64 x166.reg, .int .i64 x166.from_, .int .i64 x166.to_] := hr173
            refine O.storeE (k := 0) (R := RT_Tflow_Span) (j := 0) (y := x145) (cs := [.int .i64 x145.reg, .int .i64 x145.from_, .int .i64 x145.to_]) ow165 rfl hv171 rfl rfl (.inl rfl) rfl (L 0 rfl rfl) (L 2 rfl rfl) ti44 hx167 (by simp [topV]) rfl rfl rfl (full rfl) (fun H1 hs => (fun _ => (okH.cons rfl (okH.cons (Or.inl rfl) (okH.cons (Or.inl rfl) (okH.nil (fun r h => nomatch h))))))) (fun V175 le176 ow177 => ?_)
            refine U.done (Nat.le_of_ble_eq_true rfl) ?_
            refine WP.usreg rfl ?_
            refine U.p rfl rfl (.inl rfl) (S.move rfl (L 20 rfl rfl)) ?_
            refine U.p rfl rfl (.inl rfl) (S.add rfl (L 0 rfl rfl) K) ?_
            refine U.p rfl rfl (.inl rfl) (S.assign rfl (L 0 rfl rfl)) ?_
            refine U.done (Nat.le_of_ble_eq_true rfl) ?_
            refine WP.usreg rfl ?_
            refine U.p rfl rfl (.inl rfl) (S.move rfl (L 24 rfl rfl)) ?_
            refine U.p rfl rfl (.inl rfl) (S.sub rfl (L 0 rfl rfl) K) ?_
            refine U.p rfl rfl (.inl rfl) (S.assign rfl (L 0 rfl rfl)) ?_
            refine U.done (Nat.le_of_ble_eq_true rfl) ?_
            refine WP.seq ?_
            refine WP.blk ?_
            unfold slices_partitionCmpFunc_l3 at h168
            obtain ⟨n182, hn181⟩ := loopO_some.1 h168
            refine WP.loopI2 (fun n l V' => ∃ (xs178 : List Tflow_Span) (x179 : Int) (x180 : Int), l = [(0, v1), (1, .int .i64 p1), (4, .func (.func 28) #[] #[]), (12, .int .i64 x179), (13, .int .i64 x180)] ∧ V175.le V' ∧ Ow V' (.os RT_Tflow_Span v1 xs178 :: Rs) ∧ itO (fun s => slices_partitionCmpFunc_l3b p1 s.1 s.2.1 s.2.2) n (xs178, x179, x180) = some r) n182 _ ⟨(((p0.set (Int.toNat p1) x3).set (Int.toNat p3) x17).set (Int.toNat x50) x136).set (Int.toNat x70) x145, w64 (x50 + 1), w64 (x70 - 1), rfl, .refl _, ow177, hn181⟩ (allCons (L 23 rfl rfl) (allCons (L 24 rfl rfl) (allCons (L 25 rfl rfl) (allCons (L 3 rfl rfl) (allCons (L 0 rfl rfl) allNil))))) ?_
            rintro _ _ V183 ⟨xs178, x179, x180, rfl, le184, ow185, h189⟩
            obtain ⟨m186, q187, rfl, h190, e188⟩ := itS h189
            replace h190 : slices_partitionCmpFunc_l3b p1 xs178 x179 x180 = some q187 := h190
            unfold slices_partitionCmpFunc_l3b at h190
            refine WP.blk ?_
            refine WP.seq ?_
            refine WP.blk ?_
            unfold slices_partitionCmpFunc_l4 at h190
            obtain ⟨n193, hn192⟩ := loopO_some.1 h190
            refine WP.loopI2 (fun n l V' => ∃ (x191 : Int), l = [(0, v1), (1, .int .i64 p1), (4, .func (.func 28) #[] #[]), (12, .int .i64 x191), (13, .int .i64 x180)] ∧ V183.le V' ∧ Ow V' (.os RT_Tflow_Span v1 xs178 :: Rs) ∧ itO (fun s => slices_partitionCmpFunc_l4b p1 xs178 x180 s) n x191 = some q187) n193 _ ⟨x179, rfl, .refl _, ow185, hn192⟩ (allCons (L 0 rfl rfl) (allCons (L 1 rfl rfl) (allCons (L 2 rfl rfl) (allCons (L 3 rfl rfl) (allCons (L 4 rfl rfl) allNil))))) ?_
            rintro _ _ V194 ⟨x191, rfl, le195, ow196, h200⟩
            obtain ⟨m197, q198, rfl, h201, e199⟩ := itS h200
            replace h201 : slices_partitionCmpFunc_l4b p1 xs178 x180 x191 = some q198 := h201
            unfold slices_partitionCmpFunc_l4b at h201
            refine WP.seq ?_
            refine WP.seqI (fun l V' => ∃ (x202 : Bool), l = [(0, v1), (1, .int .i64 p1), (4, .func (.func 28) #[] #[]), (12, .int .i64 x191), (13, .int .i64 x180), (120, .bool x202)] ∧ V194.le V' ∧ Ow V' (.os RT_Tflow_Span v1 xs178 :: Rs) ∧ slices_partitionCmpFunc_k3 p1 xs178 x180 x191 x202 = some q198) ?_ ?_
            · rintro _ V203 ⟨x202, rfl, le204, ow205, h206⟩
              unfold slices_partitionCmpFunc_k3 at h206
              refine WP.cond _ (L 5 rfl rfl) rfl (fun c207 => ?_) (fun c207 => ?_)
              · have h208 := ifT c207 h206
                refine WP.skip ?_
                refine sqN ?_
                refine WP.blk ?_
                refine WP.ureg rfl ?_
                refine U.p rfl rfl (.inl rfl) (S.move rfl (L 3 rfl rfl)) ?_
                refine U.p rfl rfl (.inl rfl) (S.add rfl (L 0 rfl rfl) K) ?_
                refine U.p rfl rfl (.inl rfl) (S.assign rfl (L 0 rfl rfl)) ?_
                refine U.done (Nat.le_of_ble_eq_true rfl) ?_
                refine blkN (sqN ?_)
                exact ⟨_, V203, rfl, ⟨m197, Nat.lt_succ_self _, w64 (x191 + 1), rfl, (le195.trans le204), ow205, backS h208 e199⟩, (allCons (L 3 rfl rfl) (allCons (L 4 rfl rfl) (allCons (L 5 rfl rfl) (allCons (L 0 rfl rfl) (allCons (L 7 rfl rfl) allNil)))))⟩
              · have h209 := ifF c207 h206
                refine WP.exit ?_
                refine sqE (sqE (blkE (sqN ?_)))
                have h210 := exitS h209 e199
                refine WP.seq ?_
                refine WP.blk ?_
                unfold slices_partitionCmpFunc_l5 at h210
                obtain ⟨n213, hn212⟩ := loopO_some.1 h210
                refine WP.loopI2 (fun n l V' => ∃ (x211 : Int), l = [(0, v1), (1, .int .i64 p1), (4, .func (.func 28) #[] #[]), (12, .int .i64 x191), (13, .int .i64 x211)] ∧ V203.le V' ∧ Ow V' (.os RT_Tflow_Span v1 xs178 :: Rs) ∧ itO (fun s => slices_partitionCmpFunc_l5b p1 xs178 x191 s) n x211 = some q187) n213 _ ⟨x180, rfl, .refl _, ow205, hn212⟩ (allCons (L 0 rfl rfl) (allCons (L 1 rfl rfl) (allCons (L 2 rfl rfl) (allCons (L 3 rfl rfl) (allCons (L 4 rfl rfl) allNil))))) ?_
                rintro _ _ V214 ⟨x211, rfl, le215, ow216, h220⟩
                obtain ⟨m217, q218, rfl, h221, e219⟩ := itS h220
                replace h221 : slices_partitionCmpFunc_l5b p1 xs178 x191 x211 = some q218 := h221
                unfold slices_partitionCmpFunc_l5b at h221
                refine WP.seq ?_
                refine WP.seqI (fun l V' => ∃ (x222 : Bool), l = [(0, v1), (1, .int .i64 p1), (4, .func (.func 28) #[] #[]), (12, .int .i64 x191), (13, .int .i64 x211), (139, .bool x222)] ∧ V214.le V' ∧ Ow V' (.os RT_Tflow_Span v1 xs178 :: Rs) ∧ slices_partitionCmpFunc_k4 p1 xs178 x191 x211 x222 = some q218) ?_ ?_
                · rintro _ V223 ⟨x222, rfl, le224, ow225, h226⟩
                  unfold slices_partitionCmpFunc_k4 at h226
                  refine WP.cond _ (L 5 rfl rfl) rfl (fun c227 => ?_) (fun c227 => ?_)
                  · have h228 := ifT c227 h226
                    refine WP.skip ?_
                    refine sqN ?_
                    refine WP.blk ?_
                    refine WP.ureg rfl ?_
                    refine U.p rfl rfl (.inl rfl) (S.move rfl (L 4 rfl rfl)) ?_
                    refine U.p rfl rfl (.inl rfl) (S.sub rfl (L 0 rfl rfl) K) ?_
                    refine U.p rfl rfl (.inl rfl) (S.assign rfl (L 0 rfl rfl)) ?_
                    refine U.done (Nat.le_of_ble_eq_true rfl) ?_
                    refine blkN (sqN ?_)
                    exact ⟨_, V223, rfl, ⟨m217, Nat.lt_succ_self _, w64 (x211 - 1), rfl, (le215.trans le224), ow225, backS h228 e219⟩, (allCons (L 3 rfl rfl) (allCons (L 4 rfl rfl) (allCons (L 5 rfl rfl) (allCons (L 6 rfl rfl) (allCons (L 0 rfl rfl) allNil)))))⟩
                  · have h229 := ifF c227 h226
                    refine WP.exit ?_
                    refine sqE (sqE (blkE (sqN ?_)))
                    have h230 := exitS h229 e219
                    refine WP.seq ?_
                    refine WP.usreg rfl ?_
                    refine U.p rfl rfl (.inl rfl) (S.move rfl (L 3 rfl rfl)) ?_
                    refine U.p rfl rfl (.inl rfl) (S.move rfl (L 5 rfl rfl)) ?_
                    refine U.p rfl rfl (.inl rfl) (S.gtr rfl (L 1 rfl rfl) (L 0 rfl rfl)) ?_
                    refine U.done (Nat.le_of_ble_eq_true rfl) ?_
                    refine WP.cond _ (L 0 rfl rfl) rfl (fun c231 => ?_) (fun c231 => ?_)
                    · have h232 := ifT c231 h230
                      refine WP.exit ?_
                      refine sqE (blkO rfl (sqE (blkE (sqN ?_))))
                      have h233 := exitS h232 e188
                      refine WP.usdreg rfl rfl rfl ?_
                      refine U.p rfl rfl (.inl rfl) (S.move rfl (L 3 rfl rfl)) ?_
                      refine U.p rfl rfl (.inl rfl) (S.move rfl (L 8 rfl rfl)) ?_
                      refine U.p rfl rfl (.inl rfl) (S.move rfl (L 5 rfl rfl)) ?_
                      refine U.p rfl rfl (.inl rfl) (S.move rfl (L 7 rfl rfl)) ?_
                      refine U.p rfl rfl (.inl rfl) (S.move rfl (L 7 rfl rfl)) ?_
                      refine U.p rfl rfl (.inl rfl) (S.move rfl (L 9 rfl rfl)) ?_
                      obtain ⟨x234, hx235, h236⟩ := bindS h233
                      obtain ⟨_, hv237, _⟩ := ow225.osel (k := 0) rfl hv10 hx235
                      refine U.p rfl rfl (.inl rfl) (S.index rfl ((L 1 rfl rfl).trans hv237) (L 0 rfl rfl) Try.underlying39 ti44 (ix_ge hx235) (ix_lt hx235)) ?_
                      obtain ⟨cs238, hv239, hlt240, hr241, hc242⟩ := ow225.osel (k := 0) rfl hv10 hx235
                      obtain rfl : cs238 = [.int .i64 x234.reg, .int .i64 x234.from_, .int .i64 x234.to_] := hr241
                      refine U.k rfl rfl (.inl rfl) (S.loadN (cs := [.int .i64 x234.reg, .int .i64 x234.from_, .int .i64 x234.to_]) rfl (L 0 rfl rfl) Try.underlying44 rfl ti44 rfl hc242) (fun _ => (okH.nil (fun r h => by cases h; exact hlt240))) ?_
                      refine U.p rfl rfl (.inl rfl) (S.move rfl (L 11 rfl rfl)) ?_
                      refine U.p rfl rfl (.inl rfl) (S.move rfl (L 16 rfl rfl)) ?_
                      obtain ⟨x243, hx244, h245⟩ := bindS h236
                      obtain ⟨_, hv246, _⟩ := ow225.osel (k := 0) rfl hv10 hx244
                      refine U.p rfl rfl (.inl rfl) (S.index rfl ((L 1 rfl rfl).trans hv246) (L 0 rfl rfl) Try.underlying39 ti44 (ix_ge hx244) (ix_lt hx244)) ?_
                      obtain ⟨cs247, hv248, hlt249, hr250, hc251⟩ := ow225.osel (k := 0) rfl hv10 hx244
                      obtain rfl : cs247 = [.int .i64 x243.reg, .int .i64 x243.from_, .int .i64 x243.to_] := hr250
                      refine U.k rfl rfl (.inl rfl) (S.loadN (cs := [.int .i64 x243.reg, .int .i64 x243.from_, .int .i64 x243.to_]) rfl (L 0 rfl rfl) Try.underlying44 rfl ti44 rfl hc251) (fun _ => (okH.cons trivial (okH.nil (fun r h => by cases h; exact hlt249)))) ?_
                      obtain ⟨x252, hx253, h254⟩ := bindS h245
                      obtain ⟨_, hv255, _⟩ := ow225.osel (k := 0) rfl hv10 hx253
                      refine U.p rfl rfl (.inl rfl) (S.index rfl ((L 11 rfl rfl).trans hv255) (L 10 rfl rfl) Try.underlying39 ti44 (ix_ge hx253) (ix_lt hx253)) ?_
                      obtain ⟨cs256, hv257, hlt258, hr259, hc260⟩ := ow225.osel (k := 0) rfl hv10 hx253
                      obtain rfl : cs256 = [.int .i64 x252.reg, .int .i64 x252.from_, .int .i64 x252.to_] := hr259
                      refine O.storeE (k := 0) (R := RT_Tflow_Span) (j := 0) (y := x234) (cs := [.int .i64 x234.reg, .int .i64 x234.from_, .int .i64 x234.to_]) ow225 rfl hv257 rfl rfl (.inl rfl) rfl (L 0 rfl rfl) (L 5 rfl rfl) ti44 hx253 (by simp [topV]) rfl rfl rfl (full rfl) (fun H1 hs => (fun _ => (okH.cons (Or.inl rfl) (okH.cons (Or.inl rfl) (okH.nil (fun r h => nomatch h)))))) (fun V261 le262 ow263 => ?_)
                      obtain ⟨x264, hx265, h266⟩ := bindS h254
                      obtain ⟨_, hv267, _⟩ := ow263.osel (k := 0) rfl hv10 hx265
                      refine U.p rfl rfl (.inl rfl) (S.index rfl ((L 10 rfl rfl).trans hv267) (L 9 rfl rfl) Try.underlying39 ti44 (ix_ge hx265) (ix_lt hx265)) ?_
                      obtain ⟨cs268, hv269, hlt270, hr271, hc272⟩ := ow263.osel (k := 0) rfl hv10 hx265
                      obtain rfl : cs268 = [.int .i64 x264.reg, .int .i64 x264.from_, .int .i64 x264.to_] := hr271
                      refine O.storeE (k := 0) (R := RT_Tflow_Span) (j := 0) (y := x243) (cs := [.int .i64 x243.reg, .int .i64 x243.from_, .int .i64 x243.to_]) ow263 rfl hv269 rfl rfl (.inl rfl) rfl (L 0 rfl rfl) (L 2 rfl rfl) ti44 hx265 (by simp [topV]) rfl rfl rfl (full rfl) (fun H1 hs => (fun _ => (okH.cons rfl (okH.cons (Or.inl rfl) (okH.cons (Or.inl rfl) (okH.nil (fun r h => nomatch h))))))) (fun V273 le274 ow275 => ?_)
                      refine U.done (Nat.le_of_ble_eq_true rfl) ?_
                      refine WP.usreg rfl ?_
                      refine U.p rfl rfl (.inl rfl) (S.move rfl (L 21 rfl rfl)) ?_
                      refine U.p rfl rfl (.inl rfl) (S.assign rfl (L 0 rfl rfl)) ?_
                      refine U.p rfl rfl (.inl rfl) (S.assign rfl K) ?_
                      refine U.done (Nat.le_of_ble_eq_true rfl) ?_
                      refine WP.ret ?_
                      refine fin.slots' (.inr rfl) (fsC (L 1 rfl rfl) (fsC (L 0 rfl rfl) fsN)) rfl ⟨V273, rfl, ((((((((((((((le36.trans le48).trans le54).trans le63).trans le74).trans le83).trans le164).trans le176).trans le184).trans le195).trans le204).trans le215).trans le224).trans le262).trans le274), ?_⟩
                      have e276 := Option.some.inj h266
                      subst e276
                      exact ⟨rfl, ow275⟩
                    · have h277 := ifF c231 h230
                      refine WP.skip ?_
                      refine sqN ?_
                      refine WP.usdreg rfl rfl rfl ?_
                      refine U.p rfl rfl (.inl rfl) (S.move rfl (L 3 rfl rfl)) ?_
                      refine U.p rfl rfl (.inl rfl) (S.move rfl (L 7 rfl rfl)) ?_
                      refine U.p rfl rfl (.inl rfl) (S.move rfl (L 5 rfl rfl)) ?_
                      refine U.p rfl rfl (.inl rfl) (S.move rfl (L 10 rfl rfl)) ?_
                      refine U.p rfl rfl (.inl rfl) (S.move rfl (L 7 rfl rfl)) ?_
                      refine U.p rfl rfl (.inl rfl) (S.move rfl (L 12 rfl rfl)) ?_
                      obtain ⟨x278, hx279, h280⟩ := bindS h277
                      obtain ⟨_, hv281, _⟩ := ow225.osel (k := 0) rfl hv10 hx279
                      refine U.p rfl rfl (.inl rfl) (S.index rfl ((L 1 rfl rfl).trans hv281) (L 0 rfl rfl) Try.underlying39 ti44 (ix_ge hx279) (ix_lt hx279)) ?_
                      obtain ⟨cs282, hv283, hlt284, hr285, hc286⟩ := ow225.osel (k := 0) rfl hv10 hx279
                      obtain rfl : cs282 = [.int .i64 x278.reg, .int .i64 x278.from_, .int .i64 x278.to_] := hr285
                      refine U.k rfl rfl (.inl rfl) (S.loadN (cs := [.int .i64 x278.reg, .int .i64 x278.from_, .int .i64 x278.to_]) rfl (L 0 rfl rfl) Try.underlying44 rfl ti44 rfl hc286) (fun _ => (okH.nil (fun r h => by cases h; exact hlt284))) ?_
                      refine U.p rfl rfl (.inl rfl) (S.move rfl (L 11 rfl rfl)) ?_
                      refine U.p rfl rfl (.inl rfl) (S.move rfl (L 15 rfl rfl)) ?_
                      obtain ⟨x287, hx288, h289⟩ := bindS h280
                      obtain ⟨_, hv290, _⟩ := ow225.osel (k := 0) rfl hv10 hx288
                      refine U.p rfl rfl (.inl rfl) (S.index rfl ((L 1 rfl rfl).trans hv290) (L 0 rfl rfl) Try.underlying39 ti44 (ix_ge hx288) (ix_lt hx288)) ?_
                      obtain ⟨cs291, hv292, hlt293, hr294, hc295⟩ := ow225.osel (k := 0) rfl hv10 hx288
                      obtain rfl : cs291 = [.int .i64 x287.reg, .int .i64 x287.from_, .int .i64 x287.to_] := hr294
                      refine U.k rfl rfl (.inl rfl) (S.loadN (cs := [.int .i64 x287.reg, .int .i64 x287.from_, .int .i64 x287.to_]) rfl (L 0 rfl rfl) Try.underlying44 rfl ti44 rfl hc295) (fun _ => (okH.cons trivial (okH.nil (fun r h => by cases h; exact hlt293)))) ?_
                      obtain ⟨x296, hx297, h298⟩ := bindS h289
                      obtain ⟨_, hv299, _⟩ := ow225.osel (k := 0) rfl hv10 hx297
                      refine U.p rfl rfl (.inl rfl) (S.index rfl ((L 11 rfl rfl).trans hv299) (L 10 rfl rfl) Try.underlying39 ti44 (ix_ge hx297) (ix_lt hx297)) ?_
                      obtain ⟨cs300, hv301, hlt302, hr303, hc304⟩ := ow225.osel (k := 0) rfl hv10 hx297
                      obtain rfl : cs300 = [.int .i64 x296.reg, .int .i64 x296.from_, .int .i64 x296.to_] := hr303
                      refine O.storeE (k := 0) (R := RT_Tflow_Span) (j := 0) (y := x278) (cs := [.int .i64 x278.reg, .int .i64 x278.from_, .int .i64 x278.to_]) ow225 rfl hv301 rfl rfl (.inl rfl) rfl (L 0 rfl rfl) (L 5 rfl rfl) ti44 hx297 (by simp [topV]) rfl rfl rfl (full rfl) (fun H1 hs => (fun _ => (okH.cons (Or.inl rfl) (okH.cons (Or.inl rfl) (okH.nil (fun r h => nomatch h)))))) (fun V305 le306 ow307 => ?_)
                      obtain ⟨x308, hx309, h310⟩ := bindS h298
                      obtain ⟨_, hv311, _⟩ := ow307.osel (k := 0) rfl hv10 hx309
                      refine U.p rfl rfl (.inl rfl) (S.index rfl ((L 10 rfl rfl).trans hv311) (L 9 rfl rfl) Try.underlying39 ti44 (ix_ge hx309) (ix_lt hx309)) ?_
                      obtain ⟨cs312, hv313, hlt314, hr315, hc316⟩ := ow307.osel (k := 0) rfl hv10 hx309
                      obtain rfl : cs312 = [.int .i64 x308.reg, .int .i64 x308.from_, .int .i64 x308.to_] := hr315
                      refine O.storeE (k := 0) (R := RT_Tflow_Span) (j := 0) (y := x287) (cs := [.int .i64 x287.reg, .int .i64 x287.from_, .int .i64 x287.to_]) ow307 rfl hv313 rfl rfl (.inl rfl) rfl (L 0 rfl rfl) (L 2 rfl rfl) ti44 hx309 (by simp [topV]) rfl rfl rfl (full rfl) (fun H1 hs => (fun _ => (okH.cons rfl (okH.cons (Or.inl rfl) (okH.cons (Or.inl rfl) (okH.nil (fun r h => nomatch h))))))) (fun V317 le318 ow319 => ?_)
                      refine U.done (Nat.le_of_ble_eq_true rfl) ?_
                      refine WP.usreg rfl ?_
                      refine U.p rfl rfl (.inl rfl) (S.move rfl (L 20 rfl rfl)) ?_
                      refine U.p rfl rfl (.inl rfl) (S.add rfl (L 0 rfl rfl) K) ?_
                      refine U.p rfl rfl (.inl rfl) (S.assign rfl (L 0 rfl rfl)) ?_
                      refine U.done (Nat.le_of_ble_eq_true rfl) ?_
                      refine WP.ureg rfl ?_
                      refine U.p rfl rfl (.inl rfl) (S.move rfl (L 24 rfl rfl)) ?_
                      refine U.p rfl rfl (.inl rfl) (S.sub rfl (L 0 rfl rfl) K) ?_
                      refine U.p rfl rfl (.inl rfl) (S.assign rfl (L 0 rfl rfl)) ?_
                      refine U.done (Nat.le_of_ble_eq_true rfl) ?_
                      refine blkN (sqN ?_)
                      exact ⟨_, V317, rfl, ⟨m186, Nat.lt_succ_self _, (xs178.set (Int.toNat x191) x278).set (Int.toNat x211) x287, w64 (x191 + 1), w64 (x211 - 1), rfl, ((((((le184.trans le195).trans le204).trans le215).trans le224).trans le306).trans le318), ow319, backS h310 e188⟩, (allCons (L 23 rfl rfl) (allCons (L 24 rfl rfl) (allCons (L 25 rfl rfl) (allCons (L 3 rfl rfl) (allCons (L 0 rfl rfl) allNil)))))⟩
                · skip
                  refine WP.udreg rfl rfl rfl ?_
                  refine U.p rfl rfl (.inl rfl) (S.move rfl (L 3 rfl rfl)) ?_
                  refine U.p rfl rfl (.inl rfl) (S.move rfl (L 5 rfl rfl)) ?_
                  refine U.p rfl rfl (.inl rfl) (S.leq rfl (L 1 rfl rfl) (L 0 rfl rfl)) ?_
                  refine U.p rfl rfl (.inl rfl) (S.move rfl (L 0 rfl rfl)) ?_
                  refine bcase (b := decide (x191 ≤ x211)) (fun g320 => ?_) (fun g320 => ?_)
                  · have h321 := ifT g320 h221
                    refine U.p rfl rfl (.inr ⟨_, _, _, rfl, rfl, ((L 0 rfl rfl).trans (congrArg Value.bool g320))⟩) (S.move rfl (L 6 rfl rfl)) ?_
                    refine U.p rfl rfl (.inr ⟨_, _, _, rfl, rfl, ((L 1 rfl rfl).trans (congrArg Value.bool g320))⟩) (S.move rfl (L 5 rfl rfl)) ?_
                    refine U.p rfl rfl (.inr ⟨_, _, _, rfl, rfl, ((L 2 rfl rfl).trans (congrArg Value.bool g320))⟩) (S.move rfl (L 10 rfl rfl)) ?_
                    obtain ⟨x322, hx323, h324⟩ := bindS h321
                    obtain ⟨_, hv325, _⟩ := ow216.osel (k := 0) rfl hv10 hx323
                    refine U.p rfl rfl (.inr ⟨_, _, _, rfl, rfl, ((L 3 rfl rfl).trans (congrArg Value.bool g320))⟩) (S.index rfl ((L 1 rfl rfl).trans hv325) (L 0 rfl rfl) Try.underlying39 ti44 (ix_ge hx323) (ix_lt hx323)) ?_
                    obtain ⟨cs326, hv327, hlt328, hr329, hc330⟩ := ow216.osel (k := 0) rfl hv10 hx323
                    obtain rfl : cs326 = [.int .i64 x322.reg, .int .i64 x322.from_, .int .i64 x322.to_] := hr329
                    refine U.k rfl rfl (.inr ⟨_, _, _, rfl, rfl, ((L 4 rfl rfl).trans (congrArg Value.bool g320))⟩) (S.loadN (cs := [.int .i64 x322.reg, .int .i64 x322.from_, .int .i64 x322.to_]) rfl (L 0 rfl rfl) Try.underlying44 rfl ti44 rfl hc330) (fun _ => (okH.nil (fun r h => by cases h; exact hlt328))) ?_
                    refine U.p rfl rfl (.inr ⟨_, _, _, rfl, rfl, ((L 5 rfl rfl).trans (congrArg Value.bool g320))⟩) (S.move rfl (L 9 rfl rfl)) ?_
                    refine U.p rfl rfl (.inr ⟨_, _, _, rfl, rfl, ((L 6 rfl rfl).trans (congrArg Value.bool g320))⟩) (S.move rfl (L 11 rfl rfl)) ?_
                    obtain ⟨x331, hx332, h333⟩ := bindS h324
                    obtain ⟨_, hv334, _⟩ := ow216.osel (k := 0) rfl hv10 hx332
                    refine U.p rfl rfl (.inr ⟨_, _, _, rfl, rfl, ((L 7 rfl rfl).trans (congrArg Value.bool g320))⟩) (S.index rfl ((L 1 rfl rfl).trans hv334) (L 0 rfl rfl) Try.underlying39 ti44 (ix_ge hx332) (ix_lt hx332)) ?_
                    obtain ⟨cs335, hv336, hlt337, hr338, hc339⟩ := ow216.osel (k := 0) rfl hv10 hx332
                    obtain rfl : cs335 = [.int .i64 x331.reg, .int .i64 x331.from_, .int .i64 x331.to_] := hr338
                    refine U.k rfl rfl (.inr ⟨_, _, _, rfl, rfl, ((L 8 rfl rfl).trans (congrArg Value.bool g320))⟩) (S.loadN (cs := [.int .i64 x331.reg, .int .i64 x331.from_, .int .i64 x331.to_]) rfl (L 0 rfl rfl) Try.underlying44 rfl ti44 rfl hc339) (fun _ => (okH.cons trivial (okH.nil (fun r h => by cases h; exact hlt337)))) ?_
                    obtain ⟨x340, hx341, h342⟩ := bindS h333
                    refine O.callv (V := V214) rfl rfl (.inr ⟨_, _, _, rfl, rfl, ((L 9 rfl rfl).trans (congrArg Value.bool g320))⟩) rfl (L 8 rfl rfl) en28 (aC (L 4 rfl rfl) (aC (L 0 rfl rfl) aN)) (wk_flow_Spans_c1 V214 _ x322 x331 ow216 _ hx341) (fun v343 V344 le345 hp346 => by obtain ⟨rfl, ow347⟩ := hp346; exact (fun _ => (okH.cons (Or.inl rfl) (okH.cons (Or.inl rfl) (okH.nil (fun r h => nomatch h)))))) (fun v343 V344 le345 hp346 => ?_)
                    obtain ⟨rfl, ow347⟩ := hp346
                    refine U.p rfl rfl (.inr ⟨_, _, _, rfl, rfl, ((L 10 rfl rfl).trans (congrArg Value.bool g320))⟩) (S.lss rfl (L 0 rfl rfl) K) ?_
                    refine U.p rfl rfl (.inr ⟨_, _, _, rfl, rfl, ((L 11 rfl rfl).trans (congrArg Value.bool g320))⟩) (S.not rfl (L 0 rfl rfl)) ?_
                    refine U.p rfl rfl (.inl rfl) (S.pickT rfl ((L 12 rfl rfl).trans (congrArg Value.bool g320)) (L 0 rfl rfl)) ?_
                    refine U.done (Nat.le_of_ble_eq_true rfl) ?_
                    refine sqN ?_
                    exact ⟨_, V344, rfl, ⟨!(decide (x340 < 0)), rfl, le345, ow347, h342⟩, (allCons (L 17 rfl rfl) (allCons (L 18 rfl rfl) (allCons (L 19 rfl rfl) (allCons (L 20 rfl rfl) (allCons (L 21 rfl rfl) (allCons (L 0 rfl rfl) allNil))))))⟩
                  · have h348 := ifF g320 h221
                    refine U.x rfl rfl rfl rfl ((L 0 rfl rfl).trans (congrArg Value.bool g320)) (by decide) ?_
                    refine U.x rfl rfl rfl rfl ((L 1 rfl rfl).trans (congrArg Value.bool g320)) (by decide) ?_
                    refine U.x rfl rfl rfl rfl ((L 2 rfl rfl).trans (congrArg Value.bool g320)) (by decide) ?_
                    refine U.x rfl rfl rfl rfl ((L 3 rfl rfl).trans (congrArg Value.bool g320)) (by decide) ?_
                    refine U.x rfl rfl rfl rfl ((L 4 rfl rfl).trans (congrArg Value.bool g320)) (by decide) ?_
                    refine U.x rfl rfl rfl rfl ((L 5 rfl rfl).trans (congrArg Value.bool g320)) (by decide) ?_
                    refine U.x rfl rfl rfl rfl ((L 6 rfl rfl).trans (congrArg Value.bool g320)) (by decide) ?_
                    refine U.x rfl rfl rfl rfl ((L 7 rfl rfl).trans (congrArg Value.bool g320)) (by decide) ?_
                    refine U.x rfl rfl rfl rfl ((L 8 rfl rfl).trans (congrArg Value.bool g320)) (by decide) ?_
                    refine U.x rfl rfl rfl rfl ((L 9 rfl rfl).trans (congrArg Value.bool g320)) (by decide) ?_
                    refine U.x rfl rfl rfl rfl ((L 10 rfl rfl).trans (congrArg Value.bool g320)) (by decide) ?_
                    refine U.x rfl rfl rfl rfl ((L 11 rfl rfl).trans (congrArg Value.bool g320)) (by decide) ?_
                    refine U.p rfl rfl (.inl rfl) (S.pickF rfl ((L 12 rfl rfl).trans (congrArg Value.bool g320)) K) ?_
                    refine U.done (Nat.le_of_ble_eq_true rfl) ?_
                    refine sqN ?_
                    exact ⟨_, V214, rfl, ⟨false, rfl, (.refl _), ow216, h348⟩, (allCons (L 17 rfl rfl) (allCons (L 18 rfl rfl) (allCons (L 19 rfl rfl) (allCons (L 20 rfl rfl) (allCons (L 21 rfl rfl) (allCons (L 0 rfl rfl) allNil))))))⟩
            · skip
              refine WP.udreg rfl rfl rfl ?_
              refine U.p rfl rfl (.inl rfl) (S.move rfl (L 3 rfl rfl)) ?_
              refine U.p rfl rfl (.inl rfl) (S.move rfl (L 5 rfl rfl)) ?_
              refine U.p rfl rfl (.inl rfl) (S.leq rfl (L 1 rfl rfl) (L 0 rfl rfl)) ?_
              refine U.p rfl rfl (.inl rfl) (S.move rfl (L 0 rfl rfl)) ?_
              refine bcase (b := decide (x191 ≤ x180)) (fun g349 => ?_) (fun g349 => ?_)
              · have h350 := ifT g349 h201
                refine U.p rfl rfl (.inr ⟨_, _, _, rfl, rfl, ((L 0 rfl rfl).trans (congrArg Value.bool g349))⟩) (S.move rfl (L 6 rfl rfl)) ?_
                refine U.p rfl rfl (.inr ⟨_, _, _, rfl, rfl, ((L 1 rfl rfl).trans (congrArg Value.bool g349))⟩) (S.move rfl (L 5 rfl rfl)) ?_
                refine U.p rfl rfl (.inr ⟨_, _, _, rfl, rfl, ((L 2 rfl rfl).trans (congrArg Value.bool g349))⟩) (S.move rfl (L 9 rfl rfl)) ?_
                obtain ⟨x351, hx352, h353⟩ := bindS h350
                obtain ⟨_, hv354, _⟩ := ow196.osel (k := 0) rfl hv10 hx352
                refine U.p rfl rfl (.inr ⟨_, _, _, rfl, rfl, ((L 3 rfl rfl).trans (congrArg Value.bool g349))⟩) (S.index rfl ((L 1 rfl rfl).trans hv354) (L 0 rfl rfl) Try.underlying39 ti44 (ix_ge hx352) (ix_lt hx352)) ?_
                obtain ⟨cs355, hv356, hlt357, hr358, hc359⟩ := ow196.osel (k := 0) rfl hv10 hx352
                obtain rfl : cs355 = [.int .i64 x351.reg, .int .i64 x351.from_, .int .i64 x351.to_] := hr358
                refine U.k rfl rfl (.inr ⟨_, _, _, rfl, rfl, ((L 4 rfl rfl).trans (congrArg Value.bool g349))⟩) (S.loadN (cs := [.int .i64 x351.reg, .int .i64 x351.from_, .int .i64 x351.to_]) rfl (L 0 rfl rfl) Try.underlying44 rfl ti44 rfl hc359) (fun _ => (okH.nil (fun r h => by cases h; exact hlt357))) ?_
                refine U.p rfl rfl (.inr ⟨_, _, _, rfl, rfl, ((L 5 rfl rfl).trans (congrArg Value.bool g349))⟩) (S.move rfl (L 9 rfl rfl)) ?_
                refine U.p rfl rfl (.inr ⟨_, _, _, rfl, rfl, ((L 6 rfl rfl).trans (congrArg Value.bool g349))⟩) (S.move rfl (L 11 rfl rfl)) ?_
                obtain ⟨x360, hx361, h362⟩ := bindS h353
                obtain ⟨_, hv363, _⟩ := ow196.osel (k := 0) rfl hv10 hx361
                refine U.p rfl rfl (.inr ⟨_, _, _, rfl, rfl, ((L 7 rfl rfl).trans (congrArg Value.bool g349))⟩) (S.index rfl ((L 1 rfl rfl).trans hv363) (L 0 rfl rfl) Try.underlying39 ti44 (ix_ge hx361) (ix_lt hx361)) ?_
                obtain ⟨cs364, hv365, hlt366, hr367, hc368⟩ := ow196.osel (k := 0) rfl hv10 hx361
                obtain rfl : cs364 = [.int .i64 x360.reg, .int .i64 x360.from_, .int .i64 x360.to_] := hr367
                refine U.k rfl rfl (.inr ⟨_, _, _, rfl, rfl, ((L 8 rfl rfl).trans (congrArg Value.bool g349))⟩) (S.loadN (cs := [.int .i64 x360.reg, .int .i64 x360.from_, .int .i64 x360.to_]) rfl (L 0 rfl rfl) Try.underlying44 rfl ti44 rfl hc368) (fun _ => (okH.cons trivial (okH.nil (fun r h => by cases h; exact hlt366)))) ?_
                obtain ⟨x369, hx370, h371⟩ := bindS h362
                refine O.callv (V := V194) rfl rfl (.inr ⟨_, _, _, rfl, rfl, ((L 9 rfl rfl).trans (congrArg Value.bool g349))⟩) rfl (L 8 rfl rfl) en28 (aC (L 4 rfl rfl) (aC (L 0 rfl rfl) aN)) (wk_flow_Spans_c1 V194 _ x351 x360 ow196 _ hx370) (fun v372 V373 le374 hp375 => by obtain ⟨rfl, ow376⟩ := hp375; exact (fun _ => (okH.cons (Or.inl rfl) (okH.cons (Or.inl rfl) (okH.nil (fun r h => nomatch h)))))) (fun v372 V373 le374 hp375 => ?_)
                obtain ⟨rfl, ow376⟩ := hp375
                refine U.p rfl rfl (.inr ⟨_, _, _, rfl, rfl, ((L 10 rfl rfl).trans (congrArg Value.bool g349))⟩) (S.lss rfl (L 0 rfl rfl) K) ?_
                refine U.p rfl rfl (.inl rfl) (S.pickT rfl ((L 11 rfl rfl).trans (congrArg Value.bool g349)) (L 0 rfl rfl)) ?_
                refine U.done (Nat.le_of_ble_eq_true rfl) ?_
                refine sqN ?_
                exact ⟨_, V373, rfl, ⟨decide (x369 < 0), rfl, le374, ow376, h371⟩, (allCons (L 16 rfl rfl) (allCons (L 17 rfl rfl) (allCons (L 18 rfl rfl) (allCons (L 19 rfl rfl) (allCons (L 20 rfl rfl) (allCons (L 0 rfl rfl) allNil))))))⟩
              · have h377 := ifF g349 h201
                refine U.x rfl rfl rfl rfl ((L 0 rfl rfl).trans (congrArg Value.bool g349)) (by decide) ?_
                refine U.x rfl rfl rfl rfl ((L 1 rfl rfl).trans (congrArg Value.bool g349)) (by decide) ?_
                refine U.x rfl rfl rfl rfl ((L 2 rfl rfl).trans (congrArg Value.bool g349)) (by decide) ?_
                refine U.x rfl rfl rfl rfl ((L 3 rfl rfl).trans (congrArg Value.bool g349)) (by decide) ?_
                refine U.x rfl rfl rfl rfl ((L 4 rfl rfl).trans (congrArg Value.bool g349)) (by decide) ?_
                refine U.x rfl rfl rfl rfl ((L 5 rfl rfl).trans (congrArg Value.bool g349)) (by decide) ?_
                refine U.x rfl rfl rfl rfl ((L 6 rfl rfl).trans (congrArg Value.bool g349)) (by decide) ?_
                refine U.x rfl rfl rfl rfl ((L 7 rfl rfl).trans (congrArg Value.bool g349)) (by decide) ?_
                refine U.x rfl rfl rfl rfl ((L 8 rfl rfl).trans (congrArg Value.bool g349)) (by decide) ?_
                refine U.x rfl rfl rfl rfl ((L 9 rfl rfl).trans (congrArg Value.bool g349)) (by decide) ?_
                refine U.x rfl rfl rfl rfl ((L 10 rfl rfl).trans (congrArg Value.bool g349)) (by decide) ?_
                refine U.p rfl rfl (.inl rfl) (S.pickF rfl ((L 11 rfl rfl).trans (congrArg Value.bool g349)) K) ?_
                refine U.done (Nat.le_of_ble_eq_true rfl) ?_
                refine sqN ?_
                exact ⟨_, V194, rfl, ⟨false, rfl, (.refl _), ow196, h377⟩, (allCons (L 16 rfl rfl) (allCons (L 17 rfl rfl) (allCons (L 18 rfl rfl) (allCons (L 19 rfl rfl) (allCons (L 20 rfl rfl) (allCons (L 0 rfl rfl) allNil))))))⟩
      · skip
        refine WP.udreg rfl rfl rfl ?_
        refine U.p rfl rfl (.inl rfl) (S.move rfl (L 3 rfl rfl)) ?_
        refine U.p rfl rfl (.inl rfl) (S.move rfl (L 5 rfl rfl)) ?_
        refine U.p rfl rfl (.inl rfl) (S.leq rfl (L 1 rfl rfl) (L 0 rfl rfl)) ?_
        refine U.p rfl rfl (.inl rfl) (S.move rfl (L 0 rfl rfl)) ?_
        refine bcase (b := decide (x50 ≤ x70)) (fun g378 => ?_) (fun g378 => ?_)
        · have h379 := ifT g378 h80
          refine U.p rfl rfl (.inr ⟨_, _, _, rfl, rfl, ((L 0 rfl rfl).trans (congrArg Value.bool g378))⟩) (S.move rfl (L 6 rfl rfl)) ?_
          refine U.p rfl rfl (.inr ⟨_, _, _, rfl, rfl, ((L 1 rfl rfl).trans (congrArg Value.bool g378))⟩) (S.move rfl (L 5 rfl rfl)) ?_
          refine U.p rfl rfl (.inr ⟨_, _, _, rfl, rfl, ((L 2 rfl rfl).trans (congrArg Value.bool g378))⟩) (S.move rfl (L 10 rfl rfl)) ?_
          obtain ⟨x380, hx381, h382⟩ := bindS h379
          obtain ⟨_, hv383, _⟩ := ow75.osel (k := 0) rfl hv10 hx381
          refine U.p rfl rfl (.inr ⟨_, _, _, rfl, rfl, ((L 3 rfl rfl).trans (congrArg Value.bool g378))⟩) (S.index rfl ((L 1 rfl rfl).trans hv383) (L 0 rfl rfl) Try.underlying39 ti44 (ix_ge hx381) (ix_lt hx381)) ?_
          obtain ⟨cs384, hv385, hlt386, hr387, hc388⟩ := ow75.osel (k := 0) rfl hv10 hx381
          obtain rfl : cs384 = [.int .i64 x380.reg, .int .i64 x380.from_, .int .i64 x380.to_] := hr387
          refine U.k rfl rfl (.inr ⟨_, _, _, rfl, rfl, ((L 4 rfl rfl).trans (congrArg Value.bool g378))⟩) (S.loadN (cs := [.int .i64 x380.reg, .int .i64 x380.from_, .int .i64 x380.to_]) rfl (L 0 rfl rfl) Try.underlying44 rfl ti44 rfl hc388) (fun _ => (okH.nil (fun r h => by cases h; exact hlt386))) ?_
          refine U.p rfl rfl (.inr ⟨_, _, _, rfl, rfl, ((L 5 rfl rfl).trans (congrArg Value.bool g378))⟩) (S.move rfl (L 9 rfl rfl)) ?_
          refine U.p rfl rfl (.inr ⟨_, _, _, rfl, rfl, ((L 6 rfl rfl).trans (congrArg Value.bool g378))⟩) (S.move rfl (L 11 rfl rfl)) ?_
          obtain ⟨x389, hx390, h391⟩ := bindS h382
          obtain ⟨_, hv392, _⟩ := ow75.osel (k := 0) rfl hv10 hx390
          refine U.p rfl rfl (.inr ⟨_, _, _, rfl, rfl, ((L 7 rfl rfl).trans (congrArg Value.bool g378))⟩) (S.index rfl ((L 1 rfl rfl).trans hv392) (L 0 rfl rfl) Try.underlying39 ti44 (ix_ge hx390) (ix_lt hx390)) ?_
          obtain ⟨cs393, hv394, hlt395, hr396, hc397⟩ := ow75.osel (k := 0) rfl hv10 hx390
          obtain rfl : cs393 = [.int .i64 x389.reg, .int .i64 x389.from_, .int .i64 x389.to_] := hr396
          refine U.k rfl rfl (.inr ⟨_, _, _, rfl, rfl, ((L 8 rfl rfl).trans (congrArg Value.bool g378))⟩) (S.loadN (cs := [.int .i64 x389.reg, .int .i64 x389.from_, .int .i64 x389.to_]) rfl (L 0 rfl rfl) Try.underlying44 rfl ti44 rfl hc397) (fun _ => (okH.cons trivial (okH.nil (fun r h => by cases h; exact hlt395)))) ?_
          obtain ⟨x398, hx399, h400⟩ := bindS h391
          refine O.callv (V := V73) rfl rfl (.inr ⟨_, _, _, rfl, rfl, ((L 9 rfl rfl).trans (congrArg Value.bool g378))⟩) rfl (L 8 rfl rfl) en28 (aC (L 4 rfl rfl) (aC (L 0 rfl rfl) aN)) (wk_flow_Spans_c1 V73 _ x380 x389 ow75 _ hx399) (fun v401 V402 le403 hp404 => by obtain ⟨rfl, ow405⟩ := hp404; exact (fun _ => (okH.cons (Or.inl rfl) (okH.cons (Or.inl rfl) (okH.nil (fun r h => nomatch h)))))) (fun v401 V402 le403 hp404 => ?_)
          obtain ⟨rfl, ow405⟩ := hp404
          refine U.p rfl rfl (.inr ⟨_, _, _, rfl, rfl, ((L 10 rfl rfl).trans (congrArg Value.bool g378))⟩) (S.lss rfl (L 0 rfl rfl) K) ?_
          refine U.p rfl rfl (.inr ⟨_, _, _, rfl, rfl, ((L 11 rfl rfl).trans (congrArg Value.bool g378))⟩) (S.not rfl (L 0 rfl rfl)) ?_
          refine U.p rfl rfl (.inl rfl) (S.pickT rfl ((L 12 rfl rfl).trans (congrArg Value.bool g378)) (L 0 rfl rfl)) ?_
          refine U.done (Nat.le_of_ble_eq_true rfl) ?_
          refine sqN ?_
          exact ⟨_, V402, rfl, ⟨!(decide (x398 < 0)), rfl, le403, ow405, h400⟩, (allCons (L 17 rfl rfl) (allCons (L 18 rfl rfl) (allCons (L 19 rfl rfl) (allCons (L 20 rfl rfl) (allCons (L 21 rfl rfl) (allCons (L 0 rfl rfl) allNil))))))⟩
        · have h406 := ifF g378 h80
          refine U.x rfl rfl rfl rfl ((L 0 rfl rfl).trans (congrArg Value.bool g378)) (by decide) ?_
          refine U.x rfl rfl rfl rfl ((L 1 rfl rfl).trans (congrArg Value.bool g378)) (by decide) ?_
          refine U.x rfl rfl rfl rfl ((L 2 rfl rfl).trans (congrArg Value.bool g378)) (by decide) ?_
          refine U.x rfl rfl rfl rfl ((L 3 rfl rfl).trans (congrArg Value.bool g378)) (by decide) ?_
          refine U.x rfl rfl rfl rfl ((L 4 rfl rfl).trans (congrArg Value.bool g378)) (by decide) ?_
          refine U.x rfl rfl rfl rfl ((L 5 rfl rfl).trans (congrArg Value.bool g378)) (by decide) ?_
          refine U.x rfl rfl rfl rfl ((L 6 rfl rfl).trans (congrArg Value.bool g378)) (by decide) ?_
          refine U.x rfl rfl rfl rfl ((L 7 rfl rfl).trans (congrArg Value.bool g378)) (by decide) ?_
          refine U.x rfl rfl rfl rfl ((L 8 rfl rfl).trans (congrArg Value.bool g378)) (by decide) ?_
          refine U.x rfl rfl rfl rfl ((L 9 rfl rfl).trans (congrArg Value.bool g378)) (by decide) ?_
          refine U.x rfl rfl rfl rfl ((L 10 rfl rfl).trans (congrArg Value.bool g378)) (by decide) ?_
          refine U.x rfl rfl rfl rfl ((L 11 rfl rfl).trans (congrArg Value.bool g378)) (by decide) ?_
          refine U.p rfl rfl (.inl rfl) (S.pickF rfl ((L 12 rfl rfl).trans (congrArg Value.bool g378)) K) ?_
          refine U.done (Nat.le_of_ble_eq_true rfl) ?_
          refine sqN ?_
          exact ⟨_, V73, rfl, ⟨false, rfl, (.refl _), ow75, h406⟩, (allCons (L 17 rfl rfl) (allCons (L 18 rfl rfl) (allCons (L 19 rfl rfl) (allCons (L 20 rfl rfl) (allCons (L 21 rfl rfl) (allCons (L 0 rfl rfl) allNil))))))⟩
  · skip
    refine WP.udreg rfl rfl rfl ?_
    refine U.p rfl rfl (.inl rfl) (S.move rfl (L 3 rfl rfl)) ?_
    refine U.p rfl rfl (.inl rfl) (S.move rfl (L 5 rfl rfl)) ?_
    refine U.p rfl rfl (.inl rfl) (S.leq rfl (L 1 rfl rfl) (L 0 rfl rfl)) ?_
    refine U.p rfl rfl (.inl rfl) (S.move rfl (L 0 rfl rfl)) ?_
    refine bcase (b := decide (x50 ≤ (w64 (p2 - 1)))) (fun g407 => ?_) (fun g407 => ?_)
    · have h408 := ifT g407 h60
      refine U.p rfl rfl (.inr ⟨_, _, _, rfl, rfl, ((L 0 rfl rfl).trans (congrArg Value.bool g407))⟩) (S.move rfl (L 6 rfl rfl)) ?_
      refine U.p rfl rfl (.inr ⟨_, _, _, rfl, rfl, ((L 1 rfl rfl).trans (congrArg Value.bool g407))⟩) (S.move rfl (L 5 rfl rfl)) ?_
      refine U.p rfl rfl (.inr ⟨_, _, _, rfl, rfl, ((L 2 rfl rfl).trans (congrArg Value.bool g407))⟩) (S.move rfl (L 9 rfl rfl)) ?_
      obtain ⟨x409, hx410, h411⟩ := bindS h408
      obtain ⟨_, hv412, _⟩ := ow55.osel (k := 0) rfl hv10 hx410
      refine U.p rfl rfl (.inr ⟨_, _, _, rfl, rfl, ((L 3 rfl rfl).trans (congrArg Value.bool g407))⟩) (S.index rfl ((L 1 rfl rfl).trans hv412) (L 0 rfl rfl) Try.underlying39 ti44 (ix_ge hx410) (ix_lt hx410)) ?_
      obtain ⟨cs413, hv414, hlt415, hr416, hc417⟩ := ow55.osel (k := 0) rfl hv10 hx410
      obtain rfl : cs413 = [.int .i64 x409.reg, .int .i64 x409.from_, .int .i64 x409.to_] := hr416
      refine U.k rfl rfl (.inr ⟨_, _, _, rfl, rfl, ((L 4 rfl rfl).trans (congrArg Value.bool g407))⟩) (S.loadN (cs := [.int .i64 x409.reg, .int .i64 x409.from_, .int .i64 x409.to_]) rfl (L 0 rfl rfl) Try.underlying44 rfl ti44 rfl hc417) (fun _ => (okH.nil (fun r h => by cases h; exact hlt415))) ?_
      refine U.p rfl rfl (.inr ⟨_, _, _, rfl, rfl, ((L 5 rfl rfl).trans (congrArg Value.bool g407))⟩) (S.move rfl (L 9 rfl rfl)) ?_
      refine U.p rfl rfl (.inr ⟨_, _, _, rfl, rfl, ((L 6 rfl rfl).trans (congrArg Value.bool g407))⟩) (S.move rfl (L 11 rfl rfl)) ?_
      obtain ⟨x418, hx419, h420⟩ := bindS h411
      obtain ⟨_, hv421, _⟩ := ow55.osel (k := 0) rfl hv10 hx419
      refine U.p rfl rfl (.inr ⟨_, _, _, rfl, rfl, ((L 7 rfl rfl).trans (congrArg Value.bool g407))⟩) (S.index rfl ((L 1 rfl rfl).trans hv421) (L 0 rfl rfl) Try.underlying39 ti44 (ix_ge hx419) (ix_lt hx419)) ?_
      obtain ⟨cs422, hv423, hlt424, hr425, hc426⟩ := ow55.osel (k := 0) rfl hv10 hx419
      obtain rfl : cs422 = [.int .i64 x418.reg, .int .i64 x418.from_, .int .i64 x418.to_] := hr425
      refine U.k rfl rfl (.inr ⟨_, _, _, rfl, rfl, ((L 8 rfl rfl).trans (congrArg Value.bool g407))⟩) (S.loadN (cs := [.int .i64 x418.reg, .int .i64 x418.from_, .int .i64 x418.to_]) rfl (L 0 rfl rfl) Try.underlying44 rfl ti44 rfl hc426) (fun _ => (okH.cons trivial (okH.nil (fun r h => by cases h; exact hlt424)))) ?_
      obtain ⟨x427, hx428, h429⟩ := bindS h420
      refine O.callv (V := V53) rfl rfl (.inr ⟨_, _, _, rfl, rfl, ((L 9 rfl rfl).trans (congrArg Value.bool g407))⟩) rfl (L 8 rfl rfl) en28 (aC (L 4 rfl rfl) (aC (L 0 rfl rfl) aN)) (wk_flow_Spans_c1 V53 _ x409 x418 ow55 _ hx428) (fun v430 V431 le432 hp433 => by obtain ⟨rfl, ow434⟩ := hp433; exact (fun _ => (okH.cons (Or.inl rfl) (okH.cons (Or.inl rfl) (okH.nil (fun r h => nomatch h)))))) (fun v430 V431 le432 hp433 => ?_)
      obtain ⟨rfl, ow434⟩ := hp433
      refine U.p rfl rfl (.inr ⟨_, _, _, rfl, rfl, ((L 10 rfl rfl).trans (congrArg Value.bool g407))⟩) (S.lss rfl (L 0 rfl rfl) K) ?_
      refine U.p rfl rfl (.inl rfl) (S.pickT rfl ((L 11 rfl rfl).trans (congrArg Value.bool g407)) (L 0 rfl rfl)) ?_
      refine U.done (Nat.le_of_ble_eq_true rfl) ?_
      refine sqN ?_
      exact ⟨_, V431, rfl, ⟨decide (x427 < 0), rfl, le432, ow434, h429⟩, (allCons (L 16 rfl rfl) (allCons (L 17 rfl rfl) (allCons (L 18 rfl rfl) (allCons (L 19 rfl rfl) (allCons (L 20 rfl rfl) (allCons (L 0 rfl rfl) allNil))))))⟩
    · have h435 := ifF g407 h60
      refine U.x rfl rfl rfl rfl ((L 0 rfl rfl).trans (congrArg Value.bool g407)) (by decide) ?_
      refine U.x rfl rfl rfl rfl ((L 1 rfl rfl).trans (congrArg Value.bool g407)) (by decide) ?_
      refine U.x rfl rfl rfl rfl ((L 2 rfl rfl).trans (congrArg Value.bool g407)) (by decide) ?_
      refine U.x rfl rfl rfl rfl ((L 3 rfl rfl).trans (congrArg Value.bool g407)) (by decide) ?_
      refine U.x rfl rfl rfl rfl ((L 4 rfl rfl).trans (congrArg Value.bool g407)) (by decide) ?_
      refine U.x rfl rfl rfl rfl ((L 5 rfl rfl).trans (congrArg Value.bool g407)) (by decide) ?_
      refine U.x rfl rfl rfl rfl ((L 6 rfl rfl).trans (congrArg Value.bool g407)) (by decide) ?_
      refine U.x rfl rfl rfl rfl ((L 7 rfl rfl).trans (congrArg Value.bool g407)) (by decide) ?_
      refine U.x rfl rfl rfl rfl ((L 8 rfl rfl).trans (congrArg Value.bool g407)) (by decide) ?_
      refine U.x rfl rfl rfl rfl ((L 9 rfl rfl).trans (congrArg Value.bool g407)) (by decide) ?_
      refine U.x rfl rfl rfl rfl ((L 10 rfl rfl).trans (congrArg Value.bool g407)) (by decide) ?_
      refine U.p rfl rfl (.inl rfl) (S.pickF rfl ((L 11 rfl rfl).trans (congrArg Value.bool g407)) K) ?_
      refine U.done (Nat.le_of_ble_eq_true rfl) ?_
      refine sqN ?_
      exact ⟨_, V53, rfl, ⟨false, rfl, (.refl _), ow55, h435⟩, (allCons (L 16 rfl rfl) (allCons (L 17 rfl rfl) (allCons (L 18 rfl rfl) (allCons (L 19 rfl rfl) (allCons (L 20 rfl rfl) (allCons (L 0 rfl rfl) allNil))))))⟩

set_option maxHeartbeats 4000000 in
set_option maxRecDepth 10000 in
theorem wk_slices_nextPowerOfTwo (V : Vw) (Rs : List At) (p0 : Int) (ow : Ow V (Rs)) (r : Int) (h : slices_nextPowerOfTwo p0 = some r) : ∃ v V', Cl Try.prog 0 52 #[.int .i64 p0] V.H v V'.H ∧ V.le V' ∧ (v = .int .u64 r ∧ Ow V' (Rs)) := by
  refine Ct.of (Nat.zero_le _) Try.func52 rfl (Nat.le_of_ble_eq_true rfl) ?_
  unfold slices_nextPowerOfTwo at h
  refine WP.usreg rfl ?_
  refine U.p rfl rfl (.inl rfl) (S.assign rfl K) ?_
  refine U.done (Nat.le_of_ble_eq_true rfl) ?_
  refine WP.usreg rfl ?_
  refine U.p rfl rfl (.inl rfl) (S.move rfl (L 1 rfl rfl)) ?_
  refine U.p rfl rfl (.inl rfl) (S.conv rfl (L 0 rfl rfl) Try.underlying3 Try.underlying65) ?_
  obtain ⟨x1, hx2, h3⟩ := bindS h
  refine O.call (V := V) rfl rfl (.inl rfl) rfl en38 (aC (L 0 rfl rfl) aN) (wk_math_bits_Len V _ (IntKind.wrap .u64 p0) ow _ hx2) (fun _ _ _ _ => nd) (fun v4 V5 le6 hp7 => ?_)
  obtain ⟨rfl, ow8⟩ := hp7
  obtain ⟨x9, hx10, h11⟩ := bindS h3
  refine U.p rfl rfl (.inl rfl) (S.shl hx10 rfl K (L 0 rfl rfl)) ?_
  refine U.p rfl rfl (.inl rfl) (S.assign rfl (L 0 rfl rfl)) ?_
  refine U.done (Nat.le_of_ble_eq_true rfl) ?_
  refine WP.ret ?_
  refine fin.slot (.inr rfl) rfl (L 0 rfl rfl) ⟨V5, rfl, le6, ?_⟩
  have e12 := Option.some.inj h11
  subst e12
  exact ⟨rfl, ow8⟩

set_option maxHeartbeats 4000000 in
set_option maxRecDepth 10000 in
theorem wk_slices_xorshift_Next (V : Vw) (Rs : List At) (p0 : Int) (b1 : Nat) (z2 : Nat) (ow : Ow V (.pt b1 (.cells z2 [.int .u64 p0]) :: Rs)) (r : Int × Int) (h : slices_xorshift_Next p0 = some r) : ∃ v V', Cl Try.prog 0 53 #[.pointer (some ⟨b1, 0, none⟩)] V.H v V'.H ∧ V.le V' ∧ (v = .int .u64 r.1 ∧ Ow V' (.pt b1 (.cells z2 [.int .u64 r.2]) :: Rs)) := by
  refine Ct.of (Nat.zero_le _) Try.func53 rfl (Nat.le_of_ble_eq_true rfl) ?_
  unfold slices_xorshift_Next at h
  refine WP.usreg rfl ?_
  refine U.p rfl rfl (.inl rfl) (S.assign rfl K) ?_
  refine U.done (Nat.le_of_ble_eq_true rfl) ?_
  refine WP.usdreg rfl rfl rfl ?_
  refine U.p rfl rfl (.inl rfl) (S.move rfl (L 1 rfl rfl)) ?_
  refine U.p rfl rfl (.inl rfl) (S.nilCheck rfl (L 0 rfl rfl)) ?_
  refine U.k rfl rfl (.inl rfl) (S.load rfl (L 0 rfl rfl) Try.underlying81 rfl ((ow.own (k := 0) rfl).cell rfl)) (fun _ => (okH.nil (fun r h => by cases h; exact (ow.own (k := 0) rfl).lt))) ?_
  refine U.p rfl rfl (.inl rfl) (S.move rfl (L 4 rfl rfl)) ?_
  refine U.p rfl rfl (.inl rfl) (S.nilCheck rfl (L 0 rfl rfl)) ?_
  refine U.k rfl rfl (.inl rfl) (S.load rfl (L 0 rfl rfl) Try.underlying81 rfl ((ow.own (k := 0) rfl).cell rfl)) (fun _ => (okH.cons trivial (okH.nil (fun r h => by cases h; exact (ow.own (k := 0) rfl).lt)))) ?_
  obtain ⟨x4, hx5, h6⟩ := bindS h
  refine U.p rfl rfl (.inl rfl) (S.shl hx5 rfl (L 0 rfl rfl) K) ?_
  refine U.p rfl rfl (.inl rfl) (S.xorI rfl (L 4 rfl rfl) (L 0 rfl rfl)) ?_
  refine U.p rfl rfl (.inl rfl) (S.nilCheck rfl (L 7 rfl rfl)) ?_
  refine O.store (k := 0) (cs := [.int .u64 (xorB .u64 p0 x4)]) (c' := [.int .u64 (xorB .u64 p0 x4)]) ow rfl rfl rfl (.inl rfl) rfl (L 0 rfl rfl) (L 1 rfl rfl) ti81 (by simp [topV]) rfl rfl (Nat.le_of_ble_eq_true rfl) rfl rfl (fun _ => (okH.cons (Or.inl rfl) (okH.cons (Or.inl rfl) (okH.nil (fun r h => nomatch h))))) (fun V7 le8 ow9 => ?_)
  refine U.done (Nat.le_of_ble_eq_true rfl) ?_
  refine WP.usdreg rfl rfl rfl ?_
  refine U.p rfl rfl (.inl rfl) (S.move rfl (L 10 rfl rfl)) ?_
  refine U.p rfl rfl (.inl rfl) (S.nilCheck rfl (L 0 rfl rfl)) ?_
  refine U.k rfl rfl (.inl rfl) (S.load rfl (L 0 rfl rfl) Try.underlying81 rfl ((ow9.own (k := 0) rfl).cell rfl)) (fun _ => (okH.nil (fun r h => by cases h; exact (ow9.own (k := 0) rfl).lt))) ?_
  refine U.p rfl rfl (.inl rfl) (S.move rfl (L 13 rfl rfl)) ?_
  refine U.p rfl rfl (.inl rfl) (S.nilCheck rfl (L 0 rfl rfl)) ?_
  refine U.k rfl rfl (.inl rfl) (S.load rfl (L 0 rfl rfl) Try.underlying81 rfl ((ow9.own (k := 0) rfl).cell rfl)) (fun _ => (okH.cons trivial (okH.nil (fun r h => by cases h; exact (ow9.own (k := 0) rfl).lt)))) ?_
  obtain ⟨x10, hx11, h12⟩ := bindS h6
  refine U.p rfl rfl (.inl rfl) (S.shr hx11 rfl (L 0 rfl rfl) K) ?_
  refine U.p rfl rfl (.inl rfl) (S.xorI rfl (L 4 rfl rfl) (L 0 rfl rfl)) ?_
  refine U.p rfl rfl (.inl rfl) (S.nilCheck rfl (L 7 rfl rfl)) ?_
  refine O.store (k := 0) (cs := [.int .u64 (xorB .u64 (xorB .u64 p0 x4) x10)]) (c' := [.int .u64 (xorB .u64 (xorB .u64 p0 x4) x10)]) ow9 rfl rfl rfl (.inl rfl) rfl (L 0 rfl rfl) (L 1 rfl rfl) ti81 (by simp [topV]) rfl rfl (Nat.le_of_ble_eq_true rfl) rfl rfl (fun _ => (okH.cons (Or.inl rfl) (okH.cons (Or.inl rfl) (okH.nil (fun r h => nomatch h))))) (fun V13 le14 ow15 => ?_)
  refine U.done (Nat.le_of_ble_eq_true rfl) ?_
  refine WP.usdreg rfl rfl rfl ?_
  refine U.p rfl rfl (.inl rfl) (S.move rfl (L 19 rfl rfl)) ?_
  refine U.p rfl rfl (.inl rfl) (S.nilCheck rfl (L 0 rfl rfl)) ?_
  refine U.k rfl rfl (.inl rfl) (S.load rfl (L 0 rfl rfl) Try.underlying81 rfl ((ow15.own (k := 0) rfl).cell rfl)) (fun _ => (okH.nil (fun r h => by cases h; exact (ow15.own (k := 0) rfl).lt))) ?_
  refine U.p rfl rfl (.inl rfl) (S.move rfl (L 22 rfl rfl)) ?_
  refine U.p rfl rfl (.inl rfl) (S.nilCheck rfl (L 0 rfl rfl)) ?_
  refine U.k rfl rfl (.inl rfl) (S.load rfl (L 0 rfl rfl) Try.underlying81 rfl ((ow15.own (k := 0) rfl).cell rfl)) (fun _ => (okH.cons trivial (okH.nil (fun r h => by cases h; exact (ow15.own (k := 0) rfl).lt)))) ?_
  obtain ⟨x16, hx17, h18⟩ := bindS h12
  refine U.p rfl rfl (.inl rfl) (S.shl hx17 rfl (L 0 rfl rfl) K) ?_
  refine U.p rfl rfl (.inl rfl) (S.xorI rfl (L 4 rfl rfl) (L 0 rfl rfl)) ?_
  refine U.p rfl rfl (.inl rfl) (S.nilCheck rfl (L 7 rfl rfl)) ?_
  refine O.store (k := 0) (cs := [.int .u64 (xorB .u64 (xorB .u64 (xorB .u64 p0 x4) x10) x16)]) (c' := [.int .u64 (xorB .u64 (xorB .u64 (xorB .u64 p0 x4) x10) x16)]) ow15 rfl rfl rfl (.inl rfl) rfl (L 0 rfl rfl) (L 1 rfl rfl) ti81 (by simp [topV]) rfl rfl (Nat.le_of_ble_eq_true rfl) rfl rfl (fun _ => (okH.cons (Or.inl rfl) (okH.cons (Or.inl rfl) (okH.nil (fun r h => nomatch h))))) (fun V19 le20 ow21 => ?_)
  refine U.done (Nat.le_of_ble_eq_true rfl) ?_
  refine WP.usreg rfl ?_
  refine U.p rfl rfl (.inl rfl) (S.move rfl (L 28 rfl rfl)) ?_
  refine U.p rfl rfl (.inl rfl) (S.nilCheck rfl (L 0 rfl rfl)) ?_
  refine U.k rfl rfl (.inl rfl) (S.load rfl (L 0 rfl rfl) Try.underlying81 rfl ((ow21.own (k := 0) rfl).cell rfl)) nd ?_
  refine U.p rfl rfl (.inl rfl) (S.assign rfl (L 0 rfl rfl)) ?_
  refine U.done (Nat.le_of_ble_eq_true rfl) ?_
  refine WP.ret ?_
  refine fin.slot (.inr rfl) rfl (L 0 rfl rfl) ⟨V19, rfl, ((le8.trans le14).trans le20), ?_⟩
  have e22 := Option.some.inj h18
  subst e22
  exact ⟨rfl, ow21⟩

end Go.Vm.G10s
