/-
  What the functions compute is what the plain ones say, for all inputs at which those answer.
-/
import Derived.Test.YtllkfanfdbnogaaEDG10s
import Derived.Test.YtllkfanfdbnogaaProg
set_option linter.unusedSimpArgs false
set_option linter.unusedVariables false
namespace Go.Vm.G10s
open Go Go.Proofs

theorem ti3 : tinfo Try.prog 3 (.int .i64 0) 1 8 := by unfold tinfo; kernel_rfl
theorem ti4 : tinfo Try.prog 4 (.bool false) 1 1 := by unfold tinfo; kernel_rfl
theorem ti22 : tinfo Try.prog 22 (.slice none 0 0) 1 24 := by unfold tinfo; kernel_rfl
theorem ti24 : tinfo Try.prog 24 (.agg #[.string ByteArray.empty, .int .i64 0, .int .i64 0, .slice none 0 0]) 4 56 := by unfold tinfo; kernel_rfl
theorem ti29 : tinfo Try.prog 29 (.slice none 0 0) 1 24 := by unfold tinfo; kernel_rfl
theorem ti31 : tinfo Try.prog 31 (.slice none 0 0) 1 24 := by unfold tinfo; kernel_rfl
theorem ti33 : tinfo Try.prog 33 (.agg #[.int .i64 0, .int .i64 0, .int .i64 0, .int .i64 0, .int .i64 0, .slice none 0 0, .int .i64 0, .bool false, .bool false]) 9 80 := by unfold tinfo; kernel_rfl
theorem ti44 : tinfo Try.prog 44 (.agg #[.int .i64 0, .int .i64 0, .int .i64 0]) 3 24 := by unfold tinfo; kernel_rfl
theorem ti47 : tinfo Try.prog 47 (.slice none 0 0) 1 24 := by unfold tinfo; kernel_rfl
theorem ti81 : tinfo Try.prog 81 (.int .u64 0) 1 8 := by unfold tinfo; kernel_rfl
theorem pl24 : placesAre Try.prog 24 #[(0, 1), (1, 1), (2, 1), (3, 1)] := ⟨_, Try.underlying24, by kernel_rfl⟩
theorem pl33 : placesAre Try.prog 33 #[(0, 1), (1, 1), (2, 1), (3, 1), (4, 1), (5, 1), (6, 1), (7, 1), (8, 1)] := ⟨_, Try.underlying33, by kernel_rfl⟩
theorem pl44 : placesAre Try.prog 44 #[(0, 1), (1, 1), (2, 1)] := ⟨_, Try.underlying44, by kernel_rfl⟩
theorem en8 : enterable Try.prog 8 := ⟨Try.f8, Try.func8, by kernel_rfl, rfl⟩
theorem en9 : enterable Try.prog 9 := ⟨Try.f9, Try.func9, by kernel_rfl, rfl⟩
theorem en10 : enterable Try.prog 10 := ⟨Try.f10, Try.func10, by kernel_rfl, rfl⟩
theorem en11 : enterable Try.prog 11 := ⟨Try.f11, Try.func11, by kernel_rfl, rfl⟩
theorem en12 : enterable Try.prog 12 := ⟨Try.f12, Try.func12, by kernel_rfl, rfl⟩
theorem en13 : enterable Try.prog 13 := ⟨Try.f13, Try.func13, by kernel_rfl, rfl⟩
theorem en14 : enterable Try.prog 14 := ⟨Try.f14, Try.func14, by kernel_rfl, rfl⟩
theorem en16 : enterable Try.prog 16 := ⟨Try.f16, Try.func16, by kernel_rfl, rfl⟩
theorem en18 : enterable Try.prog 18 := ⟨Try.f18, Try.func18, by kernel_rfl, rfl⟩
theorem en19 : enterable Try.prog 19 := ⟨Try.f19, Try.func19, by kernel_rfl, rfl⟩
theorem en20 : enterable Try.prog 20 := ⟨Try.f20, Try.func20, by kernel_rfl, rfl⟩
theorem en21 : enterable Try.prog 21 := ⟨Try.f21, Try.func21, by kernel_rfl, rfl⟩
theorem en22 : enterable Try.prog 22 := ⟨Try.f22, Try.func22, by kernel_rfl, rfl⟩
theorem en23 : enterable Try.prog 23 := ⟨Try.f23, Try.func23, by kernel_rfl, rfl⟩
theorem en24 : enterable Try.prog 24 := ⟨Try.f24, Try.func24, by kernel_rfl, rfl⟩
theorem en25 : enterable Try.prog 25 := ⟨Try.f25, Try.func25, by kernel_rfl, rfl⟩
theorem en26 : enterable Try.prog 26 := ⟨Try.f26, Try.func26, by kernel_rfl, rfl⟩
theorem en27 : enterable Try.prog 27 := ⟨Try.f27, Try.func27, by kernel_rfl, rfl⟩
theorem en28 : enterable Try.prog 28 := ⟨Try.f28, Try.func28, by kernel_rfl, rfl⟩
theorem en29 : enterable Try.prog 29 := ⟨Try.f29, Try.func29, by kernel_rfl, rfl⟩
theorem en30 : enterable Try.prog 30 := ⟨Try.f30, Try.func30, by kernel_rfl, rfl⟩
theorem en31 : enterable Try.prog 31 := ⟨Try.f31, Try.func31, by kernel_rfl, rfl⟩
theorem en32 : enterable Try.prog 32 := ⟨Try.f32, Try.func32, by kernel_rfl, rfl⟩
theorem en33 : enterable Try.prog 33 := ⟨Try.f33, Try.func33, by kernel_rfl, rfl⟩
theorem en34 : enterable Try.prog 34 := ⟨Try.f34, Try.func34, by kernel_rfl, rfl⟩
theorem en35 : enterable Try.prog 35 := ⟨Try.f35, Try.func35, by kernel_rfl, rfl⟩
theorem en36 : enterable Try.prog 36 := ⟨Try.f36, Try.func36, by kernel_rfl, rfl⟩
theorem en37 : enterable Try.prog 37 := ⟨Try.f37, Try.func37, by kernel_rfl, rfl⟩
theorem en38 : enterable Try.prog 38 := ⟨Try.f38, Try.func38, by kernel_rfl, rfl⟩
theorem en39 : enterable Try.prog 39 := ⟨Try.f39, Try.func39, by kernel_rfl, rfl⟩
theorem en40 : enterable Try.prog 40 := ⟨Try.f40, Try.func40, by kernel_rfl, rfl⟩
theorem en41 : enterable Try.prog 41 := ⟨Try.f41, Try.func41, by kernel_rfl, rfl⟩
theorem en42 : enterable Try.prog 42 := ⟨Try.f42, Try.func42, by kernel_rfl, rfl⟩
theorem en43 : enterable Try.prog 43 := ⟨Try.f43, Try.func43, by kernel_rfl, rfl⟩
theorem en44 : enterable Try.prog 44 := ⟨Try.f44, Try.func44, by kernel_rfl, rfl⟩
theorem en45 : enterable Try.prog 45 := ⟨Try.f45, Try.func45, by kernel_rfl, rfl⟩
theorem en46 : enterable Try.prog 46 := ⟨Try.f46, Try.func46, by kernel_rfl, rfl⟩
theorem en47 : enterable Try.prog 47 := ⟨Try.f47, Try.func47, by kernel_rfl, rfl⟩
theorem en48 : enterable Try.prog 48 := ⟨Try.f48, Try.func48, by kernel_rfl, rfl⟩
theorem en50 : enterable Try.prog 50 := ⟨Try.f50, Try.func50, by kernel_rfl, rfl⟩
theorem en51 : enterable Try.prog 51 := ⟨Try.f51, Try.func51, by kernel_rfl, rfl⟩
theorem en52 : enterable Try.prog 52 := ⟨Try.f52, Try.func52, by kernel_rfl, rfl⟩
theorem en53 : enterable Try.prog 53 := ⟨Try.f53, Try.func53, by kernel_rfl, rfl⟩
theorem en54 : enterable Try.prog 54 := ⟨Try.f54, Try.func54, by kernel_rfl, rfl⟩
theorem en55 : enterable Try.prog 55 := ⟨Try.f55, Try.func55, by kernel_rfl, rfl⟩
theorem en56 : enterable Try.prog 56 := ⟨Try.f56, Try.func56, by kernel_rfl, rfl⟩

set_option maxHeartbeats 4000000 in
set_option maxRecDepth 10000 in
theorem wk_flow_place_c1 (V : Vw) (Rs : List At) (p0 : TIns) (p1 : Int) (v1 : Value) (b3 : Nat) (z4 : Nat) (f2 : Fz (RT.int .i64) V v1 p0.args) (ow : Ow V (.pt b3 (.cells z4 [.int .i64 p1]) :: Rs)) (r : Bool) (h : flow_place_c1 p0 p1 = some r) : ∃ v V', Cl Try.prog 0 33 #[.agg #[.int .i64 p0.op, .int .i64 p0.d, .int .i64 p0.a, .int .i64 p0.b, .int .i64 p0.imm, v1, .int .i64 p0.what, .bool p0.volatile, .bool p0.final], .pointer (some ⟨b3, 0, none⟩)] V.H v V'.H ∧ V.le V' ∧ (v = .bool r ∧ Ow V' (.pt b3 (.cells z4 [.int .i64 p1]) :: Rs)) := by
  refine Ct.of (Nat.zero_le _) Try.func33 rfl (Nat.le_of_ble_eq_true rfl) ?_
  unfold flow_place_c1 at h
  refine WP.usreg rfl ?_
  refine O.box ow rfl rfl (.inl rfl) rfl (L 0 rfl rfl) (by simp [topV]) rfl nd (fun b6 V7 le8 ow9 => ?_)
  refine U.p rfl rfl (.inl rfl) (S.assign rfl K) ?_
  refine U.done (Nat.le_of_ble_eq_true rfl) ?_
  refine WP.usreg rfl ?_
  refine U.p (v := .pointer (some ⟨b6, 0, none⟩)) rfl rfl (.inl rfl) (S.fieldAddr rfl (L 1 rfl rfl) Try.underlying33 rfl ti3 rfl rfl) ?_
  refine U.k rfl rfl (.inl rfl) (S.load rfl (L 0 rfl rfl) Try.underlying3 rfl ((ow9.own (k := 0) rfl).cell rfl)) nd ?_
  refine U.p rfl rfl (.inl rfl) (S.eqlI rfl (L 0 rfl rfl) K) ?_
  refine U.p rfl rfl (.inl rfl) (S.move rfl (L 0 rfl rfl)) ?_
  refine U.joinX 9 (fun e H => ∃ (u11 u12 u13 u14 : Value), H = V7.H ∧ e = [(12, .bool ((decide (p0.op = 11)) && (decide (p0.imm = p1)))), (11, u11), (10, u12), (9, u13), (8, u14)]) ?_ ?_
  · rintro _ _ ⟨u11, u12, u13, u14, rfl, rfl⟩
    refine U.p rfl rfl (.inl rfl) (S.assign rfl (L 0 rfl rfl)) ?_
    refine U.done (Nat.le_of_ble_eq_true rfl) ?_
    refine WP.ret ?_
    refine fin.slot (.inr rfl) rfl (L 0 rfl rfl) ⟨V7, rfl, le8, ?_⟩
    have ow18 := ow9.drop 0 rfl
    have e19 := Option.some.inj h
    subst e19
    exact ⟨rfl, ow18⟩
  · intro kk
    refine bcase (b := decide (p0.op = 11)) (fun g20 => ?_) (fun g20 => ?_)
    · skip
      refine U.p (v := .pointer (some ⟨b6, 4, none⟩)) rfl rfl (.inr ⟨_, _, _, rfl, rfl, ((L 0 rfl rfl).trans (congrArg Value.bool g20))⟩) (S.fieldAddr rfl (L 5 rfl rfl) Try.underlying33 rfl ti3 rfl rfl) ?_
      refine U.k rfl rfl (.inr ⟨_, _, _, rfl, rfl, ((L 1 rfl rfl).trans (congrArg Value.bool g20))⟩) (S.load rfl (L 0 rfl rfl) Try.underlying3 rfl ((ow9.own (k := 0) rfl).cell rfl)) nd ?_
      refine U.k rfl rfl (.inr ⟨_, _, _, rfl, rfl, ((L 2 rfl rfl).trans (congrArg Value.bool g20))⟩) (S.load rfl (L 9 rfl rfl) Try.underlying3 rfl ((ow9.own (k := 1) rfl).cell rfl)) nd ?_
      refine U.p rfl rfl (.inr ⟨_, _, _, rfl, rfl, ((L 3 rfl rfl).trans (congrArg Value.bool g20))⟩) (S.eqlI rfl (L 1 rfl rfl) (L 0 rfl rfl)) ?_
      refine U.p rfl rfl (.inl rfl) (S.pickT rfl ((L 4 rfl rfl).trans (congrArg Value.bool g20)) (L 0 rfl rfl)) ?_
      exact kk [(12, .bool (decide (p0.imm = p1))), (11, .bool (decide (p0.imm = p1))), (10, .int .i64 p1), (9, .int .i64 p0.imm), (8, .pointer (some ⟨b6, 4, none⟩))] _ ⟨.bool (decide (p0.imm = p1)), .int .i64 p1, .int .i64 p0.imm, .pointer (some ⟨b6, 4, none⟩), rfl, (by rw [g20, Bool.true_and])⟩
    · skip
      refine U.x rfl rfl rfl rfl ((L 0 rfl rfl).trans (congrArg Value.bool g20)) (by decide) ?_
      refine U.x rfl rfl rfl rfl ((L 1 rfl rfl).trans (congrArg Value.bool g20)) (by decide) ?_
      refine U.x rfl rfl rfl rfl ((L 2 rfl rfl).trans (congrArg Value.bool g20)) (by decide) ?_
      refine U.x rfl rfl rfl rfl ((L 3 rfl rfl).trans (congrArg Value.bool g20)) (by decide) ?_
      refine U.p rfl rfl (.inl rfl) (S.pickF rfl ((L 4 rfl rfl).trans (congrArg Value.bool g20)) K) ?_
      exact kk [(12, .bool false), (11, .tuple #[]), (10, .tuple #[]), (9, .tuple #[]), (8, .tuple #[])] _ ⟨.tuple #[], .tuple #[], .tuple #[], .tuple #[], rfl, (by rw [g20, Bool.false_and])⟩

set_option maxHeartbeats 4000000 in
set_option maxRecDepth 10000 in
theorem wk_slices_IndexFunc (V : Vw) (Rs : List At) (p0 : List TIns) (p1_10 : Int) (v1 : Value) (b3 : Nat) (z4 : Nat) (f2 : Fz RT_TIns V v1 p0) (ow : Ow V (.pt b3 (.cells z4 [.int .i64 p1_10]) :: Rs)) (r : Int) (h : slices_IndexFunc p0 p1_10 = some r) : ∃ v V', Cl Try.prog 0 32 #[v1, .func (.func 33) #[] #[.pointer (some ⟨b3, 0, none⟩)]] V.H v V'.H ∧ V.le V' ∧ (v = .int .i64 r ∧ Ow V' (.pt b3 (.cells z4 [.int .i64 p1_10]) :: Rs)) := by
  refine Ct.of (Nat.zero_le _) Try.func32 rfl (Nat.le_of_ble_eq_true rfl) ?_
  unfold slices_IndexFunc at h
  refine WP.usreg rfl ?_
  refine U.p rfl rfl (.inl rfl) (S.assign rfl K) ?_
  refine U.done (Nat.le_of_ble_eq_true rfl) ?_
  refine WP.seq ?_
  refine WP.usreg rfl ?_
  refine U.p rfl rfl (.inl rfl) (S.move rfl (L 1 rfl rfl)) ?_
  refine U.p rfl rfl (.inl rfl) (f2.1.len rfl (L 0 rfl rfl) Try.underlying22) ?_
  refine U.p rfl rfl (.inl rfl) (S.move rfl K) ?_
  refine U.done (Nat.le_of_ble_eq_true rfl) ?_
  refine WP.blk ?_
  unfold slices_IndexFunc_l1 at h
  obtain ⟨n8, hn7⟩ := loopO_some.1 h
  refine WP.loopI2 (fun n l V' => ∃ (x6 : Int), l = [(0, v1), (1, .func (.func 33) #[] #[.pointer (some ⟨b3, 0, none⟩)]), (7, .int .i64 (p0.length : Int)), (8, .int .i64 x6)] ∧ V.le V' ∧ Ow V' (.pt b3 (.cells z4 [.int .i64 p1_10]) :: Rs) ∧ itO (fun s => slices_IndexFunc_l1b p0 p1_10 s) n x6 = some r) n8 _ ⟨0, rfl, .refl _, ow, hn7⟩ (allCons (L 4 rfl rfl) (allCons (L 5 rfl rfl) (allCons (L 1 rfl rfl) (allCons (L 0 rfl rfl) allNil)))) ?_
  rintro _ _ V9 ⟨x6, rfl, le10, ow11, h15⟩
  obtain ⟨m12, q13, rfl, h16, e14⟩ := itS h15
  replace h16 : slices_IndexFunc_l1b p0 p1_10 x6 = some q13 := h16
  unfold slices_IndexFunc_l1b at h16
  refine WP.usreg rfl ?_
  refine U.p rfl rfl (.inl rfl) (S.lss rfl (L 3 rfl rfl) (L 2 rfl rfl)) ?_
  refine U.done (Nat.le_of_ble_eq_true rfl) ?_
  refine WP.seq ?_
  refine WP.cond _ (L 0 rfl rfl) rfl (fun c17 => ?_) (fun c17 => ?_)
  · have h18 := ifT c17 h16
    refine WP.skip ?_
    refine sqN ?_
    refine WP.seq ?_
    refine WP.blk ?_
    refine WP.usreg rfl ?_
    refine U.p rfl rfl (.inl rfl) (S.move rfl (L 4 rfl rfl)) ?_
    refine U.p rfl rfl (.inl rfl) (S.assign rfl (L 0 rfl rfl)) ?_
    refine U.done (Nat.le_of_ble_eq_true rfl) ?_
    refine WP.usreg rfl ?_
    refine U.p rfl rfl (.inl rfl) (S.move rfl (L 4 rfl rfl)) ?_
    refine U.p rfl rfl (.inl rfl) (S.move rfl (L 4 rfl rfl)) ?_
    refine U.p rfl rfl (.inl rfl) (S.move rfl (L 2 rfl rfl)) ?_
    obtain ⟨x19, hx20, h21⟩ := bindS h18
    obtain ⟨b22, o23, c24, cs25, hv26, hf27, hr28, hc29⟩ := f2.at hx20
    obtain ⟨v30, rfl, f31⟩ := hr28
    refine U.p rfl rfl (.inl rfl) (S.index rfl ((L 1 rfl rfl).trans hv26) (L 0 rfl rfl) Try.underlying22 ti33 (ix_ge hx20) (ix_lt hx20)) ?_
    refine U.k rfl rfl (.inl rfl) (S.loadN (cs := [.int .i64 x19.op, .int .i64 x19.d, .int .i64 x19.a, .int .i64 x19.b, .int .i64 x19.imm, v30, .int .i64 x19.what, .bool x19.volatile, .bool x19.final]) rfl (L 0 rfl rfl) Try.underlying33 rfl ti33 rfl (fun j v hj => le10.cell hf27 (hc29 j v hj))) nd ?_
    have f32 := f31.up le10
    obtain ⟨x33, hx34, h35⟩ := bindS h21
    refine O.callv (V := V9) rfl rfl (.inl rfl) rfl (L 4 rfl rfl) en33 (aC (L 0 rfl rfl) aN) (wk_flow_place_c1 V9 _ x19 p1_10 v30 b3 z4 f32 ow11 _ hx34) (fun _ _ _ _ => nd) (fun v36 V37 le38 hp39 => ?_)
    obtain ⟨rfl, ow40⟩ := hp39
    refine U.done (Nat.le_of_ble_eq_true rfl) ?_
    refine WP.cond _ (L 0 rfl rfl) rfl (fun c41 => ?_) (fun c41 => ?_)
    · have h42 := ifT c41 h35
      refine WP.usreg rfl ?_
      refine U.p rfl rfl (.inl rfl) (S.move rfl (L 6 rfl rfl)) ?_
      refine U.p rfl rfl (.inl rfl) (S.assign rfl (L 0 rfl rfl)) ?_
      refine U.done (Nat.le_of_ble_eq_true rfl) ?_
      refine WP.ret ?_
      refine blkR (sqR (sqR (blkR (sqR ?_))))
      have h43 := exitS h42 e14
      refine fin.slot (.inr rfl) rfl (L 0 rfl rfl) ⟨V37, rfl, (le10.trans le38), ?_⟩
      have e44 := Option.some.inj h43
      subst e44
      exact ⟨rfl, ow40⟩
    · have h45 := ifF c41 h35
      refine WP.skip ?_
      refine blkN (sqN ?_)
      refine WP.ureg rfl ?_
      refine U.p rfl rfl (.inl rfl) (S.add rfl (L 12 rfl rfl) K) ?_
      refine U.p rfl rfl (.inl rfl) (S.move rfl (L 0 rfl rfl)) ?_
      refine U.done (Nat.le_of_ble_eq_true rfl) ?_
      refine sqN ?_
      exact ⟨_, V37, rfl, ⟨m12, Nat.lt_succ_self _, w64 (x6 + 1), rfl, (le10.trans le38), ow40, backS h45 e14⟩, (allCons (L 11 rfl rfl) (allCons (L 12 rfl rfl) (allCons (L 13 rfl rfl) (allCons (L 0 rfl rfl) allNil))))⟩
  · have h46 := ifF c17 h16
    refine WP.exit ?_
    refine sqE (sqE (blkE (sqN ?_)))
    have h47 := exitS h46 e14
    refine WP.usreg rfl ?_
    refine U.p rfl rfl (.inl rfl) (S.assign rfl K) ?_
    refine U.done (Nat.le_of_ble_eq_true rfl) ?_
    refine WP.ret ?_
    refine fin.slot (.inr rfl) rfl (L 0 rfl rfl) ⟨V9, rfl, le10, ?_⟩
    have e48 := Option.some.inj h47
    subst e48
    exact ⟨rfl, ow11⟩

set_option maxHeartbeats 4000000 in
set_option maxRecDepth 10000 in
theorem wk_flow_place (V : Vw) (Rs : List At) (p0 : TFunc) (p1 : Int) (v1 : Value) (f2 : Fz RT_TIns V v1 p0.code) (ow : Ow V (Rs)) (r : Int) (h : flow_place p0 p1 = some r) : ∃ v V', Cl Try.prog 0 24 #[.agg #[.string p0.name, .int .i64 p0.params, .int .i64 p0.regs, v1], .int .i64 p1] V.H v V'.H ∧ V.le V' ∧ (v = .int .i64 r ∧ Ow V' (Rs)) := by
  refine Ct.of (Nat.zero_le _) Try.func24 rfl (Nat.le_of_ble_eq_true rfl) ?_
  unfold flow_place at h
  refine WP.usreg rfl ?_
  refine O.box ow rfl rfl (.inl rfl) rfl (L 0 rfl rfl) (by simp [topV]) rfl nd (fun b3 V4 le5 ow6 => ?_)
  refine O.box ow6 rfl rfl (.inl rfl) rfl (L 2 rfl rfl) (by simp [topV]) rfl nd (fun b8 V9 le10 ow11 => ?_)
  refine U.p rfl rfl (.inl rfl) (S.assign rfl K) ?_
  refine U.done (Nat.le_of_ble_eq_true rfl) ?_
  refine WP.usreg rfl ?_
  refine U.p (v := .pointer (some ⟨b3, 3, none⟩)) rfl rfl (.inl rfl) (S.fieldAddr rfl (L 2 rfl rfl) Try.underlying24 rfl ti22 rfl rfl) ?_
  refine U.k rfl rfl (.inl rfl) (S.load rfl (L 0 rfl rfl) Try.underlying22 rfl ((ow11.own (k := 1) rfl).cell rfl)) nd ?_
  refine U.p (v := .func (.func 33) #[] #[.pointer (some ⟨b8, 0, none⟩)]) rfl rfl (.inl rfl) (S.makeFunc' rfl (amN) (am1 (L 3 rfl rfl))) ?_
  have f13 := f2.up (le5.trans le10)
  obtain ⟨x14, hx15, h16⟩ := bindS h
  refine O.call (V := V9) rfl rfl (.inl rfl) rfl en32 (aC (L 1 rfl rfl) (aC (L 0 rfl rfl) aN)) (wk_slices_IndexFunc V9 _ p0.code p1 v1 b8 0 f13 ow11 _ hx15) (fun _ _ _ _ => nd) (fun v17 V18 le19 hp20 => ?_)
  obtain ⟨rfl, ow21⟩ := hp20
  refine U.p rfl rfl (.inl rfl) (S.assign rfl (L 0 rfl rfl)) ?_
  refine U.done (Nat.le_of_ble_eq_true rfl) ?_
  refine WP.ret ?_
  refine fin.slot (.inr rfl) rfl (L 0 rfl rfl) ⟨V18, rfl, ((le5.trans le10).trans le19), ?_⟩
  have ow22 := ow21.drop 0 rfl
  have ow23 := ow22.drop 0 rfl
  have e24 := Option.some.inj h16
  subst e24
  exact ⟨rfl, ow23⟩

set_option maxHeartbeats 4000000 in
set_option maxRecDepth 10000 in
theorem wk_slices_Index (V : Vw) (Rs : List At) (p0 : List Int) (p1 : Int) (v1 : Value) (ow : Ow V (.os (RT.int .i64) v1 p0 :: Rs)) (r : Int) (h : slices_Index p0 p1 = some r) : ∃ v V', Cl Try.prog 0 34 #[v1, .int .i64 p1] V.H v V'.H ∧ V.le V' ∧ (v = .int .i64 r ∧ Ow V' (.os (RT.int .i64) v1 p0 :: Rs)) := by
  refine Ct.of (Nat.zero_le _) Try.func34 rfl (Nat.le_of_ble_eq_true rfl) ?_
  unfold slices_Index at h
  refine WP.usreg rfl ?_
  refine U.p rfl rfl (.inl rfl) (S.assign rfl K) ?_
  refine U.done (Nat.le_of_ble_eq_true rfl) ?_
  refine WP.seq ?_
  refine WP.usreg rfl ?_
  refine U.p rfl rfl (.inl rfl) (S.move rfl (L 1 rfl rfl)) ?_
  refine U.p rfl rfl (.inl rfl) (ow.oslen (k := 0) rfl rfl (L 0 rfl rfl) Try.underlying31) ?_
  refine U.p rfl rfl (.inl rfl) (S.move rfl K) ?_
  refine U.done (Nat.le_of_ble_eq_true rfl) ?_
  refine WP.blk ?_
  unfold slices_Index_l1 at h
  obtain ⟨n5, hn4⟩ := loopO_some.1 h
  refine WP.loopI2 (fun n l V' => ∃ (x3 : Int), l = [(0, v1), (1, .int .i64 p1), (7, .int .i64 (p0.length : Int)), (8, .int .i64 x3)] ∧ V.le V' ∧ Ow V' (.os (RT.int .i64) v1 p0 :: Rs) ∧ itO (fun s => slices_Index_l1b p0 p1 s) n x3 = some r) n5 _ ⟨0, rfl, .refl _, ow, hn4⟩ (allCons (L 4 rfl rfl) (allCons (L 5 rfl rfl) (allCons (L 1 rfl rfl) (allCons (L 0 rfl rfl) allNil)))) ?_
  rintro _ _ V6 ⟨x3, rfl, le7, ow8, h12⟩
  obtain ⟨m9, q10, rfl, h13, e11⟩ := itS h12
  replace h13 : slices_Index_l1b p0 p1 x3 = some q10 := h13
  unfold slices_Index_l1b at h13
  refine WP.usreg rfl ?_
  refine U.p rfl rfl (.inl rfl) (S.lss rfl (L 3 rfl rfl) (L 2 rfl rfl)) ?_
  refine U.done (Nat.le_of_ble_eq_true rfl) ?_
  refine WP.seq ?_
  refine WP.cond _ (L 0 rfl rfl) rfl (fun c14 => ?_) (fun c14 => ?_)
  · have h15 := ifT c14 h13
    refine WP.skip ?_
    refine sqN ?_
    refine WP.seq ?_
    refine WP.blk ?_
    refine WP.usreg rfl ?_
    refine U.p rfl rfl (.inl rfl) (S.move rfl (L 4 rfl rfl)) ?_
    refine U.p rfl rfl (.inl rfl) (S.assign rfl (L 0 rfl rfl)) ?_
    refine U.done (Nat.le_of_ble_eq_true rfl) ?_
    refine WP.usreg rfl ?_
    refine U.p rfl rfl (.inl rfl) (S.move rfl (L 4 rfl rfl)) ?_
    refine U.p rfl rfl (.inl rfl) (S.move rfl (L 4 rfl rfl)) ?_
    refine U.p rfl rfl (.inl rfl) (S.move rfl (L 2 rfl rfl)) ?_
    obtain ⟨x16, hx17, h18⟩ := bindS h15
    obtain ⟨b19, o20, n21, c22, hv23⟩ := ow8.ospt (k := 0) rfl hx17
    obtain ⟨_, hv24, _⟩ := ow8.osel (k := 0) rfl hv23 hx17
    refine U.p rfl rfl (.inl rfl) (S.index rfl ((L 1 rfl rfl).trans hv24) (L 0 rfl rfl) Try.underlying31 ti3 (ix_ge hx17) (ix_lt hx17)) ?_
    obtain ⟨cs25, hv26, hlt27, hr28, hc29⟩ := ow8.osel (k := 0) rfl hv23 hx17
    obtain rfl : cs25 = [.int .i64 x16] := hr28
    refine U.k rfl rfl (.inl rfl) (S.load rfl (L 0 rfl rfl) Try.underlying3 rfl (hc29 0 _ rfl)) nd ?_
    refine U.p rfl rfl (.inl rfl) (S.eqlI rfl (L 4 rfl rfl) (L 0 rfl rfl)) ?_
    refine U.done (Nat.le_of_ble_eq_true rfl) ?_
    refine WP.cond _ (L 0 rfl rfl) rfl (fun c30 => ?_) (fun c30 => ?_)
    · have h31 := ifT c30 h18
      refine WP.usreg rfl ?_
      refine U.p rfl rfl (.inl rfl) (S.move rfl (L 6 rfl rfl)) ?_
      refine U.p rfl rfl (.inl rfl) (S.assign rfl (L 0 rfl rfl)) ?_
      refine U.done (Nat.le_of_ble_eq_true rfl) ?_
      refine WP.ret ?_
      refine blkR (sqR (sqR (blkR (sqR ?_))))
      have h32 := exitS h31 e11
      refine fin.slot (.inr rfl) rfl (L 0 rfl rfl) ⟨V6, rfl, le7, ?_⟩
      have e33 := Option.some.inj h32
      subst e33
      exact ⟨rfl, ow8⟩
    · have h34 := ifF c30 h18
      refine WP.skip ?_
      refine blkN (sqN ?_)
      refine WP.ureg rfl ?_
      refine U.p rfl rfl (.inl rfl) (S.add rfl (L 12 rfl rfl) K) ?_
      refine U.p rfl rfl (.inl rfl) (S.move rfl (L 0 rfl rfl)) ?_
      refine U.done (Nat.le_of_ble_eq_true rfl) ?_
      refine sqN ?_
      exact ⟨_, V6, rfl, ⟨m9, Nat.lt_succ_self _, w64 (x3 + 1), rfl, le7, ow8, backS h34 e11⟩, (allCons (L 11 rfl rfl) (allCons (L 12 rfl rfl) (allCons (L 13 rfl rfl) (allCons (L 0 rfl rfl) allNil))))⟩
  · have h35 := ifF c14 h13
    refine WP.exit ?_
    refine sqE (sqE (blkE (sqN ?_)))
    have h36 := exitS h35 e11
    refine WP.usreg rfl ?_
    refine U.p rfl rfl (.inl rfl) (S.assign rfl K) ?_
    refine U.done (Nat.le_of_ble_eq_true rfl) ?_
    refine WP.ret ?_
    refine fin.slot (.inr rfl) rfl (L 0 rfl rfl) ⟨V6, rfl, le7, ?_⟩
    have e37 := Option.some.inj h36
    subst e37
    exact ⟨rfl, ow8⟩

set_option maxHeartbeats 4000000 in
set_option maxRecDepth 10000 in
theorem wk_slices_Contains (V : Vw) (Rs : List At) (p0 : List Int) (p1 : Int) (v1 : Value) (ow : Ow V (.os (RT.int .i64) v1 p0 :: Rs)) (r : Bool) (h : slices_Contains p0 p1 = some r) : ∃ v V', Cl Try.prog 0 25 #[v1, .int .i64 p1] V.H v V'.H ∧ V.le V' ∧ (v = .bool r ∧ Ow V' (.os (RT.int .i64) v1 p0 :: Rs)) := by
  refine Ct.of (Nat.zero_le _) Try.func25 rfl (Nat.le_of_ble_eq_true rfl) ?_
  unfold slices_Contains at h
  refine WP.usreg rfl ?_
  refine U.p rfl rfl (.inl rfl) (S.assign rfl K) ?_
  refine U.done (Nat.le_of_ble_eq_true rfl) ?_
  refine WP.usreg rfl ?_
  refine U.p rfl rfl (.inl rfl) (S.move rfl (L 1 rfl rfl)) ?_
  refine U.p rfl rfl (.inl rfl) (S.move rfl (L 3 rfl rfl)) ?_
  obtain ⟨x3, hx4, h5⟩ := bindS h
  refine O.call (V := V) rfl rfl (.inl rfl) rfl en34 (aC (L 1 rfl rfl) (aC (L 0 rfl rfl) aN)) (wk_slices_Index V _ p0 p1 v1 ow _ hx4) (fun _ _ _ _ => nd) (fun v6 V7 le8 hp9 => ?_)
  obtain ⟨rfl, ow10⟩ := hp9
  refine U.p rfl rfl (.inl rfl) (S.geq rfl (L 0 rfl rfl) K) ?_
  refine U.p rfl rfl (.inl rfl) (S.assign rfl (L 0 rfl rfl)) ?_
  refine U.done (Nat.le_of_ble_eq_true rfl) ?_
  refine WP.ret ?_
  refine fin.slot (.inr rfl) rfl (L 0 rfl rfl) ⟨V7, rfl, le8, ?_⟩
  have e11 := Option.some.inj h5
  subst e11
  exact ⟨rfl, ow10⟩

set_option maxHeartbeats 4000000 in
set_option maxRecDepth 10000 in
theorem wk_flow_Next (V : Vw) (Rs : List At) (p0 : TFunc) (p1 : Int) (v1 : Value) (f2 : Fz RT_TIns V v1 p0.code) (ow : Ow V (Rs)) (r : List Int) (h : flow_Next p0 p1 = some r) : ∃ v V', Cl Try.prog 0 13 #[.agg #[.string p0.name, .int .i64 p0.params, .int .i64 p0.regs, v1], .int .i64 p1] V.H v V'.H ∧ V.le V' ∧ (∃ (v3 : Value), v = v3 ∧ Ow V' (.os (RT.int .i64) v3 r :: Rs)) := by
  refine Ct.of (Nat.zero_le _) Try.func13 rfl (Nat.le_of_ble_eq_true rfl) ?_
  unfold flow_Next at h
  refine WP.usreg rfl ?_
  refine O.box ow rfl rfl (.inl rfl) rfl (L 0 rfl rfl) (by simp [topV]) rfl nd (fun b5 V6 le7 ow8 => ?_)
  refine U.p rfl rfl (.inl rfl) (S.assign rfl K) ?_
  refine U.done (Nat.le_of_ble_eq_true rfl) ?_
  refine WP.seq ?_
  refine WP.usreg rfl ?_
  refine U.p rfl rfl (.inl rfl) (S.move rfl (L 3 rfl rfl)) ?_
  refine U.p rfl rfl (.inl rfl) (S.lss rfl (L 0 rfl rfl) K) ?_
  refine U.p rfl rfl (.inl rfl) (S.move rfl (L 0 rfl rfl)) ?_
  refine U.joinX 9 (fun e H => ∃ (u10 u11 u12 u13 u14 : Value), H = V6.H ∧ e = [(16, .bool ((decide (p1 < 0)) || (decide ((p0.code.length : Int) ≤ p1)))), (15, u10), (14, u11), (13, u12), (12, u13), (11, u14)]) ?_ ?_
  · rintro _ _ ⟨u10, u11, u12, u13, u14, rfl, rfl⟩
    refine U.done (Nat.le_of_ble_eq_true rfl) ?_
    refine WP.cond _ (L 0 rfl rfl) rfl (fun c18 => ?_) (fun c18 => ?_)
    · have h19 := ifT c18 h
      refine WP.usreg rfl ?_
      refine U.p rfl rfl (.inl rfl) (S.assign rfl K) ?_
      refine U.done (Nat.le_of_ble_eq_true rfl) ?_
      refine WP.ret ?_
      refine sqR ?_
      have ow20 := ow8.nil (RT.int .i64)
      refine fin.slot (.inr rfl) rfl (L 0 rfl rfl) ⟨V6, rfl, le7, ?_⟩
      have ow22 := ow20.drop 1 rfl
      have e23 := Option.some.inj h19
      subst e23
      exact ⟨(.slice none 0 0), rfl, ow22⟩
    · have h24 := ifF c18 h
      refine WP.skip ?_
      refine sqN ?_
      refine WP.usreg rfl ?_
      refine U.p (v := .pointer (some ⟨b5, 3, none⟩)) rfl rfl (.inl rfl) (S.fieldAddr rfl (L 10 rfl rfl) Try.underlying24 rfl ti22 rfl rfl) ?_
      refine U.k rfl rfl (.inl rfl) (S.load rfl (L 0 rfl rfl) Try.underlying22 rfl ((ow8.own (k := 0) rfl).cell rfl)) nd ?_
      refine U.p rfl rfl (.inl rfl) (S.move rfl (L 14 rfl rfl)) ?_
      obtain ⟨x25, hx26, h27⟩ := bindS h24
      obtain ⟨b28, o29, c30, cs31, hv32, hf33, hr34, hc35⟩ := f2.at hx26
      obtain ⟨v36, rfl, f37⟩ := hr34
      refine U.p rfl rfl (.inl rfl) (S.index rfl ((L 1 rfl rfl).trans hv32) (L 0 rfl rfl) Try.underlying22 ti33 (ix_ge hx26) (ix_lt hx26)) ?_
      refine U.k rfl rfl (.inl rfl) (S.loadN (cs := [.int .i64 x25.op, .int .i64 x25.d, .int .i64 x25.a, .int .i64 x25.b, .int .i64 x25.imm, v36, .int .i64 x25.what, .bool x25.volatile, .bool x25.final]) rfl (L 0 rfl rfl) Try.underlying33 rfl ti33 rfl (fun j v hj => le7.cell hf33 (hc35 j v hj))) nd ?_
      refine O.alloc ow8 rfl rfl (.inl rfl) rfl ti33 rfl rfl nd (fun b38 V39 le40 ow41 => ?_)
      refine O.store (k := 0) (cs := [.int .i64 x25.op, .int .i64 x25.d, .int .i64 x25.a, .int .i64 x25.b, .int .i64 x25.imm, v36, .int .i64 x25.what, .bool x25.volatile, .bool x25.final]) (c' := [.int .i64 x25.op, .int .i64 x25.d, .int .i64 x25.a, .int .i64 x25.b, .int .i64 x25.imm, v36, .int .i64 x25.what, .bool x25.volatile, .bool x25.final]) ow41 rfl rfl rfl (.inl rfl) rfl (L 0 rfl rfl) (L 1 rfl rfl) ti33 (by simp [topV]) rfl rfl (Nat.le_of_ble_eq_true rfl) (by have q0 := f37.one; simp only [List.all_cons, List.all_nil, q0]; rfl) rfl nd (fun V43 le44 ow45 => ?_)
      refine U.done (Nat.le_of_ble_eq_true rfl) ?_
      refine WP.usreg rfl ?_
      refine U.p rfl rfl (.inl rfl) (S.assign rfl K) ?_
      refine U.done (Nat.le_of_ble_eq_true rfl) ?_
      refine WP.seqI (fun l V' => ∃ (v47 : Value) (xs48 : List Int), l = [(2, .pointer (some ⟨b5, 0, none⟩)), (5, .pointer (some ⟨b38, 0, none⟩)), (6, v47)] ∧ V43.le V' ∧ Ow V' (.pt b5 (.cells 0 [.string p0.name, .int .i64 p0.params, .int .i64 p0.regs, v1]) :: .pt b38 (.cells 9 [.int .i64 x25.op, .int .i64 x25.d, .int .i64 x25.a, .int .i64 x25.b, .int .i64 x25.imm, v36, .int .i64 x25.what, .bool x25.volatile, .bool x25.final]) :: .os (RT.int .i64) v47 xs48 :: Rs) ∧ flow_Next_k1 p0 x25 xs48 = some r) ?_ ?_
      · rintro _ V49 ⟨v47, xs48, rfl, le50, ow51, h52⟩
        unfold flow_Next_k1 at h52
        refine WP.seqI (fun l V' => ∃ (v54 : Value) (xs55 : List Int), l = [(6, v54)] ∧ V49.le V' ∧ Ow V' (.os (RT.int .i64) v54 xs55 :: Rs) ∧ flow_Next_k2 xs55 = some r) ?_ ?_
        · rintro _ V56 ⟨v54, xs55, rfl, le57, ow58, h59⟩
          unfold flow_Next_k2 at h59
          refine WP.usreg rfl ?_
          refine U.p rfl rfl (.inl rfl) (S.move rfl (L 0 rfl rfl)) ?_
          refine U.p rfl rfl (.inl rfl) (S.assign rfl (L 0 rfl rfl)) ?_
          refine U.done (Nat.le_of_ble_eq_true rfl) ?_
          refine WP.ret ?_
          refine fin.slot (.inr rfl) rfl (L 0 rfl rfl) ⟨V56, rfl, ((((le7.trans le40).trans le44).trans le50).trans le57), ?_⟩
          have e60 := Option.some.inj h59
          subst e60
          exact ⟨v54, rfl, ow58⟩
        · skip
          refine WP.usreg rfl ?_
          refine U.p (v := .pointer (some ⟨b38, 0, none⟩)) rfl rfl (.inl rfl) (S.fieldAddr rfl (L 1 rfl rfl) Try.underlying33 rfl ti3 rfl rfl) ?_
          refine U.k rfl rfl (.inl rfl) (S.load rfl (L 0 rfl rfl) Try.underlying3 rfl ((ow51.own (k := 1) rfl).cell rfl)) nd ?_
          refine U.p rfl rfl (.inl rfl) (S.eqlI rfl (L 0 rfl rfl) K) ?_
          refine U.p rfl rfl (.inl rfl) (S.move rfl (L 0 rfl rfl)) ?_
          refine U.joinX 8 (fun e H => ∃ (u61 u62 u63 : Value), H = V49.H ∧ e = [(55, .bool ((decide (x25.op = 12)) || (decide (x25.op = 13)))), (54, u61), (53, u62), (52, u63)]) ?_ ?_
          · rintro _ _ ⟨u61, u62, u63, rfl, rfl⟩
            refine U.p rfl rfl (.inl rfl) (S.move rfl (L 0 rfl rfl)) ?_
            refine U.joinX 13 (fun e H => ∃ (u67 u68 u69 : Value), H = V49.H ∧ e = [(60, .bool (((decide (x25.op = 12)) || (decide (x25.op = 13))) || (decide (x25.op = 17)))), (59, u67), (58, u68), (57, u69)]) ?_ ?_
            · rintro _ _ ⟨u67, u68, u69, rfl, rfl⟩
              refine U.done (Nat.le_of_ble_eq_true rfl) ?_
              refine WP.cond _ (L 0 rfl rfl) rfl (fun c73 => ?_) (fun c73 => ?_)
              · have h74 := ifT c73 h52
                refine WP.usreg rfl ?_
                refine U.k rfl rfl (.inl rfl) (S.loadB rfl (L 13 rfl rfl) Try.underlying24 rfl ti24 (ow51.own (k := 0) rfl).get rfl) nd ?_
                refine U.p (v := .pointer (some ⟨b38, 4, none⟩)) rfl rfl (.inl rfl) (S.fieldAddr rfl (L 15 rfl rfl) Try.underlying33 rfl ti3 rfl rfl) ?_
                refine U.k rfl rfl (.inl rfl) (S.load rfl (L 0 rfl rfl) Try.underlying3 rfl ((ow51.own (k := 1) rfl).cell rfl)) nd ?_
                have f75 := f2.up (((le7.trans le40).trans le44).trans le50)
                obtain ⟨x76, hx77, h78⟩ := bindS h74
                refine O.call (V := V49) rfl rfl (.inl rfl) rfl en24 (aC (L 2 rfl rfl) (aC (L 0 rfl rfl) aN)) (wk_flow_place V49 _ p0 x25.imm v1 f75 ow51 _ hx77) (fun _ _ _ _ => nd) (fun v79 V80 le81 hp82 => ?_)
                obtain ⟨rfl, ow83⟩ := hp82
                refine U.p rfl rfl (.inl rfl) (S.assign rfl (L 0 rfl rfl)) ?_
                refine U.done (Nat.le_of_ble_eq_true rfl) ?_
                refine WP.usreg rfl ?_
                refine U.p rfl rfl (.inl rfl) (S.move rfl (L 0 rfl rfl)) ?_
                refine U.p rfl rfl (.inl rfl) (S.geq rfl (L 0 rfl rfl) K) ?_
                refine U.p rfl rfl (.inl rfl) (S.move rfl (L 0 rfl rfl)) ?_
                obtain ⟨y84, hy85, h86⟩ := bindS h78
                refine U.joinX 8 (fun e H => ∃ (u87 u88 u89 u90 : Value), ∃ V' : Vw, H = V'.H ∧ V80.le V' ∧ e = [(72, .bool y84), (71, u87), (70, u88), (69, u89), (68, u90)] ∧ Ow V' (.pt b5 (.cells 0 [.string p0.name, .int .i64 p0.params, .int .i64 p0.regs, v1]) :: .pt b38 (.cells 9 [.int .i64 x25.op, .int .i64 x25.d, .int .i64 x25.a, .int .i64 x25.b, .int .i64 x25.imm, v36, .int .i64 x25.what, .bool x25.volatile, .bool x25.final]) :: .os (RT.int .i64) v47 xs48 :: Rs)) ?_ ?_
                · rintro _ _ ⟨u87, u88, u89, u90, V91, rfl, le92, rfl, ow93⟩
                  refine U.done (Nat.le_of_ble_eq_true rfl) ?_
                  refine WP.cond _ (L 0 rfl rfl) rfl (fun c94 => ?_) (fun c94 => ?_)
                  · have h95 := ifT c94 h86
                    refine WP.ureg rfl ?_
                    refine U.p rfl rfl (.inl rfl) (S.move rfl (L 28 rfl rfl)) ?_
                    refine U.p rfl rfl (.inl rfl) (S.move rfl (L 9 rfl rfl)) ?_
                    refine O.lit (R := (RT.int .i64)) ow93 rfl rfl (.inl rfl) rfl Try.underlying31 ti3 rfl rfl rfl (Nat.le_of_ble_eq_true rfl) rfl (aC (L 0 rfl rfl) aN) (.cons _ _ x76 _ (by simp [topV]) rfl .nil) (fun _ => nd) (fun v96 V97 le98 ow99 => ?_)
                    obtain ⟨xs101, hx102, h103⟩ := bindS h95
                    refine O.append (k := 3) ow99 rfl rfl rfl (.inl rfl) rfl (L 2 rfl rfl) (L 0 rfl rfl) Try.underlying31 ti3 rfl rfl (Nat.le_of_ble_eq_true rfl) (ow99.src (k := 0) rfl Try.underlying31) hx102 (fun _ _ => nd) (fun v104 V105 le106 ow107 => ?_)
                    refine U.p rfl rfl (.inl rfl) (S.assign rfl (L 0 rfl rfl)) ?_
                    refine U.done (Nat.le_of_ble_eq_true rfl) ?_
                    refine sqN ?_
                    have ow109 := ow107.drop 0 rfl
                    have ow110 := ow109.drop 0 rfl
                    have ow111 := ow110.drop 0 rfl
                    exact ⟨_, V105, rfl, ⟨v104, xs101, rfl, (((le81.trans le92).trans le98).trans le106), ow111, h103⟩, (allCons (L 0 rfl rfl) allNil)⟩
                  · have h112 := ifF c94 h86
                    refine WP.skip ?_
                    refine sqN ?_
                    have ow113 := ow93.drop 0 rfl
                    have ow114 := ow113.drop 0 rfl
                    exact ⟨_, V91, rfl, ⟨v47, xs48, rfl, (le81.trans le92), ow114, h112⟩, (allCons (L 28 rfl rfl) allNil)⟩
                · intro kk
                  refine bcase (b := decide (0 ≤ x76)) (fun g115 => ?_) (fun g115 => ?_)
                  · have h116 := ifT g115 hy85
                    refine U.p rfl rfl (.inr ⟨_, _, _, rfl, rfl, ((L 0 rfl rfl).trans (congrArg Value.bool g115))⟩) (S.move rfl (L 23 rfl rfl)) ?_
                    refine U.p rfl rfl (.inr ⟨_, _, _, rfl, rfl, ((L 1 rfl rfl).trans (congrArg Value.bool g115))⟩) (S.move rfl (L 4 rfl rfl)) ?_
                    have ow117 := ow83.pick 2 rfl
                    obtain ⟨x118, hx119, h120⟩ := bindS h116
                    refine O.call (V := V80) rfl rfl (.inr ⟨_, _, _, rfl, rfl, ((L 2 rfl rfl).trans (congrArg Value.bool g115))⟩) rfl en25 (aC (L 1 rfl rfl) (aC (L 0 rfl rfl) aN)) (wk_slices_Contains V80 _ xs48 x76 v47 ow117 _ hx119) (fun _ _ _ _ => nd) (fun v121 V122 le123 hp124 => ?_)
                    obtain ⟨rfl, ow125⟩ := hp124
                    refine U.p rfl rfl (.inr ⟨_, _, _, rfl, rfl, ((L 3 rfl rfl).trans (congrArg Value.bool g115))⟩) (S.not rfl (L 0 rfl rfl)) ?_
                    refine U.p rfl rfl (.inl rfl) (S.pickT rfl ((L 4 rfl rfl).trans (congrArg Value.bool g115)) (L 0 rfl rfl)) ?_
                    have e126 := Option.some.inj h120
                    subst e126
                    have ow127 := ow125.pick 0 rfl
                    have ow128 := ow127.pick 2 rfl
                    have ow129 := ow128.pick 2 rfl
                    exact kk [(72, .bool (!x118)), (71, .bool (!x118)), (70, .bool x118), (69, .int .i64 x76), (68, v47)] _ ⟨.bool (!x118), .bool x118, .int .i64 x76, v47, V122, rfl, le123, rfl, ow129⟩
                  · have h130 := ifF g115 hy85
                    refine U.x rfl rfl rfl rfl ((L 0 rfl rfl).trans (congrArg Value.bool g115)) (by decide) ?_
                    refine U.x rfl rfl rfl rfl ((L 1 rfl rfl).trans (congrArg Value.bool g115)) (by decide) ?_
                    refine U.x rfl rfl rfl rfl ((L 2 rfl rfl).trans (congrArg Value.bool g115)) (by decide) ?_
                    refine U.x rfl rfl rfl rfl ((L 3 rfl rfl).trans (congrArg Value.bool g115)) (by decide) ?_
                    refine U.p rfl rfl (.inl rfl) (S.pickF rfl ((L 4 rfl rfl).trans (congrArg Value.bool g115)) K) ?_
                    have e131 := Option.some.inj h130
                    subst e131
                    exact kk [(72, .bool false), (71, .tuple #[]), (70, .tuple #[]), (69, .tuple #[]), (68, .tuple #[])] _ ⟨.tuple #[], .tuple #[], .tuple #[], .tuple #[], V80, rfl, (.refl _), rfl, ow83⟩
              · have h132 := ifF c73 h52
                refine WP.skip ?_
                refine sqN ?_
                have ow133 := ow51.drop 0 rfl
                have ow134 := ow133.drop 0 rfl
                exact ⟨_, V49, rfl, ⟨v47, xs48, rfl, (.refl _), ow134, h132⟩, (allCons (L 15 rfl rfl) allNil)⟩
            · intro kk
              refine bcase (b := (decide (x25.op = 12)) || (decide (x25.op = 13))) (fun g135 => ?_) (fun g135 => ?_)
              · skip
                refine U.x rfl rfl rfl rfl ((L 0 rfl rfl).trans (congrArg Value.bool g135)) (by decide) ?_
                refine U.x rfl rfl rfl rfl ((L 1 rfl rfl).trans (congrArg Value.bool g135)) (by decide) ?_
                refine U.x rfl rfl rfl rfl ((L 2 rfl rfl).trans (congrArg Value.bool g135)) (by decide) ?_
                refine U.p rfl rfl (.inl rfl) (S.pickT rfl ((L 3 rfl rfl).trans (congrArg Value.bool g135)) K) ?_
                exact kk [(60, .bool true), (59, .tuple #[]), (58, .tuple #[]), (57, .tuple #[])] _ ⟨.tuple #[], .tuple #[], .tuple #[], rfl, (by rw [g135, Bool.true_or])⟩
              · skip
                refine U.p (v := .pointer (some ⟨b38, 0, none⟩)) rfl rfl (.inr ⟨_, _, _, rfl, rfl, ((L 0 rfl rfl).trans (congrArg Value.bool g135))⟩) (S.fieldAddr rfl (L 10 rfl rfl) Try.underlying33 rfl ti3 rfl rfl) ?_
                refine U.k rfl rfl (.inr ⟨_, _, _, rfl, rfl, ((L 1 rfl rfl).trans (congrArg Value.bool g135))⟩) (S.load rfl (L 0 rfl rfl) Try.underlying3 rfl ((ow51.own (k := 1) rfl).cell rfl)) nd ?_
                refine U.p rfl rfl (.inr ⟨_, _, _, rfl, rfl, ((L 2 rfl rfl).trans (congrArg Value.bool g135))⟩) (S.eqlI rfl (L 0 rfl rfl) K) ?_
                refine U.p rfl rfl (.inl rfl) (S.pickF rfl ((L 3 rfl rfl).trans (congrArg Value.bool g135)) (L 0 rfl rfl)) ?_
                exact kk [(60, .bool (decide (x25.op = 17))), (59, .bool (decide (x25.op = 17))), (58, .int .i64 x25.op), (57, .pointer (some ⟨b38, 0, none⟩))] _ ⟨.bool (decide (x25.op = 17)), .int .i64 x25.op, .pointer (some ⟨b38, 0, none⟩), rfl, (by rw [g135, Bool.false_or])⟩
          · intro kk
            refine bcase (b := decide (x25.op = 12)) (fun g136 => ?_) (fun g136 => ?_)
            · skip
              refine U.x rfl rfl rfl rfl ((L 0 rfl rfl).trans (congrArg Value.bool g136)) (by decide) ?_
              refine U.x rfl rfl rfl rfl ((L 1 rfl rfl).trans (congrArg Value.bool g136)) (by decide) ?_
              refine U.x rfl rfl rfl rfl ((L 2 rfl rfl).trans (congrArg Value.bool g136)) (by decide) ?_
              refine U.p rfl rfl (.inl rfl) (S.pickT rfl ((L 3 rfl rfl).trans (congrArg Value.bool g136)) K) ?_
              exact kk [(55, .bool true), (54, .tuple #[]), (53, .tuple #[]), (52, .tuple #[])] _ ⟨.tuple #[], .tuple #[], .tuple #[], rfl, (by rw [g136, Bool.true_or])⟩
            · skip
              refine U.p (v := .pointer (some ⟨b38, 0, none⟩)) rfl rfl (.inr ⟨_, _, _, rfl, rfl, ((L 0 rfl rfl).trans (congrArg Value.bool g136))⟩) (S.fieldAddr rfl (L 5 rfl rfl) Try.underlying33 rfl ti3 rfl rfl) ?_
              refine U.k rfl rfl (.inr ⟨_, _, _, rfl, rfl, ((L 1 rfl rfl).trans (congrArg Value.bool g136))⟩) (S.load rfl (L 0 rfl rfl) Try.underlying3 rfl ((ow51.own (k := 1) rfl).cell rfl)) nd ?_
              refine U.p rfl rfl (.inr ⟨_, _, _, rfl, rfl, ((L 2 rfl rfl).trans (congrArg Value.bool g136))⟩) (S.eqlI rfl (L 0 rfl rfl) K) ?_
              refine U.p rfl rfl (.inl rfl) (S.pickF rfl ((L 3 rfl rfl).trans (congrArg Value.bool g136)) (L 0 rfl rfl)) ?_
              exact kk [(55, .bool (decide (x25.op = 13))), (54, .bool (decide (x25.op = 13))), (53, .int .i64 x25.op), (52, .pointer (some ⟨b38, 0, none⟩))] _ ⟨.bool (decide (x25.op = 13)), .int .i64 x25.op, .pointer (some ⟨b38, 0, none⟩), rfl, (by rw [g136, Bool.false_or])⟩
      · skip
        refine WP.usreg rfl ?_
        refine U.p (v := .pointer (some ⟨b38, 0, none⟩)) rfl rfl (.inl rfl) (S.fieldAddr rfl (L 1 rfl rfl) Try.underlying33 rfl ti3 rfl rfl) ?_
        refine U.k rfl rfl (.inl rfl) (S.load rfl (L 0 rfl rfl) Try.underlying3 rfl ((ow45.own (k := 0) rfl).cell rfl)) nd ?_
        refine U.p rfl rfl (.inl rfl) (S.neqI rfl (L 0 rfl rfl) K) ?_
        refine U.p rfl rfl (.inl rfl) (S.move rfl (L 0 rfl rfl)) ?_
        refine U.joinX 8 (fun e H => ∃ (u137 u138 u139 : Value), H = V43.H ∧ e = [(29, .bool ((decide (x25.op ≠ 12)) && (decide (x25.op ≠ 15)))), (28, u137), (27, u138), (26, u139)]) ?_ ?_
        · rintro _ _ ⟨u137, u138, u139, rfl, rfl⟩
          refine U.p rfl rfl (.inl rfl) (S.move rfl (L 0 rfl rfl)) ?_
          refine U.joinX 13 (fun e H => ∃ (u143 u144 u145 : Value), H = V43.H ∧ e = [(34, .bool (((decide (x25.op ≠ 12)) && (decide (x25.op ≠ 15))) && (decide (x25.op ≠ 16)))), (33, u143), (32, u144), (31, u145)]) ?_ ?_
          · rintro _ _ ⟨u143, u144, u145, rfl, rfl⟩
            refine U.p rfl rfl (.inl rfl) (S.move rfl (L 0 rfl rfl)) ?_
            refine U.joinX 21 (fun e H => ∃ (u149 u150 u151 u152 u153 u154 : Value), H = V43.H ∧ e = [(42, .bool ((((decide (x25.op ≠ 12)) && (decide (x25.op ≠ 15))) && (decide (x25.op ≠ 16))) && (decide ((w64 (p1 + 1)) < (p0.code.length : Int))))), (41, u149), (40, u150), (39, u151), (38, u152), (37, u153), (36, u154)]) ?_ ?_
            · rintro _ _ ⟨u149, u150, u151, u152, u153, u154, rfl, rfl⟩
              refine U.done (Nat.le_of_ble_eq_true rfl) ?_
              refine WP.cond _ (L 0 rfl rfl) rfl (fun c158 => ?_) (fun c158 => ?_)
              · have h159 := ifT c158 h27
                refine WP.ureg rfl ?_
                refine U.p rfl rfl (.inl rfl) (S.move rfl (L 21 rfl rfl)) ?_
                refine U.p rfl rfl (.inl rfl) (S.move rfl (L 41 rfl rfl)) ?_
                refine U.p rfl rfl (.inl rfl) (S.add rfl (L 0 rfl rfl) K) ?_
                refine O.lit (R := (RT.int .i64)) ow45 rfl rfl (.inl rfl) rfl Try.underlying31 ti3 rfl rfl rfl (Nat.le_of_ble_eq_true rfl) rfl (aC (L 0 rfl rfl) aN) (.cons _ _ (w64 (p1 + 1)) _ (by simp [topV]) rfl .nil) (fun _ => nd) (fun v160 V161 le162 ow163 => ?_)
                have ow165 := ow163.nil (RT.int .i64)
                obtain ⟨xs167, hx168, h169⟩ := bindS h159
                refine O.append (k := 0) ow165 rfl rfl rfl (.inl rfl) rfl (L 3 rfl rfl) (L 0 rfl rfl) Try.underlying31 ti3 rfl rfl (Nat.le_of_ble_eq_true rfl) (ow165.src (k := 1) rfl Try.underlying31) hx168 (fun _ _ => nd) (fun v170 V171 le172 ow173 => ?_)
                refine U.p rfl rfl (.inl rfl) (S.assign rfl (L 0 rfl rfl)) ?_
                refine U.done (Nat.le_of_ble_eq_true rfl) ?_
                refine sqN ?_
                have ow175 := ow173.drop 1 rfl
                have ow176 := ow175.pick 0 rfl
                have ow177 := ow176.pick 1 rfl
                have ow178 := ow177.pick 2 rfl
                exact ⟨_, V171, rfl, ⟨v170, xs167, rfl, (le162.trans le172), ow178, h169⟩, (allCons (L 44 rfl rfl) (allCons (L 28 rfl rfl) (allCons (L 0 rfl rfl) allNil)))⟩
              · have h179 := ifF c158 h27
                refine WP.skip ?_
                refine sqN ?_
                have ow180 := ow45.nil (RT.int .i64)
                have ow182 := ow180.pick 0 rfl
                have ow183 := ow182.pick 1 rfl
                have ow184 := ow183.pick 2 rfl
                exact ⟨_, V43, rfl, ⟨(.slice none 0 0), [], rfl, (.refl _), ow184, h179⟩, (allCons (L 38 rfl rfl) (allCons (L 22 rfl rfl) (allCons (L 21 rfl rfl) allNil)))⟩
            · intro kk
              refine bcase (b := ((decide (x25.op ≠ 12)) && (decide (x25.op ≠ 15))) && (decide (x25.op ≠ 16))) (fun g185 => ?_) (fun g185 => ?_)
              · skip
                refine U.p rfl rfl (.inr ⟨_, _, _, rfl, rfl, ((L 0 rfl rfl).trans (congrArg Value.bool g185))⟩) (S.move rfl (L 33 rfl rfl)) ?_
                refine U.p rfl rfl (.inr ⟨_, _, _, rfl, rfl, ((L 1 rfl rfl).trans (congrArg Value.bool g185))⟩) (S.add rfl (L 0 rfl rfl) K) ?_
                refine U.p (v := .pointer (some ⟨b5, 3, none⟩)) rfl rfl (.inr ⟨_, _, _, rfl, rfl, ((L 2 rfl rfl).trans (congrArg Value.bool g185))⟩) (S.fieldAddr rfl (L 33 rfl rfl) Try.underlying24 rfl ti22 rfl rfl) ?_
                refine U.k rfl rfl (.inr ⟨_, _, _, rfl, rfl, ((L 3 rfl rfl).trans (congrArg Value.bool g185))⟩) (S.load rfl (L 0 rfl rfl) Try.underlying22 rfl ((ow45.own (k := 1) rfl).cell rfl)) nd ?_
                refine U.p rfl rfl (.inr ⟨_, _, _, rfl, rfl, ((L 4 rfl rfl).trans (congrArg Value.bool g185))⟩) (f2.1.len rfl (L 0 rfl rfl) Try.underlying22) ?_
                refine U.p rfl rfl (.inr ⟨_, _, _, rfl, rfl, ((L 5 rfl rfl).trans (congrArg Value.bool g185))⟩) (S.lss rfl (L 3 rfl rfl) (L 0 rfl rfl)) ?_
                refine U.p rfl rfl (.inl rfl) (S.pickT rfl ((L 6 rfl rfl).trans (congrArg Value.bool g185)) (L 0 rfl rfl)) ?_
                exact kk [(42, .bool (decide ((w64 (p1 + 1)) < (p0.code.length : Int)))), (41, .bool (decide ((w64 (p1 + 1)) < (p0.code.length : Int)))), (40, .int .i64 (p0.code.length : Int)), (39, v1), (38, .pointer (some ⟨b5, 3, none⟩)), (37, .int .i64 (w64 (p1 + 1))), (36, .int .i64 p1)] _ ⟨.bool (decide ((w64 (p1 + 1)) < (p0.code.length : Int))), .int .i64 (p0.code.length : Int), v1, .pointer (some ⟨b5, 3, none⟩), .int .i64 (w64 (p1 + 1)), .int .i64 p1, rfl, (by rw [g185, Bool.true_and])⟩
              · skip
                refine U.x rfl rfl rfl rfl ((L 0 rfl rfl).trans (congrArg Value.bool g185)) (by decide) ?_
                refine U.x rfl rfl rfl rfl ((L 1 rfl rfl).trans (congrArg Value.bool g185)) (by decide) ?_
                refine U.x rfl rfl rfl rfl ((L 2 rfl rfl).trans (congrArg Value.bool g185)) (by decide) ?_
                refine U.x rfl rfl rfl rfl ((L 3 rfl rfl).trans (congrArg Value.bool g185)) (by decide) ?_
                refine U.x rfl rfl rfl rfl ((L 4 rfl rfl).trans (congrArg Value.bool g185)) (by decide) ?_
                refine U.x rfl rfl rfl rfl ((L 5 rfl rfl).trans (congrArg Value.bool g185)) (by decide) ?_
                refine U.p rfl rfl (.inl rfl) (S.pickF rfl ((L 6 rfl rfl).trans (congrArg Value.bool g185)) K) ?_
                exact kk [(42, .bool false), (41, .tuple #[]), (40, .tuple #[]), (39, .tuple #[]), (38, .tuple #[]), (37, .tuple #[]), (36, .tuple #[])] _ ⟨.tuple #[], .tuple #[], .tuple #[], .tuple #[], .tuple #[], .tuple #[], rfl, (by rw [g185, Bool.false_and])⟩
          · intro kk
            refine bcase (b := (decide (x25.op ≠ 12)) && (decide (x25.op ≠ 15))) (fun g186 => ?_) (fun g186 => ?_)
            · skip
              refine U.p (v := .pointer (some ⟨b38, 0, none⟩)) rfl rfl (.inr ⟨_, _, _, rfl, rfl, ((L 0 rfl rfl).trans (congrArg Value.bool g186))⟩) (S.fieldAddr rfl (L 10 rfl rfl) Try.underlying33 rfl ti3 rfl rfl) ?_
              refine U.k rfl rfl (.inr ⟨_, _, _, rfl, rfl, ((L 1 rfl rfl).trans (congrArg Value.bool g186))⟩) (S.load rfl (L 0 rfl rfl) Try.underlying3 rfl ((ow45.own (k := 0) rfl).cell rfl)) nd ?_
              refine U.p rfl rfl (.inr ⟨_, _, _, rfl, rfl, ((L 2 rfl rfl).trans (congrArg Value.bool g186))⟩) (S.neqI rfl (L 0 rfl rfl) K) ?_
              refine U.p rfl rfl (.inl rfl) (S.pickT rfl ((L 3 rfl rfl).trans (congrArg Value.bool g186)) (L 0 rfl rfl)) ?_
              exact kk [(34, .bool (decide (x25.op ≠ 16))), (33, .bool (decide (x25.op ≠ 16))), (32, .int .i64 x25.op), (31, .pointer (some ⟨b38, 0, none⟩))] _ ⟨.bool (decide (x25.op ≠ 16)), .int .i64 x25.op, .pointer (some ⟨b38, 0, none⟩), rfl, (by rw [g186, Bool.true_and])⟩
            · skip
              refine U.x rfl rfl rfl rfl ((L 0 rfl rfl).trans (congrArg Value.bool g186)) (by decide) ?_
              refine U.x rfl rfl rfl rfl ((L 1 rfl rfl).trans (congrArg Value.bool g186)) (by decide) ?_
              refine U.x rfl rfl rfl rfl ((L 2 rfl rfl).trans (congrArg Value.bool g186)) (by decide) ?_
              refine U.p rfl rfl (.inl rfl) (S.pickF rfl ((L 3 rfl rfl).trans (congrArg Value.bool g186)) K) ?_
              exact kk [(34, .bool false), (33, .tuple #[]), (32, .tuple #[]), (31, .tuple #[])] _ ⟨.tuple #[], .tuple #[], .tuple #[], rfl, (by rw [g186, Bool.false_and])⟩
        · intro kk
          refine bcase (b := decide (x25.op ≠ 12)) (fun g187 => ?_) (fun g187 => ?_)
          · skip
            refine U.p (v := .pointer (some ⟨b38, 0, none⟩)) rfl rfl (.inr ⟨_, _, _, rfl, rfl, ((L 0 rfl rfl).trans (congrArg Value.bool g187))⟩) (S.fieldAddr rfl (L 5 rfl rfl) Try.underlying33 rfl ti3 rfl rfl) ?_
            refine U.k rfl rfl (.inr ⟨_, _, _, rfl, rfl, ((L 1 rfl rfl).trans (congrArg Value.bool g187))⟩) (S.load rfl (L 0 rfl rfl) Try.underlying3 rfl ((ow45.own (k := 0) rfl).cell rfl)) nd ?_
            refine U.p rfl rfl (.inr ⟨_, _, _, rfl, rfl, ((L 2 rfl rfl).trans (congrArg Value.bool g187))⟩) (S.neqI rfl (L 0 rfl rfl) K) ?_
            refine U.p rfl rfl (.inl rfl) (S.pickT rfl ((L 3 rfl rfl).trans (congrArg Value.bool g187)) (L 0 rfl rfl)) ?_
            exact kk [(29, .bool (decide (x25.op ≠ 15))), (28, .bool (decide (x25.op ≠ 15))), (27, .int .i64 x25.op), (26, .pointer (some ⟨b38, 0, none⟩))] _ ⟨.bool (decide (x25.op ≠ 15)), .int .i64 x25.op, .pointer (some ⟨b38, 0, none⟩), rfl, (by rw [g187, Bool.true_and])⟩
          · skip
            refine U.x rfl rfl rfl rfl ((L 0 rfl rfl).trans (congrArg Value.bool g187)) (by decide) ?_
            refine U.x rfl rfl rfl rfl ((L 1 rfl rfl).trans (congrArg Value.bool g187)) (by decide) ?_
            refine U.x rfl rfl rfl rfl ((L 2 rfl rfl).trans (congrArg Value.bool g187)) (by decide) ?_
            refine U.p rfl rfl (.inl rfl) (S.pickF rfl ((L 3 rfl rfl).trans (congrArg Value.bool g187)) K) ?_
            exact kk [(29, .bool false), (28, .tuple #[]), (27, .tuple #[]), (26, .tuple #[])] _ ⟨.tuple #[], .tuple #[], .tuple #[], rfl, (by rw [g187, Bool.false_and])⟩
  · intro kk
    refine bcase (b := decide (p1 < 0)) (fun g188 => ?_) (fun g188 => ?_)
    · skip
      refine U.x rfl rfl rfl rfl ((L 0 rfl rfl).trans (congrArg Value.bool g188)) (by decide) ?_
      refine U.x rfl rfl rfl rfl ((L 1 rfl rfl).trans (congrArg Value.bool g188)) (by decide) ?_
      refine U.x rfl rfl rfl rfl ((L 2 rfl rfl).trans (congrArg Value.bool g188)) (by decide) ?_
      refine U.x rfl rfl rfl rfl ((L 3 rfl rfl).trans (congrArg Value.bool g188)) (by decide) ?_
      refine U.x rfl rfl rfl rfl ((L 4 rfl rfl).trans (congrArg Value.bool g188)) (by decide) ?_
      refine U.p rfl rfl (.inl rfl) (S.pickT rfl ((L 5 rfl rfl).trans (congrArg Value.bool g188)) K) ?_
      exact kk [(16, .bool true), (15, .tuple #[]), (14, .tuple #[]), (13, .tuple #[]), (12, .tuple #[]), (11, .tuple #[])] _ ⟨.tuple #[], .tuple #[], .tuple #[], .tuple #[], .tuple #[], rfl, (by rw [g188, Bool.true_or])⟩
    · skip
      refine U.p rfl rfl (.inr ⟨_, _, _, rfl, rfl, ((L 0 rfl rfl).trans (congrArg Value.bool g188))⟩) (S.move rfl (L 6 rfl rfl)) ?_
      refine U.p (v := .pointer (some ⟨b5, 3, none⟩)) rfl rfl (.inr ⟨_, _, _, rfl, rfl, ((L 1 rfl rfl).trans (congrArg Value.bool g188))⟩) (S.fieldAddr rfl (L 5 rfl rfl) Try.underlying24 rfl ti22 rfl rfl) ?_
      refine U.k rfl rfl (.inr ⟨_, _, _, rfl, rfl, ((L 2 rfl rfl).trans (congrArg Value.bool g188))⟩) (S.load rfl (L 0 rfl rfl) Try.underlying22 rfl ((ow8.own (k := 0) rfl).cell rfl)) nd ?_
      refine U.p rfl rfl (.inr ⟨_, _, _, rfl, rfl, ((L 3 rfl rfl).trans (congrArg Value.bool g188))⟩) (f2.1.len rfl (L 0 rfl rfl) Try.underlying22) ?_
      refine U.p rfl rfl (.inr ⟨_, _, _, rfl, rfl, ((L 4 rfl rfl).trans (congrArg Value.bool g188))⟩) (S.geq rfl (L 3 rfl rfl) (L 0 rfl rfl)) ?_
      refine U.p rfl rfl (.inl rfl) (S.pickF rfl ((L 5 rfl rfl).trans (congrArg Value.bool g188)) (L 0 rfl rfl)) ?_
      exact kk [(16, .bool (decide ((p0.code.length : Int) ≤ p1))), (15, .bool (decide ((p0.code.length : Int) ≤ p1))), (14, .int .i64 (p0.code.length : Int)), (13, v1), (12, .pointer (some ⟨b5, 3, none⟩)), (11, .int .i64 p1)] _ ⟨.bool (decide ((p0.code.length : Int) ≤ p1)), .int .i64 (p0.code.length : Int), v1, .pointer (some ⟨b5, 3, none⟩), .int .i64 p1, rfl, (by rw [g188, Bool.false_or])⟩

set_option maxHeartbeats 4000000 in
set_option maxRecDepth 10000 in
theorem wk_flow_set_merge (V : Vw) (Rs : List At) (p0 : List Bool) (p1 : List Bool) (v1 : Value) (v3 : Value) (ow : Ow V (.os RT.bool v1 p0 :: .os RT.bool v3 p1 :: Rs)) (r : Bool × (List Bool)) (h : flow_set_merge p0 p1 = some r) : ∃ v V', Cl Try.prog 0 21 #[v1, v3] V.H v V'.H ∧ V.le V' ∧ (v = .bool r.1 ∧ Ow V' (.os RT.bool v1 r.2 :: .os RT.bool v3 p1 :: Rs)) := by
  refine Ct.of (Nat.zero_le _) Try.func21 rfl (Nat.le_of_ble_eq_true rfl) ?_
  unfold flow_set_merge at h
  refine WP.usreg rfl ?_
  refine U.p rfl rfl (.inl rfl) (S.assign rfl K) ?_
  refine U.done (Nat.le_of_ble_eq_true rfl) ?_
  refine WP.usreg rfl ?_
  refine U.p rfl rfl (.inl rfl) (S.assign rfl K) ?_
  refine U.done (Nat.le_of_ble_eq_true rfl) ?_
  refine WP.seq ?_
  refine WP.usreg rfl ?_
  refine U.p rfl rfl (.inl rfl) (S.move rfl (L 3 rfl rfl)) ?_
  refine U.p rfl rfl (.inl rfl) (ow.oslen (k := 1) rfl rfl (L 0 rfl rfl) Try.underlying47) ?_
  refine U.p rfl rfl (.inl rfl) (S.move rfl K) ?_
  refine U.done (Nat.le_of_ble_eq_true rfl) ?_
  refine WP.blk ?_
  unfold flow_set_merge_l1 at h
  obtain ⟨n9, hn8⟩ := loopO_some.1 h
  refine WP.loopI2 (fun n l V' => ∃ (xs5 : List Bool) (x6 : Bool) (x7 : Int), l = [(0, v1), (5, .bool x6), (8, v3), (9, .int .i64 (p1.length : Int)), (10, .int .i64 x7)] ∧ V.le V' ∧ Ow V' (.os RT.bool v1 xs5 :: .os RT.bool v3 p1 :: Rs) ∧ itO (fun s => flow_set_merge_l1b p1 s.1 s.2.1 s.2.2) n (xs5, x6, x7) = some r) n9 _ ⟨p0, false, 0, rfl, .refl _, ow, hn8⟩ (allCons (L 5 rfl rfl) (allCons (L 3 rfl rfl) (allCons (L 2 rfl rfl) (allCons (L 1 rfl rfl) (allCons (L 0 rfl rfl) allNil))))) ?_
  rintro _ _ V10 ⟨xs5, x6, x7, rfl, le11, ow12, h16⟩
  obtain ⟨m13, q14, rfl, h17, e15⟩ := itS h16
  replace h17 : flow_set_merge_l1b p1 xs5 x6 x7 = some q14 := h17
  unfold flow_set_merge_l1b at h17
  refine WP.usreg rfl ?_
  refine U.p rfl rfl (.inl rfl) (S.lss rfl (L 4 rfl rfl) (L 3 rfl rfl)) ?_
  refine U.done (Nat.le_of_ble_eq_true rfl) ?_
  refine WP.seq ?_
  refine WP.cond _ (L 0 rfl rfl) rfl (fun c18 => ?_) (fun c18 => ?_)
  · have h19 := ifT c18 h17
    refine WP.skip ?_
    refine sqN ?_
    refine WP.seq ?_
    refine WP.blk ?_
    refine WP.usreg rfl ?_
    refine U.p rfl rfl (.inl rfl) (S.move rfl (L 5 rfl rfl)) ?_
    obtain ⟨x20, hx21, h22⟩ := bindS h19
    obtain ⟨b23, o24, n25, c26, hv27⟩ := ow12.ospt (k := 1) rfl hx21
    obtain ⟨_, hv28, _⟩ := ow12.osel (k := 1) rfl hv27 hx21
    refine U.p rfl rfl (.inl rfl) (S.index rfl ((L 4 rfl rfl).trans hv28) (L 6 rfl rfl) Try.underlying47 ti4 (ix_ge hx21) (ix_lt hx21)) ?_
    obtain ⟨cs29, hv30, hlt31, hr32, hc33⟩ := ow12.osel (k := 1) rfl hv27 hx21
    obtain rfl : cs29 = [.bool x20] := hr32
    refine U.k rfl rfl (.inl rfl) (S.load rfl (L 0 rfl rfl) Try.underlying4 rfl (hc33 0 _ rfl)) nd ?_
    refine U.p rfl rfl (.inl rfl) (S.assign rfl (L 2 rfl rfl)) ?_
    refine U.p rfl rfl (.inl rfl) (S.assign rfl (L 1 rfl rfl)) ?_
    refine U.done (Nat.le_of_ble_eq_true rfl) ?_
    refine WP.usreg rfl ?_
    refine U.p rfl rfl (.inl rfl) (S.move rfl (L 7 rfl rfl)) ?_
    refine U.p rfl rfl (.inl rfl) (S.move rfl (L 0 rfl rfl)) ?_
    obtain ⟨y34, hy35, h36⟩ := bindS h22
    refine U.joinX 11 (fun e H => ∃ (u37 u38 u39 u40 u41 u42 u43 u44 : Value), H = V10.H ∧ e = [(25, .bool y34), (24, u37), (23, u38), (22, u39), (21, u40), (20, u41), (19, u42), (18, u43), (17, u44)]) ?_ ?_
    · rintro _ _ ⟨u37, u38, u39, u40, u41, u42, u43, u44, rfl, rfl⟩
      refine U.p rfl rfl (.inl rfl) (S.assign rfl (L 0 rfl rfl)) ?_
      refine U.done (Nat.le_of_ble_eq_true rfl) ?_
      refine WP.ureg rfl ?_
      refine U.p rfl rfl (.inl rfl) (S.move rfl (L 18 rfl rfl)) ?_
      refine U.p rfl rfl (.inl rfl) (S.move rfl (L 14 rfl rfl)) ?_
      refine U.p rfl rfl (.inl rfl) (S.move rfl (L 20 rfl rfl)) ?_
      refine U.p rfl rfl (.inl rfl) (S.move rfl (L 16 rfl rfl)) ?_
      obtain ⟨x48, hx49, h50⟩ := bindS h36
      obtain ⟨b51, o52, n53, c54, hv55⟩ := ow12.ospt (k := 0) rfl hx49
      obtain ⟨_, hv56, _⟩ := ow12.osel (k := 0) rfl hv55 hx49
      refine U.p rfl rfl (.inl rfl) (S.index rfl ((L 1 rfl rfl).trans hv56) (L 0 rfl rfl) Try.underlying47 ti4 (ix_ge hx49) (ix_lt hx49)) ?_
      obtain ⟨cs57, hv58, hlt59, hr60, hc61⟩ := ow12.osel (k := 0) rfl hv55 hx49
      obtain rfl : cs57 = [.bool x48] := hr60
      refine U.k rfl rfl (.inl rfl) (S.load rfl (L 0 rfl rfl) Try.underlying4 rfl (hc61 0 _ rfl)) nd ?_
      refine U.p rfl rfl (.inl rfl) (S.move rfl (L 0 rfl rfl)) ?_
      refine U.joinX 9 (fun e H => ∃ (u62 : Value), H = V10.H ∧ e = [(34, .bool (x48 || x20)), (33, u62)]) ?_ ?_
      · rintro _ _ ⟨u62, rfl, rfl⟩
        obtain ⟨x66, hx67, h68⟩ := bindS h50
        obtain ⟨_, hv69, _⟩ := ow12.osel (k := 0) rfl hv55 hx67
        refine U.p rfl rfl (.inl rfl) (S.index rfl ((L 8 rfl rfl).trans hv69) (L 7 rfl rfl) Try.underlying47 ti4 (ix_ge hx67) (ix_lt hx67)) ?_
        obtain ⟨cs70, hv71, hlt72, hr73, hc74⟩ := ow12.osel (k := 0) rfl hv55 hx67
        obtain rfl : cs70 = [.bool x66] := hr73
        refine O.storeE (k := 0) (R := RT.bool) (j := 0) (y := x48 || x20) (cs := [.bool (x48 || x20)]) ow12 rfl hv71 rfl rfl (.inl rfl) rfl (L 0 rfl rfl) (L 1 rfl rfl) ti4 hx67 (by simp [topV]) rfl rfl rfl (full rfl) (fun _ _ => nd) (fun V75 le76 ow77 => ?_)
        refine U.done (Nat.le_of_ble_eq_true rfl) ?_
        refine blkN (sqN ?_)
        refine WP.ureg rfl ?_
        refine U.p rfl rfl (.inl rfl) (S.add rfl (L 32 rfl rfl) K) ?_
        refine U.p rfl rfl (.inl rfl) (S.move rfl (L 0 rfl rfl)) ?_
        refine U.done (Nat.le_of_ble_eq_true rfl) ?_
        refine sqN ?_
        exact ⟨_, V75, rfl, ⟨m13, Nat.lt_succ_self _, xs5.set (Int.toNat x7) (x48 || x20), y34, w64 (x7 + 1), rfl, (le11.trans le76), ow77, backS h68 e15⟩, (allCons (L 30 rfl rfl) (allCons (L 12 rfl rfl) (allCons (L 32 rfl rfl) (allCons (L 33 rfl rfl) (allCons (L 0 rfl rfl) allNil)))))⟩
      · intro kk
        refine bcase (b := x48) (fun g78 => ?_) (fun g78 => ?_)
        · skip
          refine U.x rfl rfl rfl rfl ((L 0 rfl rfl).trans (congrArg Value.bool g78)) (by decide) ?_
          refine U.p rfl rfl (.inl rfl) (S.pickT rfl ((L 1 rfl rfl).trans (congrArg Value.bool g78)) K) ?_
          exact kk [(34, .bool true), (33, .tuple #[])] _ ⟨.tuple #[], rfl, (by rw [g78, Bool.true_or])⟩
        · skip
          refine U.p rfl rfl (.inr ⟨_, _, _, rfl, rfl, ((L 0 rfl rfl).trans (congrArg Value.bool g78))⟩) (S.move rfl (L 19 rfl rfl)) ?_
          refine U.p rfl rfl (.inl rfl) (S.pickF rfl ((L 1 rfl rfl).trans (congrArg Value.bool g78)) (L 0 rfl rfl)) ?_
          exact kk [(34, .bool x20), (33, .bool x20)] _ ⟨.bool x20, rfl, (by rw [g78, Bool.false_or])⟩
    · intro kk
      refine bcase (b := x6) (fun g79 => ?_) (fun g79 => ?_)
      · have h80 := ifT g79 hy35
        refine U.x rfl rfl rfl rfl ((L 0 rfl rfl).trans (congrArg Value.bool g79)) (by decide) ?_
        refine U.x rfl rfl rfl rfl ((L 1 rfl rfl).trans (congrArg Value.bool g79)) (by decide) ?_
        refine U.z rfl rfl rfl rfl (L 0 rfl rfl) ?_
        refine U.z rfl rfl rfl rfl (L 1 rfl rfl) ?_
        refine U.z rfl rfl rfl rfl (L 2 rfl rfl) ?_
        refine U.z rfl rfl rfl rfl (L 3 rfl rfl) ?_
        refine U.z rfl rfl rfl rfl (L 4 rfl rfl) ?_
        refine U.x rfl rfl rfl rfl ((L 7 rfl rfl).trans (congrArg Value.bool g79)) (by decide) ?_
        refine U.p rfl rfl (.inl rfl) (S.pickT rfl ((L 8 rfl rfl).trans (congrArg Value.bool g79)) K) ?_
        have e81 := Option.some.inj h80
        subst e81
        exact kk [(25, .bool true), (24, .tuple #[]), (23, .tuple #[]), (22, .tuple #[]), (21, .tuple #[]), (20, .tuple #[]), (19, .tuple #[]), (18, .tuple #[]), (17, .tuple #[])] _ ⟨.tuple #[], .tuple #[], .tuple #[], .tuple #[], .tuple #[], .tuple #[], .tuple #[], .tuple #[], rfl, rfl⟩
      · have h82 := ifF g79 hy35
        refine U.p rfl rfl (.inr ⟨_, _, _, rfl, rfl, ((L 0 rfl rfl).trans (congrArg Value.bool g79))⟩) (S.move rfl (L 2 rfl rfl)) ?_
        refine U.p rfl rfl (.inr ⟨_, _, _, rfl, rfl, ((L 1 rfl rfl).trans (congrArg Value.bool g79))⟩) (S.move rfl (L 0 rfl rfl)) ?_
        obtain ⟨y83, hy84, h85⟩ := bindS h82
        refine U.joinX 10 (fun e H => ∃ (u86 u87 u88 u89 u90 : Value), H = V10.H ∧ e = [(24, .bool y83), (23, u86), (22, u87), (21, u88), (20, u89), (19, u90)]) ?_ ?_
        · rintro _ _ ⟨u86, u87, u88, u89, u90, rfl, rfl⟩
          refine U.p rfl rfl (.inl rfl) (S.pickF rfl ((L 8 rfl rfl).trans (congrArg Value.bool g79)) (L 0 rfl rfl)) ?_
          have e94 := Option.some.inj h85
          subst e94
          exact kk [(25, .bool y83), (24, .bool y83), (23, u86), (22, u87), (21, u88), (20, u89), (19, u90), (18, .bool x20), (17, .bool x20)] _ ⟨.bool y83, u86, u87, u88, u89, u90, .bool x20, .bool x20, rfl, rfl⟩
        · intro kk
          refine bcase (b := x20) (fun g95 => ?_) (fun g95 => ?_)
          · have h96 := ifT g95 hy84
            refine U.p rfl rfl (.inr ⟨_, _, _, rfl, rfl, ((L 0 rfl rfl).trans (congrArg Value.bool g95))⟩) (S.move rfl (L 10 rfl rfl)) ?_
            refine U.p rfl rfl (.inr ⟨_, _, _, rfl, rfl, ((L 1 rfl rfl).trans (congrArg Value.bool g95))⟩) (S.move rfl (L 6 rfl rfl)) ?_
            obtain ⟨x97, hx98, h99⟩ := bindS h96
            obtain ⟨b100, o101, n102, c103, hv104⟩ := ow12.ospt (k := 0) rfl hx98
            obtain ⟨_, hv105, _⟩ := ow12.osel (k := 0) rfl hv104 hx98
            refine U.p rfl rfl (.inr ⟨_, _, _, rfl, rfl, ((L 2 rfl rfl).trans (congrArg Value.bool g95))⟩) (S.index rfl ((L 1 rfl rfl).trans hv105) (L 0 rfl rfl) Try.underlying47 ti4 (ix_ge hx98) (ix_lt hx98)) ?_
            obtain ⟨cs106, hv107, hlt108, hr109, hc110⟩ := ow12.osel (k := 0) rfl hv104 hx98
            obtain rfl : cs106 = [.bool x97] := hr109
            refine U.k rfl rfl (.inr ⟨_, _, _, rfl, rfl, ((L 3 rfl rfl).trans (congrArg Value.bool g95))⟩) (S.load rfl (L 0 rfl rfl) Try.underlying4 rfl (hc110 0 _ rfl)) nd ?_
            refine U.p rfl rfl (.inr ⟨_, _, _, rfl, rfl, ((L 4 rfl rfl).trans (congrArg Value.bool g95))⟩) (S.not rfl (L 0 rfl rfl)) ?_
            refine U.p rfl rfl (.inr ⟨_, _, _, rfl, rfl, ((L 7 rfl rfl).trans (congrArg Value.bool g79))⟩) (S.pickT rfl ((L 5 rfl rfl).trans (congrArg Value.bool g95)) (L 0 rfl rfl)) ?_
            have e111 := Option.some.inj h99
            subst e111
            exact kk [(24, .bool (!x97)), (23, .bool (!x97)), (22, .bool x97), (21, .pointer (some ⟨b100, o101 + Int.toNat x7 * 1, none⟩)), (20, .int .i64 x7), (19, v1)] _ ⟨.bool (!x97), .bool x97, .pointer (some ⟨b100, o101 + Int.toNat x7 * 1, none⟩), .int .i64 x7, v1, rfl, rfl⟩
          · have h112 := ifF g95 hy84
            refine U.x rfl rfl rfl rfl ((L 0 rfl rfl).trans (congrArg Value.bool g95)) (by decide) ?_
            refine U.x rfl rfl rfl rfl ((L 1 rfl rfl).trans (congrArg Value.bool g95)) (by decide) ?_
            refine U.x rfl rfl rfl rfl ((L 2 rfl rfl).trans (congrArg Value.bool g95)) (by decide) ?_
            refine U.x rfl rfl rfl rfl ((L 3 rfl rfl).trans (congrArg Value.bool g95)) (by decide) ?_
            refine U.x rfl rfl rfl rfl ((L 4 rfl rfl).trans (congrArg Value.bool g95)) (by decide) ?_
            refine U.p rfl rfl (.inr ⟨_, _, _, rfl, rfl, ((L 7 rfl rfl).trans (congrArg Value.bool g79))⟩) (S.pickF rfl ((L 5 rfl rfl).trans (congrArg Value.bool g95)) K) ?_
            have e113 := Option.some.inj h112
            subst e113
            exact kk [(24, .bool false), (23, .tuple #[]), (22, .tuple #[]), (21, .tuple #[]), (20, .tuple #[]), (19, .tuple #[])] _ ⟨.tuple #[], .tuple #[], .tuple #[], .tuple #[], .tuple #[], rfl, rfl⟩
  · have h114 := ifF c18 h17
    refine WP.exit ?_
    refine sqE (sqE (blkE (sqN ?_)))
    have h115 := exitS h114 e15
    refine WP.usreg rfl ?_
    refine U.p rfl rfl (.inl rfl) (S.move rfl (L 2 rfl rfl)) ?_
    refine U.p rfl rfl (.inl rfl) (S.assign rfl (L 0 rfl rfl)) ?_
    refine U.done (Nat.le_of_ble_eq_true rfl) ?_
    refine WP.ret ?_
    refine fin.slot (.inr rfl) rfl (L 0 rfl rfl) ⟨V10, rfl, le11, ?_⟩
    have e116 := Option.some.inj h115
    subst e116
    exact ⟨rfl, ow12⟩

set_option maxHeartbeats 4000000 in
set_option maxRecDepth 10000 in
theorem wk_slices_Clone (V : Vw) (Rs : List At) (p0 : List Bool) (v1 : Value) (ow : Ow V (.os RT.bool v1 p0 :: Rs)) (r : List Bool) (h : slices_Clone p0 = some r) : ∃ v V', Cl Try.prog 0 31 #[v1] V.H v V'.H ∧ V.le V' ∧ (∃ (v3 : Value), v = v3 ∧ Ow V' (.os RT.bool v3 r :: .os RT.bool v1 p0 :: Rs)) := by
  refine Ct.of (Nat.zero_le _) Try.func31 rfl (Nat.le_of_ble_eq_true rfl) ?_
  unfold slices_Clone at h
  refine WP.usreg rfl ?_
  refine U.p rfl rfl (.inl rfl) (S.assign rfl K) ?_
  refine U.done (Nat.le_of_ble_eq_true rfl) ?_
  refine WP.seq ?_
  refine WP.usreg rfl ?_
  refine U.p rfl rfl (.inl rfl) (S.move rfl (L 1 rfl rfl)) ?_
  refine U.p rfl rfl (.inl rfl) (ow.oseqNil (k := 0) rfl rfl (L 0 rfl rfl) K Try.underlying47) ?_
  refine U.done (Nat.le_of_ble_eq_true rfl) ?_
  refine WP.cond _ (L 0 rfl rfl) rfl (fun c5 => ?_) (fun c5 => ?_)
  · have hz := (ow.osnil_of (k := 0) rfl c5)
    have h6 : (some [] : Option _) = some r := by simpa [hz, ap] using h
    refine WP.usreg rfl ?_
    refine U.p rfl rfl (.inl rfl) (S.assign rfl K) ?_
    refine U.done (Nat.le_of_ble_eq_true rfl) ?_
    refine WP.ret ?_
    refine sqR ?_
    have ow7 := ow.nil RT.bool
    refine fin.slot (.inr rfl) rfl (L 0 rfl rfl) ⟨V, rfl, (.refl _), ?_⟩
    have e9 := Option.some.inj h6
    subst e9
    exact ⟨(.slice none 0 0), rfl, ow7⟩
  · skip
    refine WP.skip ?_
    refine sqN ?_
    refine WP.usreg rfl ?_
    refine O.lit (R := RT.bool) ow rfl rfl (.inl rfl) rfl Try.underlying47 ti4 rfl rfl rfl (Nat.le_of_ble_eq_true rfl) rfl aN .nil (fun _ => nd) (fun v10 V11 le12 ow13 => ?_)
    refine U.p rfl rfl (.inl rfl) (S.move rfl (L 4 rfl rfl)) ?_
    obtain ⟨xs15, hx16, h17⟩ := bindS h
    refine O.append (k := 0) ow13 rfl rfl rfl (.inl rfl) rfl (L 1 rfl rfl) (L 0 rfl rfl) Try.underlying47 ti4 rfl rfl (Nat.le_of_ble_eq_true rfl) (ow13.src (k := 1) rfl Try.underlying47) hx16 (fun _ _ => nd) (fun v18 V19 le20 ow21 => ?_)
    refine U.p rfl rfl (.inl rfl) (S.assign rfl (L 0 rfl rfl)) ?_
    refine U.done (Nat.le_of_ble_eq_true rfl) ?_
    refine WP.ret ?_
    refine fin.slot (.inr rfl) rfl (L 0 rfl rfl) ⟨V19, rfl, (le12.trans le20), ?_⟩
    have e23 := Option.some.inj h17
    subst e23
    exact ⟨v18, rfl, ow21⟩

set_option maxHeartbeats 4000000 in
set_option maxRecDepth 10000 in
theorem wk_ir_Def (V : Vw) (Rs : List At) (p0 : TIns) (v1 : Value) (f2 : Fz (RT.int .i64) V v1 p0.args) (ow : Ow V (Rs)) (r : Int) (h : ir_Def p0 = some r) : ∃ v V', Cl Try.prog 0 14 #[.agg #[.int .i64 p0.op, .int .i64 p0.d, .int .i64 p0.a, .int .i64 p0.b, .int .i64 p0.imm, v1, .int .i64 p0.what, .bool p0.volatile, .bool p0.final]] V.H v V'.H ∧ V.le V' ∧ (v = .int .i64 r ∧ Ow V' (Rs)) := by
  refine Ct.of (Nat.zero_le _) Try.func14 rfl (Nat.le_of_ble_eq_true rfl) ?_
  unfold ir_Def at h
  refine WP.usreg rfl ?_
  refine O.box ow rfl rfl (.inl rfl) rfl (L 0 rfl rfl) (by simp [topV]) rfl nd (fun b3 V4 le5 ow6 => ?_)
  refine U.p rfl rfl (.inl rfl) (S.assign rfl K) ?_
  refine U.done (Nat.le_of_ble_eq_true rfl) ?_
  refine WP.usreg rfl ?_
  refine U.p (v := .pointer (some ⟨b3, 1, none⟩)) rfl rfl (.inl rfl) (S.fieldAddr rfl (L 1 rfl rfl) Try.underlying33 rfl ti3 rfl rfl) ?_
  refine U.k rfl rfl (.inl rfl) (S.load rfl (L 0 rfl rfl) Try.underlying3 rfl ((ow6.own (k := 0) rfl).cell rfl)) nd ?_
  refine U.p rfl rfl (.inl rfl) (S.assign rfl (L 0 rfl rfl)) ?_
  refine U.done (Nat.le_of_ble_eq_true rfl) ?_
  refine WP.ret ?_
  refine fin.slot (.inr rfl) rfl (L 0 rfl rfl) ⟨V4, rfl, le5, ?_⟩
  have ow8 := ow6.drop 0 rfl
  have e9 := Option.some.inj h
  subst e9
  exact ⟨rfl, ow8⟩

set_option maxHeartbeats 4000000 in
set_option maxRecDepth 10000 in
theorem wk_ir_Uses (V : Vw) (Rs : List At) (p0 : TIns) (v1 : Value) (f2 : Fz (RT.int .i64) V v1 p0.args) (ow : Ow V (Rs)) (r : List Int) (h : ir_Uses p0 = some r) : ∃ v V', Cl Try.prog 0 12 #[.agg #[.int .i64 p0.op, .int .i64 p0.d, .int .i64 p0.a, .int .i64 p0.b, .int .i64 p0.imm, v1, .int .i64 p0.what, .bool p0.volatile, .bool p0.final]] V.H v V'.H ∧ V.le V' ∧ (∃ (v3 : Value), v = v3 ∧ Ow V' (.os (RT.int .i64) v3 r :: Rs)) := by
  refine Ct.of (Nat.zero_le _) Try.func12 rfl (Nat.le_of_ble_eq_true rfl) ?_
  unfold ir_Uses at h
  refine WP.usreg rfl ?_
  refine O.box ow rfl rfl (.inl rfl) rfl (L 0 rfl rfl) (by simp [topV]) rfl nd (fun b5 V6 le7 ow8 => ?_)
  refine U.p rfl rfl (.inl rfl) (S.assign rfl K) ?_
  refine U.done (Nat.le_of_ble_eq_true rfl) ?_
  refine WP.usreg rfl ?_
  refine U.p rfl rfl (.inl rfl) (S.assign rfl K) ?_
  refine U.done (Nat.le_of_ble_eq_true rfl) ?_
  refine WP.seq ?_
  refine WP.usreg rfl ?_
  refine U.p (v := .pointer (some ⟨b5, 2, none⟩)) rfl rfl (.inl rfl) (S.fieldAddr rfl (L 2 rfl rfl) Try.underlying33 rfl ti3 rfl rfl) ?_
  refine U.k rfl rfl (.inl rfl) (S.load rfl (L 0 rfl rfl) Try.underlying3 rfl ((ow8.own (k := 0) rfl).cell rfl)) nd ?_
  refine U.p (v := .pointer (some ⟨b5, 3, none⟩)) rfl rfl (.inl rfl) (S.fieldAddr rfl (L 4 rfl rfl) Try.underlying33 rfl ti3 rfl rfl) ?_
  refine U.k rfl rfl (.inl rfl) (S.load rfl (L 0 rfl rfl) Try.underlying3 rfl ((ow8.own (k := 0) rfl).cell rfl)) nd ?_
  refine O.lit (R := (RT.int .i64)) ow8 rfl rfl (.inl rfl) rfl Try.underlying31 ti3 rfl rfl rfl (Nat.le_of_ble_eq_true rfl) rfl (aC (L 2 rfl rfl) (aC (L 0 rfl rfl) aN)) (.cons _ _ p0.a _ (by simp [topV]) rfl (.cons _ _ p0.b _ (by simp [topV]) rfl .nil)) (fun _ => nd) (fun v10 V11 le12 ow13 => ?_)
  refine U.p (v := .pointer (some ⟨b5, 5, none⟩)) rfl rfl (.inl rfl) (S.fieldAddr rfl (L 7 rfl rfl) Try.underlying33 rfl ti31 rfl rfl) ?_
  refine U.k rfl rfl (.inl rfl) (S.load rfl (L 0 rfl rfl) Try.underlying31 rfl ((ow13.own (k := 1) rfl).cell rfl)) nd ?_
  have f15 := f2.up (le7.trans le12)
  obtain ⟨xs16, hx17, h18⟩ := bindS h
  refine O.append (k := 0) ow13 rfl rfl rfl (.inl rfl) rfl (L 2 rfl rfl) (L 0 rfl rfl) Try.underlying31 ti3 rfl rfl (Nat.le_of_ble_eq_true rfl) (f15.src Try.underlying31) hx17 (fun _ _ => nd) (fun v19 V20 le21 ow22 => ?_)
  refine U.p rfl rfl (.inl rfl) (ow22.oslen (k := 0) rfl rfl (L 0 rfl rfl) Try.underlying31) ?_
  refine U.p rfl rfl (.inl rfl) (S.move rfl K) ?_
  refine U.done (Nat.le_of_ble_eq_true rfl) ?_
  refine WP.blk ?_
  have ow28 := ow22.nil (RT.int .i64)
  have ow30 := ow28.drop 2 rfl
  unfold ir_Uses_l1 at h18
  obtain ⟨n32, hn31⟩ := loopO_some.1 h18
  refine WP.loopI2 (fun n l V' => ∃ (v25 : Value) (xs26 : List Int) (x27 : Int), l = [(3, v25), (13, v19), (14, .int .i64 (xs16.length : Int)), (15, .int .i64 x27)] ∧ V20.le V' ∧ Ow V' (.os (RT.int .i64) v25 xs26 :: .os (RT.int .i64) v19 xs16 :: Rs) ∧ itO (fun s => ir_Uses_l1b xs16 s.1 s.2) n (xs26, x27) = some r) n32 _ ⟨(.slice none 0 0), [], 0, rfl, .refl _, ow30, hn31⟩ (allCons (L 10 rfl rfl) (allCons (L 2 rfl rfl) (allCons (L 1 rfl rfl) (allCons (L 0 rfl rfl) allNil)))) ?_
  rintro _ _ V33 ⟨v25, xs26, x27, rfl, le34, ow35, h39⟩
  obtain ⟨m36, q37, rfl, h40, e38⟩ := itS h39
  replace h40 : ir_Uses_l1b xs16 xs26 x27 = some q37 := h40
  unfold ir_Uses_l1b at h40
  refine WP.usreg rfl ?_
  refine U.p rfl rfl (.inl rfl) (S.lss rfl (L 3 rfl rfl) (L 2 rfl rfl)) ?_
  refine U.done (Nat.le_of_ble_eq_true rfl) ?_
  refine WP.seq ?_
  refine WP.cond _ (L 0 rfl rfl) rfl (fun c41 => ?_) (fun c41 => ?_)
  · have h42 := ifT c41 h40
    refine WP.skip ?_
    refine sqN ?_
    refine WP.seqI (fun l V' => ∃ (v44 : Value) (xs45 : List Int), l = [(3, v44), (13, v19), (14, .int .i64 (xs16.length : Int)), (15, .int .i64 x27)] ∧ V33.le V' ∧ Ow V' (.os (RT.int .i64) v44 xs45 :: .os (RT.int .i64) v19 xs16 :: Rs) ∧ ir_Uses_k1 x27 xs45 = some q37) ?_ ?_
    · rintro _ V46 ⟨v44, xs45, rfl, le47, ow48, h49⟩
      unfold ir_Uses_k1 at h49
      refine WP.ureg rfl ?_
      refine U.p rfl rfl (.inl rfl) (S.add rfl (L 3 rfl rfl) K) ?_
      refine U.p rfl rfl (.inl rfl) (S.move rfl (L 0 rfl rfl)) ?_
      refine U.done (Nat.le_of_ble_eq_true rfl) ?_
      refine sqN ?_
      exact ⟨_, V46, rfl, ⟨m36, Nat.lt_succ_self _, v44, xs45, w64 (x27 + 1), rfl, (le34.trans le47), ow48, backS h49 e38⟩, (allCons (L 2 rfl rfl) (allCons (L 3 rfl rfl) (allCons (L 4 rfl rfl) (allCons (L 0 rfl rfl) allNil))))⟩
    · skip
      refine WP.blk ?_
      refine WP.usreg rfl ?_
      obtain ⟨x50, hx51, h52⟩ := bindS h42
      obtain ⟨b53, o54, n55, c56, hv57⟩ := ow35.ospt (k := 1) rfl hx51
      obtain ⟨_, hv58, _⟩ := ow35.osel (k := 1) rfl hv57 hx51
      refine U.p rfl rfl (.inl rfl) (S.index rfl ((L 2 rfl rfl).trans hv58) (L 4 rfl rfl) Try.underlying31 ti3 (ix_ge hx51) (ix_lt hx51)) ?_
      obtain ⟨cs59, hv60, hlt61, hr62, hc63⟩ := ow35.osel (k := 1) rfl hv57 hx51
      obtain rfl : cs59 = [.int .i64 x50] := hr62
      refine U.k rfl rfl (.inl rfl) (S.load rfl (L 0 rfl rfl) Try.underlying3 rfl (hc63 0 _ rfl)) nd ?_
      refine U.p rfl rfl (.inl rfl) (S.assign rfl (L 0 rfl rfl)) ?_
      refine U.done (Nat.le_of_ble_eq_true rfl) ?_
      refine WP.usreg rfl ?_
      refine U.p rfl rfl (.inl rfl) (S.move rfl (L 0 rfl rfl)) ?_
      refine U.p rfl rfl (.inl rfl) (S.geq rfl (L 0 rfl rfl) K) ?_
      refine U.done (Nat.le_of_ble_eq_true rfl) ?_
      refine WP.cond _ (L 0 rfl rfl) rfl (fun c64 => ?_) (fun c64 => ?_)
      · have h65 := ifT c64 h52
        refine WP.ureg rfl ?_
        refine U.p rfl rfl (.inl rfl) (S.move rfl (L 6 rfl rfl)) ?_
        refine U.p rfl rfl (.inl rfl) (S.move rfl (L 3 rfl rfl)) ?_
        refine O.lit (R := (RT.int .i64)) ow35 rfl rfl (.inl rfl) rfl Try.underlying31 ti3 rfl rfl rfl (Nat.le_of_ble_eq_true rfl) rfl (aC (L 0 rfl rfl) aN) (.cons _ _ x50 _ (by simp [topV]) rfl .nil) (fun _ => nd) (fun v66 V67 le68 ow69 => ?_)
        obtain ⟨xs71, hx72, h73⟩ := bindS h65
        refine O.append (k := 1) ow69 rfl rfl rfl (.inl rfl) rfl (L 2 rfl rfl) (L 0 rfl rfl) Try.underlying31 ti3 rfl rfl (Nat.le_of_ble_eq_true rfl) (ow69.src (k := 0) rfl Try.underlying31) hx72 (fun _ _ => nd) (fun v74 V75 le76 ow77 => ?_)
        refine U.p rfl rfl (.inl rfl) (S.assign rfl (L 0 rfl rfl)) ?_
        refine U.done (Nat.le_of_ble_eq_true rfl) ?_
        refine blkN (sqN ?_)
        have ow79 := ow77.drop 0 rfl
        exact ⟨_, V75, rfl, ⟨v74, xs71, rfl, (le68.trans le76), ow79, h73⟩, (allCons (L 0 rfl rfl) (allCons (L 12 rfl rfl) (allCons (L 13 rfl rfl) (allCons (L 14 rfl rfl) allNil))))⟩
      · have h80 := ifF c64 h52
        refine WP.skip ?_
        refine blkN (sqN ?_)
        exact ⟨_, V33, rfl, ⟨v25, xs26, rfl, (.refl _), ow35, h80⟩, (allCons (L 6 rfl rfl) (allCons (L 7 rfl rfl) (allCons (L 8 rfl rfl) (allCons (L 9 rfl rfl) allNil))))⟩
  · have h81 := ifF c41 h40
    refine WP.exit ?_
    refine sqE (sqE (blkE (sqN ?_)))
    have h82 := exitS h81 e38
    refine WP.usreg rfl ?_
    refine U.p rfl rfl (.inl rfl) (S.move rfl (L 1 rfl rfl)) ?_
    refine U.p rfl rfl (.inl rfl) (S.assign rfl (L 0 rfl rfl)) ?_
    refine U.done (Nat.le_of_ble_eq_true rfl) ?_
    refine WP.ret ?_
    refine fin.slot (.inr rfl) rfl (L 0 rfl rfl) ⟨V33, rfl, (((le7.trans le12).trans le21).trans le34), ?_⟩
    have ow83 := ow35.drop 1 rfl
    have e84 := Option.some.inj h82
    subst e84
    exact ⟨v25, rfl, ow83⟩

set_option maxHeartbeats 4000000 in
set_option maxRecDepth 10000 in
theorem wk_flow_step (V : Vw) (Rs : List At) (p0 : TIns) (p1 : List Bool) (v1 : Value) (v3 : Value) (f2 : Fz (RT.int .i64) V v1 p0.args) (ow : Ow V (.os RT.bool v3 p1 :: Rs)) (r : List Bool) (h : flow_step p0 p1 = some r) : ∃ v V', Cl Try.prog 0 22 #[.agg #[.int .i64 p0.op, .int .i64 p0.d, .int .i64 p0.a, .int .i64 p0.b, .int .i64 p0.imm, v1, .int .i64 p0.what, .bool p0.volatile, .bool p0.final], v3] V.H v V'.H ∧ V.le V' ∧ (∃ (v5 : Value), v = v5 ∧ Ow V' (.os RT.bool v5 r :: .os RT.bool v3 p1 :: Rs)) := by
  refine Ct.of (Nat.zero_le _) Try.func22 rfl (Nat.le_of_ble_eq_true rfl) ?_
  unfold flow_step at h
  refine WP.usreg rfl ?_
  refine O.box ow rfl rfl (.inl rfl) rfl (L 0 rfl rfl) (by simp [topV]) rfl nd (fun b7 V8 le9 ow10 => ?_)
  refine U.p rfl rfl (.inl rfl) (S.assign rfl K) ?_
  refine U.done (Nat.le_of_ble_eq_true rfl) ?_
  refine WP.usreg rfl ?_
  refine U.p rfl rfl (.inl rfl) (S.move rfl (L 3 rfl rfl)) ?_
  have ow12 := ow10.pick 1 rfl
  obtain ⟨x13, hx14, h15⟩ := bindS h
  refine O.call (V := V8) rfl rfl (.inl rfl) rfl en31 (aC (L 0 rfl rfl) aN) (wk_slices_Clone V8 _ p1 v3 ow12 _ hx14) (fun _ _ _ _ => nd) (fun v16 V17 le18 hp19 => ?_)
  obtain ⟨_, rfl, ow20⟩ := hp19
  refine U.p rfl rfl (.inl rfl) (S.assign rfl (L 0 rfl rfl)) ?_
  refine U.done (Nat.le_of_ble_eq_true rfl) ?_
  refine WP.seqI (fun l V' => ∃ (xs23 : List Bool), l = [(2, .pointer (some ⟨b7, 0, none⟩)), (5, v16)] ∧ V17.le V' ∧ Ow V' (.os RT.bool v3 p1 :: .pt b7 (.cells 0 [.int .i64 p0.op, .int .i64 p0.d, .int .i64 p0.a, .int .i64 p0.b, .int .i64 p0.imm, v1, .int .i64 p0.what, .bool p0.volatile, .bool p0.final]) :: .os RT.bool v16 xs23 :: Rs) ∧ flow_step_k1 p0 xs23 = some r) ?_ ?_
  · rintro _ V24 ⟨xs23, rfl, le25, ow26, h27⟩
    unfold flow_step_k1 at h27
    refine WP.seq ?_
    refine WP.usreg rfl ?_
    refine U.k rfl rfl (.inl rfl) (S.loadB rfl (L 0 rfl rfl) Try.underlying33 rfl ti33 (ow26.own (k := 1) rfl).get rfl) nd ?_
    have f28 := f2.up ((le9.trans le18).trans le25)
    obtain ⟨x29, hx30, h31⟩ := bindS h27
    refine O.call (V := V24) rfl rfl (.inl rfl) rfl en12 (aC (L 0 rfl rfl) aN) (wk_ir_Uses V24 _ p0 v1 f28 ow26 _ hx30) (fun _ _ _ _ => nd) (fun v32 V33 le34 hp35 => ?_)
    obtain ⟨_, rfl, ow36⟩ := hp35
    refine U.p rfl rfl (.inl rfl) (ow36.oslen (k := 0) rfl rfl (L 0 rfl rfl) Try.underlying31) ?_
    refine U.p rfl rfl (.inl rfl) (S.move rfl K) ?_
    refine U.done (Nat.le_of_ble_eq_true rfl) ?_
    refine WP.blk ?_
    have ow41 := ow36.drop 2 rfl
    have ow42 := ow41.pick 0 rfl
    have ow43 := ow42.pick 2 rfl
    have ow44 := ow43.pick 2 rfl
    unfold flow_step_l1 at h31
    obtain ⟨n46, hn45⟩ := loopO_some.1 h31
    refine WP.loopI2 (fun n l V' => ∃ (xs39 : List Bool) (x40 : Int), l = [(5, v16), (25, v32), (26, .int .i64 (x29.length : Int)), (27, .int .i64 x40)] ∧ V33.le V' ∧ Ow V' (.os RT.bool v3 p1 :: .os RT.bool v16 xs39 :: .os (RT.int .i64) v32 x29 :: Rs) ∧ itO (fun s => flow_step_l1b x29 s.1 s.2) n (xs39, x40) = some r) n46 _ ⟨xs23, 0, rfl, .refl _, ow44, hn45⟩ (allCons (L 5 rfl rfl) (allCons (L 2 rfl rfl) (allCons (L 1 rfl rfl) (allCons (L 0 rfl rfl) allNil)))) ?_
    rintro _ _ V47 ⟨xs39, x40, rfl, le48, ow49, h53⟩
    obtain ⟨m50, q51, rfl, h54, e52⟩ := itS h53
    replace h54 : flow_step_l1b x29 xs39 x40 = some q51 := h54
    unfold flow_step_l1b at h54
    refine WP.usreg rfl ?_
    refine U.p rfl rfl (.inl rfl) (S.lss rfl (L 3 rfl rfl) (L 2 rfl rfl)) ?_
    refine U.done (Nat.le_of_ble_eq_true rfl) ?_
    refine WP.seq ?_
    refine WP.cond _ (L 0 rfl rfl) rfl (fun c55 => ?_) (fun c55 => ?_)
    · have h56 := ifT c55 h54
      refine WP.skip ?_
      refine sqN ?_
      refine WP.seqI (fun l V' => ∃ (xs57 : List Bool), l = [(5, v16), (25, v32), (26, .int .i64 (x29.length : Int)), (27, .int .i64 x40)] ∧ V47.le V' ∧ Ow V' (.os RT.bool v3 p1 :: .os RT.bool v16 xs57 :: .os (RT.int .i64) v32 x29 :: Rs) ∧ flow_step_k2 x40 xs57 = some q51) ?_ ?_
      · rintro _ V58 ⟨xs57, rfl, le59, ow60, h61⟩
        unfold flow_step_k2 at h61
        refine WP.ureg rfl ?_
        refine U.p rfl rfl (.inl rfl) (S.add rfl (L 3 rfl rfl) K) ?_
        refine U.p rfl rfl (.inl rfl) (S.move rfl (L 0 rfl rfl)) ?_
        refine U.done (Nat.le_of_ble_eq_true rfl) ?_
        refine sqN ?_
        exact ⟨_, V58, rfl, ⟨m50, Nat.lt_succ_self _, xs57, w64 (x40 + 1), rfl, (le48.trans le59), ow60, backS h61 e52⟩, (allCons (L 2 rfl rfl) (allCons (L 3 rfl rfl) (allCons (L 4 rfl rfl) (allCons (L 0 rfl rfl) allNil))))⟩
      · skip
        refine WP.blk ?_
        refine WP.usreg rfl ?_
        obtain ⟨x62, hx63, h64⟩ := bindS h56
        obtain ⟨b65, o66, n67, c68, hv69⟩ := ow49.ospt (k := 2) rfl hx63
        obtain ⟨_, hv70, _⟩ := ow49.osel (k := 2) rfl hv69 hx63
        refine U.p rfl rfl (.inl rfl) (S.index rfl ((L 2 rfl rfl).trans hv70) (L 4 rfl rfl) Try.underlying31 ti3 (ix_ge hx63) (ix_lt hx63)) ?_
        obtain ⟨cs71, hv72, hlt73, hr74, hc75⟩ := ow49.osel (k := 2) rfl hv69 hx63
        obtain rfl : cs71 = [.int .i64 x62] := hr74
        refine U.k rfl rfl (.inl rfl) (S.load rfl (L 0 rfl rfl) Try.underlying3 rfl (hc75 0 _ rfl)) nd ?_
        refine U.p rfl rfl (.inl rfl) (S.assign rfl (L 0 rfl rfl)) ?_
        refine U.done (Nat.le_of_ble_eq_true rfl) ?_
        refine WP.usreg rfl ?_
        refine U.p rfl rfl (.inl rfl) (S.move rfl (L 0 rfl rfl)) ?_
        refine U.p rfl rfl (.inl rfl) (S.move rfl (L 5 rfl rfl)) ?_
        refine U.p rfl rfl (.inl rfl) (ow49.oslen (k := 1) rfl rfl (L 0 rfl rfl) Try.underlying47) ?_
        refine U.p rfl rfl (.inl rfl) (S.lss rfl (L 2 rfl rfl) (L 0 rfl rfl)) ?_
        refine U.done (Nat.le_of_ble_eq_true rfl) ?_
        refine WP.cond _ (L 0 rfl rfl) rfl (fun c76 => ?_) (fun c76 => ?_)
        · have h77 := ifT c76 h64
          refine WP.ureg rfl ?_
          refine U.p rfl rfl (.inl rfl) (S.move rfl (L 8 rfl rfl)) ?_
          refine U.p rfl rfl (.inl rfl) (S.move rfl (L 5 rfl rfl)) ?_
          obtain ⟨x78, hx79, h80⟩ := bindS h77
          obtain ⟨b81, o82, n83, c84, hv85⟩ := ow49.ospt (k := 1) rfl hx79
          obtain ⟨_, hv86, _⟩ := ow49.osel (k := 1) rfl hv85 hx79
          refine U.p rfl rfl (.inl rfl) (S.index rfl ((L 1 rfl rfl).trans hv86) (L 0 rfl rfl) Try.underlying47 ti4 (ix_ge hx79) (ix_lt hx79)) ?_
          obtain ⟨cs87, hv88, hlt89, hr90, hc91⟩ := ow49.osel (k := 1) rfl hv85 hx79
          obtain rfl : cs87 = [.bool x78] := hr90
          refine O.storeE (k := 1) (R := RT.bool) (j := 0) (y := true) (cs := [.bool true]) ow49 rfl hv88 rfl rfl (.inl rfl) rfl (L 0 rfl rfl) K ti4 hx79 (by simp [topV]) rfl rfl rfl (full rfl) (fun _ _ => nd) (fun V92 le93 ow94 => ?_)
          refine U.done (Nat.le_of_ble_eq_true rfl) ?_
          refine blkN (sqN ?_)
          exact ⟨_, V92, rfl, ⟨xs39.set (Int.toNat x62) true, rfl, le93, ow94, h80⟩, (allCons (L 11 rfl rfl) (allCons (L 12 rfl rfl) (allCons (L 13 rfl rfl) (allCons (L 14 rfl rfl) allNil))))⟩
        · have h95 := ifF c76 h64
          refine WP.skip ?_
          refine blkN (sqN ?_)
          exact ⟨_, V47, rfl, ⟨xs39, rfl, (.refl _), ow49, h95⟩, (allCons (L 8 rfl rfl) (allCons (L 9 rfl rfl) (allCons (L 10 rfl rfl) (allCons (L 11 rfl rfl) allNil))))⟩
    · have h96 := ifF c55 h54
      refine WP.exit ?_
      refine sqE (sqE (blkE (sqN ?_)))
      have h97 := exitS h96 e52
      refine WP.usreg rfl ?_
      refine U.p rfl rfl (.inl rfl) (S.move rfl (L 1 rfl rfl)) ?_
      refine U.p rfl rfl (.inl rfl) (S.assign rfl (L 0 rfl rfl)) ?_
      refine U.done (Nat.le_of_ble_eq_true rfl) ?_
      refine WP.ret ?_
      refine fin.slot (.inr rfl) rfl (L 0 rfl rfl) ⟨V47, rfl, ((((le9.trans le18).trans le25).trans le34).trans le48), ?_⟩
      have ow98 := ow49.drop 2 rfl
      have ow99 := ow98.pick 0 rfl
      have ow100 := ow99.pick 1 rfl
      have e101 := Option.some.inj h97
      subst e101
      exact ⟨v16, rfl, ow100⟩
  · skip
    refine WP.usreg rfl ?_
    refine U.k rfl rfl (.inl rfl) (S.loadB rfl (L 4 rfl rfl) Try.underlying33 rfl ti33 (ow20.own (k := 2) rfl).get rfl) nd ?_
    have f102 := f2.up (le9.trans le18)
    obtain ⟨x103, hx104, h105⟩ := bindS h15
    refine O.call (V := V17) rfl rfl (.inl rfl) rfl en14 (aC (L 0 rfl rfl) aN) (wk_ir_Def V17 _ p0 v1 f102 ow20 _ hx104) (fun _ _ _ _ => nd) (fun v106 V107 le108 hp109 => ?_)
    obtain ⟨rfl, ow110⟩ := hp109
    refine U.p rfl rfl (.inl rfl) (S.assign rfl (L 0 rfl rfl)) ?_
    refine U.done (Nat.le_of_ble_eq_true rfl) ?_
    refine WP.usreg rfl ?_
    refine U.p rfl rfl (.inl rfl) (S.move rfl (L 0 rfl rfl)) ?_
    refine U.p rfl rfl (.inl rfl) (S.geq rfl (L 0 rfl rfl) K) ?_
    refine U.p rfl rfl (.inl rfl) (S.move rfl (L 0 rfl rfl)) ?_
    refine U.joinX 8 (fun e H => ∃ (u111 u112 u113 u114 : Value), H = V107.H ∧ e = [(20, .bool ((decide (0 ≤ x103)) && (decide (x103 < (x13.length : Int))))), (19, u111), (18, u112), (17, u113), (16, u114)]) ?_ ?_
    · rintro _ _ ⟨u111, u112, u113, u114, rfl, rfl⟩
      refine U.done (Nat.le_of_ble_eq_true rfl) ?_
      refine WP.cond _ (L 0 rfl rfl) rfl (fun c118 => ?_) (fun c118 => ?_)
      · have h119 := ifT c118 h105
        refine WP.ureg rfl ?_
        refine U.p rfl rfl (.inl rfl) (S.move rfl (L 11 rfl rfl)) ?_
        refine U.p rfl rfl (.inl rfl) (S.move rfl (L 9 rfl rfl)) ?_
        obtain ⟨x120, hx121, h122⟩ := bindS h119
        obtain ⟨b123, o124, n125, c126, hv127⟩ := ow110.ospt (k := 0) rfl hx121
        obtain ⟨_, hv128, _⟩ := ow110.osel (k := 0) rfl hv127 hx121
        refine U.p rfl rfl (.inl rfl) (S.index rfl ((L 1 rfl rfl).trans hv128) (L 0 rfl rfl) Try.underlying47 ti4 (ix_ge hx121) (ix_lt hx121)) ?_
        obtain ⟨cs129, hv130, hlt131, hr132, hc133⟩ := ow110.osel (k := 0) rfl hv127 hx121
        obtain rfl : cs129 = [.bool x120] := hr132
        refine O.storeE (k := 0) (R := RT.bool) (j := 0) (y := false) (cs := [.bool false]) ow110 rfl hv130 rfl rfl (.inl rfl) rfl (L 0 rfl rfl) K ti4 hx121 (by simp [topV]) rfl rfl rfl (full rfl) (fun _ _ => nd) (fun V134 le135 ow136 => ?_)
        refine U.done (Nat.le_of_ble_eq_true rfl) ?_
        refine sqN ?_
        have ow137 := ow136.pick 0 rfl
        have ow138 := ow137.pick 2 rfl
        have ow139 := ow138.pick 2 rfl
        exact ⟨_, V134, rfl, ⟨x13.set (Int.toNat x103) false, rfl, (le108.trans le135), ow139, h122⟩, (allCons (L 18 rfl rfl) (allCons (L 14 rfl rfl) allNil))⟩
      · have h140 := ifF c118 h105
        refine WP.skip ?_
        refine sqN ?_
        have ow141 := ow110.pick 0 rfl
        have ow142 := ow141.pick 2 rfl
        have ow143 := ow142.pick 2 rfl
        exact ⟨_, V107, rfl, ⟨x13, rfl, le108, ow143, h140⟩, (allCons (L 15 rfl rfl) (allCons (L 11 rfl rfl) allNil))⟩
    · intro kk
      refine bcase (b := decide (0 ≤ x103)) (fun g144 => ?_) (fun g144 => ?_)
      · skip
        refine U.p rfl rfl (.inr ⟨_, _, _, rfl, rfl, ((L 0 rfl rfl).trans (congrArg Value.bool g144))⟩) (S.move rfl (L 3 rfl rfl)) ?_
        refine U.p rfl rfl (.inr ⟨_, _, _, rfl, rfl, ((L 1 rfl rfl).trans (congrArg Value.bool g144))⟩) (S.move rfl (L 7 rfl rfl)) ?_
        refine U.p rfl rfl (.inr ⟨_, _, _, rfl, rfl, ((L 2 rfl rfl).trans (congrArg Value.bool g144))⟩) (ow110.oslen (k := 0) rfl rfl (L 0 rfl rfl) Try.underlying47) ?_
        refine U.p rfl rfl (.inr ⟨_, _, _, rfl, rfl, ((L 3 rfl rfl).trans (congrArg Value.bool g144))⟩) (S.lss rfl (L 2 rfl rfl) (L 0 rfl rfl)) ?_
        refine U.p rfl rfl (.inl rfl) (S.pickT rfl ((L 4 rfl rfl).trans (congrArg Value.bool g144)) (L 0 rfl rfl)) ?_
        exact kk [(20, .bool (decide (x103 < (x13.length : Int)))), (19, .bool (decide (x103 < (x13.length : Int)))), (18, .int .i64 (x13.length : Int)), (17, v16), (16, .int .i64 x103)] _ ⟨.bool (decide (x103 < (x13.length : Int))), .int .i64 (x13.length : Int), v16, .int .i64 x103, rfl, (by rw [g144, Bool.true_and])⟩
      · skip
        refine U.x rfl rfl rfl rfl ((L 0 rfl rfl).trans (congrArg Value.bool g144)) (by decide) ?_
        refine U.x rfl rfl rfl rfl ((L 1 rfl rfl).trans (congrArg Value.bool g144)) (by decide) ?_
        refine U.x rfl rfl rfl rfl ((L 2 rfl rfl).trans (congrArg Value.bool g144)) (by decide) ?_
        refine U.x rfl rfl rfl rfl ((L 3 rfl rfl).trans (congrArg Value.bool g144)) (by decide) ?_
        refine U.p rfl rfl (.inl rfl) (S.pickF rfl ((L 4 rfl rfl).trans (congrArg Value.bool g144)) K) ?_
        exact kk [(20, .bool false), (19, .tuple #[]), (18, .tuple #[]), (17, .tuple #[]), (16, .tuple #[])] _ ⟨.tuple #[], .tuple #[], .tuple #[], .tuple #[], rfl, (by rw [g144, Bool.false_and])⟩

set_option maxHeartbeats 4000000 in
set_option maxRecDepth 10000 in
theorem wk_flow_Live (V : Vw) (Rs : List At) (p0 : TFunc) (v1 : Value) (f2 : Fz RT_TIns V v1 p0.code) (ow : Ow V (Rs)) (r : List (List Bool)) (h : flow_Live p0 = some r) : ∃ v V', Cl Try.prog 0 10 #[.agg #[.string p0.name, .int .i64 p0.params, .int .i64 p0.regs, v1]] V.H v V'.H ∧ V.le V' ∧ (∃ (v3 : Value), v = v3 ∧ Ow V' (.os (RT.sl RT.bool) v3 r :: Rs)) := by
  refine Ct.of (Nat.zero_le _) Try.func10 rfl (Nat.le_of_ble_eq_true rfl) ?_
  unfold flow_Live at h
  refine WP.usreg rfl ?_
  refine O.box ow rfl rfl (.inl rfl) rfl (L 0 rfl rfl) (by simp [topV]) rfl nd (fun b5 V6 le7 ow8 => ?_)
  refine U.p rfl rfl (.inl rfl) (S.assign rfl K) ?_
  refine U.done (Nat.le_of_ble_eq_true rfl) ?_
  refine WP.usreg rfl ?_
  refine U.p (v := .pointer (some ⟨b5, 3, none⟩)) rfl rfl (.inl rfl) (S.fieldAddr rfl (L 1 rfl rfl) Try.underlying24 rfl ti22 rfl rfl) ?_
  refine U.k rfl rfl (.inl rfl) (S.load rfl (L 0 rfl rfl) Try.underlying22 rfl ((ow8.own (k := 0) rfl).cell rfl)) nd ?_
  refine U.p rfl rfl (.inl rfl) (f2.1.len rfl (L 0 rfl rfl) Try.underlying22) ?_
  obtain ⟨xs10, hx11, h12⟩ := bindS h
  refine O.makeS (RO.os RT.bool) ow8 rfl rfl (.inl rfl) rfl (L 0 rfl rfl) (L 0 rfl rfl) Try.underlying45 ti47 rfl rfl (Nat.le_of_ble_eq_true rfl) ⟨Nat.zero_le _, .inl ⟨rfl, rfl, rfl⟩⟩ hx11 (fun _ => nd) (fun v13 hs14 V15 le16 ow17 => ?_)
  refine U.p rfl rfl (.inl rfl) (S.assign rfl (L 0 rfl rfl)) ?_
  refine U.done (Nat.le_of_ble_eq_true rfl) ?_
  refine WP.usreg rfl ?_
  refine U.p (v := .pointer (some ⟨b5, 3, none⟩)) rfl rfl (.inl rfl) (S.fieldAddr rfl (L 6 rfl rfl) Try.underlying24 rfl ti22 rfl rfl) ?_
  refine U.k rfl rfl (.inl rfl) (S.load rfl (L 0 rfl rfl) Try.underlying22 rfl ((ow17.own (k := 1) rfl).cell rfl)) nd ?_
  refine U.p rfl rfl (.inl rfl) (f2.1.len rfl (L 0 rfl rfl) Try.underlying22) ?_
  obtain ⟨xs19, hx20, h21⟩ := bindS h12
  refine O.makeS (RO.os (RT.int .i64)) ow17 rfl rfl (.inl rfl) rfl (L 0 rfl rfl) (L 0 rfl rfl) Try.underlying46 ti31 rfl rfl (Nat.le_of_ble_eq_true rfl) ⟨Nat.zero_le _, .inl ⟨rfl, rfl, rfl⟩⟩ hx20 (fun _ => nd) (fun v22 hs23 V24 le25 ow26 => ?_)
  refine U.p rfl rfl (.inl rfl) (S.assign rfl (L 0 rfl rfl)) ?_
  refine U.done (Nat.le_of_ble_eq_true rfl) ?_
  refine WP.seq ?_
  refine WP.usreg rfl ?_
  refine U.p rfl rfl (.inl rfl) (S.move rfl (L 5 rfl rfl)) ?_
  refine U.p rfl rfl (.inl rfl) (ow26.sslen (k := 1) rfl rfl (L 0 rfl rfl) Try.underlying45) ?_
  refine U.p rfl rfl (.inl rfl) (S.move rfl K) ?_
  refine U.done (Nat.le_of_ble_eq_true rfl) ?_
  refine WP.blk ?_
  have ow33 := ow26.pick 0 rfl
  have ow34 := ow33.pick 1 rfl
  have ow35 := ow34.pick 2 rfl
  unfold flow_Live_l1 at h21
  obtain ⟨n37, hn36⟩ := loopO_some.1 h21
  refine WP.loopI2 (fun n l V' => ∃ (hs28 : List Value) (xs29 : List (List Bool)) (hs30 : List Value) (xs31 : List (List Int)) (x32 : Int), l = [(1, .pointer (some ⟨b5, 0, none⟩)), (3, v13), (4, v22), (23, .int .i64 (xs10.length : Int)), (24, .int .i64 x32)] ∧ V24.le V' ∧ Ow V' (.pt b5 (.cells 0 [.string p0.name, .int .i64 p0.params, .int .i64 p0.regs, v1]) :: .oss (RO.os RT.bool) v13 hs28 xs29 :: .oss (RO.os (RT.int .i64)) v22 hs30 xs31 :: Rs) ∧ itO (fun s => flow_Live_l1b p0 xs10 s.1 s.2.1 s.2.2) n (xs29, xs31, x32) = some r) n37 _ ⟨hs14, xs10, hs23, xs19, 0, rfl, .refl _, ow35, hn36⟩ (allCons (L 14 rfl rfl) (allCons (L 8 rfl rfl) (allCons (L 3 rfl rfl) (allCons (L 1 rfl rfl) (allCons (L 0 rfl rfl) allNil))))) ?_
  rintro _ _ V38 ⟨hs28, xs29, hs30, xs31, x32, rfl, le39, ow40, h44⟩
  obtain ⟨m41, q42, rfl, h45, e43⟩ := itS h44
  replace h45 : flow_Live_l1b p0 xs10 xs29 xs31 x32 = some q42 := h45
  unfold flow_Live_l1b at h45
  refine WP.usreg rfl ?_
  refine U.p rfl rfl (.inl rfl) (S.lss rfl (L 4 rfl rfl) (L 3 rfl rfl)) ?_
  refine U.done (Nat.le_of_ble_eq_true rfl) ?_
  refine WP.seq ?_
  refine WP.cond _ (L 0 rfl rfl) rfl (fun c46 => ?_) (fun c46 => ?_)
  · have h47 := ifT c46 h45
    refine WP.skip ?_
    refine sqN ?_
    refine WP.seq ?_
    refine WP.blk ?_
    refine WP.usreg rfl ?_
    refine U.p rfl rfl (.inl rfl) (S.move rfl (L 5 rfl rfl)) ?_
    refine U.p rfl rfl (.inl rfl) (S.assign rfl (L 0 rfl rfl)) ?_
    refine U.done (Nat.le_of_ble_eq_true rfl) ?_
    refine WP.usreg rfl ?_
    refine U.p rfl rfl (.inl rfl) (S.move rfl (L 4 rfl rfl)) ?_
    refine U.p rfl rfl (.inl rfl) (S.move rfl (L 1 rfl rfl)) ?_
    refine U.p (v := .pointer (some ⟨b5, 2, none⟩)) rfl rfl (.inl rfl) (S.fieldAddr rfl (L 5 rfl rfl) Try.underlying24 rfl ti3 rfl rfl) ?_
    refine U.k rfl rfl (.inl rfl) (S.load rfl (L 0 rfl rfl) Try.underlying3 rfl ((ow40.own (k := 0) rfl).cell rfl)) nd ?_
    refine U.p rfl rfl (.inl rfl) (S.maxI rfl (L 0 rfl rfl) K) ?_
    obtain ⟨xs48, hx49, h50⟩ := bindS h47
    refine O.make (R := RT.bool) ow40 rfl rfl (.inl rfl) rfl (L 0 rfl rfl) (L 0 rfl rfl) Try.underlying47 ti4 rfl rfl rfl (Nat.le_of_ble_eq_true rfl) rfl hx49 (fun _ => nd) (fun v51 V52 le53 ow54 => ?_)
    obtain ⟨x56, hx57, h58⟩ := bindS h50
    obtain ⟨b59, o60, n61, c62, hv63⟩ := ow54.sspt (k := 2) rfl hx57
    refine U.p rfl rfl (.inl rfl) (S.index rfl ((L 5 rfl rfl).trans (ow54.sslen' (k := 2) rfl hv63)) (L 4 rfl rfl) Try.underlying45 ti47 (ix_ge hx57) (ix_lt hx57)) ?_
    obtain ⟨h64, hh65, ow66⟩ := ow54.ssopen (k := 2) rfl hx57
    have ow68 := ow66.drop 0 rfl
    refine O.storeH (k := 2) ow68 rfl hv63 rfl rfl (.inl rfl) rfl (L 0 rfl rfl) (L 1 rfl rfl) ti47 (ow68.osne (k := 0) rfl) (by rw [ow68.oscells (k := 0) rfl]) (ow68.osone (k := 0) rfl) (fun _ _ => nd) (fun V69 le70 ow71 => ?_)
    have hh72 := ow71.shset (k := 2) rfl
    refine U.done (Nat.le_of_ble_eq_true rfl) ?_
    refine WP.ureg rfl ?_
    refine U.p rfl rfl (.inl rfl) (S.move rfl (L 12 rfl rfl)) ?_
    refine U.p rfl rfl (.inl rfl) (S.move rfl (L 8 rfl rfl)) ?_
    refine U.k rfl rfl (.inl rfl) (S.loadB rfl (L 12 rfl rfl) Try.underlying24 rfl ti24 (ow71.own (k := 1) rfl).get rfl) nd ?_
    refine U.p rfl rfl (.inl rfl) (S.move rfl (L 10 rfl rfl)) ?_
    have f73 := f2.up (((((le7.trans le16).trans le25).trans le39).trans le53).trans le70)
    obtain ⟨x74, hx75, h76⟩ := bindS h58
    refine O.call (V := V69) rfl rfl (.inl rfl) rfl en13 (aC (L 1 rfl rfl) (aC (L 0 rfl rfl) aN)) (wk_flow_Next V69 _ p0 x32 v1 f73 ow71 _ hx75) (fun _ _ _ _ => nd) (fun v77 V78 le79 hp80 => ?_)
    obtain ⟨_, rfl, ow81⟩ := hp80
    obtain ⟨x84, hx85, h86⟩ := bindS h76
    obtain ⟨b87, o88, n89, c90, hv91⟩ := ow81.sspt (k := 4) rfl hx85
    refine U.p rfl rfl (.inl rfl) (S.index rfl ((L 4 rfl rfl).trans (ow81.sslen' (k := 4) rfl hv91)) (L 3 rfl rfl) Try.underlying46 ti31 (ix_ge hx85) (ix_lt hx85)) ?_
    obtain ⟨h92, hh93, ow94⟩ := ow81.ssopen (k := 4) rfl hx85
    have ow96 := ow94.drop 0 rfl
    refine O.storeH (k := 4) ow96 rfl hv91 rfl rfl (.inl rfl) rfl (L 0 rfl rfl) (L 1 rfl rfl) ti31 (ow96.osne (k := 0) rfl) (by rw [ow96.oscells (k := 0) rfl]) (ow96.osone (k := 0) rfl) (fun _ _ => nd) (fun V97 le98 ow99 => ?_)
    have hh100 := ow99.shset (k := 4) rfl
    refine U.done (Nat.le_of_ble_eq_true rfl) ?_
    refine blkN (sqN ?_)
    refine WP.ureg rfl ?_
    refine U.p rfl rfl (.inl rfl) (S.add rfl (L 20 rfl rfl) K) ?_
    refine U.p rfl rfl (.inl rfl) (S.move rfl (L 0 rfl rfl)) ?_
    refine U.done (Nat.le_of_ble_eq_true rfl) ?_
    refine sqN ?_
    have ow101 := ow99.ssclose (k := 3) (j := 1) rfl rfl (by decide) hh72
    have ow102 := ow101.ssclose (k := 3) (j := 0) rfl rfl (by decide) hh100
    exact ⟨_, V97, rfl, ⟨m41, Nat.lt_succ_self _, hs28.set (Int.toNat x32) v51, xs29.set (Int.toNat x32) xs48, hs30.set (Int.toNat x32) v77, xs31.set (Int.toNat x32) x74, w64 (x32 + 1), rfl, ((((le39.trans le53).trans le70).trans le79).trans le98), ow102, backS h86 e43⟩, (allCons (L 18 rfl rfl) (allCons (L 19 rfl rfl) (allCons (L 20 rfl rfl) (allCons (L 21 rfl rfl) (allCons (L 0 rfl rfl) allNil)))))⟩
  · have h103 := ifF c46 h45
    refine WP.exit ?_
    refine sqE (sqE (blkE (sqN ?_)))
    have h104 := exitS h103 e43
    refine WP.seq ?_
    refine WP.usreg rfl ?_
    refine U.p rfl rfl (.inl rfl) (S.assign rfl K) ?_
    refine U.done (Nat.le_of_ble_eq_true rfl) ?_
    refine WP.blk ?_
    unfold flow_Live_l2 at h104
    obtain ⟨n108, hn107⟩ := loopO_some.1 h104
    refine WP.loopI2 (fun n l V' => ∃ (xs105 : List (List Bool)) (x106 : Bool), l = [(1, .pointer (some ⟨b5, 0, none⟩)), (3, v13), (4, v22), (6, .bool x106)] ∧ V38.le V' ∧ Ow V' (.pt b5 (.cells 0 [.string p0.name, .int .i64 p0.params, .int .i64 p0.regs, v1]) :: .oss (RO.os RT.bool) v13 hs28 xs105 :: .oss (RO.os (RT.int .i64)) v22 hs30 xs31 :: Rs) ∧ itO (fun s => flow_Live_l2b p0 xs31 s.1 s.2) n (xs105, x106) = some r) n108 _ ⟨xs29, true, rfl, .refl _, ow40, hn107⟩ (allCons (L 2 rfl rfl) (allCons (L 3 rfl rfl) (allCons (L 4 rfl rfl) (allCons (L 0 rfl rfl) allNil)))) ?_
    rintro _ _ V109 ⟨xs105, x106, rfl, le110, ow111, h115⟩
    obtain ⟨m112, q113, rfl, h116, e114⟩ := itS h115
    replace h116 : flow_Live_l2b p0 xs31 xs105 x106 = some q113 := h116
    unfold flow_Live_l2b at h116
    refine WP.seq ?_
    refine WP.usreg rfl ?_
    refine U.p rfl rfl (.inl rfl) (S.move rfl (L 3 rfl rfl)) ?_
    refine U.done (Nat.le_of_ble_eq_true rfl) ?_
    refine WP.cond _ (L 0 rfl rfl) rfl (fun c117 => ?_) (fun c117 => ?_)
    · have h118 := ifT c117 h116
      refine WP.skip ?_
      refine sqN ?_
      refine WP.blk ?_
      refine WP.usreg rfl ?_
      refine U.p rfl rfl (.inl rfl) (S.assign rfl K) ?_
      refine U.done (Nat.le_of_ble_eq_true rfl) ?_
      refine WP.usreg rfl ?_
      refine U.p (v := .pointer (some ⟨b5, 3, none⟩)) rfl rfl (.inl rfl) (S.fieldAddr rfl (L 2 rfl rfl) Try.underlying24 rfl ti22 rfl rfl) ?_
      refine U.k rfl rfl (.inl rfl) (S.load rfl (L 0 rfl rfl) Try.underlying22 rfl ((ow111.own (k := 0) rfl).cell rfl)) nd ?_
      refine U.p rfl rfl (.inl rfl) (f2.1.len rfl (L 0 rfl rfl) Try.underlying22) ?_
      refine U.p rfl rfl (.inl rfl) (S.sub rfl (L 0 rfl rfl) K) ?_
      refine U.p rfl rfl (.inl rfl) (S.assign rfl (L 0 rfl rfl)) ?_
      refine U.done (Nat.le_of_ble_eq_true rfl) ?_
      refine WP.blk ?_
      unfold flow_Live_l3 at h118
      obtain ⟨n123, hn122⟩ := loopO_some.1 h118
      refine WP.loopI2 (fun n l V' => ∃ (xs119 : List (List Bool)) (x120 : Bool) (x121 : Int), l = [(1, .pointer (some ⟨b5, 0, none⟩)), (3, v13), (4, v22), (6, .bool x120), (7, .int .i64 x121)] ∧ V109.le V' ∧ Ow V' (.pt b5 (.cells 0 [.string p0.name, .int .i64 p0.params, .int .i64 p0.regs, v1]) :: .oss (RO.os RT.bool) v13 hs28 xs119 :: .oss (RO.os (RT.int .i64)) v22 hs30 xs31 :: Rs) ∧ itO (fun s => flow_Live_l3b p0 xs31 s.1 s.2.1 s.2.2) n (xs119, x120, x121) = some q113) n123 _ ⟨xs105, false, w64 ((p0.code.length : Int) - 1), rfl, .refl _, ow111, hn122⟩ (allCons (L 7 rfl rfl) (allCons (L 8 rfl rfl) (allCons (L 9 rfl rfl) (allCons (L 5 rfl rfl) (allCons (L 0 rfl rfl) allNil))))) ?_
      rintro _ _ V124 ⟨xs119, x120, x121, rfl, le125, ow126, h130⟩
      obtain ⟨m127, q128, rfl, h131, e129⟩ := itS h130
      replace h131 : flow_Live_l3b p0 xs31 xs119 x120 x121 = some q128 := h131
      unfold flow_Live_l3b at h131
      refine WP.seq ?_
      refine WP.usreg rfl ?_
      refine U.p rfl rfl (.inl rfl) (S.move rfl (L 4 rfl rfl)) ?_
      refine U.p rfl rfl (.inl rfl) (S.geq rfl (L 0 rfl rfl) K) ?_
      refine U.done (Nat.le_of_ble_eq_true rfl) ?_
      refine WP.cond _ (L 0 rfl rfl) rfl (fun c132 => ?_) (fun c132 => ?_)
      · have h133 := ifT c132 h131
        refine WP.skip ?_
        refine sqN ?_
        refine WP.seqI (fun l V' => ∃ (xs134 : List (List Bool)) (x135 : Bool), l = [(1, .pointer (some ⟨b5, 0, none⟩)), (3, v13), (4, v22), (6, .bool x135), (7, .int .i64 x121)] ∧ V124.le V' ∧ Ow V' (.pt b5 (.cells 0 [.string p0.name, .int .i64 p0.params, .int .i64 p0.regs, v1]) :: .oss (RO.os RT.bool) v13 hs28 xs134 :: .oss (RO.os (RT.int .i64)) v22 hs30 xs31 :: Rs) ∧ flow_Live_k1 x121 xs134 x135 = some q128) ?_ ?_
        · rintro _ V136 ⟨xs134, x135, rfl, le137, ow138, h139⟩
          unfold flow_Live_k1 at h139
          refine WP.ureg rfl ?_
          refine U.p rfl rfl (.inl rfl) (S.move rfl (L 4 rfl rfl)) ?_
          refine U.p rfl rfl (.inl rfl) (S.sub rfl (L 0 rfl rfl) K) ?_
          refine U.p rfl rfl (.inl rfl) (S.assign rfl (L 0 rfl rfl)) ?_
          refine U.done (Nat.le_of_ble_eq_true rfl) ?_
          refine sqN ?_
          exact ⟨_, V136, rfl, ⟨m127, Nat.lt_succ_self _, xs134, x135, w64 (x121 - 1), rfl, (le125.trans le137), ow138, backS h139 e129⟩, (allCons (L 3 rfl rfl) (allCons (L 4 rfl rfl) (allCons (L 5 rfl rfl) (allCons (L 6 rfl rfl) (allCons (L 0 rfl rfl) allNil)))))⟩
        · skip
          refine WP.blk ?_
          refine WP.usreg rfl ?_
          refine U.p (v := .pointer (some ⟨b5, 2, none⟩)) rfl rfl (.inl rfl) (S.fieldAddr rfl (L 2 rfl rfl) Try.underlying24 rfl ti3 rfl rfl) ?_
          refine U.k rfl rfl (.inl rfl) (S.load rfl (L 0 rfl rfl) Try.underlying3 rfl ((ow126.own (k := 0) rfl).cell rfl)) nd ?_
          refine U.p rfl rfl (.inl rfl) (S.maxI rfl (L 0 rfl rfl) K) ?_
          obtain ⟨xs140, hx141, h142⟩ := bindS h133
          refine O.make (R := RT.bool) ow126 rfl rfl (.inl rfl) rfl (L 0 rfl rfl) (L 0 rfl rfl) Try.underlying47 ti4 rfl rfl rfl (Nat.le_of_ble_eq_true rfl) rfl hx141 (fun _ => nd) (fun v143 V144 le145 ow146 => ?_)
          refine U.p rfl rfl (.inl rfl) (S.assign rfl (L 0 rfl rfl)) ?_
          refine U.done (Nat.le_of_ble_eq_true rfl) ?_
          refine WP.seq ?_
          refine WP.usreg rfl ?_
          refine U.p rfl rfl (.inl rfl) (S.move rfl (L 9 rfl rfl)) ?_
          refine U.p rfl rfl (.inl rfl) (S.move rfl (L 12 rfl rfl)) ?_
          obtain ⟨x148, hx149, h150⟩ := bindS h142
          obtain ⟨b151, o152, n153, c154, hv155⟩ := ow146.sspt (k := 3) rfl hx149
          refine U.p rfl rfl (.inl rfl) (S.index rfl ((L 1 rfl rfl).trans (ow146.sslen' (k := 3) rfl hv155)) (L 0 rfl rfl) Try.underlying46 ti31 (ix_ge hx149) (ix_lt hx149)) ?_
          obtain ⟨h156, hh157, ow158⟩ := ow146.ssopen (k := 3) rfl hx149
          have hcl160 := ow158.shcell (k := 4) rfl hv155 hh157
          refine U.k rfl rfl (.inl rfl) (S.load rfl (L 0 rfl rfl) Try.underlying31 rfl hcl160.2) nd ?_
          refine U.p rfl rfl (.inl rfl) (ow158.oslen (k := 0) rfl rfl (L 0 rfl rfl) Try.underlying31) ?_
          refine U.p rfl rfl (.inl rfl) (S.move rfl K) ?_
          refine U.done (Nat.le_of_ble_eq_true rfl) ?_
          refine WP.blk ?_
          have ow161 := ow158.ssclose' (k := 4) (j := 0) rfl rfl (by decide) hh157 hx149
          have ow164 := ow161.pick 0 rfl
          have ow165 := ow164.pick 3 rfl
          have ow166 := ow165.pick 3 rfl
          have ow167 := ow166.pick 3 rfl
          unfold flow_Live_l4 at h150
          obtain ⟨n169, hn168⟩ := loopO_some.1 h150
          refine WP.loopI2 (fun n l V' => ∃ (xs162 : List Bool) (x163 : Int), l = [(1, .pointer (some ⟨b5, 0, none⟩)), (3, v13), (4, v22), (6, .bool x120), (7, .int .i64 x121), (8, v143), (57, h156), (58, .int .i64 (x148.length : Int)), (59, .int .i64 x163)] ∧ V144.le V' ∧ Ow V' (.pt b5 (.cells 0 [.string p0.name, .int .i64 p0.params, .int .i64 p0.regs, v1]) :: .oss (RO.os RT.bool) v13 hs28 xs119 :: .oss (RO.os (RT.int .i64)) v22 hs30 xs31 :: .os RT.bool v143 xs162 :: Rs) ∧ itO (fun s => flow_Live_l4b p0 xs31 xs119 x120 x121 x148 s.1 s.2) n (xs162, x163) = some q128) n169 _ ⟨xs140, 0, rfl, .refl _, ow167, hn168⟩ (allCons (L 13 rfl rfl) (allCons (L 14 rfl rfl) (allCons (L 15 rfl rfl) (allCons (L 16 rfl rfl) (allCons (L 17 rfl rfl) (allCons (L 6 rfl rfl) (allCons (L 2 rfl rfl) (allCons (L 1 rfl rfl) (allCons (L 0 rfl rfl) allNil))))))))) ?_
          rintro _ _ V170 ⟨xs162, x163, rfl, le171, ow172, h176⟩
          obtain ⟨m173, q174, rfl, h177, e175⟩ := itS h176
          replace h177 : flow_Live_l4b p0 xs31 xs119 x120 x121 x148 xs162 x163 = some q174 := h177
          unfold flow_Live_l4b at h177
          refine WP.usreg rfl ?_
          refine U.p rfl rfl (.inl rfl) (S.lss rfl (L 8 rfl rfl) (L 7 rfl rfl)) ?_
          refine U.done (Nat.le_of_ble_eq_true rfl) ?_
          refine WP.seq ?_
          refine WP.cond _ (L 0 rfl rfl) rfl (fun c178 => ?_) (fun c178 => ?_)
          · have h179 := ifT c178 h177
            refine WP.skip ?_
            refine sqN ?_
            refine WP.seq ?_
            refine WP.blk ?_
            refine WP.usreg rfl ?_
            obtain ⟨x180, hx181, h182⟩ := bindS h179
            obtain ⟨h183, hh184, ow185⟩ := ow172.ssopen (k := 2) rfl hx181
            obtain rfl : h183 = h156 := Option.some.inj (hh184.symm.trans hh157)
            obtain ⟨x187, hx188, h189⟩ := bindS h182
            obtain ⟨b190, o191, n192, c193, hv194⟩ := ow185.ospt (k := 0) rfl hx188
            obtain ⟨_, hv195, _⟩ := ow185.osel (k := 0) rfl hv194 hx188
            refine U.p rfl rfl (.inl rfl) (S.index rfl ((L 7 rfl rfl).trans hv195) (L 9 rfl rfl) Try.underlying31 ti3 (ix_ge hx188) (ix_lt hx188)) ?_
            obtain ⟨cs196, hv197, hlt198, hr199, hc200⟩ := ow185.osel (k := 0) rfl hv194 hx188
            obtain rfl : cs196 = [.int .i64 x187] := hr199
            refine U.k rfl rfl (.inl rfl) (S.load rfl (L 0 rfl rfl) Try.underlying3 rfl (hc200 0 _ rfl)) nd ?_
            refine U.p rfl rfl (.inl rfl) (S.assign rfl (L 0 rfl rfl)) ?_
            refine U.done (Nat.le_of_ble_eq_true rfl) ?_
            refine WP.ureg rfl ?_
            refine U.p rfl rfl (.inl rfl) (S.move rfl (L 9 rfl rfl)) ?_
            refine U.p rfl rfl (.inl rfl) (S.move rfl (L 6 rfl rfl)) ?_
            refine U.p rfl rfl (.inl rfl) (S.move rfl (L 2 rfl rfl)) ?_
            obtain ⟨x201, hx202, h203⟩ := bindS h189
            obtain ⟨b204, o205, n206, c207, hv208⟩ := ow185.sspt (k := 2) rfl hx202
            refine U.p rfl rfl (.inl rfl) (S.index rfl ((L 1 rfl rfl).trans (ow185.sslen' (k := 2) rfl hv208)) (L 0 rfl rfl) Try.underlying45 ti47 (ix_ge hx202) (ix_lt hx202)) ?_
            obtain ⟨h209, hh210, ow211⟩ := ow185.ssopen (k := 2) rfl hx202
            have hcl213 := ow211.shcell (k := 3) rfl hv208 hh210
            refine U.k rfl rfl (.inl rfl) (S.load rfl (L 0 rfl rfl) Try.underlying47 rfl hcl213.2) nd ?_
            have ow214 := ow211.pick 5 rfl
            obtain ⟨x215, hx216, h217⟩ := bindS h203
            refine O.call (V := V170) rfl rfl (.inl rfl) rfl en21 (aC (L 4 rfl rfl) (aC (L 0 rfl rfl) aN)) (wk_flow_set_merge V170 _ xs162 x201 v143 h209 ow214 _ hx216) (fun _ _ _ _ => nd) (fun v218 V219 le220 hp221 => ?_)
            obtain ⟨rfl, ow222⟩ := hp221
            refine U.done (Nat.le_of_ble_eq_true rfl) ?_
            refine blkN (sqN ?_)
            refine WP.ureg rfl ?_
            refine U.p rfl rfl (.inl rfl) (S.add rfl (L 18 rfl rfl) K) ?_
            refine U.p rfl rfl (.inl rfl) (S.move rfl (L 0 rfl rfl)) ?_
            refine U.done (Nat.le_of_ble_eq_true rfl) ?_
            refine sqN ?_
            have ow223 := ow222.ssclose' (k := 4) (j := 1) rfl rfl (by decide) hh210 hx202
            have ow224 := ow223.ssclose' (k := 4) (j := 1) rfl rfl (by decide) hh157 hx181
            have ow225 := ow224.pick 0 rfl
            have ow226 := ow225.pick 3 rfl
            have ow227 := ow226.pick 3 rfl
            have ow228 := ow227.pick 3 rfl
            exact ⟨_, V219, rfl, ⟨m173, Nat.lt_succ_self _, x215.2, w64 (x163 + 1), rfl, (le171.trans le220), ow228, backS h217 e175⟩, (allCons (L 12 rfl rfl) (allCons (L 13 rfl rfl) (allCons (L 14 rfl rfl) (allCons (L 15 rfl rfl) (allCons (L 16 rfl rfl) (allCons (L 17 rfl rfl) (allCons (L 18 rfl rfl) (allCons (L 19 rfl rfl) (allCons (L 0 rfl rfl) allNil)))))))))⟩
          · have h229 := ifF c178 h177
            refine WP.exit ?_
            refine sqE (sqE (blkE (sqN ?_)))
            have h230 := exitS h229 e175
            refine WP.usdreg rfl rfl rfl ?_
            refine U.p rfl rfl (.inl rfl) (S.move rfl (L 2 rfl rfl)) ?_
            refine U.p rfl rfl (.inl rfl) (S.move rfl (L 6 rfl rfl)) ?_
            obtain ⟨x231, hx232, h233⟩ := bindS h230
            obtain ⟨b234, o235, n236, c237, hv238⟩ := ow172.sspt (k := 1) rfl hx232
            refine U.p rfl rfl (.inl rfl) (S.index rfl ((L 1 rfl rfl).trans (ow172.sslen' (k := 1) rfl hv238)) (L 0 rfl rfl) Try.underlying45 ti47 (ix_ge hx232) (ix_lt hx232)) ?_
            obtain ⟨h239, hh240, ow241⟩ := ow172.ssopen (k := 1) rfl hx232
            have hcl243 := ow241.shcell (k := 2) rfl hv238 hh240
            refine U.k rfl rfl (.inl rfl) (S.load rfl (L 0 rfl rfl) Try.underlying47 rfl hcl243.2) (fun _ => (okH.nil (fun r h => by cases h; exact hcl243.1))) ?_
            refine U.p (v := .pointer (some ⟨b5, 3, none⟩)) rfl rfl (.inl rfl) (S.fieldAddr rfl (L 5 rfl rfl) Try.underlying24 rfl ti22 rfl rfl) ?_
            refine U.k rfl rfl (.inl rfl) (S.load rfl (L 0 rfl rfl) Try.underlying22 rfl ((ow241.own (k := 1) rfl).cell rfl)) (fun _ => (okH.cons trivial (okH.nil (fun r h => by cases h; exact (ow241.own (k := 1) rfl).lt)))) ?_
            refine U.p rfl rfl (.inl rfl) (S.move rfl (L 11 rfl rfl)) ?_
            obtain ⟨x244, hx245, h246⟩ := bindS h233
            obtain ⟨b247, o248, c249, cs250, hv251, hf252, hr253, hc254⟩ := f2.at hx245
            obtain ⟨v255, rfl, f256⟩ := hr253
            refine U.p rfl rfl (.inl rfl) (S.index rfl ((L 1 rfl rfl).trans hv251) (L 0 rfl rfl) Try.underlying22 ti33 (ix_ge hx245) (ix_lt hx245)) ?_
            refine U.k rfl rfl (.inl rfl) (S.loadN (cs := [.int .i64 x244.op, .int .i64 x244.d, .int .i64 x244.a, .int .i64 x244.b, .int .i64 x244.imm, v255, .int .i64 x244.what, .bool x244.volatile, .bool x244.final]) rfl (L 0 rfl rfl) Try.underlying33 rfl ti33 rfl (fun j v hj => (((((((le7.trans le16).trans le25).trans le39).trans le110).trans le125).trans le145).trans le171).cell hf252 (hc254 j v hj))) (fun _ => (okH.cons trivial (okH.cons trivial (okH.nil (fun r h => by cases h; exact (V170.wf _ ((((((((le7.trans le16).trans le25).trans le39).trans le110).trans le125).trans le145).trans le171).sub _ hf252))))))) ?_
            refine U.p rfl rfl (.inl rfl) (S.move rfl (L 15 rfl rfl)) ?_
            have f257 := f256.up (((((((le7.trans le16).trans le25).trans le39).trans le110).trans le125).trans le145).trans le171)
            have ow258 := ow241.pick 4 rfl
            obtain ⟨x259, hx260, h261⟩ := bindS h246
            obtain ⟨q267, ow268⟩ := ow258.toEx 3 rfl
            refine O.call (V := V170) rfl rfl (.inl rfl) rfl en22 (aC (L 1 rfl rfl) (aC (L 0 rfl rfl) aN)) (wk_flow_step V170 _ x244 xs162 v255 v143 f257 ow268 _ hx260) (fun v262 V263 le264 hp265 => by obtain ⟨_, rfl, ow266⟩ := hp265; exact (fun _ => (okH.cons (Or.inl rfl) (okH.cons (Or.inl rfl) (okH.cons (Or.inr (ow268.exsame (k := 3) (j := 4) rfl ow266 rfl (fun h => exb_sh hv238 h))) (okH.nil (fun r h => nomatch h))))))) (fun v262 V263 le264 hp265 => ?_)
            obtain ⟨_, rfl, ow266⟩ := hp265
            have ow271 := ow266.unEx 4 rfl
            have ow272 := ow271.pick 2 rfl
            obtain ⟨x273, hx274, h275⟩ := bindS h261
            refine O.call (V := V263) rfl rfl (.inl rfl) rfl en21 (aC (L 7 rfl rfl) (aC (L 0 rfl rfl) aN)) (wk_flow_set_merge V263 _ x231 x259 h239 v262 ow272 _ hx274) (fun v276 V277 le278 hp279 => by obtain ⟨rfl, ow280⟩ := hp279; exact (fun _ => (okH.cons rfl (okH.cons (Or.inl rfl) (okH.cons (Or.inl rfl) (okH.cons (Or.inl rfl) (okH.nil (fun r h => nomatch h)))))))) (fun v276 V277 le278 hp279 => ?_)
            obtain ⟨rfl, ow280⟩ := hp279
            refine U.done (Nat.le_of_ble_eq_true rfl) ?_
            refine WP.cond _ (L 0 rfl rfl) rfl (fun c281 => ?_) (fun c281 => ?_)
            · have h282 := ifT c281 h275
              refine WP.ureg rfl ?_
              refine U.p rfl rfl (.inl rfl) (S.assign rfl K) ?_
              refine U.done (Nat.le_of_ble_eq_true rfl) ?_
              refine blkN (sqN ?_)
              have ow283 := ow280.ssclose (k := 4) (j := 0) rfl rfl (by decide) hh240
              have ow284 := ow283.drop 0 rfl
              have ow285 := ow284.drop 0 rfl
              exact ⟨_, V277, rfl, ⟨xs119.set (Int.toNat x121) x273.2, true, rfl, (((le145.trans le171).trans le264).trans le278), ow285, h282⟩, (allCons (L 14 rfl rfl) (allCons (L 15 rfl rfl) (allCons (L 16 rfl rfl) (allCons (L 0 rfl rfl) (allCons (L 18 rfl rfl) allNil)))))⟩
            · have h286 := ifF c281 h275
              refine WP.skip ?_
              refine blkN (sqN ?_)
              have ow287 := ow280.ssclose (k := 4) (j := 0) rfl rfl (by decide) hh240
              have ow288 := ow287.drop 0 rfl
              have ow289 := ow288.drop 0 rfl
              exact ⟨_, V277, rfl, ⟨xs119.set (Int.toNat x121) x273.2, x120, rfl, (((le145.trans le171).trans le264).trans le278), ow289, h286⟩, (allCons (L 13 rfl rfl) (allCons (L 14 rfl rfl) (allCons (L 15 rfl rfl) (allCons (L 16 rfl rfl) (allCons (L 17 rfl rfl) allNil)))))⟩
      · have h290 := ifF c132 h131
        refine WP.exit ?_
        refine sqE (sqE (blkE (blkN (sqN ?_))))
        have h291 := exitS h290 e129
        exact ⟨_, V124, rfl, ⟨m112, Nat.lt_succ_self _, xs119, x120, rfl, (le110.trans le125), ow126, backS h291 e114⟩, (allCons (L 2 rfl rfl) (allCons (L 3 rfl rfl) (allCons (L 4 rfl rfl) (allCons (L 5 rfl rfl) allNil))))⟩
    · have h292 := ifF c117 h116
      refine WP.exit ?_
      refine sqE (sqE (blkE (sqN ?_)))
      have h293 := exitS h292 e114
      refine WP.usreg rfl ?_
      refine U.p rfl rfl (.inl rfl) (S.assign rfl K) ?_
      refine U.done (Nat.le_of_ble_eq_true rfl) ?_
      refine WP.seq ?_
      refine WP.usreg rfl ?_
      refine U.p rfl rfl (.inl rfl) (S.move rfl (L 3 rfl rfl)) ?_
      refine U.p rfl rfl (.inl rfl) (ow111.sslen (k := 1) rfl rfl (L 0 rfl rfl) Try.underlying45) ?_
      refine U.p rfl rfl (.inl rfl) (S.move rfl K) ?_
      refine U.done (Nat.le_of_ble_eq_true rfl) ?_
      refine WP.blk ?_
      have ow301 := ow111.nil (RT.sl RT.bool)
      obtain ⟨V303, eV307, le304, f305, ow306, fi308⟩ := ow301.ssfz (k := 2) rfl
      rw [← eV307]
      have ow309 := ow306.drop 1 rfl
      have ow310 := ow309.drop 1 rfl
      unfold flow_Live_l5 at h293
      obtain ⟨n312, hn311⟩ := loopO_some.1 h293
      refine WP.loopI2 (fun n l V' => ∃ (v295 : Value) (xs296 : List (List Bool)) (xs297 : List (List Bool)) (v298 : Value) (x300 : Int), l = [(11, v295), (82, v298), (83, .int .i64 (xs105.length : Int)), (84, .int .i64 x300)] ∧ V303.le V' ∧ Fz (RT.sl RT.bool) V' v298 xs297 ∧ Ow V' (.os (RT.sl RT.bool) v295 xs296 :: Rs) ∧ itO (fun s => flow_Live_l5b xs105 s.1 s.2.1 s.2.2) n (xs296, xs297, x300) = some r) n312 _ ⟨(.slice none 0 0), [], xs105, v13, 0, rfl, .refl _, f305, ow310, hn311⟩ (allCons (L 3 rfl rfl) (allCons (L 2 rfl rfl) (allCons (L 1 rfl rfl) (allCons (L 0 rfl rfl) allNil)))) ?_
      rintro _ _ V313 ⟨v295, xs296, xs297, v298, x300, rfl, le314, f299, ow315, h319⟩
      obtain ⟨m316, q317, rfl, h320, e318⟩ := itS h319
      replace h320 : flow_Live_l5b xs105 xs296 xs297 x300 = some q317 := h320
      unfold flow_Live_l5b at h320
      refine WP.usreg rfl ?_
      refine U.p rfl rfl (.inl rfl) (S.lss rfl (L 3 rfl rfl) (L 2 rfl rfl)) ?_
      refine U.done (Nat.le_of_ble_eq_true rfl) ?_
      refine WP.seq ?_
      refine WP.cond _ (L 0 rfl rfl) rfl (fun c321 => ?_) (fun c321 => ?_)
      · have h322 := ifT c321 h320
        refine WP.skip ?_
        refine sqN ?_
        refine WP.seq ?_
        refine WP.blk ?_
        refine WP.usreg rfl ?_
        obtain ⟨x323, hx324, h325⟩ := bindS h322
        obtain ⟨b326, o327, c328, cs329, hv330, hf331, hr332, hc333⟩ := f299.at hx324
        obtain ⟨v334, rfl, f335⟩ := hr332
        refine U.p rfl rfl (.inl rfl) (S.index rfl ((L 2 rfl rfl).trans hv330) (L 4 rfl rfl) Try.underlying45 ti47 (ix_ge hx324) (ix_lt hx324)) ?_
        refine U.k rfl rfl (.inl rfl) (S.load rfl (L 0 rfl rfl) Try.underlying47 rfl (hc333 0 _ rfl)) nd ?_
        refine U.p rfl rfl (.inl rfl) (S.assign rfl (L 0 rfl rfl)) ?_
        refine U.done (Nat.le_of_ble_eq_true rfl) ?_
        refine WP.ureg rfl ?_
        refine U.p rfl rfl (.inl rfl) (S.move rfl (L 4 rfl rfl)) ?_
        refine U.p rfl rfl (.inl rfl) (S.move rfl (L 1 rfl rfl)) ?_
        refine O.lit (R := (RT.sl RT.bool)) ow315 rfl rfl (.inl rfl) rfl Try.underlying27 ti29 rfl rfl rfl (Nat.le_of_ble_eq_true rfl) rfl (aC (L 0 rfl rfl) aN) (.cons _ _ x323 _ f335.ne ⟨_, (by rw [f335.cells]), f335⟩ .nil) (fun _ => nd) (fun v336 V337 le338 ow339 => ?_)
        obtain ⟨xs341, hx342, h343⟩ := bindS h325
        refine O.append (k := 1) ow339 rfl rfl rfl (.inl rfl) rfl (L 2 rfl rfl) (L 0 rfl rfl) Try.underlying27 ti29 rfl rfl (Nat.le_of_ble_eq_true rfl) (ow339.src (k := 0) rfl Try.underlying27) hx342 (fun _ _ => nd) (fun v344 V345 le346 ow347 => ?_)
        refine U.p rfl rfl (.inl rfl) (S.assign rfl (L 0 rfl rfl)) ?_
        refine U.done (Nat.le_of_ble_eq_true rfl) ?_
        refine blkN (sqN ?_)
        refine WP.ureg rfl ?_
        refine U.p rfl rfl (.inl rfl) (S.add rfl (L 12 rfl rfl) K) ?_
        refine U.p rfl rfl (.inl rfl) (S.move rfl (L 0 rfl rfl)) ?_
        refine U.done (Nat.le_of_ble_eq_true rfl) ?_
        refine sqN ?_
        have ow349 := ow347.drop 0 rfl
        have f350 := f299.up (le338.trans le346)
        exact ⟨_, V345, rfl, ⟨m316, Nat.lt_succ_self _, v344, xs341, xs297, v298, w64 (x300 + 1), rfl, ((le314.trans le338).trans le346), f350, ow349, backS h343 e318⟩, (allCons (L 2 rfl rfl) (allCons (L 12 rfl rfl) (allCons (L 13 rfl rfl) (allCons (L 0 rfl rfl) allNil))))⟩
      · have h351 := ifF c321 h320
        refine WP.exit ?_
        refine sqE (sqE (blkE (sqN ?_)))
        have h352 := exitS h351 e318
        refine WP.usreg rfl ?_
        refine U.p rfl rfl (.inl rfl) (S.move rfl (L 1 rfl rfl)) ?_
        refine U.p rfl rfl (.inl rfl) (S.assign rfl (L 0 rfl rfl)) ?_
        refine U.done (Nat.le_of_ble_eq_true rfl) ?_
        refine WP.ret ?_
        refine fin.slot (.inr rfl) rfl (L 0 rfl rfl) ⟨V313, rfl, ((((((le7.trans le16).trans le25).trans le39).trans le110).trans le304).trans le314), ?_⟩
        have e353 := Option.some.inj h352
        subst e353
        exact ⟨v295, rfl, ow315⟩

set_option maxHeartbeats 4000000 in
set_option maxRecDepth 10000 in
theorem wk_law10_alive (V : Vw) (Rs : List At) (ow : Ow V (Rs)) (r : Bool) (h : law10_alive = some r) : ∃ v V', Cl Try.prog 0 8 #[] V.H v V'.H ∧ V.le V' ∧ (v = .bool r ∧ Ow V' (Rs)) := by
  refine Ct.of (Nat.zero_le _) Try.func8 rfl (Nat.le_of_ble_eq_true rfl) ?_
  unfold law10_alive at h
  refine WP.usreg rfl ?_
  refine U.p rfl rfl (.inl rfl) (S.assign rfl K) ?_
  refine U.done (Nat.le_of_ble_eq_true rfl) ?_
  refine WP.usreg rfl ?_
  refine U.p (v := .agg #[.int .i64 1, .int .i64 0, .int .i64 (-1), .int .i64 (-1), .int .i64 0, .slice none 0 0, .int .i64 0, .bool false, .bool false]) rfl rfl (.inl rfl) (S.build (vs := [.int .i64 1, .int .i64 (-1), .int .i64 (-1)]) rfl ti33 rfl pl33 (aC K (aC K (aC K aN))) (allC (by simp [topV]) (allC (by simp [topV]) (allC (by simp [topV]) allN))) rfl) ?_
  refine U.p (v := .agg #[.int .i64 15, .int .i64 (-1), .int .i64 0, .int .i64 (-1), .int .i64 0, .slice none 0 0, .int .i64 0, .bool false, .bool false]) rfl rfl (.inl rfl) (S.build (vs := [.int .i64 15, .int .i64 (-1), .int .i64 0, .int .i64 (-1)]) rfl ti33 rfl pl33 (aC K (aC K (aC K (aC K aN)))) (allC (by simp [topV]) (allC (by simp [topV]) (allC (by simp [topV]) (allC (by simp [topV]) allN)))) rfl) ?_
  refine O.lit (R := RT_TIns) ow rfl rfl (.inl rfl) rfl Try.underlying22 ti33 rfl rfl rfl (Nat.le_of_ble_eq_true rfl) rfl (aC (L 1 rfl rfl) (aC (L 0 rfl rfl) aN)) (.cons _ _ (⟨1, 0, (-1), (-1), 0, [], 0, false, false⟩ : TIns) _ (by simp [topV]) ⟨_, rfl, Fz.nil⟩ (.cons _ _ (⟨15, (-1), 0, (-1), 0, [], 0, false, false⟩ : TIns) _ (by simp [topV]) ⟨_, rfl, Fz.nil⟩ .nil)) (fun _ => nd) (fun v1 V2 le3 ow4 => ?_)
  refine U.p (v := .agg #[.string ByteArray.empty, .int .i64 0, .int .i64 1, v1]) rfl rfl (.inl rfl) (S.build (vs := [.int .i64 1, v1]) rfl ti24 rfl pl24 (aC K (aC (L 0 rfl rfl) aN)) (allC (by simp [topV]) (allC (ow4.osne (k := 0) rfl) allN)) (fill1 rfl rfl (Nat.le_of_ble_eq_true rfl) (fill1 rfl (ow4.oscells (k := 0) rfl) (Nat.le_of_ble_eq_true rfl) rfl))) ?_
  refine O.alloc ow4 rfl rfl (.inl rfl) rfl ti24 rfl rfl nd (fun b6 V7 le8 ow9 => ?_)
  refine O.store (k := 0) (cs := [.string ByteArray.empty, .int .i64 0, .int .i64 1, v1]) (c' := [.string ByteArray.empty, .int .i64 0, .int .i64 1, v1]) ow9 rfl rfl rfl (.inl rfl) rfl (L 0 rfl rfl) (L 1 rfl rfl) ti24 (by simp [topV]) rfl rfl (Nat.le_of_ble_eq_true rfl) (by have q0 := (ow9.osone (k := 1) rfl); simp only [List.all_cons, List.all_nil, q0]; rfl) rfl nd (fun V11 le12 ow13 => ?_)
  refine U.done (Nat.le_of_ble_eq_true rfl) ?_
  refine WP.usreg rfl ?_
  refine U.k rfl rfl (.inl rfl) (S.loadB rfl (L 0 rfl rfl) Try.underlying24 rfl ti24 (ow13.own (k := 0) rfl).get rfl) nd ?_
  obtain ⟨V14, eV18, le15, f16, ow17⟩ := ow13.osfz (k := 1) rfl
  rw [← eV18]
  obtain ⟨x20, hx21, h22⟩ := bindS h
  refine O.call (V := V14) rfl rfl (.inl rfl) rfl en10 (aC (L 0 rfl rfl) aN) (wk_flow_Live V14 _ (⟨ByteArray.empty, 0, 1, [(⟨1, 0, (-1), (-1), 0, [], 0, false, false⟩ : TIns), (⟨15, (-1), 0, (-1), 0, [], 0, false, false⟩ : TIns)]⟩ : TFunc) v1 f16 ow17 _ hx21) (fun _ _ _ _ => nd) (fun v23 V24 le25 hp26 => ?_)
  obtain ⟨_, rfl, ow27⟩ := hp26
  refine U.p rfl rfl (.inl rfl) (S.assign rfl (L 0 rfl rfl)) ?_
  refine U.done (Nat.le_of_ble_eq_true rfl) ?_
  refine WP.usreg rfl ?_
  refine U.p rfl rfl (.inl rfl) (S.move rfl (L 0 rfl rfl)) ?_
  refine U.p rfl rfl (.inl rfl) (ow27.oslen (k := 0) rfl rfl (L 0 rfl rfl) Try.underlying27) ?_
  refine U.p rfl rfl (.inl rfl) (S.eqlI rfl (L 0 rfl rfl) K) ?_
  refine U.p rfl rfl (.inl rfl) (S.move rfl (L 0 rfl rfl)) ?_
  obtain ⟨y30, hy31, h32⟩ := bindS h22
  refine U.joinX 11 (fun e H => ∃ (u33 u34 u35 u36 u37 u38 : Value), H = V24.H ∧ e = [(19, .bool y30), (18, u33), (17, u34), (16, u35), (15, u36), (14, u37), (13, u38)]) ?_ ?_
  · rintro _ _ ⟨u33, u34, u35, u36, u37, u38, rfl, rfl⟩
    refine U.p rfl rfl (.inl rfl) (S.move rfl (L 0 rfl rfl)) ?_
    obtain ⟨y42, hy43, h44⟩ := bindS h32
    refine U.joinX 18 (fun e H => ∃ (u45 u46 u47 u48 u49 : Value), H = V24.H ∧ e = [(26, .bool y42), (25, u45), (24, u46), (23, u47), (22, u48), (21, u49)]) ?_ ?_
    · rintro _ _ ⟨u45, u46, u47, u48, u49, rfl, rfl⟩
      refine U.p rfl rfl (.inl rfl) (S.assign rfl (L 0 rfl rfl)) ?_
      refine U.done (Nat.le_of_ble_eq_true rfl) ?_
      refine WP.ret ?_
      refine fin.slot (.inr rfl) rfl (L 0 rfl rfl) ⟨V24, rfl, ((((le3.trans le8).trans le12).trans le15).trans le25), ?_⟩
      have ow53 := ow27.drop 0 rfl
      have ow54 := ow53.drop 0 rfl
      have e55 := Option.some.inj h44
      subst e55
      exact ⟨rfl, ow54⟩
    · intro kk
      refine bcase (b := y30) (fun g56 => ?_) (fun g56 => ?_)
      · have h57 := ifT g56 hy43
        refine U.p rfl rfl (.inr ⟨_, _, _, rfl, rfl, ((L 0 rfl rfl).trans (congrArg Value.bool g56))⟩) (S.move rfl (L 12 rfl rfl)) ?_
        obtain ⟨x58, hx59, h60⟩ := bindS h57
        obtain ⟨b61, o62, n63, c64, hv65⟩ := ow27.ospt (k := 0) rfl hx59
        obtain ⟨_, hv66, _⟩ := ow27.osel (k := 0) rfl hv65 hx59
        refine U.p rfl rfl (.inr ⟨_, _, _, rfl, rfl, ((L 1 rfl rfl).trans (congrArg Value.bool g56))⟩) (S.index rfl ((L 0 rfl rfl).trans hv66) K Try.underlying27 ti29 (ix_ge hx59) (ix_lt hx59)) ?_
        obtain ⟨cs67, hv68, hlt69, hr70, hc71⟩ := ow27.osel (k := 0) rfl hv65 hx59
        obtain ⟨v72, rfl, f73⟩ := hr70
        refine U.k rfl rfl (.inr ⟨_, _, _, rfl, rfl, ((L 2 rfl rfl).trans (congrArg Value.bool g56))⟩) (S.load rfl (L 0 rfl rfl) Try.underlying29 rfl (hc71 0 _ rfl)) nd ?_
        obtain ⟨x74, hx75, h76⟩ := bindS h60
        obtain ⟨b77, o78, c79, cs80, hv81, hf82, hr83, hc84⟩ := f73.at hx75
        obtain rfl : cs80 = [.bool x74] := hr83
        refine U.p rfl rfl (.inr ⟨_, _, _, rfl, rfl, ((L 3 rfl rfl).trans (congrArg Value.bool g56))⟩) (S.index rfl ((L 0 rfl rfl).trans hv81) K Try.underlying29 ti4 (ix_ge hx75) (ix_lt hx75)) ?_
        refine U.k rfl rfl (.inr ⟨_, _, _, rfl, rfl, ((L 4 rfl rfl).trans (congrArg Value.bool g56))⟩) (S.load rfl (L 0 rfl rfl) Try.underlying4 rfl (hc84 0 _ rfl)) nd ?_
        refine U.p rfl rfl (.inl rfl) (S.pickT rfl ((L 5 rfl rfl).trans (congrArg Value.bool g56)) (L 0 rfl rfl)) ?_
        have e85 := Option.some.inj h76
        subst e85
        exact kk [(26, .bool x74), (25, .bool x74), (24, .pointer (some ⟨b77, o78 + Int.toNat 0 * 1, none⟩)), (23, v72), (22, .pointer (some ⟨b61, o62 + Int.toNat 1 * 1, none⟩)), (21, v23)] _ ⟨.bool x74, .pointer (some ⟨b77, o78 + Int.toNat 0 * 1, none⟩), v72, .pointer (some ⟨b61, o62 + Int.toNat 1 * 1, none⟩), v23, rfl, rfl⟩
      · have h86 := ifF g56 hy43
        refine U.x rfl rfl rfl rfl ((L 0 rfl rfl).trans (congrArg Value.bool g56)) (by decide) ?_
        refine U.x rfl rfl rfl rfl ((L 1 rfl rfl).trans (congrArg Value.bool g56)) (by decide) ?_
        refine U.x rfl rfl rfl rfl ((L 2 rfl rfl).trans (congrArg Value.bool g56)) (by decide) ?_
        refine U.x rfl rfl rfl rfl ((L 3 rfl rfl).trans (congrArg Value.bool g56)) (by decide) ?_
        refine U.x rfl rfl rfl rfl ((L 4 rfl rfl).trans (congrArg Value.bool g56)) (by decide) ?_
        refine U.p rfl rfl (.inl rfl) (S.pickF rfl ((L 5 rfl rfl).trans (congrArg Value.bool g56)) K) ?_
        have e87 := Option.some.inj h86
        subst e87
        exact kk [(26, .bool false), (25, .tuple #[]), (24, .tuple #[]), (23, .tuple #[]), (22, .tuple #[]), (21, .tuple #[])] _ ⟨.tuple #[], .tuple #[], .tuple #[], .tuple #[], .tuple #[], rfl, rfl⟩
  · intro kk
    refine bcase (b := decide ((x20.length : Int) = 2)) (fun g88 => ?_) (fun g88 => ?_)
    · have h89 := ifT g88 hy31
      refine U.p rfl rfl (.inr ⟨_, _, _, rfl, rfl, ((L 0 rfl rfl).trans (congrArg Value.bool g88))⟩) (S.move rfl (L 4 rfl rfl)) ?_
      obtain ⟨x90, hx91, h92⟩ := bindS h89
      obtain ⟨b93, o94, n95, c96, hv97⟩ := ow27.ospt (k := 0) rfl hx91
      obtain ⟨_, hv98, _⟩ := ow27.osel (k := 0) rfl hv97 hx91
      refine U.p rfl rfl (.inr ⟨_, _, _, rfl, rfl, ((L 1 rfl rfl).trans (congrArg Value.bool g88))⟩) (S.index rfl ((L 0 rfl rfl).trans hv98) K Try.underlying27 ti29 (ix_ge hx91) (ix_lt hx91)) ?_
      obtain ⟨cs99, hv100, hlt101, hr102, hc103⟩ := ow27.osel (k := 0) rfl hv97 hx91
      obtain ⟨v104, rfl, f105⟩ := hr102
      refine U.k rfl rfl (.inr ⟨_, _, _, rfl, rfl, ((L 2 rfl rfl).trans (congrArg Value.bool g88))⟩) (S.load rfl (L 0 rfl rfl) Try.underlying29 rfl (hc103 0 _ rfl)) nd ?_
      obtain ⟨x106, hx107, h108⟩ := bindS h92
      obtain ⟨b109, o110, c111, cs112, hv113, hf114, hr115, hc116⟩ := f105.at hx107
      obtain rfl : cs112 = [.bool x106] := hr115
      refine U.p rfl rfl (.inr ⟨_, _, _, rfl, rfl, ((L 3 rfl rfl).trans (congrArg Value.bool g88))⟩) (S.index rfl ((L 0 rfl rfl).trans hv113) K Try.underlying29 ti4 (ix_ge hx107) (ix_lt hx107)) ?_
      refine U.k rfl rfl (.inr ⟨_, _, _, rfl, rfl, ((L 4 rfl rfl).trans (congrArg Value.bool g88))⟩) (S.load rfl (L 0 rfl rfl) Try.underlying4 rfl (hc116 0 _ rfl)) nd ?_
      refine U.p rfl rfl (.inr ⟨_, _, _, rfl, rfl, ((L 5 rfl rfl).trans (congrArg Value.bool g88))⟩) (S.not rfl (L 0 rfl rfl)) ?_
      refine U.p rfl rfl (.inl rfl) (S.pickT rfl ((L 6 rfl rfl).trans (congrArg Value.bool g88)) (L 0 rfl rfl)) ?_
      have e117 := Option.some.inj h108
      subst e117
      exact kk [(19, .bool (!x106)), (18, .bool (!x106)), (17, .bool x106), (16, .pointer (some ⟨b109, o110 + Int.toNat 0 * 1, none⟩)), (15, v104), (14, .pointer (some ⟨b93, o94 + Int.toNat 0 * 1, none⟩)), (13, v23)] _ ⟨.bool (!x106), .bool x106, .pointer (some ⟨b109, o110 + Int.toNat 0 * 1, none⟩), v104, .pointer (some ⟨b93, o94 + Int.toNat 0 * 1, none⟩), v23, rfl, rfl⟩
    · have h118 := ifF g88 hy31
      refine U.x rfl rfl rfl rfl ((L 0 rfl rfl).trans (congrArg Value.bool g88)) (by decide) ?_
      refine U.x rfl rfl rfl rfl ((L 1 rfl rfl).trans (congrArg Value.bool g88)) (by decide) ?_
      refine U.x rfl rfl rfl rfl ((L 2 rfl rfl).trans (congrArg Value.bool g88)) (by decide) ?_
      refine U.x rfl rfl rfl rfl ((L 3 rfl rfl).trans (congrArg Value.bool g88)) (by decide) ?_
      refine U.x rfl rfl rfl rfl ((L 4 rfl rfl).trans (congrArg Value.bool g88)) (by decide) ?_
      refine U.x rfl rfl rfl rfl ((L 5 rfl rfl).trans (congrArg Value.bool g88)) (by decide) ?_
      refine U.p rfl rfl (.inl rfl) (S.pickF rfl ((L 6 rfl rfl).trans (congrArg Value.bool g88)) K) ?_
      have e119 := Option.some.inj h118
      subst e119
      exact kk [(19, .bool false), (18, .tuple #[]), (17, .tuple #[]), (16, .tuple #[]), (15, .tuple #[]), (14, .tuple #[]), (13, .tuple #[])] _ ⟨.tuple #[], .tuple #[], .tuple #[], .tuple #[], .tuple #[], .tuple #[], rfl, rfl⟩

set_option maxHeartbeats 4000000 in
set_option maxRecDepth 10000 in
theorem wk_ref08_has (V : Vw) (Rs : List At) (p0 : Int) (ow : Ow V (Rs)) (r : Bool × Bool × Bool × Bool) (h : ref08_has p0 = some r) : ∃ v V', Cl Try.prog 0 39 #[.int .i64 p0] V.H v V'.H ∧ V.le V' ∧ (v = .tuple #[.bool r.1, .bool r.2.1, .bool r.2.2.1, .bool r.2.2.2] ∧ Ow V' (Rs)) := by
  refine Ct.of (Nat.zero_le _) Try.func39 rfl (Nat.le_of_ble_eq_true rfl) ?_
  unfold ref08_has at h
  refine WP.usreg rfl ?_
  refine U.p rfl rfl (.inl rfl) (S.assign rfl K) ?_
  refine U.p rfl rfl (.inl rfl) (S.assign rfl K) ?_
  refine U.p rfl rfl (.inl rfl) (S.assign rfl K) ?_
  refine U.p rfl rfl (.inl rfl) (S.assign rfl K) ?_
  refine U.done (Nat.le_of_ble_eq_true rfl) ?_
  refine WP.seq ?_
  refine WP.usreg rfl ?_
  refine U.p rfl rfl (.inl rfl) (S.move rfl (L 4 rfl rfl)) ?_
  refine U.done (Nat.le_of_ble_eq_true rfl) ?_
  refine WP.blk ?_
  refine WP.seqI (fun l V' => ∃ (x1 : Bool), l = [(6, .int .i64 p0), (7, .bool x1)] ∧ V.le V' ∧ Ow V' (Rs) ∧ ref08_has_k1 p0 x1 = some r) ?_ ?_
  · rintro _ V2 ⟨x1, rfl, le3, ow4, h5⟩
    unfold ref08_has_k1 at h5
    refine WP.cond _ (L 1 rfl rfl) rfl (fun c6 => ?_) (fun c6 => ?_)
    · have h7 := ifT c6 h5
      refine WP.usreg rfl ?_
      refine U.p rfl rfl (.inl rfl) (S.assign rfl K) ?_
      refine U.p rfl rfl (.inl rfl) (S.assign rfl K) ?_
      refine U.p rfl rfl (.inl rfl) (S.assign rfl K) ?_
      refine U.p rfl rfl (.inl rfl) (S.assign rfl K) ?_
      refine U.done (Nat.le_of_ble_eq_true rfl) ?_
      refine WP.ret ?_
      refine blkR (sqR ?_)
      refine fin.slots' (.inr rfl) (fsC (L 3 rfl rfl) (fsC (L 2 rfl rfl) (fsC (L 1 rfl rfl) (fsC (L 0 rfl rfl) fsN)))) rfl ⟨V2, rfl, le3, ?_⟩
      have e8 := Option.some.inj h7
      subst e8
      exact ⟨rfl, ow4⟩
    · have h9 := ifF c6 h5
      refine WP.seqI (fun l V' => ∃ (x10 : Bool), l = [(6, .int .i64 p0), (10, .bool x10)] ∧ V2.le V' ∧ Ow V' (Rs) ∧ ref08_has_k2 p0 x10 = some r) ?_ ?_
      · rintro _ V11 ⟨x10, rfl, le12, ow13, h14⟩
        unfold ref08_has_k2 at h14
        refine WP.cond _ (L 1 rfl rfl) rfl (fun c15 => ?_) (fun c15 => ?_)
        · have h16 := ifT c15 h14
          refine WP.usreg rfl ?_
          refine U.p rfl rfl (.inl rfl) (S.assign rfl K) ?_
          refine U.p rfl rfl (.inl rfl) (S.assign rfl K) ?_
          refine U.p rfl rfl (.inl rfl) (S.assign rfl K) ?_
          refine U.p rfl rfl (.inl rfl) (S.assign rfl K) ?_
          refine U.done (Nat.le_of_ble_eq_true rfl) ?_
          refine WP.ret ?_
          refine blkR (sqR ?_)
          refine fin.slots' (.inr rfl) (fsC (L 3 rfl rfl) (fsC (L 2 rfl rfl) (fsC (L 1 rfl rfl) (fsC (L 0 rfl rfl) fsN)))) rfl ⟨V11, rfl, (le3.trans le12), ?_⟩
          have e17 := Option.some.inj h16
          subst e17
          exact ⟨rfl, ow13⟩
        · have h18 := ifF c15 h14
          refine WP.seqI (fun l V' => ∃ (x19 : Bool), l = [(6, .int .i64 p0), (13, .bool x19)] ∧ V11.le V' ∧ Ow V' (Rs) ∧ ref08_has_k3 p0 x19 = some r) ?_ ?_
          · rintro _ V20 ⟨x19, rfl, le21, ow22, h23⟩
            unfold ref08_has_k3 at h23
            refine WP.cond _ (L 1 rfl rfl) rfl (fun c24 => ?_) (fun c24 => ?_)
            · have h25 := ifT c24 h23
              refine WP.usreg rfl ?_
              refine U.p rfl rfl (.inl rfl) (S.assign rfl K) ?_
              refine U.p rfl rfl (.inl rfl) (S.assign rfl K) ?_
              refine U.p rfl rfl (.inl rfl) (S.assign rfl K) ?_
              refine U.p rfl rfl (.inl rfl) (S.assign rfl K) ?_
              refine U.done (Nat.le_of_ble_eq_true rfl) ?_
              refine WP.ret ?_
              refine blkR (sqR ?_)
              refine fin.slots' (.inr rfl) (fsC (L 3 rfl rfl) (fsC (L 2 rfl rfl) (fsC (L 1 rfl rfl) (fsC (L 0 rfl rfl) fsN)))) rfl ⟨V20, rfl, ((le3.trans le12).trans le21), ?_⟩
              have e26 := Option.some.inj h25
              subst e26
              exact ⟨rfl, ow22⟩
            · have h27 := ifF c24 h23
              refine WP.usreg rfl ?_
              refine U.p rfl rfl (.inl rfl) (S.eqlI rfl (L 0 rfl rfl) K) ?_
              refine U.p rfl rfl (.inl rfl) (S.assign rfl (L 0 rfl rfl)) ?_
              refine U.done (Nat.le_of_ble_eq_true rfl) ?_
              refine WP.cond _ (L 0 rfl rfl) rfl (fun c28 => ?_) (fun c28 => ?_)
              · have h29 := ifT c28 h27
                refine WP.usreg rfl ?_
                refine U.p rfl rfl (.inl rfl) (S.assign rfl K) ?_
                refine U.p rfl rfl (.inl rfl) (S.assign rfl K) ?_
                refine U.p rfl rfl (.inl rfl) (S.assign rfl K) ?_
                refine U.p rfl rfl (.inl rfl) (S.assign rfl K) ?_
                refine U.done (Nat.le_of_ble_eq_true rfl) ?_
                refine WP.ret ?_
                refine blkR (sqR ?_)
                refine fin.slots' (.inr rfl) (fsC (L 3 rfl rfl) (fsC (L 2 rfl rfl) (fsC (L 1 rfl rfl) (fsC (L 0 rfl rfl) fsN)))) rfl ⟨V20, rfl, ((le3.trans le12).trans le21), ?_⟩
                have e30 := Option.some.inj h29
                subst e30
                exact ⟨rfl, ow22⟩
              · have h31 := ifF c28 h27
                refine WP.seqI (fun l V' => ∃ (x32 : Bool), l = [(6, .int .i64 p0), (22, .bool x32)] ∧ V20.le V' ∧ Ow V' (Rs) ∧ ref08_has_k4 p0 x32 = some r) ?_ ?_
                · rintro _ V33 ⟨x32, rfl, le34, ow35, h36⟩
                  unfold ref08_has_k4 at h36
                  refine WP.cond _ (L 1 rfl rfl) rfl (fun c37 => ?_) (fun c37 => ?_)
                  · have h38 := ifT c37 h36
                    refine WP.usreg rfl ?_
                    refine U.p rfl rfl (.inl rfl) (S.assign rfl K) ?_
                    refine U.p rfl rfl (.inl rfl) (S.assign rfl K) ?_
                    refine U.p rfl rfl (.inl rfl) (S.assign rfl K) ?_
                    refine U.p rfl rfl (.inl rfl) (S.assign rfl K) ?_
                    refine U.done (Nat.le_of_ble_eq_true rfl) ?_
                    refine WP.ret ?_
                    refine blkR (sqR ?_)
                    refine fin.slots' (.inr rfl) (fsC (L 3 rfl rfl) (fsC (L 2 rfl rfl) (fsC (L 1 rfl rfl) (fsC (L 0 rfl rfl) fsN)))) rfl ⟨V33, rfl, (((le3.trans le12).trans le21).trans le34), ?_⟩
                    have e39 := Option.some.inj h38
                    subst e39
                    exact ⟨rfl, ow35⟩
                  · have h40 := ifF c37 h36
                    refine WP.usreg rfl ?_
                    refine U.p rfl rfl (.inl rfl) (S.eqlI rfl (L 0 rfl rfl) K) ?_
                    refine U.p rfl rfl (.inl rfl) (S.assign rfl (L 0 rfl rfl)) ?_
                    refine U.done (Nat.le_of_ble_eq_true rfl) ?_
                    refine WP.cond _ (L 0 rfl rfl) rfl (fun c41 => ?_) (fun c41 => ?_)
                    · have h42 := ifT c41 h40
                      refine WP.usreg rfl ?_
                      refine U.p rfl rfl (.inl rfl) (S.assign rfl K) ?_
                      refine U.p rfl rfl (.inl rfl) (S.assign rfl K) ?_
                      refine U.p rfl rfl (.inl rfl) (S.assign rfl K) ?_
                      refine U.p rfl rfl (.inl rfl) (S.assign rfl K) ?_
                      refine U.done (Nat.le_of_ble_eq_true rfl) ?_
                      refine WP.ret ?_
                      refine blkR (sqR ?_)
                      refine fin.slots' (.inr rfl) (fsC (L 3 rfl rfl) (fsC (L 2 rfl rfl) (fsC (L 1 rfl rfl) (fsC (L 0 rfl rfl) fsN)))) rfl ⟨V33, rfl, (((le3.trans le12).trans le21).trans le34), ?_⟩
                      have e43 := Option.some.inj h42
                      subst e43
                      exact ⟨rfl, ow35⟩
                    · have h44 := ifF c41 h40
                      refine WP.usreg rfl ?_
                      refine U.p rfl rfl (.inl rfl) (S.eqlI rfl (L 2 rfl rfl) K) ?_
                      refine U.p rfl rfl (.inl rfl) (S.assign rfl (L 0 rfl rfl)) ?_
                      refine U.done (Nat.le_of_ble_eq_true rfl) ?_
                      refine WP.cond _ (L 0 rfl rfl) rfl (fun c45 => ?_) (fun c45 => ?_)
                      · have h46 := ifT c45 h44
                        refine WP.usreg rfl ?_
                        refine U.p rfl rfl (.inl rfl) (S.assign rfl K) ?_
                        refine U.p rfl rfl (.inl rfl) (S.assign rfl K) ?_
                        refine U.p rfl rfl (.inl rfl) (S.assign rfl K) ?_
                        refine U.p rfl rfl (.inl rfl) (S.assign rfl K) ?_
                        refine U.done (Nat.le_of_ble_eq_true rfl) ?_
                        refine WP.ret ?_
                        refine blkR (sqR ?_)
                        refine fin.slots' (.inr rfl) (fsC (L 3 rfl rfl) (fsC (L 2 rfl rfl) (fsC (L 1 rfl rfl) (fsC (L 0 rfl rfl) fsN)))) rfl ⟨V33, rfl, (((le3.trans le12).trans le21).trans le34), ?_⟩
                        have e47 := Option.some.inj h46
                        subst e47
                        exact ⟨rfl, ow35⟩
                      · have h48 := ifF c45 h44
                        refine WP.seqI (fun l V' => ∃ (x49 : Bool), l = [(29, .bool x49)] ∧ V33.le V' ∧ Ow V' (Rs) ∧ ref08_has_k5 x49 = some r) ?_ ?_
                        · rintro _ V50 ⟨x49, rfl, le51, ow52, h53⟩
                          unfold ref08_has_k5 at h53
                          refine WP.cond _ (L 0 rfl rfl) rfl (fun c54 => ?_) (fun c54 => ?_)
                          · have h55 := ifT c54 h53
                            refine WP.usreg rfl ?_
                            refine U.p rfl rfl (.inl rfl) (S.assign rfl K) ?_
                            refine U.p rfl rfl (.inl rfl) (S.assign rfl K) ?_
                            refine U.p rfl rfl (.inl rfl) (S.assign rfl K) ?_
                            refine U.p rfl rfl (.inl rfl) (S.assign rfl K) ?_
                            refine U.done (Nat.le_of_ble_eq_true rfl) ?_
                            refine WP.ret ?_
                            refine blkR (sqR ?_)
                            refine fin.slots' (.inr rfl) (fsC (L 3 rfl rfl) (fsC (L 2 rfl rfl) (fsC (L 1 rfl rfl) (fsC (L 0 rfl rfl) fsN)))) rfl ⟨V50, rfl, ((((le3.trans le12).trans le21).trans le34).trans le51), ?_⟩
                            have e56 := Option.some.inj h55
                            subst e56
                            exact ⟨rfl, ow52⟩
                          · have h57 := ifF c54 h53
                            refine WP.skip ?_
                            refine blkN (sqN ?_)
                            refine WP.usreg rfl ?_
                            refine U.p rfl rfl (.inl rfl) (S.assign rfl K) ?_
                            refine U.p rfl rfl (.inl rfl) (S.assign rfl K) ?_
                            refine U.p rfl rfl (.inl rfl) (S.assign rfl K) ?_
                            refine U.p rfl rfl (.inl rfl) (S.assign rfl K) ?_
                            refine U.done (Nat.le_of_ble_eq_true rfl) ?_
                            refine WP.ret ?_
                            refine fin.slots' (.inr rfl) (fsC (L 3 rfl rfl) (fsC (L 2 rfl rfl) (fsC (L 1 rfl rfl) (fsC (L 0 rfl rfl) fsN)))) rfl ⟨V50, rfl, ((((le3.trans le12).trans le21).trans le34).trans le51), ?_⟩
                            have e58 := Option.some.inj h57
                            subst e58
                            exact ⟨rfl, ow52⟩
                        · skip
                          refine WP.usreg rfl ?_
                          refine U.p rfl rfl (.inl rfl) (S.eqlI rfl (L 4 rfl rfl) K) ?_
                          refine U.p rfl rfl (.inl rfl) (S.assign rfl (L 0 rfl rfl)) ?_
                          refine U.done (Nat.le_of_ble_eq_true rfl) ?_
                          refine WP.cond _ (L 0 rfl rfl) rfl (fun c59 => ?_) (fun c59 => ?_)
                          · have h60 := ifT c59 h48
                            refine WP.skip ?_
                            refine sqN ?_
                            exact ⟨_, V33, rfl, ⟨true, rfl, (.refl _), ow35, h60⟩, (allCons ((L 0 rfl rfl).trans (congrArg Value.bool c59)) allNil)⟩
                          · have h61 := ifF c59 h48
                            refine WP.usreg rfl ?_
                            refine U.p rfl rfl (.inl rfl) (S.eqlI rfl (L 6 rfl rfl) K) ?_
                            refine U.p rfl rfl (.inl rfl) (S.assign rfl (L 0 rfl rfl)) ?_
                            refine U.done (Nat.le_of_ble_eq_true rfl) ?_
                            refine WP.cond _ (L 0 rfl rfl) rfl (fun c62 => ?_) (fun c62 => ?_)
                            · have h63 := ifT c62 h61
                              refine WP.skip ?_
                              refine sqN ?_
                              exact ⟨_, V33, rfl, ⟨true, rfl, (.refl _), ow35, h63⟩, (allCons ((L 0 rfl rfl).trans (congrArg Value.bool c62)) allNil)⟩
                            · have h64 := ifF c62 h61
                              refine WP.usreg rfl ?_
                              refine U.p rfl rfl (.inl rfl) (S.eqlI rfl (L 8 rfl rfl) K) ?_
                              refine U.p rfl rfl (.inl rfl) (S.assign rfl (L 0 rfl rfl)) ?_
                              refine U.done (Nat.le_of_ble_eq_true rfl) ?_
                              refine WP.cond _ (L 0 rfl rfl) rfl (fun c65 => ?_) (fun c65 => ?_)
                              · have h66 := ifT c65 h64
                                refine WP.skip ?_
                                refine sqN ?_
                                exact ⟨_, V33, rfl, ⟨true, rfl, (.refl _), ow35, h66⟩, (allCons ((L 0 rfl rfl).trans (congrArg Value.bool c65)) allNil)⟩
                              · have h67 := ifF c65 h64
                                refine WP.ureg rfl ?_
                                refine U.p rfl rfl (.inl rfl) (S.eqlI rfl (L 10 rfl rfl) K) ?_
                                refine U.p rfl rfl (.inl rfl) (S.assign rfl (L 0 rfl rfl)) ?_
                                refine U.done (Nat.le_of_ble_eq_true rfl) ?_
                                refine sqN ?_
                                exact ⟨_, V33, rfl, ⟨decide (p0 = 20), rfl, (.refl _), ow35, h67⟩, (allCons (L 0 rfl rfl) allNil)⟩
                · skip
                  refine WP.usreg rfl ?_
                  refine U.p rfl rfl (.inl rfl) (S.eqlI rfl (L 2 rfl rfl) K) ?_
                  refine U.p rfl rfl (.inl rfl) (S.assign rfl (L 0 rfl rfl)) ?_
                  refine U.done (Nat.le_of_ble_eq_true rfl) ?_
                  refine WP.cond _ (L 0 rfl rfl) rfl (fun c68 => ?_) (fun c68 => ?_)
                  · have h69 := ifT c68 h31
                    refine WP.skip ?_
                    refine sqN ?_
                    exact ⟨_, V20, rfl, ⟨true, rfl, (.refl _), ow22, h69⟩, (allCons (L 4 rfl rfl) (allCons ((L 0 rfl rfl).trans (congrArg Value.bool c68)) allNil))⟩
                  · have h70 := ifF c68 h31
                    refine WP.ureg rfl ?_
                    refine U.p rfl rfl (.inl rfl) (S.eqlI rfl (L 4 rfl rfl) K) ?_
                    refine U.p rfl rfl (.inl rfl) (S.assign rfl (L 0 rfl rfl)) ?_
                    refine U.done (Nat.le_of_ble_eq_true rfl) ?_
                    refine sqN ?_
                    exact ⟨_, V20, rfl, ⟨decide (p0 = 12), rfl, (.refl _), ow22, h70⟩, (allCons (L 6 rfl rfl) (allCons (L 0 rfl rfl) allNil))⟩
          · skip
            refine WP.usreg rfl ?_
            refine U.p rfl rfl (.inl rfl) (S.eqlI rfl (L 0 rfl rfl) K) ?_
            refine U.p rfl rfl (.inl rfl) (S.assign rfl (L 0 rfl rfl)) ?_
            refine U.done (Nat.le_of_ble_eq_true rfl) ?_
            refine WP.cond _ (L 0 rfl rfl) rfl (fun c71 => ?_) (fun c71 => ?_)
            · have h72 := ifT c71 h18
              refine WP.skip ?_
              refine sqN ?_
              exact ⟨_, V11, rfl, ⟨true, rfl, (.refl _), ow13, h72⟩, (allCons (L 2 rfl rfl) (allCons ((L 0 rfl rfl).trans (congrArg Value.bool c71)) allNil))⟩
            · have h73 := ifF c71 h18
              refine WP.usreg rfl ?_
              refine U.p rfl rfl (.inl rfl) (S.eqlI rfl (L 2 rfl rfl) K) ?_
              refine U.p rfl rfl (.inl rfl) (S.assign rfl (L 0 rfl rfl)) ?_
              refine U.done (Nat.le_of_ble_eq_true rfl) ?_
              refine WP.cond _ (L 0 rfl rfl) rfl (fun c74 => ?_) (fun c74 => ?_)
              · have h75 := ifT c74 h73
                refine WP.skip ?_
                refine sqN ?_
                exact ⟨_, V11, rfl, ⟨true, rfl, (.refl _), ow13, h75⟩, (allCons (L 4 rfl rfl) (allCons ((L 0 rfl rfl).trans (congrArg Value.bool c74)) allNil))⟩
              · have h76 := ifF c74 h73
                refine WP.usreg rfl ?_
                refine U.p rfl rfl (.inl rfl) (S.eqlI rfl (L 4 rfl rfl) K) ?_
                refine U.p rfl rfl (.inl rfl) (S.assign rfl (L 0 rfl rfl)) ?_
                refine U.done (Nat.le_of_ble_eq_true rfl) ?_
                refine WP.cond _ (L 0 rfl rfl) rfl (fun c77 => ?_) (fun c77 => ?_)
                · have h78 := ifT c77 h76
                  refine WP.skip ?_
                  refine sqN ?_
                  exact ⟨_, V11, rfl, ⟨true, rfl, (.refl _), ow13, h78⟩, (allCons (L 6 rfl rfl) (allCons ((L 0 rfl rfl).trans (congrArg Value.bool c77)) allNil))⟩
                · have h79 := ifF c77 h76
                  refine WP.usreg rfl ?_
                  refine U.p rfl rfl (.inl rfl) (S.eqlI rfl (L 6 rfl rfl) K) ?_
                  refine U.p rfl rfl (.inl rfl) (S.assign rfl (L 0 rfl rfl)) ?_
                  refine U.done (Nat.le_of_ble_eq_true rfl) ?_
                  refine WP.cond _ (L 0 rfl rfl) rfl (fun c80 => ?_) (fun c80 => ?_)
                  · have h81 := ifT c80 h79
                    refine WP.skip ?_
                    refine sqN ?_
                    exact ⟨_, V11, rfl, ⟨true, rfl, (.refl _), ow13, h81⟩, (allCons (L 8 rfl rfl) (allCons ((L 0 rfl rfl).trans (congrArg Value.bool c80)) allNil))⟩
                  · have h82 := ifF c80 h79
                    refine WP.usreg rfl ?_
                    refine U.p rfl rfl (.inl rfl) (S.eqlI rfl (L 8 rfl rfl) K) ?_
                    refine U.p rfl rfl (.inl rfl) (S.assign rfl (L 0 rfl rfl)) ?_
                    refine U.done (Nat.le_of_ble_eq_true rfl) ?_
                    refine WP.cond _ (L 0 rfl rfl) rfl (fun c83 => ?_) (fun c83 => ?_)
                    · have h84 := ifT c83 h82
                      refine WP.skip ?_
                      refine sqN ?_
                      exact ⟨_, V11, rfl, ⟨true, rfl, (.refl _), ow13, h84⟩, (allCons (L 10 rfl rfl) (allCons ((L 0 rfl rfl).trans (congrArg Value.bool c83)) allNil))⟩
                    · have h85 := ifF c83 h82
                      refine WP.ureg rfl ?_
                      refine U.p rfl rfl (.inl rfl) (S.eqlI rfl (L 10 rfl rfl) K) ?_
                      refine U.p rfl rfl (.inl rfl) (S.assign rfl (L 0 rfl rfl)) ?_
                      refine U.done (Nat.le_of_ble_eq_true rfl) ?_
                      refine sqN ?_
                      exact ⟨_, V11, rfl, ⟨decide (p0 = 8), rfl, (.refl _), ow13, h85⟩, (allCons (L 12 rfl rfl) (allCons (L 0 rfl rfl) allNil))⟩
      · skip
        refine WP.usreg rfl ?_
        refine U.p rfl rfl (.inl rfl) (S.eqlI rfl (L 0 rfl rfl) K) ?_
        refine U.p rfl rfl (.inl rfl) (S.assign rfl (L 0 rfl rfl)) ?_
        refine U.done (Nat.le_of_ble_eq_true rfl) ?_
        refine WP.cond _ (L 0 rfl rfl) rfl (fun c86 => ?_) (fun c86 => ?_)
        · have h87 := ifT c86 h9
          refine WP.skip ?_
          refine sqN ?_
          exact ⟨_, V2, rfl, ⟨true, rfl, (.refl _), ow4, h87⟩, (allCons (L 2 rfl rfl) (allCons ((L 0 rfl rfl).trans (congrArg Value.bool c86)) allNil))⟩
        · have h88 := ifF c86 h9
          refine WP.ureg rfl ?_
          refine U.p rfl rfl (.inl rfl) (S.eqlI rfl (L 2 rfl rfl) K) ?_
          refine U.p rfl rfl (.inl rfl) (S.assign rfl (L 0 rfl rfl)) ?_
          refine U.done (Nat.le_of_ble_eq_true rfl) ?_
          refine sqN ?_
          exact ⟨_, V2, rfl, ⟨decide (p0 = 9), rfl, (.refl _), ow4, h88⟩, (allCons (L 4 rfl rfl) (allCons (L 0 rfl rfl) allNil))⟩
  · skip
    refine WP.usreg rfl ?_
    refine U.p rfl rfl (.inl rfl) (S.eqlI rfl (L 0 rfl rfl) K) ?_
    refine U.p rfl rfl (.inl rfl) (S.assign rfl (L 0 rfl rfl)) ?_
    refine U.done (Nat.le_of_ble_eq_true rfl) ?_
    refine WP.cond _ (L 0 rfl rfl) rfl (fun c89 => ?_) (fun c89 => ?_)
    · have h90 := ifT c89 h
      refine WP.skip ?_
      refine sqN ?_
      exact ⟨_, V, rfl, ⟨true, rfl, (.refl _), ow, h90⟩, (allCons (L 2 rfl rfl) (allCons ((L 0 rfl rfl).trans (congrArg Value.bool c89)) allNil))⟩
    · have h91 := ifF c89 h
      refine WP.ureg rfl ?_
      refine U.p rfl rfl (.inl rfl) (S.eqlI rfl (L 2 rfl rfl) K) ?_
      refine U.p rfl rfl (.inl rfl) (S.assign rfl (L 0 rfl rfl)) ?_
      refine U.done (Nat.le_of_ble_eq_true rfl) ?_
      refine sqN ?_
      exact ⟨_, V, rfl, ⟨decide (p0 = 14), rfl, (.refl _), ow, h91⟩, (allCons (L 4 rfl rfl) (allCons (L 0 rfl rfl) allNil))⟩

set_option maxHeartbeats 4000000 in
set_option maxRecDepth 10000 in
theorem wk_ref08_register (V : Vw) (Rs : List At) (p0 : Bool) (p1 : Bool) (p2 : Int) (p3 : Int) (ow : Ow V (Rs)) (r : Bool) (h : ref08_register p0 p1 p2 p3 = some r) : ∃ v V', Cl Try.prog 0 40 #[.bool p0, .bool p1, .int .i64 p2, .int .i64 p3] V.H v V'.H ∧ V.le V' ∧ (v = .bool r ∧ Ow V' (Rs)) := by
  refine Ct.of (Nat.zero_le _) Try.func40 rfl (Nat.le_of_ble_eq_true rfl) ?_
  unfold ref08_register at h
  refine WP.usreg rfl ?_
  refine U.p rfl rfl (.inl rfl) (S.assign rfl K) ?_
  refine U.done (Nat.le_of_ble_eq_true rfl) ?_
  refine WP.seq ?_
  refine WP.usreg rfl ?_
  refine U.p rfl rfl (.inl rfl) (S.move rfl (L 1 rfl rfl)) ?_
  refine U.p rfl rfl (.inl rfl) (S.not rfl (L 0 rfl rfl)) ?_
  refine U.done (Nat.le_of_ble_eq_true rfl) ?_
  refine WP.cond _ (L 0 rfl rfl) rfl (fun c1 => ?_) (fun c1 => ?_)
  · have h2 := ifT c1 h
    have k3 : p0 = false := by simpa using c1
    refine WP.usreg rfl ?_
    refine U.p rfl rfl (.inl rfl) (S.move rfl (L 5 rfl rfl)) ?_
    refine U.p rfl rfl (.inl rfl) (S.eqlI rfl (L 0 rfl rfl) K) ?_
    refine U.p rfl rfl (.inl rfl) (S.assign rfl (L 0 rfl rfl)) ?_
    refine U.done (Nat.le_of_ble_eq_true rfl) ?_
    refine WP.ret ?_
    refine sqR ?_
    refine fin.slot (.inr rfl) rfl (L 0 rfl rfl) ⟨V, rfl, (.refl _), ?_⟩
    have e4 := Option.some.inj h2
    subst e4
    exact ⟨rfl, ow⟩
  · have h5 := ifF c1 h
    have k6 : p0 = true := by simpa using c1
    refine WP.skip ?_
    refine sqN ?_
    refine WP.usreg rfl ?_
    refine U.p rfl rfl (.inl rfl) (S.move rfl (L 5 rfl rfl)) ?_
    refine U.p rfl rfl (.inl rfl) (S.geq rfl (L 0 rfl rfl) K) ?_
    refine U.p rfl rfl (.inl rfl) (S.move rfl (L 0 rfl rfl)) ?_
    refine U.joinX 7 (fun e H => ∃ (u7 u8 u9 : Value), H = V.H ∧ e = [(19, .bool ((decide (0 ≤ p2)) && (decide (p2 < p3)))), (18, u7), (17, u8), (16, u9)]) ?_ ?_
    · rintro _ _ ⟨u7, u8, u9, rfl, rfl⟩
      refine U.p rfl rfl (.inl rfl) (S.move rfl (L 0 rfl rfl)) ?_
      refine U.joinX 14 (fun e H => ∃ (u13 u14 u15 u16 u17 : Value), H = V.H ∧ e = [(26, .bool (((decide (0 ≤ p2)) && (decide (p2 < p3))) || (p1 && (decide (p2 = (-1)))))), (25, u13), (24, u14), (23, u15), (22, u16), (21, u17)]) ?_ ?_
      · rintro _ _ ⟨u13, u14, u15, u16, u17, rfl, rfl⟩
        refine U.p rfl rfl (.inl rfl) (S.assign rfl (L 0 rfl rfl)) ?_
        refine U.done (Nat.le_of_ble_eq_true rfl) ?_
        refine WP.ret ?_
        refine fin.slot (.inr rfl) rfl (L 0 rfl rfl) ⟨V, rfl, (.refl _), ?_⟩
        have e21 := Option.some.inj h5
        subst e21
        exact ⟨rfl, ow⟩
      · intro kk
        refine bcase (b := (decide (0 ≤ p2)) && (decide (p2 < p3))) (fun g22 => ?_) (fun g22 => ?_)
        · skip
          refine U.x rfl rfl rfl rfl ((L 0 rfl rfl).trans (congrArg Value.bool g22)) (by decide) ?_
          refine U.x rfl rfl rfl rfl ((L 1 rfl rfl).trans (congrArg Value.bool g22)) (by decide) ?_
          refine U.z rfl rfl rfl rfl (L 0 rfl rfl) ?_
          refine U.z rfl rfl rfl rfl (L 1 rfl rfl) ?_
          refine U.x rfl rfl rfl rfl ((L 4 rfl rfl).trans (congrArg Value.bool g22)) (by decide) ?_
          refine U.p rfl rfl (.inl rfl) (S.pickT rfl ((L 5 rfl rfl).trans (congrArg Value.bool g22)) K) ?_
          exact kk [(26, .bool true), (25, .tuple #[]), (24, .tuple #[]), (23, .tuple #[]), (22, .tuple #[]), (21, .tuple #[])] _ ⟨.tuple #[], .tuple #[], .tuple #[], .tuple #[], .tuple #[], rfl, (by rw [g22, Bool.true_or])⟩
        · skip
          refine U.p rfl rfl (.inr ⟨_, _, _, rfl, rfl, ((L 0 rfl rfl).trans (congrArg Value.bool g22))⟩) (S.move rfl (L 12 rfl rfl)) ?_
          refine U.p rfl rfl (.inr ⟨_, _, _, rfl, rfl, ((L 1 rfl rfl).trans (congrArg Value.bool g22))⟩) (S.move rfl (L 0 rfl rfl)) ?_
          refine U.joinX 13 (fun e H => ∃ (u23 u24 : Value), H = V.H ∧ e = [(25, .bool (p1 && (decide (p2 = (-1))))), (24, u23), (23, u24)]) ?_ ?_
          · rintro _ _ ⟨u23, u24, rfl, rfl⟩
            refine U.p rfl rfl (.inl rfl) (S.pickF rfl ((L 5 rfl rfl).trans (congrArg Value.bool g22)) (L 0 rfl rfl)) ?_
            exact kk [(26, .bool (p1 && (decide (p2 = (-1))))), (25, .bool (p1 && (decide (p2 = (-1))))), (24, u23), (23, u24), (22, .bool p1), (21, .bool p1)] _ ⟨.bool (p1 && (decide (p2 = (-1)))), u23, u24, .bool p1, .bool p1, rfl, (by rw [g22, Bool.false_or])⟩
          · intro kk
            refine bcase (b := p1) (fun g28 => ?_) (fun g28 => ?_)
            · skip
              refine U.p rfl rfl (.inr ⟨_, _, _, rfl, rfl, ((L 0 rfl rfl).trans (congrArg Value.bool g28))⟩) (S.move rfl (L 15 rfl rfl)) ?_
              refine U.p rfl rfl (.inr ⟨_, _, _, rfl, rfl, ((L 1 rfl rfl).trans (congrArg Value.bool g28))⟩) (S.eqlI rfl (L 0 rfl rfl) K) ?_
              refine U.p rfl rfl (.inr ⟨_, _, _, rfl, rfl, ((L 4 rfl rfl).trans (congrArg Value.bool g22))⟩) (S.pickT rfl ((L 2 rfl rfl).trans (congrArg Value.bool g28)) (L 0 rfl rfl)) ?_
              exact kk [(25, .bool (decide (p2 = (-1)))), (24, .bool (decide (p2 = (-1)))), (23, .int .i64 p2)] _ ⟨.bool (decide (p2 = (-1))), .int .i64 p2, rfl, (by rw [g28, Bool.true_and])⟩
            · skip
              refine U.x rfl rfl rfl rfl ((L 0 rfl rfl).trans (congrArg Value.bool g28)) (by decide) ?_
              refine U.x rfl rfl rfl rfl ((L 1 rfl rfl).trans (congrArg Value.bool g28)) (by decide) ?_
              refine U.p rfl rfl (.inr ⟨_, _, _, rfl, rfl, ((L 4 rfl rfl).trans (congrArg Value.bool g22))⟩) (S.pickF rfl ((L 2 rfl rfl).trans (congrArg Value.bool g28)) K) ?_
              exact kk [(25, .bool false), (24, .tuple #[]), (23, .tuple #[])] _ ⟨.tuple #[], .tuple #[], rfl, (by rw [g28, Bool.false_and])⟩
    · intro kk
      refine bcase (b := decide (0 ≤ p2)) (fun g29 => ?_) (fun g29 => ?_)
      · skip
        refine U.p rfl rfl (.inr ⟨_, _, _, rfl, rfl, ((L 0 rfl rfl).trans (congrArg Value.bool g29))⟩) (S.move rfl (L 8 rfl rfl)) ?_
        refine U.p rfl rfl (.inr ⟨_, _, _, rfl, rfl, ((L 1 rfl rfl).trans (congrArg Value.bool g29))⟩) (S.move rfl (L 10 rfl rfl)) ?_
        refine U.p rfl rfl (.inr ⟨_, _, _, rfl, rfl, ((L 2 rfl rfl).trans (congrArg Value.bool g29))⟩) (S.lss rfl (L 1 rfl rfl) (L 0 rfl rfl)) ?_
        refine U.p rfl rfl (.inl rfl) (S.pickT rfl ((L 3 rfl rfl).trans (congrArg Value.bool g29)) (L 0 rfl rfl)) ?_
        exact kk [(19, .bool (decide (p2 < p3))), (18, .bool (decide (p2 < p3))), (17, .int .i64 p3), (16, .int .i64 p2)] _ ⟨.bool (decide (p2 < p3)), .int .i64 p3, .int .i64 p2, rfl, (by rw [g29, Bool.true_and])⟩
      · skip
        refine U.x rfl rfl rfl rfl ((L 0 rfl rfl).trans (congrArg Value.bool g29)) (by decide) ?_
        refine U.x rfl rfl rfl rfl ((L 1 rfl rfl).trans (congrArg Value.bool g29)) (by decide) ?_
        refine U.x rfl rfl rfl rfl ((L 2 rfl rfl).trans (congrArg Value.bool g29)) (by decide) ?_
        refine U.p rfl rfl (.inl rfl) (S.pickF rfl ((L 3 rfl rfl).trans (congrArg Value.bool g29)) K) ?_
        exact kk [(19, .bool false), (18, .tuple #[]), (17, .tuple #[]), (16, .tuple #[])] _ ⟨.tuple #[], .tuple #[], .tuple #[], rfl, (by rw [g29, Bool.false_and])⟩

set_option maxHeartbeats 4000000 in
set_option maxRecDepth 10000 in
theorem wk_ref08_count (V : Vw) (Rs : List At) (p0 : TFunc) (p1 : Int) (v1 : Value) (f2 : Fz RT_TIns V v1 p0.code) (ow : Ow V (Rs)) (r : Int) (h : ref08_count p0 p1 = some r) : ∃ v V', Cl Try.prog 0 30 #[.agg #[.string p0.name, .int .i64 p0.params, .int .i64 p0.regs, v1], .int .i64 p1] V.H v V'.H ∧ V.le V' ∧ (v = .int .i64 r ∧ Ow V' (Rs)) := by
  refine Ct.of (Nat.zero_le _) Try.func30 rfl (Nat.le_of_ble_eq_true rfl) ?_
  unfold ref08_count at h
  refine WP.usreg rfl ?_
  refine O.box ow rfl rfl (.inl rfl) rfl (L 0 rfl rfl) (by simp [topV]) rfl nd (fun b3 V4 le5 ow6 => ?_)
  refine U.p rfl rfl (.inl rfl) (S.assign rfl K) ?_
  refine U.done (Nat.le_of_ble_eq_true rfl) ?_
  refine WP.usreg rfl ?_
  refine U.p rfl rfl (.inl rfl) (S.assign rfl K) ?_
  refine U.done (Nat.le_of_ble_eq_true rfl) ?_
  refine WP.seq ?_
  refine WP.usreg rfl ?_
  refine U.p (v := .pointer (some ⟨b3, 3, none⟩)) rfl rfl (.inl rfl) (S.fieldAddr rfl (L 2 rfl rfl) Try.underlying24 rfl ti22 rfl rfl) ?_
  refine U.k rfl rfl (.inl rfl) (S.load rfl (L 0 rfl rfl) Try.underlying22 rfl ((ow6.own (k := 0) rfl).cell rfl)) nd ?_
  refine U.p rfl rfl (.inl rfl) (f2.1.len rfl (L 0 rfl rfl) Try.underlying22) ?_
  refine U.p rfl rfl (.inl rfl) (S.move rfl K) ?_
  refine U.done (Nat.le_of_ble_eq_true rfl) ?_
  refine WP.blk ?_
  have ow10 := ow6.drop 0 rfl
  unfold ref08_count_l1 at h
  obtain ⟨n12, hn11⟩ := loopO_some.1 h
  refine WP.loopI2 (fun n l V' => ∃ (x8 : Int) (x9 : Int), l = [(1, .int .i64 p1), (5, .int .i64 x8), (9, v1), (10, .int .i64 (p0.code.length : Int)), (11, .int .i64 x9)] ∧ V4.le V' ∧ Ow V' (Rs) ∧ itO (fun s => ref08_count_l1b p0 p1 s.1 s.2) n (x8, x9) = some r) n12 _ ⟨0, 0, rfl, .refl _, ow10, hn11⟩ (allCons (L 8 rfl rfl) (allCons (L 4 rfl rfl) (allCons (L 2 rfl rfl) (allCons (L 1 rfl rfl) (allCons (L 0 rfl rfl) allNil))))) ?_
  rintro _ _ V13 ⟨x8, x9, rfl, le14, ow15, h19⟩
  obtain ⟨m16, q17, rfl, h20, e18⟩ := itS h19
  replace h20 : ref08_count_l1b p0 p1 x8 x9 = some q17 := h20
  unfold ref08_count_l1b at h20
  refine WP.usreg rfl ?_
  refine U.p rfl rfl (.inl rfl) (S.lss rfl (L 4 rfl rfl) (L 3 rfl rfl)) ?_
  refine U.done (Nat.le_of_ble_eq_true rfl) ?_
  refine WP.seq ?_
  refine WP.cond _ (L 0 rfl rfl) rfl (fun c21 => ?_) (fun c21 => ?_)
  · have h22 := ifT c21 h20
    refine WP.skip ?_
    refine sqN ?_
    refine WP.seqI (fun l V' => ∃ (x23 : Int), l = [(1, .int .i64 p1), (5, .int .i64 x23), (9, v1), (10, .int .i64 (p0.code.length : Int)), (11, .int .i64 x9)] ∧ V13.le V' ∧ Ow V' (Rs) ∧ ref08_count_k1 x9 x23 = some q17) ?_ ?_
    · rintro _ V24 ⟨x23, rfl, le25, ow26, h27⟩
      unfold ref08_count_k1 at h27
      refine WP.ureg rfl ?_
      refine U.p rfl rfl (.inl rfl) (S.add rfl (L 4 rfl rfl) K) ?_
      refine U.p rfl rfl (.inl rfl) (S.move rfl (L 0 rfl rfl)) ?_
      refine U.done (Nat.le_of_ble_eq_true rfl) ?_
      refine sqN ?_
      exact ⟨_, V24, rfl, ⟨m16, Nat.lt_succ_self _, x23, w64 (x9 + 1), rfl, (le14.trans le25), ow26, backS h27 e18⟩, (allCons (L 2 rfl rfl) (allCons (L 3 rfl rfl) (allCons (L 4 rfl rfl) (allCons (L 5 rfl rfl) (allCons (L 0 rfl rfl) allNil)))))⟩
    · skip
      refine WP.blk ?_
      refine WP.usreg rfl ?_
      obtain ⟨x28, hx29, h30⟩ := bindS h22
      obtain ⟨b31, o32, c33, cs34, hv35, hf36, hr37, hc38⟩ := f2.at hx29
      obtain ⟨v39, rfl, f40⟩ := hr37
      refine U.p rfl rfl (.inl rfl) (S.index rfl ((L 3 rfl rfl).trans hv35) (L 5 rfl rfl) Try.underlying22 ti33 (ix_ge hx29) (ix_lt hx29)) ?_
      refine U.k rfl rfl (.inl rfl) (S.loadN (cs := [.int .i64 x28.op, .int .i64 x28.d, .int .i64 x28.a, .int .i64 x28.b, .int .i64 x28.imm, v39, .int .i64 x28.what, .bool x28.volatile, .bool x28.final]) rfl (L 0 rfl rfl) Try.underlying33 rfl ti33 rfl (fun j v hj => (le5.trans le14).cell hf36 (hc38 j v hj))) nd ?_
      refine O.alloc ow15 rfl rfl (.inl rfl) rfl ti33 rfl rfl nd (fun b41 V42 le43 ow44 => ?_)
      refine O.store (k := 0) (cs := [.int .i64 x28.op, .int .i64 x28.d, .int .i64 x28.a, .int .i64 x28.b, .int .i64 x28.imm, v39, .int .i64 x28.what, .bool x28.volatile, .bool x28.final]) (c' := [.int .i64 x28.op, .int .i64 x28.d, .int .i64 x28.a, .int .i64 x28.b, .int .i64 x28.imm, v39, .int .i64 x28.what, .bool x28.volatile, .bool x28.final]) ow44 rfl rfl rfl (.inl rfl) rfl (L 0 rfl rfl) (L 1 rfl rfl) ti33 (by simp [topV]) rfl rfl (Nat.le_of_ble_eq_true rfl) (by have q0 := f40.one; simp only [List.all_cons, List.all_nil, q0]; rfl) rfl nd (fun V46 le47 ow48 => ?_)
      refine U.done (Nat.le_of_ble_eq_true rfl) ?_
      refine WP.usreg rfl ?_
      refine U.p (v := .pointer (some ⟨b41, 0, none⟩)) rfl rfl (.inl rfl) (S.fieldAddr rfl (L 0 rfl rfl) Try.underlying33 rfl ti3 rfl rfl) ?_
      refine U.k rfl rfl (.inl rfl) (S.load rfl (L 0 rfl rfl) Try.underlying3 rfl ((ow48.own (k := 0) rfl).cell rfl)) nd ?_
      refine U.p rfl rfl (.inl rfl) (S.eqlI rfl (L 0 rfl rfl) K) ?_
      refine U.p rfl rfl (.inl rfl) (S.move rfl (L 0 rfl rfl)) ?_
      refine U.joinX 9 (fun e H => ∃ (u49 u50 u51 u52 : Value), H = V46.H ∧ e = [(23, .bool ((decide (x28.op = 11)) && (decide (x28.imm = p1)))), (22, u49), (21, u50), (20, u51), (19, u52)]) ?_ ?_
      · rintro _ _ ⟨u49, u50, u51, u52, rfl, rfl⟩
        refine U.done (Nat.le_of_ble_eq_true rfl) ?_
        refine WP.cond _ (L 0 rfl rfl) rfl (fun c56 => ?_) (fun c56 => ?_)
        · have h57 := ifT c56 h30
          refine WP.ureg rfl ?_
          refine U.p rfl rfl (.inl rfl) (S.move rfl (L 14 rfl rfl)) ?_
          refine U.p rfl rfl (.inl rfl) (S.add rfl (L 0 rfl rfl) K) ?_
          refine U.p rfl rfl (.inl rfl) (S.assign rfl (L 0 rfl rfl)) ?_
          refine U.done (Nat.le_of_ble_eq_true rfl) ?_
          refine blkN (sqN ?_)
          have ow58 := ow48.drop 0 rfl
          exact ⟨_, V46, rfl, ⟨w64 (x8 + 1), rfl, (le43.trans le47), ow58, h57⟩, (allCons (L 16 rfl rfl) (allCons (L 0 rfl rfl) (allCons (L 18 rfl rfl) (allCons (L 19 rfl rfl) (allCons (L 20 rfl rfl) allNil)))))⟩
        · have h59 := ifF c56 h30
          refine WP.skip ?_
          refine blkN (sqN ?_)
          have ow60 := ow48.drop 0 rfl
          exact ⟨_, V46, rfl, ⟨x8, rfl, (le43.trans le47), ow60, h59⟩, (allCons (L 13 rfl rfl) (allCons (L 14 rfl rfl) (allCons (L 15 rfl rfl) (allCons (L 16 rfl rfl) (allCons (L 17 rfl rfl) allNil)))))⟩
      · intro kk
        refine bcase (b := decide (x28.op = 11)) (fun g61 => ?_) (fun g61 => ?_)
        · skip
          refine U.p (v := .pointer (some ⟨b41, 4, none⟩)) rfl rfl (.inr ⟨_, _, _, rfl, rfl, ((L 0 rfl rfl).trans (congrArg Value.bool g61))⟩) (S.fieldAddr rfl (L 4 rfl rfl) Try.underlying33 rfl ti3 rfl rfl) ?_
          refine U.k rfl rfl (.inr ⟨_, _, _, rfl, rfl, ((L 1 rfl rfl).trans (congrArg Value.bool g61))⟩) (S.load rfl (L 0 rfl rfl) Try.underlying3 rfl ((ow48.own (k := 0) rfl).cell rfl)) nd ?_
          refine U.p rfl rfl (.inr ⟨_, _, _, rfl, rfl, ((L 2 rfl rfl).trans (congrArg Value.bool g61))⟩) (S.move rfl (L 10 rfl rfl)) ?_
          refine U.p rfl rfl (.inr ⟨_, _, _, rfl, rfl, ((L 3 rfl rfl).trans (congrArg Value.bool g61))⟩) (S.eqlI rfl (L 1 rfl rfl) (L 0 rfl rfl)) ?_
          refine U.p rfl rfl (.inl rfl) (S.pickT rfl ((L 4 rfl rfl).trans (congrArg Value.bool g61)) (L 0 rfl rfl)) ?_
          exact kk [(23, .bool (decide (x28.imm = p1))), (22, .bool (decide (x28.imm = p1))), (21, .int .i64 p1), (20, .int .i64 x28.imm), (19, .pointer (some ⟨b41, 4, none⟩))] _ ⟨.bool (decide (x28.imm = p1)), .int .i64 p1, .int .i64 x28.imm, .pointer (some ⟨b41, 4, none⟩), rfl, (by rw [g61, Bool.true_and])⟩
        · skip
          refine U.x rfl rfl rfl rfl ((L 0 rfl rfl).trans (congrArg Value.bool g61)) (by decide) ?_
          refine U.x rfl rfl rfl rfl ((L 1 rfl rfl).trans (congrArg Value.bool g61)) (by decide) ?_
          refine U.x rfl rfl rfl rfl ((L 2 rfl rfl).trans (congrArg Value.bool g61)) (by decide) ?_
          refine U.x rfl rfl rfl rfl ((L 3 rfl rfl).trans (congrArg Value.bool g61)) (by decide) ?_
          refine U.p rfl rfl (.inl rfl) (S.pickF rfl ((L 4 rfl rfl).trans (congrArg Value.bool g61)) K) ?_
          exact kk [(23, .bool false), (22, .tuple #[]), (21, .tuple #[]), (20, .tuple #[]), (19, .tuple #[])] _ ⟨.tuple #[], .tuple #[], .tuple #[], .tuple #[], rfl, (by rw [g61, Bool.false_and])⟩
  · have h62 := ifF c21 h20
    refine WP.exit ?_
    refine sqE (sqE (blkE (sqN ?_)))
    have h63 := exitS h62 e18
    refine WP.usreg rfl ?_
    refine U.p rfl rfl (.inl rfl) (S.move rfl (L 2 rfl rfl)) ?_
    refine U.p rfl rfl (.inl rfl) (S.assign rfl (L 0 rfl rfl)) ?_
    refine U.done (Nat.le_of_ble_eq_true rfl) ?_
    refine WP.ret ?_
    refine fin.slot (.inr rfl) rfl (L 0 rfl rfl) ⟨V13, rfl, (le5.trans le14), ?_⟩
    have e64 := Option.some.inj h63
    subst e64
    exact ⟨rfl, ow15⟩

set_option maxHeartbeats 4000000 in
set_option maxRecDepth 10000 in
theorem wk_ref08_ins (V : Vw) (Rs : List At) (p0 : TFunc) (p1 : TIns) (v1 : Value) (v3 : Value) (f2 : Fz RT_TIns V v1 p0.code) (f4 : Fz (RT.int .i64) V v3 p1.args) (ow : Ow V (Rs)) (r : Bool) (h : ref08_ins p0 p1 = some r) : ∃ v V', Cl Try.prog 0 29 #[.agg #[.string p0.name, .int .i64 p0.params, .int .i64 p0.regs, v1], .agg #[.int .i64 p1.op, .int .i64 p1.d, .int .i64 p1.a, .int .i64 p1.b, .int .i64 p1.imm, v3, .int .i64 p1.what, .bool p1.volatile, .bool p1.final]] V.H v V'.H ∧ V.le V' ∧ (v = .bool r ∧ Ow V' (Rs)) := by
  refine Ct.of (Nat.zero_le _) Try.func29 rfl (Nat.le_of_ble_eq_true rfl) ?_
  unfold ref08_ins at h
  refine WP.usreg rfl ?_
  refine O.box ow rfl rfl (.inl rfl) rfl (L 0 rfl rfl) (by simp [topV]) rfl nd (fun b5 V6 le7 ow8 => ?_)
  refine O.box ow8 rfl rfl (.inl rfl) rfl (L 2 rfl rfl) (by simp [topV]) rfl nd (fun b10 V11 le12 ow13 => ?_)
  refine U.p rfl rfl (.inl rfl) (S.assign rfl K) ?_
  refine U.done (Nat.le_of_ble_eq_true rfl) ?_
  refine WP.seq ?_
  refine WP.usreg rfl ?_
  refine U.p (v := .pointer (some ⟨b10, 0, none⟩)) rfl rfl (.inl rfl) (S.fieldAddr rfl (L 1 rfl rfl) Try.underlying33 rfl ti3 rfl rfl) ?_
  refine U.k rfl rfl (.inl rfl) (S.load rfl (L 0 rfl rfl) Try.underlying3 rfl ((ow13.own (k := 0) rfl).cell rfl)) nd ?_
  refine U.p rfl rfl (.inl rfl) (S.lss rfl (L 0 rfl rfl) K) ?_
  refine U.p rfl rfl (.inl rfl) (S.move rfl (L 0 rfl rfl)) ?_
  refine U.joinX 8 (fun e H => ∃ (u15 u16 u17 : Value), H = V11.H ∧ e = [(18, .bool ((decide (p1.op < 1)) || (decide (22 < p1.op)))), (17, u15), (16, u16), (15, u17)]) ?_ ?_
  · rintro _ _ ⟨u15, u16, u17, rfl, rfl⟩
    refine U.done (Nat.le_of_ble_eq_true rfl) ?_
    refine WP.cond _ (L 0 rfl rfl) rfl (fun c21 => ?_) (fun c21 => ?_)
    · have h22 := ifT c21 h
      refine WP.usreg rfl ?_
      refine U.p rfl rfl (.inl rfl) (S.assign rfl K) ?_
      refine U.done (Nat.le_of_ble_eq_true rfl) ?_
      refine WP.ret ?_
      refine sqR ?_
      refine fin.slot (.inr rfl) rfl (L 0 rfl rfl) ⟨V11, rfl, (le7.trans le12), ?_⟩
      have ow23 := ow13.drop 0 rfl
      have ow24 := ow23.drop 0 rfl
      have e25 := Option.some.inj h22
      subst e25
      exact ⟨rfl, ow24⟩
    · have h26 := ifF c21 h
      refine WP.skip ?_
      refine sqN ?_
      refine WP.usreg rfl ?_
      refine U.p (v := .pointer (some ⟨b10, 0, none⟩)) rfl rfl (.inl rfl) (S.fieldAddr rfl (L 9 rfl rfl) Try.underlying33 rfl ti3 rfl rfl) ?_
      refine U.k rfl rfl (.inl rfl) (S.load rfl (L 0 rfl rfl) Try.underlying3 rfl ((ow13.own (k := 0) rfl).cell rfl)) nd ?_
      obtain ⟨x27, hx28, h29⟩ := bindS h26
      refine O.call (V := V11) rfl rfl (.inl rfl) rfl en39 (aC (L 0 rfl rfl) aN) (wk_ref08_has V11 _ p1.op ow13 _ hx28) (fun _ _ _ _ => nd) (fun v30 V31 le32 hp33 => ?_)
      obtain ⟨rfl, ow34⟩ := hp33
      refine U.p rfl rfl (.inl rfl) (S.move rfl (L 0 rfl rfl)) ?_
      refine U.p rfl rfl (.inl rfl) (S.extract rfl (L 0 rfl rfl) rfl (Nat.le_of_ble_eq_true rfl)) ?_
      refine U.p rfl rfl (.inl rfl) (S.extract rfl (L 1 rfl rfl) rfl (Nat.le_of_ble_eq_true rfl)) ?_
      refine U.p rfl rfl (.inl rfl) (S.extract rfl (L 2 rfl rfl) rfl (Nat.le_of_ble_eq_true rfl)) ?_
      refine U.p rfl rfl (.inl rfl) (S.extract rfl (L 3 rfl rfl) rfl (Nat.le_of_ble_eq_true rfl)) ?_
      refine U.p rfl rfl (.inl rfl) (S.assign rfl (L 3 rfl rfl)) ?_
      refine U.p rfl rfl (.inl rfl) (S.assign rfl (L 3 rfl rfl)) ?_
      refine U.p rfl rfl (.inl rfl) (S.assign rfl (L 3 rfl rfl)) ?_
      refine U.p rfl rfl (.inl rfl) (S.assign rfl (L 3 rfl rfl)) ?_
      refine U.done (Nat.le_of_ble_eq_true rfl) ?_
      refine WP.seqI (fun l V' => ∃ (x35 : Bool), l = [(2, .pointer (some ⟨b5, 0, none⟩)), (3, .pointer (some ⟨b10, 0, none⟩)), (5, .bool x27.1), (6, .bool x35), (7, .bool x27.2.2.1), (8, .bool x27.2.2.2)] ∧ V31.le V' ∧ Ow V' (.pt b5 (.cells 0 [.string p0.name, .int .i64 p0.params, .int .i64 p0.regs, v1]) :: .pt b10 (.cells 0 [.int .i64 p1.op, .int .i64 p1.d, .int .i64 p1.a, .int .i64 p1.b, .int .i64 p1.imm, v3, .int .i64 p1.what, .bool p1.volatile, .bool p1.final]) :: Rs) ∧ ref08_ins_k1 p0 p1 x27 x35 = some r) ?_ ?_
      · rintro _ V36 ⟨x35, rfl, le37, ow38, h39⟩
        unfold ref08_ins_k1 at h39
        refine WP.seq ?_
        refine WP.usreg rfl ?_
        refine U.p rfl rfl (.inl rfl) (S.move rfl (L 2 rfl rfl)) ?_
        refine U.p (v := .pointer (some ⟨b10, 0, none⟩)) rfl rfl (.inl rfl) (S.fieldAddr rfl (L 2 rfl rfl) Try.underlying33 rfl ti3 rfl rfl) ?_
        refine U.k rfl rfl (.inl rfl) (S.load rfl (L 0 rfl rfl) Try.underlying3 rfl ((ow38.own (k := 1) rfl).cell rfl)) nd ?_
        refine U.p rfl rfl (.inl rfl) (S.eqlI rfl (L 0 rfl rfl) K) ?_
        refine U.p (v := .pointer (some ⟨b10, 1, none⟩)) rfl rfl (.inl rfl) (S.fieldAddr rfl (L 5 rfl rfl) Try.underlying33 rfl ti3 rfl rfl) ?_
        refine U.k rfl rfl (.inl rfl) (S.load rfl (L 0 rfl rfl) Try.underlying3 rfl ((ow38.own (k := 1) rfl).cell rfl)) nd ?_
        refine U.p (v := .pointer (some ⟨b5, 2, none⟩)) rfl rfl (.inl rfl) (S.fieldAddr rfl (L 6 rfl rfl) Try.underlying24 rfl ti3 rfl rfl) ?_
        refine U.k rfl rfl (.inl rfl) (S.load rfl (L 0 rfl rfl) Try.underlying3 rfl ((ow38.own (k := 0) rfl).cell rfl)) nd ?_
        obtain ⟨x40, hx41, h42⟩ := bindS h39
        refine O.call (V := V36) rfl rfl (.inl rfl) rfl en40 (aC (L 7 rfl rfl) (aC (L 4 rfl rfl) (aC (L 2 rfl rfl) (aC (L 0 rfl rfl) aN)))) (wk_ref08_register V36 _ x27.1 (decide (p1.op = 14)) p1.d p0.regs ow38 _ hx41) (fun _ _ _ _ => nd) (fun v43 V44 le45 hp46 => ?_)
        obtain ⟨rfl, ow47⟩ := hp46
        refine U.p rfl rfl (.inl rfl) (S.not rfl (L 0 rfl rfl)) ?_
        refine U.p rfl rfl (.inl rfl) (S.move rfl (L 0 rfl rfl)) ?_
        obtain ⟨y48, hy49, h50⟩ := bindS h42
        refine U.joinX 32 (fun e H => ∃ (u51 u52 u53 u54 u55 u56 u57 u58 u59 u60 u61 u62 u63 u64 u65 u66 u67 u68 u69 u70 : Value), ∃ V' : Vw, H = V'.H ∧ V44.le V' ∧ e = [(72, .bool y48), (71, u51), (70, u52), (69, u53), (68, u54), (67, u55), (66, u56), (65, u57), (64, u58), (63, u59), (62, u60), (61, u61), (60, u62), (59, u63), (58, u64), (57, u65), (56, u66), (55, u67), (54, u68), (53, u69), (52, u70)] ∧ Ow V' (.pt b5 (.cells 0 [.string p0.name, .int .i64 p0.params, .int .i64 p0.regs, v1]) :: .pt b10 (.cells 0 [.int .i64 p1.op, .int .i64 p1.d, .int .i64 p1.a, .int .i64 p1.b, .int .i64 p1.imm, v3, .int .i64 p1.what, .bool p1.volatile, .bool p1.final]) :: Rs)) ?_ ?_
        · rintro _ _ ⟨u51, u52, u53, u54, u55, u56, u57, u58, u59, u60, u61, u62, u63, u64, u65, u66, u67, u68, u69, u70, V71, rfl, le72, rfl, ow73⟩
          refine U.p rfl rfl (.inl rfl) (S.move rfl (L 0 rfl rfl)) ?_
          obtain ⟨y74, hy75, h76⟩ := bindS h50
          refine U.joinX 41 (fun e H => ∃ (u77 u78 u79 u80 u81 u82 u83 : Value), ∃ V' : Vw, H = V'.H ∧ V71.le V' ∧ e = [(81, .bool y74), (80, u77), (79, u78), (78, u79), (77, u80), (76, u81), (75, u82), (74, u83)] ∧ Ow V' (.pt b5 (.cells 0 [.string p0.name, .int .i64 p0.params, .int .i64 p0.regs, v1]) :: .pt b10 (.cells 0 [.int .i64 p1.op, .int .i64 p1.d, .int .i64 p1.a, .int .i64 p1.b, .int .i64 p1.imm, v3, .int .i64 p1.what, .bool p1.volatile, .bool p1.final]) :: Rs)) ?_ ?_
          · rintro _ _ ⟨u77, u78, u79, u80, u81, u82, u83, V84, rfl, le85, rfl, ow86⟩
            refine U.done (Nat.le_of_ble_eq_true rfl) ?_
            refine WP.cond _ (L 0 rfl rfl) rfl (fun c87 => ?_) (fun c87 => ?_)
            · have h88 := ifT c87 h76
              refine WP.usreg rfl ?_
              refine U.p rfl rfl (.inl rfl) (S.assign rfl K) ?_
              refine U.done (Nat.le_of_ble_eq_true rfl) ?_
              refine WP.ret ?_
              refine sqR ?_
              refine fin.slot (.inr rfl) rfl (L 0 rfl rfl) ⟨V84, rfl, ((((((le7.trans le12).trans le32).trans le37).trans le45).trans le72).trans le85), ?_⟩
              have ow89 := ow86.drop 0 rfl
              have ow90 := ow89.drop 0 rfl
              have e91 := Option.some.inj h88
              subst e91
              exact ⟨rfl, ow90⟩
            · have h92 := ifF c87 h76
              refine WP.skip ?_
              refine sqN ?_
              refine WP.seq ?_
              refine WP.usreg rfl ?_
              refine U.p (v := .pointer (some ⟨b10, 5, none⟩)) rfl rfl (.inl rfl) (S.fieldAddr rfl (L 42 rfl rfl) Try.underlying33 rfl ti31 rfl rfl) ?_
              refine U.k rfl rfl (.inl rfl) (S.load rfl (L 0 rfl rfl) Try.underlying31 rfl ((ow86.own (k := 1) rfl).cell rfl)) nd ?_
              refine U.p rfl rfl (.inl rfl) (f4.1.len rfl (L 0 rfl rfl) Try.underlying31) ?_
              refine U.p rfl rfl (.inl rfl) (S.move rfl K) ?_
              refine U.done (Nat.le_of_ble_eq_true rfl) ?_
              refine WP.blk ?_
              unfold ref08_ins_l1 at h92
              obtain ⟨n95, hn94⟩ := loopO_some.1 h92
              refine WP.loopI2 (fun n l V' => ∃ (x93 : Int), l = [(2, .pointer (some ⟨b5, 0, none⟩)), (3, .pointer (some ⟨b10, 0, none⟩)), (8, .bool x27.2.2.2), (83, v3), (84, .int .i64 (p1.args.length : Int)), (85, .int .i64 x93)] ∧ V84.le V' ∧ Ow V' (.pt b5 (.cells 0 [.string p0.name, .int .i64 p0.params, .int .i64 p0.regs, v1]) :: .pt b10 (.cells 0 [.int .i64 p1.op, .int .i64 p1.d, .int .i64 p1.a, .int .i64 p1.b, .int .i64 p1.imm, v3, .int .i64 p1.what, .bool p1.volatile, .bool p1.final]) :: Rs) ∧ itO (fun s => ref08_ins_l1b p0 p1 x27 s) n x93 = some r) n95 _ ⟨0, rfl, .refl _, ow86, hn94⟩ (allCons (L 45 rfl rfl) (allCons (L 46 rfl rfl) (allCons (L 50 rfl rfl) (allCons (L 2 rfl rfl) (allCons (L 1 rfl rfl) (allCons (L 0 rfl rfl) allNil)))))) ?_
              rintro _ _ V96 ⟨x93, rfl, le97, ow98, h102⟩
              obtain ⟨m99, q100, rfl, h103, e101⟩ := itS h102
              replace h103 : ref08_ins_l1b p0 p1 x27 x93 = some q100 := h103
              unfold ref08_ins_l1b at h103
              refine WP.usreg rfl ?_
              refine U.p rfl rfl (.inl rfl) (S.lss rfl (L 5 rfl rfl) (L 4 rfl rfl)) ?_
              refine U.done (Nat.le_of_ble_eq_true rfl) ?_
              refine WP.seq ?_
              refine WP.cond _ (L 0 rfl rfl) rfl (fun c104 => ?_) (fun c104 => ?_)
              · have h105 := ifT c104 h103
                refine WP.skip ?_
                refine sqN ?_
                refine WP.seq ?_
                refine WP.blk ?_
                refine WP.usreg rfl ?_
                obtain ⟨x106, hx107, h108⟩ := bindS h105
                obtain ⟨b109, o110, c111, cs112, hv113, hf114, hr115, hc116⟩ := f4.at hx107
                obtain rfl : cs112 = [.int .i64 x106] := hr115
                refine U.p rfl rfl (.inl rfl) (S.index rfl ((L 4 rfl rfl).trans hv113) (L 6 rfl rfl) Try.underlying31 ti3 (ix_ge hx107) (ix_lt hx107)) ?_
                refine U.k rfl rfl (.inl rfl) (S.load rfl (L 0 rfl rfl) Try.underlying3 rfl ((((((((le7.trans le12).trans le32).trans le37).trans le45).trans le72).trans le85).trans le97).cell hf114 (hc116 0 _ rfl))) nd ?_
                refine U.p rfl rfl (.inl rfl) (S.assign rfl (L 0 rfl rfl)) ?_
                refine U.done (Nat.le_of_ble_eq_true rfl) ?_
                refine WP.usreg rfl ?_
                refine U.p (v := .pointer (some ⟨b10, 0, none⟩)) rfl rfl (.inl rfl) (S.fieldAddr rfl (L 5 rfl rfl) Try.underlying33 rfl ti3 rfl rfl) ?_
                refine U.k rfl rfl (.inl rfl) (S.load rfl (L 0 rfl rfl) Try.underlying3 rfl ((ow98.own (k := 1) rfl).cell rfl)) nd ?_
                refine U.p rfl rfl (.inl rfl) (S.neqI rfl (L 0 rfl rfl) K) ?_
                refine U.p rfl rfl (.inl rfl) (S.move rfl (L 0 rfl rfl)) ?_
                refine U.joinX 7 (fun e H => ∃ (u117 u118 : Value), H = V96.H ∧ e = [(95, .bool ((decide (p1.op ≠ 14)) || (decide (x106 < 0)))), (94, u117), (93, u118)]) ?_ ?_
                · rintro _ _ ⟨u117, u118, rfl, rfl⟩
                  refine U.p rfl rfl (.inl rfl) (S.move rfl (L 0 rfl rfl)) ?_
                  refine U.joinX 13 (fun e H => ∃ (u122 u123 u124 u125 : Value), H = V96.H ∧ e = [(101, .bool (((decide (p1.op ≠ 14)) || (decide (x106 < 0))) || (decide (p0.regs ≤ x106)))), (100, u122), (99, u123), (98, u124), (97, u125)]) ?_ ?_
                  · rintro _ _ ⟨u122, u123, u124, u125, rfl, rfl⟩
                    refine U.done (Nat.le_of_ble_eq_true rfl) ?_
                    refine WP.cond _ (L 0 rfl rfl) rfl (fun c129 => ?_) (fun c129 => ?_)
                    · have h130 := ifT c129 h108
                      refine WP.usreg rfl ?_
                      refine U.p rfl rfl (.inl rfl) (S.assign rfl K) ?_
                      refine U.done (Nat.le_of_ble_eq_true rfl) ?_
                      refine WP.ret ?_
                      refine blkR (sqR (sqR (blkR (sqR ?_))))
                      have h131 := exitS h130 e101
                      refine fin.slot (.inr rfl) rfl (L 0 rfl rfl) ⟨V96, rfl, (((((((le7.trans le12).trans le32).trans le37).trans le45).trans le72).trans le85).trans le97), ?_⟩
                      have ow132 := ow98.drop 0 rfl
                      have ow133 := ow132.drop 0 rfl
                      have e134 := Option.some.inj h131
                      subst e134
                      exact ⟨rfl, ow133⟩
                    · have h135 := ifF c129 h108
                      refine WP.skip ?_
                      refine blkN (sqN ?_)
                      refine WP.ureg rfl ?_
                      refine U.p rfl rfl (.inl rfl) (S.add rfl (L 22 rfl rfl) K) ?_
                      refine U.p rfl rfl (.inl rfl) (S.move rfl (L 0 rfl rfl)) ?_
                      refine U.done (Nat.le_of_ble_eq_true rfl) ?_
                      refine sqN ?_
                      exact ⟨_, V96, rfl, ⟨m99, Nat.lt_succ_self _, w64 (x93 + 1), rfl, le97, ow98, backS h135 e101⟩, (allCons (L 19 rfl rfl) (allCons (L 20 rfl rfl) (allCons (L 21 rfl rfl) (allCons (L 22 rfl rfl) (allCons (L 23 rfl rfl) (allCons (L 0 rfl rfl) allNil))))))⟩
                  · intro kk
                    refine bcase (b := (decide (p1.op ≠ 14)) || (decide (x106 < 0))) (fun g136 => ?_) (fun g136 => ?_)
                    · skip
                      refine U.x rfl rfl rfl rfl ((L 0 rfl rfl).trans (congrArg Value.bool g136)) (by decide) ?_
                      refine U.x rfl rfl rfl rfl ((L 1 rfl rfl).trans (congrArg Value.bool g136)) (by decide) ?_
                      refine U.x rfl rfl rfl rfl ((L 2 rfl rfl).trans (congrArg Value.bool g136)) (by decide) ?_
                      refine U.x rfl rfl rfl rfl ((L 3 rfl rfl).trans (congrArg Value.bool g136)) (by decide) ?_
                      refine U.p rfl rfl (.inl rfl) (S.pickT rfl ((L 4 rfl rfl).trans (congrArg Value.bool g136)) K) ?_
                      exact kk [(101, .bool true), (100, .tuple #[]), (99, .tuple #[]), (98, .tuple #[]), (97, .tuple #[])] _ ⟨.tuple #[], .tuple #[], .tuple #[], .tuple #[], rfl, (by rw [g136, Bool.true_or])⟩
                    · skip
                      refine U.p rfl rfl (.inr ⟨_, _, _, rfl, rfl, ((L 0 rfl rfl).trans (congrArg Value.bool g136))⟩) (S.move rfl (L 8 rfl rfl)) ?_
                      refine U.p (v := .pointer (some ⟨b5, 2, none⟩)) rfl rfl (.inr ⟨_, _, _, rfl, rfl, ((L 1 rfl rfl).trans (congrArg Value.bool g136))⟩) (S.fieldAddr rfl (L 13 rfl rfl) Try.underlying24 rfl ti3 rfl rfl) ?_
                      refine U.k rfl rfl (.inr ⟨_, _, _, rfl, rfl, ((L 2 rfl rfl).trans (congrArg Value.bool g136))⟩) (S.load rfl (L 0 rfl rfl) Try.underlying3 rfl ((ow98.own (k := 0) rfl).cell rfl)) nd ?_
                      refine U.p rfl rfl (.inr ⟨_, _, _, rfl, rfl, ((L 3 rfl rfl).trans (congrArg Value.bool g136))⟩) (S.geq rfl (L 2 rfl rfl) (L 0 rfl rfl)) ?_
                      refine U.p rfl rfl (.inl rfl) (S.pickF rfl ((L 4 rfl rfl).trans (congrArg Value.bool g136)) (L 0 rfl rfl)) ?_
                      exact kk [(101, .bool (decide (p0.regs ≤ x106))), (100, .bool (decide (p0.regs ≤ x106))), (99, .int .i64 p0.regs), (98, .pointer (some ⟨b5, 2, none⟩)), (97, .int .i64 x106)] _ ⟨.bool (decide (p0.regs ≤ x106)), .int .i64 p0.regs, .pointer (some ⟨b5, 2, none⟩), .int .i64 x106, rfl, (by rw [g136, Bool.false_or])⟩
                · intro kk
                  refine bcase (b := decide (p1.op ≠ 14)) (fun g137 => ?_) (fun g137 => ?_)
                  · skip
                    refine U.x rfl rfl rfl rfl ((L 0 rfl rfl).trans (congrArg Value.bool g137)) (by decide) ?_
                    refine U.x rfl rfl rfl rfl ((L 1 rfl rfl).trans (congrArg Value.bool g137)) (by decide) ?_
                    refine U.p rfl rfl (.inl rfl) (S.pickT rfl ((L 2 rfl rfl).trans (congrArg Value.bool g137)) K) ?_
                    exact kk [(95, .bool true), (94, .tuple #[]), (93, .tuple #[])] _ ⟨.tuple #[], .tuple #[], rfl, (by rw [g137, Bool.true_or])⟩
                  · skip
                    refine U.p rfl rfl (.inr ⟨_, _, _, rfl, rfl, ((L 0 rfl rfl).trans (congrArg Value.bool g137))⟩) (S.move rfl (L 4 rfl rfl)) ?_
                    refine U.p rfl rfl (.inr ⟨_, _, _, rfl, rfl, ((L 1 rfl rfl).trans (congrArg Value.bool g137))⟩) (S.lss rfl (L 0 rfl rfl) K) ?_
                    refine U.p rfl rfl (.inl rfl) (S.pickF rfl ((L 2 rfl rfl).trans (congrArg Value.bool g137)) (L 0 rfl rfl)) ?_
                    exact kk [(95, .bool (decide (x106 < 0))), (94, .bool (decide (x106 < 0))), (93, .int .i64 x106)] _ ⟨.bool (decide (x106 < 0)), .int .i64 x106, rfl, (by rw [g137, Bool.false_or])⟩
              · have h138 := ifF c104 h103
                refine WP.exit ?_
                refine sqE (sqE (blkE (sqN ?_)))
                have h139 := exitS h138 e101
                refine WP.seq ?_
                refine WP.usreg rfl ?_
                refine U.p (v := .pointer (some ⟨b10, 0, none⟩)) rfl rfl (.inl rfl) (S.fieldAddr rfl (L 2 rfl rfl) Try.underlying33 rfl ti3 rfl rfl) ?_
                refine U.k rfl rfl (.inl rfl) (S.load rfl (L 0 rfl rfl) Try.underlying3 rfl ((ow98.own (k := 1) rfl).cell rfl)) nd ?_
                refine U.p rfl rfl (.inl rfl) (S.neqI rfl (L 0 rfl rfl) K) ?_
                refine U.p rfl rfl (.inl rfl) (S.move rfl (L 0 rfl rfl)) ?_
                refine U.joinX 8 (fun e H => ∃ (u140 u141 u142 : Value), H = V96.H ∧ e = [(110, .bool ((decide (p1.op ≠ 9)) && (decide (p1.op ≠ 10)))), (109, u140), (108, u141), (107, u142)]) ?_ ?_
                · rintro _ _ ⟨u140, u141, u142, rfl, rfl⟩
                  refine U.p rfl rfl (.inl rfl) (S.move rfl (L 0 rfl rfl)) ?_
                  refine U.joinX 21 (fun e H => ∃ (u146 u147 u148 u149 u150 u151 u152 u153 u154 u155 u156 : Value), H = V96.H ∧ e = [(123, .bool (((decide (p1.op ≠ 9)) && (decide (p1.op ≠ 10))) && (((decide (p1.what ≠ 0)) || p1.volatile) || p1.final))), (122, u146), (121, u147), (120, u148), (119, u149), (118, u150), (117, u151), (116, u152), (115, u153), (114, u154), (113, u155), (112, u156)]) ?_ ?_
                  · rintro _ _ ⟨u146, u147, u148, u149, u150, u151, u152, u153, u154, u155, u156, rfl, rfl⟩
                    refine U.done (Nat.le_of_ble_eq_true rfl) ?_
                    refine WP.cond _ (L 0 rfl rfl) rfl (fun c160 => ?_) (fun c160 => ?_)
                    · have h161 := ifT c160 h139
                      refine WP.usreg rfl ?_
                      refine U.p rfl rfl (.inl rfl) (S.assign rfl K) ?_
                      refine U.done (Nat.le_of_ble_eq_true rfl) ?_
                      refine WP.ret ?_
                      refine sqR ?_
                      refine fin.slot (.inr rfl) rfl (L 0 rfl rfl) ⟨V96, rfl, (((((((le7.trans le12).trans le32).trans le37).trans le45).trans le72).trans le85).trans le97), ?_⟩
                      have ow162 := ow98.drop 0 rfl
                      have ow163 := ow162.drop 0 rfl
                      have e164 := Option.some.inj h161
                      subst e164
                      exact ⟨rfl, ow163⟩
                    · have h165 := ifF c160 h139
                      refine WP.skip ?_
                      refine sqN ?_
                      refine WP.seq ?_
                      refine WP.usreg rfl ?_
                      refine U.p (v := .pointer (some ⟨b10, 0, none⟩)) rfl rfl (.inl rfl) (S.fieldAddr rfl (L 23 rfl rfl) Try.underlying33 rfl ti3 rfl rfl) ?_
                      refine U.k rfl rfl (.inl rfl) (S.load rfl (L 0 rfl rfl) Try.underlying3 rfl ((ow98.own (k := 1) rfl).cell rfl)) nd ?_
                      refine U.done (Nat.le_of_ble_eq_true rfl) ?_
                      refine WP.blk ?_
                      refine WP.seqI (fun l V' => ∃ (x166 : Bool), l = [(2, .pointer (some ⟨b5, 0, none⟩)), (3, .pointer (some ⟨b10, 0, none⟩)), (8, .bool x27.2.2.2), (125, .int .i64 p1.op), (126, .bool x166)] ∧ V96.le V' ∧ Ow V' (.pt b5 (.cells 0 [.string p0.name, .int .i64 p0.params, .int .i64 p0.regs, v1]) :: .pt b10 (.cells 0 [.int .i64 p1.op, .int .i64 p1.d, .int .i64 p1.a, .int .i64 p1.b, .int .i64 p1.imm, v3, .int .i64 p1.what, .bool p1.volatile, .bool p1.final]) :: Rs) ∧ ref08_ins_k2 p0 p1 x27 x166 = some r) ?_ ?_
                      · rintro _ V167 ⟨x166, rfl, le168, ow169, h170⟩
                        unfold ref08_ins_k2 at h170
                        refine WP.cond _ (L 4 rfl rfl) rfl (fun c171 => ?_) (fun c171 => ?_)
                        · have h172 := ifT c171 h170
                          refine WP.usreg rfl ?_
                          refine U.p rfl rfl (.inl rfl) (S.assign rfl K) ?_
                          refine U.done (Nat.le_of_ble_eq_true rfl) ?_
                          refine WP.ret ?_
                          refine blkR (sqR ?_)
                          refine fin.slot (.inr rfl) rfl (L 0 rfl rfl) ⟨V167, rfl, ((((((((le7.trans le12).trans le32).trans le37).trans le45).trans le72).trans le85).trans le97).trans le168), ?_⟩
                          have ow173 := ow169.drop 0 rfl
                          have ow174 := ow173.drop 0 rfl
                          have e175 := Option.some.inj h172
                          subst e175
                          exact ⟨rfl, ow174⟩
                        · have h176 := ifF c171 h170
                          refine WP.usreg rfl ?_
                          refine U.p rfl rfl (.inl rfl) (S.eqlI rfl (L 3 rfl rfl) K) ?_
                          refine U.p rfl rfl (.inl rfl) (S.assign rfl (L 0 rfl rfl)) ?_
                          refine U.done (Nat.le_of_ble_eq_true rfl) ?_
                          refine WP.cond _ (L 0 rfl rfl) rfl (fun c177 => ?_) (fun c177 => ?_)
                          · have h178 := ifT c177 h176
                            refine WP.usreg rfl ?_
                            refine U.p (v := .pointer (some ⟨b10, 4, none⟩)) rfl rfl (.inl rfl) (S.fieldAddr rfl (L 3 rfl rfl) Try.underlying33 rfl ti3 rfl rfl) ?_
                            refine U.k rfl rfl (.inl rfl) (S.load rfl (L 0 rfl rfl) Try.underlying3 rfl ((ow169.own (k := 1) rfl).cell rfl)) nd ?_
                            refine U.p rfl rfl (.inl rfl) (S.gtr rfl (L 0 rfl rfl) K) ?_
                            refine U.p rfl rfl (.inl rfl) (S.assign rfl (L 0 rfl rfl)) ?_
                            refine U.done (Nat.le_of_ble_eq_true rfl) ?_
                            refine WP.ret ?_
                            refine blkR (sqR ?_)
                            refine fin.slot (.inr rfl) rfl (L 0 rfl rfl) ⟨V167, rfl, ((((((((le7.trans le12).trans le32).trans le37).trans le45).trans le72).trans le85).trans le97).trans le168), ?_⟩
                            have ow179 := ow169.drop 0 rfl
                            have ow180 := ow179.drop 0 rfl
                            have e181 := Option.some.inj h178
                            subst e181
                            exact ⟨rfl, ow180⟩
                          · have h182 := ifF c177 h176
                            refine WP.usreg rfl ?_
                            refine U.p rfl rfl (.inl rfl) (S.eqlI rfl (L 5 rfl rfl) K) ?_
                            refine U.p rfl rfl (.inl rfl) (S.assign rfl (L 0 rfl rfl)) ?_
                            refine U.done (Nat.le_of_ble_eq_true rfl) ?_
                            refine WP.cond _ (L 0 rfl rfl) rfl (fun c183 => ?_) (fun c183 => ?_)
                            · have h184 := ifT c183 h182
                              refine WP.usreg rfl ?_
                              refine U.p (v := .pointer (some ⟨b10, 4, none⟩)) rfl rfl (.inl rfl) (S.fieldAddr rfl (L 5 rfl rfl) Try.underlying33 rfl ti3 rfl rfl) ?_
                              refine U.k rfl rfl (.inl rfl) (S.load rfl (L 0 rfl rfl) Try.underlying3 rfl ((ow169.own (k := 1) rfl).cell rfl)) nd ?_
                              refine U.p rfl rfl (.inl rfl) (S.eqlI rfl (L 0 rfl rfl) K) ?_
                              refine U.p rfl rfl (.inl rfl) (S.move rfl (L 0 rfl rfl)) ?_
                              refine U.joinX 8 (fun e H => ∃ (u185 u186 u187 : Value), H = V167.H ∧ e = [(146, .bool ((decide (p1.imm = 0)) || (decide (p1.imm = 1)))), (145, u185), (144, u186), (143, u187)]) ?_ ?_
                              · rintro _ _ ⟨u185, u186, u187, rfl, rfl⟩
                                refine U.p rfl rfl (.inl rfl) (S.assign rfl (L 0 rfl rfl)) ?_
                                refine U.done (Nat.le_of_ble_eq_true rfl) ?_
                                refine WP.ret ?_
                                refine blkR (sqR ?_)
                                refine fin.slot (.inr rfl) rfl (L 0 rfl rfl) ⟨V167, rfl, ((((((((le7.trans le12).trans le32).trans le37).trans le45).trans le72).trans le85).trans le97).trans le168), ?_⟩
                                have ow191 := ow169.drop 0 rfl
                                have ow192 := ow191.drop 0 rfl
                                have e193 := Option.some.inj h184
                                subst e193
                                exact ⟨rfl, ow192⟩
                              · intro kk
                                refine bcase (b := decide (p1.imm = 0)) (fun g194 => ?_) (fun g194 => ?_)
                                · skip
                                  refine U.x rfl rfl rfl rfl ((L 0 rfl rfl).trans (congrArg Value.bool g194)) (by decide) ?_
                                  refine U.x rfl rfl rfl rfl ((L 1 rfl rfl).trans (congrArg Value.bool g194)) (by decide) ?_
                                  refine U.x rfl rfl rfl rfl ((L 2 rfl rfl).trans (congrArg Value.bool g194)) (by decide) ?_
                                  refine U.p rfl rfl (.inl rfl) (S.pickT rfl ((L 3 rfl rfl).trans (congrArg Value.bool g194)) K) ?_
                                  exact kk [(146, .bool true), (145, .tuple #[]), (144, .tuple #[]), (143, .tuple #[])] _ ⟨.tuple #[], .tuple #[], .tuple #[], rfl, (by rw [g194, Bool.true_or])⟩
                                · skip
                                  refine U.p (v := .pointer (some ⟨b10, 4, none⟩)) rfl rfl (.inr ⟨_, _, _, rfl, rfl, ((L 0 rfl rfl).trans (congrArg Value.bool g194))⟩) (S.fieldAddr rfl (L 9 rfl rfl) Try.underlying33 rfl ti3 rfl rfl) ?_
                                  refine U.k rfl rfl (.inr ⟨_, _, _, rfl, rfl, ((L 1 rfl rfl).trans (congrArg Value.bool g194))⟩) (S.load rfl (L 0 rfl rfl) Try.underlying3 rfl ((ow169.own (k := 1) rfl).cell rfl)) nd ?_
                                  refine U.p rfl rfl (.inr ⟨_, _, _, rfl, rfl, ((L 2 rfl rfl).trans (congrArg Value.bool g194))⟩) (S.eqlI rfl (L 0 rfl rfl) K) ?_
                                  refine U.p rfl rfl (.inl rfl) (S.pickF rfl ((L 3 rfl rfl).trans (congrArg Value.bool g194)) (L 0 rfl rfl)) ?_
                                  exact kk [(146, .bool (decide (p1.imm = 1))), (145, .bool (decide (p1.imm = 1))), (144, .int .i64 p1.imm), (143, .pointer (some ⟨b10, 4, none⟩))] _ ⟨.bool (decide (p1.imm = 1)), .int .i64 p1.imm, .pointer (some ⟨b10, 4, none⟩), rfl, (by rw [g194, Bool.false_or])⟩
                            · have h195 := ifF c183 h182
                              refine WP.skip ?_
                              refine blkN (sqN ?_)
                              refine WP.seq ?_
                              refine WP.usreg rfl ?_
                              refine U.p rfl rfl (.inl rfl) (S.move rfl (L 6 rfl rfl)) ?_
                              refine U.done (Nat.le_of_ble_eq_true rfl) ?_
                              refine WP.cond _ (L 0 rfl rfl) rfl (fun c196 => ?_) (fun c196 => ?_)
                              · have h197 := ifT c196 h195
                                refine WP.usreg rfl ?_
                                refine U.k rfl rfl (.inl rfl) (S.loadB rfl (L 5 rfl rfl) Try.underlying24 rfl ti24 (ow169.own (k := 0) rfl).get rfl) nd ?_
                                refine U.p (v := .pointer (some ⟨b10, 4, none⟩)) rfl rfl (.inl rfl) (S.fieldAddr rfl (L 7 rfl rfl) Try.underlying33 rfl ti3 rfl rfl) ?_
                                refine U.k rfl rfl (.inl rfl) (S.load rfl (L 0 rfl rfl) Try.underlying3 rfl ((ow169.own (k := 1) rfl).cell rfl)) nd ?_
                                have f198 := f2.up ((((((((le7.trans le12).trans le32).trans le37).trans le45).trans le72).trans le85).trans le97).trans le168)
                                obtain ⟨x199, hx200, h201⟩ := bindS h197
                                refine O.call (V := V167) rfl rfl (.inl rfl) rfl en30 (aC (L 2 rfl rfl) (aC (L 0 rfl rfl) aN)) (wk_ref08_count V167 _ p0 p1.imm v1 f198 ow169 _ hx200) (fun _ _ _ _ => nd) (fun v202 V203 le204 hp205 => ?_)
                                obtain ⟨rfl, ow206⟩ := hp205
                                refine U.p rfl rfl (.inl rfl) (S.gtr rfl (L 0 rfl rfl) K) ?_
                                refine U.p rfl rfl (.inl rfl) (S.assign rfl (L 0 rfl rfl)) ?_
                                refine U.done (Nat.le_of_ble_eq_true rfl) ?_
                                refine WP.ret ?_
                                refine sqR ?_
                                refine fin.slot (.inr rfl) rfl (L 0 rfl rfl) ⟨V203, rfl, (((((((((le7.trans le12).trans le32).trans le37).trans le45).trans le72).trans le85).trans le97).trans le168).trans le204), ?_⟩
                                have ow207 := ow206.drop 0 rfl
                                have ow208 := ow207.drop 0 rfl
                                have e209 := Option.some.inj h201
                                subst e209
                                exact ⟨rfl, ow208⟩
                              · have h210 := ifF c196 h195
                                refine WP.skip ?_
                                refine sqN ?_
                                refine WP.usreg rfl ?_
                                refine U.p (v := .pointer (some ⟨b10, 4, none⟩)) rfl rfl (.inl rfl) (S.fieldAddr rfl (L 6 rfl rfl) Try.underlying33 rfl ti3 rfl rfl) ?_
                                refine U.k rfl rfl (.inl rfl) (S.load rfl (L 0 rfl rfl) Try.underlying3 rfl ((ow169.own (k := 1) rfl).cell rfl)) nd ?_
                                refine U.p rfl rfl (.inl rfl) (S.eqlI rfl (L 0 rfl rfl) K) ?_
                                refine U.p rfl rfl (.inl rfl) (S.assign rfl (L 0 rfl rfl)) ?_
                                refine U.done (Nat.le_of_ble_eq_true rfl) ?_
                                refine WP.ret ?_
                                refine fin.slot (.inr rfl) rfl (L 0 rfl rfl) ⟨V167, rfl, ((((((((le7.trans le12).trans le32).trans le37).trans le45).trans le72).trans le85).trans le97).trans le168), ?_⟩
                                have ow211 := ow169.drop 0 rfl
                                have ow212 := ow211.drop 0 rfl
                                have e213 := Option.some.inj h210
                                subst e213
                                exact ⟨rfl, ow212⟩
                      · skip
                        refine WP.usreg rfl ?_
                        refine U.p rfl rfl (.inl rfl) (S.eqlI rfl (L 0 rfl rfl) K) ?_
                        refine U.p rfl rfl (.inl rfl) (S.assign rfl (L 0 rfl rfl)) ?_
                        refine U.done (Nat.le_of_ble_eq_true rfl) ?_
                        refine WP.cond _ (L 0 rfl rfl) rfl (fun c214 => ?_) (fun c214 => ?_)
                        · have h215 := ifT c214 h165
                          refine WP.skip ?_
                          refine sqN ?_
                          exact ⟨_, V96, rfl, ⟨true, rfl, (.refl _), ow98, h215⟩, (allCons (L 26 rfl rfl) (allCons (L 27 rfl rfl) (allCons (L 28 rfl rfl) (allCons (L 2 rfl rfl) (allCons ((L 0 rfl rfl).trans (congrArg Value.bool c214)) allNil)))))⟩
                        · have h216 := ifF c214 h165
                          refine WP.usreg rfl ?_
                          refine U.p rfl rfl (.inl rfl) (S.eqlI rfl (L 2 rfl rfl) K) ?_
                          refine U.p rfl rfl (.inl rfl) (S.assign rfl (L 0 rfl rfl)) ?_
                          refine U.done (Nat.le_of_ble_eq_true rfl) ?_
                          refine WP.cond _ (L 0 rfl rfl) rfl (fun c217 => ?_) (fun c217 => ?_)
                          · have h218 := ifT c217 h216
                            refine WP.skip ?_
                            refine sqN ?_
                            exact ⟨_, V96, rfl, ⟨true, rfl, (.refl _), ow98, h218⟩, (allCons (L 28 rfl rfl) (allCons (L 29 rfl rfl) (allCons (L 30 rfl rfl) (allCons (L 4 rfl rfl) (allCons ((L 0 rfl rfl).trans (congrArg Value.bool c217)) allNil)))))⟩
                          · have h219 := ifF c217 h216
                            refine WP.usreg rfl ?_
                            refine U.p rfl rfl (.inl rfl) (S.eqlI rfl (L 4 rfl rfl) K) ?_
                            refine U.p rfl rfl (.inl rfl) (S.assign rfl (L 0 rfl rfl)) ?_
                            refine U.done (Nat.le_of_ble_eq_true rfl) ?_
                            refine WP.cond _ (L 0 rfl rfl) rfl (fun c220 => ?_) (fun c220 => ?_)
                            · have h221 := ifT c220 h219
                              refine WP.skip ?_
                              refine sqN ?_
                              exact ⟨_, V96, rfl, ⟨true, rfl, (.refl _), ow98, h221⟩, (allCons (L 30 rfl rfl) (allCons (L 31 rfl rfl) (allCons (L 32 rfl rfl) (allCons (L 6 rfl rfl) (allCons ((L 0 rfl rfl).trans (congrArg Value.bool c220)) allNil)))))⟩
                            · have h222 := ifF c220 h219
                              refine WP.usreg rfl ?_
                              refine U.p rfl rfl (.inl rfl) (S.eqlI rfl (L 6 rfl rfl) K) ?_
                              refine U.p rfl rfl (.inl rfl) (S.assign rfl (L 0 rfl rfl)) ?_
                              refine U.done (Nat.le_of_ble_eq_true rfl) ?_
                              refine WP.cond _ (L 0 rfl rfl) rfl (fun c223 => ?_) (fun c223 => ?_)
                              · have h224 := ifT c223 h222
                                refine WP.skip ?_
                                refine sqN ?_
                                exact ⟨_, V96, rfl, ⟨true, rfl, (.refl _), ow98, h224⟩, (allCons (L 32 rfl rfl) (allCons (L 33 rfl rfl) (allCons (L 34 rfl rfl) (allCons (L 8 rfl rfl) (allCons ((L 0 rfl rfl).trans (congrArg Value.bool c223)) allNil)))))⟩
                              · have h225 := ifF c223 h222
                                refine WP.ureg rfl ?_
                                refine U.p rfl rfl (.inl rfl) (S.eqlI rfl (L 8 rfl rfl) K) ?_
                                refine U.p rfl rfl (.inl rfl) (S.assign rfl (L 0 rfl rfl)) ?_
                                refine U.done (Nat.le_of_ble_eq_true rfl) ?_
                                refine sqN ?_
                                exact ⟨_, V96, rfl, ⟨decide (p1.op = 21), rfl, (.refl _), ow98, h225⟩, (allCons (L 34 rfl rfl) (allCons (L 35 rfl rfl) (allCons (L 36 rfl rfl) (allCons (L 10 rfl rfl) (allCons (L 0 rfl rfl) allNil)))))⟩
                  · intro kk
                    refine bcase (b := (decide (p1.op ≠ 9)) && (decide (p1.op ≠ 10))) (fun g226 => ?_) (fun g226 => ?_)
                    · skip
                      refine U.p (v := .pointer (some ⟨b10, 6, none⟩)) rfl rfl (.inr ⟨_, _, _, rfl, rfl, ((L 0 rfl rfl).trans (congrArg Value.bool g226))⟩) (S.fieldAddr rfl (L 11 rfl rfl) Try.underlying33 rfl ti3 rfl rfl) ?_
                      refine U.k rfl rfl (.inr ⟨_, _, _, rfl, rfl, ((L 1 rfl rfl).trans (congrArg Value.bool g226))⟩) (S.load rfl (L 0 rfl rfl) Try.underlying3 rfl ((ow98.own (k := 1) rfl).cell rfl)) nd ?_
                      refine U.p rfl rfl (.inr ⟨_, _, _, rfl, rfl, ((L 2 rfl rfl).trans (congrArg Value.bool g226))⟩) (S.neqI rfl (L 0 rfl rfl) K) ?_
                      refine U.p rfl rfl (.inr ⟨_, _, _, rfl, rfl, ((L 3 rfl rfl).trans (congrArg Value.bool g226))⟩) (S.move rfl (L 0 rfl rfl)) ?_
                      refine U.joinX 16 (fun e H => ∃ (u227 u228 : Value), H = V96.H ∧ e = [(118, .bool ((decide (p1.what ≠ 0)) || p1.volatile)), (117, u227), (116, u228)]) ?_ ?_
                      · rintro _ _ ⟨u227, u228, rfl, rfl⟩
                        refine U.p rfl rfl (.inr ⟨_, _, _, rfl, rfl, ((L 7 rfl rfl).trans (congrArg Value.bool g226))⟩) (S.move rfl (L 0 rfl rfl)) ?_
                        refine U.joinX 20 (fun e H => ∃ (u232 u233 : Value), H = V96.H ∧ e = [(122, .bool (((decide (p1.what ≠ 0)) || p1.volatile) || p1.final)), (121, u232), (120, u233)]) ?_ ?_
                        · rintro _ _ ⟨u232, u233, rfl, rfl⟩
                          refine U.p rfl rfl (.inl rfl) (S.pickT rfl ((L 11 rfl rfl).trans (congrArg Value.bool g226)) (L 0 rfl rfl)) ?_
                          exact kk [(123, .bool (((decide (p1.what ≠ 0)) || p1.volatile) || p1.final)), (122, .bool (((decide (p1.what ≠ 0)) || p1.volatile) || p1.final)), (121, u232), (120, u233), (119, .bool ((decide (p1.what ≠ 0)) || p1.volatile)), (118, .bool ((decide (p1.what ≠ 0)) || p1.volatile)), (117, u227), (116, u228), (115, .bool (decide (p1.what ≠ 0))), (114, .bool (decide (p1.what ≠ 0))), (113, .int .i64 p1.what), (112, .pointer (some ⟨b10, 6, none⟩))] _ ⟨.bool (((decide (p1.what ≠ 0)) || p1.volatile) || p1.final), u232, u233, .bool ((decide (p1.what ≠ 0)) || p1.volatile), .bool ((decide (p1.what ≠ 0)) || p1.volatile), u227, u228, .bool (decide (p1.what ≠ 0)), .bool (decide (p1.what ≠ 0)), .int .i64 p1.what, .pointer (some ⟨b10, 6, none⟩), rfl, (by rw [g226, Bool.true_and])⟩
                        · intro kk
                          refine bcase (b := (decide (p1.what ≠ 0)) || p1.volatile) (fun g237 => ?_) (fun g237 => ?_)
                          · skip
                            refine U.x rfl rfl rfl rfl ((L 0 rfl rfl).trans (congrArg Value.bool g237)) (by decide) ?_
                            refine U.x rfl rfl rfl rfl ((L 1 rfl rfl).trans (congrArg Value.bool g237)) (by decide) ?_
                            refine U.p rfl rfl (.inr ⟨_, _, _, rfl, rfl, ((L 10 rfl rfl).trans (congrArg Value.bool g226))⟩) (S.pickT rfl ((L 2 rfl rfl).trans (congrArg Value.bool g237)) K) ?_
                            exact kk [(122, .bool true), (121, .tuple #[]), (120, .tuple #[])] _ ⟨.tuple #[], .tuple #[], rfl, (by rw [g237, Bool.true_or])⟩
                          · skip
                            refine U.p (v := .pointer (some ⟨b10, 8, none⟩)) rfl rfl (.inr ⟨_, _, _, rfl, rfl, ((L 0 rfl rfl).trans (congrArg Value.bool g237))⟩) (S.fieldAddr rfl (L 19 rfl rfl) Try.underlying33 rfl ti4 rfl rfl) ?_
                            refine U.k rfl rfl (.inr ⟨_, _, _, rfl, rfl, ((L 1 rfl rfl).trans (congrArg Value.bool g237))⟩) (S.load rfl (L 0 rfl rfl) Try.underlying4 rfl ((ow98.own (k := 1) rfl).cell rfl)) nd ?_
                            refine U.p rfl rfl (.inr ⟨_, _, _, rfl, rfl, ((L 10 rfl rfl).trans (congrArg Value.bool g226))⟩) (S.pickF rfl ((L 2 rfl rfl).trans (congrArg Value.bool g237)) (L 0 rfl rfl)) ?_
                            exact kk [(122, .bool p1.final), (121, .bool p1.final), (120, .pointer (some ⟨b10, 8, none⟩))] _ ⟨.bool p1.final, .pointer (some ⟨b10, 8, none⟩), rfl, (by rw [g237, Bool.false_or])⟩
                      · intro kk
                        refine bcase (b := decide (p1.what ≠ 0)) (fun g238 => ?_) (fun g238 => ?_)
                        · skip
                          refine U.x rfl rfl rfl rfl ((L 0 rfl rfl).trans (congrArg Value.bool g238)) (by decide) ?_
                          refine U.x rfl rfl rfl rfl ((L 1 rfl rfl).trans (congrArg Value.bool g238)) (by decide) ?_
                          refine U.p rfl rfl (.inr ⟨_, _, _, rfl, rfl, ((L 6 rfl rfl).trans (congrArg Value.bool g226))⟩) (S.pickT rfl ((L 2 rfl rfl).trans (congrArg Value.bool g238)) K) ?_
                          exact kk [(118, .bool true), (117, .tuple #[]), (116, .tuple #[])] _ ⟨.tuple #[], .tuple #[], rfl, (by rw [g238, Bool.true_or])⟩
                        · skip
                          refine U.p (v := .pointer (some ⟨b10, 7, none⟩)) rfl rfl (.inr ⟨_, _, _, rfl, rfl, ((L 0 rfl rfl).trans (congrArg Value.bool g238))⟩) (S.fieldAddr rfl (L 15 rfl rfl) Try.underlying33 rfl ti4 rfl rfl) ?_
                          refine U.k rfl rfl (.inr ⟨_, _, _, rfl, rfl, ((L 1 rfl rfl).trans (congrArg Value.bool g238))⟩) (S.load rfl (L 0 rfl rfl) Try.underlying4 rfl ((ow98.own (k := 1) rfl).cell rfl)) nd ?_
                          refine U.p rfl rfl (.inr ⟨_, _, _, rfl, rfl, ((L 6 rfl rfl).trans (congrArg Value.bool g226))⟩) (S.pickF rfl ((L 2 rfl rfl).trans (congrArg Value.bool g238)) (L 0 rfl rfl)) ?_
                          exact kk [(118, .bool p1.volatile), (117, .bool p1.volatile), (116, .pointer (some ⟨b10, 7, none⟩))] _ ⟨.bool p1.volatile, .pointer (some ⟨b10, 7, none⟩), rfl, (by rw [g238, Bool.false_or])⟩
                    · skip
                      refine U.x rfl rfl rfl rfl ((L 0 rfl rfl).trans (congrArg Value.bool g226)) (by decide) ?_
                      refine U.x rfl rfl rfl rfl ((L 1 rfl rfl).trans (congrArg Value.bool g226)) (by decide) ?_
                      refine U.x rfl rfl rfl rfl ((L 2 rfl rfl).trans (congrArg Value.bool g226)) (by decide) ?_
                      refine U.x rfl rfl rfl rfl ((L 3 rfl rfl).trans (congrArg Value.bool g226)) (by decide) ?_
                      refine U.z rfl rfl rfl rfl (L 0 rfl rfl) ?_
                      refine U.z rfl rfl rfl rfl (L 1 rfl rfl) ?_
                      refine U.x rfl rfl rfl rfl ((L 6 rfl rfl).trans (congrArg Value.bool g226)) (by decide) ?_
                      refine U.x rfl rfl rfl rfl ((L 7 rfl rfl).trans (congrArg Value.bool g226)) (by decide) ?_
                      refine U.z rfl rfl rfl rfl (L 0 rfl rfl) ?_
                      refine U.z rfl rfl rfl rfl (L 1 rfl rfl) ?_
                      refine U.x rfl rfl rfl rfl ((L 10 rfl rfl).trans (congrArg Value.bool g226)) (by decide) ?_
                      refine U.p rfl rfl (.inl rfl) (S.pickF rfl ((L 11 rfl rfl).trans (congrArg Value.bool g226)) K) ?_
                      exact kk [(123, .bool false), (122, .tuple #[]), (121, .tuple #[]), (120, .tuple #[]), (119, .tuple #[]), (118, .tuple #[]), (117, .tuple #[]), (116, .tuple #[]), (115, .tuple #[]), (114, .tuple #[]), (113, .tuple #[]), (112, .tuple #[])] _ ⟨.tuple #[], .tuple #[], .tuple #[], .tuple #[], .tuple #[], .tuple #[], .tuple #[], .tuple #[], .tuple #[], .tuple #[], .tuple #[], rfl, (by rw [g226, Bool.false_and])⟩
                · intro kk
                  refine bcase (b := decide (p1.op ≠ 9)) (fun g239 => ?_) (fun g239 => ?_)
                  · skip
                    refine U.p (v := .pointer (some ⟨b10, 0, none⟩)) rfl rfl (.inr ⟨_, _, _, rfl, rfl, ((L 0 rfl rfl).trans (congrArg Value.bool g239))⟩) (S.fieldAddr rfl (L 6 rfl rfl) Try.underlying33 rfl ti3 rfl rfl) ?_
                    refine U.k rfl rfl (.inr ⟨_, _, _, rfl, rfl, ((L 1 rfl rfl).trans (congrArg Value.bool g239))⟩) (S.load rfl (L 0 rfl rfl) Try.underlying3 rfl ((ow98.own (k := 1) rfl).cell rfl)) nd ?_
                    refine U.p rfl rfl (.inr ⟨_, _, _, rfl, rfl, ((L 2 rfl rfl).trans (congrArg Value.bool g239))⟩) (S.neqI rfl (L 0 rfl rfl) K) ?_
                    refine U.p rfl rfl (.inl rfl) (S.pickT rfl ((L 3 rfl rfl).trans (congrArg Value.bool g239)) (L 0 rfl rfl)) ?_
                    exact kk [(110, .bool (decide (p1.op ≠ 10))), (109, .bool (decide (p1.op ≠ 10))), (108, .int .i64 p1.op), (107, .pointer (some ⟨b10, 0, none⟩))] _ ⟨.bool (decide (p1.op ≠ 10)), .int .i64 p1.op, .pointer (some ⟨b10, 0, none⟩), rfl, (by rw [g239, Bool.true_and])⟩
                  · skip
                    refine U.x rfl rfl rfl rfl ((L 0 rfl rfl).trans (congrArg Value.bool g239)) (by decide) ?_
                    refine U.x rfl rfl rfl rfl ((L 1 rfl rfl).trans (congrArg Value.bool g239)) (by decide) ?_
                    refine U.x rfl rfl rfl rfl ((L 2 rfl rfl).trans (congrArg Value.bool g239)) (by decide) ?_
                    refine U.p rfl rfl (.inl rfl) (S.pickF rfl ((L 3 rfl rfl).trans (congrArg Value.bool g239)) K) ?_
                    exact kk [(110, .bool false), (109, .tuple #[]), (108, .tuple #[]), (107, .tuple #[])] _ ⟨.tuple #[], .tuple #[], .tuple #[], rfl, (by rw [g239, Bool.false_and])⟩
          · intro kk
            refine bcase (b := y48) (fun g240 => ?_) (fun g240 => ?_)
            · have h241 := ifT g240 hy75
              refine U.x rfl rfl rfl rfl ((L 0 rfl rfl).trans (congrArg Value.bool g240)) (by decide) ?_
              refine U.x rfl rfl rfl rfl ((L 1 rfl rfl).trans (congrArg Value.bool g240)) (by decide) ?_
              refine U.x rfl rfl rfl rfl ((L 2 rfl rfl).trans (congrArg Value.bool g240)) (by decide) ?_
              refine U.x rfl rfl rfl rfl ((L 3 rfl rfl).trans (congrArg Value.bool g240)) (by decide) ?_
              refine U.x rfl rfl rfl rfl ((L 4 rfl rfl).trans (congrArg Value.bool g240)) (by decide) ?_
              refine U.x rfl rfl rfl rfl ((L 5 rfl rfl).trans (congrArg Value.bool g240)) (by decide) ?_
              refine U.x rfl rfl rfl rfl ((L 6 rfl rfl).trans (congrArg Value.bool g240)) (by decide) ?_
              refine U.p rfl rfl (.inl rfl) (S.pickT rfl ((L 7 rfl rfl).trans (congrArg Value.bool g240)) K) ?_
              have e242 := Option.some.inj h241
              subst e242
              exact kk [(81, .bool true), (80, .tuple #[]), (79, .tuple #[]), (78, .tuple #[]), (77, .tuple #[]), (76, .tuple #[]), (75, .tuple #[]), (74, .tuple #[])] _ ⟨.tuple #[], .tuple #[], .tuple #[], .tuple #[], .tuple #[], .tuple #[], .tuple #[], V71, rfl, (.refl _), rfl, ow73⟩
            · have h243 := ifF g240 hy75
              refine U.p rfl rfl (.inr ⟨_, _, _, rfl, rfl, ((L 0 rfl rfl).trans (congrArg Value.bool g240))⟩) (S.move rfl (L 37 rfl rfl)) ?_
              refine U.p (v := .pointer (some ⟨b10, 3, none⟩)) rfl rfl (.inr ⟨_, _, _, rfl, rfl, ((L 1 rfl rfl).trans (congrArg Value.bool g240))⟩) (S.fieldAddr rfl (L 35 rfl rfl) Try.underlying33 rfl ti3 rfl rfl) ?_
              refine U.k rfl rfl (.inr ⟨_, _, _, rfl, rfl, ((L 2 rfl rfl).trans (congrArg Value.bool g240))⟩) (S.load rfl (L 0 rfl rfl) Try.underlying3 rfl ((ow73.own (k := 1) rfl).cell rfl)) nd ?_
              refine U.p (v := .pointer (some ⟨b5, 2, none⟩)) rfl rfl (.inr ⟨_, _, _, rfl, rfl, ((L 3 rfl rfl).trans (congrArg Value.bool g240))⟩) (S.fieldAddr rfl (L 36 rfl rfl) Try.underlying24 rfl ti3 rfl rfl) ?_
              refine U.k rfl rfl (.inr ⟨_, _, _, rfl, rfl, ((L 4 rfl rfl).trans (congrArg Value.bool g240))⟩) (S.load rfl (L 0 rfl rfl) Try.underlying3 rfl ((ow73.own (k := 0) rfl).cell rfl)) nd ?_
              obtain ⟨x244, hx245, h246⟩ := bindS h243
              refine O.call (V := V71) rfl rfl (.inr ⟨_, _, _, rfl, rfl, ((L 5 rfl rfl).trans (congrArg Value.bool g240))⟩) rfl en40 (aC (L 4 rfl rfl) (aC K (aC (L 2 rfl rfl) (aC (L 0 rfl rfl) aN)))) (wk_ref08_register V71 _ x27.2.2.1 false p1.b p0.regs ow73 _ hx245) (fun _ _ _ _ => nd) (fun v247 V248 le249 hp250 => ?_)
              obtain ⟨rfl, ow251⟩ := hp250
              refine U.p rfl rfl (.inr ⟨_, _, _, rfl, rfl, ((L 6 rfl rfl).trans (congrArg Value.bool g240))⟩) (S.not rfl (L 0 rfl rfl)) ?_
              refine U.p rfl rfl (.inl rfl) (S.pickF rfl ((L 7 rfl rfl).trans (congrArg Value.bool g240)) (L 0 rfl rfl)) ?_
              have e252 := Option.some.inj h246
              subst e252
              exact kk [(81, .bool (!x244)), (80, .bool (!x244)), (79, .bool x244), (78, .int .i64 p0.regs), (77, .pointer (some ⟨b5, 2, none⟩)), (76, .int .i64 p1.b), (75, .pointer (some ⟨b10, 3, none⟩)), (74, .bool x27.2.2.1)] _ ⟨.bool (!x244), .bool x244, .int .i64 p0.regs, .pointer (some ⟨b5, 2, none⟩), .int .i64 p1.b, .pointer (some ⟨b10, 3, none⟩), .bool x27.2.2.1, V248, rfl, le249, rfl, ow251⟩
        · intro kk
          refine bcase (b := !x40) (fun g253 => ?_) (fun g253 => ?_)
          · have h254 := ifT g253 hy49
            have k255 : x40 = false := by simpa using g253
            refine U.x rfl rfl rfl rfl ((L 0 rfl rfl).trans (congrArg Value.bool g253)) (by decide) ?_
            refine U.x rfl rfl rfl rfl ((L 1 rfl rfl).trans (congrArg Value.bool g253)) (by decide) ?_
            refine U.x rfl rfl rfl rfl ((L 2 rfl rfl).trans (congrArg Value.bool g253)) (by decide) ?_
            refine U.x rfl rfl rfl rfl ((L 3 rfl rfl).trans (congrArg Value.bool g253)) (by decide) ?_
            refine U.x rfl rfl rfl rfl ((L 4 rfl rfl).trans (congrArg Value.bool g253)) (by decide) ?_
            refine U.z rfl rfl rfl rfl (L 0 rfl rfl) ?_
            refine U.z rfl rfl rfl rfl (L 1 rfl rfl) ?_
            refine U.z rfl rfl rfl rfl (L 2 rfl rfl) ?_
            refine U.x rfl rfl rfl rfl ((L 8 rfl rfl).trans (congrArg Value.bool g253)) (by decide) ?_
            refine U.x rfl rfl rfl rfl ((L 9 rfl rfl).trans (congrArg Value.bool g253)) (by decide) ?_
            refine U.z rfl rfl rfl rfl (L 0 rfl rfl) ?_
            refine U.z rfl rfl rfl rfl (L 1 rfl rfl) ?_
            refine U.z rfl rfl rfl rfl (L 2 rfl rfl) ?_
            refine U.x rfl rfl rfl rfl ((L 13 rfl rfl).trans (congrArg Value.bool g253)) (by decide) ?_
            refine U.x rfl rfl rfl rfl ((L 14 rfl rfl).trans (congrArg Value.bool g253)) (by decide) ?_
            refine U.x rfl rfl rfl rfl ((L 15 rfl rfl).trans (congrArg Value.bool g253)) (by decide) ?_
            refine U.x rfl rfl rfl rfl ((L 16 rfl rfl).trans (congrArg Value.bool g253)) (by decide) ?_
            refine U.x rfl rfl rfl rfl ((L 17 rfl rfl).trans (congrArg Value.bool g253)) (by decide) ?_
            refine U.x rfl rfl rfl rfl ((L 18 rfl rfl).trans (congrArg Value.bool g253)) (by decide) ?_
            refine U.x rfl rfl rfl rfl ((L 19 rfl rfl).trans (congrArg Value.bool g253)) (by decide) ?_
            refine U.p rfl rfl (.inl rfl) (S.pickT rfl ((L 20 rfl rfl).trans (congrArg Value.bool g253)) K) ?_
            have e256 := Option.some.inj h254
            subst e256
            exact kk [(72, .bool true), (71, .tuple #[]), (70, .tuple #[]), (69, .tuple #[]), (68, .tuple #[]), (67, .tuple #[]), (66, .tuple #[]), (65, .tuple #[]), (64, .tuple #[]), (63, .tuple #[]), (62, .tuple #[]), (61, .tuple #[]), (60, .tuple #[]), (59, .tuple #[]), (58, .tuple #[]), (57, .tuple #[]), (56, .tuple #[]), (55, .tuple #[]), (54, .tuple #[]), (53, .tuple #[]), (52, .tuple #[])] _ ⟨.tuple #[], .tuple #[], .tuple #[], .tuple #[], .tuple #[], .tuple #[], .tuple #[], .tuple #[], .tuple #[], .tuple #[], .tuple #[], .tuple #[], .tuple #[], .tuple #[], .tuple #[], .tuple #[], .tuple #[], .tuple #[], .tuple #[], .tuple #[], V44, rfl, (.refl _), rfl, ow47⟩
          · have h257 := ifF g253 hy49
            have k258 : x40 = true := by simpa using g253
            refine U.p rfl rfl (.inr ⟨_, _, _, rfl, rfl, ((L 0 rfl rfl).trans (congrArg Value.bool g253))⟩) (S.move rfl (L 14 rfl rfl)) ?_
            refine U.p (v := .pointer (some ⟨b10, 0, none⟩)) rfl rfl (.inr ⟨_, _, _, rfl, rfl, ((L 1 rfl rfl).trans (congrArg Value.bool g253))⟩) (S.fieldAddr rfl (L 13 rfl rfl) Try.underlying33 rfl ti3 rfl rfl) ?_
            refine U.k rfl rfl (.inr ⟨_, _, _, rfl, rfl, ((L 2 rfl rfl).trans (congrArg Value.bool g253))⟩) (S.load rfl (L 0 rfl rfl) Try.underlying3 rfl ((ow47.own (k := 1) rfl).cell rfl)) nd ?_
            refine U.p rfl rfl (.inr ⟨_, _, _, rfl, rfl, ((L 3 rfl rfl).trans (congrArg Value.bool g253))⟩) (S.eqlI rfl (L 0 rfl rfl) K) ?_
            refine U.p rfl rfl (.inr ⟨_, _, _, rfl, rfl, ((L 4 rfl rfl).trans (congrArg Value.bool g253))⟩) (S.move rfl (L 0 rfl rfl)) ?_
            refine U.joinX 20 (fun e H => ∃ (u259 u260 u261 : Value), H = V44.H ∧ e = [(60, .bool ((decide (p1.op = 9)) || (decide (p1.op = 10)))), (59, u259), (58, u260), (57, u261)]) ?_ ?_
            · rintro _ _ ⟨u259, u260, u261, rfl, rfl⟩
              refine U.p rfl rfl (.inr ⟨_, _, _, rfl, rfl, ((L 9 rfl rfl).trans (congrArg Value.bool g253))⟩) (S.move rfl (L 0 rfl rfl)) ?_
              refine U.joinX 25 (fun e H => ∃ (u265 u266 u267 : Value), H = V44.H ∧ e = [(65, .bool (((decide (p1.op = 9)) || (decide (p1.op = 10))) || (decide (p1.op = 15)))), (64, u265), (63, u266), (62, u267)]) ?_ ?_
              · rintro _ _ ⟨u265, u266, u267, rfl, rfl⟩
                refine U.p (v := .pointer (some ⟨b10, 2, none⟩)) rfl rfl (.inr ⟨_, _, _, rfl, rfl, ((L 14 rfl rfl).trans (congrArg Value.bool g253))⟩) (S.fieldAddr rfl (L 26 rfl rfl) Try.underlying33 rfl ti3 rfl rfl) ?_
                refine U.k rfl rfl (.inr ⟨_, _, _, rfl, rfl, ((L 15 rfl rfl).trans (congrArg Value.bool g253))⟩) (S.load rfl (L 0 rfl rfl) Try.underlying3 rfl ((ow47.own (k := 1) rfl).cell rfl)) nd ?_
                refine U.p (v := .pointer (some ⟨b5, 2, none⟩)) rfl rfl (.inr ⟨_, _, _, rfl, rfl, ((L 16 rfl rfl).trans (congrArg Value.bool g253))⟩) (S.fieldAddr rfl (L 27 rfl rfl) Try.underlying24 rfl ti3 rfl rfl) ?_
                refine U.k rfl rfl (.inr ⟨_, _, _, rfl, rfl, ((L 17 rfl rfl).trans (congrArg Value.bool g253))⟩) (S.load rfl (L 0 rfl rfl) Try.underlying3 rfl ((ow47.own (k := 0) rfl).cell rfl)) nd ?_
                obtain ⟨x271, hx272, h273⟩ := bindS h257
                refine O.call (V := V44) rfl rfl (.inr ⟨_, _, _, rfl, rfl, ((L 18 rfl rfl).trans (congrArg Value.bool g253))⟩) rfl en40 (aC (L 17 rfl rfl) (aC (L 4 rfl rfl) (aC (L 2 rfl rfl) (aC (L 0 rfl rfl) aN)))) (wk_ref08_register V44 _ x35 (((decide (p1.op = 9)) || (decide (p1.op = 10))) || (decide (p1.op = 15))) p1.a p0.regs ow47 _ hx272) (fun _ _ _ _ => nd) (fun v274 V275 le276 hp277 => ?_)
                obtain ⟨rfl, ow278⟩ := hp277
                refine U.p rfl rfl (.inr ⟨_, _, _, rfl, rfl, ((L 19 rfl rfl).trans (congrArg Value.bool g253))⟩) (S.not rfl (L 0 rfl rfl)) ?_
                refine U.p rfl rfl (.inl rfl) (S.pickF rfl ((L 20 rfl rfl).trans (congrArg Value.bool g253)) (L 0 rfl rfl)) ?_
                have e279 := Option.some.inj h273
                subst e279
                exact kk [(72, .bool (!x271)), (71, .bool (!x271)), (70, .bool x271), (69, .int .i64 p0.regs), (68, .pointer (some ⟨b5, 2, none⟩)), (67, .int .i64 p1.a), (66, .pointer (some ⟨b10, 2, none⟩)), (65, .bool (((decide (p1.op = 9)) || (decide (p1.op = 10))) || (decide (p1.op = 15)))), (64, u265), (63, u266), (62, u267), (61, .bool ((decide (p1.op = 9)) || (decide (p1.op = 10)))), (60, .bool ((decide (p1.op = 9)) || (decide (p1.op = 10)))), (59, u259), (58, u260), (57, u261), (56, .bool (decide (p1.op = 9))), (55, .bool (decide (p1.op = 9))), (54, .int .i64 p1.op), (53, .pointer (some ⟨b10, 0, none⟩)), (52, .bool x35)] _ ⟨.bool (!x271), .bool x271, .int .i64 p0.regs, .pointer (some ⟨b5, 2, none⟩), .int .i64 p1.a, .pointer (some ⟨b10, 2, none⟩), .bool (((decide (p1.op = 9)) || (decide (p1.op = 10))) || (decide (p1.op = 15))), u265, u266, u267, .bool ((decide (p1.op = 9)) || (decide (p1.op = 10))), .bool ((decide (p1.op = 9)) || (decide (p1.op = 10))), u259, u260, u261, .bool (decide (p1.op = 9)), .bool (decide (p1.op = 9)), .int .i64 p1.op, .pointer (some ⟨b10, 0, none⟩), .bool x35, V275, rfl, le276, rfl, ow278⟩
              · intro kk
                refine bcase (b := (decide (p1.op = 9)) || (decide (p1.op = 10))) (fun g280 => ?_) (fun g280 => ?_)
                · skip
                  refine U.x rfl rfl rfl rfl ((L 0 rfl rfl).trans (congrArg Value.bool g280)) (by decide) ?_
                  refine U.x rfl rfl rfl rfl ((L 1 rfl rfl).trans (congrArg Value.bool g280)) (by decide) ?_
                  refine U.x rfl rfl rfl rfl ((L 2 rfl rfl).trans (congrArg Value.bool g280)) (by decide) ?_
                  refine U.p rfl rfl (.inr ⟨_, _, _, rfl, rfl, ((L 13 rfl rfl).trans (congrArg Value.bool g253))⟩) (S.pickT rfl ((L 3 rfl rfl).trans (congrArg Value.bool g280)) K) ?_
                  exact kk [(65, .bool true), (64, .tuple #[]), (63, .tuple #[]), (62, .tuple #[])] _ ⟨.tuple #[], .tuple #[], .tuple #[], rfl, (by rw [g280, Bool.true_or])⟩
                · skip
                  refine U.p (v := .pointer (some ⟨b10, 0, none⟩)) rfl rfl (.inr ⟨_, _, _, rfl, rfl, ((L 0 rfl rfl).trans (congrArg Value.bool g280))⟩) (S.fieldAddr rfl (L 22 rfl rfl) Try.underlying33 rfl ti3 rfl rfl) ?_
                  refine U.k rfl rfl (.inr ⟨_, _, _, rfl, rfl, ((L 1 rfl rfl).trans (congrArg Value.bool g280))⟩) (S.load rfl (L 0 rfl rfl) Try.underlying3 rfl ((ow47.own (k := 1) rfl).cell rfl)) nd ?_
                  refine U.p rfl rfl (.inr ⟨_, _, _, rfl, rfl, ((L 2 rfl rfl).trans (congrArg Value.bool g280))⟩) (S.eqlI rfl (L 0 rfl rfl) K) ?_
                  refine U.p rfl rfl (.inr ⟨_, _, _, rfl, rfl, ((L 13 rfl rfl).trans (congrArg Value.bool g253))⟩) (S.pickF rfl ((L 3 rfl rfl).trans (congrArg Value.bool g280)) (L 0 rfl rfl)) ?_
                  exact kk [(65, .bool (decide (p1.op = 15))), (64, .bool (decide (p1.op = 15))), (63, .int .i64 p1.op), (62, .pointer (some ⟨b10, 0, none⟩))] _ ⟨.bool (decide (p1.op = 15)), .int .i64 p1.op, .pointer (some ⟨b10, 0, none⟩), rfl, (by rw [g280, Bool.false_or])⟩
            · intro kk
              refine bcase (b := decide (p1.op = 9)) (fun g281 => ?_) (fun g281 => ?_)
              · skip
                refine U.x rfl rfl rfl rfl ((L 0 rfl rfl).trans (congrArg Value.bool g281)) (by decide) ?_
                refine U.x rfl rfl rfl rfl ((L 1 rfl rfl).trans (congrArg Value.bool g281)) (by decide) ?_
                refine U.x rfl rfl rfl rfl ((L 2 rfl rfl).trans (congrArg Value.bool g281)) (by decide) ?_
                refine U.p rfl rfl (.inr ⟨_, _, _, rfl, rfl, ((L 8 rfl rfl).trans (congrArg Value.bool g253))⟩) (S.pickT rfl ((L 3 rfl rfl).trans (congrArg Value.bool g281)) K) ?_
                exact kk [(60, .bool true), (59, .tuple #[]), (58, .tuple #[]), (57, .tuple #[])] _ ⟨.tuple #[], .tuple #[], .tuple #[], rfl, (by rw [g281, Bool.true_or])⟩
              · skip
                refine U.p (v := .pointer (some ⟨b10, 0, none⟩)) rfl rfl (.inr ⟨_, _, _, rfl, rfl, ((L 0 rfl rfl).trans (congrArg Value.bool g281))⟩) (S.fieldAddr rfl (L 17 rfl rfl) Try.underlying33 rfl ti3 rfl rfl) ?_
                refine U.k rfl rfl (.inr ⟨_, _, _, rfl, rfl, ((L 1 rfl rfl).trans (congrArg Value.bool g281))⟩) (S.load rfl (L 0 rfl rfl) Try.underlying3 rfl ((ow47.own (k := 1) rfl).cell rfl)) nd ?_
                refine U.p rfl rfl (.inr ⟨_, _, _, rfl, rfl, ((L 2 rfl rfl).trans (congrArg Value.bool g281))⟩) (S.eqlI rfl (L 0 rfl rfl) K) ?_
                refine U.p rfl rfl (.inr ⟨_, _, _, rfl, rfl, ((L 8 rfl rfl).trans (congrArg Value.bool g253))⟩) (S.pickF rfl ((L 3 rfl rfl).trans (congrArg Value.bool g281)) (L 0 rfl rfl)) ?_
                exact kk [(60, .bool (decide (p1.op = 10))), (59, .bool (decide (p1.op = 10))), (58, .int .i64 p1.op), (57, .pointer (some ⟨b10, 0, none⟩))] _ ⟨.bool (decide (p1.op = 10)), .int .i64 p1.op, .pointer (some ⟨b10, 0, none⟩), rfl, (by rw [g281, Bool.false_or])⟩
      · skip
        refine WP.usreg rfl ?_
        refine U.p (v := .pointer (some ⟨b10, 0, none⟩)) rfl rfl (.inl rfl) (S.fieldAddr rfl (L 21 rfl rfl) Try.underlying33 rfl ti3 rfl rfl) ?_
        refine U.k rfl rfl (.inl rfl) (S.load rfl (L 0 rfl rfl) Try.underlying3 rfl ((ow34.own (k := 0) rfl).cell rfl)) nd ?_
        refine U.p rfl rfl (.inl rfl) (S.eqlI rfl (L 0 rfl rfl) K) ?_
        refine U.done (Nat.le_of_ble_eq_true rfl) ?_
        refine WP.cond _ (L 0 rfl rfl) rfl (fun c282 => ?_) (fun c282 => ?_)
        · have h283 := ifT c282 h29
          refine WP.seq ?_
          refine WP.usreg rfl ?_
          refine U.p (v := .pointer (some ⟨b10, 4, none⟩)) rfl rfl (.inl rfl) (S.fieldAddr rfl (L 24 rfl rfl) Try.underlying33 rfl ti3 rfl rfl) ?_
          refine U.k rfl rfl (.inl rfl) (S.load rfl (L 0 rfl rfl) Try.underlying3 rfl ((ow34.own (k := 0) rfl).cell rfl)) nd ?_
          refine U.p rfl rfl (.inl rfl) (S.lss rfl (L 0 rfl rfl) K) ?_
          refine U.p rfl rfl (.inl rfl) (S.move rfl (L 0 rfl rfl)) ?_
          refine U.joinX 8 (fun e H => ∃ (u284 u285 u286 : Value), H = V31.H ∧ e = [(37, .bool ((decide (p1.imm < 1)) || (decide (3 < p1.imm)))), (36, u284), (35, u285), (34, u286)]) ?_ ?_
          · rintro _ _ ⟨u284, u285, u286, rfl, rfl⟩
            refine U.done (Nat.le_of_ble_eq_true rfl) ?_
            refine WP.cond _ (L 0 rfl rfl) rfl (fun c290 => ?_) (fun c290 => ?_)
            · have h291 := ifT c290 h283
              refine WP.usreg rfl ?_
              refine U.p rfl rfl (.inl rfl) (S.assign rfl K) ?_
              refine U.done (Nat.le_of_ble_eq_true rfl) ?_
              refine WP.ret ?_
              refine sqR (sqR ?_)
              refine fin.slot (.inr rfl) rfl (L 0 rfl rfl) ⟨V31, rfl, ((le7.trans le12).trans le32), ?_⟩
              have ow292 := ow34.drop 0 rfl
              have ow293 := ow292.drop 0 rfl
              have e294 := Option.some.inj h291
              subst e294
              exact ⟨rfl, ow293⟩
            · have h295 := ifF c290 h283
              refine WP.skip ?_
              refine sqN ?_
              refine WP.ureg rfl ?_
              refine U.p (v := .pointer (some ⟨b10, 4, none⟩)) rfl rfl (.inl rfl) (S.fieldAddr rfl (L 32 rfl rfl) Try.underlying33 rfl ti3 rfl rfl) ?_
              refine U.k rfl rfl (.inl rfl) (S.load rfl (L 0 rfl rfl) Try.underlying3 rfl ((ow34.own (k := 0) rfl).cell rfl)) nd ?_
              refine U.p rfl rfl (.inl rfl) (S.eqlI rfl (L 0 rfl rfl) K) ?_
              refine U.p rfl rfl (.inl rfl) (S.assign rfl (L 0 rfl rfl)) ?_
              refine U.done (Nat.le_of_ble_eq_true rfl) ?_
              refine sqN ?_
              have ow296 := ow34.pick 0 rfl
              have ow297 := ow296.pick 1 rfl
              exact ⟨_, V31, rfl, ⟨decide (p1.imm = 3), rfl, (.refl _), ow297, h295⟩, (allCons (L 37 rfl rfl) (allCons (L 36 rfl rfl) (allCons (L 18 rfl rfl) (allCons (L 0 rfl rfl) (allCons (L 16 rfl rfl) (allCons (L 15 rfl rfl) allNil))))))⟩
          · intro kk
            refine bcase (b := decide (p1.imm < 1)) (fun g298 => ?_) (fun g298 => ?_)
            · skip
              refine U.x rfl rfl rfl rfl ((L 0 rfl rfl).trans (congrArg Value.bool g298)) (by decide) ?_
              refine U.x rfl rfl rfl rfl ((L 1 rfl rfl).trans (congrArg Value.bool g298)) (by decide) ?_
              refine U.x rfl rfl rfl rfl ((L 2 rfl rfl).trans (congrArg Value.bool g298)) (by decide) ?_
              refine U.p rfl rfl (.inl rfl) (S.pickT rfl ((L 3 rfl rfl).trans (congrArg Value.bool g298)) K) ?_
              exact kk [(37, .bool true), (36, .tuple #[]), (35, .tuple #[]), (34, .tuple #[])] _ ⟨.tuple #[], .tuple #[], .tuple #[], rfl, (by rw [g298, Bool.true_or])⟩
            · skip
              refine U.p (v := .pointer (some ⟨b10, 4, none⟩)) rfl rfl (.inr ⟨_, _, _, rfl, rfl, ((L 0 rfl rfl).trans (congrArg Value.bool g298))⟩) (S.fieldAddr rfl (L 28 rfl rfl) Try.underlying33 rfl ti3 rfl rfl) ?_
              refine U.k rfl rfl (.inr ⟨_, _, _, rfl, rfl, ((L 1 rfl rfl).trans (congrArg Value.bool g298))⟩) (S.load rfl (L 0 rfl rfl) Try.underlying3 rfl ((ow34.own (k := 0) rfl).cell rfl)) nd ?_
              refine U.p rfl rfl (.inr ⟨_, _, _, rfl, rfl, ((L 2 rfl rfl).trans (congrArg Value.bool g298))⟩) (S.gtr rfl (L 0 rfl rfl) K) ?_
              refine U.p rfl rfl (.inl rfl) (S.pickF rfl ((L 3 rfl rfl).trans (congrArg Value.bool g298)) (L 0 rfl rfl)) ?_
              exact kk [(37, .bool (decide (3 < p1.imm))), (36, .bool (decide (3 < p1.imm))), (35, .int .i64 p1.imm), (34, .pointer (some ⟨b10, 4, none⟩))] _ ⟨.bool (decide (3 < p1.imm)), .int .i64 p1.imm, .pointer (some ⟨b10, 4, none⟩), rfl, (by rw [g298, Bool.false_or])⟩
        · have h299 := ifF c282 h29
          refine WP.skip ?_
          refine sqN ?_
          have ow300 := ow34.pick 0 rfl
          have ow301 := ow300.pick 1 rfl
          exact ⟨_, V31, rfl, ⟨x27.2.1, rfl, (.refl _), ow301, h299⟩, (allCons (L 25 rfl rfl) (allCons (L 24 rfl rfl) (allCons (L 6 rfl rfl) (allCons (L 5 rfl rfl) (allCons (L 4 rfl rfl) (allCons (L 3 rfl rfl) allNil))))))⟩
  · intro kk
    refine bcase (b := decide (p1.op < 1)) (fun g302 => ?_) (fun g302 => ?_)
    · skip
      refine U.x rfl rfl rfl rfl ((L 0 rfl rfl).trans (congrArg Value.bool g302)) (by decide) ?_
      refine U.x rfl rfl rfl rfl ((L 1 rfl rfl).trans (congrArg Value.bool g302)) (by decide) ?_
      refine U.x rfl rfl rfl rfl ((L 2 rfl rfl).trans (congrArg Value.bool g302)) (by decide) ?_
      refine U.p rfl rfl (.inl rfl) (S.pickT rfl ((L 3 rfl rfl).trans (congrArg Value.bool g302)) K) ?_
      exact kk [(18, .bool true), (17, .tuple #[]), (16, .tuple #[]), (15, .tuple #[])] _ ⟨.tuple #[], .tuple #[], .tuple #[], rfl, (by rw [g302, Bool.true_or])⟩
    · skip
      refine U.p (v := .pointer (some ⟨b10, 0, none⟩)) rfl rfl (.inr ⟨_, _, _, rfl, rfl, ((L 0 rfl rfl).trans (congrArg Value.bool g302))⟩) (S.fieldAddr rfl (L 5 rfl rfl) Try.underlying33 rfl ti3 rfl rfl) ?_
      refine U.k rfl rfl (.inr ⟨_, _, _, rfl, rfl, ((L 1 rfl rfl).trans (congrArg Value.bool g302))⟩) (S.load rfl (L 0 rfl rfl) Try.underlying3 rfl ((ow13.own (k := 0) rfl).cell rfl)) nd ?_
      refine U.p rfl rfl (.inr ⟨_, _, _, rfl, rfl, ((L 2 rfl rfl).trans (congrArg Value.bool g302))⟩) (S.gtr rfl (L 0 rfl rfl) K) ?_
      refine U.p rfl rfl (.inl rfl) (S.pickF rfl ((L 3 rfl rfl).trans (congrArg Value.bool g302)) (L 0 rfl rfl)) ?_
      exact kk [(18, .bool (decide (22 < p1.op))), (17, .bool (decide (22 < p1.op))), (16, .int .i64 p1.op), (15, .pointer (some ⟨b10, 0, none⟩))] _ ⟨.bool (decide (22 < p1.op)), .int .i64 p1.op, .pointer (some ⟨b10, 0, none⟩), rfl, (by rw [g302, Bool.false_or])⟩

set_option maxHeartbeats 4000000 in
set_option maxRecDepth 10000 in
theorem wk_ref08_Good (V : Vw) (Rs : List At) (p0 : TFunc) (v1 : Value) (f2 : Fz RT_TIns V v1 p0.code) (ow : Ow V (Rs)) (r : Bool) (h : ref08_Good p0 = some r) : ∃ v V', Cl Try.prog 0 20 #[.agg #[.string p0.name, .int .i64 p0.params, .int .i64 p0.regs, v1]] V.H v V'.H ∧ V.le V' ∧ (v = .bool r ∧ Ow V' (Rs)) := by
  refine Ct.of (Nat.zero_le _) Try.func20 rfl (Nat.le_of_ble_eq_true rfl) ?_
  unfold ref08_Good at h
  refine WP.usreg rfl ?_
  refine O.box ow rfl rfl (.inl rfl) rfl (L 0 rfl rfl) (by simp [topV]) rfl nd (fun b3 V4 le5 ow6 => ?_)
  refine U.p rfl rfl (.inl rfl) (S.assign rfl K) ?_
  refine U.done (Nat.le_of_ble_eq_true rfl) ?_
  refine WP.usreg rfl ?_
  refine U.p (v := .pointer (some ⟨b3, 3, none⟩)) rfl rfl (.inl rfl) (S.fieldAddr rfl (L 1 rfl rfl) Try.underlying24 rfl ti22 rfl rfl) ?_
  refine U.k rfl rfl (.inl rfl) (S.load rfl (L 0 rfl rfl) Try.underlying22 rfl ((ow6.own (k := 0) rfl).cell rfl)) nd ?_
  refine U.p rfl rfl (.inl rfl) (f2.1.len rfl (L 0 rfl rfl) Try.underlying22) ?_
  refine U.p rfl rfl (.inl rfl) (S.assign rfl (L 0 rfl rfl)) ?_
  refine U.done (Nat.le_of_ble_eq_true rfl) ?_
  refine WP.seq ?_
  refine WP.usreg rfl ?_
  refine U.p rfl rfl (.inl rfl) (S.move rfl (L 0 rfl rfl)) ?_
  refine U.p rfl rfl (.inl rfl) (S.eqlI rfl (L 0 rfl rfl) K) ?_
  refine U.p rfl rfl (.inl rfl) (S.move rfl (L 0 rfl rfl)) ?_
  refine U.joinX 7 (fun e H => ∃ (u8 u9 u10 : Value), H = V4.H ∧ e = [(16, .bool ((decide ((p0.code.length : Int) = 0)) || (decide (p0.params < 0)))), (15, u8), (14, u9), (13, u10)]) ?_ ?_
  · rintro _ _ ⟨u8, u9, u10, rfl, rfl⟩
    refine U.p rfl rfl (.inl rfl) (S.move rfl (L 0 rfl rfl)) ?_
    refine U.joinX 14 (fun e H => ∃ (u14 u15 u16 u17 u18 : Value), H = V4.H ∧ e = [(23, .bool (((decide ((p0.code.length : Int) = 0)) || (decide (p0.params < 0))) || (decide (p0.regs < p0.params)))), (22, u14), (21, u15), (20, u16), (19, u17), (18, u18)]) ?_ ?_
    · rintro _ _ ⟨u14, u15, u16, u17, u18, rfl, rfl⟩
      refine U.done (Nat.le_of_ble_eq_true rfl) ?_
      refine WP.cond _ (L 0 rfl rfl) rfl (fun c22 => ?_) (fun c22 => ?_)
      · have h23 := ifT c22 h
        refine WP.usreg rfl ?_
        refine U.p rfl rfl (.inl rfl) (S.assign rfl K) ?_
        refine U.done (Nat.le_of_ble_eq_true rfl) ?_
        refine WP.ret ?_
        refine sqR ?_
        refine fin.slot (.inr rfl) rfl (L 0 rfl rfl) ⟨V4, rfl, le5, ?_⟩
        have ow24 := ow6.drop 0 rfl
        have e25 := Option.some.inj h23
        subst e25
        exact ⟨rfl, ow24⟩
      · have h26 := ifF c22 h
        refine WP.skip ?_
        refine sqN ?_
        refine WP.usreg rfl ?_
        refine U.p (v := .pointer (some ⟨b3, 3, none⟩)) rfl rfl (.inl rfl) (S.fieldAddr rfl (L 19 rfl rfl) Try.underlying24 rfl ti22 rfl rfl) ?_
        refine U.k rfl rfl (.inl rfl) (S.load rfl (L 0 rfl rfl) Try.underlying22 rfl ((ow6.own (k := 0) rfl).cell rfl)) nd ?_
        refine U.p rfl rfl (.inl rfl) (S.move rfl (L 16 rfl rfl)) ?_
        refine U.p rfl rfl (.inl rfl) (S.sub rfl (L 0 rfl rfl) K) ?_
        obtain ⟨x27, hx28, h29⟩ := bindS h26
        obtain ⟨b30, o31, c32, cs33, hv34, hf35, hr36, hc37⟩ := f2.at hx28
        obtain ⟨v38, rfl, f39⟩ := hr36
        refine U.p rfl rfl (.inl rfl) (S.index rfl ((L 2 rfl rfl).trans hv34) (L 0 rfl rfl) Try.underlying22 ti33 (ix_ge hx28) (ix_lt hx28)) ?_
        refine U.p (v := .pointer (some ⟨b30, o31 + Int.toNat (w64 ((p0.code.length : Int) - 1)) * 9, none⟩)) rfl rfl (.inl rfl) (S.fieldAddr rfl (L 0 rfl rfl) Try.underlying33 rfl ti3 rfl rfl) ?_
        refine U.k rfl rfl (.inl rfl) (S.load rfl (L 0 rfl rfl) Try.underlying3 rfl (le5.cell hf35 (hc37 0 _ rfl))) nd ?_
        refine U.p rfl rfl (.inl rfl) (S.assign rfl (L 0 rfl rfl)) ?_
        refine U.done (Nat.le_of_ble_eq_true rfl) ?_
        refine WP.seq ?_
        refine WP.usreg rfl ?_
        refine U.p rfl rfl (.inl rfl) (S.move rfl (L 0 rfl rfl)) ?_
        refine U.p rfl rfl (.inl rfl) (S.neqI rfl (L 0 rfl rfl) K) ?_
        refine U.p rfl rfl (.inl rfl) (S.move rfl (L 0 rfl rfl)) ?_
        refine U.joinX 6 (fun e H => ∃ (u40 u41 : Value), H = V4.H ∧ e = [(36, .bool ((decide (x27.op ≠ 12)) && (decide (x27.op ≠ 15)))), (35, u40), (34, u41)]) ?_ ?_
        · rintro _ _ ⟨u40, u41, rfl, rfl⟩
          refine U.p rfl rfl (.inl rfl) (S.move rfl (L 0 rfl rfl)) ?_
          refine U.joinX 10 (fun e H => ∃ (u45 u46 : Value), H = V4.H ∧ e = [(40, .bool (((decide (x27.op ≠ 12)) && (decide (x27.op ≠ 15))) && (decide (x27.op ≠ 16)))), (39, u45), (38, u46)]) ?_ ?_
          · rintro _ _ ⟨u45, u46, rfl, rfl⟩
            refine U.done (Nat.le_of_ble_eq_true rfl) ?_
            refine WP.cond _ (L 0 rfl rfl) rfl (fun c50 => ?_) (fun c50 => ?_)
            · have h51 := ifT c50 h29
              refine WP.usreg rfl ?_
              refine U.p rfl rfl (.inl rfl) (S.assign rfl K) ?_
              refine U.done (Nat.le_of_ble_eq_true rfl) ?_
              refine WP.ret ?_
              refine sqR ?_
              refine fin.slot (.inr rfl) rfl (L 0 rfl rfl) ⟨V4, rfl, le5, ?_⟩
              have ow52 := ow6.drop 0 rfl
              have e53 := Option.some.inj h51
              subst e53
              exact ⟨rfl, ow52⟩
            · have h54 := ifF c50 h29
              refine WP.skip ?_
              refine sqN ?_
              refine WP.seq ?_
              refine WP.usreg rfl ?_
              refine U.p (v := .pointer (some ⟨b3, 3, none⟩)) rfl rfl (.inl rfl) (S.fieldAddr rfl (L 37 rfl rfl) Try.underlying24 rfl ti22 rfl rfl) ?_
              refine U.k rfl rfl (.inl rfl) (S.load rfl (L 0 rfl rfl) Try.underlying22 rfl ((ow6.own (k := 0) rfl).cell rfl)) nd ?_
              refine U.p rfl rfl (.inl rfl) (f2.1.len rfl (L 0 rfl rfl) Try.underlying22) ?_
              refine U.p rfl rfl (.inl rfl) (S.move rfl K) ?_
              refine U.done (Nat.le_of_ble_eq_true rfl) ?_
              refine WP.blk ?_
              unfold ref08_Good_l1 at h54
              obtain ⟨n57, hn56⟩ := loopO_some.1 h54
              refine WP.loopI2 (fun n l V' => ∃ (x55 : Int), l = [(1, .pointer (some ⟨b3, 0, none⟩)), (42, v1), (43, .int .i64 (p0.code.length : Int)), (44, .int .i64 x55)] ∧ V4.le V' ∧ Ow V' (.pt b3 (.cells 0 [.string p0.name, .int .i64 p0.params, .int .i64 p0.regs, v1]) :: Rs) ∧ itO (fun s => ref08_Good_l1b p0 s) n x55 = some r) n57 _ ⟨0, rfl, .refl _, ow6, hn56⟩ (allCons (L 41 rfl rfl) (allCons (L 2 rfl rfl) (allCons (L 1 rfl rfl) (allCons (L 0 rfl rfl) allNil)))) ?_
              rintro _ _ V58 ⟨x55, rfl, le59, ow60, h64⟩
              obtain ⟨m61, q62, rfl, h65, e63⟩ := itS h64
              replace h65 : ref08_Good_l1b p0 x55 = some q62 := h65
              unfold ref08_Good_l1b at h65
              refine WP.usreg rfl ?_
              refine U.p rfl rfl (.inl rfl) (S.lss rfl (L 3 rfl rfl) (L 2 rfl rfl)) ?_
              refine U.done (Nat.le_of_ble_eq_true rfl) ?_
              refine WP.seq ?_
              refine WP.cond _ (L 0 rfl rfl) rfl (fun c66 => ?_) (fun c66 => ?_)
              · have h67 := ifT c66 h65
                refine WP.skip ?_
                refine sqN ?_
                refine WP.seq ?_
                refine WP.blk ?_
                refine WP.usreg rfl ?_
                obtain ⟨x68, hx69, h70⟩ := bindS h67
                obtain ⟨b71, o72, c73, cs74, hv75, hf76, hr77, hc78⟩ := f2.at hx69
                obtain ⟨v79, rfl, f80⟩ := hr77
                refine U.p rfl rfl (.inl rfl) (S.index rfl ((L 2 rfl rfl).trans hv75) (L 4 rfl rfl) Try.underlying22 ti33 (ix_ge hx69) (ix_lt hx69)) ?_
                refine U.k rfl rfl (.inl rfl) (S.loadN (cs := [.int .i64 x68.op, .int .i64 x68.d, .int .i64 x68.a, .int .i64 x68.b, .int .i64 x68.imm, v79, .int .i64 x68.what, .bool x68.volatile, .bool x68.final]) rfl (L 0 rfl rfl) Try.underlying33 rfl ti33 rfl (fun j v hj => (le5.trans le59).cell hf76 (hc78 j v hj))) nd ?_
                refine O.alloc ow60 rfl rfl (.inl rfl) rfl ti33 rfl rfl nd (fun b81 V82 le83 ow84 => ?_)
                refine O.store (k := 0) (cs := [.int .i64 x68.op, .int .i64 x68.d, .int .i64 x68.a, .int .i64 x68.b, .int .i64 x68.imm, v79, .int .i64 x68.what, .bool x68.volatile, .bool x68.final]) (c' := [.int .i64 x68.op, .int .i64 x68.d, .int .i64 x68.a, .int .i64 x68.b, .int .i64 x68.imm, v79, .int .i64 x68.what, .bool x68.volatile, .bool x68.final]) ow84 rfl rfl rfl (.inl rfl) rfl (L 0 rfl rfl) (L 1 rfl rfl) ti33 (by simp [topV]) rfl rfl (Nat.le_of_ble_eq_true rfl) (by have q0 := f80.one; simp only [List.all_cons, List.all_nil, q0]; rfl) rfl nd (fun V86 le87 ow88 => ?_)
                refine U.done (Nat.le_of_ble_eq_true rfl) ?_
                refine WP.usreg rfl ?_
                refine U.k rfl rfl (.inl rfl) (S.loadB rfl (L 4 rfl rfl) Try.underlying24 rfl ti24 (ow88.own (k := 1) rfl).get rfl) nd ?_
                refine U.k rfl rfl (.inl rfl) (S.loadB rfl (L 1 rfl rfl) Try.underlying33 rfl ti33 (ow88.own (k := 0) rfl).get rfl) nd ?_
                have f89 := f2.up (((le5.trans le59).trans le83).trans le87)
                have f90 := f80.up (((le5.trans le59).trans le83).trans le87)
                obtain ⟨x91, hx92, h93⟩ := bindS h70
                refine O.call (V := V86) rfl rfl (.inl rfl) rfl en29 (aC (L 1 rfl rfl) (aC (L 0 rfl rfl) aN)) (wk_ref08_ins V86 _ p0 x68 v1 v79 f89 f90 ow88 _ hx92) (fun _ _ _ _ => nd) (fun v94 V95 le96 hp97 => ?_)
                obtain ⟨rfl, ow98⟩ := hp97
                refine U.p rfl rfl (.inl rfl) (S.not rfl (L 0 rfl rfl)) ?_
                refine U.p rfl rfl (.inl rfl) (S.move rfl (L 0 rfl rfl)) ?_
                obtain ⟨y99, hy100, h101⟩ := bindS h93
                refine U.joinX 16 (fun e H => ∃ (u102 u103 u104 u105 u106 u107 u108 u109 u110 u111 : Value), ∃ V' : Vw, H = V'.H ∧ V95.le V' ∧ e = [(63, .bool y99), (62, u102), (61, u103), (60, u104), (59, u105), (58, u106), (57, u107), (56, u108), (55, u109), (54, u110), (53, u111)] ∧ Ow V' (.pt b81 (.cells 9 [.int .i64 x68.op, .int .i64 x68.d, .int .i64 x68.a, .int .i64 x68.b, .int .i64 x68.imm, v79, .int .i64 x68.what, .bool x68.volatile, .bool x68.final]) :: .pt b3 (.cells 0 [.string p0.name, .int .i64 p0.params, .int .i64 p0.regs, v1]) :: Rs)) ?_ ?_
                · rintro _ _ ⟨u102, u103, u104, u105, u106, u107, u108, u109, u110, u111, V112, rfl, le113, rfl, ow114⟩
                  refine U.done (Nat.le_of_ble_eq_true rfl) ?_
                  refine WP.cond _ (L 0 rfl rfl) rfl (fun c115 => ?_) (fun c115 => ?_)
                  · have h116 := ifT c115 h101
                    refine WP.usreg rfl ?_
                    refine U.p rfl rfl (.inl rfl) (S.assign rfl K) ?_
                    refine U.done (Nat.le_of_ble_eq_true rfl) ?_
                    refine WP.ret ?_
                    refine blkR (sqR (sqR (blkR (sqR ?_))))
                    have h117 := exitS h116 e63
                    refine fin.slot (.inr rfl) rfl (L 0 rfl rfl) ⟨V112, rfl, (((((le5.trans le59).trans le83).trans le87).trans le96).trans le113), ?_⟩
                    have ow118 := ow114.drop 0 rfl
                    have ow119 := ow118.drop 0 rfl
                    have e120 := Option.some.inj h117
                    subst e120
                    exact ⟨rfl, ow119⟩
                  · have h121 := ifF c115 h101
                    refine WP.skip ?_
                    refine blkN (sqN ?_)
                    refine WP.ureg rfl ?_
                    refine U.p rfl rfl (.inl rfl) (S.add rfl (L 23 rfl rfl) K) ?_
                    refine U.p rfl rfl (.inl rfl) (S.move rfl (L 0 rfl rfl)) ?_
                    refine U.done (Nat.le_of_ble_eq_true rfl) ?_
                    refine sqN ?_
                    have ow122 := ow114.drop 0 rfl
                    exact ⟨_, V112, rfl, ⟨m61, Nat.lt_succ_self _, w64 (x55 + 1), rfl, ((((le59.trans le83).trans le87).trans le96).trans le113), ow122, backS h121 e63⟩, (allCons (L 22 rfl rfl) (allCons (L 23 rfl rfl) (allCons (L 24 rfl rfl) (allCons (L 0 rfl rfl) allNil))))⟩
                · intro kk
                  refine bcase (b := !x91) (fun g123 => ?_) (fun g123 => ?_)
                  · have h124 := ifT g123 hy100
                    have k125 : x91 = false := by simpa using g123
                    refine U.x rfl rfl rfl rfl ((L 0 rfl rfl).trans (congrArg Value.bool g123)) (by decide) ?_
                    refine U.x rfl rfl rfl rfl ((L 1 rfl rfl).trans (congrArg Value.bool g123)) (by decide) ?_
                    refine U.x rfl rfl rfl rfl ((L 2 rfl rfl).trans (congrArg Value.bool g123)) (by decide) ?_
                    refine U.x rfl rfl rfl rfl ((L 3 rfl rfl).trans (congrArg Value.bool g123)) (by decide) ?_
                    refine U.z rfl rfl rfl rfl (L 0 rfl rfl) ?_
                    refine U.z rfl rfl rfl rfl (L 1 rfl rfl) ?_
                    refine U.z rfl rfl rfl rfl (L 2 rfl rfl) ?_
                    refine U.z rfl rfl rfl rfl (L 3 rfl rfl) ?_
                    refine U.z rfl rfl rfl rfl (L 4 rfl rfl) ?_
                    refine U.x rfl rfl rfl rfl ((L 9 rfl rfl).trans (congrArg Value.bool g123)) (by decide) ?_
                    refine U.p rfl rfl (.inl rfl) (S.pickT rfl ((L 10 rfl rfl).trans (congrArg Value.bool g123)) K) ?_
                    have e126 := Option.some.inj h124
                    subst e126
                    exact kk [(63, .bool true), (62, .tuple #[]), (61, .tuple #[]), (60, .tuple #[]), (59, .tuple #[]), (58, .tuple #[]), (57, .tuple #[]), (56, .tuple #[]), (55, .tuple #[]), (54, .tuple #[]), (53, .tuple #[])] _ ⟨.tuple #[], .tuple #[], .tuple #[], .tuple #[], .tuple #[], .tuple #[], .tuple #[], .tuple #[], .tuple #[], .tuple #[], V95, rfl, (.refl _), rfl, ow98⟩
                  · have h127 := ifF g123 hy100
                    have k128 : x91 = true := by simpa using g123
                    refine U.p (v := .pointer (some ⟨b81, 0, none⟩)) rfl rfl (.inr ⟨_, _, _, rfl, rfl, ((L 0 rfl rfl).trans (congrArg Value.bool g123))⟩) (S.fieldAddr rfl (L 5 rfl rfl) Try.underlying33 rfl ti3 rfl rfl) ?_
                    refine U.k rfl rfl (.inr ⟨_, _, _, rfl, rfl, ((L 1 rfl rfl).trans (congrArg Value.bool g123))⟩) (S.load rfl (L 0 rfl rfl) Try.underlying3 rfl ((ow98.own (k := 0) rfl).cell rfl)) nd ?_
                    refine U.p rfl rfl (.inr ⟨_, _, _, rfl, rfl, ((L 2 rfl rfl).trans (congrArg Value.bool g123))⟩) (S.eqlI rfl (L 0 rfl rfl) K) ?_
                    refine U.p rfl rfl (.inr ⟨_, _, _, rfl, rfl, ((L 3 rfl rfl).trans (congrArg Value.bool g123))⟩) (S.move rfl (L 0 rfl rfl)) ?_
                    obtain ⟨y129, hy130, h131⟩ := bindS h127
                    refine U.joinX 15 (fun e H => ∃ (u132 u133 u134 u135 u136 : Value), ∃ V' : Vw, H = V'.H ∧ V95.le V' ∧ e = [(62, .bool y129), (61, u132), (60, u133), (59, u134), (58, u135), (57, u136)] ∧ Ow V' (.pt b81 (.cells 9 [.int .i64 x68.op, .int .i64 x68.d, .int .i64 x68.a, .int .i64 x68.b, .int .i64 x68.imm, v79, .int .i64 x68.what, .bool x68.volatile, .bool x68.final]) :: .pt b3 (.cells 0 [.string p0.name, .int .i64 p0.params, .int .i64 p0.regs, v1]) :: Rs)) ?_ ?_
                    · rintro _ _ ⟨u132, u133, u134, u135, u136, V137, rfl, le138, rfl, ow139⟩
                      refine U.p rfl rfl (.inl rfl) (S.pickF rfl ((L 10 rfl rfl).trans (congrArg Value.bool g123)) (L 0 rfl rfl)) ?_
                      have e140 := Option.some.inj h131
                      subst e140
                      exact kk [(63, .bool y129), (62, .bool y129), (61, u132), (60, u133), (59, u134), (58, u135), (57, u136), (56, .bool (decide (x68.op = 11))), (55, .bool (decide (x68.op = 11))), (54, .int .i64 x68.op), (53, .pointer (some ⟨b81, 0, none⟩))] _ ⟨.bool y129, u132, u133, u134, u135, u136, .bool (decide (x68.op = 11)), .bool (decide (x68.op = 11)), .int .i64 x68.op, .pointer (some ⟨b81, 0, none⟩), V137, rfl, le138, rfl, ow139⟩
                    · intro kk
                      refine bcase (b := decide (x68.op = 11)) (fun g141 => ?_) (fun g141 => ?_)
                      · have h142 := ifT g141 hy130
                        refine U.k rfl rfl (.inr ⟨_, _, _, rfl, rfl, ((L 0 rfl rfl).trans (congrArg Value.bool g141))⟩) (S.loadB rfl (L 13 rfl rfl) Try.underlying24 rfl ti24 (ow98.own (k := 1) rfl).get rfl) nd ?_
                        refine U.p (v := .pointer (some ⟨b81, 4, none⟩)) rfl rfl (.inr ⟨_, _, _, rfl, rfl, ((L 1 rfl rfl).trans (congrArg Value.bool g141))⟩) (S.fieldAddr rfl (L 10 rfl rfl) Try.underlying33 rfl ti3 rfl rfl) ?_
                        refine U.k rfl rfl (.inr ⟨_, _, _, rfl, rfl, ((L 2 rfl rfl).trans (congrArg Value.bool g141))⟩) (S.load rfl (L 0 rfl rfl) Try.underlying3 rfl ((ow98.own (k := 0) rfl).cell rfl)) nd ?_
                        have f143 := f89.up le96
                        obtain ⟨x144, hx145, h146⟩ := bindS h142
                        refine O.call (V := V95) rfl rfl (.inr ⟨_, _, _, rfl, rfl, ((L 3 rfl rfl).trans (congrArg Value.bool g141))⟩) rfl en30 (aC (L 2 rfl rfl) (aC (L 0 rfl rfl) aN)) (wk_ref08_count V95 _ p0 x68.imm v1 f143 ow98 _ hx145) (fun _ _ _ _ => nd) (fun v147 V148 le149 hp150 => ?_)
                        obtain ⟨rfl, ow151⟩ := hp150
                        refine U.p rfl rfl (.inr ⟨_, _, _, rfl, rfl, ((L 4 rfl rfl).trans (congrArg Value.bool g141))⟩) (S.neqI rfl (L 0 rfl rfl) K) ?_
                        refine U.p rfl rfl (.inr ⟨_, _, _, rfl, rfl, ((L 9 rfl rfl).trans (congrArg Value.bool g123))⟩) (S.pickT rfl ((L 5 rfl rfl).trans (congrArg Value.bool g141)) (L 0 rfl rfl)) ?_
                        have e152 := Option.some.inj h146
                        subst e152
                        exact kk [(62, .bool (decide (x144 ≠ 1))), (61, .bool (decide (x144 ≠ 1))), (60, .int .i64 x144), (59, .int .i64 x68.imm), (58, .pointer (some ⟨b81, 4, none⟩)), (57, .agg #[.string p0.name, .int .i64 p0.params, .int .i64 p0.regs, v1])] _ ⟨.bool (decide (x144 ≠ 1)), .int .i64 x144, .int .i64 x68.imm, .pointer (some ⟨b81, 4, none⟩), .agg #[.string p0.name, .int .i64 p0.params, .int .i64 p0.regs, v1], V148, rfl, le149, rfl, ow151⟩
                      · have h153 := ifF g141 hy130
                        refine U.x rfl rfl rfl rfl ((L 0 rfl rfl).trans (congrArg Value.bool g141)) (by decide) ?_
                        refine U.x rfl rfl rfl rfl ((L 1 rfl rfl).trans (congrArg Value.bool g141)) (by decide) ?_
                        refine U.x rfl rfl rfl rfl ((L 2 rfl rfl).trans (congrArg Value.bool g141)) (by decide) ?_
                        refine U.x rfl rfl rfl rfl ((L 3 rfl rfl).trans (congrArg Value.bool g141)) (by decide) ?_
                        refine U.x rfl rfl rfl rfl ((L 4 rfl rfl).trans (congrArg Value.bool g141)) (by decide) ?_
                        refine U.p rfl rfl (.inr ⟨_, _, _, rfl, rfl, ((L 9 rfl rfl).trans (congrArg Value.bool g123))⟩) (S.pickF rfl ((L 5 rfl rfl).trans (congrArg Value.bool g141)) K) ?_
                        have e154 := Option.some.inj h153
                        subst e154
                        exact kk [(62, .bool false), (61, .tuple #[]), (60, .tuple #[]), (59, .tuple #[]), (58, .tuple #[]), (57, .tuple #[])] _ ⟨.tuple #[], .tuple #[], .tuple #[], .tuple #[], .tuple #[], V95, rfl, (.refl _), rfl, ow98⟩
              · have h155 := ifF c66 h65
                refine WP.exit ?_
                refine sqE (sqE (blkE (sqN ?_)))
                have h156 := exitS h155 e63
                refine WP.usreg rfl ?_
                refine U.p rfl rfl (.inl rfl) (S.assign rfl K) ?_
                refine U.done (Nat.le_of_ble_eq_true rfl) ?_
                refine WP.ret ?_
                refine fin.slot (.inr rfl) rfl (L 0 rfl rfl) ⟨V58, rfl, (le5.trans le59), ?_⟩
                have ow157 := ow60.drop 0 rfl
                have e158 := Option.some.inj h156
                subst e158
                exact ⟨rfl, ow157⟩
          · intro kk
            refine bcase (b := (decide (x27.op ≠ 12)) && (decide (x27.op ≠ 15))) (fun g159 => ?_) (fun g159 => ?_)
            · skip
              refine U.p rfl rfl (.inr ⟨_, _, _, rfl, rfl, ((L 0 rfl rfl).trans (congrArg Value.bool g159))⟩) (S.move rfl (L 7 rfl rfl)) ?_
              refine U.p rfl rfl (.inr ⟨_, _, _, rfl, rfl, ((L 1 rfl rfl).trans (congrArg Value.bool g159))⟩) (S.neqI rfl (L 0 rfl rfl) K) ?_
              refine U.p rfl rfl (.inl rfl) (S.pickT rfl ((L 2 rfl rfl).trans (congrArg Value.bool g159)) (L 0 rfl rfl)) ?_
              exact kk [(40, .bool (decide (x27.op ≠ 16))), (39, .bool (decide (x27.op ≠ 16))), (38, .int .i64 x27.op)] _ ⟨.bool (decide (x27.op ≠ 16)), .int .i64 x27.op, rfl, (by rw [g159, Bool.true_and])⟩
            · skip
              refine U.x rfl rfl rfl rfl ((L 0 rfl rfl).trans (congrArg Value.bool g159)) (by decide) ?_
              refine U.x rfl rfl rfl rfl ((L 1 rfl rfl).trans (congrArg Value.bool g159)) (by decide) ?_
              refine U.p rfl rfl (.inl rfl) (S.pickF rfl ((L 2 rfl rfl).trans (congrArg Value.bool g159)) K) ?_
              exact kk [(40, .bool false), (39, .tuple #[]), (38, .tuple #[])] _ ⟨.tuple #[], .tuple #[], rfl, (by rw [g159, Bool.false_and])⟩
        · intro kk
          refine bcase (b := decide (x27.op ≠ 12)) (fun g160 => ?_) (fun g160 => ?_)
          · skip
            refine U.p rfl rfl (.inr ⟨_, _, _, rfl, rfl, ((L 0 rfl rfl).trans (congrArg Value.bool g160))⟩) (S.move rfl (L 3 rfl rfl)) ?_
            refine U.p rfl rfl (.inr ⟨_, _, _, rfl, rfl, ((L 1 rfl rfl).trans (congrArg Value.bool g160))⟩) (S.neqI rfl (L 0 rfl rfl) K) ?_
            refine U.p rfl rfl (.inl rfl) (S.pickT rfl ((L 2 rfl rfl).trans (congrArg Value.bool g160)) (L 0 rfl rfl)) ?_
            exact kk [(36, .bool (decide (x27.op ≠ 15))), (35, .bool (decide (x27.op ≠ 15))), (34, .int .i64 x27.op)] _ ⟨.bool (decide (x27.op ≠ 15)), .int .i64 x27.op, rfl, (by rw [g160, Bool.true_and])⟩
          · skip
            refine U.x rfl rfl rfl rfl ((L 0 rfl rfl).trans (congrArg Value.bool g160)) (by decide) ?_
            refine U.x rfl rfl rfl rfl ((L 1 rfl rfl).trans (congrArg Value.bool g160)) (by decide) ?_
            refine U.p rfl rfl (.inl rfl) (S.pickF rfl ((L 2 rfl rfl).trans (congrArg Value.bool g160)) K) ?_
            exact kk [(36, .bool false), (35, .tuple #[]), (34, .tuple #[])] _ ⟨.tuple #[], .tuple #[], rfl, (by rw [g160, Bool.false_and])⟩
    · intro kk
      refine bcase (b := (decide ((p0.code.length : Int) = 0)) || (decide (p0.params < 0))) (fun g161 => ?_) (fun g161 => ?_)
      · skip
        refine U.x rfl rfl rfl rfl ((L 0 rfl rfl).trans (congrArg Value.bool g161)) (by decide) ?_
        refine U.x rfl rfl rfl rfl ((L 1 rfl rfl).trans (congrArg Value.bool g161)) (by decide) ?_
        refine U.x rfl rfl rfl rfl ((L 2 rfl rfl).trans (congrArg Value.bool g161)) (by decide) ?_
        refine U.x rfl rfl rfl rfl ((L 3 rfl rfl).trans (congrArg Value.bool g161)) (by decide) ?_
        refine U.x rfl rfl rfl rfl ((L 4 rfl rfl).trans (congrArg Value.bool g161)) (by decide) ?_
        refine U.p rfl rfl (.inl rfl) (S.pickT rfl ((L 5 rfl rfl).trans (congrArg Value.bool g161)) K) ?_
        exact kk [(23, .bool true), (22, .tuple #[]), (21, .tuple #[]), (20, .tuple #[]), (19, .tuple #[]), (18, .tuple #[])] _ ⟨.tuple #[], .tuple #[], .tuple #[], .tuple #[], .tuple #[], rfl, (by rw [g161, Bool.true_or])⟩
      · skip
        refine U.p (v := .pointer (some ⟨b3, 1, none⟩)) rfl rfl (.inr ⟨_, _, _, rfl, rfl, ((L 0 rfl rfl).trans (congrArg Value.bool g161))⟩) (S.fieldAddr rfl (L 13 rfl rfl) Try.underlying24 rfl ti3 rfl rfl) ?_
        refine U.k rfl rfl (.inr ⟨_, _, _, rfl, rfl, ((L 1 rfl rfl).trans (congrArg Value.bool g161))⟩) (S.load rfl (L 0 rfl rfl) Try.underlying3 rfl ((ow6.own (k := 0) rfl).cell rfl)) nd ?_
        refine U.p (v := .pointer (some ⟨b3, 2, none⟩)) rfl rfl (.inr ⟨_, _, _, rfl, rfl, ((L 2 rfl rfl).trans (congrArg Value.bool g161))⟩) (S.fieldAddr rfl (L 15 rfl rfl) Try.underlying24 rfl ti3 rfl rfl) ?_
        refine U.k rfl rfl (.inr ⟨_, _, _, rfl, rfl, ((L 3 rfl rfl).trans (congrArg Value.bool g161))⟩) (S.load rfl (L 0 rfl rfl) Try.underlying3 rfl ((ow6.own (k := 0) rfl).cell rfl)) nd ?_
        refine U.p rfl rfl (.inr ⟨_, _, _, rfl, rfl, ((L 4 rfl rfl).trans (congrArg Value.bool g161))⟩) (S.gtr rfl (L 2 rfl rfl) (L 0 rfl rfl)) ?_
        refine U.p rfl rfl (.inl rfl) (S.pickF rfl ((L 5 rfl rfl).trans (congrArg Value.bool g161)) (L 0 rfl rfl)) ?_
        exact kk [(23, .bool (decide (p0.regs < p0.params))), (22, .bool (decide (p0.regs < p0.params))), (21, .int .i64 p0.regs), (20, .pointer (some ⟨b3, 2, none⟩)), (19, .int .i64 p0.params), (18, .pointer (some ⟨b3, 1, none⟩))] _ ⟨.bool (decide (p0.regs < p0.params)), .int .i64 p0.regs, .pointer (some ⟨b3, 2, none⟩), .int .i64 p0.params, .pointer (some ⟨b3, 1, none⟩), rfl, (by rw [g161, Bool.false_or])⟩
  · intro kk
    refine bcase (b := decide ((p0.code.length : Int) = 0)) (fun g162 => ?_) (fun g162 => ?_)
    · skip
      refine U.x rfl rfl rfl rfl ((L 0 rfl rfl).trans (congrArg Value.bool g162)) (by decide) ?_
      refine U.x rfl rfl rfl rfl ((L 1 rfl rfl).trans (congrArg Value.bool g162)) (by decide) ?_
      refine U.x rfl rfl rfl rfl ((L 2 rfl rfl).trans (congrArg Value.bool g162)) (by decide) ?_
      refine U.p rfl rfl (.inl rfl) (S.pickT rfl ((L 3 rfl rfl).trans (congrArg Value.bool g162)) K) ?_
      exact kk [(16, .bool true), (15, .tuple #[]), (14, .tuple #[]), (13, .tuple #[])] _ ⟨.tuple #[], .tuple #[], .tuple #[], rfl, (by rw [g162, Bool.true_or])⟩
    · skip
      refine U.p (v := .pointer (some ⟨b3, 1, none⟩)) rfl rfl (.inr ⟨_, _, _, rfl, rfl, ((L 0 rfl rfl).trans (congrArg Value.bool g162))⟩) (S.fieldAddr rfl (L 8 rfl rfl) Try.underlying24 rfl ti3 rfl rfl) ?_
      refine U.k rfl rfl (.inr ⟨_, _, _, rfl, rfl, ((L 1 rfl rfl).trans (congrArg Value.bool g162))⟩) (S.load rfl (L 0 rfl rfl) Try.underlying3 rfl ((ow6.own (k := 0) rfl).cell rfl)) nd ?_
      refine U.p rfl rfl (.inr ⟨_, _, _, rfl, rfl, ((L 2 rfl rfl).trans (congrArg Value.bool g162))⟩) (S.lss rfl (L 0 rfl rfl) K) ?_
      refine U.p rfl rfl (.inl rfl) (S.pickF rfl ((L 3 rfl rfl).trans (congrArg Value.bool g162)) (L 0 rfl rfl)) ?_
      exact kk [(16, .bool (decide (p0.params < 0))), (15, .bool (decide (p0.params < 0))), (14, .int .i64 p0.params), (13, .pointer (some ⟨b3, 1, none⟩))] _ ⟨.bool (decide (p0.params < 0)), .int .i64 p0.params, .pointer (some ⟨b3, 1, none⟩), rfl, (by rw [g162, Bool.false_or])⟩

end Go.Vm.G10s
