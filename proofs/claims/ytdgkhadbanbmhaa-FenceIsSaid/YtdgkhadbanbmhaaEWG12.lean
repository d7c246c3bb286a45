/-
  What the functions compute is what the plain ones say, for all inputs at which those answer.
-/
import Derived.Test.YtdgkhadbanbmhaaEDG12
import Derived.Test.YtdgkhadbanbmhaaProg
set_option linter.unusedSimpArgs false
set_option linter.unusedVariables false
namespace Go.Vm.G12
open Go Go.Proofs

theorem ti3 : tinfo Try.prog 3 (.int .i64 0) 1 8 := by unfold tinfo; kernel_rfl
theorem ti4 : tinfo Try.prog 4 (.bool false) 1 1 := by unfold tinfo; kernel_rfl
theorem ti9 : tinfo Try.prog 9 (.string ByteArray.empty) 1 16 := by unfold tinfo; kernel_rfl
theorem ti22 : tinfo Try.prog 22 (.slice none 0 0) 1 24 := by unfold tinfo; kernel_rfl
theorem ti23 : tinfo Try.prog 23 (.slice none 0 0) 1 24 := by unfold tinfo; kernel_rfl
theorem ti25 : tinfo Try.prog 25 (.agg #[.slice none 0 0, .slice none 0 0]) 2 48 := by unfold tinfo; kernel_rfl
theorem ti27 : tinfo Try.prog 27 (.agg #[.bool false, .bool false, .bool false]) 3 3 := by unfold tinfo; kernel_rfl
theorem ti31 : tinfo Try.prog 31 (.slice none 0 0) 1 24 := by unfold tinfo; kernel_rfl
theorem ti33 : tinfo Try.prog 33 (.agg #[.string ByteArray.empty, .int .i64 0, .int .i64 0, .slice none 0 0]) 4 56 := by unfold tinfo; kernel_rfl
theorem ti38 : tinfo Try.prog 38 (.agg #[.int .i64 0, .int .i64 0, .int .i64 0, .int .i64 0]) 4 32 := by unfold tinfo; kernel_rfl
theorem ti42 : tinfo Try.prog 42 (.agg #[.int .i64 0, .int .i64 0, .int .i64 0, .int .i64 0, .int .i64 0, .slice none 0 0, .int .i64 0, .bool false, .bool false]) 9 80 := by unfold tinfo; kernel_rfl
theorem pl25 : placesAre Try.prog 25 #[(0, 1), (1, 1)] := ⟨_, Try.underlying25, by kernel_rfl⟩
theorem pl27 : placesAre Try.prog 27 #[(0, 1), (1, 1), (2, 1)] := ⟨_, Try.underlying27, by kernel_rfl⟩
theorem pl33 : placesAre Try.prog 33 #[(0, 1), (1, 1), (2, 1), (3, 1)] := ⟨_, Try.underlying33, by kernel_rfl⟩
theorem pl42 : placesAre Try.prog 42 #[(0, 1), (1, 1), (2, 1), (3, 1), (4, 1), (5, 1), (6, 1), (7, 1), (8, 1)] := ⟨_, Try.underlying42, by kernel_rfl⟩
theorem en6 : enterable Try.prog 6 := ⟨Try.f6, Try.func6, by kernel_rfl, rfl⟩
theorem en7 : enterable Try.prog 7 := ⟨Try.f7, Try.func7, by kernel_rfl, rfl⟩
theorem en8 : enterable Try.prog 8 := ⟨Try.f8, Try.func8, by kernel_rfl, rfl⟩
theorem en9 : enterable Try.prog 9 := ⟨Try.f9, Try.func9, by kernel_rfl, rfl⟩
theorem en10 : enterable Try.prog 10 := ⟨Try.f10, Try.func10, by kernel_rfl, rfl⟩
theorem en11 : enterable Try.prog 11 := ⟨Try.f11, Try.func11, by kernel_rfl, rfl⟩
theorem en12 : enterable Try.prog 12 := ⟨Try.f12, Try.func12, by kernel_rfl, rfl⟩
theorem en13 : enterable Try.prog 13 := ⟨Try.f13, Try.func13, by kernel_rfl, rfl⟩
theorem en14 : enterable Try.prog 14 := ⟨Try.f14, Try.func14, by kernel_rfl, rfl⟩
theorem en15 : enterable Try.prog 15 := ⟨Try.f15, Try.func15, by kernel_rfl, rfl⟩
theorem en16 : enterable Try.prog 16 := ⟨Try.f16, Try.func16, by kernel_rfl, rfl⟩
theorem en17 : enterable Try.prog 17 := ⟨Try.f17, Try.func17, by kernel_rfl, rfl⟩
theorem en18 : enterable Try.prog 18 := ⟨Try.f18, Try.func18, by kernel_rfl, rfl⟩
theorem en19 : enterable Try.prog 19 := ⟨Try.f19, Try.func19, by kernel_rfl, rfl⟩
theorem en20 : enterable Try.prog 20 := ⟨Try.f20, Try.func20, by kernel_rfl, rfl⟩
theorem en21 : enterable Try.prog 21 := ⟨Try.f21, Try.func21, by kernel_rfl, rfl⟩
theorem en22 : enterable Try.prog 22 := ⟨Try.f22, Try.func22, by kernel_rfl, rfl⟩
theorem en23 : enterable Try.prog 23 := ⟨Try.f23, Try.func23, by kernel_rfl, rfl⟩
theorem en24 : enterable Try.prog 24 := ⟨Try.f24, Try.func24, by kernel_rfl, rfl⟩
theorem en25 : enterable Try.prog 25 := ⟨Try.f25, Try.func25, by kernel_rfl, rfl⟩
theorem en26 : enterable Try.prog 26 := ⟨Try.f26, Try.func26, by kernel_rfl, rfl⟩
theorem en27 : enterable Try.prog 27 := ⟨Try.f27, Try.func27, by kernel_rfl, rfl⟩
theorem en28 : enterable Try.prog 28 := ⟨Try.f28, Try.func28, by kernel_rfl, rfl⟩
theorem en29 : enterable Try.prog 29 := ⟨Try.f29, Try.func29, by kernel_rfl, rfl⟩

set_option maxHeartbeats 4000000 in
theorem wk_fence_fence (V : Vw) (Rs : List At) (p0 : Int) (ow : Ow V (Rs)) (r : TIns) (h : fence_fence p0 = some r) : ∃ v V', Cl Try.prog 0 27 #[.int .i64 p0] V.H v V'.H ∧ V.le V' ∧ (∃ (v1 : Value), v = .agg #[.int .i64 r.op, .int .i64 r.d, .int .i64 r.a, .int .i64 r.b, .int .i64 r.imm, v1, .int .i64 r.what, .bool r.volatile, .bool r.final] ∧ Fz (RT.int .i64) V' v1 r.args ∧ Ow V' (Rs)) := by
  refine Ct.of (Nat.zero_le _) Try.func27 rfl (Nat.le_of_ble_eq_true rfl) ?_
  unfold fence_fence at h
  refine WP.usreg rfl ?_
  refine O.alloc ow rfl rfl (.inl rfl) rfl ti42 rfl rfl nd (fun b3 V4 le5 ow6 => ?_)
  refine U.done (Nat.le_of_ble_eq_true rfl) ?_
  refine WP.usreg rfl ?_
  refine U.p rfl rfl (.inl rfl) (S.move rfl (L 1 rfl rfl)) ?_
  refine U.p (v := .agg #[.int .i64 21, .int .i64 (-1), .int .i64 (-1), .int .i64 (-1), .int .i64 p0, .slice none 0 0, .int .i64 0, .bool false, .bool false]) rfl rfl (.inl rfl) (S.build (vs := [.int .i64 21, .int .i64 (-1), .int .i64 (-1), .int .i64 (-1), .int .i64 p0]) rfl ti42 rfl pl42 (aC K (aC K (aC K (aC K (aC (L 0 rfl rfl) aN))))) (allC (by simp [topV]) (allC (by simp [topV]) (allC (by simp [topV]) (allC (by simp [topV]) (allC (by simp [topV]) allN))))) rfl) ?_
  refine O.store (k := 0) (cs := [.int .i64 21, .int .i64 (-1), .int .i64 (-1), .int .i64 (-1), .int .i64 p0, .slice none 0 0, .int .i64 0, .bool false, .bool false]) (c' := [.int .i64 21, .int .i64 (-1), .int .i64 (-1), .int .i64 (-1), .int .i64 p0, .slice none 0 0, .int .i64 0, .bool false, .bool false]) ow6 rfl rfl rfl (.inl rfl) rfl (L 2 rfl rfl) (L 0 rfl rfl) ti42 (by simp [topV]) rfl rfl (Nat.le_of_ble_eq_true rfl) rfl rfl nd (fun V8 le9 ow10 => ?_)
  refine U.done (Nat.le_of_ble_eq_true rfl) ?_
  refine WP.ret ?_
  refine fin.cellN (.inr rfl) rfl (L 2 rfl rfl) Try.underlying42 rfl ti42 (ow10.own (k := 0) rfl).get rfl ⟨V8, rfl, (le5.trans le9), ?_⟩
  have ow11 := ow10.drop 0 rfl
  have e12 := Option.some.inj h
  subst e12
  exact ⟨(.slice none 0 0), rfl, Fz.nil, ow11⟩

set_option maxHeartbeats 4000000 in
theorem wk_fence_frozen (V : Vw) (Rs : List At) (p0 : TIns) (p1 : Tfence_Options) (v1 : Value) (f2 : Fz (RT.int .i64) V v1 p0.args) (ow : Ow V (Rs)) (r : List TIns) (h : fence_frozen p0 p1 = some r) : ∃ v V', Cl Try.prog 0 20 #[.agg #[.int .i64 p0.op, .int .i64 p0.d, .int .i64 p0.a, .int .i64 p0.b, .int .i64 p0.imm, v1, .int .i64 p0.what, .bool p0.volatile, .bool p0.final], .agg #[.bool p1.naive, .bool p1.bare, .bool p1.merged]] V.H v V'.H ∧ V.le V' ∧ (∃ (v3 : Value), v = v3 ∧ Ow V' (.os RT_TIns v3 r :: Rs)) := by
  refine Ct.of (Nat.zero_le _) Try.func20 rfl (Nat.le_of_ble_eq_true rfl) ?_
  unfold fence_frozen at h
  refine WP.usreg rfl ?_
  refine O.box ow rfl rfl (.inl rfl) rfl (L 0 rfl rfl) (by simp [topV]) rfl nd (fun b5 V6 le7 ow8 => ?_)
  refine O.box ow8 rfl rfl (.inl rfl) rfl (L 2 rfl rfl) (by simp [topV]) rfl nd (fun b10 V11 le12 ow13 => ?_)
  refine U.p rfl rfl (.inl rfl) (S.assign rfl K) ?_
  refine U.done (Nat.le_of_ble_eq_true rfl) ?_
  refine WP.seq ?_
  refine WP.usreg rfl ?_
  refine U.p (v := .pointer (some ⟨b5, 4, none⟩)) rfl rfl (.inl rfl) (S.fieldAddr rfl (L 2 rfl rfl) Try.underlying42 rfl ti3 rfl rfl) ?_
  refine U.k rfl rfl (.inl rfl) (S.load rfl (L 0 rfl rfl) Try.underlying3 rfl ((ow13.own (k := 1) rfl).cell rfl)) nd ?_
  refine U.p rfl rfl (.inl rfl) (S.eqlI rfl (L 0 rfl rfl) K) ?_
  refine U.p rfl rfl (.inl rfl) (S.move rfl (L 0 rfl rfl)) ?_
  refine U.joinX 7 (fun e H => ∃ (u15 u16 : Value), H = V11.H ∧ e = [(11, .bool ((decide (p0.imm = 1)) && p1.bare)), (10, u15), (9, u16)]) ?_ ?_
  · rintro _ _ ⟨u15, u16, rfl, rfl⟩
    refine U.done (Nat.le_of_ble_eq_true rfl) ?_
    refine WP.cond _ (L 0 rfl rfl) rfl (fun c20 => ?_) (fun c20 => ?_)
    · have h21 := ifT c20 h
      refine WP.usreg rfl ?_
      refine U.p rfl rfl (.inl rfl) (S.assign rfl K) ?_
      refine U.done (Nat.le_of_ble_eq_true rfl) ?_
      refine WP.ret ?_
      refine sqR ?_
      have ow22 := ow13.nil RT_TIns
      refine fin.slot (.inr rfl) rfl (L 0 rfl rfl) ⟨V11, rfl, (le7.trans le12), ?_⟩
      have ow24 := ow22.drop 1 rfl
      have ow25 := ow24.drop 1 rfl
      have e26 := Option.some.inj h21
      subst e26
      exact ⟨(.slice none 0 0), rfl, ow25⟩
    · have h27 := ifF c20 h
      refine WP.skip ?_
      refine sqN ?_
      refine WP.usreg rfl ?_
      obtain ⟨x28, hx29, h30⟩ := bindS h27
      refine O.call (V := V11) rfl rfl (.inl rfl) rfl en27 (aC K aN) (wk_fence_fence V11 _ 2 ow13 _ hx29) (fun _ _ _ _ => nd) (fun v31 V32 le33 hp34 => ?_)
      obtain ⟨v36, rfl, f37, ow35⟩ := hp34
      refine O.lit (R := RT_TIns) ow35 rfl rfl (.inl rfl) rfl Try.underlying31 ti42 rfl rfl rfl (Nat.le_of_ble_eq_true rfl) rfl (aC (L 0 rfl rfl) aN) (.cons _ _ x28 _ (by simp [topV]) ⟨_, rfl, f37⟩ .nil) (fun _ => nd) (fun v38 V39 le40 ow41 => ?_)
      refine U.p rfl rfl (.inl rfl) (S.assign rfl (L 0 rfl rfl)) ?_
      refine U.done (Nat.le_of_ble_eq_true rfl) ?_
      refine WP.ret ?_
      refine fin.slot (.inr rfl) rfl (L 0 rfl rfl) ⟨V39, rfl, (((le7.trans le12).trans le33).trans le40), ?_⟩
      have ow43 := ow41.drop 1 rfl
      have ow44 := ow43.drop 1 rfl
      have e45 := Option.some.inj h30
      subst e45
      exact ⟨v38, rfl, ow44⟩
  · intro kk
    refine bcase (b := decide (p0.imm = 1)) (fun g46 => ?_) (fun g46 => ?_)
    · skip
      refine U.p (v := .pointer (some ⟨b10, 1, none⟩)) rfl rfl (.inr ⟨_, _, _, rfl, rfl, ((L 0 rfl rfl).trans (congrArg Value.bool g46))⟩) (S.fieldAddr rfl (L 5 rfl rfl) Try.underlying27 rfl ti4 rfl rfl) ?_
      refine U.k rfl rfl (.inr ⟨_, _, _, rfl, rfl, ((L 1 rfl rfl).trans (congrArg Value.bool g46))⟩) (S.load rfl (L 0 rfl rfl) Try.underlying4 rfl ((ow13.own (k := 0) rfl).cell rfl)) nd ?_
      refine U.p rfl rfl (.inl rfl) (S.pickT rfl ((L 2 rfl rfl).trans (congrArg Value.bool g46)) (L 0 rfl rfl)) ?_
      exact kk [(11, .bool p1.bare), (10, .bool p1.bare), (9, .pointer (some ⟨b10, 1, none⟩))] _ ⟨.bool p1.bare, .pointer (some ⟨b10, 1, none⟩), rfl, (by rw [g46, Bool.true_and])⟩
    · skip
      refine U.x rfl rfl rfl rfl ((L 0 rfl rfl).trans (congrArg Value.bool g46)) (by decide) ?_
      refine U.x rfl rfl rfl rfl ((L 1 rfl rfl).trans (congrArg Value.bool g46)) (by decide) ?_
      refine U.p rfl rfl (.inl rfl) (S.pickF rfl ((L 2 rfl rfl).trans (congrArg Value.bool g46)) K) ?_
      exact kk [(11, .bool false), (10, .tuple #[]), (9, .tuple #[])] _ ⟨.tuple #[], .tuple #[], rfl, (by rw [g46, Bool.false_and])⟩

set_option maxHeartbeats 4000000 in
theorem wk_fence_ahead (V : Vw) (Rs : List At) (p0 : TIns) (p1 : Tfence_Options) (v1 : Value) (f2 : Fz (RT.int .i64) V v1 p0.args) (ow : Ow V (Rs)) (r : List TIns) (h : fence_ahead p0 p1 = some r) : ∃ v V', Cl Try.prog 0 21 #[.agg #[.int .i64 p0.op, .int .i64 p0.d, .int .i64 p0.a, .int .i64 p0.b, .int .i64 p0.imm, v1, .int .i64 p0.what, .bool p0.volatile, .bool p0.final], .agg #[.bool p1.naive, .bool p1.bare, .bool p1.merged]] V.H v V'.H ∧ V.le V' ∧ (∃ (v3 : Value), v = v3 ∧ Ow V' (.os RT_TIns v3 r :: Rs)) := by
  refine Ct.of (Nat.zero_le _) Try.func21 rfl (Nat.le_of_ble_eq_true rfl) ?_
  unfold fence_ahead at h
  refine WP.usreg rfl ?_
  refine O.box ow rfl rfl (.inl rfl) rfl (L 0 rfl rfl) (by simp [topV]) rfl nd (fun b5 V6 le7 ow8 => ?_)
  refine O.box ow8 rfl rfl (.inl rfl) rfl (L 2 rfl rfl) (by simp [topV]) rfl nd (fun b10 V11 le12 ow13 => ?_)
  refine U.p rfl rfl (.inl rfl) (S.assign rfl K) ?_
  refine U.done (Nat.le_of_ble_eq_true rfl) ?_
  refine WP.seq ?_
  refine WP.blk ?_
  refine WP.usreg rfl ?_
  refine U.p (v := .pointer (some ⟨b5, 0, none⟩)) rfl rfl (.inl rfl) (S.fieldAddr rfl (L 2 rfl rfl) Try.underlying42 rfl ti3 rfl rfl) ?_
  refine U.k rfl rfl (.inl rfl) (S.load rfl (L 0 rfl rfl) Try.underlying3 rfl ((ow13.own (k := 1) rfl).cell rfl)) nd ?_
  refine U.p rfl rfl (.inl rfl) (S.eqlI rfl (L 0 rfl rfl) K) ?_
  refine U.p rfl rfl (.inl rfl) (S.move rfl (L 0 rfl rfl)) ?_
  refine U.joinX 7 (fun e H => ∃ (u15 u16 : Value), H = V11.H ∧ e = [(12, .bool ((decide (p0.op = 9)) && p0.volatile)), (11, u15), (10, u16)]) ?_ ?_
  · rintro _ _ ⟨u15, u16, rfl, rfl⟩
    refine U.p rfl rfl (.inl rfl) (S.move rfl (L 0 rfl rfl)) ?_
    refine U.joinX 12 (fun e H => ∃ (u20 u21 u22 : Value), H = V11.H ∧ e = [(17, .bool (((decide (p0.op = 9)) && p0.volatile) && (!p1.naive))), (16, u20), (15, u21), (14, u22)]) ?_ ?_
    · rintro _ _ ⟨u20, u21, u22, rfl, rfl⟩
      refine U.p rfl rfl (.inl rfl) (S.assign rfl (L 0 rfl rfl)) ?_
      refine U.done (Nat.le_of_ble_eq_true rfl) ?_
      refine WP.cond _ (L 0 rfl rfl) rfl (fun c26 => ?_) (fun c26 => ?_)
      · have h27 := ifT c26 h
        refine WP.usreg rfl ?_
        obtain ⟨x28, hx29, h30⟩ := bindS h27
        refine O.call (V := V11) rfl rfl (.inl rfl) rfl en27 (aC K aN) (wk_fence_fence V11 _ 1 ow13 _ hx29) (fun _ _ _ _ => nd) (fun v31 V32 le33 hp34 => ?_)
        obtain ⟨v36, rfl, f37, ow35⟩ := hp34
        refine O.lit (R := RT_TIns) ow35 rfl rfl (.inl rfl) rfl Try.underlying31 ti42 rfl rfl rfl (Nat.le_of_ble_eq_true rfl) rfl (aC (L 0 rfl rfl) aN) (.cons _ _ x28 _ (by simp [topV]) ⟨_, rfl, f37⟩ .nil) (fun _ => nd) (fun v38 V39 le40 ow41 => ?_)
        refine U.p rfl rfl (.inl rfl) (S.assign rfl (L 0 rfl rfl)) ?_
        refine U.done (Nat.le_of_ble_eq_true rfl) ?_
        refine WP.ret ?_
        refine blkR (sqR ?_)
        refine fin.slot (.inr rfl) rfl (L 0 rfl rfl) ⟨V39, rfl, (((le7.trans le12).trans le33).trans le40), ?_⟩
        have ow43 := ow41.drop 1 rfl
        have ow44 := ow43.drop 1 rfl
        have e45 := Option.some.inj h30
        subst e45
        exact ⟨v38, rfl, ow44⟩
      · have h46 := ifF c26 h
        refine WP.usreg rfl ?_
        refine U.p (v := .pointer (some ⟨b5, 0, none⟩)) rfl rfl (.inl rfl) (S.fieldAddr rfl (L 15 rfl rfl) Try.underlying42 rfl ti3 rfl rfl) ?_
        refine U.k rfl rfl (.inl rfl) (S.load rfl (L 0 rfl rfl) Try.underlying3 rfl ((ow13.own (k := 1) rfl).cell rfl)) nd ?_
        refine U.p rfl rfl (.inl rfl) (S.eqlI rfl (L 0 rfl rfl) K) ?_
        refine U.p rfl rfl (.inl rfl) (S.move rfl (L 0 rfl rfl)) ?_
        refine U.joinX 7 (fun e H => ∃ (u47 u48 : Value), H = V11.H ∧ e = [(27, .bool ((decide (p0.op = 10)) && p0.volatile)), (26, u47), (25, u48)]) ?_ ?_
        · rintro _ _ ⟨u47, u48, rfl, rfl⟩
          refine U.p rfl rfl (.inl rfl) (S.move rfl (L 0 rfl rfl)) ?_
          refine U.joinX 11 (fun e H => ∃ (u52 u53 : Value), H = V11.H ∧ e = [(31, .bool (((decide (p0.op = 10)) && p0.volatile) && p1.naive)), (30, u52), (29, u53)]) ?_ ?_
          · rintro _ _ ⟨u52, u53, rfl, rfl⟩
            refine U.p rfl rfl (.inl rfl) (S.assign rfl (L 0 rfl rfl)) ?_
            refine U.done (Nat.le_of_ble_eq_true rfl) ?_
            refine WP.cond _ (L 0 rfl rfl) rfl (fun c57 => ?_) (fun c57 => ?_)
            · have h58 := ifT c57 h46
              refine WP.usreg rfl ?_
              obtain ⟨x59, hx60, h61⟩ := bindS h58
              refine O.call (V := V11) rfl rfl (.inl rfl) rfl en27 (aC K aN) (wk_fence_fence V11 _ 2 ow13 _ hx60) (fun _ _ _ _ => nd) (fun v62 V63 le64 hp65 => ?_)
              obtain ⟨v67, rfl, f68, ow66⟩ := hp65
              refine O.lit (R := RT_TIns) ow66 rfl rfl (.inl rfl) rfl Try.underlying31 ti42 rfl rfl rfl (Nat.le_of_ble_eq_true rfl) rfl (aC (L 0 rfl rfl) aN) (.cons _ _ x59 _ (by simp [topV]) ⟨_, rfl, f68⟩ .nil) (fun _ => nd) (fun v69 V70 le71 ow72 => ?_)
              refine U.p rfl rfl (.inl rfl) (S.assign rfl (L 0 rfl rfl)) ?_
              refine U.done (Nat.le_of_ble_eq_true rfl) ?_
              refine WP.ret ?_
              refine blkR (sqR ?_)
              refine fin.slot (.inr rfl) rfl (L 0 rfl rfl) ⟨V70, rfl, (((le7.trans le12).trans le64).trans le71), ?_⟩
              have ow74 := ow72.drop 1 rfl
              have ow75 := ow74.drop 1 rfl
              have e76 := Option.some.inj h61
              subst e76
              exact ⟨v69, rfl, ow75⟩
            · have h77 := ifF c57 h46
              refine WP.seqI (fun l V' => ∃ (x78 : Bool), l = [(34, .bool x78)] ∧ V11.le V' ∧ Ow V' (Rs) ∧ fence_ahead_k1 x78 = some r) ?_ ?_
              · rintro _ V79 ⟨x78, rfl, le80, ow81, h82⟩
                unfold fence_ahead_k1 at h82
                refine WP.cond _ (L 0 rfl rfl) rfl (fun c83 => ?_) (fun c83 => ?_)
                · have h84 := ifT c83 h82
                  refine WP.usreg rfl ?_
                  obtain ⟨x85, hx86, h87⟩ := bindS h84
                  refine O.call (V := V79) rfl rfl (.inl rfl) rfl en27 (aC K aN) (wk_fence_fence V79 _ 1 ow81 _ hx86) (fun _ _ _ _ => nd) (fun v88 V89 le90 hp91 => ?_)
                  obtain ⟨v93, rfl, f94, ow92⟩ := hp91
                  refine O.lit (R := RT_TIns) ow92 rfl rfl (.inl rfl) rfl Try.underlying31 ti42 rfl rfl rfl (Nat.le_of_ble_eq_true rfl) rfl (aC (L 0 rfl rfl) aN) (.cons _ _ x85 _ (by simp [topV]) ⟨_, rfl, f94⟩ .nil) (fun _ => nd) (fun v95 V96 le97 ow98 => ?_)
                  refine U.p rfl rfl (.inl rfl) (S.assign rfl (L 0 rfl rfl)) ?_
                  refine U.done (Nat.le_of_ble_eq_true rfl) ?_
                  refine WP.ret ?_
                  refine blkR (sqR ?_)
                  refine fin.slot (.inr rfl) rfl (L 0 rfl rfl) ⟨V96, rfl, ((((le7.trans le12).trans le80).trans le90).trans le97), ?_⟩
                  have e100 := Option.some.inj h87
                  subst e100
                  exact ⟨v95, rfl, ow98⟩
                · have h101 := ifF c83 h82
                  refine WP.skip ?_
                  refine blkN (sqN ?_)
                  refine WP.usreg rfl ?_
                  refine U.p rfl rfl (.inl rfl) (S.assign rfl K) ?_
                  refine U.done (Nat.le_of_ble_eq_true rfl) ?_
                  refine WP.ret ?_
                  have ow102 := ow81.nil RT_TIns
                  refine fin.slot (.inr rfl) rfl (L 0 rfl rfl) ⟨V79, rfl, ((le7.trans le12).trans le80), ?_⟩
                  have e104 := Option.some.inj h101
                  subst e104
                  exact ⟨(.slice none 0 0), rfl, ow102⟩
              · skip
                refine WP.usreg rfl ?_
                refine U.p (v := .pointer (some ⟨b5, 0, none⟩)) rfl rfl (.inl rfl) (S.fieldAddr rfl (L 27 rfl rfl) Try.underlying42 rfl ti3 rfl rfl) ?_
                refine U.k rfl rfl (.inl rfl) (S.load rfl (L 0 rfl rfl) Try.underlying3 rfl ((ow13.own (k := 1) rfl).cell rfl)) nd ?_
                refine U.p rfl rfl (.inl rfl) (S.eqlI rfl (L 0 rfl rfl) K) ?_
                refine U.p rfl rfl (.inl rfl) (S.move rfl (L 0 rfl rfl)) ?_
                refine U.joinX 7 (fun e H => ∃ (u105 u106 : Value), H = V11.H ∧ e = [(41, .bool ((decide (p0.op = 10)) && p0.volatile)), (40, u105), (39, u106)]) ?_ ?_
                · rintro _ _ ⟨u105, u106, rfl, rfl⟩
                  refine U.p rfl rfl (.inl rfl) (S.assign rfl (L 0 rfl rfl)) ?_
                  refine U.done (Nat.le_of_ble_eq_true rfl) ?_
                  refine WP.cond _ (L 0 rfl rfl) rfl (fun c110 => ?_) (fun c110 => ?_)
                  · have h111 := ifT c110 h77
                    refine WP.skip ?_
                    refine sqN ?_
                    have ow112 := ow13.drop 0 rfl
                    have ow113 := ow112.drop 0 rfl
                    exact ⟨_, V11, rfl, ⟨true, rfl, (.refl _), ow113, h111⟩, (allCons ((L 0 rfl rfl).trans (congrArg Value.bool c110)) allNil)⟩
                  · have h114 := ifF c110 h77
                    refine WP.usreg rfl ?_
                    refine U.p (v := .pointer (some ⟨b5, 0, none⟩)) rfl rfl (.inl rfl) (S.fieldAddr rfl (L 35 rfl rfl) Try.underlying42 rfl ti3 rfl rfl) ?_
                    refine U.k rfl rfl (.inl rfl) (S.load rfl (L 0 rfl rfl) Try.underlying3 rfl ((ow13.own (k := 1) rfl).cell rfl)) nd ?_
                    refine U.p rfl rfl (.inl rfl) (S.eqlI rfl (L 0 rfl rfl) K) ?_
                    refine U.p rfl rfl (.inl rfl) (S.assign rfl (L 0 rfl rfl)) ?_
                    refine U.done (Nat.le_of_ble_eq_true rfl) ?_
                    refine WP.cond _ (L 0 rfl rfl) rfl (fun c115 => ?_) (fun c115 => ?_)
                    · have h116 := ifT c115 h114
                      refine WP.skip ?_
                      refine sqN ?_
                      have ow117 := ow13.drop 0 rfl
                      have ow118 := ow117.drop 0 rfl
                      exact ⟨_, V11, rfl, ⟨true, rfl, (.refl _), ow118, h116⟩, (allCons ((L 0 rfl rfl).trans (congrArg Value.bool c115)) allNil)⟩
                    · have h119 := ifF c115 h114
                      refine WP.ureg rfl ?_
                      refine U.p (v := .pointer (some ⟨b5, 0, none⟩)) rfl rfl (.inl rfl) (S.fieldAddr rfl (L 39 rfl rfl) Try.underlying42 rfl ti3 rfl rfl) ?_
                      refine U.k rfl rfl (.inl rfl) (S.load rfl (L 0 rfl rfl) Try.underlying3 rfl ((ow13.own (k := 1) rfl).cell rfl)) nd ?_
                      refine U.p rfl rfl (.inl rfl) (S.eqlI rfl (L 0 rfl rfl) K) ?_
                      refine U.p rfl rfl (.inl rfl) (S.assign rfl (L 0 rfl rfl)) ?_
                      refine U.done (Nat.le_of_ble_eq_true rfl) ?_
                      refine sqN ?_
                      have ow120 := ow13.drop 0 rfl
                      have ow121 := ow120.drop 0 rfl
                      exact ⟨_, V11, rfl, ⟨decide (p0.op = 19), rfl, (.refl _), ow121, h119⟩, (allCons (L 0 rfl rfl) allNil)⟩
                · intro kk
                  refine bcase (b := decide (p0.op = 10)) (fun g122 => ?_) (fun g122 => ?_)
                  · skip
                    refine U.p (v := .pointer (some ⟨b5, 7, none⟩)) rfl rfl (.inr ⟨_, _, _, rfl, rfl, ((L 0 rfl rfl).trans (congrArg Value.bool g122))⟩) (S.fieldAddr rfl (L 31 rfl rfl) Try.underlying42 rfl ti4 rfl rfl) ?_
                    refine U.k rfl rfl (.inr ⟨_, _, _, rfl, rfl, ((L 1 rfl rfl).trans (congrArg Value.bool g122))⟩) (S.load rfl (L 0 rfl rfl) Try.underlying4 rfl ((ow13.own (k := 1) rfl).cell rfl)) nd ?_
                    refine U.p rfl rfl (.inl rfl) (S.pickT rfl ((L 2 rfl rfl).trans (congrArg Value.bool g122)) (L 0 rfl rfl)) ?_
                    exact kk [(41, .bool p0.volatile), (40, .bool p0.volatile), (39, .pointer (some ⟨b5, 7, none⟩))] _ ⟨.bool p0.volatile, .pointer (some ⟨b5, 7, none⟩), rfl, (by rw [g122, Bool.true_and])⟩
                  · skip
                    refine U.x rfl rfl rfl rfl ((L 0 rfl rfl).trans (congrArg Value.bool g122)) (by decide) ?_
                    refine U.x rfl rfl rfl rfl ((L 1 rfl rfl).trans (congrArg Value.bool g122)) (by decide) ?_
                    refine U.p rfl rfl (.inl rfl) (S.pickF rfl ((L 2 rfl rfl).trans (congrArg Value.bool g122)) K) ?_
                    exact kk [(41, .bool false), (40, .tuple #[]), (39, .tuple #[])] _ ⟨.tuple #[], .tuple #[], rfl, (by rw [g122, Bool.false_and])⟩
          · intro kk
            refine bcase (b := (decide (p0.op = 10)) && p0.volatile) (fun g123 => ?_) (fun g123 => ?_)
            · skip
              refine U.p (v := .pointer (some ⟨b10, 0, none⟩)) rfl rfl (.inr ⟨_, _, _, rfl, rfl, ((L 0 rfl rfl).trans (congrArg Value.bool g123))⟩) (S.fieldAddr rfl (L 22 rfl rfl) Try.underlying27 rfl ti4 rfl rfl) ?_
              refine U.k rfl rfl (.inr ⟨_, _, _, rfl, rfl, ((L 1 rfl rfl).trans (congrArg Value.bool g123))⟩) (S.load rfl (L 0 rfl rfl) Try.underlying4 rfl ((ow13.own (k := 0) rfl).cell rfl)) nd ?_
              refine U.p rfl rfl (.inl rfl) (S.pickT rfl ((L 2 rfl rfl).trans (congrArg Value.bool g123)) (L 0 rfl rfl)) ?_
              exact kk [(31, .bool p1.naive), (30, .bool p1.naive), (29, .pointer (some ⟨b10, 0, none⟩))] _ ⟨.bool p1.naive, .pointer (some ⟨b10, 0, none⟩), rfl, (by rw [g123, Bool.true_and])⟩
            · skip
              refine U.x rfl rfl rfl rfl ((L 0 rfl rfl).trans (congrArg Value.bool g123)) (by decide) ?_
              refine U.x rfl rfl rfl rfl ((L 1 rfl rfl).trans (congrArg Value.bool g123)) (by decide) ?_
              refine U.p rfl rfl (.inl rfl) (S.pickF rfl ((L 2 rfl rfl).trans (congrArg Value.bool g123)) K) ?_
              exact kk [(31, .bool false), (30, .tuple #[]), (29, .tuple #[])] _ ⟨.tuple #[], .tuple #[], rfl, (by rw [g123, Bool.false_and])⟩
        · intro kk
          refine bcase (b := decide (p0.op = 10)) (fun g124 => ?_) (fun g124 => ?_)
          · skip
            refine U.p (v := .pointer (some ⟨b5, 7, none⟩)) rfl rfl (.inr ⟨_, _, _, rfl, rfl, ((L 0 rfl rfl).trans (congrArg Value.bool g124))⟩) (S.fieldAddr rfl (L 19 rfl rfl) Try.underlying42 rfl ti4 rfl rfl) ?_
            refine U.k rfl rfl (.inr ⟨_, _, _, rfl, rfl, ((L 1 rfl rfl).trans (congrArg Value.bool g124))⟩) (S.load rfl (L 0 rfl rfl) Try.underlying4 rfl ((ow13.own (k := 1) rfl).cell rfl)) nd ?_
            refine U.p rfl rfl (.inl rfl) (S.pickT rfl ((L 2 rfl rfl).trans (congrArg Value.bool g124)) (L 0 rfl rfl)) ?_
            exact kk [(27, .bool p0.volatile), (26, .bool p0.volatile), (25, .pointer (some ⟨b5, 7, none⟩))] _ ⟨.bool p0.volatile, .pointer (some ⟨b5, 7, none⟩), rfl, (by rw [g124, Bool.true_and])⟩
          · skip
            refine U.x rfl rfl rfl rfl ((L 0 rfl rfl).trans (congrArg Value.bool g124)) (by decide) ?_
            refine U.x rfl rfl rfl rfl ((L 1 rfl rfl).trans (congrArg Value.bool g124)) (by decide) ?_
            refine U.p rfl rfl (.inl rfl) (S.pickF rfl ((L 2 rfl rfl).trans (congrArg Value.bool g124)) K) ?_
            exact kk [(27, .bool false), (26, .tuple #[]), (25, .tuple #[])] _ ⟨.tuple #[], .tuple #[], rfl, (by rw [g124, Bool.false_and])⟩
    · intro kk
      refine bcase (b := (decide (p0.op = 9)) && p0.volatile) (fun g125 => ?_) (fun g125 => ?_)
      · skip
        refine U.p (v := .pointer (some ⟨b10, 0, none⟩)) rfl rfl (.inr ⟨_, _, _, rfl, rfl, ((L 0 rfl rfl).trans (congrArg Value.bool g125))⟩) (S.fieldAddr rfl (L 9 rfl rfl) Try.underlying27 rfl ti4 rfl rfl) ?_
        refine U.k rfl rfl (.inr ⟨_, _, _, rfl, rfl, ((L 1 rfl rfl).trans (congrArg Value.bool g125))⟩) (S.load rfl (L 0 rfl rfl) Try.underlying4 rfl ((ow13.own (k := 0) rfl).cell rfl)) nd ?_
        refine U.p rfl rfl (.inr ⟨_, _, _, rfl, rfl, ((L 2 rfl rfl).trans (congrArg Value.bool g125))⟩) (S.not rfl (L 0 rfl rfl)) ?_
        refine U.p rfl rfl (.inl rfl) (S.pickT rfl ((L 3 rfl rfl).trans (congrArg Value.bool g125)) (L 0 rfl rfl)) ?_
        exact kk [(17, .bool (!p1.naive)), (16, .bool (!p1.naive)), (15, .bool p1.naive), (14, .pointer (some ⟨b10, 0, none⟩))] _ ⟨.bool (!p1.naive), .bool p1.naive, .pointer (some ⟨b10, 0, none⟩), rfl, (by rw [g125, Bool.true_and])⟩
      · skip
        refine U.x rfl rfl rfl rfl ((L 0 rfl rfl).trans (congrArg Value.bool g125)) (by decide) ?_
        refine U.x rfl rfl rfl rfl ((L 1 rfl rfl).trans (congrArg Value.bool g125)) (by decide) ?_
        refine U.x rfl rfl rfl rfl ((L 2 rfl rfl).trans (congrArg Value.bool g125)) (by decide) ?_
        refine U.p rfl rfl (.inl rfl) (S.pickF rfl ((L 3 rfl rfl).trans (congrArg Value.bool g125)) K) ?_
        exact kk [(17, .bool false), (16, .tuple #[]), (15, .tuple #[]), (14, .tuple #[])] _ ⟨.tuple #[], .tuple #[], .tuple #[], rfl, (by rw [g125, Bool.false_and])⟩
  · intro kk
    refine bcase (b := decide (p0.op = 9)) (fun g126 => ?_) (fun g126 => ?_)
    · skip
      refine U.p (v := .pointer (some ⟨b5, 7, none⟩)) rfl rfl (.inr ⟨_, _, _, rfl, rfl, ((L 0 rfl rfl).trans (congrArg Value.bool g126))⟩) (S.fieldAddr rfl (L 6 rfl rfl) Try.underlying42 rfl ti4 rfl rfl) ?_
      refine U.k rfl rfl (.inr ⟨_, _, _, rfl, rfl, ((L 1 rfl rfl).trans (congrArg Value.bool g126))⟩) (S.load rfl (L 0 rfl rfl) Try.underlying4 rfl ((ow13.own (k := 1) rfl).cell rfl)) nd ?_
      refine U.p rfl rfl (.inl rfl) (S.pickT rfl ((L 2 rfl rfl).trans (congrArg Value.bool g126)) (L 0 rfl rfl)) ?_
      exact kk [(12, .bool p0.volatile), (11, .bool p0.volatile), (10, .pointer (some ⟨b5, 7, none⟩))] _ ⟨.bool p0.volatile, .pointer (some ⟨b5, 7, none⟩), rfl, (by rw [g126, Bool.true_and])⟩
    · skip
      refine U.x rfl rfl rfl rfl ((L 0 rfl rfl).trans (congrArg Value.bool g126)) (by decide) ?_
      refine U.x rfl rfl rfl rfl ((L 1 rfl rfl).trans (congrArg Value.bool g126)) (by decide) ?_
      refine U.p rfl rfl (.inl rfl) (S.pickF rfl ((L 2 rfl rfl).trans (congrArg Value.bool g126)) K) ?_
      exact kk [(12, .bool false), (11, .tuple #[]), (10, .tuple #[])] _ ⟨.tuple #[], .tuple #[], rfl, (by rw [g126, Bool.false_and])⟩

set_option maxHeartbeats 4000000 in
theorem wk_fence_acquire (V : Vw) (Rs : List At) (p0 : Int) (ow : Ow V (Rs)) (r : TIns) (h : fence_acquire p0 = some r) : ∃ v V', Cl Try.prog 0 28 #[.int .i64 p0] V.H v V'.H ∧ V.le V' ∧ (∃ (v1 : Value), v = .agg #[.int .i64 r.op, .int .i64 r.d, .int .i64 r.a, .int .i64 r.b, .int .i64 r.imm, v1, .int .i64 r.what, .bool r.volatile, .bool r.final] ∧ Fz (RT.int .i64) V' v1 r.args ∧ Ow V' (Rs)) := by
  refine Ct.of (Nat.zero_le _) Try.func28 rfl (Nat.le_of_ble_eq_true rfl) ?_
  unfold fence_acquire at h
  refine WP.usreg rfl ?_
  refine O.alloc ow rfl rfl (.inl rfl) rfl ti42 rfl rfl nd (fun b3 V4 le5 ow6 => ?_)
  refine U.done (Nat.le_of_ble_eq_true rfl) ?_
  refine WP.usreg rfl ?_
  refine U.p rfl rfl (.inl rfl) (S.move rfl (L 1 rfl rfl)) ?_
  refine U.p (v := .agg #[.int .i64 21, .int .i64 (-1), .int .i64 p0, .int .i64 (-1), .int .i64 3, .slice none 0 0, .int .i64 0, .bool false, .bool false]) rfl rfl (.inl rfl) (S.build (vs := [.int .i64 21, .int .i64 (-1), .int .i64 p0, .int .i64 (-1), .int .i64 3]) rfl ti42 rfl pl42 (aC K (aC K (aC (L 0 rfl rfl) (aC K (aC K aN))))) (allC (by simp [topV]) (allC (by simp [topV]) (allC (by simp [topV]) (allC (by simp [topV]) (allC (by simp [topV]) allN))))) rfl) ?_
  refine O.store (k := 0) (cs := [.int .i64 21, .int .i64 (-1), .int .i64 p0, .int .i64 (-1), .int .i64 3, .slice none 0 0, .int .i64 0, .bool false, .bool false]) (c' := [.int .i64 21, .int .i64 (-1), .int .i64 p0, .int .i64 (-1), .int .i64 3, .slice none 0 0, .int .i64 0, .bool false, .bool false]) ow6 rfl rfl rfl (.inl rfl) rfl (L 2 rfl rfl) (L 0 rfl rfl) ti42 (by simp [topV]) rfl rfl (Nat.le_of_ble_eq_true rfl) rfl rfl nd (fun V8 le9 ow10 => ?_)
  refine U.done (Nat.le_of_ble_eq_true rfl) ?_
  refine WP.ret ?_
  refine fin.cellN (.inr rfl) rfl (L 2 rfl rfl) Try.underlying42 rfl ti42 (ow10.own (k := 0) rfl).get rfl ⟨V8, rfl, (le5.trans le9), ?_⟩
  have ow11 := ow10.drop 0 rfl
  have e12 := Option.some.inj h
  subst e12
  exact ⟨(.slice none 0 0), rfl, Fz.nil, ow11⟩

set_option maxHeartbeats 4000000 in
theorem wk_fence_behind (V : Vw) (Rs : List At) (p0 : TIns) (p1 : Tfence_Options) (v1 : Value) (f2 : Fz (RT.int .i64) V v1 p0.args) (ow : Ow V (Rs)) (r : List TIns) (h : fence_behind p0 p1 = some r) : ∃ v V', Cl Try.prog 0 22 #[.agg #[.int .i64 p0.op, .int .i64 p0.d, .int .i64 p0.a, .int .i64 p0.b, .int .i64 p0.imm, v1, .int .i64 p0.what, .bool p0.volatile, .bool p0.final], .agg #[.bool p1.naive, .bool p1.bare, .bool p1.merged]] V.H v V'.H ∧ V.le V' ∧ (∃ (v3 : Value), v = v3 ∧ Ow V' (.os RT_TIns v3 r :: Rs)) := by
  refine Ct.of (Nat.zero_le _) Try.func22 rfl (Nat.le_of_ble_eq_true rfl) ?_
  unfold fence_behind at h
  refine WP.usreg rfl ?_
  refine O.box ow rfl rfl (.inl rfl) rfl (L 0 rfl rfl) (by simp [topV]) rfl nd (fun b5 V6 le7 ow8 => ?_)
  refine O.box ow8 rfl rfl (.inl rfl) rfl (L 2 rfl rfl) (by simp [topV]) rfl nd (fun b10 V11 le12 ow13 => ?_)
  refine U.p rfl rfl (.inl rfl) (S.assign rfl K) ?_
  refine U.done (Nat.le_of_ble_eq_true rfl) ?_
  refine WP.seq ?_
  refine WP.blk ?_
  refine WP.usreg rfl ?_
  refine U.p (v := .pointer (some ⟨b5, 0, none⟩)) rfl rfl (.inl rfl) (S.fieldAddr rfl (L 2 rfl rfl) Try.underlying42 rfl ti3 rfl rfl) ?_
  refine U.k rfl rfl (.inl rfl) (S.load rfl (L 0 rfl rfl) Try.underlying3 rfl ((ow13.own (k := 1) rfl).cell rfl)) nd ?_
  refine U.p rfl rfl (.inl rfl) (S.eqlI rfl (L 0 rfl rfl) K) ?_
  refine U.p rfl rfl (.inl rfl) (S.move rfl (L 0 rfl rfl)) ?_
  refine U.joinX 7 (fun e H => ∃ (u15 u16 : Value), H = V11.H ∧ e = [(12, .bool ((decide (p0.op = 9)) && p0.volatile)), (11, u15), (10, u16)]) ?_ ?_
  · rintro _ _ ⟨u15, u16, rfl, rfl⟩
    refine U.p rfl rfl (.inl rfl) (S.move rfl (L 0 rfl rfl)) ?_
    refine U.joinX 11 (fun e H => ∃ (u20 u21 : Value), H = V11.H ∧ e = [(16, .bool (((decide (p0.op = 9)) && p0.volatile) && p1.naive)), (15, u20), (14, u21)]) ?_ ?_
    · rintro _ _ ⟨u20, u21, rfl, rfl⟩
      refine U.p rfl rfl (.inl rfl) (S.assign rfl (L 0 rfl rfl)) ?_
      refine U.done (Nat.le_of_ble_eq_true rfl) ?_
      refine WP.cond _ (L 0 rfl rfl) rfl (fun c25 => ?_) (fun c25 => ?_)
      · have h26 := ifT c25 h
        refine WP.usreg rfl ?_
        obtain ⟨x27, hx28, h29⟩ := bindS h26
        refine O.call (V := V11) rfl rfl (.inl rfl) rfl en27 (aC K aN) (wk_fence_fence V11 _ 2 ow13 _ hx28) (fun _ _ _ _ => nd) (fun v30 V31 le32 hp33 => ?_)
        obtain ⟨v35, rfl, f36, ow34⟩ := hp33
        refine O.lit (R := RT_TIns) ow34 rfl rfl (.inl rfl) rfl Try.underlying31 ti42 rfl rfl rfl (Nat.le_of_ble_eq_true rfl) rfl (aC (L 0 rfl rfl) aN) (.cons _ _ x27 _ (by simp [topV]) ⟨_, rfl, f36⟩ .nil) (fun _ => nd) (fun v37 V38 le39 ow40 => ?_)
        refine U.p rfl rfl (.inl rfl) (S.assign rfl (L 0 rfl rfl)) ?_
        refine U.done (Nat.le_of_ble_eq_true rfl) ?_
        refine WP.ret ?_
        refine blkR (sqR ?_)
        refine fin.slot (.inr rfl) rfl (L 0 rfl rfl) ⟨V38, rfl, (((le7.trans le12).trans le32).trans le39), ?_⟩
        have ow42 := ow40.drop 1 rfl
        have ow43 := ow42.drop 1 rfl
        have e44 := Option.some.inj h29
        subst e44
        exact ⟨v37, rfl, ow43⟩
      · have h45 := ifF c25 h
        refine WP.usreg rfl ?_
        refine U.p (v := .pointer (some ⟨b5, 0, none⟩)) rfl rfl (.inl rfl) (S.fieldAddr rfl (L 14 rfl rfl) Try.underlying42 rfl ti3 rfl rfl) ?_
        refine U.k rfl rfl (.inl rfl) (S.load rfl (L 0 rfl rfl) Try.underlying3 rfl ((ow13.own (k := 1) rfl).cell rfl)) nd ?_
        refine U.p rfl rfl (.inl rfl) (S.eqlI rfl (L 0 rfl rfl) K) ?_
        refine U.p rfl rfl (.inl rfl) (S.move rfl (L 0 rfl rfl)) ?_
        refine U.joinX 7 (fun e H => ∃ (u46 u47 : Value), H = V11.H ∧ e = [(26, .bool ((decide (p0.op = 9)) && p0.volatile)), (25, u46), (24, u47)]) ?_ ?_
        · rintro _ _ ⟨u46, u47, rfl, rfl⟩
          refine U.p rfl rfl (.inl rfl) (S.assign rfl (L 0 rfl rfl)) ?_
          refine U.done (Nat.le_of_ble_eq_true rfl) ?_
          refine WP.cond _ (L 0 rfl rfl) rfl (fun c51 => ?_) (fun c51 => ?_)
          · have h52 := ifT c51 h45
            refine WP.usreg rfl ?_
            refine U.p (v := .pointer (some ⟨b5, 1, none⟩)) rfl rfl (.inl rfl) (S.fieldAddr rfl (L 22 rfl rfl) Try.underlying42 rfl ti3 rfl rfl) ?_
            refine U.k rfl rfl (.inl rfl) (S.load rfl (L 0 rfl rfl) Try.underlying3 rfl ((ow13.own (k := 1) rfl).cell rfl)) nd ?_
            obtain ⟨x53, hx54, h55⟩ := bindS h52
            refine O.call (V := V11) rfl rfl (.inl rfl) rfl en28 (aC (L 0 rfl rfl) aN) (wk_fence_acquire V11 _ p0.d ow13 _ hx54) (fun _ _ _ _ => nd) (fun v56 V57 le58 hp59 => ?_)
            obtain ⟨v61, rfl, f62, ow60⟩ := hp59
            refine O.lit (R := RT_TIns) ow60 rfl rfl (.inl rfl) rfl Try.underlying31 ti42 rfl rfl rfl (Nat.le_of_ble_eq_true rfl) rfl (aC (L 0 rfl rfl) aN) (.cons _ _ x53 _ (by simp [topV]) ⟨_, rfl, f62⟩ .nil) (fun _ => nd) (fun v63 V64 le65 ow66 => ?_)
            refine U.p rfl rfl (.inl rfl) (S.assign rfl (L 0 rfl rfl)) ?_
            refine U.done (Nat.le_of_ble_eq_true rfl) ?_
            refine WP.ret ?_
            refine blkR (sqR ?_)
            refine fin.slot (.inr rfl) rfl (L 0 rfl rfl) ⟨V64, rfl, (((le7.trans le12).trans le58).trans le65), ?_⟩
            have ow68 := ow66.drop 1 rfl
            have ow69 := ow68.drop 1 rfl
            have e70 := Option.some.inj h55
            subst e70
            exact ⟨v63, rfl, ow69⟩
          · have h71 := ifF c51 h45
            refine WP.usreg rfl ?_
            refine U.p (v := .pointer (some ⟨b5, 0, none⟩)) rfl rfl (.inl rfl) (S.fieldAddr rfl (L 22 rfl rfl) Try.underlying42 rfl ti3 rfl rfl) ?_
            refine U.k rfl rfl (.inl rfl) (S.load rfl (L 0 rfl rfl) Try.underlying3 rfl ((ow13.own (k := 1) rfl).cell rfl)) nd ?_
            refine U.p rfl rfl (.inl rfl) (S.eqlI rfl (L 0 rfl rfl) K) ?_
            refine U.p rfl rfl (.inl rfl) (S.move rfl (L 0 rfl rfl)) ?_
            refine U.joinX 7 (fun e H => ∃ (u72 u73 : Value), H = V11.H ∧ e = [(38, .bool ((decide (p0.op = 10)) && p0.volatile)), (37, u72), (36, u73)]) ?_ ?_
            · rintro _ _ ⟨u72, u73, rfl, rfl⟩
              refine U.p rfl rfl (.inl rfl) (S.move rfl (L 0 rfl rfl)) ?_
              refine U.joinX 11 (fun e H => ∃ (u77 u78 : Value), H = V11.H ∧ e = [(42, .bool (((decide (p0.op = 10)) && p0.volatile) && p1.naive)), (41, u77), (40, u78)]) ?_ ?_
              · rintro _ _ ⟨u77, u78, rfl, rfl⟩
                refine U.p rfl rfl (.inl rfl) (S.assign rfl (L 0 rfl rfl)) ?_
                refine U.done (Nat.le_of_ble_eq_true rfl) ?_
                refine WP.cond _ (L 0 rfl rfl) rfl (fun c82 => ?_) (fun c82 => ?_)
                · have h83 := ifT c82 h71
                  refine WP.usreg rfl ?_
                  obtain ⟨x84, hx85, h86⟩ := bindS h83
                  refine O.call (V := V11) rfl rfl (.inl rfl) rfl en27 (aC K aN) (wk_fence_fence V11 _ 1 ow13 _ hx85) (fun _ _ _ _ => nd) (fun v87 V88 le89 hp90 => ?_)
                  obtain ⟨v92, rfl, f93, ow91⟩ := hp90
                  refine O.lit (R := RT_TIns) ow91 rfl rfl (.inl rfl) rfl Try.underlying31 ti42 rfl rfl rfl (Nat.le_of_ble_eq_true rfl) rfl (aC (L 0 rfl rfl) aN) (.cons _ _ x84 _ (by simp [topV]) ⟨_, rfl, f93⟩ .nil) (fun _ => nd) (fun v94 V95 le96 ow97 => ?_)
                  refine U.p rfl rfl (.inl rfl) (S.assign rfl (L 0 rfl rfl)) ?_
                  refine U.done (Nat.le_of_ble_eq_true rfl) ?_
                  refine WP.ret ?_
                  refine blkR (sqR ?_)
                  refine fin.slot (.inr rfl) rfl (L 0 rfl rfl) ⟨V95, rfl, (((le7.trans le12).trans le89).trans le96), ?_⟩
                  have ow99 := ow97.drop 1 rfl
                  have ow100 := ow99.drop 1 rfl
                  have e101 := Option.some.inj h86
                  subst e101
                  exact ⟨v94, rfl, ow100⟩
                · have h102 := ifF c82 h71
                  refine WP.skip ?_
                  refine blkN (sqN ?_)
                  refine WP.usreg rfl ?_
                  refine U.p rfl rfl (.inl rfl) (S.assign rfl K) ?_
                  refine U.done (Nat.le_of_ble_eq_true rfl) ?_
                  refine WP.ret ?_
                  have ow103 := ow13.nil RT_TIns
                  refine fin.slot (.inr rfl) rfl (L 0 rfl rfl) ⟨V11, rfl, (le7.trans le12), ?_⟩
                  have ow105 := ow103.drop 1 rfl
                  have ow106 := ow105.drop 1 rfl
                  have e107 := Option.some.inj h102
                  subst e107
                  exact ⟨(.slice none 0 0), rfl, ow106⟩
              · intro kk
                refine bcase (b := (decide (p0.op = 10)) && p0.volatile) (fun g108 => ?_) (fun g108 => ?_)
                · skip
                  refine U.p (v := .pointer (some ⟨b10, 0, none⟩)) rfl rfl (.inr ⟨_, _, _, rfl, rfl, ((L 0 rfl rfl).trans (congrArg Value.bool g108))⟩) (S.fieldAddr rfl (L 29 rfl rfl) Try.underlying27 rfl ti4 rfl rfl) ?_
                  refine U.k rfl rfl (.inr ⟨_, _, _, rfl, rfl, ((L 1 rfl rfl).trans (congrArg Value.bool g108))⟩) (S.load rfl (L 0 rfl rfl) Try.underlying4 rfl ((ow13.own (k := 0) rfl).cell rfl)) nd ?_
                  refine U.p rfl rfl (.inl rfl) (S.pickT rfl ((L 2 rfl rfl).trans (congrArg Value.bool g108)) (L 0 rfl rfl)) ?_
                  exact kk [(42, .bool p1.naive), (41, .bool p1.naive), (40, .pointer (some ⟨b10, 0, none⟩))] _ ⟨.bool p1.naive, .pointer (some ⟨b10, 0, none⟩), rfl, (by rw [g108, Bool.true_and])⟩
                · skip
                  refine U.x rfl rfl rfl rfl ((L 0 rfl rfl).trans (congrArg Value.bool g108)) (by decide) ?_
                  refine U.x rfl rfl rfl rfl ((L 1 rfl rfl).trans (congrArg Value.bool g108)) (by decide) ?_
                  refine U.p rfl rfl (.inl rfl) (S.pickF rfl ((L 2 rfl rfl).trans (congrArg Value.bool g108)) K) ?_
                  exact kk [(42, .bool false), (41, .tuple #[]), (40, .tuple #[])] _ ⟨.tuple #[], .tuple #[], rfl, (by rw [g108, Bool.false_and])⟩
            · intro kk
              refine bcase (b := decide (p0.op = 10)) (fun g109 => ?_) (fun g109 => ?_)
              · skip
                refine U.p (v := .pointer (some ⟨b5, 7, none⟩)) rfl rfl (.inr ⟨_, _, _, rfl, rfl, ((L 0 rfl rfl).trans (congrArg Value.bool g109))⟩) (S.fieldAddr rfl (L 26 rfl rfl) Try.underlying42 rfl ti4 rfl rfl) ?_
                refine U.k rfl rfl (.inr ⟨_, _, _, rfl, rfl, ((L 1 rfl rfl).trans (congrArg Value.bool g109))⟩) (S.load rfl (L 0 rfl rfl) Try.underlying4 rfl ((ow13.own (k := 1) rfl).cell rfl)) nd ?_
                refine U.p rfl rfl (.inl rfl) (S.pickT rfl ((L 2 rfl rfl).trans (congrArg Value.bool g109)) (L 0 rfl rfl)) ?_
                exact kk [(38, .bool p0.volatile), (37, .bool p0.volatile), (36, .pointer (some ⟨b5, 7, none⟩))] _ ⟨.bool p0.volatile, .pointer (some ⟨b5, 7, none⟩), rfl, (by rw [g109, Bool.true_and])⟩
              · skip
                refine U.x rfl rfl rfl rfl ((L 0 rfl rfl).trans (congrArg Value.bool g109)) (by decide) ?_
                refine U.x rfl rfl rfl rfl ((L 1 rfl rfl).trans (congrArg Value.bool g109)) (by decide) ?_
                refine U.p rfl rfl (.inl rfl) (S.pickF rfl ((L 2 rfl rfl).trans (congrArg Value.bool g109)) K) ?_
                exact kk [(38, .bool false), (37, .tuple #[]), (36, .tuple #[])] _ ⟨.tuple #[], .tuple #[], rfl, (by rw [g109, Bool.false_and])⟩
        · intro kk
          refine bcase (b := decide (p0.op = 9)) (fun g110 => ?_) (fun g110 => ?_)
          · skip
            refine U.p (v := .pointer (some ⟨b5, 7, none⟩)) rfl rfl (.inr ⟨_, _, _, rfl, rfl, ((L 0 rfl rfl).trans (congrArg Value.bool g110))⟩) (S.fieldAddr rfl (L 18 rfl rfl) Try.underlying42 rfl ti4 rfl rfl) ?_
            refine U.k rfl rfl (.inr ⟨_, _, _, rfl, rfl, ((L 1 rfl rfl).trans (congrArg Value.bool g110))⟩) (S.load rfl (L 0 rfl rfl) Try.underlying4 rfl ((ow13.own (k := 1) rfl).cell rfl)) nd ?_
            refine U.p rfl rfl (.inl rfl) (S.pickT rfl ((L 2 rfl rfl).trans (congrArg Value.bool g110)) (L 0 rfl rfl)) ?_
            exact kk [(26, .bool p0.volatile), (25, .bool p0.volatile), (24, .pointer (some ⟨b5, 7, none⟩))] _ ⟨.bool p0.volatile, .pointer (some ⟨b5, 7, none⟩), rfl, (by rw [g110, Bool.true_and])⟩
          · skip
            refine U.x rfl rfl rfl rfl ((L 0 rfl rfl).trans (congrArg Value.bool g110)) (by decide) ?_
            refine U.x rfl rfl rfl rfl ((L 1 rfl rfl).trans (congrArg Value.bool g110)) (by decide) ?_
            refine U.p rfl rfl (.inl rfl) (S.pickF rfl ((L 2 rfl rfl).trans (congrArg Value.bool g110)) K) ?_
            exact kk [(26, .bool false), (25, .tuple #[]), (24, .tuple #[])] _ ⟨.tuple #[], .tuple #[], rfl, (by rw [g110, Bool.false_and])⟩
    · intro kk
      refine bcase (b := (decide (p0.op = 9)) && p0.volatile) (fun g111 => ?_) (fun g111 => ?_)
      · skip
        refine U.p (v := .pointer (some ⟨b10, 0, none⟩)) rfl rfl (.inr ⟨_, _, _, rfl, rfl, ((L 0 rfl rfl).trans (congrArg Value.bool g111))⟩) (S.fieldAddr rfl (L 9 rfl rfl) Try.underlying27 rfl ti4 rfl rfl) ?_
        refine U.k rfl rfl (.inr ⟨_, _, _, rfl, rfl, ((L 1 rfl rfl).trans (congrArg Value.bool g111))⟩) (S.load rfl (L 0 rfl rfl) Try.underlying4 rfl ((ow13.own (k := 0) rfl).cell rfl)) nd ?_
        refine U.p rfl rfl (.inl rfl) (S.pickT rfl ((L 2 rfl rfl).trans (congrArg Value.bool g111)) (L 0 rfl rfl)) ?_
        exact kk [(16, .bool p1.naive), (15, .bool p1.naive), (14, .pointer (some ⟨b10, 0, none⟩))] _ ⟨.bool p1.naive, .pointer (some ⟨b10, 0, none⟩), rfl, (by rw [g111, Bool.true_and])⟩
      · skip
        refine U.x rfl rfl rfl rfl ((L 0 rfl rfl).trans (congrArg Value.bool g111)) (by decide) ?_
        refine U.x rfl rfl rfl rfl ((L 1 rfl rfl).trans (congrArg Value.bool g111)) (by decide) ?_
        refine U.p rfl rfl (.inl rfl) (S.pickF rfl ((L 2 rfl rfl).trans (congrArg Value.bool g111)) K) ?_
        exact kk [(16, .bool false), (15, .tuple #[]), (14, .tuple #[])] _ ⟨.tuple #[], .tuple #[], rfl, (by rw [g111, Bool.false_and])⟩
  · intro kk
    refine bcase (b := decide (p0.op = 9)) (fun g112 => ?_) (fun g112 => ?_)
    · skip
      refine U.p (v := .pointer (some ⟨b5, 7, none⟩)) rfl rfl (.inr ⟨_, _, _, rfl, rfl, ((L 0 rfl rfl).trans (congrArg Value.bool g112))⟩) (S.fieldAddr rfl (L 6 rfl rfl) Try.underlying42 rfl ti4 rfl rfl) ?_
      refine U.k rfl rfl (.inr ⟨_, _, _, rfl, rfl, ((L 1 rfl rfl).trans (congrArg Value.bool g112))⟩) (S.load rfl (L 0 rfl rfl) Try.underlying4 rfl ((ow13.own (k := 1) rfl).cell rfl)) nd ?_
      refine U.p rfl rfl (.inl rfl) (S.pickT rfl ((L 2 rfl rfl).trans (congrArg Value.bool g112)) (L 0 rfl rfl)) ?_
      exact kk [(12, .bool p0.volatile), (11, .bool p0.volatile), (10, .pointer (some ⟨b5, 7, none⟩))] _ ⟨.bool p0.volatile, .pointer (some ⟨b5, 7, none⟩), rfl, (by rw [g112, Bool.true_and])⟩
    · skip
      refine U.x rfl rfl rfl rfl ((L 0 rfl rfl).trans (congrArg Value.bool g112)) (by decide) ?_
      refine U.x rfl rfl rfl rfl ((L 1 rfl rfl).trans (congrArg Value.bool g112)) (by decide) ?_
      refine U.p rfl rfl (.inl rfl) (S.pickF rfl ((L 2 rfl rfl).trans (congrArg Value.bool g112)) K) ?_
      exact kk [(12, .bool false), (11, .tuple #[]), (10, .tuple #[])] _ ⟨.tuple #[], .tuple #[], rfl, (by rw [g112, Bool.false_and])⟩

set_option maxHeartbeats 4000000 in
theorem wk_fence_plain (V : Vw) (Rs : List At) (p0 : TIns) (v1 : Value) (f2 : Fz (RT.int .i64) V v1 p0.args) (ow : Ow V (Rs)) (r : Bool) (h : fence_plain p0 = some r) : ∃ v V', Cl Try.prog 0 29 #[.agg #[.int .i64 p0.op, .int .i64 p0.d, .int .i64 p0.a, .int .i64 p0.b, .int .i64 p0.imm, v1, .int .i64 p0.what, .bool p0.volatile, .bool p0.final]] V.H v V'.H ∧ V.le V' ∧ (v = .bool r ∧ Ow V' (Rs)) := by
  refine Ct.of (Nat.zero_le _) Try.func29 rfl (Nat.le_of_ble_eq_true rfl) ?_
  unfold fence_plain at h
  refine WP.usreg rfl ?_
  refine O.box ow rfl rfl (.inl rfl) rfl (L 0 rfl rfl) (by simp [topV]) rfl nd (fun b3 V4 le5 ow6 => ?_)
  refine U.p rfl rfl (.inl rfl) (S.assign rfl K) ?_
  refine U.done (Nat.le_of_ble_eq_true rfl) ?_
  refine WP.usreg rfl ?_
  refine U.p (v := .pointer (some ⟨b3, 0, none⟩)) rfl rfl (.inl rfl) (S.fieldAddr rfl (L 1 rfl rfl) Try.underlying42 rfl ti3 rfl rfl) ?_
  refine U.k rfl rfl (.inl rfl) (S.load rfl (L 0 rfl rfl) Try.underlying3 rfl ((ow6.own (k := 0) rfl).cell rfl)) nd ?_
  refine U.p rfl rfl (.inl rfl) (S.eqlI rfl (L 0 rfl rfl) K) ?_
  refine U.p rfl rfl (.inl rfl) (S.move rfl (L 0 rfl rfl)) ?_
  refine U.joinX 13 (fun e H => ∃ (u8 u9 u10 u11 u12 u13 u14 u15 : Value), H = V4.H ∧ e = [(15, .bool ((decide (p0.op = 21)) && ((decide (p0.imm = 1)) || (decide (p0.imm = 2))))), (14, u8), (13, u9), (12, u10), (11, u11), (10, u12), (9, u13), (8, u14), (7, u15)]) ?_ ?_
  · rintro _ _ ⟨u8, u9, u10, u11, u12, u13, u14, u15, rfl, rfl⟩
    refine U.p rfl rfl (.inl rfl) (S.assign rfl (L 0 rfl rfl)) ?_
    refine U.done (Nat.le_of_ble_eq_true rfl) ?_
    refine WP.ret ?_
    refine fin.slot (.inr rfl) rfl (L 0 rfl rfl) ⟨V4, rfl, le5, ?_⟩
    have ow19 := ow6.drop 0 rfl
    have e20 := Option.some.inj h
    subst e20
    exact ⟨rfl, ow19⟩
  · intro kk
    refine bcase (b := decide (p0.op = 21)) (fun g21 => ?_) (fun g21 => ?_)
    · skip
      refine U.p (v := .pointer (some ⟨b3, 4, none⟩)) rfl rfl (.inr ⟨_, _, _, rfl, rfl, ((L 0 rfl rfl).trans (congrArg Value.bool g21))⟩) (S.fieldAddr rfl (L 5 rfl rfl) Try.underlying42 rfl ti3 rfl rfl) ?_
      refine U.k rfl rfl (.inr ⟨_, _, _, rfl, rfl, ((L 1 rfl rfl).trans (congrArg Value.bool g21))⟩) (S.load rfl (L 0 rfl rfl) Try.underlying3 rfl ((ow6.own (k := 0) rfl).cell rfl)) nd ?_
      refine U.p rfl rfl (.inr ⟨_, _, _, rfl, rfl, ((L 2 rfl rfl).trans (congrArg Value.bool g21))⟩) (S.eqlI rfl (L 0 rfl rfl) K) ?_
      refine U.p rfl rfl (.inr ⟨_, _, _, rfl, rfl, ((L 3 rfl rfl).trans (congrArg Value.bool g21))⟩) (S.move rfl (L 0 rfl rfl)) ?_
      refine U.joinX 12 (fun e H => ∃ (u22 u23 u24 : Value), H = V4.H ∧ e = [(14, .bool ((decide (p0.imm = 1)) || (decide (p0.imm = 2)))), (13, u22), (12, u23), (11, u24)]) ?_ ?_
      · rintro _ _ ⟨u22, u23, u24, rfl, rfl⟩
        refine U.p rfl rfl (.inl rfl) (S.pickT rfl ((L 8 rfl rfl).trans (congrArg Value.bool g21)) (L 0 rfl rfl)) ?_
        exact kk [(15, .bool ((decide (p0.imm = 1)) || (decide (p0.imm = 2)))), (14, .bool ((decide (p0.imm = 1)) || (decide (p0.imm = 2)))), (13, u22), (12, u23), (11, u24), (10, .bool (decide (p0.imm = 1))), (9, .bool (decide (p0.imm = 1))), (8, .int .i64 p0.imm), (7, .pointer (some ⟨b3, 4, none⟩))] _ ⟨.bool ((decide (p0.imm = 1)) || (decide (p0.imm = 2))), u22, u23, u24, .bool (decide (p0.imm = 1)), .bool (decide (p0.imm = 1)), .int .i64 p0.imm, .pointer (some ⟨b3, 4, none⟩), rfl, (by rw [g21, Bool.true_and])⟩
      · intro kk
        refine bcase (b := decide (p0.imm = 1)) (fun g28 => ?_) (fun g28 => ?_)
        · skip
          refine U.x rfl rfl rfl rfl ((L 0 rfl rfl).trans (congrArg Value.bool g28)) (by decide) ?_
          refine U.x rfl rfl rfl rfl ((L 1 rfl rfl).trans (congrArg Value.bool g28)) (by decide) ?_
          refine U.x rfl rfl rfl rfl ((L 2 rfl rfl).trans (congrArg Value.bool g28)) (by decide) ?_
          refine U.p rfl rfl (.inr ⟨_, _, _, rfl, rfl, ((L 7 rfl rfl).trans (congrArg Value.bool g21))⟩) (S.pickT rfl ((L 3 rfl rfl).trans (congrArg Value.bool g28)) K) ?_
          exact kk [(14, .bool true), (13, .tuple #[]), (12, .tuple #[]), (11, .tuple #[])] _ ⟨.tuple #[], .tuple #[], .tuple #[], rfl, (by rw [g28, Bool.true_or])⟩
        · skip
          refine U.p (v := .pointer (some ⟨b3, 4, none⟩)) rfl rfl (.inr ⟨_, _, _, rfl, rfl, ((L 0 rfl rfl).trans (congrArg Value.bool g28))⟩) (S.fieldAddr rfl (L 9 rfl rfl) Try.underlying42 rfl ti3 rfl rfl) ?_
          refine U.k rfl rfl (.inr ⟨_, _, _, rfl, rfl, ((L 1 rfl rfl).trans (congrArg Value.bool g28))⟩) (S.load rfl (L 0 rfl rfl) Try.underlying3 rfl ((ow6.own (k := 0) rfl).cell rfl)) nd ?_
          refine U.p rfl rfl (.inr ⟨_, _, _, rfl, rfl, ((L 2 rfl rfl).trans (congrArg Value.bool g28))⟩) (S.eqlI rfl (L 0 rfl rfl) K) ?_
          refine U.p rfl rfl (.inr ⟨_, _, _, rfl, rfl, ((L 7 rfl rfl).trans (congrArg Value.bool g21))⟩) (S.pickF rfl ((L 3 rfl rfl).trans (congrArg Value.bool g28)) (L 0 rfl rfl)) ?_
          exact kk [(14, .bool (decide (p0.imm = 2))), (13, .bool (decide (p0.imm = 2))), (12, .int .i64 p0.imm), (11, .pointer (some ⟨b3, 4, none⟩))] _ ⟨.bool (decide (p0.imm = 2)), .int .i64 p0.imm, .pointer (some ⟨b3, 4, none⟩), rfl, (by rw [g28, Bool.false_or])⟩
    · skip
      refine U.x rfl rfl rfl rfl ((L 0 rfl rfl).trans (congrArg Value.bool g21)) (by decide) ?_
      refine U.x rfl rfl rfl rfl ((L 1 rfl rfl).trans (congrArg Value.bool g21)) (by decide) ?_
      refine U.x rfl rfl rfl rfl ((L 2 rfl rfl).trans (congrArg Value.bool g21)) (by decide) ?_
      refine U.x rfl rfl rfl rfl ((L 3 rfl rfl).trans (congrArg Value.bool g21)) (by decide) ?_
      refine U.z rfl rfl rfl rfl (L 0 rfl rfl) ?_
      refine U.z rfl rfl rfl rfl (L 1 rfl rfl) ?_
      refine U.z rfl rfl rfl rfl (L 2 rfl rfl) ?_
      refine U.x rfl rfl rfl rfl ((L 7 rfl rfl).trans (congrArg Value.bool g21)) (by decide) ?_
      refine U.p rfl rfl (.inl rfl) (S.pickF rfl ((L 8 rfl rfl).trans (congrArg Value.bool g21)) K) ?_
      exact kk [(15, .bool false), (14, .tuple #[]), (13, .tuple #[]), (12, .tuple #[]), (11, .tuple #[]), (10, .tuple #[]), (9, .tuple #[]), (8, .tuple #[]), (7, .tuple #[])] _ ⟨.tuple #[], .tuple #[], .tuple #[], .tuple #[], .tuple #[], .tuple #[], .tuple #[], .tuple #[], rfl, (by rw [g21, Bool.false_and])⟩

set_option maxHeartbeats 4000000 in
theorem wk_fence_merged (V : Vw) (Rs : List At) (p0 : List TIns) (v1 : Value) (ow : Ow V (.os RT_TIns v1 p0 :: Rs)) (r : List TIns) (h : fence_merged p0 = some r) : ∃ v V', Cl Try.prog 0 23 #[v1] V.H v V'.H ∧ V.le V' ∧ (∃ (v3 : Value), v = v3 ∧ Ow V' (.os RT_TIns v3 r :: .os RT_TIns v1 p0 :: Rs)) := by
  refine Ct.of (Nat.zero_le _) Try.func23 rfl (Nat.le_of_ble_eq_true rfl) ?_
  unfold fence_merged at h
  refine WP.usreg rfl ?_
  refine U.p rfl rfl (.inl rfl) (S.assign rfl K) ?_
  refine U.done (Nat.le_of_ble_eq_true rfl) ?_
  refine WP.usreg rfl ?_
  refine U.p rfl rfl (.inl rfl) (S.assign rfl K) ?_
  refine U.done (Nat.le_of_ble_eq_true rfl) ?_
  refine WP.seq ?_
  refine WP.usreg rfl ?_
  refine U.p rfl rfl (.inl rfl) (S.move rfl (L 2 rfl rfl)) ?_
  refine U.p rfl rfl (.inl rfl) (ow.oslen (k := 0) rfl rfl (L 0 rfl rfl) Try.underlying31) ?_
  refine U.p rfl rfl (.inl rfl) (S.move rfl K) ?_
  refine U.done (Nat.le_of_ble_eq_true rfl) ?_
  refine WP.blk ?_
  have ow9 := ow.nil RT_TIns
  have ow11 := ow9.pick 0 rfl
  have ow12 := ow11.pick 1 rfl
  unfold fence_merged_l1 at h
  obtain ⟨n14, hn13⟩ := loopO_some.1 h
  refine WP.loopI2 (fun n l V' => ∃ (v6 : Value) (xs7 : List TIns) (x8 : Int), l = [(3, v6), (7, v1), (8, .int .i64 (p0.length : Int)), (9, .int .i64 x8)] ∧ V.le V' ∧ Ow V' (.os RT_TIns v1 p0 :: .os RT_TIns v6 xs7 :: Rs) ∧ itO (fun s => fence_merged_l1b p0 s.1 s.2) n (xs7, x8) = some r) n14 _ ⟨(.slice none 0 0), [], 0, rfl, .refl _, ow12, hn13⟩ (allCons (L 3 rfl rfl) (allCons (L 2 rfl rfl) (allCons (L 1 rfl rfl) (allCons (L 0 rfl rfl) allNil)))) ?_
  rintro _ _ V15 ⟨v6, xs7, x8, rfl, le16, ow17, h21⟩
  obtain ⟨m18, q19, rfl, h22, e20⟩ := itS h21
  replace h22 : fence_merged_l1b p0 xs7 x8 = some q19 := h22
  unfold fence_merged_l1b at h22
  refine WP.usreg rfl ?_
  refine U.p rfl rfl (.inl rfl) (S.lss rfl (L 3 rfl rfl) (L 2 rfl rfl)) ?_
  refine U.done (Nat.le_of_ble_eq_true rfl) ?_
  refine WP.seq ?_
  refine WP.cond _ (L 0 rfl rfl) rfl (fun c23 => ?_) (fun c23 => ?_)
  · have h24 := ifT c23 h22
    refine WP.skip ?_
    refine sqN ?_
    refine WP.seqI (fun l V' => ∃ (v26 : Value) (xs27 : List TIns), l = [(3, v26), (7, v1), (8, .int .i64 (p0.length : Int)), (9, .int .i64 x8)] ∧ V15.le V' ∧ Ow V' (.os RT_TIns v1 p0 :: .os RT_TIns v26 xs27 :: Rs) ∧ fence_merged_k1 x8 xs27 = some q19) ?_ ?_
    · rintro _ V28 ⟨v26, xs27, rfl, le29, ow30, h31⟩
      unfold fence_merged_k1 at h31
      refine WP.ureg rfl ?_
      refine U.p rfl rfl (.inl rfl) (S.add rfl (L 3 rfl rfl) K) ?_
      refine U.p rfl rfl (.inl rfl) (S.move rfl (L 0 rfl rfl)) ?_
      refine U.done (Nat.le_of_ble_eq_true rfl) ?_
      refine sqN ?_
      exact ⟨_, V28, rfl, ⟨m18, Nat.lt_succ_self _, v26, xs27, w64 (x8 + 1), rfl, (le16.trans le29), ow30, backS h31 e20⟩, (allCons (L 2 rfl rfl) (allCons (L 3 rfl rfl) (allCons (L 4 rfl rfl) (allCons (L 0 rfl rfl) allNil))))⟩
    · skip
      refine WP.blk ?_
      refine WP.usreg rfl ?_
      obtain ⟨x32, hx33, h34⟩ := bindS h24
      obtain ⟨b35, o36, n37, c38, hv39⟩ := ow17.ospt (k := 0) rfl hx33
      obtain ⟨_, hv40, _⟩ := ow17.osel (k := 0) rfl hv39 hx33
      refine U.p rfl rfl (.inl rfl) (S.index rfl ((L 2 rfl rfl).trans hv40) (L 4 rfl rfl) Try.underlying31 ti42 (ix_ge hx33) (ix_lt hx33)) ?_
      obtain ⟨cs41, hv42, hlt43, hr44, hc45⟩ := ow17.osel (k := 0) rfl hv39 hx33
      obtain ⟨v46, rfl, f47⟩ := hr44
      refine U.k rfl rfl (.inl rfl) (S.loadN (cs := [.int .i64 x32.op, .int .i64 x32.d, .int .i64 x32.a, .int .i64 x32.b, .int .i64 x32.imm, v46, .int .i64 x32.what, .bool x32.volatile, .bool x32.final]) rfl (L 0 rfl rfl) Try.underlying42 rfl ti42 rfl hc45) nd ?_
      refine O.alloc ow17 rfl rfl (.inl rfl) rfl ti42 rfl rfl nd (fun b48 V49 le50 ow51 => ?_)
      refine O.store (k := 0) (cs := [.int .i64 x32.op, .int .i64 x32.d, .int .i64 x32.a, .int .i64 x32.b, .int .i64 x32.imm, v46, .int .i64 x32.what, .bool x32.volatile, .bool x32.final]) (c' := [.int .i64 x32.op, .int .i64 x32.d, .int .i64 x32.a, .int .i64 x32.b, .int .i64 x32.imm, v46, .int .i64 x32.what, .bool x32.volatile, .bool x32.final]) ow51 rfl rfl rfl (.inl rfl) rfl (L 0 rfl rfl) (L 1 rfl rfl) ti42 (by simp [topV]) rfl rfl (Nat.le_of_ble_eq_true rfl) (by have q0 := f47.one; simp only [List.all_cons, List.all_nil, q0]; rfl) rfl nd (fun V53 le54 ow55 => ?_)
      refine U.done (Nat.le_of_ble_eq_true rfl) ?_
      refine WP.usreg rfl ?_
      refine U.p rfl rfl (.inl rfl) (S.move rfl (L 4 rfl rfl)) ?_
      refine U.p rfl rfl (.inl rfl) (ow55.oslen (k := 2) rfl rfl (L 0 rfl rfl) Try.underlying31) ?_
      refine U.p rfl rfl (.inl rfl) (S.assign rfl (L 0 rfl rfl)) ?_
      refine U.done (Nat.le_of_ble_eq_true rfl) ?_
      refine WP.seq ?_
      refine WP.usreg rfl ?_
      refine U.p rfl rfl (.inl rfl) (S.move rfl (L 0 rfl rfl)) ?_
      refine U.p rfl rfl (.inl rfl) (S.gtr rfl (L 0 rfl rfl) K) ?_
      refine U.p rfl rfl (.inl rfl) (S.move rfl (L 0 rfl rfl)) ?_
      obtain ⟨y56, hy57, h58⟩ := bindS h34
      refine U.joinX 6 (fun e H => ∃ (u59 u60 : Value), ∃ V' : Vw, H = V'.H ∧ V53.le V' ∧ e = [(20, .bool y56), (19, u59), (18, u60)] ∧ Ow V' (.pt b48 (.cells 9 [.int .i64 x32.op, .int .i64 x32.d, .int .i64 x32.a, .int .i64 x32.b, .int .i64 x32.imm, v46, .int .i64 x32.what, .bool x32.volatile, .bool x32.final]) :: .os RT_TIns v1 p0 :: .os RT_TIns v6 xs7 :: Rs)) ?_ ?_
      · rintro _ _ ⟨u59, u60, V61, rfl, le62, rfl, ow63⟩
        refine U.p rfl rfl (.inl rfl) (S.move rfl (L 0 rfl rfl)) ?_
        obtain ⟨y64, hy65, h66⟩ := bindS h58
        refine U.joinX 14 (fun e H => ∃ (u67 u68 u69 u70 u71 u72 : Value), ∃ V' : Vw, H = V'.H ∧ V61.le V' ∧ e = [(28, .bool y64), (27, u67), (26, u68), (25, u69), (24, u70), (23, u71), (22, u72)] ∧ Ow V' (.pt b48 (.cells 9 [.int .i64 x32.op, .int .i64 x32.d, .int .i64 x32.a, .int .i64 x32.b, .int .i64 x32.imm, v46, .int .i64 x32.what, .bool x32.volatile, .bool x32.final]) :: .os RT_TIns v1 p0 :: .os RT_TIns v6 xs7 :: Rs)) ?_ ?_
        · rintro _ _ ⟨u67, u68, u69, u70, u71, u72, V73, rfl, le74, rfl, ow75⟩
          refine U.done (Nat.le_of_ble_eq_true rfl) ?_
          refine WP.cond _ (L 0 rfl rfl) rfl (fun c76 => ?_) (fun c76 => ?_)
          · have h77 := ifT c76 h66
            refine WP.usdreg rfl rfl rfl ?_
            refine U.p rfl rfl (.inl rfl) (S.move rfl (L 21 rfl rfl)) ?_
            refine U.p rfl rfl (.inl rfl) (S.move rfl (L 15 rfl rfl)) ?_
            refine U.p rfl rfl (.inl rfl) (S.sub rfl (L 0 rfl rfl) K) ?_
            refine U.p rfl rfl (.inl rfl) (S.move rfl (L 24 rfl rfl)) ?_
            refine U.p rfl rfl (.inl rfl) (S.move rfl (L 18 rfl rfl)) ?_
            refine U.p rfl rfl (.inl rfl) (S.sub rfl (L 0 rfl rfl) K) ?_
            obtain ⟨x78, hx79, h80⟩ := bindS h77
            obtain ⟨b81, o82, n83, c84, hv85⟩ := ow75.ospt (k := 2) rfl hx79
            obtain ⟨_, hv86, _⟩ := ow75.osel (k := 2) rfl hv85 hx79
            refine U.p rfl rfl (.inl rfl) (S.index rfl ((L 2 rfl rfl).trans hv86) (L 0 rfl rfl) Try.underlying31 ti42 (ix_ge hx79) (ix_lt hx79)) ?_
            refine U.p (v := .pointer (some ⟨b81, o82 + Int.toNat (w64 ((xs7.length : Int) - 1)) * 9 + 4, none⟩)) rfl rfl (.inl rfl) (S.fieldAddr rfl (L 0 rfl rfl) Try.underlying42 rfl ti3 rfl rfl) ?_
            obtain ⟨cs87, hv88, hlt89, hr90, hc91⟩ := ow75.osel (k := 2) rfl hv85 hx79
            obtain ⟨v92, rfl, f93⟩ := hr90
            refine U.k rfl rfl (.inl rfl) (S.load rfl (L 0 rfl rfl) Try.underlying3 rfl (hc91 4 _ rfl)) (fun _ => (okH.nil (fun r h => by cases h; exact hlt89))) ?_
            refine U.p (v := .pointer (some ⟨b48, 4, none⟩)) rfl rfl (.inl rfl) (S.fieldAddr rfl (L 26 rfl rfl) Try.underlying42 rfl ti3 rfl rfl) ?_
            refine U.k rfl rfl (.inl rfl) (S.load rfl (L 0 rfl rfl) Try.underlying3 rfl ((ow75.own (k := 0) rfl).cell rfl)) (fun _ => (okH.cons trivial (okH.nil (fun r h => by cases h; exact (ow75.own (k := 0) rfl).lt)))) ?_
            refine U.p rfl rfl (.inl rfl) (S.minI rfl (L 2 rfl rfl) (L 0 rfl rfl)) ?_
            obtain ⟨x94, hx95, h96⟩ := bindS h80
            obtain ⟨_, hv97, _⟩ := ow75.osel (k := 2) rfl hv85 hx95
            refine U.p rfl rfl (.inl rfl) (S.index rfl ((L 11 rfl rfl).trans hv97) (L 9 rfl rfl) Try.underlying31 ti42 (ix_ge hx95) (ix_lt hx95)) ?_
            refine U.p (v := .pointer (some ⟨b81, o82 + Int.toNat (w64 ((xs7.length : Int) - 1)) * 9 + 4, none⟩)) rfl rfl (.inl rfl) (S.fieldAddr rfl (L 0 rfl rfl) Try.underlying42 rfl ti3 rfl rfl) ?_
            obtain ⟨cs98, hv99, hlt100, hr101, hc102⟩ := ow75.osel (k := 2) rfl hv85 hx95
            obtain ⟨v103, rfl, f104⟩ := hr101
            refine O.storeE (k := 2) (R := RT_TIns) (j := 4) (y := (⟨x94.op, x94.d, x94.a, x94.b, min x78.imm x32.imm, x94.args, x94.what, x94.volatile, x94.final⟩ : TIns)) (cs := [.int .i64 (min x78.imm x32.imm)]) ow75 rfl hv99 rfl rfl (.inl rfl) rfl (L 0 rfl rfl) (L 2 rfl rfl) ti3 hx95 (by simp [topV]) rfl rfl rfl (fun r hr => by obtain ⟨w0, rfl, e0⟩ := hr; exact ⟨Nat.le_of_ble_eq_true rfl, ⟨w0, rfl, e0⟩⟩) (fun H1 hs => (fun _ => (okH.cons (Or.inl rfl) (okH.cons (Or.inl rfl) (okH.nil (fun r h => nomatch h)))))) (fun V105 le106 ow107 => ?_)
            refine U.done (Nat.le_of_ble_eq_true rfl) ?_
            refine WP.exit ?_
            refine sqE (blkE (sqN ?_))
            have ow108 := ow107.drop 0 rfl
            exact ⟨_, V105, rfl, ⟨v6, (xs7.set (Int.toNat (w64 ((xs7.length : Int) - 1))) (⟨x94.op, x94.d, x94.a, x94.b, min x78.imm x32.imm, x94.args, x94.what, x94.volatile, x94.final⟩ : TIns)), rfl, ((((le50.trans le54).trans le62).trans le74).trans le106), ow108, h96⟩, (allCons (L 35 rfl rfl) (allCons (L 36 rfl rfl) (allCons (L 37 rfl rfl) (allCons (L 38 rfl rfl) allNil))))⟩
          · have h109 := ifF c76 h66
            refine WP.skip ?_
            refine sqN ?_
            refine WP.ureg rfl ?_
            refine U.p rfl rfl (.inl rfl) (S.move rfl (L 21 rfl rfl)) ?_
            refine U.k rfl rfl (.inl rfl) (S.loadB rfl (L 18 rfl rfl) Try.underlying42 rfl ti42 (ow75.own (k := 0) rfl).get rfl) nd ?_
            have f110 := f47.up (((le50.trans le54).trans le62).trans le74)
            refine O.lit (R := RT_TIns) ow75 rfl rfl (.inl rfl) rfl Try.underlying31 ti42 rfl rfl rfl (Nat.le_of_ble_eq_true rfl) rfl (aC (L 0 rfl rfl) aN) (.cons _ _ x32 _ (by simp [topV]) ⟨_, rfl, f110⟩ .nil) (fun _ => nd) (fun v111 V112 le113 ow114 => ?_)
            obtain ⟨xs116, hx117, h118⟩ := bindS h109
            refine O.append (k := 3) ow114 rfl rfl rfl (.inl rfl) rfl (L 2 rfl rfl) (L 0 rfl rfl) Try.underlying31 ti42 rfl rfl (Nat.le_of_ble_eq_true rfl) (ow114.src (k := 0) rfl Try.underlying31) hx117 (fun _ _ => nd) (fun v119 V120 le121 ow122 => ?_)
            refine U.p rfl rfl (.inl rfl) (S.assign rfl (L 0 rfl rfl)) ?_
            refine U.done (Nat.le_of_ble_eq_true rfl) ?_
            refine blkN (sqN ?_)
            have ow124 := ow122.drop 0 rfl
            have ow125 := ow124.drop 0 rfl
            exact ⟨_, V120, rfl, ⟨v119, xs116, rfl, (((((le50.trans le54).trans le62).trans le74).trans le113).trans le121), ow125, h118⟩, (allCons (L 0 rfl rfl) (allCons (L 27 rfl rfl) (allCons (L 28 rfl rfl) (allCons (L 29 rfl rfl) allNil))))⟩
        · intro kk
          refine bcase (b := y56) (fun g126 => ?_) (fun g126 => ?_)
          · have h127 := ifT g126 hy65
            refine U.p rfl rfl (.inr ⟨_, _, _, rfl, rfl, ((L 0 rfl rfl).trans (congrArg Value.bool g126))⟩) (S.move rfl (L 14 rfl rfl)) ?_
            refine U.p rfl rfl (.inr ⟨_, _, _, rfl, rfl, ((L 1 rfl rfl).trans (congrArg Value.bool g126))⟩) (S.move rfl (L 8 rfl rfl)) ?_
            refine U.p rfl rfl (.inr ⟨_, _, _, rfl, rfl, ((L 2 rfl rfl).trans (congrArg Value.bool g126))⟩) (S.sub rfl (L 0 rfl rfl) K) ?_
            obtain ⟨x128, hx129, h130⟩ := bindS h127
            obtain ⟨b131, o132, n133, c134, hv135⟩ := ow63.ospt (k := 2) rfl hx129
            obtain ⟨_, hv136, _⟩ := ow63.osel (k := 2) rfl hv135 hx129
            refine U.p rfl rfl (.inr ⟨_, _, _, rfl, rfl, ((L 3 rfl rfl).trans (congrArg Value.bool g126))⟩) (S.index rfl ((L 2 rfl rfl).trans hv136) (L 0 rfl rfl) Try.underlying31 ti42 (ix_ge hx129) (ix_lt hx129)) ?_
            obtain ⟨cs137, hv138, hlt139, hr140, hc141⟩ := ow63.osel (k := 2) rfl hv135 hx129
            obtain ⟨v142, rfl, f143⟩ := hr140
            refine U.k rfl rfl (.inr ⟨_, _, _, rfl, rfl, ((L 4 rfl rfl).trans (congrArg Value.bool g126))⟩) (S.loadN (cs := [.int .i64 x128.op, .int .i64 x128.d, .int .i64 x128.a, .int .i64 x128.b, .int .i64 x128.imm, v142, .int .i64 x128.what, .bool x128.volatile, .bool x128.final]) rfl (L 0 rfl rfl) Try.underlying42 rfl ti42 rfl hc141) nd ?_
            obtain ⟨x144, hx145, h146⟩ := bindS h130
            refine O.call (V := V61) rfl rfl (.inr ⟨_, _, _, rfl, rfl, ((L 5 rfl rfl).trans (congrArg Value.bool g126))⟩) rfl en29 (aC (L 0 rfl rfl) aN) (wk_fence_plain V61 _ x128 v142 f143 ow63 _ hx145) (fun _ _ _ _ => nd) (fun v147 V148 le149 hp150 => ?_)
            obtain ⟨rfl, ow151⟩ := hp150
            refine U.p rfl rfl (.inl rfl) (S.pickT rfl ((L 6 rfl rfl).trans (congrArg Value.bool g126)) (L 0 rfl rfl)) ?_
            have e152 := Option.some.inj h146
            subst e152
            exact kk [(28, .bool x144), (27, .bool x144), (26, .agg #[.int .i64 x128.op, .int .i64 x128.d, .int .i64 x128.a, .int .i64 x128.b, .int .i64 x128.imm, v142, .int .i64 x128.what, .bool x128.volatile, .bool x128.final]), (25, .pointer (some ⟨b131, o132 + Int.toNat (w64 ((xs7.length : Int) - 1)) * 9, none⟩)), (24, .int .i64 (w64 ((xs7.length : Int) - 1))), (23, .int .i64 (xs7.length : Int)), (22, v6)] _ ⟨.bool x144, .agg #[.int .i64 x128.op, .int .i64 x128.d, .int .i64 x128.a, .int .i64 x128.b, .int .i64 x128.imm, v142, .int .i64 x128.what, .bool x128.volatile, .bool x128.final], .pointer (some ⟨b131, o132 + Int.toNat (w64 ((xs7.length : Int) - 1)) * 9, none⟩), .int .i64 (w64 ((xs7.length : Int) - 1)), .int .i64 (xs7.length : Int), v6, V148, rfl, le149, rfl, ow151⟩
          · have h153 := ifF g126 hy65
            refine U.x rfl rfl rfl rfl ((L 0 rfl rfl).trans (congrArg Value.bool g126)) (by decide) ?_
            refine U.x rfl rfl rfl rfl ((L 1 rfl rfl).trans (congrArg Value.bool g126)) (by decide) ?_
            refine U.x rfl rfl rfl rfl ((L 2 rfl rfl).trans (congrArg Value.bool g126)) (by decide) ?_
            refine U.x rfl rfl rfl rfl ((L 3 rfl rfl).trans (congrArg Value.bool g126)) (by decide) ?_
            refine U.x rfl rfl rfl rfl ((L 4 rfl rfl).trans (congrArg Value.bool g126)) (by decide) ?_
            refine U.x rfl rfl rfl rfl ((L 5 rfl rfl).trans (congrArg Value.bool g126)) (by decide) ?_
            refine U.p rfl rfl (.inl rfl) (S.pickF rfl ((L 6 rfl rfl).trans (congrArg Value.bool g126)) K) ?_
            have e154 := Option.some.inj h153
            subst e154
            exact kk [(28, .bool false), (27, .tuple #[]), (26, .tuple #[]), (25, .tuple #[]), (24, .tuple #[]), (23, .tuple #[]), (22, .tuple #[])] _ ⟨.tuple #[], .tuple #[], .tuple #[], .tuple #[], .tuple #[], .tuple #[], V61, rfl, (.refl _), rfl, ow63⟩
      · intro kk
        refine bcase (b := decide (0 < (xs7.length : Int))) (fun g155 => ?_) (fun g155 => ?_)
        · have h156 := ifT g155 hy57
          refine U.k rfl rfl (.inr ⟨_, _, _, rfl, rfl, ((L 0 rfl rfl).trans (congrArg Value.bool g155))⟩) (S.loadB rfl (L 6 rfl rfl) Try.underlying42 rfl ti42 (ow55.own (k := 0) rfl).get rfl) nd ?_
          have f157 := f47.up (le50.trans le54)
          obtain ⟨x158, hx159, h160⟩ := bindS h156
          refine O.call (V := V53) rfl rfl (.inr ⟨_, _, _, rfl, rfl, ((L 1 rfl rfl).trans (congrArg Value.bool g155))⟩) rfl en29 (aC (L 0 rfl rfl) aN) (wk_fence_plain V53 _ x32 v46 f157 ow55 _ hx159) (fun _ _ _ _ => nd) (fun v161 V162 le163 hp164 => ?_)
          obtain ⟨rfl, ow165⟩ := hp164
          refine U.p rfl rfl (.inl rfl) (S.pickT rfl ((L 2 rfl rfl).trans (congrArg Value.bool g155)) (L 0 rfl rfl)) ?_
          have e166 := Option.some.inj h160
          subst e166
          exact kk [(20, .bool x158), (19, .bool x158), (18, .agg #[.int .i64 x32.op, .int .i64 x32.d, .int .i64 x32.a, .int .i64 x32.b, .int .i64 x32.imm, v46, .int .i64 x32.what, .bool x32.volatile, .bool x32.final])] _ ⟨.bool x158, .agg #[.int .i64 x32.op, .int .i64 x32.d, .int .i64 x32.a, .int .i64 x32.b, .int .i64 x32.imm, v46, .int .i64 x32.what, .bool x32.volatile, .bool x32.final], V162, rfl, le163, rfl, ow165⟩
        · have h167 := ifF g155 hy57
          refine U.x rfl rfl rfl rfl ((L 0 rfl rfl).trans (congrArg Value.bool g155)) (by decide) ?_
          refine U.x rfl rfl rfl rfl ((L 1 rfl rfl).trans (congrArg Value.bool g155)) (by decide) ?_
          refine U.p rfl rfl (.inl rfl) (S.pickF rfl ((L 2 rfl rfl).trans (congrArg Value.bool g155)) K) ?_
          have e168 := Option.some.inj h167
          subst e168
          exact kk [(20, .bool false), (19, .tuple #[]), (18, .tuple #[])] _ ⟨.tuple #[], .tuple #[], V53, rfl, (.refl _), rfl, ow55⟩
  · have h169 := ifF c23 h22
    refine WP.exit ?_
    refine sqE (sqE (blkE (sqN ?_)))
    have h170 := exitS h169 e20
    refine WP.usreg rfl ?_
    refine U.p rfl rfl (.inl rfl) (S.move rfl (L 1 rfl rfl)) ?_
    refine U.p rfl rfl (.inl rfl) (S.assign rfl (L 0 rfl rfl)) ?_
    refine U.done (Nat.le_of_ble_eq_true rfl) ?_
    refine WP.ret ?_
    refine fin.slot (.inr rfl) rfl (L 0 rfl rfl) ⟨V15, rfl, le16, ?_⟩
    have ow171 := ow17.pick 0 rfl
    have ow172 := ow171.pick 1 rfl
    have e173 := Option.some.inj h170
    subst e173
    exact ⟨v6, rfl, ow172⟩

set_option maxHeartbeats 4000000 in
theorem wk_fence_Func (V : Vw) (Rs : List At) (p0 : TFunc) (p1 : Tfence_Options) (v1 : Value) (f2 : Fz RT_TIns V v1 p0.code) (ow : Ow V (Rs)) (r : TFunc) (h : fence_Func p0 p1 = some r) : ∃ v V', Cl Try.prog 0 13 #[.agg #[.string p0.name, .int .i64 p0.params, .int .i64 p0.regs, v1], .agg #[.bool p1.naive, .bool p1.bare, .bool p1.merged]] V.H v V'.H ∧ V.le V' ∧ (∃ (v3 : Value), v = .agg #[.string r.name, .int .i64 r.params, .int .i64 r.regs, v3] ∧ Fz RT_TIns V' v3 r.code ∧ Ow V' (Rs)) := by
  refine Ct.of (Nat.zero_le _) Try.func13 rfl (Nat.le_of_ble_eq_true rfl) ?_
  unfold fence_Func at h
  refine WP.usreg rfl ?_
  refine O.box ow rfl rfl (.inl rfl) rfl (L 0 rfl rfl) (by simp [topV]) rfl nd (fun b5 V6 le7 ow8 => ?_)
  refine O.box ow8 rfl rfl (.inl rfl) rfl (L 2 rfl rfl) (by simp [topV]) rfl nd (fun b10 V11 le12 ow13 => ?_)
  refine O.alloc ow13 rfl rfl (.inl rfl) rfl ti33 rfl rfl nd (fun b15 V16 le17 ow18 => ?_)
  refine U.done (Nat.le_of_ble_eq_true rfl) ?_
  refine WP.usreg rfl ?_
  refine U.p rfl rfl (.inl rfl) (S.assign rfl K) ?_
  refine U.done (Nat.le_of_ble_eq_true rfl) ?_
  refine WP.seq ?_
  refine WP.usreg rfl ?_
  refine U.p (v := .pointer (some ⟨b5, 3, none⟩)) rfl rfl (.inl rfl) (S.fieldAddr rfl (L 3 rfl rfl) Try.underlying33 rfl ti31 rfl rfl) ?_
  refine U.k rfl rfl (.inl rfl) (S.load rfl (L 0 rfl rfl) Try.underlying31 rfl ((ow18.own (k := 2) rfl).cell rfl)) nd ?_
  refine U.p rfl rfl (.inl rfl) (f2.1.len rfl (L 0 rfl rfl) Try.underlying31) ?_
  refine U.p rfl rfl (.inl rfl) (S.move rfl K) ?_
  refine U.done (Nat.le_of_ble_eq_true rfl) ?_
  refine WP.blk ?_
  have ow24 := ow18.nil RT_TIns
  have ow26 := ow24.pick 0 rfl
  have ow27 := ow26.pick 1 rfl
  have ow28 := ow27.pick 2 rfl
  have ow29 := ow28.pick 3 rfl
  unfold fence_Func_l1 at h
  obtain ⟨n31, hn30⟩ := loopO_some.1 h
  refine WP.loopI2 (fun n l V' => ∃ (v21 : Value) (xs22 : List TIns) (x23 : Int), l = [(2, .pointer (some ⟨b5, 0, none⟩)), (3, .pointer (some ⟨b10, 0, none⟩)), (4, .pointer (some ⟨b15, 0, none⟩)), (5, v21), (9, v1), (10, .int .i64 (p0.code.length : Int)), (11, .int .i64 x23)] ∧ V16.le V' ∧ Ow V' (.pt b5 (.cells 0 [.string p0.name, .int .i64 p0.params, .int .i64 p0.regs, v1]) :: .pt b10 (.cells 0 [.bool p1.naive, .bool p1.bare, .bool p1.merged]) :: .pt b15 (.cells 4 [.string ByteArray.empty, .int .i64 0, .int .i64 0, .slice none 0 0]) :: .os RT_TIns v21 xs22 :: Rs) ∧ itO (fun s => fence_Func_l1b p0 p1 s.1 s.2) n (xs22, x23) = some r) n31 _ ⟨(.slice none 0 0), [], 0, rfl, .refl _, ow29, hn30⟩ (allCons (L 7 rfl rfl) (allCons (L 6 rfl rfl) (allCons (L 5 rfl rfl) (allCons (L 4 rfl rfl) (allCons (L 2 rfl rfl) (allCons (L 1 rfl rfl) (allCons (L 0 rfl rfl) allNil))))))) ?_
  rintro _ _ V32 ⟨v21, xs22, x23, rfl, le33, ow34, h38⟩
  obtain ⟨m35, q36, rfl, h39, e37⟩ := itS h38
  replace h39 : fence_Func_l1b p0 p1 xs22 x23 = some q36 := h39
  unfold fence_Func_l1b at h39
  refine WP.usreg rfl ?_
  refine U.p rfl rfl (.inl rfl) (S.lss rfl (L 6 rfl rfl) (L 5 rfl rfl)) ?_
  refine U.done (Nat.le_of_ble_eq_true rfl) ?_
  refine WP.seq ?_
  refine WP.cond _ (L 0 rfl rfl) rfl (fun c40 => ?_) (fun c40 => ?_)
  · have h41 := ifT c40 h39
    refine WP.skip ?_
    refine sqN ?_
    refine WP.seqI (fun l V' => ∃ (v43 : Value) (xs44 : List TIns), l = [(2, .pointer (some ⟨b5, 0, none⟩)), (3, .pointer (some ⟨b10, 0, none⟩)), (4, .pointer (some ⟨b15, 0, none⟩)), (5, v43), (9, v1), (10, .int .i64 (p0.code.length : Int)), (11, .int .i64 x23)] ∧ V32.le V' ∧ Ow V' (.pt b5 (.cells 0 [.string p0.name, .int .i64 p0.params, .int .i64 p0.regs, v1]) :: .pt b10 (.cells 0 [.bool p1.naive, .bool p1.bare, .bool p1.merged]) :: .pt b15 (.cells 4 [.string ByteArray.empty, .int .i64 0, .int .i64 0, .slice none 0 0]) :: .os RT_TIns v43 xs44 :: Rs) ∧ fence_Func_k1 x23 xs44 = some q36) ?_ ?_
    · rintro _ V45 ⟨v43, xs44, rfl, le46, ow47, h48⟩
      unfold fence_Func_k1 at h48
      refine WP.ureg rfl ?_
      refine U.p rfl rfl (.inl rfl) (S.add rfl (L 6 rfl rfl) K) ?_
      refine U.p rfl rfl (.inl rfl) (S.move rfl (L 0 rfl rfl)) ?_
      refine U.done (Nat.le_of_ble_eq_true rfl) ?_
      refine sqN ?_
      exact ⟨_, V45, rfl, ⟨m35, Nat.lt_succ_self _, v43, xs44, w64 (x23 + 1), rfl, (le33.trans le46), ow47, backS h48 e37⟩, (allCons (L 2 rfl rfl) (allCons (L 3 rfl rfl) (allCons (L 4 rfl rfl) (allCons (L 5 rfl rfl) (allCons (L 6 rfl rfl) (allCons (L 7 rfl rfl) (allCons (L 0 rfl rfl) allNil)))))))⟩
    · skip
      refine WP.blk ?_
      refine WP.usreg rfl ?_
      obtain ⟨x49, hx50, h51⟩ := bindS h41
      obtain ⟨b52, o53, c54, cs55, hv56, hf57, hr58, hc59⟩ := f2.at hx50
      obtain ⟨v60, rfl, f61⟩ := hr58
      refine U.p rfl rfl (.inl rfl) (S.index rfl ((L 5 rfl rfl).trans hv56) (L 7 rfl rfl) Try.underlying31 ti42 (ix_ge hx50) (ix_lt hx50)) ?_
      refine U.k rfl rfl (.inl rfl) (S.loadN (cs := [.int .i64 x49.op, .int .i64 x49.d, .int .i64 x49.a, .int .i64 x49.b, .int .i64 x49.imm, v60, .int .i64 x49.what, .bool x49.volatile, .bool x49.final]) rfl (L 0 rfl rfl) Try.underlying42 rfl ti42 rfl (fun j v hj => (((le7.trans le12).trans le17).trans le33).cell hf57 (hc59 j v hj))) nd ?_
      refine O.alloc ow34 rfl rfl (.inl rfl) rfl ti42 rfl rfl nd (fun b62 V63 le64 ow65 => ?_)
      refine O.store (k := 0) (cs := [.int .i64 x49.op, .int .i64 x49.d, .int .i64 x49.a, .int .i64 x49.b, .int .i64 x49.imm, v60, .int .i64 x49.what, .bool x49.volatile, .bool x49.final]) (c' := [.int .i64 x49.op, .int .i64 x49.d, .int .i64 x49.a, .int .i64 x49.b, .int .i64 x49.imm, v60, .int .i64 x49.what, .bool x49.volatile, .bool x49.final]) ow65 rfl rfl rfl (.inl rfl) rfl (L 0 rfl rfl) (L 1 rfl rfl) ti42 (by simp [topV]) rfl rfl (Nat.le_of_ble_eq_true rfl) (by have q0 := f61.one; simp only [List.all_cons, List.all_nil, q0]; rfl) rfl nd (fun V67 le68 ow69 => ?_)
      refine U.done (Nat.le_of_ble_eq_true rfl) ?_
      refine WP.seq ?_
      refine WP.usreg rfl ?_
      refine U.p (v := .pointer (some ⟨b62, 0, none⟩)) rfl rfl (.inl rfl) (S.fieldAddr rfl (L 0 rfl rfl) Try.underlying42 rfl ti3 rfl rfl) ?_
      refine U.k rfl rfl (.inl rfl) (S.load rfl (L 0 rfl rfl) Try.underlying3 rfl ((ow69.own (k := 0) rfl).cell rfl)) nd ?_
      refine U.p rfl rfl (.inl rfl) (S.eqlI rfl (L 0 rfl rfl) K) ?_
      refine U.done (Nat.le_of_ble_eq_true rfl) ?_
      refine WP.cond _ (L 0 rfl rfl) rfl (fun c70 => ?_) (fun c70 => ?_)
      · have h71 := ifT c70 h51
        refine WP.usreg rfl ?_
        refine U.p rfl rfl (.inl rfl) (S.move rfl (L 10 rfl rfl)) ?_
        refine U.k rfl rfl (.inl rfl) (S.loadB rfl (L 4 rfl rfl) Try.underlying42 rfl ti42 (ow69.own (k := 0) rfl).get rfl) nd ?_
        refine U.k rfl rfl (.inl rfl) (S.loadB rfl (L 10 rfl rfl) Try.underlying27 rfl ti27 (ow69.own (k := 2) rfl).get rfl) nd ?_
        have f72 := f61.up (((((le7.trans le12).trans le17).trans le33).trans le64).trans le68)
        obtain ⟨x73, hx74, h75⟩ := bindS h71
        refine O.call (V := V67) rfl rfl (.inl rfl) rfl en20 (aC (L 1 rfl rfl) (aC (L 0 rfl rfl) aN)) (wk_fence_frozen V67 _ x49 p1 v60 f72 ow69 _ hx74) (fun _ _ _ _ => nd) (fun v76 V77 le78 hp79 => ?_)
        obtain ⟨_, rfl, ow80⟩ := hp79
        obtain ⟨xs83, hx84, h85⟩ := bindS h75
        refine O.append (k := 5) ow80 rfl rfl rfl (.inl rfl) rfl (L 3 rfl rfl) (L 0 rfl rfl) Try.underlying31 ti42 rfl rfl (Nat.le_of_ble_eq_true rfl) (ow80.src (k := 0) rfl Try.underlying31) hx84 (fun _ _ => nd) (fun v86 V87 le88 ow89 => ?_)
        refine U.p rfl rfl (.inl rfl) (S.assign rfl (L 0 rfl rfl)) ?_
        refine U.done (Nat.le_of_ble_eq_true rfl) ?_
        refine WP.exit ?_
        refine sqE (blkE (sqN ?_))
        have ow91 := ow89.drop 0 rfl
        have ow92 := ow91.drop 0 rfl
        exact ⟨_, V87, rfl, ⟨v86, xs83, rfl, (((le64.trans le68).trans le78).trans le88), ow92, h85⟩, (allCons (L 13 rfl rfl) (allCons (L 14 rfl rfl) (allCons (L 15 rfl rfl) (allCons (L 0 rfl rfl) (allCons (L 17 rfl rfl) (allCons (L 18 rfl rfl) (allCons (L 19 rfl rfl) allNil)))))))⟩
      · have h93 := ifF c70 h51
        refine WP.skip ?_
        refine sqN ?_
        refine WP.usreg rfl ?_
        refine U.p rfl rfl (.inl rfl) (S.move rfl (L 10 rfl rfl)) ?_
        refine U.k rfl rfl (.inl rfl) (S.loadB rfl (L 4 rfl rfl) Try.underlying42 rfl ti42 (ow69.own (k := 0) rfl).get rfl) nd ?_
        refine U.k rfl rfl (.inl rfl) (S.loadB rfl (L 10 rfl rfl) Try.underlying27 rfl ti27 (ow69.own (k := 2) rfl).get rfl) nd ?_
        have f94 := f61.up (((((le7.trans le12).trans le17).trans le33).trans le64).trans le68)
        obtain ⟨x95, hx96, h97⟩ := bindS h93
        refine O.call (V := V67) rfl rfl (.inl rfl) rfl en21 (aC (L 1 rfl rfl) (aC (L 0 rfl rfl) aN)) (wk_fence_ahead V67 _ x49 p1 v60 f94 ow69 _ hx96) (fun _ _ _ _ => nd) (fun v98 V99 le100 hp101 => ?_)
        obtain ⟨_, rfl, ow102⟩ := hp101
        obtain ⟨xs105, hx106, h107⟩ := bindS h97
        refine O.append (k := 5) ow102 rfl rfl rfl (.inl rfl) rfl (L 3 rfl rfl) (L 0 rfl rfl) Try.underlying31 ti42 rfl rfl (Nat.le_of_ble_eq_true rfl) (ow102.src (k := 0) rfl Try.underlying31) hx106 (fun _ _ => nd) (fun v108 V109 le110 ow111 => ?_)
        refine U.p rfl rfl (.inl rfl) (S.assign rfl (L 0 rfl rfl)) ?_
        refine U.done (Nat.le_of_ble_eq_true rfl) ?_
        refine WP.usreg rfl ?_
        refine U.p rfl rfl (.inl rfl) (S.move rfl (L 0 rfl rfl)) ?_
        refine U.k rfl rfl (.inl rfl) (S.loadB rfl (L 10 rfl rfl) Try.underlying42 rfl ti42 (ow111.own (k := 1) rfl).get rfl) nd ?_
        have f113 := f94.up (le100.trans le110)
        refine O.lit (R := RT_TIns) ow111 rfl rfl (.inl rfl) rfl Try.underlying31 ti42 rfl rfl rfl (Nat.le_of_ble_eq_true rfl) rfl (aC (L 0 rfl rfl) aN) (.cons _ _ x49 _ (by simp [topV]) ⟨_, rfl, f113⟩ .nil) (fun _ => nd) (fun v114 V115 le116 ow117 => ?_)
        obtain ⟨xs119, hx120, h121⟩ := bindS h107
        refine O.append (k := 6) ow117 rfl rfl rfl (.inl rfl) rfl (L 2 rfl rfl) (L 0 rfl rfl) Try.underlying31 ti42 rfl rfl (Nat.le_of_ble_eq_true rfl) (ow117.src (k := 0) rfl Try.underlying31) hx120 (fun _ _ => nd) (fun v122 V123 le124 ow125 => ?_)
        refine U.p rfl rfl (.inl rfl) (S.assign rfl (L 0 rfl rfl)) ?_
        refine U.done (Nat.le_of_ble_eq_true rfl) ?_
        refine WP.ureg rfl ?_
        refine U.p rfl rfl (.inl rfl) (S.move rfl (L 0 rfl rfl)) ?_
        refine U.k rfl rfl (.inl rfl) (S.loadB rfl (L 15 rfl rfl) Try.underlying42 rfl ti42 (ow125.own (k := 2) rfl).get rfl) nd ?_
        refine U.k rfl rfl (.inl rfl) (S.loadB rfl (L 21 rfl rfl) Try.underlying27 rfl ti27 (ow125.own (k := 4) rfl).get rfl) nd ?_
        have f127 := f113.up (le116.trans le124)
        obtain ⟨x128, hx129, h130⟩ := bindS h121
        refine O.call (V := V123) rfl rfl (.inl rfl) rfl en22 (aC (L 1 rfl rfl) (aC (L 0 rfl rfl) aN)) (wk_fence_behind V123 _ x49 p1 v60 f127 ow125 _ hx129) (fun _ _ _ _ => nd) (fun v131 V132 le133 hp134 => ?_)
        obtain ⟨_, rfl, ow135⟩ := hp134
        obtain ⟨xs138, hx139, h140⟩ := bindS h130
        refine O.append (k := 7) ow135 rfl rfl rfl (.inl rfl) rfl (L 3 rfl rfl) (L 0 rfl rfl) Try.underlying31 ti42 rfl rfl (Nat.le_of_ble_eq_true rfl) (ow135.src (k := 0) rfl Try.underlying31) hx139 (fun _ _ => nd) (fun v141 V142 le143 ow144 => ?_)
        refine U.p rfl rfl (.inl rfl) (S.assign rfl (L 0 rfl rfl)) ?_
        refine U.done (Nat.le_of_ble_eq_true rfl) ?_
        refine blkN (sqN ?_)
        have ow146 := ow144.drop 0 rfl
        have ow147 := ow146.drop 0 rfl
        have ow148 := ow147.drop 0 rfl
        have ow149 := ow148.drop 0 rfl
        exact ⟨_, V142, rfl, ⟨v141, xs138, rfl, (((((((le64.trans le68).trans le100).trans le110).trans le116).trans le124).trans le133).trans le143), ow149, h140⟩, (allCons (L 24 rfl rfl) (allCons (L 25 rfl rfl) (allCons (L 26 rfl rfl) (allCons (L 0 rfl rfl) (allCons (L 28 rfl rfl) (allCons (L 29 rfl rfl) (allCons (L 30 rfl rfl) allNil)))))))⟩
  · have h150 := ifF c40 h39
    refine WP.exit ?_
    refine sqE (sqE (blkE (sqN ?_)))
    have h151 := exitS h150 e37
    refine WP.seqI (fun l V' => ∃ (v153 : Value) (xs154 : List TIns), l = [(2, .pointer (some ⟨b5, 0, none⟩)), (4, .pointer (some ⟨b15, 0, none⟩)), (5, v153)] ∧ V32.le V' ∧ Ow V' (.pt b5 (.cells 0 [.string p0.name, .int .i64 p0.params, .int .i64 p0.regs, v1]) :: .pt b15 (.cells 4 [.string ByteArray.empty, .int .i64 0, .int .i64 0, .slice none 0 0]) :: .os RT_TIns v153 xs154 :: Rs) ∧ fence_Func_k2 p0 xs154 = some r) ?_ ?_
    · rintro _ V155 ⟨v153, xs154, rfl, le156, ow157, h158⟩
      unfold fence_Func_k2 at h158
      refine WP.usreg rfl ?_
      refine U.p rfl rfl (.inl rfl) (S.move rfl (L 2 rfl rfl)) ?_
      refine U.p (v := .pointer (some ⟨b5, 3, none⟩)) rfl rfl (.inl rfl) (S.fieldAddr rfl (L 1 rfl rfl) Try.underlying33 rfl ti31 rfl rfl) ?_
      refine O.store (k := 0) (cs := [v153]) (c' := [.string p0.name, .int .i64 p0.params, .int .i64 p0.regs, v153]) ow157 rfl rfl rfl (.inl rfl) rfl (L 0 rfl rfl) (L 1 rfl rfl) ti31 (ow157.osne (k := 2) rfl) (by rw [ow157.oscells (k := 2) rfl]) rfl (Nat.le_of_ble_eq_true rfl) (by have q0 := (ow157.osone (k := 2) rfl); simp only [List.all_cons, List.all_nil, q0]; rfl) rfl nd (fun V159 le160 ow161 => ?_)
      refine U.done (Nat.le_of_ble_eq_true rfl) ?_
      refine WP.usreg rfl ?_
      refine U.k rfl rfl (.inl rfl) (S.loadB rfl (L 2 rfl rfl) Try.underlying33 rfl ti33 (ow161.own (k := 0) rfl).get rfl) nd ?_
      refine O.store (k := 1) (cs := [.string p0.name, .int .i64 p0.params, .int .i64 p0.regs, v153]) (c' := [.string p0.name, .int .i64 p0.params, .int .i64 p0.regs, v153]) ow161 rfl rfl rfl (.inl rfl) rfl (L 4 rfl rfl) (L 0 rfl rfl) ti33 (by simp [topV]) rfl rfl (Nat.le_of_ble_eq_true rfl) (by have q0 := (ow161.osone (k := 2) rfl); simp only [List.all_cons, List.all_nil, q0]; rfl) rfl nd (fun V162 le163 ow164 => ?_)
      refine U.done (Nat.le_of_ble_eq_true rfl) ?_
      refine WP.ret ?_
      obtain ⟨V165, eV169, le166, f167, ow168⟩ := ow164.osfz (k := 2) rfl
      rw [← eV169]
      refine fin.cellN (.inr rfl) rfl (L 4 rfl rfl) Try.underlying33 rfl ti33 (ow168.own (k := 1) rfl).get rfl ⟨V165, rfl, (((((((le7.trans le12).trans le17).trans le33).trans le156).trans le160).trans le163).trans le166), ?_⟩
      have ow170 := ow168.drop 0 rfl
      have ow171 := ow170.drop 0 rfl
      have e172 := Option.some.inj h158
      subst e172
      exact ⟨v153, rfl, f167, ow171⟩
    · skip
      refine WP.usreg rfl ?_
      refine U.p (v := .pointer (some ⟨b10, 2, none⟩)) rfl rfl (.inl rfl) (S.fieldAddr rfl (L 2 rfl rfl) Try.underlying27 rfl ti4 rfl rfl) ?_
      refine U.k rfl rfl (.inl rfl) (S.load rfl (L 0 rfl rfl) Try.underlying4 rfl ((ow34.own (k := 1) rfl).cell rfl)) nd ?_
      refine U.done (Nat.le_of_ble_eq_true rfl) ?_
      refine WP.cond _ (L 0 rfl rfl) rfl (fun c173 => ?_) (fun c173 => ?_)
      · have h174 := ifT c173 h151
        refine WP.ureg rfl ?_
        refine U.p rfl rfl (.inl rfl) (S.move rfl (L 6 rfl rfl)) ?_
        have ow175 := ow34.pick 3 rfl
        obtain ⟨x176, hx177, h178⟩ := bindS h174
        refine O.call (V := V32) rfl rfl (.inl rfl) rfl en23 (aC (L 0 rfl rfl) aN) (wk_fence_merged V32 _ xs22 v21 ow175 _ hx177) (fun _ _ _ _ => nd) (fun v179 V180 le181 hp182 => ?_)
        obtain ⟨_, rfl, ow183⟩ := hp182
        refine U.p rfl rfl (.inl rfl) (S.assign rfl (L 0 rfl rfl)) ?_
        refine U.done (Nat.le_of_ble_eq_true rfl) ?_
        refine sqN ?_
        have ow186 := ow183.drop 1 rfl
        have ow187 := ow186.drop 2 rfl
        have ow188 := ow187.pick 0 rfl
        have ow189 := ow188.pick 2 rfl
        have ow190 := ow189.pick 2 rfl
        exact ⟨_, V180, rfl, ⟨v179, x176, rfl, le181, ow190, h178⟩, (allCons (L 6 rfl rfl) (allCons (L 8 rfl rfl) (allCons (L 0 rfl rfl) allNil)))⟩
      · have h191 := ifF c173 h151
        refine WP.skip ?_
        refine sqN ?_
        have ow192 := ow34.drop 1 rfl
        exact ⟨_, V32, rfl, ⟨v21, xs22, rfl, (.refl _), ow192, h191⟩, (allCons (L 3 rfl rfl) (allCons (L 5 rfl rfl) (allCons (L 6 rfl rfl) allNil)))⟩

set_option maxHeartbeats 4000000 in
theorem wk_law12_alive (V : Vw) (Rs : List At) (ow : Ow V (Rs)) (r : Bool) (h : law12_alive = some r) : ∃ v V', Cl Try.prog 0 6 #[] V.H v V'.H ∧ V.le V' ∧ (v = .bool r ∧ Ow V' (Rs)) := by
  refine Ct.of (Nat.zero_le _) Try.func6 rfl (Nat.le_of_ble_eq_true rfl) ?_
  unfold law12_alive at h
  refine WP.usreg rfl ?_
  refine U.p rfl rfl (.inl rfl) (S.assign rfl K) ?_
  refine U.done (Nat.le_of_ble_eq_true rfl) ?_
  refine WP.usreg rfl ?_
  refine U.p (v := .agg #[.int .i64 9, .int .i64 0, .int .i64 (-1), .int .i64 (-1), .int .i64 0, .slice none 0 0, .int .i64 0, .bool true, .bool false]) rfl rfl (.inl rfl) (S.build (vs := [.int .i64 9, .int .i64 (-1), .int .i64 (-1), .bool true]) rfl ti42 rfl pl42 (aC K (aC K (aC K (aC K aN)))) (allC (by simp [topV]) (allC (by simp [topV]) (allC (by simp [topV]) (allC (by simp [topV]) allN)))) rfl) ?_
  refine O.lit (R := RT_TIns) ow rfl rfl (.inl rfl) rfl Try.underlying31 ti42 rfl rfl rfl (Nat.le_of_ble_eq_true rfl) rfl (aC (L 0 rfl rfl) aN) (.cons _ _ (⟨9, 0, (-1), (-1), 0, [], 0, true, false⟩ : TIns) _ (by simp [topV]) ⟨_, rfl, Fz.nil⟩ .nil) (fun _ => nd) (fun v1 V2 le3 ow4 => ?_)
  refine U.p (v := .agg #[.string ByteArray.empty, .int .i64 0, .int .i64 1, v1]) rfl rfl (.inl rfl) (S.build (vs := [.int .i64 1, v1]) rfl ti33 rfl pl33 (aC K (aC (L 0 rfl rfl) aN)) (allC (by simp [topV]) (allC (ow4.osne (k := 0) rfl) allN)) (fill1 rfl rfl (Nat.le_of_ble_eq_true rfl) (fill1 rfl (ow4.oscells (k := 0) rfl) (Nat.le_of_ble_eq_true rfl) rfl))) ?_
  refine U.p (v := .agg #[.bool false, .bool false, .bool false]) rfl rfl (.inl rfl) (S.build (vs := []) rfl ti27 rfl pl27 aN allN rfl) ?_
  obtain ⟨V6, eV10, le7, f8, ow9⟩ := ow4.osfz (k := 0) rfl
  rw [← eV10]
  obtain ⟨x11, hx12, h13⟩ := bindS h
  refine O.call (V := V6) rfl rfl (.inl rfl) rfl en13 (aC (L 1 rfl rfl) (aC (L 0 rfl rfl) aN)) (wk_fence_Func V6 _ (⟨ByteArray.empty, 0, 1, [(⟨9, 0, (-1), (-1), 0, [], 0, true, false⟩ : TIns)]⟩ : TFunc) (⟨false, false, false⟩ : Tfence_Options) v1 f8 ow9 _ hx12) (fun _ _ _ _ => nd) (fun v14 V15 le16 hp17 => ?_)
  obtain ⟨v19, rfl, f20, ow18⟩ := hp17
  refine O.alloc ow18 rfl rfl (.inl rfl) rfl ti33 rfl rfl nd (fun b21 V22 le23 ow24 => ?_)
  refine O.store (k := 0) (cs := [.string x11.name, .int .i64 x11.params, .int .i64 x11.regs, v19]) (c' := [.string x11.name, .int .i64 x11.params, .int .i64 x11.regs, v19]) ow24 rfl rfl rfl (.inl rfl) rfl (L 0 rfl rfl) (L 1 rfl rfl) ti33 (by simp [topV]) rfl rfl (Nat.le_of_ble_eq_true rfl) (by have q0 := f20.one; simp only [List.all_cons, List.all_nil, q0]; rfl) rfl nd (fun V26 le27 ow28 => ?_)
  refine U.done (Nat.le_of_ble_eq_true rfl) ?_
  refine WP.usreg rfl ?_
  refine U.p (v := .pointer (some ⟨b21, 3, none⟩)) rfl rfl (.inl rfl) (S.fieldAddr rfl (L 0 rfl rfl) Try.underlying33 rfl ti31 rfl rfl) ?_
  refine U.k rfl rfl (.inl rfl) (S.load rfl (L 0 rfl rfl) Try.underlying31 rfl ((ow28.own (k := 0) rfl).cell rfl)) nd ?_
  refine U.p rfl rfl (.inl rfl) (f20.1.len rfl (L 0 rfl rfl) Try.underlying31) ?_
  refine U.p rfl rfl (.inl rfl) (S.eqlI rfl (L 0 rfl rfl) K) ?_
  refine U.p rfl rfl (.inl rfl) (S.move rfl (L 0 rfl rfl)) ?_
  obtain ⟨y29, hy30, h31⟩ := bindS h13
  refine U.joinX 12 (fun e H => ∃ (u32 u33 u34 u35 u36 u37 : Value), H = V26.H ∧ e = [(18, .bool y29), (17, u32), (16, u33), (15, u34), (14, u35), (13, u36), (12, u37)]) ?_ ?_
  · rintro _ _ ⟨u32, u33, u34, u35, u36, u37, rfl, rfl⟩
    refine U.p rfl rfl (.inl rfl) (S.move rfl (L 0 rfl rfl)) ?_
    obtain ⟨y41, hy42, h43⟩ := bindS h31
    refine U.joinX 20 (fun e H => ∃ (u44 u45 u46 u47 u48 u49 : Value), H = V26.H ∧ e = [(26, .bool y41), (25, u44), (24, u45), (23, u46), (22, u47), (21, u48), (20, u49)]) ?_ ?_
    · rintro _ _ ⟨u44, u45, u46, u47, u48, u49, rfl, rfl⟩
      refine U.p rfl rfl (.inl rfl) (S.assign rfl (L 0 rfl rfl)) ?_
      refine U.done (Nat.le_of_ble_eq_true rfl) ?_
      refine WP.ret ?_
      refine fin.slot (.inr rfl) rfl (L 0 rfl rfl) ⟨V26, rfl, ((((le3.trans le7).trans le16).trans le23).trans le27), ?_⟩
      have ow53 := ow28.drop 0 rfl
      have e54 := Option.some.inj h43
      subst e54
      exact ⟨rfl, ow53⟩
    · intro kk
      refine bcase (b := y29) (fun g55 => ?_) (fun g55 => ?_)
      · have h56 := ifT g55 hy42
        refine U.p (v := .pointer (some ⟨b21, 3, none⟩)) rfl rfl (.inr ⟨_, _, _, rfl, rfl, ((L 0 rfl rfl).trans (congrArg Value.bool g55))⟩) (S.fieldAddr rfl (L 13 rfl rfl) Try.underlying33 rfl ti31 rfl rfl) ?_
        refine U.k rfl rfl (.inr ⟨_, _, _, rfl, rfl, ((L 1 rfl rfl).trans (congrArg Value.bool g55))⟩) (S.load rfl (L 0 rfl rfl) Try.underlying31 rfl ((ow28.own (k := 0) rfl).cell rfl)) nd ?_
        obtain ⟨x57, hx58, h59⟩ := bindS h56
        obtain ⟨b60, o61, c62, cs63, hv64, hf65, hr66, hc67⟩ := f20.at hx58
        obtain ⟨v68, rfl, f69⟩ := hr66
        refine U.p rfl rfl (.inr ⟨_, _, _, rfl, rfl, ((L 2 rfl rfl).trans (congrArg Value.bool g55))⟩) (S.index rfl ((L 0 rfl rfl).trans hv64) K Try.underlying31 ti42 (ix_ge hx58) (ix_lt hx58)) ?_
        refine U.p (v := .pointer (some ⟨b60, o61 + Int.toNat 2 * 9 + 4, none⟩)) rfl rfl (.inr ⟨_, _, _, rfl, rfl, ((L 3 rfl rfl).trans (congrArg Value.bool g55))⟩) (S.fieldAddr rfl (L 0 rfl rfl) Try.underlying42 rfl ti3 rfl rfl) ?_
        refine U.k rfl rfl (.inr ⟨_, _, _, rfl, rfl, ((L 4 rfl rfl).trans (congrArg Value.bool g55))⟩) (S.load rfl (L 0 rfl rfl) Try.underlying3 rfl ((le23.trans le27).cell hf65 (hc67 4 _ rfl))) nd ?_
        refine U.p rfl rfl (.inr ⟨_, _, _, rfl, rfl, ((L 5 rfl rfl).trans (congrArg Value.bool g55))⟩) (S.eqlI rfl (L 0 rfl rfl) K) ?_
        refine U.p rfl rfl (.inl rfl) (S.pickT rfl ((L 6 rfl rfl).trans (congrArg Value.bool g55)) (L 0 rfl rfl)) ?_
        have e70 := Option.some.inj h59
        subst e70
        exact kk [(26, .bool (decide (x57.imm = 3))), (25, .bool (decide (x57.imm = 3))), (24, .int .i64 x57.imm), (23, .pointer (some ⟨b60, o61 + Int.toNat 2 * 9 + 4, none⟩)), (22, .pointer (some ⟨b60, o61 + Int.toNat 2 * 9, none⟩)), (21, v19), (20, .pointer (some ⟨b21, 3, none⟩))] _ ⟨.bool (decide (x57.imm = 3)), .int .i64 x57.imm, .pointer (some ⟨b60, o61 + Int.toNat 2 * 9 + 4, none⟩), .pointer (some ⟨b60, o61 + Int.toNat 2 * 9, none⟩), v19, .pointer (some ⟨b21, 3, none⟩), rfl, rfl⟩
      · have h71 := ifF g55 hy42
        refine U.x rfl rfl rfl rfl ((L 0 rfl rfl).trans (congrArg Value.bool g55)) (by decide) ?_
        refine U.x rfl rfl rfl rfl ((L 1 rfl rfl).trans (congrArg Value.bool g55)) (by decide) ?_
        refine U.x rfl rfl rfl rfl ((L 2 rfl rfl).trans (congrArg Value.bool g55)) (by decide) ?_
        refine U.x rfl rfl rfl rfl ((L 3 rfl rfl).trans (congrArg Value.bool g55)) (by decide) ?_
        refine U.x rfl rfl rfl rfl ((L 4 rfl rfl).trans (congrArg Value.bool g55)) (by decide) ?_
        refine U.x rfl rfl rfl rfl ((L 5 rfl rfl).trans (congrArg Value.bool g55)) (by decide) ?_
        refine U.p rfl rfl (.inl rfl) (S.pickF rfl ((L 6 rfl rfl).trans (congrArg Value.bool g55)) K) ?_
        have e72 := Option.some.inj h71
        subst e72
        exact kk [(26, .bool false), (25, .tuple #[]), (24, .tuple #[]), (23, .tuple #[]), (22, .tuple #[]), (21, .tuple #[]), (20, .tuple #[])] _ ⟨.tuple #[], .tuple #[], .tuple #[], .tuple #[], .tuple #[], .tuple #[], rfl, rfl⟩
  · intro kk
    refine bcase (b := decide ((x11.code.length : Int) = 3)) (fun g73 => ?_) (fun g73 => ?_)
    · have h74 := ifT g73 hy30
      refine U.p (v := .pointer (some ⟨b21, 3, none⟩)) rfl rfl (.inr ⟨_, _, _, rfl, rfl, ((L 0 rfl rfl).trans (congrArg Value.bool g73))⟩) (S.fieldAddr rfl (L 5 rfl rfl) Try.underlying33 rfl ti31 rfl rfl) ?_
      refine U.k rfl rfl (.inr ⟨_, _, _, rfl, rfl, ((L 1 rfl rfl).trans (congrArg Value.bool g73))⟩) (S.load rfl (L 0 rfl rfl) Try.underlying31 rfl ((ow28.own (k := 0) rfl).cell rfl)) nd ?_
      obtain ⟨x75, hx76, h77⟩ := bindS h74
      obtain ⟨b78, o79, c80, cs81, hv82, hf83, hr84, hc85⟩ := f20.at hx76
      obtain ⟨v86, rfl, f87⟩ := hr84
      refine U.p rfl rfl (.inr ⟨_, _, _, rfl, rfl, ((L 2 rfl rfl).trans (congrArg Value.bool g73))⟩) (S.index rfl ((L 0 rfl rfl).trans hv82) K Try.underlying31 ti42 (ix_ge hx76) (ix_lt hx76)) ?_
      refine U.p (v := .pointer (some ⟨b78, o79 + Int.toNat 0 * 9 + 4, none⟩)) rfl rfl (.inr ⟨_, _, _, rfl, rfl, ((L 3 rfl rfl).trans (congrArg Value.bool g73))⟩) (S.fieldAddr rfl (L 0 rfl rfl) Try.underlying42 rfl ti3 rfl rfl) ?_
      refine U.k rfl rfl (.inr ⟨_, _, _, rfl, rfl, ((L 4 rfl rfl).trans (congrArg Value.bool g73))⟩) (S.load rfl (L 0 rfl rfl) Try.underlying3 rfl ((le23.trans le27).cell hf83 (hc85 4 _ rfl))) nd ?_
      refine U.p rfl rfl (.inr ⟨_, _, _, rfl, rfl, ((L 5 rfl rfl).trans (congrArg Value.bool g73))⟩) (S.eqlI rfl (L 0 rfl rfl) K) ?_
      refine U.p rfl rfl (.inl rfl) (S.pickT rfl ((L 6 rfl rfl).trans (congrArg Value.bool g73)) (L 0 rfl rfl)) ?_
      have e88 := Option.some.inj h77
      subst e88
      exact kk [(18, .bool (decide (x75.imm = 1))), (17, .bool (decide (x75.imm = 1))), (16, .int .i64 x75.imm), (15, .pointer (some ⟨b78, o79 + Int.toNat 0 * 9 + 4, none⟩)), (14, .pointer (some ⟨b78, o79 + Int.toNat 0 * 9, none⟩)), (13, v19), (12, .pointer (some ⟨b21, 3, none⟩))] _ ⟨.bool (decide (x75.imm = 1)), .int .i64 x75.imm, .pointer (some ⟨b78, o79 + Int.toNat 0 * 9 + 4, none⟩), .pointer (some ⟨b78, o79 + Int.toNat 0 * 9, none⟩), v19, .pointer (some ⟨b21, 3, none⟩), rfl, rfl⟩
    · have h89 := ifF g73 hy30
      refine U.x rfl rfl rfl rfl ((L 0 rfl rfl).trans (congrArg Value.bool g73)) (by decide) ?_
      refine U.x rfl rfl rfl rfl ((L 1 rfl rfl).trans (congrArg Value.bool g73)) (by decide) ?_
      refine U.x rfl rfl rfl rfl ((L 2 rfl rfl).trans (congrArg Value.bool g73)) (by decide) ?_
      refine U.x rfl rfl rfl rfl ((L 3 rfl rfl).trans (congrArg Value.bool g73)) (by decide) ?_
      refine U.x rfl rfl rfl rfl ((L 4 rfl rfl).trans (congrArg Value.bool g73)) (by decide) ?_
      refine U.x rfl rfl rfl rfl ((L 5 rfl rfl).trans (congrArg Value.bool g73)) (by decide) ?_
      refine U.p rfl rfl (.inl rfl) (S.pickF rfl ((L 6 rfl rfl).trans (congrArg Value.bool g73)) K) ?_
      have e90 := Option.some.inj h89
      subst e90
      exact kk [(18, .bool false), (17, .tuple #[]), (16, .tuple #[]), (15, .tuple #[]), (14, .tuple #[]), (13, .tuple #[]), (12, .tuple #[])] _ ⟨.tuple #[], .tuple #[], .tuple #[], .tuple #[], .tuple #[], .tuple #[], rfl, rfl⟩

set_option maxHeartbeats 4000000 in
theorem wk_law12_great (V : Vw) (Rs : List At) (p0 : TModule) (v1 : Value) (v3 : Value) (f2 : Fz RT_TFunc V v1 p0.funcs) (f4 : Fz (RT.int .i64) V v3 p0.threads) (ow : Ow V (Rs)) (r : Bool) (h : law12_great p0 = some r) : ∃ v V', Cl Try.prog 0 7 #[.agg #[v1, v3]] V.H v V'.H ∧ V.le V' ∧ (v = .bool r ∧ Ow V' (Rs)) := by
  refine Ct.of (Nat.zero_le _) Try.func7 rfl (Nat.le_of_ble_eq_true rfl) ?_
  unfold law12_great at h
  refine WP.usreg rfl ?_
  refine O.box ow rfl rfl (.inl rfl) rfl (L 0 rfl rfl) (by simp [topV]) rfl nd (fun b5 V6 le7 ow8 => ?_)
  refine U.p rfl rfl (.inl rfl) (S.assign rfl K) ?_
  refine U.done (Nat.le_of_ble_eq_true rfl) ?_
  refine WP.seq ?_
  refine WP.usreg rfl ?_
  refine U.p (v := .pointer (some ⟨b5, 0, none⟩)) rfl rfl (.inl rfl) (S.fieldAddr rfl (L 1 rfl rfl) Try.underlying25 rfl ti22 rfl rfl) ?_
  refine U.k rfl rfl (.inl rfl) (S.load rfl (L 0 rfl rfl) Try.underlying22 rfl ((ow8.own (k := 0) rfl).cell rfl)) nd ?_
  refine U.p rfl rfl (.inl rfl) (f2.1.len rfl (L 0 rfl rfl) Try.underlying22) ?_
  refine U.p rfl rfl (.inl rfl) (S.move rfl K) ?_
  refine U.done (Nat.le_of_ble_eq_true rfl) ?_
  refine WP.blk ?_
  unfold law12_great_l1 at h
  obtain ⟨n12, hn11⟩ := loopO_some.1 h
  refine WP.loopI2 (fun n l V' => ∃ (x10 : Int), l = [(1, .pointer (some ⟨b5, 0, none⟩)), (6, v1), (7, .int .i64 (p0.funcs.length : Int)), (8, .int .i64 x10)] ∧ V6.le V' ∧ Ow V' (.pt b5 (.cells 0 [v1, v3]) :: Rs) ∧ itO (fun s => law12_great_l1b p0 s) n x10 = some r) n12 _ ⟨0, rfl, .refl _, ow8, hn11⟩ (allCons (L 5 rfl rfl) (allCons (L 2 rfl rfl) (allCons (L 1 rfl rfl) (allCons (L 0 rfl rfl) allNil)))) ?_
  rintro _ _ V13 ⟨x10, rfl, le14, ow15, h19⟩
  obtain ⟨m16, q17, rfl, h20, e18⟩ := itS h19
  replace h20 : law12_great_l1b p0 x10 = some q17 := h20
  unfold law12_great_l1b at h20
  refine WP.usreg rfl ?_
  refine U.p rfl rfl (.inl rfl) (S.lss rfl (L 3 rfl rfl) (L 2 rfl rfl)) ?_
  refine U.done (Nat.le_of_ble_eq_true rfl) ?_
  refine WP.seq ?_
  refine WP.cond _ (L 0 rfl rfl) rfl (fun c21 => ?_) (fun c21 => ?_)
  · have h22 := ifT c21 h20
    refine WP.skip ?_
    refine sqN ?_
    refine WP.seq ?_
    refine WP.blk ?_
    refine WP.usreg rfl ?_
    obtain ⟨x23, hx24, h25⟩ := bindS h22
    obtain ⟨b26, o27, c28, cs29, hv30, hf31, hr32, hc33⟩ := f2.at hx24
    obtain ⟨v34, rfl, f35⟩ := hr32
    refine U.p rfl rfl (.inl rfl) (S.index rfl ((L 2 rfl rfl).trans hv30) (L 4 rfl rfl) Try.underlying22 ti33 (ix_ge hx24) (ix_lt hx24)) ?_
    refine U.k rfl rfl (.inl rfl) (S.loadN (cs := [.string x23.name, .int .i64 x23.params, .int .i64 x23.regs, v34]) rfl (L 0 rfl rfl) Try.underlying33 rfl ti33 rfl (fun j v hj => (le7.trans le14).cell hf31 (hc33 j v hj))) nd ?_
    refine O.alloc ow15 rfl rfl (.inl rfl) rfl ti33 rfl rfl nd (fun b36 V37 le38 ow39 => ?_)
    refine O.store (k := 0) (cs := [.string x23.name, .int .i64 x23.params, .int .i64 x23.regs, v34]) (c' := [.string x23.name, .int .i64 x23.params, .int .i64 x23.regs, v34]) ow39 rfl rfl rfl (.inl rfl) rfl (L 0 rfl rfl) (L 1 rfl rfl) ti33 (by simp [topV]) rfl rfl (Nat.le_of_ble_eq_true rfl) (by have q0 := f35.one; simp only [List.all_cons, List.all_nil, q0]; rfl) rfl nd (fun V41 le42 ow43 => ?_)
    refine U.done (Nat.le_of_ble_eq_true rfl) ?_
    refine WP.usreg rfl ?_
    refine U.p (v := .pointer (some ⟨b36, 3, none⟩)) rfl rfl (.inl rfl) (S.fieldAddr rfl (L 0 rfl rfl) Try.underlying33 rfl ti31 rfl rfl) ?_
    refine U.k rfl rfl (.inl rfl) (S.load rfl (L 0 rfl rfl) Try.underlying31 rfl ((ow43.own (k := 0) rfl).cell rfl)) nd ?_
    refine U.p rfl rfl (.inl rfl) (f35.1.len rfl (L 0 rfl rfl) Try.underlying31) ?_
    refine U.p rfl rfl (.inl rfl) (S.gtr rfl (L 0 rfl rfl) K) ?_
    refine U.done (Nat.le_of_ble_eq_true rfl) ?_
    refine WP.cond _ (L 0 rfl rfl) rfl (fun c44 => ?_) (fun c44 => ?_)
    · have h45 := ifT c44 h25
      refine WP.usreg rfl ?_
      refine U.p rfl rfl (.inl rfl) (S.assign rfl K) ?_
      refine U.done (Nat.le_of_ble_eq_true rfl) ?_
      refine WP.ret ?_
      refine blkR (sqR (sqR (blkR (sqR ?_))))
      have h46 := exitS h45 e18
      refine fin.slot (.inr rfl) rfl (L 0 rfl rfl) ⟨V41, rfl, (((le7.trans le14).trans le38).trans le42), ?_⟩
      have ow47 := ow43.drop 0 rfl
      have ow48 := ow47.drop 0 rfl
      have e49 := Option.some.inj h46
      subst e49
      exact ⟨rfl, ow48⟩
    · have h50 := ifF c44 h25
      refine WP.skip ?_
      refine blkN (sqN ?_)
      refine WP.ureg rfl ?_
      refine U.p rfl rfl (.inl rfl) (S.add rfl (L 11 rfl rfl) K) ?_
      refine U.p rfl rfl (.inl rfl) (S.move rfl (L 0 rfl rfl)) ?_
      refine U.done (Nat.le_of_ble_eq_true rfl) ?_
      refine sqN ?_
      have ow51 := ow43.drop 0 rfl
      exact ⟨_, V41, rfl, ⟨m16, Nat.lt_succ_self _, w64 (x10 + 1), rfl, ((le14.trans le38).trans le42), ow51, backS h50 e18⟩, (allCons (L 10 rfl rfl) (allCons (L 11 rfl rfl) (allCons (L 12 rfl rfl) (allCons (L 0 rfl rfl) allNil))))⟩
  · have h52 := ifF c21 h20
    refine WP.exit ?_
    refine sqE (sqE (blkE (sqN ?_)))
    have h53 := exitS h52 e18
    refine WP.usreg rfl ?_
    refine U.p (v := .pointer (some ⟨b5, 0, none⟩)) rfl rfl (.inl rfl) (S.fieldAddr rfl (L 1 rfl rfl) Try.underlying25 rfl ti22 rfl rfl) ?_
    refine U.k rfl rfl (.inl rfl) (S.load rfl (L 0 rfl rfl) Try.underlying22 rfl ((ow15.own (k := 0) rfl).cell rfl)) nd ?_
    refine U.p rfl rfl (.inl rfl) (f2.1.len rfl (L 0 rfl rfl) Try.underlying22) ?_
    refine U.p rfl rfl (.inl rfl) (S.gtr rfl (L 0 rfl rfl) K) ?_
    refine U.p rfl rfl (.inl rfl) (S.move rfl (L 0 rfl rfl)) ?_
    refine U.joinX 10 (fun e H => ∃ (u54 u55 u56 u57 : Value), H = V13.H ∧ e = [(26, .bool ((decide (6 < (p0.funcs.length : Int))) || (decide (10 < (p0.threads.length : Int))))), (25, u54), (24, u55), (23, u56), (22, u57)]) ?_ ?_
    · rintro _ _ ⟨u54, u55, u56, u57, rfl, rfl⟩
      refine U.p rfl rfl (.inl rfl) (S.assign rfl (L 0 rfl rfl)) ?_
      refine U.done (Nat.le_of_ble_eq_true rfl) ?_
      refine WP.ret ?_
      refine fin.slot (.inr rfl) rfl (L 0 rfl rfl) ⟨V13, rfl, (le7.trans le14), ?_⟩
      have ow61 := ow15.drop 0 rfl
      have e62 := Option.some.inj h53
      subst e62
      exact ⟨rfl, ow61⟩
    · intro kk
      refine bcase (b := decide (6 < (p0.funcs.length : Int))) (fun g63 => ?_) (fun g63 => ?_)
      · skip
        refine U.x rfl rfl rfl rfl ((L 0 rfl rfl).trans (congrArg Value.bool g63)) (by decide) ?_
        refine U.x rfl rfl rfl rfl ((L 1 rfl rfl).trans (congrArg Value.bool g63)) (by decide) ?_
        refine U.x rfl rfl rfl rfl ((L 2 rfl rfl).trans (congrArg Value.bool g63)) (by decide) ?_
        refine U.x rfl rfl rfl rfl ((L 3 rfl rfl).trans (congrArg Value.bool g63)) (by decide) ?_
        refine U.p rfl rfl (.inl rfl) (S.pickT rfl ((L 4 rfl rfl).trans (congrArg Value.bool g63)) K) ?_
        exact kk [(26, .bool true), (25, .tuple #[]), (24, .tuple #[]), (23, .tuple #[]), (22, .tuple #[])] _ ⟨.tuple #[], .tuple #[], .tuple #[], .tuple #[], rfl, (by rw [g63, Bool.true_or])⟩
      · skip
        refine U.p (v := .pointer (some ⟨b5, 1, none⟩)) rfl rfl (.inr ⟨_, _, _, rfl, rfl, ((L 0 rfl rfl).trans (congrArg Value.bool g63))⟩) (S.fieldAddr rfl (L 6 rfl rfl) Try.underlying25 rfl ti23 rfl rfl) ?_
        refine U.k rfl rfl (.inr ⟨_, _, _, rfl, rfl, ((L 1 rfl rfl).trans (congrArg Value.bool g63))⟩) (S.load rfl (L 0 rfl rfl) Try.underlying23 rfl ((ow15.own (k := 0) rfl).cell rfl)) nd ?_
        refine U.p rfl rfl (.inr ⟨_, _, _, rfl, rfl, ((L 2 rfl rfl).trans (congrArg Value.bool g63))⟩) (f4.1.len rfl (L 0 rfl rfl) Try.underlying23) ?_
        refine U.p rfl rfl (.inr ⟨_, _, _, rfl, rfl, ((L 3 rfl rfl).trans (congrArg Value.bool g63))⟩) (S.gtr rfl (L 0 rfl rfl) K) ?_
        refine U.p rfl rfl (.inl rfl) (S.pickF rfl ((L 4 rfl rfl).trans (congrArg Value.bool g63)) (L 0 rfl rfl)) ?_
        exact kk [(26, .bool (decide (10 < (p0.threads.length : Int)))), (25, .bool (decide (10 < (p0.threads.length : Int)))), (24, .int .i64 (p0.threads.length : Int)), (23, v3), (22, .pointer (some ⟨b5, 1, none⟩))] _ ⟨.bool (decide (10 < (p0.threads.length : Int))), .int .i64 (p0.threads.length : Int), v3, .pointer (some ⟨b5, 1, none⟩), rfl, (by rw [g63, Bool.false_or])⟩

set_option maxHeartbeats 4000000 in
theorem wk_slices_Clone (V : Vw) (Rs : List At) (p0 : List Int) (v1 : Value) (f2 : Fz (RT.int .i64) V v1 p0) (ow : Ow V (Rs)) (r : List Int) (h : slices_Clone p0 = some r) : ∃ v V', Cl Try.prog 0 15 #[v1] V.H v V'.H ∧ V.le V' ∧ (∃ (v3 : Value), v = v3 ∧ Ow V' (.os (RT.int .i64) v3 r :: Rs)) := by
  refine Ct.of (Nat.zero_le _) Try.func15 rfl (Nat.le_of_ble_eq_true rfl) ?_
  unfold slices_Clone at h
  refine WP.usreg rfl ?_
  refine U.p rfl rfl (.inl rfl) (S.assign rfl K) ?_
  refine U.done (Nat.le_of_ble_eq_true rfl) ?_
  refine WP.seq ?_
  refine WP.usreg rfl ?_
  refine U.p rfl rfl (.inl rfl) (S.move rfl (L 1 rfl rfl)) ?_
  refine U.p rfl rfl (.inl rfl) (f2.1.eqNil rfl (L 0 rfl rfl) K Try.underlying23) ?_
  refine U.done (Nat.le_of_ble_eq_true rfl) ?_
  refine WP.cond _ (L 0 rfl rfl) rfl (fun c5 => ?_) (fun c5 => ?_)
  · have hz := (f2.1.nil_of c5)
    have h6 : (some [] : Option _) = some r := by simpa [hz, ap] using h
    refine WP.usreg rfl ?_
    refine U.p rfl rfl (.inl rfl) (S.assign rfl K) ?_
    refine U.done (Nat.le_of_ble_eq_true rfl) ?_
    refine WP.ret ?_
    refine sqR ?_
    have ow7 := ow.nil (RT.int .i64)
    refine fin.slot (.inr rfl) rfl (L 0 rfl rfl) ⟨V, rfl, (.refl _), ?_⟩
    have e9 := Option.some.inj h6
    subst e9
    exact ⟨(.slice none 0 0), rfl, ow7⟩
  · skip
    refine WP.skip ?_
    refine sqN ?_
    refine WP.usreg rfl ?_
    refine O.lit (R := (RT.int .i64)) ow rfl rfl (.inl rfl) rfl Try.underlying23 ti3 rfl rfl rfl (Nat.le_of_ble_eq_true rfl) rfl aN .nil (fun _ => nd) (fun v10 V11 le12 ow13 => ?_)
    refine U.p rfl rfl (.inl rfl) (S.move rfl (L 4 rfl rfl)) ?_
    have f15 := f2.up le12
    obtain ⟨xs16, hx17, h18⟩ := bindS h
    refine O.append (k := 0) ow13 rfl rfl rfl (.inl rfl) rfl (L 1 rfl rfl) (L 0 rfl rfl) Try.underlying23 ti3 rfl rfl (Nat.le_of_ble_eq_true rfl) (f15.src Try.underlying23) hx17 (fun _ _ => nd) (fun v19 V20 le21 ow22 => ?_)
    refine U.p rfl rfl (.inl rfl) (S.assign rfl (L 0 rfl rfl)) ?_
    refine U.done (Nat.le_of_ble_eq_true rfl) ?_
    refine WP.ret ?_
    refine fin.slot (.inr rfl) rfl (L 0 rfl rfl) ⟨V20, rfl, (le12.trans le21), ?_⟩
    have e24 := Option.some.inj h18
    subst e24
    exact ⟨v19, rfl, ow22⟩

set_option maxHeartbeats 4000000 in
theorem wk_fence_Module (V : Vw) (Rs : List At) (p0 : TModule) (p1 : Tfence_Options) (v1 : Value) (v3 : Value) (f2 : Fz RT_TFunc V v1 p0.funcs) (f4 : Fz (RT.int .i64) V v3 p0.threads) (ow : Ow V (Rs)) (r : TModule) (h : fence_Module p0 p1 = some r) : ∃ v V', Cl Try.prog 0 8 #[.agg #[v1, v3], .agg #[.bool p1.naive, .bool p1.bare, .bool p1.merged]] V.H v V'.H ∧ V.le V' ∧ (∃ (v5 : Value) (v7 : Value), v = .agg #[v5, v7] ∧ Fz RT_TFunc V' v5 r.funcs ∧ Fz (RT.int .i64) V' v7 r.threads ∧ Ow V' (Rs)) := by
  refine Ct.of (Nat.zero_le _) Try.func8 rfl (Nat.le_of_ble_eq_true rfl) ?_
  unfold fence_Module at h
  refine WP.usreg rfl ?_
  refine O.box ow rfl rfl (.inl rfl) rfl (L 0 rfl rfl) (by simp [topV]) rfl nd (fun b9 V10 le11 ow12 => ?_)
  refine O.box ow12 rfl rfl (.inl rfl) rfl (L 2 rfl rfl) (by simp [topV]) rfl nd (fun b14 V15 le16 ow17 => ?_)
  refine O.alloc ow17 rfl rfl (.inl rfl) rfl ti25 rfl rfl nd (fun b19 V20 le21 ow22 => ?_)
  refine U.done (Nat.le_of_ble_eq_true rfl) ?_
  refine WP.usreg rfl ?_
  refine U.p (v := .pointer (some ⟨b9, 1, none⟩)) rfl rfl (.inl rfl) (S.fieldAddr rfl (L 2 rfl rfl) Try.underlying25 rfl ti23 rfl rfl) ?_
  refine U.k rfl rfl (.inl rfl) (S.load rfl (L 0 rfl rfl) Try.underlying23 rfl ((ow22.own (k := 2) rfl).cell rfl)) nd ?_
  have f24 := f4.up ((le11.trans le16).trans le21)
  obtain ⟨x25, hx26, h27⟩ := bindS h
  refine O.call (V := V20) rfl rfl (.inl rfl) rfl en15 (aC (L 0 rfl rfl) aN) (wk_slices_Clone V20 _ p0.threads v3 f24 ow22 _ hx26) (fun _ _ _ _ => nd) (fun v28 V29 le30 hp31 => ?_)
  obtain ⟨_, rfl, ow32⟩ := hp31
  refine U.p (v := .agg #[.slice none 0 0, v28]) rfl rfl (.inl rfl) (S.build (vs := [v28]) rfl ti25 rfl pl25 (aC (L 0 rfl rfl) aN) (allC (ow32.osne (k := 0) rfl) allN) (fill1 rfl (ow32.oscells (k := 0) rfl) (Nat.le_of_ble_eq_true rfl) rfl)) ?_
  refine O.alloc ow32 rfl rfl (.inl rfl) rfl ti25 rfl rfl nd (fun b35 V36 le37 ow38 => ?_)
  refine O.store (k := 0) (cs := [.slice none 0 0, v28]) (c' := [.slice none 0 0, v28]) ow38 rfl rfl rfl (.inl rfl) rfl (L 0 rfl rfl) (L 1 rfl rfl) ti25 (by simp [topV]) rfl rfl (Nat.le_of_ble_eq_true rfl) (by have q0 := (ow38.osone (k := 1) rfl); simp only [List.all_cons, List.all_nil, q0]; rfl) rfl nd (fun V40 le41 ow42 => ?_)
  refine U.done (Nat.le_of_ble_eq_true rfl) ?_
  refine WP.seq ?_
  refine WP.usreg rfl ?_
  refine U.p (v := .pointer (some ⟨b9, 0, none⟩)) rfl rfl (.inl rfl) (S.fieldAddr rfl (L 7 rfl rfl) Try.underlying25 rfl ti22 rfl rfl) ?_
  refine U.k rfl rfl (.inl rfl) (S.load rfl (L 0 rfl rfl) Try.underlying22 rfl ((ow42.own (k := 4) rfl).cell rfl)) nd ?_
  refine U.p rfl rfl (.inl rfl) (f2.1.len rfl (L 0 rfl rfl) Try.underlying22) ?_
  refine U.p rfl rfl (.inl rfl) (S.move rfl K) ?_
  refine U.done (Nat.le_of_ble_eq_true rfl) ?_
  refine WP.blk ?_
  have ow47 := ow42.nil RT_TFunc
  have ow49 := ow47.drop 5 rfl
  have ow50 := ow49.pick 2 rfl
  have ow51 := ow50.pick 1 rfl
  have ow52 := ow51.pick 2 rfl
  have ow53 := ow52.pick 3 rfl
  have ow54 := ow53.pick 4 rfl
  unfold fence_Module_l1 at h27
  obtain ⟨n56, hn55⟩ := loopO_some.1 h27
  refine WP.loopI2 (fun n l V' => ∃ (v44 : Value) (xs45 : List TFunc) (x46 : Int), l = [(3, .pointer (some ⟨b14, 0, none⟩)), (4, .pointer (some ⟨b19, 0, none⟩)), (5, .pointer (some ⟨b35, 0, none⟩)), (13, v1), (14, .int .i64 (p0.funcs.length : Int)), (15, .int .i64 x46)] ∧ V40.le V' ∧ Ow V' (.pt b14 (.cells 0 [.bool p1.naive, .bool p1.bare, .bool p1.merged]) :: .pt b19 (.cells 2 [.slice none 0 0, .slice none 0 0]) :: .pt b35 (.cells 2 [v44, v28]) :: .os RT_TFunc v44 xs45 :: .os (RT.int .i64) v28 x25 :: Rs) ∧ itO (fun s => fence_Module_l1b p0 p1 x25 s.1 s.2) n (xs45, x46) = some r) n56 _ ⟨(.slice none 0 0), [], 0, rfl, .refl _, ow54, hn55⟩ (allCons (L 10 rfl rfl) (allCons (L 9 rfl rfl) (allCons (L 4 rfl rfl) (allCons (L 2 rfl rfl) (allCons (L 1 rfl rfl) (allCons (L 0 rfl rfl) allNil)))))) ?_
  rintro _ _ V57 ⟨v44, xs45, x46, rfl, le58, ow59, h63⟩
  obtain ⟨m60, q61, rfl, h64, e62⟩ := itS h63
  replace h64 : fence_Module_l1b p0 p1 x25 xs45 x46 = some q61 := h64
  unfold fence_Module_l1b at h64
  refine WP.usreg rfl ?_
  refine U.p rfl rfl (.inl rfl) (S.lss rfl (L 5 rfl rfl) (L 4 rfl rfl)) ?_
  refine U.done (Nat.le_of_ble_eq_true rfl) ?_
  refine WP.seq ?_
  refine WP.cond _ (L 0 rfl rfl) rfl (fun c65 => ?_) (fun c65 => ?_)
  · have h66 := ifT c65 h64
    refine WP.skip ?_
    refine sqN ?_
    refine WP.seq ?_
    refine WP.blk ?_
    refine WP.usreg rfl ?_
    obtain ⟨x67, hx68, h69⟩ := bindS h66
    obtain ⟨b70, o71, c72, cs73, hv74, hf75, hr76, hc77⟩ := f2.at hx68
    obtain ⟨v78, rfl, f79⟩ := hr76
    refine U.p rfl rfl (.inl rfl) (S.index rfl ((L 4 rfl rfl).trans hv74) (L 6 rfl rfl) Try.underlying22 ti33 (ix_ge hx68) (ix_lt hx68)) ?_
    refine U.k rfl rfl (.inl rfl) (S.loadN (cs := [.string x67.name, .int .i64 x67.params, .int .i64 x67.regs, v78]) rfl (L 0 rfl rfl) Try.underlying33 rfl ti33 rfl (fun j v hj => ((((((le11.trans le16).trans le21).trans le30).trans le37).trans le41).trans le58).cell hf75 (hc77 j v hj))) nd ?_
    refine O.alloc ow59 rfl rfl (.inl rfl) rfl ti33 rfl rfl nd (fun b80 V81 le82 ow83 => ?_)
    refine O.store (k := 0) (cs := [.string x67.name, .int .i64 x67.params, .int .i64 x67.regs, v78]) (c' := [.string x67.name, .int .i64 x67.params, .int .i64 x67.regs, v78]) ow83 rfl rfl rfl (.inl rfl) rfl (L 0 rfl rfl) (L 1 rfl rfl) ti33 (by simp [topV]) rfl rfl (Nat.le_of_ble_eq_true rfl) (by have q0 := f79.one; simp only [List.all_cons, List.all_nil, q0]; rfl) rfl nd (fun V85 le86 ow87 => ?_)
    refine U.done (Nat.le_of_ble_eq_true rfl) ?_
    refine WP.udreg rfl rfl rfl ?_
    refine U.p (v := .pointer (some ⟨b35, 0, none⟩)) rfl rfl (.inl rfl) (S.fieldAddr rfl (L 6 rfl rfl) Try.underlying25 rfl ti22 rfl rfl) ?_
    refine U.k rfl rfl (.inl rfl) (S.load rfl (L 0 rfl rfl) Try.underlying22 rfl ((ow87.own (k := 3) rfl).cell rfl)) (fun _ => (okH.nil (fun r h => by cases h; exact (ow87.own (k := 3) rfl).lt))) ?_
    refine U.k rfl rfl (.inl rfl) (S.loadB rfl (L 2 rfl rfl) Try.underlying33 rfl ti33 (ow87.own (k := 0) rfl).get rfl) (fun _ => (okH.cons trivial (okH.nil (fun r h => by cases h; exact (ow87.own (k := 0) rfl).lt)))) ?_
    refine U.k rfl rfl (.inl rfl) (S.loadB rfl (L 7 rfl rfl) Try.underlying27 rfl ti27 (ow87.own (k := 1) rfl).get rfl) (fun _ => (okH.cons trivial (okH.cons trivial (okH.nil (fun r h => by cases h; exact (ow87.own (k := 1) rfl).lt))))) ?_
    have f88 := f79.up ((((((((le11.trans le16).trans le21).trans le30).trans le37).trans le41).trans le58).trans le82).trans le86)
    obtain ⟨x89, hx90, h91⟩ := bindS h69
    refine O.call (V := V85) rfl rfl (.inl rfl) rfl en13 (aC (L 1 rfl rfl) (aC (L 0 rfl rfl) aN)) (wk_fence_Func V85 _ x67 p1 v78 f88 ow87 _ hx90) (fun v92 V93 le94 hp95 => by obtain ⟨v97, rfl, f98, ow96⟩ := hp95; exact (fun _ => (okH.cons (Or.inl rfl) (okH.cons (Or.inl rfl) (okH.cons (Or.inr (((ow96.own (k := 3) rfl).get.trans (ow87.own (k := 3) rfl).get.symm))) (okH.nil (fun r h => nomatch h))))))) (fun v92 V93 le94 hp95 => ?_)
    obtain ⟨v97, rfl, f98, ow96⟩ := hp95
    refine O.lit (R := RT_TFunc) ow96 rfl rfl (.inl rfl) rfl Try.underlying22 ti33 rfl rfl rfl (Nat.le_of_ble_eq_true rfl) rfl (aC (L 0 rfl rfl) aN) (.cons _ _ x89 _ (by simp [topV]) ⟨_, rfl, f98⟩ .nil) (fun _ => (fun _ => (okH.cons trivial (okH.cons trivial (okH.cons trivial (okH.cons trivial (okH.nil (fun r h => nomatch h)))))))) (fun v99 V100 le101 ow102 => ?_)
    obtain ⟨xs104, hx105, h106⟩ := bindS h91
    refine O.append (k := 5) ow102 rfl rfl rfl (.inl rfl) rfl (L 4 rfl rfl) (L 0 rfl rfl) Try.underlying22 ti33 rfl rfl (Nat.le_of_ble_eq_true rfl) (ow102.src (k := 0) rfl Try.underlying22) hx105 (fun V1 hs => (fun _ => (okH.cons (Or.inl rfl) (okH.cons rfl (okH.cons (Or.inl rfl) (okH.cons (Or.inl rfl) (okH.cons (Or.inl rfl) (okH.nil (fun r h => nomatch h))))))))) (fun v107 V108 le109 ow110 => ?_)
    refine U.p (v := .pointer (some ⟨b35, 0, none⟩)) rfl rfl (.inl rfl) (S.fieldAddr rfl (L 13 rfl rfl) Try.underlying25 rfl ti22 rfl rfl) ?_
    refine O.store (k := 4) (cs := [v107]) (c' := [v107, v28]) ow110 rfl rfl rfl (.inl rfl) rfl (L 0 rfl rfl) (L 1 rfl rfl) ti22 (ow110.osne (k := 5) rfl) (by rw [ow110.oscells (k := 5) rfl]) rfl (Nat.le_of_ble_eq_true rfl) (by have q0 := (ow110.osone (k := 5) rfl); simp only [List.all_cons, List.all_nil, q0]; rfl) rfl (fun _ => (okH.cons rfl (okH.cons (Or.inl rfl) (okH.cons rfl (okH.cons (Or.inl rfl) (okH.cons (Or.inl rfl) (okH.cons (Or.inl rfl) (okH.nil (fun r h => nomatch h))))))))) (fun V112 le113 ow114 => ?_)
    refine U.done (Nat.le_of_ble_eq_true rfl) ?_
    refine blkN (sqN ?_)
    refine WP.ureg rfl ?_
    refine U.p rfl rfl (.inl rfl) (S.add rfl (L 17 rfl rfl) K) ?_
    refine U.p rfl rfl (.inl rfl) (S.move rfl (L 0 rfl rfl)) ?_
    refine U.done (Nat.le_of_ble_eq_true rfl) ?_
    refine sqN ?_
    have ow115 := ow114.drop 0 rfl
    have ow116 := ow115.drop 0 rfl
    exact ⟨_, V112, rfl, ⟨m60, Nat.lt_succ_self _, v107, xs104, w64 (x46 + 1), rfl, ((((((le58.trans le82).trans le86).trans le94).trans le101).trans le109).trans le113), ow116, backS h106 e62⟩, (allCons (L 14 rfl rfl) (allCons (L 15 rfl rfl) (allCons (L 16 rfl rfl) (allCons (L 17 rfl rfl) (allCons (L 18 rfl rfl) (allCons (L 0 rfl rfl) allNil))))))⟩
  · have h117 := ifF c65 h64
    refine WP.exit ?_
    refine sqE (sqE (blkE (sqN ?_)))
    have h118 := exitS h117 e62
    refine WP.usreg rfl ?_
    refine U.k rfl rfl (.inl rfl) (S.loadB rfl (L 3 rfl rfl) Try.underlying25 rfl ti25 (ow59.own (k := 2) rfl).get rfl) nd ?_
    refine O.store (k := 1) (cs := [v44, v28]) (c' := [v44, v28]) ow59 rfl rfl rfl (.inl rfl) rfl (L 3 rfl rfl) (L 0 rfl rfl) ti25 (by simp [topV]) rfl rfl (Nat.le_of_ble_eq_true rfl) (by have q0 := (ow59.osone (k := 3) rfl); have q1 := (ow59.osone (k := 4) rfl); simp only [List.all_cons, List.all_nil, q0, q1]; rfl) rfl nd (fun V119 le120 ow121 => ?_)
    refine U.done (Nat.le_of_ble_eq_true rfl) ?_
    refine WP.ret ?_
    obtain ⟨V122, eV126, le123, f124, ow125⟩ := ow121.osfz (k := 3) rfl
    rw [← eV126]
    obtain ⟨V127, eV131, le128, f129, ow130⟩ := ow125.osfz (k := 3) rfl
    rw [← eV131]
    have f132 := f124.up le128
    refine fin.cellN (.inr rfl) rfl (L 3 rfl rfl) Try.underlying25 rfl ti25 (ow130.own (k := 1) rfl).get rfl ⟨V127, rfl, (((((((((le11.trans le16).trans le21).trans le30).trans le37).trans le41).trans le58).trans le120).trans le123).trans le128), ?_⟩
    have ow133 := ow130.drop 0 rfl
    have ow134 := ow133.drop 0 rfl
    have ow135 := ow134.drop 0 rfl
    have e136 := Option.some.inj h118
    subst e136
    exact ⟨v44, v28, rfl, f132, f129, ow135⟩

set_option maxHeartbeats 4000000 in
theorem wk_law12_bare (V : Vw) (Rs : List At) (p0 : TFunc) (v1 : Value) (f2 : Fz RT_TIns V v1 p0.code) (ow : Ow V (Rs)) (r : TFunc) (h : law12_bare p0 = some r) : ∃ v V', Cl Try.prog 0 10 #[.agg #[.string p0.name, .int .i64 p0.params, .int .i64 p0.regs, v1]] V.H v V'.H ∧ V.le V' ∧ (∃ (v3 : Value), v = .agg #[.string r.name, .int .i64 r.params, .int .i64 r.regs, v3] ∧ Fz RT_TIns V' v3 r.code ∧ Ow V' (Rs)) := by
  refine Ct.of (Nat.zero_le _) Try.func10 rfl (Nat.le_of_ble_eq_true rfl) ?_
  unfold law12_bare at h
  refine WP.usreg rfl ?_
  refine O.box ow rfl rfl (.inl rfl) rfl (L 0 rfl rfl) (by simp [topV]) rfl nd (fun b5 V6 le7 ow8 => ?_)
  refine O.alloc ow8 rfl rfl (.inl rfl) rfl ti33 rfl rfl nd (fun b10 V11 le12 ow13 => ?_)
  refine U.done (Nat.le_of_ble_eq_true rfl) ?_
  refine WP.usreg rfl ?_
  refine U.p rfl rfl (.inl rfl) (S.assign rfl K) ?_
  refine U.done (Nat.le_of_ble_eq_true rfl) ?_
  refine WP.seq ?_
  refine WP.usreg rfl ?_
  refine U.p (v := .pointer (some ⟨b5, 3, none⟩)) rfl rfl (.inl rfl) (S.fieldAddr rfl (L 2 rfl rfl) Try.underlying33 rfl ti31 rfl rfl) ?_
  refine U.k rfl rfl (.inl rfl) (S.load rfl (L 0 rfl rfl) Try.underlying31 rfl ((ow13.own (k := 1) rfl).cell rfl)) nd ?_
  refine U.p rfl rfl (.inl rfl) (f2.1.len rfl (L 0 rfl rfl) Try.underlying31) ?_
  refine U.p rfl rfl (.inl rfl) (S.move rfl K) ?_
  refine U.done (Nat.le_of_ble_eq_true rfl) ?_
  refine WP.blk ?_
  have ow19 := ow13.nil RT_TIns
  have ow21 := ow19.pick 0 rfl
  have ow22 := ow21.pick 1 rfl
  have ow23 := ow22.pick 2 rfl
  unfold law12_bare_l1 at h
  obtain ⟨n25, hn24⟩ := loopO_some.1 h
  refine WP.loopI2 (fun n l V' => ∃ (v16 : Value) (xs17 : List TIns) (x18 : Int), l = [(1, .pointer (some ⟨b5, 0, none⟩)), (2, .pointer (some ⟨b10, 0, none⟩)), (3, v16), (7, v1), (8, .int .i64 (p0.code.length : Int)), (9, .int .i64 x18)] ∧ V11.le V' ∧ Ow V' (.pt b5 (.cells 0 [.string p0.name, .int .i64 p0.params, .int .i64 p0.regs, v1]) :: .pt b10 (.cells 4 [.string ByteArray.empty, .int .i64 0, .int .i64 0, .slice none 0 0]) :: .os RT_TIns v16 xs17 :: Rs) ∧ itO (fun s => law12_bare_l1b p0 s.1 s.2) n (xs17, x18) = some r) n25 _ ⟨(.slice none 0 0), [], 0, rfl, .refl _, ow23, hn24⟩ (allCons (L 6 rfl rfl) (allCons (L 5 rfl rfl) (allCons (L 4 rfl rfl) (allCons (L 2 rfl rfl) (allCons (L 1 rfl rfl) (allCons (L 0 rfl rfl) allNil)))))) ?_
  rintro _ _ V26 ⟨v16, xs17, x18, rfl, le27, ow28, h32⟩
  obtain ⟨m29, q30, rfl, h33, e31⟩ := itS h32
  replace h33 : law12_bare_l1b p0 xs17 x18 = some q30 := h33
  unfold law12_bare_l1b at h33
  refine WP.usreg rfl ?_
  refine U.p rfl rfl (.inl rfl) (S.lss rfl (L 5 rfl rfl) (L 4 rfl rfl)) ?_
  refine U.done (Nat.le_of_ble_eq_true rfl) ?_
  refine WP.seq ?_
  refine WP.cond _ (L 0 rfl rfl) rfl (fun c34 => ?_) (fun c34 => ?_)
  · have h35 := ifT c34 h33
    refine WP.skip ?_
    refine sqN ?_
    refine WP.seqI (fun l V' => ∃ (v37 : Value) (xs38 : List TIns), l = [(1, .pointer (some ⟨b5, 0, none⟩)), (2, .pointer (some ⟨b10, 0, none⟩)), (3, v37), (7, v1), (8, .int .i64 (p0.code.length : Int)), (9, .int .i64 x18)] ∧ V26.le V' ∧ Ow V' (.pt b5 (.cells 0 [.string p0.name, .int .i64 p0.params, .int .i64 p0.regs, v1]) :: .pt b10 (.cells 4 [.string ByteArray.empty, .int .i64 0, .int .i64 0, .slice none 0 0]) :: .os RT_TIns v37 xs38 :: Rs) ∧ law12_bare_k1 x18 xs38 = some q30) ?_ ?_
    · rintro _ V39 ⟨v37, xs38, rfl, le40, ow41, h42⟩
      unfold law12_bare_k1 at h42
      refine WP.ureg rfl ?_
      refine U.p rfl rfl (.inl rfl) (S.add rfl (L 5 rfl rfl) K) ?_
      refine U.p rfl rfl (.inl rfl) (S.move rfl (L 0 rfl rfl)) ?_
      refine U.done (Nat.le_of_ble_eq_true rfl) ?_
      refine sqN ?_
      exact ⟨_, V39, rfl, ⟨m29, Nat.lt_succ_self _, v37, xs38, w64 (x18 + 1), rfl, (le27.trans le40), ow41, backS h42 e31⟩, (allCons (L 2 rfl rfl) (allCons (L 3 rfl rfl) (allCons (L 4 rfl rfl) (allCons (L 5 rfl rfl) (allCons (L 6 rfl rfl) (allCons (L 0 rfl rfl) allNil))))))⟩
    · skip
      refine WP.blk ?_
      refine WP.usreg rfl ?_
      obtain ⟨x43, hx44, h45⟩ := bindS h35
      obtain ⟨b46, o47, c48, cs49, hv50, hf51, hr52, hc53⟩ := f2.at hx44
      obtain ⟨v54, rfl, f55⟩ := hr52
      refine U.p rfl rfl (.inl rfl) (S.index rfl ((L 4 rfl rfl).trans hv50) (L 6 rfl rfl) Try.underlying31 ti42 (ix_ge hx44) (ix_lt hx44)) ?_
      refine U.k rfl rfl (.inl rfl) (S.loadN (cs := [.int .i64 x43.op, .int .i64 x43.d, .int .i64 x43.a, .int .i64 x43.b, .int .i64 x43.imm, v54, .int .i64 x43.what, .bool x43.volatile, .bool x43.final]) rfl (L 0 rfl rfl) Try.underlying42 rfl ti42 rfl (fun j v hj => ((le7.trans le12).trans le27).cell hf51 (hc53 j v hj))) nd ?_
      refine O.alloc ow28 rfl rfl (.inl rfl) rfl ti42 rfl rfl nd (fun b56 V57 le58 ow59 => ?_)
      refine O.store (k := 0) (cs := [.int .i64 x43.op, .int .i64 x43.d, .int .i64 x43.a, .int .i64 x43.b, .int .i64 x43.imm, v54, .int .i64 x43.what, .bool x43.volatile, .bool x43.final]) (c' := [.int .i64 x43.op, .int .i64 x43.d, .int .i64 x43.a, .int .i64 x43.b, .int .i64 x43.imm, v54, .int .i64 x43.what, .bool x43.volatile, .bool x43.final]) ow59 rfl rfl rfl (.inl rfl) rfl (L 0 rfl rfl) (L 1 rfl rfl) ti42 (by simp [topV]) rfl rfl (Nat.le_of_ble_eq_true rfl) (by have q0 := f55.one; simp only [List.all_cons, List.all_nil, q0]; rfl) rfl nd (fun V61 le62 ow63 => ?_)
      refine U.done (Nat.le_of_ble_eq_true rfl) ?_
      refine WP.usreg rfl ?_
      refine U.p (v := .pointer (some ⟨b56, 0, none⟩)) rfl rfl (.inl rfl) (S.fieldAddr rfl (L 0 rfl rfl) Try.underlying42 rfl ti3 rfl rfl) ?_
      refine U.k rfl rfl (.inl rfl) (S.load rfl (L 0 rfl rfl) Try.underlying3 rfl ((ow63.own (k := 0) rfl).cell rfl)) nd ?_
      refine U.p rfl rfl (.inl rfl) (S.neqI rfl (L 0 rfl rfl) K) ?_
      refine U.p rfl rfl (.inl rfl) (S.move rfl (L 0 rfl rfl)) ?_
      refine U.joinX 8 (fun e H => ∃ (u64 u65 u66 : Value), H = V61.H ∧ e = [(20, .bool ((decide (x43.op ≠ 21)) && (decide (x43.op ≠ 22)))), (19, u64), (18, u65), (17, u66)]) ?_ ?_
      · rintro _ _ ⟨u64, u65, u66, rfl, rfl⟩
        refine U.done (Nat.le_of_ble_eq_true rfl) ?_
        refine WP.cond _ (L 0 rfl rfl) rfl (fun c70 => ?_) (fun c70 => ?_)
        · have h71 := ifT c70 h45
          refine WP.ureg rfl ?_
          refine U.p rfl rfl (.inl rfl) (S.move rfl (L 14 rfl rfl)) ?_
          refine U.k rfl rfl (.inl rfl) (S.loadB rfl (L 9 rfl rfl) Try.underlying42 rfl ti42 (ow63.own (k := 0) rfl).get rfl) nd ?_
          have f72 := f55.up ((((le7.trans le12).trans le27).trans le58).trans le62)
          refine O.lit (R := RT_TIns) ow63 rfl rfl (.inl rfl) rfl Try.underlying31 ti42 rfl rfl rfl (Nat.le_of_ble_eq_true rfl) rfl (aC (L 0 rfl rfl) aN) (.cons _ _ x43 _ (by simp [topV]) ⟨_, rfl, f72⟩ .nil) (fun _ => nd) (fun v73 V74 le75 ow76 => ?_)
          obtain ⟨xs78, hx79, h80⟩ := bindS h71
          refine O.append (k := 4) ow76 rfl rfl rfl (.inl rfl) rfl (L 2 rfl rfl) (L 0 rfl rfl) Try.underlying31 ti42 rfl rfl (Nat.le_of_ble_eq_true rfl) (ow76.src (k := 0) rfl Try.underlying31) hx79 (fun _ _ => nd) (fun v81 V82 le83 ow84 => ?_)
          refine U.p rfl rfl (.inl rfl) (S.assign rfl (L 0 rfl rfl)) ?_
          refine U.done (Nat.le_of_ble_eq_true rfl) ?_
          refine blkN (sqN ?_)
          have ow86 := ow84.drop 0 rfl
          have ow87 := ow86.drop 0 rfl
          exact ⟨_, V82, rfl, ⟨v81, xs78, rfl, (((le58.trans le62).trans le75).trans le83), ow87, h80⟩, (allCons (L 17 rfl rfl) (allCons (L 18 rfl rfl) (allCons (L 0 rfl rfl) (allCons (L 20 rfl rfl) (allCons (L 21 rfl rfl) (allCons (L 22 rfl rfl) allNil))))))⟩
        · have h88 := ifF c70 h45
          refine WP.skip ?_
          refine blkN (sqN ?_)
          have ow89 := ow63.drop 0 rfl
          exact ⟨_, V61, rfl, ⟨v16, xs17, rfl, (le58.trans le62), ow89, h88⟩, (allCons (L 12 rfl rfl) (allCons (L 13 rfl rfl) (allCons (L 14 rfl rfl) (allCons (L 15 rfl rfl) (allCons (L 16 rfl rfl) (allCons (L 17 rfl rfl) allNil))))))⟩
      · intro kk
        refine bcase (b := decide (x43.op ≠ 21)) (fun g90 => ?_) (fun g90 => ?_)
        · skip
          refine U.p (v := .pointer (some ⟨b56, 0, none⟩)) rfl rfl (.inr ⟨_, _, _, rfl, rfl, ((L 0 rfl rfl).trans (congrArg Value.bool g90))⟩) (S.fieldAddr rfl (L 4 rfl rfl) Try.underlying42 rfl ti3 rfl rfl) ?_
          refine U.k rfl rfl (.inr ⟨_, _, _, rfl, rfl, ((L 1 rfl rfl).trans (congrArg Value.bool g90))⟩) (S.load rfl (L 0 rfl rfl) Try.underlying3 rfl ((ow63.own (k := 0) rfl).cell rfl)) nd ?_
          refine U.p rfl rfl (.inr ⟨_, _, _, rfl, rfl, ((L 2 rfl rfl).trans (congrArg Value.bool g90))⟩) (S.neqI rfl (L 0 rfl rfl) K) ?_
          refine U.p rfl rfl (.inl rfl) (S.pickT rfl ((L 3 rfl rfl).trans (congrArg Value.bool g90)) (L 0 rfl rfl)) ?_
          exact kk [(20, .bool (decide (x43.op ≠ 22))), (19, .bool (decide (x43.op ≠ 22))), (18, .int .i64 x43.op), (17, .pointer (some ⟨b56, 0, none⟩))] _ ⟨.bool (decide (x43.op ≠ 22)), .int .i64 x43.op, .pointer (some ⟨b56, 0, none⟩), rfl, (by rw [g90, Bool.true_and])⟩
        · skip
          refine U.x rfl rfl rfl rfl ((L 0 rfl rfl).trans (congrArg Value.bool g90)) (by decide) ?_
          refine U.x rfl rfl rfl rfl ((L 1 rfl rfl).trans (congrArg Value.bool g90)) (by decide) ?_
          refine U.x rfl rfl rfl rfl ((L 2 rfl rfl).trans (congrArg Value.bool g90)) (by decide) ?_
          refine U.p rfl rfl (.inl rfl) (S.pickF rfl ((L 3 rfl rfl).trans (congrArg Value.bool g90)) K) ?_
          exact kk [(20, .bool false), (19, .tuple #[]), (18, .tuple #[]), (17, .tuple #[])] _ ⟨.tuple #[], .tuple #[], .tuple #[], rfl, (by rw [g90, Bool.false_and])⟩
  · have h91 := ifF c34 h33
    refine WP.exit ?_
    refine sqE (sqE (blkE (sqN ?_)))
    have h92 := exitS h91 e31
    refine WP.usreg rfl ?_
    refine U.p rfl rfl (.inl rfl) (S.move rfl (L 3 rfl rfl)) ?_
    refine U.p (v := .pointer (some ⟨b5, 3, none⟩)) rfl rfl (.inl rfl) (S.fieldAddr rfl (L 2 rfl rfl) Try.underlying33 rfl ti31 rfl rfl) ?_
    refine O.store (k := 0) (cs := [v16]) (c' := [.string p0.name, .int .i64 p0.params, .int .i64 p0.regs, v16]) ow28 rfl rfl rfl (.inl rfl) rfl (L 0 rfl rfl) (L 1 rfl rfl) ti31 (ow28.osne (k := 2) rfl) (by rw [ow28.oscells (k := 2) rfl]) rfl (Nat.le_of_ble_eq_true rfl) (by have q0 := (ow28.osone (k := 2) rfl); simp only [List.all_cons, List.all_nil, q0]; rfl) rfl nd (fun V93 le94 ow95 => ?_)
    refine U.done (Nat.le_of_ble_eq_true rfl) ?_
    refine WP.usreg rfl ?_
    refine U.k rfl rfl (.inl rfl) (S.loadB rfl (L 3 rfl rfl) Try.underlying33 rfl ti33 (ow95.own (k := 0) rfl).get rfl) nd ?_
    refine O.store (k := 1) (cs := [.string p0.name, .int .i64 p0.params, .int .i64 p0.regs, v16]) (c' := [.string p0.name, .int .i64 p0.params, .int .i64 p0.regs, v16]) ow95 rfl rfl rfl (.inl rfl) rfl (L 5 rfl rfl) (L 0 rfl rfl) ti33 (by simp [topV]) rfl rfl (Nat.le_of_ble_eq_true rfl) (by have q0 := (ow95.osone (k := 2) rfl); simp only [List.all_cons, List.all_nil, q0]; rfl) rfl nd (fun V96 le97 ow98 => ?_)
    refine U.done (Nat.le_of_ble_eq_true rfl) ?_
    refine WP.ret ?_
    obtain ⟨V99, eV103, le100, f101, ow102⟩ := ow98.osfz (k := 2) rfl
    rw [← eV103]
    refine fin.cellN (.inr rfl) rfl (L 5 rfl rfl) Try.underlying33 rfl ti33 (ow102.own (k := 1) rfl).get rfl ⟨V99, rfl, (((((le7.trans le12).trans le27).trans le94).trans le97).trans le100), ?_⟩
    have ow104 := ow102.drop 0 rfl
    have ow105 := ow104.drop 0 rfl
    have e106 := Option.some.inj h92
    subst e106
    exact ⟨v16, rfl, f101, ow105⟩

set_option maxHeartbeats 4000000 in
theorem wk_ref11_Same (V : Vw) (Rs : List At) (p0 : TFunc) (p1 : TFunc) (v1 : Value) (v3 : Value) (f2 : Fz RT_TIns V v1 p0.code) (f4 : Fz RT_TIns V v3 p1.code) (ow : Ow V (Rs)) (r : Bool) (h : ref11_Same p0 p1 = some r) : ∃ v V', Cl Try.prog 0 9 #[.agg #[.string p0.name, .int .i64 p0.params, .int .i64 p0.regs, v1], .agg #[.string p1.name, .int .i64 p1.params, .int .i64 p1.regs, v3]] V.H v V'.H ∧ V.le V' ∧ (v = .bool r ∧ Ow V' (Rs)) := by
  refine Ct.of (Nat.zero_le _) Try.func9 rfl (Nat.le_of_ble_eq_true rfl) ?_
  unfold ref11_Same at h
  refine WP.usreg rfl ?_
  refine O.box ow rfl rfl (.inl rfl) rfl (L 0 rfl rfl) (by simp [topV]) rfl nd (fun b5 V6 le7 ow8 => ?_)
  refine O.box ow8 rfl rfl (.inl rfl) rfl (L 2 rfl rfl) (by simp [topV]) rfl nd (fun b10 V11 le12 ow13 => ?_)
  refine U.p rfl rfl (.inl rfl) (S.assign rfl K) ?_
  refine U.done (Nat.le_of_ble_eq_true rfl) ?_
  refine WP.seq ?_
  refine WP.usreg rfl ?_
  refine U.p (v := .pointer (some ⟨b5, 0, none⟩)) rfl rfl (.inl rfl) (S.fieldAddr rfl (L 2 rfl rfl) Try.underlying33 rfl ti9 rfl rfl) ?_
  refine U.k rfl rfl (.inl rfl) (S.load rfl (L 0 rfl rfl) Try.underlying9 rfl ((ow13.own (k := 1) rfl).cell rfl)) nd ?_
  refine U.p (v := .pointer (some ⟨b10, 0, none⟩)) rfl rfl (.inl rfl) (S.fieldAddr rfl (L 3 rfl rfl) Try.underlying33 rfl ti9 rfl rfl) ?_
  refine U.k rfl rfl (.inl rfl) (S.load rfl (L 0 rfl rfl) Try.underlying9 rfl ((ow13.own (k := 0) rfl).cell rfl)) nd ?_
  refine U.p rfl rfl (.inl rfl) (S.neqS rfl (L 2 rfl rfl) (L 0 rfl rfl)) ?_
  refine U.p rfl rfl (.inl rfl) (S.move rfl (L 0 rfl rfl)) ?_
  refine U.joinX 12 (fun e H => ∃ (u15 u16 u17 u18 u19 : Value), H = V11.H ∧ e = [(20, .bool ((decide (p0.name ≠ p1.name)) || (decide (p0.params ≠ p1.params)))), (19, u15), (18, u16), (17, u17), (16, u18), (15, u19)]) ?_ ?_
  · rintro _ _ ⟨u15, u16, u17, u18, u19, rfl, rfl⟩
    refine U.p rfl rfl (.inl rfl) (S.move rfl (L 0 rfl rfl)) ?_
    refine U.joinX 19 (fun e H => ∃ (u23 u24 u25 u26 u27 : Value), H = V11.H ∧ e = [(27, .bool (((decide (p0.name ≠ p1.name)) || (decide (p0.params ≠ p1.params))) || (decide (p0.regs ≠ p1.regs)))), (26, u23), (25, u24), (24, u25), (23, u26), (22, u27)]) ?_ ?_
    · rintro _ _ ⟨u23, u24, u25, u26, u27, rfl, rfl⟩
      refine U.p rfl rfl (.inl rfl) (S.move rfl (L 0 rfl rfl)) ?_
      refine U.joinX 28 (fun e H => ∃ (u31 u32 u33 u34 u35 u36 u37 : Value), H = V11.H ∧ e = [(36, .bool ((((decide (p0.name ≠ p1.name)) || (decide (p0.params ≠ p1.params))) || (decide (p0.regs ≠ p1.regs))) || (decide ((p0.code.length : Int) ≠ (p1.code.length : Int))))), (35, u31), (34, u32), (33, u33), (32, u34), (31, u35), (30, u36), (29, u37)]) ?_ ?_
      · rintro _ _ ⟨u31, u32, u33, u34, u35, u36, u37, rfl, rfl⟩
        refine U.done (Nat.le_of_ble_eq_true rfl) ?_
        refine WP.cond _ (L 0 rfl rfl) rfl (fun c41 => ?_) (fun c41 => ?_)
        · have h42 := ifT c41 h
          refine WP.usreg rfl ?_
          refine U.p rfl rfl (.inl rfl) (S.assign rfl K) ?_
          refine U.done (Nat.le_of_ble_eq_true rfl) ?_
          refine WP.ret ?_
          refine sqR ?_
          refine fin.slot (.inr rfl) rfl (L 0 rfl rfl) ⟨V11, rfl, (le7.trans le12), ?_⟩
          have ow43 := ow13.drop 0 rfl
          have ow44 := ow43.drop 0 rfl
          have e45 := Option.some.inj h42
          subst e45
          exact ⟨rfl, ow44⟩
        · have h46 := ifF c41 h
          refine WP.skip ?_
          refine sqN ?_
          refine WP.seq ?_
          refine WP.usreg rfl ?_
          refine U.p (v := .pointer (some ⟨b5, 3, none⟩)) rfl rfl (.inl rfl) (S.fieldAddr rfl (L 30 rfl rfl) Try.underlying33 rfl ti31 rfl rfl) ?_
          refine U.k rfl rfl (.inl rfl) (S.load rfl (L 0 rfl rfl) Try.underlying31 rfl ((ow13.own (k := 1) rfl).cell rfl)) nd ?_
          refine U.p rfl rfl (.inl rfl) (f2.1.len rfl (L 0 rfl rfl) Try.underlying31) ?_
          refine U.p rfl rfl (.inl rfl) (S.move rfl K) ?_
          refine U.done (Nat.le_of_ble_eq_true rfl) ?_
          refine WP.blk ?_
          have ow48 := ow13.drop 1 rfl
          unfold ref11_Same_l1 at h46
          obtain ⟨n50, hn49⟩ := loopO_some.1 h46
          refine WP.loopI2 (fun n l V' => ∃ (x47 : Int), l = [(3, .pointer (some ⟨b10, 0, none⟩)), (38, v1), (39, .int .i64 (p0.code.length : Int)), (40, .int .i64 x47)] ∧ V11.le V' ∧ Ow V' (.pt b10 (.cells 0 [.string p1.name, .int .i64 p1.params, .int .i64 p1.regs, v3]) :: Rs) ∧ itO (fun s => ref11_Same_l1b p0 p1 s) n x47 = some r) n50 _ ⟨0, rfl, .refl _, ow48, hn49⟩ (allCons (L 33 rfl rfl) (allCons (L 2 rfl rfl) (allCons (L 1 rfl rfl) (allCons (L 0 rfl rfl) allNil)))) ?_
          rintro _ _ V51 ⟨x47, rfl, le52, ow53, h57⟩
          obtain ⟨m54, q55, rfl, h58, e56⟩ := itS h57
          replace h58 : ref11_Same_l1b p0 p1 x47 = some q55 := h58
          unfold ref11_Same_l1b at h58
          refine WP.usreg rfl ?_
          refine U.p rfl rfl (.inl rfl) (S.lss rfl (L 3 rfl rfl) (L 2 rfl rfl)) ?_
          refine U.done (Nat.le_of_ble_eq_true rfl) ?_
          refine WP.seq ?_
          refine WP.cond _ (L 0 rfl rfl) rfl (fun c59 => ?_) (fun c59 => ?_)
          · have h60 := ifT c59 h58
            refine WP.skip ?_
            refine sqN ?_
            refine WP.seq ?_
            refine WP.blk ?_
            refine WP.usreg rfl ?_
            refine U.p rfl rfl (.inl rfl) (S.move rfl (L 4 rfl rfl)) ?_
            obtain ⟨x61, hx62, h63⟩ := bindS h60
            obtain ⟨b64, o65, c66, cs67, hv68, hf69, hr70, hc71⟩ := f2.at hx62
            obtain ⟨v72, rfl, f73⟩ := hr70
            refine U.p rfl rfl (.inl rfl) (S.index rfl ((L 3 rfl rfl).trans hv68) (L 5 rfl rfl) Try.underlying31 ti42 (ix_ge hx62) (ix_lt hx62)) ?_
            refine U.k rfl rfl (.inl rfl) (S.loadN (cs := [.int .i64 x61.op, .int .i64 x61.d, .int .i64 x61.a, .int .i64 x61.b, .int .i64 x61.imm, v72, .int .i64 x61.what, .bool x61.volatile, .bool x61.final]) rfl (L 0 rfl rfl) Try.underlying42 rfl ti42 rfl (fun j v hj => ((le7.trans le12).trans le52).cell hf69 (hc71 j v hj))) nd ?_
            refine O.alloc ow53 rfl rfl (.inl rfl) rfl ti42 rfl rfl nd (fun b74 V75 le76 ow77 => ?_)
            refine U.p rfl rfl (.inl rfl) (S.assign rfl (L 3 rfl rfl)) ?_
            refine O.store (k := 0) (cs := [.int .i64 x61.op, .int .i64 x61.d, .int .i64 x61.a, .int .i64 x61.b, .int .i64 x61.imm, v72, .int .i64 x61.what, .bool x61.volatile, .bool x61.final]) (c' := [.int .i64 x61.op, .int .i64 x61.d, .int .i64 x61.a, .int .i64 x61.b, .int .i64 x61.imm, v72, .int .i64 x61.what, .bool x61.volatile, .bool x61.final]) ow77 rfl rfl rfl (.inl rfl) rfl (L 1 rfl rfl) (L 2 rfl rfl) ti42 (by simp [topV]) rfl rfl (Nat.le_of_ble_eq_true rfl) (by have q0 := f73.one; simp only [List.all_cons, List.all_nil, q0]; rfl) rfl nd (fun V79 le80 ow81 => ?_)
            refine U.done (Nat.le_of_ble_eq_true rfl) ?_
            refine WP.usreg rfl ?_
            refine U.p (v := .pointer (some ⟨b10, 3, none⟩)) rfl rfl (.inl rfl) (S.fieldAddr rfl (L 6 rfl rfl) Try.underlying33 rfl ti31 rfl rfl) ?_
            refine U.k rfl rfl (.inl rfl) (S.load rfl (L 0 rfl rfl) Try.underlying31 rfl ((ow81.own (k := 1) rfl).cell rfl)) nd ?_
            refine U.p rfl rfl (.inl rfl) (S.move rfl (L 2 rfl rfl)) ?_
            obtain ⟨x82, hx83, h84⟩ := bindS h63
            obtain ⟨b85, o86, c87, cs88, hv89, hf90, hr91, hc92⟩ := f4.at hx83
            obtain ⟨v93, rfl, f94⟩ := hr91
            refine U.p rfl rfl (.inl rfl) (S.index rfl ((L 1 rfl rfl).trans hv89) (L 0 rfl rfl) Try.underlying31 ti42 (ix_ge hx83) (ix_lt hx83)) ?_
            refine U.k rfl rfl (.inl rfl) (S.loadN (cs := [.int .i64 x82.op, .int .i64 x82.d, .int .i64 x82.a, .int .i64 x82.b, .int .i64 x82.imm, v93, .int .i64 x82.what, .bool x82.volatile, .bool x82.final]) rfl (L 0 rfl rfl) Try.underlying42 rfl ti42 rfl (fun j v hj => ((((le7.trans le12).trans le52).trans le76).trans le80).cell hf90 (hc92 j v hj))) nd ?_
            refine O.alloc ow81 rfl rfl (.inl rfl) rfl ti42 rfl rfl nd (fun b95 V96 le97 ow98 => ?_)
            refine O.store (k := 0) (cs := [.int .i64 x82.op, .int .i64 x82.d, .int .i64 x82.a, .int .i64 x82.b, .int .i64 x82.imm, v93, .int .i64 x82.what, .bool x82.volatile, .bool x82.final]) (c' := [.int .i64 x82.op, .int .i64 x82.d, .int .i64 x82.a, .int .i64 x82.b, .int .i64 x82.imm, v93, .int .i64 x82.what, .bool x82.volatile, .bool x82.final]) ow98 rfl rfl rfl (.inl rfl) rfl (L 0 rfl rfl) (L 1 rfl rfl) ti42 (by simp [topV]) rfl rfl (Nat.le_of_ble_eq_true rfl) (by have q0 := f94.one; simp only [List.all_cons, List.all_nil, q0]; rfl) rfl nd (fun V100 le101 ow102 => ?_)
            refine U.done (Nat.le_of_ble_eq_true rfl) ?_
            refine WP.seq ?_
            refine WP.usreg rfl ?_
            refine U.p (v := .pointer (some ⟨b74, 0, none⟩)) rfl rfl (.inl rfl) (S.fieldAddr rfl (L 7 rfl rfl) Try.underlying42 rfl ti3 rfl rfl) ?_
            refine U.k rfl rfl (.inl rfl) (S.load rfl (L 0 rfl rfl) Try.underlying3 rfl ((ow102.own (k := 1) rfl).cell rfl)) nd ?_
            refine U.p (v := .pointer (some ⟨b95, 0, none⟩)) rfl rfl (.inl rfl) (S.fieldAddr rfl (L 2 rfl rfl) Try.underlying42 rfl ti3 rfl rfl) ?_
            refine U.k rfl rfl (.inl rfl) (S.load rfl (L 0 rfl rfl) Try.underlying3 rfl ((ow102.own (k := 0) rfl).cell rfl)) nd ?_
            refine U.p rfl rfl (.inl rfl) (S.neqI rfl (L 2 rfl rfl) (L 0 rfl rfl)) ?_
            refine U.p rfl rfl (.inl rfl) (S.move rfl (L 0 rfl rfl)) ?_
            refine U.joinX 12 (fun e H => ∃ (u103 u104 u105 u106 u107 : Value), H = V100.H ∧ e = [(61, .bool ((decide (x61.op ≠ x82.op)) || (decide (x61.d ≠ x82.d)))), (60, u103), (59, u104), (58, u105), (57, u106), (56, u107)]) ?_ ?_
            · rintro _ _ ⟨u103, u104, u105, u106, u107, rfl, rfl⟩
              refine U.p rfl rfl (.inl rfl) (S.move rfl (L 0 rfl rfl)) ?_
              refine U.joinX 19 (fun e H => ∃ (u111 u112 u113 u114 u115 : Value), H = V100.H ∧ e = [(68, .bool (((decide (x61.op ≠ x82.op)) || (decide (x61.d ≠ x82.d))) || (decide (x61.a ≠ x82.a)))), (67, u111), (66, u112), (65, u113), (64, u114), (63, u115)]) ?_ ?_
              · rintro _ _ ⟨u111, u112, u113, u114, u115, rfl, rfl⟩
                refine U.p rfl rfl (.inl rfl) (S.move rfl (L 0 rfl rfl)) ?_
                refine U.joinX 26 (fun e H => ∃ (u119 u120 u121 u122 u123 : Value), H = V100.H ∧ e = [(75, .bool ((((decide (x61.op ≠ x82.op)) || (decide (x61.d ≠ x82.d))) || (decide (x61.a ≠ x82.a))) || (decide (x61.b ≠ x82.b)))), (74, u119), (73, u120), (72, u121), (71, u122), (70, u123)]) ?_ ?_
                · rintro _ _ ⟨u119, u120, u121, u122, u123, rfl, rfl⟩
                  refine U.p rfl rfl (.inl rfl) (S.move rfl (L 0 rfl rfl)) ?_
                  refine U.joinX 33 (fun e H => ∃ (u127 u128 u129 u130 u131 : Value), H = V100.H ∧ e = [(82, .bool (((((decide (x61.op ≠ x82.op)) || (decide (x61.d ≠ x82.d))) || (decide (x61.a ≠ x82.a))) || (decide (x61.b ≠ x82.b))) || (decide (x61.imm ≠ x82.imm)))), (81, u127), (80, u128), (79, u129), (78, u130), (77, u131)]) ?_ ?_
                  · rintro _ _ ⟨u127, u128, u129, u130, u131, rfl, rfl⟩
                    refine U.p rfl rfl (.inl rfl) (S.move rfl (L 0 rfl rfl)) ?_
                    refine U.joinX 40 (fun e H => ∃ (u135 u136 u137 u138 u139 : Value), H = V100.H ∧ e = [(89, .bool ((((((decide (x61.op ≠ x82.op)) || (decide (x61.d ≠ x82.d))) || (decide (x61.a ≠ x82.a))) || (decide (x61.b ≠ x82.b))) || (decide (x61.imm ≠ x82.imm))) || (decide (x61.what ≠ x82.what)))), (88, u135), (87, u136), (86, u137), (85, u138), (84, u139)]) ?_ ?_
                    · rintro _ _ ⟨u135, u136, u137, u138, u139, rfl, rfl⟩
                      refine U.p rfl rfl (.inl rfl) (S.move rfl (L 0 rfl rfl)) ?_
                      refine U.joinX 47 (fun e H => ∃ (u143 u144 u145 u146 u147 : Value), H = V100.H ∧ e = [(96, .bool (((((((decide (x61.op ≠ x82.op)) || (decide (x61.d ≠ x82.d))) || (decide (x61.a ≠ x82.a))) || (decide (x61.b ≠ x82.b))) || (decide (x61.imm ≠ x82.imm))) || (decide (x61.what ≠ x82.what))) || (!(x61.volatile == x82.volatile)))), (95, u143), (94, u144), (93, u145), (92, u146), (91, u147)]) ?_ ?_
                      · rintro _ _ ⟨u143, u144, u145, u146, u147, rfl, rfl⟩
                        refine U.p rfl rfl (.inl rfl) (S.move rfl (L 0 rfl rfl)) ?_
                        refine U.joinX 54 (fun e H => ∃ (u151 u152 u153 u154 u155 : Value), H = V100.H ∧ e = [(103, .bool ((((((((decide (x61.op ≠ x82.op)) || (decide (x61.d ≠ x82.d))) || (decide (x61.a ≠ x82.a))) || (decide (x61.b ≠ x82.b))) || (decide (x61.imm ≠ x82.imm))) || (decide (x61.what ≠ x82.what))) || (!(x61.volatile == x82.volatile))) || (!(x61.final == x82.final)))), (102, u151), (101, u152), (100, u153), (99, u154), (98, u155)]) ?_ ?_
                        · rintro _ _ ⟨u151, u152, u153, u154, u155, rfl, rfl⟩
                          refine U.p rfl rfl (.inl rfl) (S.move rfl (L 0 rfl rfl)) ?_
                          refine U.joinX 63 (fun e H => ∃ (u159 u160 u161 u162 u163 u164 u165 : Value), H = V100.H ∧ e = [(112, .bool (((((((((decide (x61.op ≠ x82.op)) || (decide (x61.d ≠ x82.d))) || (decide (x61.a ≠ x82.a))) || (decide (x61.b ≠ x82.b))) || (decide (x61.imm ≠ x82.imm))) || (decide (x61.what ≠ x82.what))) || (!(x61.volatile == x82.volatile))) || (!(x61.final == x82.final))) || (decide ((x61.args.length : Int) ≠ (x82.args.length : Int))))), (111, u159), (110, u160), (109, u161), (108, u162), (107, u163), (106, u164), (105, u165)]) ?_ ?_
                          · rintro _ _ ⟨u159, u160, u161, u162, u163, u164, u165, rfl, rfl⟩
                            refine U.done (Nat.le_of_ble_eq_true rfl) ?_
                            refine WP.cond _ (L 0 rfl rfl) rfl (fun c169 => ?_) (fun c169 => ?_)
                            · have h170 := ifT c169 h84
                              refine WP.usreg rfl ?_
                              refine U.p rfl rfl (.inl rfl) (S.assign rfl K) ?_
                              refine U.done (Nat.le_of_ble_eq_true rfl) ?_
                              refine WP.ret ?_
                              refine sqR (blkR (sqR (sqR (blkR (sqR ?_)))))
                              have h171 := exitS h170 e56
                              refine fin.slot (.inr rfl) rfl (L 0 rfl rfl) ⟨V100, rfl, ((((((le7.trans le12).trans le52).trans le76).trans le80).trans le97).trans le101), ?_⟩
                              have ow172 := ow102.drop 0 rfl
                              have ow173 := ow172.drop 0 rfl
                              have ow174 := ow173.drop 0 rfl
                              have e175 := Option.some.inj h171
                              subst e175
                              exact ⟨rfl, ow174⟩
                            · have h176 := ifF c169 h84
                              refine WP.skip ?_
                              refine sqN ?_
                              refine WP.usreg rfl ?_
                              refine U.p (v := .pointer (some ⟨b74, 5, none⟩)) rfl rfl (.inl rfl) (S.fieldAddr rfl (L 70 rfl rfl) Try.underlying42 rfl ti23 rfl rfl) ?_
                              refine U.k rfl rfl (.inl rfl) (S.load rfl (L 0 rfl rfl) Try.underlying23 rfl ((ow102.own (k := 1) rfl).cell rfl)) nd ?_
                              refine U.p rfl rfl (.inl rfl) (f73.1.len rfl (L 0 rfl rfl) Try.underlying23) ?_
                              refine U.p rfl rfl (.inl rfl) (S.move rfl K) ?_
                              refine U.done (Nat.le_of_ble_eq_true rfl) ?_
                              refine WP.blk ?_
                              have ow178 := ow102.pick 0 rfl
                              have ow179 := ow178.pick 1 rfl
                              have ow180 := ow179.pick 2 rfl
                              unfold ref11_Same_l2 at h176
                              obtain ⟨n182, hn181⟩ := loopO_some.1 h176
                              refine WP.loopI2 (fun n l V' => ∃ (x177 : Int), l = [(3, .pointer (some ⟨b10, 0, none⟩)), (6, .pointer (some ⟨b74, 0, none⟩)), (7, .pointer (some ⟨b95, 0, none⟩)), (38, v1), (39, .int .i64 (p0.code.length : Int)), (40, .int .i64 x47), (115, .int .i64 (x61.args.length : Int)), (116, .int .i64 x177)] ∧ V100.le V' ∧ Ow V' (.pt b10 (.cells 0 [.string p1.name, .int .i64 p1.params, .int .i64 p1.regs, v3]) :: .pt b74 (.cells 9 [.int .i64 x61.op, .int .i64 x61.d, .int .i64 x61.a, .int .i64 x61.b, .int .i64 x61.imm, v72, .int .i64 x61.what, .bool x61.volatile, .bool x61.final]) :: .pt b95 (.cells 9 [.int .i64 x82.op, .int .i64 x82.d, .int .i64 x82.a, .int .i64 x82.b, .int .i64 x82.imm, v93, .int .i64 x82.what, .bool x82.volatile, .bool x82.final]) :: Rs) ∧ itO (fun s => ref11_Same_l2b x47 x61 x82 s) n x177 = some q55) n182 _ ⟨0, rfl, .refl _, ow180, hn181⟩ (allCons (L 79 rfl rfl) (allCons (L 74 rfl rfl) (allCons (L 67 rfl rfl) (allCons (L 80 rfl rfl) (allCons (L 81 rfl rfl) (allCons (L 82 rfl rfl) (allCons (L 1 rfl rfl) (allCons (L 0 rfl rfl) allNil)))))))) ?_
                              rintro _ _ V183 ⟨x177, rfl, le184, ow185, h189⟩
                              obtain ⟨m186, q187, rfl, h190, e188⟩ := itS h189
                              replace h190 : ref11_Same_l2b x47 x61 x82 x177 = some q187 := h190
                              unfold ref11_Same_l2b at h190
                              refine WP.usreg rfl ?_
                              refine U.p rfl rfl (.inl rfl) (S.lss rfl (L 7 rfl rfl) (L 6 rfl rfl)) ?_
                              refine U.done (Nat.le_of_ble_eq_true rfl) ?_
                              refine WP.seq ?_
                              refine WP.cond _ (L 0 rfl rfl) rfl (fun c191 => ?_) (fun c191 => ?_)
                              · have h192 := ifT c191 h190
                                refine WP.skip ?_
                                refine sqN ?_
                                refine WP.seq ?_
                                refine WP.blk ?_
                                refine WP.usreg rfl ?_
                                refine U.p rfl rfl (.inl rfl) (S.move rfl (L 8 rfl rfl)) ?_
                                refine U.p rfl rfl (.inl rfl) (S.assign rfl (L 0 rfl rfl)) ?_
                                refine U.done (Nat.le_of_ble_eq_true rfl) ?_
                                refine WP.usdreg rfl rfl rfl ?_
                                refine U.p (v := .pointer (some ⟨b74, 5, none⟩)) rfl rfl (.inl rfl) (S.fieldAddr rfl (L 4 rfl rfl) Try.underlying42 rfl ti23 rfl rfl) ?_
                                refine U.k rfl rfl (.inl rfl) (S.load rfl (L 0 rfl rfl) Try.underlying23 rfl ((ow185.own (k := 1) rfl).cell rfl)) (fun _ => (okH.nil (fun r h => by cases h; exact (ow185.own (k := 1) rfl).lt))) ?_
                                refine U.p rfl rfl (.inl rfl) (S.move rfl (L 2 rfl rfl)) ?_
                                obtain ⟨x193, hx194, h195⟩ := bindS h192
                                obtain ⟨b196, o197, c198, cs199, hv200, hf201, hr202, hc203⟩ := f73.at hx194
                                obtain rfl : cs199 = [.int .i64 x193] := hr202
                                refine U.p rfl rfl (.inl rfl) (S.index rfl ((L 1 rfl rfl).trans hv200) (L 0 rfl rfl) Try.underlying23 ti3 (ix_ge hx194) (ix_lt hx194)) ?_
                                refine U.k rfl rfl (.inl rfl) (S.load rfl (L 0 rfl rfl) Try.underlying3 rfl ((((((((le7.trans le12).trans le52).trans le76).trans le80).trans le97).trans le101).trans le184).cell hf201 (hc203 0 _ rfl))) (fun _ => (okH.cons trivial (okH.nil (fun r h => by cases h; exact (V183.wf _ ((((((((le7.trans le12).trans le52).trans le76).trans le80).trans le97).trans le101).trans le184).sub _ hf201)))))) ?_
                                refine U.p (v := .pointer (some ⟨b95, 5, none⟩)) rfl rfl (.inl rfl) (S.fieldAddr rfl (L 10 rfl rfl) Try.underlying42 rfl ti23 rfl rfl) ?_
                                refine U.k rfl rfl (.inl rfl) (S.load rfl (L 0 rfl rfl) Try.underlying23 rfl ((ow185.own (k := 2) rfl).cell rfl)) (fun _ => (okH.cons trivial (okH.cons trivial (okH.nil (fun r h => by cases h; exact (ow185.own (k := 2) rfl).lt))))) ?_
                                refine U.p rfl rfl (.inl rfl) (S.move rfl (L 7 rfl rfl)) ?_
                                obtain ⟨x204, hx205, h206⟩ := bindS h195
                                obtain ⟨b207, o208, c209, cs210, hv211, hf212, hr213, hc214⟩ := f94.at hx205
                                obtain rfl : cs210 = [.int .i64 x204] := hr213
                                refine U.p rfl rfl (.inl rfl) (S.index rfl ((L 1 rfl rfl).trans hv211) (L 0 rfl rfl) Try.underlying23 ti3 (ix_ge hx205) (ix_lt hx205)) ?_
                                refine U.k rfl rfl (.inl rfl) (S.load rfl (L 0 rfl rfl) Try.underlying3 rfl ((((((((le7.trans le12).trans le52).trans le76).trans le80).trans le97).trans le101).trans le184).cell hf212 (hc214 0 _ rfl))) (fun _ => (okH.cons trivial (okH.cons trivial (okH.cons trivial (okH.nil (fun r h => by cases h; exact (V183.wf _ ((((((((le7.trans le12).trans le52).trans le76).trans le80).trans le97).trans le101).trans le184).sub _ hf212)))))))) ?_
                                refine U.p rfl rfl (.inl rfl) (S.neqI rfl (L 5 rfl rfl) (L 0 rfl rfl)) ?_
                                refine U.done (Nat.le_of_ble_eq_true rfl) ?_
                                refine WP.cond _ (L 0 rfl rfl) rfl (fun c215 => ?_) (fun c215 => ?_)
                                · have h216 := ifT c215 h206
                                  refine WP.usreg rfl ?_
                                  refine U.p rfl rfl (.inl rfl) (S.assign rfl K) ?_
                                  refine U.done (Nat.le_of_ble_eq_true rfl) ?_
                                  refine WP.ret ?_
                                  refine blkR (sqR (sqR (blkR (blkR (sqR (sqR (blkR (sqR ?_))))))))
                                  have h217 := exitS h216 e188
                                  have h218 := exitS h217 e56
                                  refine fin.slot (.inr rfl) rfl (L 0 rfl rfl) ⟨V183, rfl, (((((((le7.trans le12).trans le52).trans le76).trans le80).trans le97).trans le101).trans le184), ?_⟩
                                  have ow219 := ow185.drop 0 rfl
                                  have ow220 := ow219.drop 0 rfl
                                  have ow221 := ow220.drop 0 rfl
                                  have e222 := Option.some.inj h218
                                  subst e222
                                  exact ⟨rfl, ow221⟩
                                · have h223 := ifF c215 h206
                                  refine WP.skip ?_
                                  refine blkN (sqN ?_)
                                  refine WP.ureg rfl ?_
                                  refine U.p rfl rfl (.inl rfl) (S.add rfl (L 21 rfl rfl) K) ?_
                                  refine U.p rfl rfl (.inl rfl) (S.move rfl (L 0 rfl rfl)) ?_
                                  refine U.done (Nat.le_of_ble_eq_true rfl) ?_
                                  refine sqN ?_
                                  exact ⟨_, V183, rfl, ⟨m186, Nat.lt_succ_self _, w64 (x177 + 1), rfl, le184, ow185, backS h223 e188⟩, (allCons (L 16 rfl rfl) (allCons (L 17 rfl rfl) (allCons (L 18 rfl rfl) (allCons (L 19 rfl rfl) (allCons (L 20 rfl rfl) (allCons (L 21 rfl rfl) (allCons (L 22 rfl rfl) (allCons (L 0 rfl rfl) allNil))))))))⟩
                              · have h224 := ifF c191 h190
                                refine WP.exit ?_
                                refine sqE (sqE (blkE (blkN (sqN ?_))))
                                have h225 := exitS h224 e188
                                refine WP.ureg rfl ?_
                                refine U.p rfl rfl (.inl rfl) (S.add rfl (L 6 rfl rfl) K) ?_
                                refine U.p rfl rfl (.inl rfl) (S.move rfl (L 0 rfl rfl)) ?_
                                refine U.done (Nat.le_of_ble_eq_true rfl) ?_
                                refine sqN ?_
                                have ow226 := ow185.drop 1 rfl
                                have ow227 := ow226.drop 1 rfl
                                exact ⟨_, V183, rfl, ⟨m54, Nat.lt_succ_self _, w64 (x47 + 1), rfl, (((((le52.trans le76).trans le80).trans le97).trans le101).trans le184), ow227, backS h225 e56⟩, (allCons (L 3 rfl rfl) (allCons (L 6 rfl rfl) (allCons (L 7 rfl rfl) (allCons (L 0 rfl rfl) allNil))))⟩
                          · intro kk
                            refine bcase (b := (((((((decide (x61.op ≠ x82.op)) || (decide (x61.d ≠ x82.d))) || (decide (x61.a ≠ x82.a))) || (decide (x61.b ≠ x82.b))) || (decide (x61.imm ≠ x82.imm))) || (decide (x61.what ≠ x82.what))) || (!(x61.volatile == x82.volatile))) || (!(x61.final == x82.final))) (fun g228 => ?_) (fun g228 => ?_)
                            · skip
                              refine U.x rfl rfl rfl rfl ((L 0 rfl rfl).trans (congrArg Value.bool g228)) (by decide) ?_
                              refine U.x rfl rfl rfl rfl ((L 1 rfl rfl).trans (congrArg Value.bool g228)) (by decide) ?_
                              refine U.x rfl rfl rfl rfl ((L 2 rfl rfl).trans (congrArg Value.bool g228)) (by decide) ?_
                              refine U.x rfl rfl rfl rfl ((L 3 rfl rfl).trans (congrArg Value.bool g228)) (by decide) ?_
                              refine U.x rfl rfl rfl rfl ((L 4 rfl rfl).trans (congrArg Value.bool g228)) (by decide) ?_
                              refine U.x rfl rfl rfl rfl ((L 5 rfl rfl).trans (congrArg Value.bool g228)) (by decide) ?_
                              refine U.x rfl rfl rfl rfl ((L 6 rfl rfl).trans (congrArg Value.bool g228)) (by decide) ?_
                              refine U.p rfl rfl (.inl rfl) (S.pickT rfl ((L 7 rfl rfl).trans (congrArg Value.bool g228)) K) ?_
                              exact kk [(112, .bool true), (111, .tuple #[]), (110, .tuple #[]), (109, .tuple #[]), (108, .tuple #[]), (107, .tuple #[]), (106, .tuple #[]), (105, .tuple #[])] _ ⟨.tuple #[], .tuple #[], .tuple #[], .tuple #[], .tuple #[], .tuple #[], .tuple #[], rfl, (by rw [g228, Bool.true_or])⟩
                            · skip
                              refine U.p (v := .pointer (some ⟨b74, 5, none⟩)) rfl rfl (.inr ⟨_, _, _, rfl, rfl, ((L 0 rfl rfl).trans (congrArg Value.bool g228))⟩) (S.fieldAddr rfl (L 62 rfl rfl) Try.underlying42 rfl ti23 rfl rfl) ?_
                              refine U.k rfl rfl (.inr ⟨_, _, _, rfl, rfl, ((L 1 rfl rfl).trans (congrArg Value.bool g228))⟩) (S.load rfl (L 0 rfl rfl) Try.underlying23 rfl ((ow102.own (k := 1) rfl).cell rfl)) nd ?_
                              refine U.p rfl rfl (.inr ⟨_, _, _, rfl, rfl, ((L 2 rfl rfl).trans (congrArg Value.bool g228))⟩) (f73.1.len rfl (L 0 rfl rfl) Try.underlying23) ?_
                              refine U.p (v := .pointer (some ⟨b95, 5, none⟩)) rfl rfl (.inr ⟨_, _, _, rfl, rfl, ((L 3 rfl rfl).trans (congrArg Value.bool g228))⟩) (S.fieldAddr rfl (L 58 rfl rfl) Try.underlying42 rfl ti23 rfl rfl) ?_
                              refine U.k rfl rfl (.inr ⟨_, _, _, rfl, rfl, ((L 4 rfl rfl).trans (congrArg Value.bool g228))⟩) (S.load rfl (L 0 rfl rfl) Try.underlying23 rfl ((ow102.own (k := 0) rfl).cell rfl)) nd ?_
                              refine U.p rfl rfl (.inr ⟨_, _, _, rfl, rfl, ((L 5 rfl rfl).trans (congrArg Value.bool g228))⟩) (f94.1.len rfl (L 0 rfl rfl) Try.underlying23) ?_
                              refine U.p rfl rfl (.inr ⟨_, _, _, rfl, rfl, ((L 6 rfl rfl).trans (congrArg Value.bool g228))⟩) (S.neqI rfl (L 3 rfl rfl) (L 0 rfl rfl)) ?_
                              refine U.p rfl rfl (.inl rfl) (S.pickF rfl ((L 7 rfl rfl).trans (congrArg Value.bool g228)) (L 0 rfl rfl)) ?_
                              exact kk [(112, .bool (decide ((x61.args.length : Int) ≠ (x82.args.length : Int)))), (111, .bool (decide ((x61.args.length : Int) ≠ (x82.args.length : Int)))), (110, .int .i64 (x82.args.length : Int)), (109, v93), (108, .pointer (some ⟨b95, 5, none⟩)), (107, .int .i64 (x61.args.length : Int)), (106, v72), (105, .pointer (some ⟨b74, 5, none⟩))] _ ⟨.bool (decide ((x61.args.length : Int) ≠ (x82.args.length : Int))), .int .i64 (x82.args.length : Int), v93, .pointer (some ⟨b95, 5, none⟩), .int .i64 (x61.args.length : Int), v72, .pointer (some ⟨b74, 5, none⟩), rfl, (by rw [g228, Bool.false_or])⟩
                        · intro kk
                          refine bcase (b := ((((((decide (x61.op ≠ x82.op)) || (decide (x61.d ≠ x82.d))) || (decide (x61.a ≠ x82.a))) || (decide (x61.b ≠ x82.b))) || (decide (x61.imm ≠ x82.imm))) || (decide (x61.what ≠ x82.what))) || (!(x61.volatile == x82.volatile))) (fun g229 => ?_) (fun g229 => ?_)
                          · skip
                            refine U.x rfl rfl rfl rfl ((L 0 rfl rfl).trans (congrArg Value.bool g229)) (by decide) ?_
                            refine U.x rfl rfl rfl rfl ((L 1 rfl rfl).trans (congrArg Value.bool g229)) (by decide) ?_
                            refine U.x rfl rfl rfl rfl ((L 2 rfl rfl).trans (congrArg Value.bool g229)) (by decide) ?_
                            refine U.x rfl rfl rfl rfl ((L 3 rfl rfl).trans (congrArg Value.bool g229)) (by decide) ?_
                            refine U.x rfl rfl rfl rfl ((L 4 rfl rfl).trans (congrArg Value.bool g229)) (by decide) ?_
                            refine U.p rfl rfl (.inl rfl) (S.pickT rfl ((L 5 rfl rfl).trans (congrArg Value.bool g229)) K) ?_
                            exact kk [(103, .bool true), (102, .tuple #[]), (101, .tuple #[]), (100, .tuple #[]), (99, .tuple #[]), (98, .tuple #[])] _ ⟨.tuple #[], .tuple #[], .tuple #[], .tuple #[], .tuple #[], rfl, (by rw [g229, Bool.true_or])⟩
                          · skip
                            refine U.p (v := .pointer (some ⟨b74, 8, none⟩)) rfl rfl (.inr ⟨_, _, _, rfl, rfl, ((L 0 rfl rfl).trans (congrArg Value.bool g229))⟩) (S.fieldAddr rfl (L 55 rfl rfl) Try.underlying42 rfl ti4 rfl rfl) ?_
                            refine U.k rfl rfl (.inr ⟨_, _, _, rfl, rfl, ((L 1 rfl rfl).trans (congrArg Value.bool g229))⟩) (S.load rfl (L 0 rfl rfl) Try.underlying4 rfl ((ow102.own (k := 1) rfl).cell rfl)) nd ?_
                            refine U.p (v := .pointer (some ⟨b95, 8, none⟩)) rfl rfl (.inr ⟨_, _, _, rfl, rfl, ((L 2 rfl rfl).trans (congrArg Value.bool g229))⟩) (S.fieldAddr rfl (L 50 rfl rfl) Try.underlying42 rfl ti4 rfl rfl) ?_
                            refine U.k rfl rfl (.inr ⟨_, _, _, rfl, rfl, ((L 3 rfl rfl).trans (congrArg Value.bool g229))⟩) (S.load rfl (L 0 rfl rfl) Try.underlying4 rfl ((ow102.own (k := 0) rfl).cell rfl)) nd ?_
                            refine U.p rfl rfl (.inr ⟨_, _, _, rfl, rfl, ((L 4 rfl rfl).trans (congrArg Value.bool g229))⟩) (S.neqB rfl (L 2 rfl rfl) (L 0 rfl rfl) Try.underlying4) ?_
                            refine U.p rfl rfl (.inl rfl) (S.pickF rfl ((L 5 rfl rfl).trans (congrArg Value.bool g229)) (L 0 rfl rfl)) ?_
                            exact kk [(103, .bool (!(x61.final == x82.final))), (102, .bool (!(x61.final == x82.final))), (101, .bool x82.final), (100, .pointer (some ⟨b95, 8, none⟩)), (99, .bool x61.final), (98, .pointer (some ⟨b74, 8, none⟩))] _ ⟨.bool (!(x61.final == x82.final)), .bool x82.final, .pointer (some ⟨b95, 8, none⟩), .bool x61.final, .pointer (some ⟨b74, 8, none⟩), rfl, (by rw [g229, Bool.false_or])⟩
                      · intro kk
                        refine bcase (b := (((((decide (x61.op ≠ x82.op)) || (decide (x61.d ≠ x82.d))) || (decide (x61.a ≠ x82.a))) || (decide (x61.b ≠ x82.b))) || (decide (x61.imm ≠ x82.imm))) || (decide (x61.what ≠ x82.what))) (fun g230 => ?_) (fun g230 => ?_)
                        · skip
                          refine U.x rfl rfl rfl rfl ((L 0 rfl rfl).trans (congrArg Value.bool g230)) (by decide) ?_
                          refine U.x rfl rfl rfl rfl ((L 1 rfl rfl).trans (congrArg Value.bool g230)) (by decide) ?_
                          refine U.x rfl rfl rfl rfl ((L 2 rfl rfl).trans (congrArg Value.bool g230)) (by decide) ?_
                          refine U.x rfl rfl rfl rfl ((L 3 rfl rfl).trans (congrArg Value.bool g230)) (by decide) ?_
                          refine U.x rfl rfl rfl rfl ((L 4 rfl rfl).trans (congrArg Value.bool g230)) (by decide) ?_
                          refine U.p rfl rfl (.inl rfl) (S.pickT rfl ((L 5 rfl rfl).trans (congrArg Value.bool g230)) K) ?_
                          exact kk [(96, .bool true), (95, .tuple #[]), (94, .tuple #[]), (93, .tuple #[]), (92, .tuple #[]), (91, .tuple #[])] _ ⟨.tuple #[], .tuple #[], .tuple #[], .tuple #[], .tuple #[], rfl, (by rw [g230, Bool.true_or])⟩
                        · skip
                          refine U.p (v := .pointer (some ⟨b74, 7, none⟩)) rfl rfl (.inr ⟨_, _, _, rfl, rfl, ((L 0 rfl rfl).trans (congrArg Value.bool g230))⟩) (S.fieldAddr rfl (L 48 rfl rfl) Try.underlying42 rfl ti4 rfl rfl) ?_
                          refine U.k rfl rfl (.inr ⟨_, _, _, rfl, rfl, ((L 1 rfl rfl).trans (congrArg Value.bool g230))⟩) (S.load rfl (L 0 rfl rfl) Try.underlying4 rfl ((ow102.own (k := 1) rfl).cell rfl)) nd ?_
                          refine U.p (v := .pointer (some ⟨b95, 7, none⟩)) rfl rfl (.inr ⟨_, _, _, rfl, rfl, ((L 2 rfl rfl).trans (congrArg Value.bool g230))⟩) (S.fieldAddr rfl (L 43 rfl rfl) Try.underlying42 rfl ti4 rfl rfl) ?_
                          refine U.k rfl rfl (.inr ⟨_, _, _, rfl, rfl, ((L 3 rfl rfl).trans (congrArg Value.bool g230))⟩) (S.load rfl (L 0 rfl rfl) Try.underlying4 rfl ((ow102.own (k := 0) rfl).cell rfl)) nd ?_
                          refine U.p rfl rfl (.inr ⟨_, _, _, rfl, rfl, ((L 4 rfl rfl).trans (congrArg Value.bool g230))⟩) (S.neqB rfl (L 2 rfl rfl) (L 0 rfl rfl) Try.underlying4) ?_
                          refine U.p rfl rfl (.inl rfl) (S.pickF rfl ((L 5 rfl rfl).trans (congrArg Value.bool g230)) (L 0 rfl rfl)) ?_
                          exact kk [(96, .bool (!(x61.volatile == x82.volatile))), (95, .bool (!(x61.volatile == x82.volatile))), (94, .bool x82.volatile), (93, .pointer (some ⟨b95, 7, none⟩)), (92, .bool x61.volatile), (91, .pointer (some ⟨b74, 7, none⟩))] _ ⟨.bool (!(x61.volatile == x82.volatile)), .bool x82.volatile, .pointer (some ⟨b95, 7, none⟩), .bool x61.volatile, .pointer (some ⟨b74, 7, none⟩), rfl, (by rw [g230, Bool.false_or])⟩
                    · intro kk
                      refine bcase (b := ((((decide (x61.op ≠ x82.op)) || (decide (x61.d ≠ x82.d))) || (decide (x61.a ≠ x82.a))) || (decide (x61.b ≠ x82.b))) || (decide (x61.imm ≠ x82.imm))) (fun g231 => ?_) (fun g231 => ?_)
                      · skip
                        refine U.x rfl rfl rfl rfl ((L 0 rfl rfl).trans (congrArg Value.bool g231)) (by decide) ?_
                        refine U.x rfl rfl rfl rfl ((L 1 rfl rfl).trans (congrArg Value.bool g231)) (by decide) ?_
                        refine U.x rfl rfl rfl rfl ((L 2 rfl rfl).trans (congrArg Value.bool g231)) (by decide) ?_
                        refine U.x rfl rfl rfl rfl ((L 3 rfl rfl).trans (congrArg Value.bool g231)) (by decide) ?_
                        refine U.x rfl rfl rfl rfl ((L 4 rfl rfl).trans (congrArg Value.bool g231)) (by decide) ?_
                        refine U.p rfl rfl (.inl rfl) (S.pickT rfl ((L 5 rfl rfl).trans (congrArg Value.bool g231)) K) ?_
                        exact kk [(89, .bool true), (88, .tuple #[]), (87, .tuple #[]), (86, .tuple #[]), (85, .tuple #[]), (84, .tuple #[])] _ ⟨.tuple #[], .tuple #[], .tuple #[], .tuple #[], .tuple #[], rfl, (by rw [g231, Bool.true_or])⟩
                      · skip
                        refine U.p (v := .pointer (some ⟨b74, 6, none⟩)) rfl rfl (.inr ⟨_, _, _, rfl, rfl, ((L 0 rfl rfl).trans (congrArg Value.bool g231))⟩) (S.fieldAddr rfl (L 41 rfl rfl) Try.underlying42 rfl ti3 rfl rfl) ?_
                        refine U.k rfl rfl (.inr ⟨_, _, _, rfl, rfl, ((L 1 rfl rfl).trans (congrArg Value.bool g231))⟩) (S.load rfl (L 0 rfl rfl) Try.underlying3 rfl ((ow102.own (k := 1) rfl).cell rfl)) nd ?_
                        refine U.p (v := .pointer (some ⟨b95, 6, none⟩)) rfl rfl (.inr ⟨_, _, _, rfl, rfl, ((L 2 rfl rfl).trans (congrArg Value.bool g231))⟩) (S.fieldAddr rfl (L 36 rfl rfl) Try.underlying42 rfl ti3 rfl rfl) ?_
                        refine U.k rfl rfl (.inr ⟨_, _, _, rfl, rfl, ((L 3 rfl rfl).trans (congrArg Value.bool g231))⟩) (S.load rfl (L 0 rfl rfl) Try.underlying3 rfl ((ow102.own (k := 0) rfl).cell rfl)) nd ?_
                        refine U.p rfl rfl (.inr ⟨_, _, _, rfl, rfl, ((L 4 rfl rfl).trans (congrArg Value.bool g231))⟩) (S.neqI rfl (L 2 rfl rfl) (L 0 rfl rfl)) ?_
                        refine U.p rfl rfl (.inl rfl) (S.pickF rfl ((L 5 rfl rfl).trans (congrArg Value.bool g231)) (L 0 rfl rfl)) ?_
                        exact kk [(89, .bool (decide (x61.what ≠ x82.what))), (88, .bool (decide (x61.what ≠ x82.what))), (87, .int .i64 x82.what), (86, .pointer (some ⟨b95, 6, none⟩)), (85, .int .i64 x61.what), (84, .pointer (some ⟨b74, 6, none⟩))] _ ⟨.bool (decide (x61.what ≠ x82.what)), .int .i64 x82.what, .pointer (some ⟨b95, 6, none⟩), .int .i64 x61.what, .pointer (some ⟨b74, 6, none⟩), rfl, (by rw [g231, Bool.false_or])⟩
                  · intro kk
                    refine bcase (b := (((decide (x61.op ≠ x82.op)) || (decide (x61.d ≠ x82.d))) || (decide (x61.a ≠ x82.a))) || (decide (x61.b ≠ x82.b))) (fun g232 => ?_) (fun g232 => ?_)
                    · skip
                      refine U.x rfl rfl rfl rfl ((L 0 rfl rfl).trans (congrArg Value.bool g232)) (by decide) ?_
                      refine U.x rfl rfl rfl rfl ((L 1 rfl rfl).trans (congrArg Value.bool g232)) (by decide) ?_
                      refine U.x rfl rfl rfl rfl ((L 2 rfl rfl).trans (congrArg Value.bool g232)) (by decide) ?_
                      refine U.x rfl rfl rfl rfl ((L 3 rfl rfl).trans (congrArg Value.bool g232)) (by decide) ?_
                      refine U.x rfl rfl rfl rfl ((L 4 rfl rfl).trans (congrArg Value.bool g232)) (by decide) ?_
                      refine U.p rfl rfl (.inl rfl) (S.pickT rfl ((L 5 rfl rfl).trans (congrArg Value.bool g232)) K) ?_
                      exact kk [(82, .bool true), (81, .tuple #[]), (80, .tuple #[]), (79, .tuple #[]), (78, .tuple #[]), (77, .tuple #[])] _ ⟨.tuple #[], .tuple #[], .tuple #[], .tuple #[], .tuple #[], rfl, (by rw [g232, Bool.true_or])⟩
                    · skip
                      refine U.p (v := .pointer (some ⟨b74, 4, none⟩)) rfl rfl (.inr ⟨_, _, _, rfl, rfl, ((L 0 rfl rfl).trans (congrArg Value.bool g232))⟩) (S.fieldAddr rfl (L 34 rfl rfl) Try.underlying42 rfl ti3 rfl rfl) ?_
                      refine U.k rfl rfl (.inr ⟨_, _, _, rfl, rfl, ((L 1 rfl rfl).trans (congrArg Value.bool g232))⟩) (S.load rfl (L 0 rfl rfl) Try.underlying3 rfl ((ow102.own (k := 1) rfl).cell rfl)) nd ?_
                      refine U.p (v := .pointer (some ⟨b95, 4, none⟩)) rfl rfl (.inr ⟨_, _, _, rfl, rfl, ((L 2 rfl rfl).trans (congrArg Value.bool g232))⟩) (S.fieldAddr rfl (L 29 rfl rfl) Try.underlying42 rfl ti3 rfl rfl) ?_
                      refine U.k rfl rfl (.inr ⟨_, _, _, rfl, rfl, ((L 3 rfl rfl).trans (congrArg Value.bool g232))⟩) (S.load rfl (L 0 rfl rfl) Try.underlying3 rfl ((ow102.own (k := 0) rfl).cell rfl)) nd ?_
                      refine U.p rfl rfl (.inr ⟨_, _, _, rfl, rfl, ((L 4 rfl rfl).trans (congrArg Value.bool g232))⟩) (S.neqI rfl (L 2 rfl rfl) (L 0 rfl rfl)) ?_
                      refine U.p rfl rfl (.inl rfl) (S.pickF rfl ((L 5 rfl rfl).trans (congrArg Value.bool g232)) (L 0 rfl rfl)) ?_
                      exact kk [(82, .bool (decide (x61.imm ≠ x82.imm))), (81, .bool (decide (x61.imm ≠ x82.imm))), (80, .int .i64 x82.imm), (79, .pointer (some ⟨b95, 4, none⟩)), (78, .int .i64 x61.imm), (77, .pointer (some ⟨b74, 4, none⟩))] _ ⟨.bool (decide (x61.imm ≠ x82.imm)), .int .i64 x82.imm, .pointer (some ⟨b95, 4, none⟩), .int .i64 x61.imm, .pointer (some ⟨b74, 4, none⟩), rfl, (by rw [g232, Bool.false_or])⟩
                · intro kk
                  refine bcase (b := ((decide (x61.op ≠ x82.op)) || (decide (x61.d ≠ x82.d))) || (decide (x61.a ≠ x82.a))) (fun g233 => ?_) (fun g233 => ?_)
                  · skip
                    refine U.x rfl rfl rfl rfl ((L 0 rfl rfl).trans (congrArg Value.bool g233)) (by decide) ?_
                    refine U.x rfl rfl rfl rfl ((L 1 rfl rfl).trans (congrArg Value.bool g233)) (by decide) ?_
                    refine U.x rfl rfl rfl rfl ((L 2 rfl rfl).trans (congrArg Value.bool g233)) (by decide) ?_
                    refine U.x rfl rfl rfl rfl ((L 3 rfl rfl).trans (congrArg Value.bool g233)) (by decide) ?_
                    refine U.x rfl rfl rfl rfl ((L 4 rfl rfl).trans (congrArg Value.bool g233)) (by decide) ?_
                    refine U.p rfl rfl (.inl rfl) (S.pickT rfl ((L 5 rfl rfl).trans (congrArg Value.bool g233)) K) ?_
                    exact kk [(75, .bool true), (74, .tuple #[]), (73, .tuple #[]), (72, .tuple #[]), (71, .tuple #[]), (70, .tuple #[])] _ ⟨.tuple #[], .tuple #[], .tuple #[], .tuple #[], .tuple #[], rfl, (by rw [g233, Bool.true_or])⟩
                  · skip
                    refine U.p (v := .pointer (some ⟨b74, 3, none⟩)) rfl rfl (.inr ⟨_, _, _, rfl, rfl, ((L 0 rfl rfl).trans (congrArg Value.bool g233))⟩) (S.fieldAddr rfl (L 27 rfl rfl) Try.underlying42 rfl ti3 rfl rfl) ?_
                    refine U.k rfl rfl (.inr ⟨_, _, _, rfl, rfl, ((L 1 rfl rfl).trans (congrArg Value.bool g233))⟩) (S.load rfl (L 0 rfl rfl) Try.underlying3 rfl ((ow102.own (k := 1) rfl).cell rfl)) nd ?_
                    refine U.p (v := .pointer (some ⟨b95, 3, none⟩)) rfl rfl (.inr ⟨_, _, _, rfl, rfl, ((L 2 rfl rfl).trans (congrArg Value.bool g233))⟩) (S.fieldAddr rfl (L 22 rfl rfl) Try.underlying42 rfl ti3 rfl rfl) ?_
                    refine U.k rfl rfl (.inr ⟨_, _, _, rfl, rfl, ((L 3 rfl rfl).trans (congrArg Value.bool g233))⟩) (S.load rfl (L 0 rfl rfl) Try.underlying3 rfl ((ow102.own (k := 0) rfl).cell rfl)) nd ?_
                    refine U.p rfl rfl (.inr ⟨_, _, _, rfl, rfl, ((L 4 rfl rfl).trans (congrArg Value.bool g233))⟩) (S.neqI rfl (L 2 rfl rfl) (L 0 rfl rfl)) ?_
                    refine U.p rfl rfl (.inl rfl) (S.pickF rfl ((L 5 rfl rfl).trans (congrArg Value.bool g233)) (L 0 rfl rfl)) ?_
                    exact kk [(75, .bool (decide (x61.b ≠ x82.b))), (74, .bool (decide (x61.b ≠ x82.b))), (73, .int .i64 x82.b), (72, .pointer (some ⟨b95, 3, none⟩)), (71, .int .i64 x61.b), (70, .pointer (some ⟨b74, 3, none⟩))] _ ⟨.bool (decide (x61.b ≠ x82.b)), .int .i64 x82.b, .pointer (some ⟨b95, 3, none⟩), .int .i64 x61.b, .pointer (some ⟨b74, 3, none⟩), rfl, (by rw [g233, Bool.false_or])⟩
              · intro kk
                refine bcase (b := (decide (x61.op ≠ x82.op)) || (decide (x61.d ≠ x82.d))) (fun g234 => ?_) (fun g234 => ?_)
                · skip
                  refine U.x rfl rfl rfl rfl ((L 0 rfl rfl).trans (congrArg Value.bool g234)) (by decide) ?_
                  refine U.x rfl rfl rfl rfl ((L 1 rfl rfl).trans (congrArg Value.bool g234)) (by decide) ?_
                  refine U.x rfl rfl rfl rfl ((L 2 rfl rfl).trans (congrArg Value.bool g234)) (by decide) ?_
                  refine U.x rfl rfl rfl rfl ((L 3 rfl rfl).trans (congrArg Value.bool g234)) (by decide) ?_
                  refine U.x rfl rfl rfl rfl ((L 4 rfl rfl).trans (congrArg Value.bool g234)) (by decide) ?_
                  refine U.p rfl rfl (.inl rfl) (S.pickT rfl ((L 5 rfl rfl).trans (congrArg Value.bool g234)) K) ?_
                  exact kk [(68, .bool true), (67, .tuple #[]), (66, .tuple #[]), (65, .tuple #[]), (64, .tuple #[]), (63, .tuple #[])] _ ⟨.tuple #[], .tuple #[], .tuple #[], .tuple #[], .tuple #[], rfl, (by rw [g234, Bool.true_or])⟩
                · skip
                  refine U.p (v := .pointer (some ⟨b74, 2, none⟩)) rfl rfl (.inr ⟨_, _, _, rfl, rfl, ((L 0 rfl rfl).trans (congrArg Value.bool g234))⟩) (S.fieldAddr rfl (L 20 rfl rfl) Try.underlying42 rfl ti3 rfl rfl) ?_
                  refine U.k rfl rfl (.inr ⟨_, _, _, rfl, rfl, ((L 1 rfl rfl).trans (congrArg Value.bool g234))⟩) (S.load rfl (L 0 rfl rfl) Try.underlying3 rfl ((ow102.own (k := 1) rfl).cell rfl)) nd ?_
                  refine U.p (v := .pointer (some ⟨b95, 2, none⟩)) rfl rfl (.inr ⟨_, _, _, rfl, rfl, ((L 2 rfl rfl).trans (congrArg Value.bool g234))⟩) (S.fieldAddr rfl (L 15 rfl rfl) Try.underlying42 rfl ti3 rfl rfl) ?_
                  refine U.k rfl rfl (.inr ⟨_, _, _, rfl, rfl, ((L 3 rfl rfl).trans (congrArg Value.bool g234))⟩) (S.load rfl (L 0 rfl rfl) Try.underlying3 rfl ((ow102.own (k := 0) rfl).cell rfl)) nd ?_
                  refine U.p rfl rfl (.inr ⟨_, _, _, rfl, rfl, ((L 4 rfl rfl).trans (congrArg Value.bool g234))⟩) (S.neqI rfl (L 2 rfl rfl) (L 0 rfl rfl)) ?_
                  refine U.p rfl rfl (.inl rfl) (S.pickF rfl ((L 5 rfl rfl).trans (congrArg Value.bool g234)) (L 0 rfl rfl)) ?_
                  exact kk [(68, .bool (decide (x61.a ≠ x82.a))), (67, .bool (decide (x61.a ≠ x82.a))), (66, .int .i64 x82.a), (65, .pointer (some ⟨b95, 2, none⟩)), (64, .int .i64 x61.a), (63, .pointer (some ⟨b74, 2, none⟩))] _ ⟨.bool (decide (x61.a ≠ x82.a)), .int .i64 x82.a, .pointer (some ⟨b95, 2, none⟩), .int .i64 x61.a, .pointer (some ⟨b74, 2, none⟩), rfl, (by rw [g234, Bool.false_or])⟩
            · intro kk
              refine bcase (b := decide (x61.op ≠ x82.op)) (fun g235 => ?_) (fun g235 => ?_)
              · skip
                refine U.x rfl rfl rfl rfl ((L 0 rfl rfl).trans (congrArg Value.bool g235)) (by decide) ?_
                refine U.x rfl rfl rfl rfl ((L 1 rfl rfl).trans (congrArg Value.bool g235)) (by decide) ?_
                refine U.x rfl rfl rfl rfl ((L 2 rfl rfl).trans (congrArg Value.bool g235)) (by decide) ?_
                refine U.x rfl rfl rfl rfl ((L 3 rfl rfl).trans (congrArg Value.bool g235)) (by decide) ?_
                refine U.x rfl rfl rfl rfl ((L 4 rfl rfl).trans (congrArg Value.bool g235)) (by decide) ?_
                refine U.p rfl rfl (.inl rfl) (S.pickT rfl ((L 5 rfl rfl).trans (congrArg Value.bool g235)) K) ?_
                exact kk [(61, .bool true), (60, .tuple #[]), (59, .tuple #[]), (58, .tuple #[]), (57, .tuple #[]), (56, .tuple #[])] _ ⟨.tuple #[], .tuple #[], .tuple #[], .tuple #[], .tuple #[], rfl, (by rw [g235, Bool.true_or])⟩
              · skip
                refine U.p (v := .pointer (some ⟨b74, 1, none⟩)) rfl rfl (.inr ⟨_, _, _, rfl, rfl, ((L 0 rfl rfl).trans (congrArg Value.bool g235))⟩) (S.fieldAddr rfl (L 13 rfl rfl) Try.underlying42 rfl ti3 rfl rfl) ?_
                refine U.k rfl rfl (.inr ⟨_, _, _, rfl, rfl, ((L 1 rfl rfl).trans (congrArg Value.bool g235))⟩) (S.load rfl (L 0 rfl rfl) Try.underlying3 rfl ((ow102.own (k := 1) rfl).cell rfl)) nd ?_
                refine U.p (v := .pointer (some ⟨b95, 1, none⟩)) rfl rfl (.inr ⟨_, _, _, rfl, rfl, ((L 2 rfl rfl).trans (congrArg Value.bool g235))⟩) (S.fieldAddr rfl (L 8 rfl rfl) Try.underlying42 rfl ti3 rfl rfl) ?_
                refine U.k rfl rfl (.inr ⟨_, _, _, rfl, rfl, ((L 3 rfl rfl).trans (congrArg Value.bool g235))⟩) (S.load rfl (L 0 rfl rfl) Try.underlying3 rfl ((ow102.own (k := 0) rfl).cell rfl)) nd ?_
                refine U.p rfl rfl (.inr ⟨_, _, _, rfl, rfl, ((L 4 rfl rfl).trans (congrArg Value.bool g235))⟩) (S.neqI rfl (L 2 rfl rfl) (L 0 rfl rfl)) ?_
                refine U.p rfl rfl (.inl rfl) (S.pickF rfl ((L 5 rfl rfl).trans (congrArg Value.bool g235)) (L 0 rfl rfl)) ?_
                exact kk [(61, .bool (decide (x61.d ≠ x82.d))), (60, .bool (decide (x61.d ≠ x82.d))), (59, .int .i64 x82.d), (58, .pointer (some ⟨b95, 1, none⟩)), (57, .int .i64 x61.d), (56, .pointer (some ⟨b74, 1, none⟩))] _ ⟨.bool (decide (x61.d ≠ x82.d)), .int .i64 x82.d, .pointer (some ⟨b95, 1, none⟩), .int .i64 x61.d, .pointer (some ⟨b74, 1, none⟩), rfl, (by rw [g235, Bool.false_or])⟩
          · have h236 := ifF c59 h58
            refine WP.exit ?_
            refine sqE (sqE (blkE (sqN ?_)))
            have h237 := exitS h236 e56
            refine WP.usreg rfl ?_
            refine U.p rfl rfl (.inl rfl) (S.assign rfl K) ?_
            refine U.done (Nat.le_of_ble_eq_true rfl) ?_
            refine WP.ret ?_
            refine fin.slot (.inr rfl) rfl (L 0 rfl rfl) ⟨V51, rfl, ((le7.trans le12).trans le52), ?_⟩
            have ow238 := ow53.drop 0 rfl
            have e239 := Option.some.inj h237
            subst e239
            exact ⟨rfl, ow238⟩
      · intro kk
        refine bcase (b := ((decide (p0.name ≠ p1.name)) || (decide (p0.params ≠ p1.params))) || (decide (p0.regs ≠ p1.regs))) (fun g240 => ?_) (fun g240 => ?_)
        · skip
          refine U.x rfl rfl rfl rfl ((L 0 rfl rfl).trans (congrArg Value.bool g240)) (by decide) ?_
          refine U.x rfl rfl rfl rfl ((L 1 rfl rfl).trans (congrArg Value.bool g240)) (by decide) ?_
          refine U.x rfl rfl rfl rfl ((L 2 rfl rfl).trans (congrArg Value.bool g240)) (by decide) ?_
          refine U.x rfl rfl rfl rfl ((L 3 rfl rfl).trans (congrArg Value.bool g240)) (by decide) ?_
          refine U.x rfl rfl rfl rfl ((L 4 rfl rfl).trans (congrArg Value.bool g240)) (by decide) ?_
          refine U.x rfl rfl rfl rfl ((L 5 rfl rfl).trans (congrArg Value.bool g240)) (by decide) ?_
          refine U.x rfl rfl rfl rfl ((L 6 rfl rfl).trans (congrArg Value.bool g240)) (by decide) ?_
          refine U.p rfl rfl (.inl rfl) (S.pickT rfl ((L 7 rfl rfl).trans (congrArg Value.bool g240)) K) ?_
          exact kk [(36, .bool true), (35, .tuple #[]), (34, .tuple #[]), (33, .tuple #[]), (32, .tuple #[]), (31, .tuple #[]), (30, .tuple #[]), (29, .tuple #[])] _ ⟨.tuple #[], .tuple #[], .tuple #[], .tuple #[], .tuple #[], .tuple #[], .tuple #[], rfl, (by rw [g240, Bool.true_or])⟩
        · skip
          refine U.p (v := .pointer (some ⟨b5, 3, none⟩)) rfl rfl (.inr ⟨_, _, _, rfl, rfl, ((L 0 rfl rfl).trans (congrArg Value.bool g240))⟩) (S.fieldAddr rfl (L 22 rfl rfl) Try.underlying33 rfl ti31 rfl rfl) ?_
          refine U.k rfl rfl (.inr ⟨_, _, _, rfl, rfl, ((L 1 rfl rfl).trans (congrArg Value.bool g240))⟩) (S.load rfl (L 0 rfl rfl) Try.underlying31 rfl ((ow13.own (k := 1) rfl).cell rfl)) nd ?_
          refine U.p rfl rfl (.inr ⟨_, _, _, rfl, rfl, ((L 2 rfl rfl).trans (congrArg Value.bool g240))⟩) (f2.1.len rfl (L 0 rfl rfl) Try.underlying31) ?_
          refine U.p (v := .pointer (some ⟨b10, 3, none⟩)) rfl rfl (.inr ⟨_, _, _, rfl, rfl, ((L 3 rfl rfl).trans (congrArg Value.bool g240))⟩) (S.fieldAddr rfl (L 24 rfl rfl) Try.underlying33 rfl ti31 rfl rfl) ?_
          refine U.k rfl rfl (.inr ⟨_, _, _, rfl, rfl, ((L 4 rfl rfl).trans (congrArg Value.bool g240))⟩) (S.load rfl (L 0 rfl rfl) Try.underlying31 rfl ((ow13.own (k := 0) rfl).cell rfl)) nd ?_
          refine U.p rfl rfl (.inr ⟨_, _, _, rfl, rfl, ((L 5 rfl rfl).trans (congrArg Value.bool g240))⟩) (f4.1.len rfl (L 0 rfl rfl) Try.underlying31) ?_
          refine U.p rfl rfl (.inr ⟨_, _, _, rfl, rfl, ((L 6 rfl rfl).trans (congrArg Value.bool g240))⟩) (S.neqI rfl (L 3 rfl rfl) (L 0 rfl rfl)) ?_
          refine U.p rfl rfl (.inl rfl) (S.pickF rfl ((L 7 rfl rfl).trans (congrArg Value.bool g240)) (L 0 rfl rfl)) ?_
          exact kk [(36, .bool (decide ((p0.code.length : Int) ≠ (p1.code.length : Int)))), (35, .bool (decide ((p0.code.length : Int) ≠ (p1.code.length : Int)))), (34, .int .i64 (p1.code.length : Int)), (33, v3), (32, .pointer (some ⟨b10, 3, none⟩)), (31, .int .i64 (p0.code.length : Int)), (30, v1), (29, .pointer (some ⟨b5, 3, none⟩))] _ ⟨.bool (decide ((p0.code.length : Int) ≠ (p1.code.length : Int))), .int .i64 (p1.code.length : Int), v3, .pointer (some ⟨b10, 3, none⟩), .int .i64 (p0.code.length : Int), v1, .pointer (some ⟨b5, 3, none⟩), rfl, (by rw [g240, Bool.false_or])⟩
    · intro kk
      refine bcase (b := (decide (p0.name ≠ p1.name)) || (decide (p0.params ≠ p1.params))) (fun g241 => ?_) (fun g241 => ?_)
      · skip
        refine U.x rfl rfl rfl rfl ((L 0 rfl rfl).trans (congrArg Value.bool g241)) (by decide) ?_
        refine U.x rfl rfl rfl rfl ((L 1 rfl rfl).trans (congrArg Value.bool g241)) (by decide) ?_
        refine U.x rfl rfl rfl rfl ((L 2 rfl rfl).trans (congrArg Value.bool g241)) (by decide) ?_
        refine U.x rfl rfl rfl rfl ((L 3 rfl rfl).trans (congrArg Value.bool g241)) (by decide) ?_
        refine U.x rfl rfl rfl rfl ((L 4 rfl rfl).trans (congrArg Value.bool g241)) (by decide) ?_
        refine U.p rfl rfl (.inl rfl) (S.pickT rfl ((L 5 rfl rfl).trans (congrArg Value.bool g241)) K) ?_
        exact kk [(27, .bool true), (26, .tuple #[]), (25, .tuple #[]), (24, .tuple #[]), (23, .tuple #[]), (22, .tuple #[])] _ ⟨.tuple #[], .tuple #[], .tuple #[], .tuple #[], .tuple #[], rfl, (by rw [g241, Bool.true_or])⟩
      · skip
        refine U.p (v := .pointer (some ⟨b5, 2, none⟩)) rfl rfl (.inr ⟨_, _, _, rfl, rfl, ((L 0 rfl rfl).trans (congrArg Value.bool g241))⟩) (S.fieldAddr rfl (L 15 rfl rfl) Try.underlying33 rfl ti3 rfl rfl) ?_
        refine U.k rfl rfl (.inr ⟨_, _, _, rfl, rfl, ((L 1 rfl rfl).trans (congrArg Value.bool g241))⟩) (S.load rfl (L 0 rfl rfl) Try.underlying3 rfl ((ow13.own (k := 1) rfl).cell rfl)) nd ?_
        refine U.p (v := .pointer (some ⟨b10, 2, none⟩)) rfl rfl (.inr ⟨_, _, _, rfl, rfl, ((L 2 rfl rfl).trans (congrArg Value.bool g241))⟩) (S.fieldAddr rfl (L 16 rfl rfl) Try.underlying33 rfl ti3 rfl rfl) ?_
        refine U.k rfl rfl (.inr ⟨_, _, _, rfl, rfl, ((L 3 rfl rfl).trans (congrArg Value.bool g241))⟩) (S.load rfl (L 0 rfl rfl) Try.underlying3 rfl ((ow13.own (k := 0) rfl).cell rfl)) nd ?_
        refine U.p rfl rfl (.inr ⟨_, _, _, rfl, rfl, ((L 4 rfl rfl).trans (congrArg Value.bool g241))⟩) (S.neqI rfl (L 2 rfl rfl) (L 0 rfl rfl)) ?_
        refine U.p rfl rfl (.inl rfl) (S.pickF rfl ((L 5 rfl rfl).trans (congrArg Value.bool g241)) (L 0 rfl rfl)) ?_
        exact kk [(27, .bool (decide (p0.regs ≠ p1.regs))), (26, .bool (decide (p0.regs ≠ p1.regs))), (25, .int .i64 p1.regs), (24, .pointer (some ⟨b10, 2, none⟩)), (23, .int .i64 p0.regs), (22, .pointer (some ⟨b5, 2, none⟩))] _ ⟨.bool (decide (p0.regs ≠ p1.regs)), .int .i64 p1.regs, .pointer (some ⟨b10, 2, none⟩), .int .i64 p0.regs, .pointer (some ⟨b5, 2, none⟩), rfl, (by rw [g241, Bool.false_or])⟩
  · intro kk
    refine bcase (b := decide (p0.name ≠ p1.name)) (fun g242 => ?_) (fun g242 => ?_)
    · skip
      refine U.x rfl rfl rfl rfl ((L 0 rfl rfl).trans (congrArg Value.bool g242)) (by decide) ?_
      refine U.x rfl rfl rfl rfl ((L 1 rfl rfl).trans (congrArg Value.bool g242)) (by decide) ?_
      refine U.x rfl rfl rfl rfl ((L 2 rfl rfl).trans (congrArg Value.bool g242)) (by decide) ?_
      refine U.x rfl rfl rfl rfl ((L 3 rfl rfl).trans (congrArg Value.bool g242)) (by decide) ?_
      refine U.x rfl rfl rfl rfl ((L 4 rfl rfl).trans (congrArg Value.bool g242)) (by decide) ?_
      refine U.p rfl rfl (.inl rfl) (S.pickT rfl ((L 5 rfl rfl).trans (congrArg Value.bool g242)) K) ?_
      exact kk [(20, .bool true), (19, .tuple #[]), (18, .tuple #[]), (17, .tuple #[]), (16, .tuple #[]), (15, .tuple #[])] _ ⟨.tuple #[], .tuple #[], .tuple #[], .tuple #[], .tuple #[], rfl, (by rw [g242, Bool.true_or])⟩
    · skip
      refine U.p (v := .pointer (some ⟨b5, 1, none⟩)) rfl rfl (.inr ⟨_, _, _, rfl, rfl, ((L 0 rfl rfl).trans (congrArg Value.bool g242))⟩) (S.fieldAddr rfl (L 8 rfl rfl) Try.underlying33 rfl ti3 rfl rfl) ?_
      refine U.k rfl rfl (.inr ⟨_, _, _, rfl, rfl, ((L 1 rfl rfl).trans (congrArg Value.bool g242))⟩) (S.load rfl (L 0 rfl rfl) Try.underlying3 rfl ((ow13.own (k := 1) rfl).cell rfl)) nd ?_
      refine U.p (v := .pointer (some ⟨b10, 1, none⟩)) rfl rfl (.inr ⟨_, _, _, rfl, rfl, ((L 2 rfl rfl).trans (congrArg Value.bool g242))⟩) (S.fieldAddr rfl (L 9 rfl rfl) Try.underlying33 rfl ti3 rfl rfl) ?_
      refine U.k rfl rfl (.inr ⟨_, _, _, rfl, rfl, ((L 3 rfl rfl).trans (congrArg Value.bool g242))⟩) (S.load rfl (L 0 rfl rfl) Try.underlying3 rfl ((ow13.own (k := 0) rfl).cell rfl)) nd ?_
      refine U.p rfl rfl (.inr ⟨_, _, _, rfl, rfl, ((L 4 rfl rfl).trans (congrArg Value.bool g242))⟩) (S.neqI rfl (L 2 rfl rfl) (L 0 rfl rfl)) ?_
      refine U.p rfl rfl (.inl rfl) (S.pickF rfl ((L 5 rfl rfl).trans (congrArg Value.bool g242)) (L 0 rfl rfl)) ?_
      exact kk [(20, .bool (decide (p0.params ≠ p1.params))), (19, .bool (decide (p0.params ≠ p1.params))), (18, .int .i64 p1.params), (17, .pointer (some ⟨b10, 1, none⟩)), (16, .int .i64 p0.params), (15, .pointer (some ⟨b5, 1, none⟩))] _ ⟨.bool (decide (p0.params ≠ p1.params)), .int .i64 p1.params, .pointer (some ⟨b10, 1, none⟩), .int .i64 p0.params, .pointer (some ⟨b5, 1, none⟩), rfl, (by rw [g242, Bool.false_or])⟩

set_option maxHeartbeats 4000000 in
theorem wk_ref08_has (V : Vw) (Rs : List At) (p0 : Int) (ow : Ow V (Rs)) (r : Bool × Bool × Bool × Bool) (h : ref08_has p0 = some r) : ∃ v V', Cl Try.prog 0 24 #[.int .i64 p0] V.H v V'.H ∧ V.le V' ∧ (v = .tuple #[.bool r.1, .bool r.2.1, .bool r.2.2.1, .bool r.2.2.2] ∧ Ow V' (Rs)) := by
  refine Ct.of (Nat.zero_le _) Try.func24 rfl (Nat.le_of_ble_eq_true rfl) ?_
  unfold ref08_has at h
  refine WP.usreg rfl ?_
  refine U.p rfl rfl (.inl rfl) (S.assign rfl K) ?_
  refine U.p rfl rfl (.inl rfl) (S.assign rfl K) ?_
  refine U.p rfl rfl (.inl rfl) (S.assign rfl K) ?_
  refine U.p rfl rfl (.inl rfl) (S.assign rfl K) ?_
  refine U.done (Nat.le_of_ble_eq_true rfl) ?_
  refine WP.seq ?_
  refine WP.usreg rfl ?_
  refine U.p rfl rfl (.inl rfl) (S.move rfl (L 4 rfl rfl)) ?_
  refine U.done (Nat.le_of_ble_eq_true rfl) ?_
  refine WP.blk ?_
  refine WP.seqI (fun l V' => ∃ (x1 : Bool), l = [(6, .int .i64 p0), (7, .bool x1)] ∧ V.le V' ∧ Ow V' (Rs) ∧ ref08_has_k1 p0 x1 = some r) ?_ ?_
  · rintro _ V2 ⟨x1, rfl, le3, ow4, h5⟩
    unfold ref08_has_k1 at h5
    refine WP.cond _ (L 1 rfl rfl) rfl (fun c6 => ?_) (fun c6 => ?_)
    · have h7 := ifT c6 h5
      refine WP.usreg rfl ?_
      refine U.p rfl rfl (.inl rfl) (S.assign rfl K) ?_
      refine U.p rfl rfl (.inl rfl) (S.assign rfl K) ?_
      refine U.p rfl rfl (.inl rfl) (S.assign rfl K) ?_
      refine U.p rfl rfl (.inl rfl) (S.assign rfl K) ?_
      refine U.done (Nat.le_of_ble_eq_true rfl) ?_
      refine WP.ret ?_
      refine blkR (sqR ?_)
      refine fin.slots' (.inr rfl) (fsC (L 3 rfl rfl) (fsC (L 2 rfl rfl) (fsC (L 1 rfl rfl) (fsC (L 0 rfl rfl) fsN)))) rfl ⟨V2, rfl, le3, ?_⟩
      have e8 := Option.some.inj h7
      subst e8
      exact ⟨rfl, ow4⟩
    · have h9 := ifF c6 h5
      refine WP.seqI (fun l V' => ∃ (x10 : Bool), l = [(6, .int .i64 p0), (10, .bool x10)] ∧ V2.le V' ∧ Ow V' (Rs) ∧ ref08_has_k2 p0 x10 = some r) ?_ ?_
      · rintro _ V11 ⟨x10, rfl, le12, ow13, h14⟩
        unfold ref08_has_k2 at h14
        refine WP.cond _ (L 1 rfl rfl) rfl (fun c15 => ?_) (fun c15 => ?_)
        · have h16 := ifT c15 h14
          refine WP.usreg rfl ?_
          refine U.p rfl rfl (.inl rfl) (S.assign rfl K) ?_
          refine U.p rfl rfl (.inl rfl) (S.assign rfl K) ?_
          refine U.p rfl rfl (.inl rfl) (S.assign rfl K) ?_
          refine U.p rfl rfl (.inl rfl) (S.assign rfl K) ?_
          refine U.done (Nat.le_of_ble_eq_true rfl) ?_
          refine WP.ret ?_
          refine blkR (sqR ?_)
          refine fin.slots' (.inr rfl) (fsC (L 3 rfl rfl) (fsC (L 2 rfl rfl) (fsC (L 1 rfl rfl) (fsC (L 0 rfl rfl) fsN)))) rfl ⟨V11, rfl, (le3.trans le12), ?_⟩
          have e17 := Option.some.inj h16
          subst e17
          exact ⟨rfl, ow13⟩
        · have h18 := ifF c15 h14
          refine WP.seqI (fun l V' => ∃ (x19 : Bool), l = [(6, .int .i64 p0), (13, .bool x19)] ∧ V11.le V' ∧ Ow V' (Rs) ∧ ref08_has_k3 p0 x19 = some r) ?_ ?_
          · rintro _ V20 ⟨x19, rfl, le21, ow22, h23⟩
            unfold ref08_has_k3 at h23
            refine WP.cond _ (L 1 rfl rfl) rfl (fun c24 => ?_) (fun c24 => ?_)
            · have h25 := ifT c24 h23
              refine WP.usreg rfl ?_
              refine U.p rfl rfl (.inl rfl) (S.assign rfl K) ?_
              refine U.p rfl rfl (.inl rfl) (S.assign rfl K) ?_
              refine U.p rfl rfl (.inl rfl) (S.assign rfl K) ?_
              refine U.p rfl rfl (.inl rfl) (S.assign rfl K) ?_
              refine U.done (Nat.le_of_ble_eq_true rfl) ?_
              refine WP.ret ?_
              refine blkR (sqR ?_)
              refine fin.slots' (.inr rfl) (fsC (L 3 rfl rfl) (fsC (L 2 rfl rfl) (fsC (L 1 rfl rfl) (fsC (L 0 rfl rfl) fsN)))) rfl ⟨V20, rfl, ((le3.trans le12).trans le21), ?_⟩
              have e26 := Option.some.inj h25
              subst e26
              exact ⟨rfl, ow22⟩
            · have h27 := ifF c24 h23
              refine WP.usreg rfl ?_
              refine U.p rfl rfl (.inl rfl) (S.eqlI rfl (L 0 rfl rfl) K) ?_
              refine U.p rfl rfl (.inl rfl) (S.assign rfl (L 0 rfl rfl)) ?_
              refine U.done (Nat.le_of_ble_eq_true rfl) ?_
              refine WP.cond _ (L 0 rfl rfl) rfl (fun c28 => ?_) (fun c28 => ?_)
              · have h29 := ifT c28 h27
                refine WP.usreg rfl ?_
                refine U.p rfl rfl (.inl rfl) (S.assign rfl K) ?_
                refine U.p rfl rfl (.inl rfl) (S.assign rfl K) ?_
                refine U.p rfl rfl (.inl rfl) (S.assign rfl K) ?_
                refine U.p rfl rfl (.inl rfl) (S.assign rfl K) ?_
                refine U.done (Nat.le_of_ble_eq_true rfl) ?_
                refine WP.ret ?_
                refine blkR (sqR ?_)
                refine fin.slots' (.inr rfl) (fsC (L 3 rfl rfl) (fsC (L 2 rfl rfl) (fsC (L 1 rfl rfl) (fsC (L 0 rfl rfl) fsN)))) rfl ⟨V20, rfl, ((le3.trans le12).trans le21), ?_⟩
                have e30 := Option.some.inj h29
                subst e30
                exact ⟨rfl, ow22⟩
              · have h31 := ifF c28 h27
                refine WP.seqI (fun l V' => ∃ (x32 : Bool), l = [(6, .int .i64 p0), (22, .bool x32)] ∧ V20.le V' ∧ Ow V' (Rs) ∧ ref08_has_k4 p0 x32 = some r) ?_ ?_
                · rintro _ V33 ⟨x32, rfl, le34, ow35, h36⟩
                  unfold ref08_has_k4 at h36
                  refine WP.cond _ (L 1 rfl rfl) rfl (fun c37 => ?_) (fun c37 => ?_)
                  · have h38 := ifT c37 h36
                    refine WP.usreg rfl ?_
                    refine U.p rfl rfl (.inl rfl) (S.assign rfl K) ?_
                    refine U.p rfl rfl (.inl rfl) (S.assign rfl K) ?_
                    refine U.p rfl rfl (.inl rfl) (S.assign rfl K) ?_
                    refine U.p rfl rfl (.inl rfl) (S.assign rfl K) ?_
                    refine U.done (Nat.le_of_ble_eq_true rfl) ?_
                    refine WP.ret ?_
                    refine blkR (sqR ?_)
                    refine fin.slots' (.inr rfl) (fsC (L 3 rfl rfl) (fsC (L 2 rfl rfl) (fsC (L 1 rfl rfl) (fsC (L 0 rfl rfl) fsN)))) rfl ⟨V33, rfl, (((le3.trans le12).trans le21).trans le34), ?_⟩
                    have e39 := Option.some.inj h38
                    subst e39
                    exact ⟨rfl, ow35⟩
                  · have h40 := ifF c37 h36
                    refine WP.usreg rfl ?_
                    refine U.p rfl rfl (.inl rfl) (S.eqlI rfl (L 0 rfl rfl) K) ?_
                    refine U.p rfl rfl (.inl rfl) (S.assign rfl (L 0 rfl rfl)) ?_
                    refine U.done (Nat.le_of_ble_eq_true rfl) ?_
                    refine WP.cond _ (L 0 rfl rfl) rfl (fun c41 => ?_) (fun c41 => ?_)
                    · have h42 := ifT c41 h40
                      refine WP.usreg rfl ?_
                      refine U.p rfl rfl (.inl rfl) (S.assign rfl K) ?_
                      refine U.p rfl rfl (.inl rfl) (S.assign rfl K) ?_
                      refine U.p rfl rfl (.inl rfl) (S.assign rfl K) ?_
                      refine U.p rfl rfl (.inl rfl) (S.assign rfl K) ?_
                      refine U.done (Nat.le_of_ble_eq_true rfl) ?_
                      refine WP.ret ?_
                      refine blkR (sqR ?_)
                      refine fin.slots' (.inr rfl) (fsC (L 3 rfl rfl) (fsC (L 2 rfl rfl) (fsC (L 1 rfl rfl) (fsC (L 0 rfl rfl) fsN)))) rfl ⟨V33, rfl, (((le3.trans le12).trans le21).trans le34), ?_⟩
                      have e43 := Option.some.inj h42
                      subst e43
                      exact ⟨rfl, ow35⟩
                    · have h44 := ifF c41 h40
                      refine WP.usreg rfl ?_
                      refine U.p rfl rfl (.inl rfl) (S.eqlI rfl (L 2 rfl rfl) K) ?_
                      refine U.p rfl rfl (.inl rfl) (S.assign rfl (L 0 rfl rfl)) ?_
                      refine U.done (Nat.le_of_ble_eq_true rfl) ?_
                      refine WP.cond _ (L 0 rfl rfl) rfl (fun c45 => ?_) (fun c45 => ?_)
                      · have h46 := ifT c45 h44
                        refine WP.usreg rfl ?_
                        refine U.p rfl rfl (.inl rfl) (S.assign rfl K) ?_
                        refine U.p rfl rfl (.inl rfl) (S.assign rfl K) ?_
                        refine U.p rfl rfl (.inl rfl) (S.assign rfl K) ?_
                        refine U.p rfl rfl (.inl rfl) (S.assign rfl K) ?_
                        refine U.done (Nat.le_of_ble_eq_true rfl) ?_
                        refine WP.ret ?_
                        refine blkR (sqR ?_)
                        refine fin.slots' (.inr rfl) (fsC (L 3 rfl rfl) (fsC (L 2 rfl rfl) (fsC (L 1 rfl rfl) (fsC (L 0 rfl rfl) fsN)))) rfl ⟨V33, rfl, (((le3.trans le12).trans le21).trans le34), ?_⟩
                        have e47 := Option.some.inj h46
                        subst e47
                        exact ⟨rfl, ow35⟩
                      · have h48 := ifF c45 h44
                        refine WP.seqI (fun l V' => ∃ (x49 : Bool), l = [(29, .bool x49)] ∧ V33.le V' ∧ Ow V' (Rs) ∧ ref08_has_k5 x49 = some r) ?_ ?_
                        · rintro _ V50 ⟨x49, rfl, le51, ow52, h53⟩
                          unfold ref08_has_k5 at h53
                          refine WP.cond _ (L 0 rfl rfl) rfl (fun c54 => ?_) (fun c54 => ?_)
                          · have h55 := ifT c54 h53
                            refine WP.usreg rfl ?_
                            refine U.p rfl rfl (.inl rfl) (S.assign rfl K) ?_
                            refine U.p rfl rfl (.inl rfl) (S.assign rfl K) ?_
                            refine U.p rfl rfl (.inl rfl) (S.assign rfl K) ?_
                            refine U.p rfl rfl (.inl rfl) (S.assign rfl K) ?_
                            refine U.done (Nat.le_of_ble_eq_true rfl) ?_
                            refine WP.ret ?_
                            refine blkR (sqR ?_)
                            refine fin.slots' (.inr rfl) (fsC (L 3 rfl rfl) (fsC (L 2 rfl rfl) (fsC (L 1 rfl rfl) (fsC (L 0 rfl rfl) fsN)))) rfl ⟨V50, rfl, ((((le3.trans le12).trans le21).trans le34).trans le51), ?_⟩
                            have e56 := Option.some.inj h55
                            subst e56
                            exact ⟨rfl, ow52⟩
                          · have h57 := ifF c54 h53
                            refine WP.skip ?_
                            refine blkN (sqN ?_)
                            refine WP.usreg rfl ?_
                            refine U.p rfl rfl (.inl rfl) (S.assign rfl K) ?_
                            refine U.p rfl rfl (.inl rfl) (S.assign rfl K) ?_
                            refine U.p rfl rfl (.inl rfl) (S.assign rfl K) ?_
                            refine U.p rfl rfl (.inl rfl) (S.assign rfl K) ?_
                            refine U.done (Nat.le_of_ble_eq_true rfl) ?_
                            refine WP.ret ?_
                            refine fin.slots' (.inr rfl) (fsC (L 3 rfl rfl) (fsC (L 2 rfl rfl) (fsC (L 1 rfl rfl) (fsC (L 0 rfl rfl) fsN)))) rfl ⟨V50, rfl, ((((le3.trans le12).trans le21).trans le34).trans le51), ?_⟩
                            have e58 := Option.some.inj h57
                            subst e58
                            exact ⟨rfl, ow52⟩
                        · skip
                          refine WP.usreg rfl ?_
                          refine U.p rfl rfl (.inl rfl) (S.eqlI rfl (L 4 rfl rfl) K) ?_
                          refine U.p rfl rfl (.inl rfl) (S.assign rfl (L 0 rfl rfl)) ?_
                          refine U.done (Nat.le_of_ble_eq_true rfl) ?_
                          refine WP.cond _ (L 0 rfl rfl) rfl (fun c59 => ?_) (fun c59 => ?_)
                          · have h60 := ifT c59 h48
                            refine WP.skip ?_
                            refine sqN ?_
                            exact ⟨_, V33, rfl, ⟨true, rfl, (.refl _), ow35, h60⟩, (allCons ((L 0 rfl rfl).trans (congrArg Value.bool c59)) allNil)⟩
                          · have h61 := ifF c59 h48
                            refine WP.usreg rfl ?_
                            refine U.p rfl rfl (.inl rfl) (S.eqlI rfl (L 6 rfl rfl) K) ?_
                            refine U.p rfl rfl (.inl rfl) (S.assign rfl (L 0 rfl rfl)) ?_
                            refine U.done (Nat.le_of_ble_eq_true rfl) ?_
                            refine WP.cond _ (L 0 rfl rfl) rfl (fun c62 => ?_) (fun c62 => ?_)
                            · have h63 := ifT c62 h61
                              refine WP.skip ?_
                              refine sqN ?_
                              exact ⟨_, V33, rfl, ⟨true, rfl, (.refl _), ow35, h63⟩, (allCons ((L 0 rfl rfl).trans (congrArg Value.bool c62)) allNil)⟩
                            · have h64 := ifF c62 h61
                              refine WP.usreg rfl ?_
                              refine U.p rfl rfl (.inl rfl) (S.eqlI rfl (L 8 rfl rfl) K) ?_
                              refine U.p rfl rfl (.inl rfl) (S.assign rfl (L 0 rfl rfl)) ?_
                              refine U.done (Nat.le_of_ble_eq_true rfl) ?_
                              refine WP.cond _ (L 0 rfl rfl) rfl (fun c65 => ?_) (fun c65 => ?_)
                              · have h66 := ifT c65 h64
                                refine WP.skip ?_
                                refine sqN ?_
                                exact ⟨_, V33, rfl, ⟨true, rfl, (.refl _), ow35, h66⟩, (allCons ((L 0 rfl rfl).trans (congrArg Value.bool c65)) allNil)⟩
                              · have h67 := ifF c65 h64
                                refine WP.ureg rfl ?_
                                refine U.p rfl rfl (.inl rfl) (S.eqlI rfl (L 10 rfl rfl) K) ?_
                                refine U.p rfl rfl (.inl rfl) (S.assign rfl (L 0 rfl rfl)) ?_
                                refine U.done (Nat.le_of_ble_eq_true rfl) ?_
                                refine sqN ?_
                                exact ⟨_, V33, rfl, ⟨decide (p0 = 20), rfl, (.refl _), ow35, h67⟩, (allCons (L 0 rfl rfl) allNil)⟩
                · skip
                  refine WP.usreg rfl ?_
                  refine U.p rfl rfl (.inl rfl) (S.eqlI rfl (L 2 rfl rfl) K) ?_
                  refine U.p rfl rfl (.inl rfl) (S.assign rfl (L 0 rfl rfl)) ?_
                  refine U.done (Nat.le_of_ble_eq_true rfl) ?_
                  refine WP.cond _ (L 0 rfl rfl) rfl (fun c68 => ?_) (fun c68 => ?_)
                  · have h69 := ifT c68 h31
                    refine WP.skip ?_
                    refine sqN ?_
                    exact ⟨_, V20, rfl, ⟨true, rfl, (.refl _), ow22, h69⟩, (allCons (L 4 rfl rfl) (allCons ((L 0 rfl rfl).trans (congrArg Value.bool c68)) allNil))⟩
                  · have h70 := ifF c68 h31
                    refine WP.ureg rfl ?_
                    refine U.p rfl rfl (.inl rfl) (S.eqlI rfl (L 4 rfl rfl) K) ?_
                    refine U.p rfl rfl (.inl rfl) (S.assign rfl (L 0 rfl rfl)) ?_
                    refine U.done (Nat.le_of_ble_eq_true rfl) ?_
                    refine sqN ?_
                    exact ⟨_, V20, rfl, ⟨decide (p0 = 12), rfl, (.refl _), ow22, h70⟩, (allCons (L 6 rfl rfl) (allCons (L 0 rfl rfl) allNil))⟩
          · skip
            refine WP.usreg rfl ?_
            refine U.p rfl rfl (.inl rfl) (S.eqlI rfl (L 0 rfl rfl) K) ?_
            refine U.p rfl rfl (.inl rfl) (S.assign rfl (L 0 rfl rfl)) ?_
            refine U.done (Nat.le_of_ble_eq_true rfl) ?_
            refine WP.cond _ (L 0 rfl rfl) rfl (fun c71 => ?_) (fun c71 => ?_)
            · have h72 := ifT c71 h18
              refine WP.skip ?_
              refine sqN ?_
              exact ⟨_, V11, rfl, ⟨true, rfl, (.refl _), ow13, h72⟩, (allCons (L 2 rfl rfl) (allCons ((L 0 rfl rfl).trans (congrArg Value.bool c71)) allNil))⟩
            · have h73 := ifF c71 h18
              refine WP.usreg rfl ?_
              refine U.p rfl rfl (.inl rfl) (S.eqlI rfl (L 2 rfl rfl) K) ?_
              refine U.p rfl rfl (.inl rfl) (S.assign rfl (L 0 rfl rfl)) ?_
              refine U.done (Nat.le_of_ble_eq_true rfl) ?_
              refine WP.cond _ (L 0 rfl rfl) rfl (fun c74 => ?_) (fun c74 => ?_)
              · have h75 := ifT c74 h73
                refine WP.skip ?_
                refine sqN ?_
                exact ⟨_, V11, rfl, ⟨true, rfl, (.refl _), ow13, h75⟩, (allCons (L 4 rfl rfl) (allCons ((L 0 rfl rfl).trans (congrArg Value.bool c74)) allNil))⟩
              · have h76 := ifF c74 h73
                refine WP.usreg rfl ?_
                refine U.p rfl rfl (.inl rfl) (S.eqlI rfl (L 4 rfl rfl) K) ?_
                refine U.p rfl rfl (.inl rfl) (S.assign rfl (L 0 rfl rfl)) ?_
                refine U.done (Nat.le_of_ble_eq_true rfl) ?_
                refine WP.cond _ (L 0 rfl rfl) rfl (fun c77 => ?_) (fun c77 => ?_)
                · have h78 := ifT c77 h76
                  refine WP.skip ?_
                  refine sqN ?_
                  exact ⟨_, V11, rfl, ⟨true, rfl, (.refl _), ow13, h78⟩, (allCons (L 6 rfl rfl) (allCons ((L 0 rfl rfl).trans (congrArg Value.bool c77)) allNil))⟩
                · have h79 := ifF c77 h76
                  refine WP.usreg rfl ?_
                  refine U.p rfl rfl (.inl rfl) (S.eqlI rfl (L 6 rfl rfl) K) ?_
                  refine U.p rfl rfl (.inl rfl) (S.assign rfl (L 0 rfl rfl)) ?_
                  refine U.done (Nat.le_of_ble_eq_true rfl) ?_
                  refine WP.cond _ (L 0 rfl rfl) rfl (fun c80 => ?_) (fun c80 => ?_)
                  · have h81 := ifT c80 h79
                    refine WP.skip ?_
                    refine sqN ?_
                    exact ⟨_, V11, rfl, ⟨true, rfl, (.refl _), ow13, h81⟩, (allCons (L 8 rfl rfl) (allCons ((L 0 rfl rfl).trans (congrArg Value.bool c80)) allNil))⟩
                  · have h82 := ifF c80 h79
                    refine WP.usreg rfl ?_
                    refine U.p rfl rfl (.inl rfl) (S.eqlI rfl (L 8 rfl rfl) K) ?_
                    refine U.p rfl rfl (.inl rfl) (S.assign rfl (L 0 rfl rfl)) ?_
                    refine U.done (Nat.le_of_ble_eq_true rfl) ?_
                    refine WP.cond _ (L 0 rfl rfl) rfl (fun c83 => ?_) (fun c83 => ?_)
                    · have h84 := ifT c83 h82
                      refine WP.skip ?_
                      refine sqN ?_
                      exact ⟨_, V11, rfl, ⟨true, rfl, (.refl _), ow13, h84⟩, (allCons (L 10 rfl rfl) (allCons ((L 0 rfl rfl).trans (congrArg Value.bool c83)) allNil))⟩
                    · have h85 := ifF c83 h82
                      refine WP.ureg rfl ?_
                      refine U.p rfl rfl (.inl rfl) (S.eqlI rfl (L 10 rfl rfl) K) ?_
                      refine U.p rfl rfl (.inl rfl) (S.assign rfl (L 0 rfl rfl)) ?_
                      refine U.done (Nat.le_of_ble_eq_true rfl) ?_
                      refine sqN ?_
                      exact ⟨_, V11, rfl, ⟨decide (p0 = 8), rfl, (.refl _), ow13, h85⟩, (allCons (L 12 rfl rfl) (allCons (L 0 rfl rfl) allNil))⟩
      · skip
        refine WP.usreg rfl ?_
        refine U.p rfl rfl (.inl rfl) (S.eqlI rfl (L 0 rfl rfl) K) ?_
        refine U.p rfl rfl (.inl rfl) (S.assign rfl (L 0 rfl rfl)) ?_
        refine U.done (Nat.le_of_ble_eq_true rfl) ?_
        refine WP.cond _ (L 0 rfl rfl) rfl (fun c86 => ?_) (fun c86 => ?_)
        · have h87 := ifT c86 h9
          refine WP.skip ?_
          refine sqN ?_
          exact ⟨_, V2, rfl, ⟨true, rfl, (.refl _), ow4, h87⟩, (allCons (L 2 rfl rfl) (allCons ((L 0 rfl rfl).trans (congrArg Value.bool c86)) allNil))⟩
        · have h88 := ifF c86 h9
          refine WP.ureg rfl ?_
          refine U.p rfl rfl (.inl rfl) (S.eqlI rfl (L 2 rfl rfl) K) ?_
          refine U.p rfl rfl (.inl rfl) (S.assign rfl (L 0 rfl rfl)) ?_
          refine U.done (Nat.le_of_ble_eq_true rfl) ?_
          refine sqN ?_
          exact ⟨_, V2, rfl, ⟨decide (p0 = 9), rfl, (.refl _), ow4, h88⟩, (allCons (L 4 rfl rfl) (allCons (L 0 rfl rfl) allNil))⟩
  · skip
    refine WP.usreg rfl ?_
    refine U.p rfl rfl (.inl rfl) (S.eqlI rfl (L 0 rfl rfl) K) ?_
    refine U.p rfl rfl (.inl rfl) (S.assign rfl (L 0 rfl rfl)) ?_
    refine U.done (Nat.le_of_ble_eq_true rfl) ?_
    refine WP.cond _ (L 0 rfl rfl) rfl (fun c89 => ?_) (fun c89 => ?_)
    · have h90 := ifT c89 h
      refine WP.skip ?_
      refine sqN ?_
      exact ⟨_, V, rfl, ⟨true, rfl, (.refl _), ow, h90⟩, (allCons (L 2 rfl rfl) (allCons ((L 0 rfl rfl).trans (congrArg Value.bool c89)) allNil))⟩
    · have h91 := ifF c89 h
      refine WP.ureg rfl ?_
      refine U.p rfl rfl (.inl rfl) (S.eqlI rfl (L 2 rfl rfl) K) ?_
      refine U.p rfl rfl (.inl rfl) (S.assign rfl (L 0 rfl rfl)) ?_
      refine U.done (Nat.le_of_ble_eq_true rfl) ?_
      refine sqN ?_
      exact ⟨_, V, rfl, ⟨decide (p0 = 14), rfl, (.refl _), ow, h91⟩, (allCons (L 4 rfl rfl) (allCons (L 0 rfl rfl) allNil))⟩

set_option maxHeartbeats 4000000 in
theorem wk_ref08_register (V : Vw) (Rs : List At) (p0 : Bool) (p1 : Bool) (p2 : Int) (p3 : Int) (ow : Ow V (Rs)) (r : Bool) (h : ref08_register p0 p1 p2 p3 = some r) : ∃ v V', Cl Try.prog 0 25 #[.bool p0, .bool p1, .int .i64 p2, .int .i64 p3] V.H v V'.H ∧ V.le V' ∧ (v = .bool r ∧ Ow V' (Rs)) := by
  refine Ct.of (Nat.zero_le _) Try.func25 rfl (Nat.le_of_ble_eq_true rfl) ?_
  unfold ref08_register at h
  refine WP.usreg rfl ?_
  refine U.p rfl rfl (.inl rfl) (S.assign rfl K) ?_
  refine U.done (Nat.le_of_ble_eq_true rfl) ?_
  refine WP.seq ?_
  refine WP.usreg rfl ?_
  refine U.p rfl rfl (.inl rfl) (S.move rfl (L 1 rfl rfl)) ?_
  refine U.p rfl rfl (.inl rfl) (S.not rfl (L 0 rfl rfl)) ?_
  refine U.done (Nat.le_of_ble_eq_true rfl) ?_
  refine WP.cond _ (L 0 rfl rfl) rfl (fun c1 => ?_) (fun c1 => ?_)
  · have h2 := ifT c1 h
    have k3 : p0 = false := by simpa using c1
    refine WP.usreg rfl ?_
    refine U.p rfl rfl (.inl rfl) (S.move rfl (L 5 rfl rfl)) ?_
    refine U.p rfl rfl (.inl rfl) (S.eqlI rfl (L 0 rfl rfl) K) ?_
    refine U.p rfl rfl (.inl rfl) (S.assign rfl (L 0 rfl rfl)) ?_
    refine U.done (Nat.le_of_ble_eq_true rfl) ?_
    refine WP.ret ?_
    refine sqR ?_
    refine fin.slot (.inr rfl) rfl (L 0 rfl rfl) ⟨V, rfl, (.refl _), ?_⟩
    have e4 := Option.some.inj h2
    subst e4
    exact ⟨rfl, ow⟩
  · have h5 := ifF c1 h
    have k6 : p0 = true := by simpa using c1
    refine WP.skip ?_
    refine sqN ?_
    refine WP.usreg rfl ?_
    refine U.p rfl rfl (.inl rfl) (S.move rfl (L 5 rfl rfl)) ?_
    refine U.p rfl rfl (.inl rfl) (S.geq rfl (L 0 rfl rfl) K) ?_
    refine U.p rfl rfl (.inl rfl) (S.move rfl (L 0 rfl rfl)) ?_
    refine U.joinX 7 (fun e H => ∃ (u7 u8 u9 : Value), H = V.H ∧ e = [(19, .bool ((decide (0 ≤ p2)) && (decide (p2 < p3)))), (18, u7), (17, u8), (16, u9)]) ?_ ?_
    · rintro _ _ ⟨u7, u8, u9, rfl, rfl⟩
      refine U.p rfl rfl (.inl rfl) (S.move rfl (L 0 rfl rfl)) ?_
      refine U.joinX 14 (fun e H => ∃ (u13 u14 u15 u16 u17 : Value), H = V.H ∧ e = [(26, .bool (((decide (0 ≤ p2)) && (decide (p2 < p3))) || (p1 && (decide (p2 = (-1)))))), (25, u13), (24, u14), (23, u15), (22, u16), (21, u17)]) ?_ ?_
      · rintro _ _ ⟨u13, u14, u15, u16, u17, rfl, rfl⟩
        refine U.p rfl rfl (.inl rfl) (S.assign rfl (L 0 rfl rfl)) ?_
        refine U.done (Nat.le_of_ble_eq_true rfl) ?_
        refine WP.ret ?_
        refine fin.slot (.inr rfl) rfl (L 0 rfl rfl) ⟨V, rfl, (.refl _), ?_⟩
        have e21 := Option.some.inj h5
        subst e21
        exact ⟨rfl, ow⟩
      · intro kk
        refine bcase (b := (decide (0 ≤ p2)) && (decide (p2 < p3))) (fun g22 => ?_) (fun g22 => ?_)
        · skip
          refine U.x rfl rfl rfl rfl ((L 0 rfl rfl).trans (congrArg Value.bool g22)) (by decide) ?_
          refine U.x rfl rfl rfl rfl ((L 1 rfl rfl).trans (congrArg Value.bool g22)) (by decide) ?_
          refine U.z rfl rfl rfl rfl (L 0 rfl rfl) ?_
          refine U.z rfl rfl rfl rfl (L 1 rfl rfl) ?_
          refine U.x rfl rfl rfl rfl ((L 4 rfl rfl).trans (congrArg Value.bool g22)) (by decide) ?_
          refine U.p rfl rfl (.inl rfl) (S.pickT rfl ((L 5 rfl rfl).trans (congrArg Value.bool g22)) K) ?_
          exact kk [(26, .bool true), (25, .tuple #[]), (24, .tuple #[]), (23, .tuple #[]), (22, .tuple #[]), (21, .tuple #[])] _ ⟨.tuple #[], .tuple #[], .tuple #[], .tuple #[], .tuple #[], rfl, (by rw [g22, Bool.true_or])⟩
        · skip
          refine U.p rfl rfl (.inr ⟨_, _, _, rfl, rfl, ((L 0 rfl rfl).trans (congrArg Value.bool g22))⟩) (S.move rfl (L 12 rfl rfl)) ?_
          refine U.p rfl rfl (.inr ⟨_, _, _, rfl, rfl, ((L 1 rfl rfl).trans (congrArg Value.bool g22))⟩) (S.move rfl (L 0 rfl rfl)) ?_
          refine U.joinX 13 (fun e H => ∃ (u23 u24 : Value), H = V.H ∧ e = [(25, .bool (p1 && (decide (p2 = (-1))))), (24, u23), (23, u24)]) ?_ ?_
          · rintro _ _ ⟨u23, u24, rfl, rfl⟩
            refine U.p rfl rfl (.inl rfl) (S.pickF rfl ((L 5 rfl rfl).trans (congrArg Value.bool g22)) (L 0 rfl rfl)) ?_
            exact kk [(26, .bool (p1 && (decide (p2 = (-1))))), (25, .bool (p1 && (decide (p2 = (-1))))), (24, u23), (23, u24), (22, .bool p1), (21, .bool p1)] _ ⟨.bool (p1 && (decide (p2 = (-1)))), u23, u24, .bool p1, .bool p1, rfl, (by rw [g22, Bool.false_or])⟩
          · intro kk
            refine bcase (b := p1) (fun g28 => ?_) (fun g28 => ?_)
            · skip
              refine U.p rfl rfl (.inr ⟨_, _, _, rfl, rfl, ((L 0 rfl rfl).trans (congrArg Value.bool g28))⟩) (S.move rfl (L 15 rfl rfl)) ?_
              refine U.p rfl rfl (.inr ⟨_, _, _, rfl, rfl, ((L 1 rfl rfl).trans (congrArg Value.bool g28))⟩) (S.eqlI rfl (L 0 rfl rfl) K) ?_
              refine U.p rfl rfl (.inr ⟨_, _, _, rfl, rfl, ((L 4 rfl rfl).trans (congrArg Value.bool g22))⟩) (S.pickT rfl ((L 2 rfl rfl).trans (congrArg Value.bool g28)) (L 0 rfl rfl)) ?_
              exact kk [(25, .bool (decide (p2 = (-1)))), (24, .bool (decide (p2 = (-1)))), (23, .int .i64 p2)] _ ⟨.bool (decide (p2 = (-1))), .int .i64 p2, rfl, (by rw [g28, Bool.true_and])⟩
            · skip
              refine U.x rfl rfl rfl rfl ((L 0 rfl rfl).trans (congrArg Value.bool g28)) (by decide) ?_
              refine U.x rfl rfl rfl rfl ((L 1 rfl rfl).trans (congrArg Value.bool g28)) (by decide) ?_
              refine U.p rfl rfl (.inr ⟨_, _, _, rfl, rfl, ((L 4 rfl rfl).trans (congrArg Value.bool g22))⟩) (S.pickF rfl ((L 2 rfl rfl).trans (congrArg Value.bool g28)) K) ?_
              exact kk [(25, .bool false), (24, .tuple #[]), (23, .tuple #[])] _ ⟨.tuple #[], .tuple #[], rfl, (by rw [g28, Bool.false_and])⟩
    · intro kk
      refine bcase (b := decide (0 ≤ p2)) (fun g29 => ?_) (fun g29 => ?_)
      · skip
        refine U.p rfl rfl (.inr ⟨_, _, _, rfl, rfl, ((L 0 rfl rfl).trans (congrArg Value.bool g29))⟩) (S.move rfl (L 8 rfl rfl)) ?_
        refine U.p rfl rfl (.inr ⟨_, _, _, rfl, rfl, ((L 1 rfl rfl).trans (congrArg Value.bool g29))⟩) (S.move rfl (L 10 rfl rfl)) ?_
        refine U.p rfl rfl (.inr ⟨_, _, _, rfl, rfl, ((L 2 rfl rfl).trans (congrArg Value.bool g29))⟩) (S.lss rfl (L 1 rfl rfl) (L 0 rfl rfl)) ?_
        refine U.p rfl rfl (.inl rfl) (S.pickT rfl ((L 3 rfl rfl).trans (congrArg Value.bool g29)) (L 0 rfl rfl)) ?_
        exact kk [(19, .bool (decide (p2 < p3))), (18, .bool (decide (p2 < p3))), (17, .int .i64 p3), (16, .int .i64 p2)] _ ⟨.bool (decide (p2 < p3)), .int .i64 p3, .int .i64 p2, rfl, (by rw [g29, Bool.true_and])⟩
      · skip
        refine U.x rfl rfl rfl rfl ((L 0 rfl rfl).trans (congrArg Value.bool g29)) (by decide) ?_
        refine U.x rfl rfl rfl rfl ((L 1 rfl rfl).trans (congrArg Value.bool g29)) (by decide) ?_
        refine U.x rfl rfl rfl rfl ((L 2 rfl rfl).trans (congrArg Value.bool g29)) (by decide) ?_
        refine U.p rfl rfl (.inl rfl) (S.pickF rfl ((L 3 rfl rfl).trans (congrArg Value.bool g29)) K) ?_
        exact kk [(19, .bool false), (18, .tuple #[]), (17, .tuple #[]), (16, .tuple #[])] _ ⟨.tuple #[], .tuple #[], .tuple #[], rfl, (by rw [g29, Bool.false_and])⟩

set_option maxHeartbeats 4000000 in
theorem wk_ref08_count (V : Vw) (Rs : List At) (p0 : TFunc) (p1 : Int) (v1 : Value) (f2 : Fz RT_TIns V v1 p0.code) (ow : Ow V (Rs)) (r : Int) (h : ref08_count p0 p1 = some r) : ∃ v V', Cl Try.prog 0 17 #[.agg #[.string p0.name, .int .i64 p0.params, .int .i64 p0.regs, v1], .int .i64 p1] V.H v V'.H ∧ V.le V' ∧ (v = .int .i64 r ∧ Ow V' (Rs)) := by
  refine Ct.of (Nat.zero_le _) Try.func17 rfl (Nat.le_of_ble_eq_true rfl) ?_
  unfold ref08_count at h
  refine WP.usreg rfl ?_
  refine O.box ow rfl rfl (.inl rfl) rfl (L 0 rfl rfl) (by simp [topV]) rfl nd (fun b3 V4 le5 ow6 => ?_)
  refine U.p rfl rfl (.inl rfl) (S.assign rfl K) ?_
  refine U.done (Nat.le_of_ble_eq_true rfl) ?_
  refine WP.usreg rfl ?_
  refine U.p rfl rfl (.inl rfl) (S.assign rfl K) ?_
  refine U.done (Nat.le_of_ble_eq_true rfl) ?_
  refine WP.seq ?_
  refine WP.usreg rfl ?_
  refine U.p (v := .pointer (some ⟨b3, 3, none⟩)) rfl rfl (.inl rfl) (S.fieldAddr rfl (L 2 rfl rfl) Try.underlying33 rfl ti31 rfl rfl) ?_
  refine U.k rfl rfl (.inl rfl) (S.load rfl (L 0 rfl rfl) Try.underlying31 rfl ((ow6.own (k := 0) rfl).cell rfl)) nd ?_
  refine U.p rfl rfl (.inl rfl) (f2.1.len rfl (L 0 rfl rfl) Try.underlying31) ?_
  refine U.p rfl rfl (.inl rfl) (S.move rfl K) ?_
  refine U.done (Nat.le_of_ble_eq_true rfl) ?_
  refine WP.blk ?_
  have ow10 := ow6.drop 0 rfl
  unfold ref08_count_l1 at h
  obtain ⟨n12, hn11⟩ := loopO_some.1 h
  refine WP.loopI2 (fun n l V' => ∃ (x8 : Int) (x9 : Int), l = [(1, .int .i64 p1), (5, .int .i64 x8), (9, v1), (10, .int .i64 (p0.code.length : Int)), (11, .int .i64 x9)] ∧ V4.le V' ∧ Ow V' (Rs) ∧ itO (fun s => ref08_count_l1b p0 p1 s.1 s.2) n (x8, x9) = some r) n12 _ ⟨0, 0, rfl, .refl _, ow10, hn11⟩ (allCons (L 8 rfl rfl) (allCons (L 4 rfl rfl) (allCons (L 2 rfl rfl) (allCons (L 1 rfl rfl) (allCons (L 0 rfl rfl) allNil))))) ?_
  rintro _ _ V13 ⟨x8, x9, rfl, le14, ow15, h19⟩
  obtain ⟨m16, q17, rfl, h20, e18⟩ := itS h19
  replace h20 : ref08_count_l1b p0 p1 x8 x9 = some q17 := h20
  unfold ref08_count_l1b at h20
  refine WP.usreg rfl ?_
  refine U.p rfl rfl (.inl rfl) (S.lss rfl (L 4 rfl rfl) (L 3 rfl rfl)) ?_
  refine U.done (Nat.le_of_ble_eq_true rfl) ?_
  refine WP.seq ?_
  refine WP.cond _ (L 0 rfl rfl) rfl (fun c21 => ?_) (fun c21 => ?_)
  · have h22 := ifT c21 h20
    refine WP.skip ?_
    refine sqN ?_
    refine WP.seqI (fun l V' => ∃ (x23 : Int), l = [(1, .int .i64 p1), (5, .int .i64 x23), (9, v1), (10, .int .i64 (p0.code.length : Int)), (11, .int .i64 x9)] ∧ V13.le V' ∧ Ow V' (Rs) ∧ ref08_count_k1 x9 x23 = some q17) ?_ ?_
    · rintro _ V24 ⟨x23, rfl, le25, ow26, h27⟩
      unfold ref08_count_k1 at h27
      refine WP.ureg rfl ?_
      refine U.p rfl rfl (.inl rfl) (S.add rfl (L 4 rfl rfl) K) ?_
      refine U.p rfl rfl (.inl rfl) (S.move rfl (L 0 rfl rfl)) ?_
      refine U.done (Nat.le_of_ble_eq_true rfl) ?_
      refine sqN ?_
      exact ⟨_, V24, rfl, ⟨m16, Nat.lt_succ_self _, x23, w64 (x9 + 1), rfl, (le14.trans le25), ow26, backS h27 e18⟩, (allCons (L 2 rfl rfl) (allCons (L 3 rfl rfl) (allCons (L 4 rfl rfl) (allCons (L 5 rfl rfl) (allCons (L 0 rfl rfl) allNil)))))⟩
    · skip
      refine WP.blk ?_
      refine WP.usreg rfl ?_
      obtain ⟨x28, hx29, h30⟩ := bindS h22
      obtain ⟨b31, o32, c33, cs34, hv35, hf36, hr37, hc38⟩ := f2.at hx29
      obtain ⟨v39, rfl, f40⟩ := hr37
      refine U.p rfl rfl (.inl rfl) (S.index rfl ((L 3 rfl rfl).trans hv35) (L 5 rfl rfl) Try.underlying31 ti42 (ix_ge hx29) (ix_lt hx29)) ?_
      refine U.k rfl rfl (.inl rfl) (S.loadN (cs := [.int .i64 x28.op, .int .i64 x28.d, .int .i64 x28.a, .int .i64 x28.b, .int .i64 x28.imm, v39, .int .i64 x28.what, .bool x28.volatile, .bool x28.final]) rfl (L 0 rfl rfl) Try.underlying42 rfl ti42 rfl (fun j v hj => (le5.trans le14).cell hf36 (hc38 j v hj))) nd ?_
      refine O.alloc ow15 rfl rfl (.inl rfl) rfl ti42 rfl rfl nd (fun b41 V42 le43 ow44 => ?_)
      refine O.store (k := 0) (cs := [.int .i64 x28.op, .int .i64 x28.d, .int .i64 x28.a, .int .i64 x28.b, .int .i64 x28.imm, v39, .int .i64 x28.what, .bool x28.volatile, .bool x28.final]) (c' := [.int .i64 x28.op, .int .i64 x28.d, .int .i64 x28.a, .int .i64 x28.b, .int .i64 x28.imm, v39, .int .i64 x28.what, .bool x28.volatile, .bool x28.final]) ow44 rfl rfl rfl (.inl rfl) rfl (L 0 rfl rfl) (L 1 rfl rfl) ti42 (by simp [topV]) rfl rfl (Nat.le_of_ble_eq_true rfl) (by have q0 := f40.one; simp only [List.all_cons, List.all_nil, q0]; rfl) rfl nd (fun V46 le47 ow48 => ?_)
      refine U.done (Nat.le_of_ble_eq_true rfl) ?_
      refine WP.usreg rfl ?_
      refine U.p (v := .pointer (some ⟨b41, 0, none⟩)) rfl rfl (.inl rfl) (S.fieldAddr rfl (L 0 rfl rfl) Try.underlying42 rfl ti3 rfl rfl) ?_
      refine U.k rfl rfl (.inl rfl) (S.load rfl (L 0 rfl rfl) Try.underlying3 rfl ((ow48.own (k := 0) rfl).cell rfl)) nd ?_
      refine U.p rfl rfl (.inl rfl) (S.eqlI rfl (L 0 rfl rfl) K) ?_
      refine U.p rfl rfl (.inl rfl) (S.move rfl (L 0 rfl rfl)) ?_
      refine U.joinX 9 (fun e H => ∃ (u49 u50 u51 u52 : Value), H = V46.H ∧ e = [(23, .bool ((decide (x28.op = 11)) && (decide (x28.imm = p1)))), (22, u49), (21, u50), (20, u51), (19, u52)]) ?_ ?_
      · rintro _ _ ⟨u49, u50, u51, u52, rfl, rfl⟩
        refine U.done (Nat.le_of_ble_eq_true rfl) ?_
        refine WP.cond _ (L 0 rfl rfl) rfl (fun c56 => ?_) (fun c56 => ?_)
        · have h57 := ifT c56 h30
          refine WP.ureg rfl ?_
          refine U.p rfl rfl (.inl rfl) (S.move rfl (L 14 rfl rfl)) ?_
          refine U.p rfl rfl (.inl rfl) (S.add rfl (L 0 rfl rfl) K) ?_
          refine U.p rfl rfl (.inl rfl) (S.assign rfl (L 0 rfl rfl)) ?_
          refine U.done (Nat.le_of_ble_eq_true rfl) ?_
          refine blkN (sqN ?_)
          have ow58 := ow48.drop 0 rfl
          exact ⟨_, V46, rfl, ⟨w64 (x8 + 1), rfl, (le43.trans le47), ow58, h57⟩, (allCons (L 16 rfl rfl) (allCons (L 0 rfl rfl) (allCons (L 18 rfl rfl) (allCons (L 19 rfl rfl) (allCons (L 20 rfl rfl) allNil)))))⟩
        · have h59 := ifF c56 h30
          refine WP.skip ?_
          refine blkN (sqN ?_)
          have ow60 := ow48.drop 0 rfl
          exact ⟨_, V46, rfl, ⟨x8, rfl, (le43.trans le47), ow60, h59⟩, (allCons (L 13 rfl rfl) (allCons (L 14 rfl rfl) (allCons (L 15 rfl rfl) (allCons (L 16 rfl rfl) (allCons (L 17 rfl rfl) allNil)))))⟩
      · intro kk
        refine bcase (b := decide (x28.op = 11)) (fun g61 => ?_) (fun g61 => ?_)
        · skip
          refine U.p (v := .pointer (some ⟨b41, 4, none⟩)) rfl rfl (.inr ⟨_, _, _, rfl, rfl, ((L 0 rfl rfl).trans (congrArg Value.bool g61))⟩) (S.fieldAddr rfl (L 4 rfl rfl) Try.underlying42 rfl ti3 rfl rfl) ?_
          refine U.k rfl rfl (.inr ⟨_, _, _, rfl, rfl, ((L 1 rfl rfl).trans (congrArg Value.bool g61))⟩) (S.load rfl (L 0 rfl rfl) Try.underlying3 rfl ((ow48.own (k := 0) rfl).cell rfl)) nd ?_
          refine U.p rfl rfl (.inr ⟨_, _, _, rfl, rfl, ((L 2 rfl rfl).trans (congrArg Value.bool g61))⟩) (S.move rfl (L 10 rfl rfl)) ?_
          refine U.p rfl rfl (.inr ⟨_, _, _, rfl, rfl, ((L 3 rfl rfl).trans (congrArg Value.bool g61))⟩) (S.eqlI rfl (L 1 rfl rfl) (L 0 rfl rfl)) ?_
          refine U.p rfl rfl (.inl rfl) (S.pickT rfl ((L 4 rfl rfl).trans (congrArg Value.bool g61)) (L 0 rfl rfl)) ?_
          exact kk [(23, .bool (decide (x28.imm = p1))), (22, .bool (decide (x28.imm = p1))), (21, .int .i64 p1), (20, .int .i64 x28.imm), (19, .pointer (some ⟨b41, 4, none⟩))] _ ⟨.bool (decide (x28.imm = p1)), .int .i64 p1, .int .i64 x28.imm, .pointer (some ⟨b41, 4, none⟩), rfl, (by rw [g61, Bool.true_and])⟩
        · skip
          refine U.x rfl rfl rfl rfl ((L 0 rfl rfl).trans (congrArg Value.bool g61)) (by decide) ?_
          refine U.x rfl rfl rfl rfl ((L 1 rfl rfl).trans (congrArg Value.bool g61)) (by decide) ?_
          refine U.x rfl rfl rfl rfl ((L 2 rfl rfl).trans (congrArg Value.bool g61)) (by decide) ?_
          refine U.x rfl rfl rfl rfl ((L 3 rfl rfl).trans (congrArg Value.bool g61)) (by decide) ?_
          refine U.p rfl rfl (.inl rfl) (S.pickF rfl ((L 4 rfl rfl).trans (congrArg Value.bool g61)) K) ?_
          exact kk [(23, .bool false), (22, .tuple #[]), (21, .tuple #[]), (20, .tuple #[]), (19, .tuple #[])] _ ⟨.tuple #[], .tuple #[], .tuple #[], .tuple #[], rfl, (by rw [g61, Bool.false_and])⟩
  · have h62 := ifF c21 h20
    refine WP.exit ?_
    refine sqE (sqE (blkE (sqN ?_)))
    have h63 := exitS h62 e18
    refine WP.usreg rfl ?_
    refine U.p rfl rfl (.inl rfl) (S.move rfl (L 2 rfl rfl)) ?_
    refine U.p rfl rfl (.inl rfl) (S.assign rfl (L 0 rfl rfl)) ?_
    refine U.done (Nat.le_of_ble_eq_true rfl) ?_
    refine WP.ret ?_
    refine fin.slot (.inr rfl) rfl (L 0 rfl rfl) ⟨V13, rfl, (le5.trans le14), ?_⟩
    have e64 := Option.some.inj h63
    subst e64
    exact ⟨rfl, ow15⟩

end Go.Vm.G12
